/- Contracts of the functions that the law reaches, part 7. -/
import Derived.Test.YthpjpngfghcmcaaRn6
set_option linter.unusedVariables false
set_option linter.unusedSimpArgs false
namespace Go.Proofs.Ythpjpngfghcmcaa
open Go.RowKit Lx Sx
set_option maxRecDepth 100000
set_option maxHeartbeats 4000000
theorem tree_len {t : Tree} (h : leadedT t = true) (s : WS) : (treeP t s).2.length ≤ s.2.length + 100 * tbulk t ∧ (treeP t s).1.length ≤ s.1.length + 100 * tbulk t := Gw.tree _ t (Nat.le_refl _) h s
theorem list_len {ls : List (List UInt8)} {c : Nat} (hc : 1 ≤ c) {ks : List Tree} (h : ∀ t, t ∈ ks → ∀ s, Gw (100 * tbulk t) s (treeP t s)) (s : WS) : (listP ls c (treesP ks) 0 s).2.length ≤ s.2.length + (lsum ls + 2 * ks.length + 100 * kbulk ks) ∧ (listP ls c (treesP ks) 0 s).1.length ≤ s.1.length + (lsum ls + 2 * ks.length + 100 * kbulk ks) := by
  have h1 := Gw.list (ls := ls) hc ks 0 h s
  have h2 := lsum_drop ls (c + 0 - 1)
  exact ⟨by have := h1.1; omega, by have := h1.2; omega⟩
theorem t17 {N : Nat} (ih : TreeOk N) {w : World} {Bs b : Nat} {s : WS} {x : List UInt8} {k0 : Tree} {cs : List Value} {A B : Option Addr} {m n : Nat} (hks : ∀ t, t ∈ [k0] → tsize t ≤ N ∧ shapedT t = true ∧ leadedT t = true)
    (hl1 : s.2.length + 100 * (x.length + lsum ([] : List (List UInt8)) + kbulk [k0] + 1) ≤ 1000000000000) (hl2 : s.1.length + 100 * (x.length + lsum ([] : List (List UInt8)) + kbulk [k0] + 1) ≤ 1000000000000) (hP : Pr Bs b s.1 s.2 w) (hL : RowIn (fun b => b < Bs) w 1 A ([] : List (List UInt8)).length (([] : List (List UInt8)).map strV)) (hn : [k0].length ≤ n) (hn2 : n ≤ maxLen) (hK : KidsAre (fun b => b < Bs) w [k0] cs) (hR : RowIn (fun b => b < Bs) w 4 B [k0].length cs) (hBw : Bs ≤ w.heap.size) :
    Calls Try.prog 61 [.pointer (some ⟨b, 0, none⟩), .agg #[.int .i64 17, strV x, .slice A ([] : List (List UInt8)).length m, .slice B [k0].length n]].toArray w fun e w' => e = .returned (.tuple #[]) ∧ Pr Bs b (treeP (.node 17 x ([] : List (List UInt8)) [k0]) s).1 (treeP (.node 17 x ([] : List (List UInt8)) [k0]) s).2 w' ∧ Prn Bs b w w' := by
  simp only [lsum, kbulk] at hl1 hl2
  have hE := Prn.refl (b := b) hBw
  have hG : s.2.length ≤ s.2.length := Nat.le_refl _
  have hG' : s.1.length ≤ s.1.length := Nat.le_refl _
  obtain ⟨kb, ko, rfl, _, hkb, _⟩ := hR.2 (by simp)
  refine enter_fr 216 Try.func61 rfl rfl rfl ?_
  intro a hf
  refine wS fun K1 hK1 => wR ?_
  obtain ⟨w2, b3, he, hB4, hx5, eb6, lb7⟩ := ef_box (P := Try.prog) (t := 26) (x := (.tmp 1)) hf rfl rfl w 0
  refine sV hf rfl he fun a hf => ?_
  have ge_b3 := Prn.ge_new hE eb6
  have ne_b_b3 : b ≠ b3 := ne_new hP.lt eb6
  replace hP := hP.chg0 hx5
  replace hE := hE.t0 hx5
  clear eb6 lb7
  refine sN <| hK1 _ _ <| wS fun K8 hK8 => wR <| sV hf rfl (ex_fa (k := 0) (r := 0) hf rfl (by kernel_rfl) rfl) fun a hf => sV hf rfl (ex_loadB hf rfl (by kernel_rfl) hB4 rfl) fun a hf => sN <| hK8 _ _ <| wp_block <| wS fun K9 hK9 => wS fun K10 hK10 => wR <| sV hf rfl (ex_eqI (c := false) hf rfl rfl (by decide)) fun a hf => sA hf rfl rfl fun a hf => sN <| hK10 _ _ <| cF hf rfl <| wS fun K11 hK11 => wR <| sV hf rfl (ex_eqI (c := false) hf rfl rfl (by decide)) fun a hf => sA hf rfl rfl fun a hf => sN <| hK11 _ _ <| cF hf rfl <| wS fun K12 hK12 => wR <| sV hf rfl (ex_eqI (c := false) hf rfl rfl (by decide)) fun a hf => sA hf rfl rfl fun a hf => sN <| hK12 _ _ <| cF hf rfl <| wR <| sV hf rfl (ex_eqI (c := false) hf rfl rfl (by decide)) fun a hf => sA hf rfl rfl fun a hf => sN <| hK9 _ _ <| cF hf rfl <| wS fun K13 hK13 => wR <| sV hf rfl (ex_eqI (c := true) hf rfl rfl (by decide)) fun a hf => sA hf rfl rfl fun a hf => sN <| hK13 _ _ <| cT hf rfl <| wR <| sM hf rfl rfl fun a hf => sV hf rfl (ex_fa (k := 3) (r := 3) hf rfl (by kernel_rfl) rfl) fun a hf => sV hf rfl (ex_loadB hf rfl (by kernel_rfl) hB4 rfl) fun a hf => sV hf rfl (ex_index (sz := 4) (k := 0) (r := ko) hf Try.underlying24 (by kernel_rfl) rfl rfl rfl (by simp) rfl) fun a hf => ?_
  obtain ⟨d0, d1, d2, d3, hT, hK4⟩ := kid_now hK hR hE (i := 0) (t := k0) rfl
  have on_T := hT.one
  refine sV hf rfl (ex_loadN (cs := [d0, d1, d2, d3]) (m := 4) hf rfl (by kernel_rfl) rfl hK4) fun a hf => st_c hf rfl rfl rfl (by kernel_rfl) (ih k0 _ Bs b s d0 d1 d2 d3 (hks _ (by simp)).1 (hks _ (by simp)).2.1 (hks _ (by simp)).2.2 (by (try simp only [putP, List.length_append, List.length_cons, List.length_nil]); omega) (by (try simp only [putP, List.length_append, List.length_cons, List.length_nil]); omega) hP hT hE.now) ?_
  rintro _ w16 ⟨rfl, hPn, hEn⟩
  refine ⟨_, rfl, fun a hf => ?_⟩
  have hx15 := hEn.chg
  replace hB4 := hB4.chg hx15 (nm_blk hB4 rfl (Ne.symm ne_b_b3))
  replace hE := hE.trans hx15 (fun _ h => .inl h)
  obtain ⟨s14, es14⟩ : ∃ z, z = treeP k0 s := ⟨_, rfl⟩
  replace hPn : Pr Bs b (treeP k0 s).1 (treeP k0 s).2 w16 := hPn
  rw [← es14] at hPn
  have gs14 := tree_len (t := k0) (hks _ (by simp)).2.2 s
  rw [← es14] at gs14
  obtain ⟨gs14, gs14'⟩ := gs14
  (try simp only [List.length_cons, List.length_nil, lsum] at gs14 gs14')
  replace hG := nlt gs14 (Nat.add_le_add_right hG _)
  replace hG' := nlt gs14' (Nat.add_le_add_right hG' _)
  clear gs14 gs14'
  clear hP; have hP := hPn; clear hPn hEn
  refine sN ?_
  have eq : treeP (.node 17 x ([] : List (List UInt8)) [k0]) s = s14 := by subst es14; rfl
  rw [eq]
  try simp only [Exit.then, Exit.inBlock]
  exact end_of (rs := []) hf rfl rfl ⟨rfl, hP, hE⟩
theorem t8 {N : Nat} (ih : TreeOk N) {w : World} {Bs b : Nat} {s : WS} {x : List UInt8} {l0 l1 : List UInt8} {k0 : Tree} {cs : List Value} {A B : Option Addr} {m n : Nat} (hks : ∀ t, t ∈ [k0] → tsize t ≤ N ∧ shapedT t = true ∧ leadedT t = true)
    (hl1 : s.2.length + 100 * (x.length + lsum [l0, l1] + kbulk [k0] + 1) ≤ 1000000000000) (hl2 : s.1.length + 100 * (x.length + lsum [l0, l1] + kbulk [k0] + 1) ≤ 1000000000000) (hP : Pr Bs b s.1 s.2 w) (hL : RowIn (fun b => b < Bs) w 1 A [l0, l1].length ([l0, l1].map strV)) (hn : [k0].length ≤ n) (hn2 : n ≤ maxLen) (hK : KidsAre (fun b => b < Bs) w [k0] cs) (hR : RowIn (fun b => b < Bs) w 4 B [k0].length cs) (hBw : Bs ≤ w.heap.size) :
    Calls Try.prog 61 [.pointer (some ⟨b, 0, none⟩), .agg #[.int .i64 8, strV x, .slice A [l0, l1].length m, .slice B [k0].length n]].toArray w fun e w' => e = .returned (.tuple #[]) ∧ Pr Bs b (treeP (.node 8 x [l0, l1] [k0]) s).1 (treeP (.node 8 x [l0, l1] [k0]) s).2 w' ∧ Prn Bs b w w' := by
  simp only [lsum, kbulk] at hl1 hl2
  have hE := Prn.refl (b := b) hBw
  have hG : s.2.length ≤ s.2.length := Nat.le_refl _
  have hG' : s.1.length ≤ s.1.length := Nat.le_refl _
  obtain ⟨lb, lo, rfl, _, hlb, _⟩ := hL.2 (by simp)
  obtain ⟨kb, ko, rfl, _, hkb, _⟩ := hR.2 (by simp)
  refine enter_fr 216 Try.func61 rfl rfl rfl ?_
  intro a hf
  refine wS fun K1 hK1 => wR ?_
  obtain ⟨w2, b3, he, hB4, hx5, eb6, lb7⟩ := ef_box (P := Try.prog) (t := 26) (x := (.tmp 1)) hf rfl rfl w 0
  refine sV hf rfl he fun a hf => ?_
  have ge_b3 := Prn.ge_new hE eb6
  have ne_b_b3 : b ≠ b3 := ne_new hP.lt eb6
  replace hP := hP.chg0 hx5
  replace hE := hE.t0 hx5
  clear eb6 lb7
  refine sN <| hK1 _ _ <| wS fun K8 hK8 => wR <| sV hf rfl (ex_fa (k := 0) (r := 0) hf rfl (by kernel_rfl) rfl) fun a hf => sV hf rfl (ex_loadB hf rfl (by kernel_rfl) hB4 rfl) fun a hf => sN <| hK8 _ _ <| wp_block <| wS fun K9 hK9 => wS fun K10 hK10 => wR <| sV hf rfl (ex_eqI (c := false) hf rfl rfl (by decide)) fun a hf => sA hf rfl rfl fun a hf => sN <| hK10 _ _ <| cF hf rfl <| wS fun K11 hK11 => wR <| sV hf rfl (ex_eqI (c := false) hf rfl rfl (by decide)) fun a hf => sA hf rfl rfl fun a hf => sN <| hK11 _ _ <| cF hf rfl <| wS fun K12 hK12 => wR <| sV hf rfl (ex_eqI (c := false) hf rfl rfl (by decide)) fun a hf => sA hf rfl rfl fun a hf => sN <| hK12 _ _ <| cF hf rfl <| wR <| sV hf rfl (ex_eqI (c := false) hf rfl rfl (by decide)) fun a hf => sA hf rfl rfl fun a hf => sN <| hK9 _ _ <| cF hf rfl <| wS fun K13 hK13 => wR <| sV hf rfl (ex_eqI (c := false) hf rfl rfl (by decide)) fun a hf => sA hf rfl rfl fun a hf => sN <| hK13 _ _ <| cF hf rfl <| wS fun K14 hK14 => wR <| sV hf rfl (ex_eqI (c := true) hf rfl rfl (by decide)) fun a hf => sA hf rfl rfl fun a hf => sN <| hK14 _ _ <| cT hf rfl <| wS fun K15 hK15 => wR <| sM hf rfl rfl fun a hf => sV hf rfl (ex_fa (k := 2) (r := 2) hf rfl (by kernel_rfl) rfl) fun a hf => sV hf rfl (ex_loadB hf rfl (by kernel_rfl) hB4 rfl) fun a hf => sV hf rfl (ex_index (sz := 1) (k := 0) (r := lo) hf Try.underlying23 (by kernel_rfl) rfl rfl rfl (by simp) rfl) fun a hf => sV hf rfl (ex_load hf rfl (by kernel_rfl) (lead_now hL hE (j := 0) rfl)) fun a hf => st_c hf rfl rfl rfl (by kernel_rfl) (putL (lead := l0) (tok := [91]) hP (by (try simp only [putP, List.length_append, List.length_cons, List.length_nil]); omega) (by (try simp only [putP, List.length_append, List.length_cons, List.length_nil]); omega) hE.now) ?_
  rintro _ w18 ⟨rfl, hPn, hEn⟩
  refine ⟨_, rfl, fun a hf => ?_⟩
  have hx17 := hEn.chg
  replace hB4 := hB4.chg hx17 (nm_blk hB4 rfl (Ne.symm ne_b_b3))
  replace hE := hE.trans hx17 (fun _ h => .inl h)
  obtain ⟨s16, es16⟩ : ∃ z, z = putP l0 [91] s := ⟨_, rfl⟩
  replace hPn : Pr Bs b (putP l0 [91] s).1 (putP l0 [91] s).2 w18 := hPn
  rw [← es16] at hPn
  have gs16 := put_len l0 [91] s
  rw [← es16] at gs16
  obtain ⟨gs16, gs16'⟩ := gs16
  (try simp only [List.length_cons, List.length_nil, lsum] at gs16 gs16')
  replace hG := nlt gs16 (Nat.add_le_add_right hG _)
  replace hG' := nlt gs16' (Nat.add_le_add_right hG' _)
  clear gs16 gs16'
  clear hP; have hP := hPn; clear hPn hEn
  refine sN <| hK15 _ _ <| wS fun K19 hK19 => wR <| sM hf rfl rfl fun a hf => sV hf rfl (ex_fa (k := 3) (r := 3) hf rfl (by kernel_rfl) rfl) fun a hf => sV hf rfl (ex_loadB hf rfl (by kernel_rfl) hB4 rfl) fun a hf => sV hf rfl (ex_index (sz := 4) (k := 0) (r := ko) hf Try.underlying24 (by kernel_rfl) rfl rfl rfl (by simp) rfl) fun a hf => ?_
  obtain ⟨d0, d1, d2, d3, hT, hK4⟩ := kid_now hK hR hE (i := 0) (t := k0) rfl
  have on_T := hT.one
  refine sV hf rfl (ex_loadN (cs := [d0, d1, d2, d3]) (m := 4) hf rfl (by kernel_rfl) rfl hK4) fun a hf => st_c hf rfl rfl rfl (by kernel_rfl) (ih k0 _ Bs b s16 d0 d1 d2 d3 (hks _ (by simp)).1 (hks _ (by simp)).2.1 (hks _ (by simp)).2.2 (by (try simp only [putP, List.length_append, List.length_cons, List.length_nil]); omega) (by (try simp only [putP, List.length_append, List.length_cons, List.length_nil]); omega) hP hT hE.now) ?_
  rintro _ w22 ⟨rfl, hPn, hEn⟩
  refine ⟨_, rfl, fun a hf => ?_⟩
  have hx21 := hEn.chg
  replace hB4 := hB4.chg hx21 (nm_blk hB4 rfl (Ne.symm ne_b_b3))
  replace hE := hE.trans hx21 (fun _ h => .inl h)
  obtain ⟨s20, es20⟩ : ∃ z, z = treeP k0 s16 := ⟨_, rfl⟩
  replace hPn : Pr Bs b (treeP k0 s16).1 (treeP k0 s16).2 w22 := hPn
  rw [← es20] at hPn
  have gs20 := tree_len (t := k0) (hks _ (by simp)).2.2 s16
  rw [← es20] at gs20
  obtain ⟨gs20, gs20'⟩ := gs20
  (try simp only [List.length_cons, List.length_nil, lsum] at gs20 gs20')
  replace hG := nlt gs20 (Nat.add_le_add_right hG _)
  replace hG' := nlt gs20' (Nat.add_le_add_right hG' _)
  clear gs20 gs20'
  clear hP; have hP := hPn; clear hPn hEn
  refine sN <| hK19 _ _ <| wR <| sM hf rfl rfl fun a hf => sV hf rfl (ex_fa (k := 2) (r := 2) hf rfl (by kernel_rfl) rfl) fun a hf => sV hf rfl (ex_loadB hf rfl (by kernel_rfl) hB4 rfl) fun a hf => sV hf rfl (ex_index (sz := 1) (k := 1) (r := lo + 1) hf Try.underlying23 (by kernel_rfl) rfl rfl rfl (by simp) rfl) fun a hf => sV hf rfl (ex_load hf rfl (by kernel_rfl) (lead_now hL hE (j := 1) rfl)) fun a hf => st_c hf rfl rfl rfl (by kernel_rfl) (putL (lead := l1) (tok := [93]) hP (by (try simp only [putP, List.length_append, List.length_cons, List.length_nil]); omega) (by (try simp only [putP, List.length_append, List.length_cons, List.length_nil]); omega) hE.now) ?_
  rintro _ w25 ⟨rfl, hPn, hEn⟩
  refine ⟨_, rfl, fun a hf => ?_⟩
  have hx24 := hEn.chg
  replace hB4 := hB4.chg hx24 (nm_blk hB4 rfl (Ne.symm ne_b_b3))
  replace hE := hE.trans hx24 (fun _ h => .inl h)
  obtain ⟨s23, es23⟩ : ∃ z, z = putP l1 [93] s20 := ⟨_, rfl⟩
  replace hPn : Pr Bs b (putP l1 [93] s20).1 (putP l1 [93] s20).2 w25 := hPn
  rw [← es23] at hPn
  have gs23 := put_len l1 [93] s20
  rw [← es23] at gs23
  obtain ⟨gs23, gs23'⟩ := gs23
  (try simp only [List.length_cons, List.length_nil, lsum] at gs23 gs23')
  replace hG := nlt gs23 (Nat.add_le_add_right hG _)
  replace hG' := nlt gs23' (Nat.add_le_add_right hG' _)
  clear gs23 gs23'
  clear hP; have hP := hPn; clear hPn hEn
  refine sN ?_
  have eq : treeP (.node 8 x [l0, l1] [k0]) s = s23 := by subst es23; subst es20; subst es16; rfl
  rw [eq]
  try simp only [Exit.then, Exit.inBlock]
  exact end_of (rs := []) hf rfl rfl ⟨rfl, hP, hE⟩
theorem t19 {N : Nat} (ih : TreeOk N) {w : World} {Bs b : Nat} {s : WS} {x : List UInt8} {l0 l1 l2 : List UInt8} {k0 k1 k2 : Tree} {cs : List Value} {A B : Option Addr} {m n : Nat} (hks : ∀ t, t ∈ [k0, k1, k2] → tsize t ≤ N ∧ shapedT t = true ∧ leadedT t = true)
    (hl1 : s.2.length + 100 * (x.length + lsum [l0, l1, l2] + kbulk [k0, k1, k2] + 1) ≤ 1000000000000) (hl2 : s.1.length + 100 * (x.length + lsum [l0, l1, l2] + kbulk [k0, k1, k2] + 1) ≤ 1000000000000) (hP : Pr Bs b s.1 s.2 w) (hL : RowIn (fun b => b < Bs) w 1 A [l0, l1, l2].length ([l0, l1, l2].map strV)) (hn : [k0, k1, k2].length ≤ n) (hn2 : n ≤ maxLen) (hK : KidsAre (fun b => b < Bs) w [k0, k1, k2] cs) (hR : RowIn (fun b => b < Bs) w 4 B [k0, k1, k2].length cs) (hBw : Bs ≤ w.heap.size) :
    Calls Try.prog 61 [.pointer (some ⟨b, 0, none⟩), .agg #[.int .i64 19, strV x, .slice A [l0, l1, l2].length m, .slice B [k0, k1, k2].length n]].toArray w fun e w' => e = .returned (.tuple #[]) ∧ Pr Bs b (treeP (.node 19 x [l0, l1, l2] [k0, k1, k2]) s).1 (treeP (.node 19 x [l0, l1, l2] [k0, k1, k2]) s).2 w' ∧ Prn Bs b w w' := by
  simp only [lsum, kbulk] at hl1 hl2
  have hE := Prn.refl (b := b) hBw
  have hG : s.2.length ≤ s.2.length := Nat.le_refl _
  have hG' : s.1.length ≤ s.1.length := Nat.le_refl _
  obtain ⟨lb, lo, rfl, _, hlb, _⟩ := hL.2 (by simp)
  obtain ⟨kb, ko, rfl, _, hkb, _⟩ := hR.2 (by simp)
  refine enter_fr 216 Try.func61 rfl rfl rfl ?_
  intro a hf
  refine wS fun K1 hK1 => wR ?_
  obtain ⟨w2, b3, he, hB4, hx5, eb6, lb7⟩ := ef_box (P := Try.prog) (t := 26) (x := (.tmp 1)) hf rfl rfl w 0
  refine sV hf rfl he fun a hf => ?_
  have ge_b3 := Prn.ge_new hE eb6
  have ne_b_b3 : b ≠ b3 := ne_new hP.lt eb6
  replace hP := hP.chg0 hx5
  replace hE := hE.t0 hx5
  clear eb6 lb7
  refine sN <| hK1 _ _ <| wS fun K8 hK8 => wR <| sV hf rfl (ex_fa (k := 0) (r := 0) hf rfl (by kernel_rfl) rfl) fun a hf => sV hf rfl (ex_loadB hf rfl (by kernel_rfl) hB4 rfl) fun a hf => sN <| hK8 _ _ <| wp_block <| wS fun K9 hK9 => wS fun K10 hK10 => wR <| sV hf rfl (ex_eqI (c := false) hf rfl rfl (by decide)) fun a hf => sA hf rfl rfl fun a hf => sN <| hK10 _ _ <| cF hf rfl <| wS fun K11 hK11 => wR <| sV hf rfl (ex_eqI (c := false) hf rfl rfl (by decide)) fun a hf => sA hf rfl rfl fun a hf => sN <| hK11 _ _ <| cF hf rfl <| wS fun K12 hK12 => wR <| sV hf rfl (ex_eqI (c := false) hf rfl rfl (by decide)) fun a hf => sA hf rfl rfl fun a hf => sN <| hK12 _ _ <| cF hf rfl <| wR <| sV hf rfl (ex_eqI (c := false) hf rfl rfl (by decide)) fun a hf => sA hf rfl rfl fun a hf => sN <| hK9 _ _ <| cF hf rfl <| wS fun K13 hK13 => wR <| sV hf rfl (ex_eqI (c := false) hf rfl rfl (by decide)) fun a hf => sA hf rfl rfl fun a hf => sN <| hK13 _ _ <| cF hf rfl <| wS fun K14 hK14 => wR <| sV hf rfl (ex_eqI (c := false) hf rfl rfl (by decide)) fun a hf => sA hf rfl rfl fun a hf => sN <| hK14 _ _ <| cF hf rfl <| wS fun K15 hK15 => wR <| sV hf rfl (ex_eqI (c := false) hf rfl rfl (by decide)) fun a hf => sA hf rfl rfl fun a hf => sN <| hK15 _ _ <| cF hf rfl <| wS fun K16 hK16 => wR <| sV hf rfl (ex_eqI (c := false) hf rfl rfl (by decide)) fun a hf => sA hf rfl rfl fun a hf => sN <| hK16 _ _ <| cF hf rfl <| wS fun K17 hK17 => wR <| sV hf rfl (ex_eqI (c := true) hf rfl rfl (by decide)) fun a hf => sA hf rfl rfl fun a hf => sN <| hK17 _ _ <| cT hf rfl <| wS fun K18 hK18 => wR <| sM hf rfl rfl fun a hf => sV hf rfl (ex_fa (k := 2) (r := 2) hf rfl (by kernel_rfl) rfl) fun a hf => sV hf rfl (ex_loadB hf rfl (by kernel_rfl) hB4 rfl) fun a hf => sV hf rfl (ex_index (sz := 1) (k := 0) (r := lo) hf Try.underlying23 (by kernel_rfl) rfl rfl rfl (by simp) rfl) fun a hf => sV hf rfl (ex_load hf rfl (by kernel_rfl) (lead_now hL hE (j := 0) rfl)) fun a hf => ?_
  refine st_c hf rfl rfl rfl (by kernel_rfl) (putL (lead := l0) (tok := [105, 102]) hP (by (try simp only [putP, List.length_append, List.length_cons, List.length_nil]); omega) (by (try simp only [putP, List.length_append, List.length_cons, List.length_nil]); omega) hE.now) ?_
  rintro _ w21 ⟨rfl, hPn, hEn⟩
  refine ⟨_, rfl, fun a hf => ?_⟩
  have hx20 := hEn.chg
  replace hB4 := hB4.chg hx20 (nm_blk hB4 rfl (Ne.symm ne_b_b3))
  replace hE := hE.trans hx20 (fun _ h => .inl h)
  obtain ⟨s19, es19⟩ : ∃ z, z = putP l0 [105, 102] s := ⟨_, rfl⟩
  replace hPn : Pr Bs b (putP l0 [105, 102] s).1 (putP l0 [105, 102] s).2 w21 := hPn
  rw [← es19] at hPn
  have gs19 := put_len l0 [105, 102] s
  rw [← es19] at gs19
  obtain ⟨gs19, gs19'⟩ := gs19
  (try simp only [List.length_cons, List.length_nil, lsum] at gs19 gs19')
  replace hG := nlt gs19 (Nat.add_le_add_right hG _)
  replace hG' := nlt gs19' (Nat.add_le_add_right hG' _)
  clear gs19 gs19'
  clear hP; have hP := hPn; clear hPn hEn
  refine sN <| hK18 _ _ <| wS fun K22 hK22 => wR <| sM hf rfl rfl fun a hf => sV hf rfl (ex_fa (k := 3) (r := 3) hf rfl (by kernel_rfl) rfl) fun a hf => sV hf rfl (ex_loadB hf rfl (by kernel_rfl) hB4 rfl) fun a hf => sV hf rfl (ex_index (sz := 4) (k := 0) (r := ko) hf Try.underlying24 (by kernel_rfl) rfl rfl rfl (by simp) rfl) fun a hf => ?_
  obtain ⟨d0, d1, d2, d3, hT, hK4⟩ := kid_now hK hR hE (i := 0) (t := k0) rfl
  have on_T := hT.one
  refine sV hf rfl (ex_loadN (cs := [d0, d1, d2, d3]) (m := 4) hf rfl (by kernel_rfl) rfl hK4) fun a hf => st_c hf rfl rfl rfl (by kernel_rfl) (ih k0 _ Bs b s19 d0 d1 d2 d3 (hks _ (by simp)).1 (hks _ (by simp)).2.1 (hks _ (by simp)).2.2 (by (try simp only [putP, List.length_append, List.length_cons, List.length_nil]); omega) (by (try simp only [putP, List.length_append, List.length_cons, List.length_nil]); omega) hP hT hE.now) ?_
  rintro _ w25 ⟨rfl, hPn, hEn⟩
  refine ⟨_, rfl, fun a hf => ?_⟩
  have hx24 := hEn.chg
  replace hB4 := hB4.chg hx24 (nm_blk hB4 rfl (Ne.symm ne_b_b3))
  replace hE := hE.trans hx24 (fun _ h => .inl h)
  obtain ⟨s23, es23⟩ : ∃ z, z = treeP k0 s19 := ⟨_, rfl⟩
  replace hPn : Pr Bs b (treeP k0 s19).1 (treeP k0 s19).2 w25 := hPn
  rw [← es23] at hPn
  have gs23 := tree_len (t := k0) (hks _ (by simp)).2.2 s19
  rw [← es23] at gs23
  obtain ⟨gs23, gs23'⟩ := gs23
  (try simp only [List.length_cons, List.length_nil, lsum] at gs23 gs23')
  replace hG := nlt gs23 (Nat.add_le_add_right hG _)
  replace hG' := nlt gs23' (Nat.add_le_add_right hG' _)
  clear gs23 gs23'
  clear hP; have hP := hPn; clear hPn hEn
  refine sN <| hK22 _ _ <| wS fun K26 hK26 => wR <| sM hf rfl rfl fun a hf => sV hf rfl (ex_fa (k := 2) (r := 2) hf rfl (by kernel_rfl) rfl) fun a hf => sV hf rfl (ex_loadB hf rfl (by kernel_rfl) hB4 rfl) fun a hf => sV hf rfl (ex_index (sz := 1) (k := 1) (r := lo + 1) hf Try.underlying23 (by kernel_rfl) rfl rfl rfl (by simp) rfl) fun a hf => sV hf rfl (ex_load hf rfl (by kernel_rfl) (lead_now hL hE (j := 1) rfl)) fun a hf => st_c hf rfl rfl rfl (by kernel_rfl) (putL (lead := l1) (tok := [116, 104, 101, 110]) hP (by (try simp only [putP, List.length_append, List.length_cons, List.length_nil]); omega) (by (try simp only [putP, List.length_append, List.length_cons, List.length_nil]); omega) hE.now) ?_
  rintro _ w29 ⟨rfl, hPn, hEn⟩
  refine ⟨_, rfl, fun a hf => ?_⟩
  have hx28 := hEn.chg
  replace hB4 := hB4.chg hx28 (nm_blk hB4 rfl (Ne.symm ne_b_b3))
  replace hE := hE.trans hx28 (fun _ h => .inl h)
  obtain ⟨s27, es27⟩ : ∃ z, z = putP l1 [116, 104, 101, 110] s23 := ⟨_, rfl⟩
  replace hPn : Pr Bs b (putP l1 [116, 104, 101, 110] s23).1 (putP l1 [116, 104, 101, 110] s23).2 w29 := hPn
  rw [← es27] at hPn
  have gs27 := put_len l1 [116, 104, 101, 110] s23
  rw [← es27] at gs27
  obtain ⟨gs27, gs27'⟩ := gs27
  (try simp only [List.length_cons, List.length_nil, lsum] at gs27 gs27')
  replace hG := nlt gs27 (Nat.add_le_add_right hG _)
  replace hG' := nlt gs27' (Nat.add_le_add_right hG' _)
  clear gs27 gs27'
  clear hP; have hP := hPn; clear hPn hEn
  refine sN <| hK26 _ _ <| wS fun K30 hK30 => wR <| sM hf rfl rfl fun a hf => sV hf rfl (ex_fa (k := 3) (r := 3) hf rfl (by kernel_rfl) rfl) fun a hf => sV hf rfl (ex_loadB hf rfl (by kernel_rfl) hB4 rfl) fun a hf => sV hf rfl (ex_index (sz := 4) (k := 1) (r := ko + 4) hf Try.underlying24 (by kernel_rfl) rfl rfl rfl (by simp) rfl) fun a hf => ?_
  obtain ⟨d0, d1, d2, d3, hT, hK4⟩ := kid_now hK hR hE (i := 1) (t := k1) rfl
  have on_T := hT.one
  refine sV hf rfl (ex_loadN (cs := [d0, d1, d2, d3]) (m := 4) hf rfl (by kernel_rfl) rfl hK4) fun a hf => st_c hf rfl rfl rfl (by kernel_rfl) (ih k1 _ Bs b s27 d0 d1 d2 d3 (hks _ (by simp)).1 (hks _ (by simp)).2.1 (hks _ (by simp)).2.2 (by (try simp only [putP, List.length_append, List.length_cons, List.length_nil]); omega) (by (try simp only [putP, List.length_append, List.length_cons, List.length_nil]); omega) hP hT hE.now) ?_
  rintro _ w33 ⟨rfl, hPn, hEn⟩
  refine ⟨_, rfl, fun a hf => ?_⟩
  have hx32 := hEn.chg
  replace hB4 := hB4.chg hx32 (nm_blk hB4 rfl (Ne.symm ne_b_b3))
  replace hE := hE.trans hx32 (fun _ h => .inl h)
  obtain ⟨s31, es31⟩ : ∃ z, z = treeP k1 s27 := ⟨_, rfl⟩
  replace hPn : Pr Bs b (treeP k1 s27).1 (treeP k1 s27).2 w33 := hPn
  rw [← es31] at hPn
  have gs31 := tree_len (t := k1) (hks _ (by simp)).2.2 s27
  rw [← es31] at gs31
  obtain ⟨gs31, gs31'⟩ := gs31
  (try simp only [List.length_cons, List.length_nil, lsum] at gs31 gs31')
  replace hG := nlt gs31 (Nat.add_le_add_right hG _)
  replace hG' := nlt gs31' (Nat.add_le_add_right hG' _)
  clear gs31 gs31'
  clear hP; have hP := hPn; clear hPn hEn
  refine sN <| hK30 _ _ <| wS fun K34 hK34 => wR <| sM hf rfl rfl fun a hf => sV hf rfl (ex_fa (k := 2) (r := 2) hf rfl (by kernel_rfl) rfl) fun a hf => sV hf rfl (ex_loadB hf rfl (by kernel_rfl) hB4 rfl) fun a hf => sV hf rfl (ex_index (sz := 1) (k := 2) (r := lo + 2) hf Try.underlying23 (by kernel_rfl) rfl rfl rfl (by simp) rfl) fun a hf => sV hf rfl (ex_load hf rfl (by kernel_rfl) (lead_now hL hE (j := 2) rfl)) fun a hf => st_c hf rfl rfl rfl (by kernel_rfl) (putL (lead := l2) (tok := [101, 108, 115, 101]) hP (by (try simp only [putP, List.length_append, List.length_cons, List.length_nil]); omega) (by (try simp only [putP, List.length_append, List.length_cons, List.length_nil]); omega) hE.now) ?_
  rintro _ w37 ⟨rfl, hPn, hEn⟩
  refine ⟨_, rfl, fun a hf => ?_⟩
  have hx36 := hEn.chg
  replace hB4 := hB4.chg hx36 (nm_blk hB4 rfl (Ne.symm ne_b_b3))
  replace hE := hE.trans hx36 (fun _ h => .inl h)
  obtain ⟨s35, es35⟩ : ∃ z, z = putP l2 [101, 108, 115, 101] s31 := ⟨_, rfl⟩
  replace hPn : Pr Bs b (putP l2 [101, 108, 115, 101] s31).1 (putP l2 [101, 108, 115, 101] s31).2 w37 := hPn
  rw [← es35] at hPn
  have gs35 := put_len l2 [101, 108, 115, 101] s31
  rw [← es35] at gs35
  obtain ⟨gs35, gs35'⟩ := gs35
  (try simp only [List.length_cons, List.length_nil, lsum] at gs35 gs35')
  replace hG := nlt gs35 (Nat.add_le_add_right hG _)
  replace hG' := nlt gs35' (Nat.add_le_add_right hG' _)
  clear gs35 gs35'
  clear hP; have hP := hPn; clear hPn hEn
  refine sN <| hK34 _ _ <| wR <| sM hf rfl rfl fun a hf => sV hf rfl (ex_fa (k := 3) (r := 3) hf rfl (by kernel_rfl) rfl) fun a hf => sV hf rfl (ex_loadB hf rfl (by kernel_rfl) hB4 rfl) fun a hf => sV hf rfl (ex_index (sz := 4) (k := 2) (r := ko + 8) hf Try.underlying24 (by kernel_rfl) rfl rfl rfl (by simp) rfl) fun a hf => ?_
  obtain ⟨d0, d1, d2, d3, hT, hK4⟩ := kid_now hK hR hE (i := 2) (t := k2) rfl
  have on_T := hT.one
  refine sV hf rfl (ex_loadN (cs := [d0, d1, d2, d3]) (m := 4) hf rfl (by kernel_rfl) rfl hK4) fun a hf => st_c hf rfl rfl rfl (by kernel_rfl) (ih k2 _ Bs b s35 d0 d1 d2 d3 (hks _ (by simp)).1 (hks _ (by simp)).2.1 (hks _ (by simp)).2.2 (by (try simp only [putP, List.length_append, List.length_cons, List.length_nil]); omega) (by (try simp only [putP, List.length_append, List.length_cons, List.length_nil]); omega) hP hT hE.now) ?_
  rintro _ w40 ⟨rfl, hPn, hEn⟩
  refine ⟨_, rfl, fun a hf => ?_⟩
  have hx39 := hEn.chg
  replace hB4 := hB4.chg hx39 (nm_blk hB4 rfl (Ne.symm ne_b_b3))
  replace hE := hE.trans hx39 (fun _ h => .inl h)
  obtain ⟨s38, es38⟩ : ∃ z, z = treeP k2 s35 := ⟨_, rfl⟩
  replace hPn : Pr Bs b (treeP k2 s35).1 (treeP k2 s35).2 w40 := hPn
  rw [← es38] at hPn
  have gs38 := tree_len (t := k2) (hks _ (by simp)).2.2 s35
  rw [← es38] at gs38
  obtain ⟨gs38, gs38'⟩ := gs38
  (try simp only [List.length_cons, List.length_nil, lsum] at gs38 gs38')
  replace hG := nlt gs38 (Nat.add_le_add_right hG _)
  replace hG' := nlt gs38' (Nat.add_le_add_right hG' _)
  clear gs38 gs38'
  clear hP; have hP := hPn; clear hPn hEn
  refine sN ?_
  have eq : treeP (.node 19 x [l0, l1, l2] [k0, k1, k2]) s = s38 := by subst es38; subst es35; subst es31; subst es27; subst es23; subst es19; rfl
  rw [eq]
  try simp only [Exit.then, Exit.inBlock]
  exact end_of (rs := []) hf rfl rfl ⟨rfl, hP, hE⟩
theorem t20 {N : Nat} (ih : TreeOk N) {w : World} {Bs b : Nat} {s : WS} {x : List UInt8} {l0 l1 l2 l3 : List UInt8} {k0 k1 : Tree} {cs : List Value} {A B : Option Addr} {m n : Nat} (hks : ∀ t, t ∈ [k0, k1] → tsize t ≤ N ∧ shapedT t = true ∧ leadedT t = true)
    (hl1 : s.2.length + 100 * (x.length + lsum [l0, l1, l2, l3] + kbulk [k0, k1] + 1) ≤ 1000000000000) (hl2 : s.1.length + 100 * (x.length + lsum [l0, l1, l2, l3] + kbulk [k0, k1] + 1) ≤ 1000000000000) (hP : Pr Bs b s.1 s.2 w) (hL : RowIn (fun b => b < Bs) w 1 A [l0, l1, l2, l3].length ([l0, l1, l2, l3].map strV)) (hn : [k0, k1].length ≤ n) (hn2 : n ≤ maxLen) (hK : KidsAre (fun b => b < Bs) w [k0, k1] cs) (hR : RowIn (fun b => b < Bs) w 4 B [k0, k1].length cs) (hBw : Bs ≤ w.heap.size) :
    Calls Try.prog 61 [.pointer (some ⟨b, 0, none⟩), .agg #[.int .i64 20, strV x, .slice A [l0, l1, l2, l3].length m, .slice B [k0, k1].length n]].toArray w fun e w' => e = .returned (.tuple #[]) ∧ Pr Bs b (treeP (.node 20 x [l0, l1, l2, l3] [k0, k1]) s).1 (treeP (.node 20 x [l0, l1, l2, l3] [k0, k1]) s).2 w' ∧ Prn Bs b w w' := by
  simp only [lsum, kbulk] at hl1 hl2
  have hE := Prn.refl (b := b) hBw
  have hG : s.2.length ≤ s.2.length := Nat.le_refl _
  have hG' : s.1.length ≤ s.1.length := Nat.le_refl _
  obtain ⟨lb, lo, rfl, _, hlb, _⟩ := hL.2 (by simp)
  obtain ⟨kb, ko, rfl, _, hkb, _⟩ := hR.2 (by simp)
  refine enter_fr 216 Try.func61 rfl rfl rfl ?_
  intro a hf
  refine wS fun K1 hK1 => wR ?_
  obtain ⟨w2, b3, he, hB4, hx5, eb6, lb7⟩ := ef_box (P := Try.prog) (t := 26) (x := (.tmp 1)) hf rfl rfl w 0
  refine sV hf rfl he fun a hf => ?_
  have ge_b3 := Prn.ge_new hE eb6
  have ne_b_b3 : b ≠ b3 := ne_new hP.lt eb6
  replace hP := hP.chg0 hx5
  replace hE := hE.t0 hx5
  clear eb6 lb7
  refine sN <| hK1 _ _ <| wS fun K8 hK8 => wR <| sV hf rfl (ex_fa (k := 0) (r := 0) hf rfl (by kernel_rfl) rfl) fun a hf => sV hf rfl (ex_loadB hf rfl (by kernel_rfl) hB4 rfl) fun a hf => sN <| hK8 _ _ <| wp_block <| wS fun K9 hK9 => wS fun K10 hK10 => wR <| sV hf rfl (ex_eqI (c := false) hf rfl rfl (by decide)) fun a hf => sA hf rfl rfl fun a hf => sN <| hK10 _ _ <| cF hf rfl <| wS fun K11 hK11 => wR <| sV hf rfl (ex_eqI (c := false) hf rfl rfl (by decide)) fun a hf => sA hf rfl rfl fun a hf => sN <| hK11 _ _ <| cF hf rfl <| wS fun K12 hK12 => wR <| sV hf rfl (ex_eqI (c := false) hf rfl rfl (by decide)) fun a hf => sA hf rfl rfl fun a hf => sN <| hK12 _ _ <| cF hf rfl <| wR <| sV hf rfl (ex_eqI (c := false) hf rfl rfl (by decide)) fun a hf => sA hf rfl rfl fun a hf => sN <| hK9 _ _ <| cF hf rfl <| wS fun K13 hK13 => wR <| sV hf rfl (ex_eqI (c := false) hf rfl rfl (by decide)) fun a hf => sA hf rfl rfl fun a hf => sN <| hK13 _ _ <| cF hf rfl <| wS fun K14 hK14 => wR <| sV hf rfl (ex_eqI (c := false) hf rfl rfl (by decide)) fun a hf => sA hf rfl rfl fun a hf => sN <| hK14 _ _ <| cF hf rfl <| wS fun K15 hK15 => wR <| sV hf rfl (ex_eqI (c := false) hf rfl rfl (by decide)) fun a hf => sA hf rfl rfl fun a hf => sN <| hK15 _ _ <| cF hf rfl <| wS fun K16 hK16 => wR <| sV hf rfl (ex_eqI (c := false) hf rfl rfl (by decide)) fun a hf => sA hf rfl rfl fun a hf => sN <| hK16 _ _ <| cF hf rfl <| wS fun K17 hK17 => wR <| sV hf rfl (ex_eqI (c := false) hf rfl rfl (by decide)) fun a hf => sA hf rfl rfl fun a hf => sN <| hK17 _ _ <| cF hf rfl <| wS fun K18 hK18 => wR <| sV hf rfl (ex_eqI (c := true) hf rfl rfl (by decide)) fun a hf => sA hf rfl rfl fun a hf => sN <| hK18 _ _ <| cT hf rfl <| wS fun K19 hK19 => wR <| sM hf rfl rfl fun a hf => sV hf rfl (ex_fa (k := 2) (r := 2) hf rfl (by kernel_rfl) rfl) fun a hf => sV hf rfl (ex_loadB hf rfl (by kernel_rfl) hB4 rfl) fun a hf => ?_
  refine sV hf rfl (ex_index (sz := 1) (k := 0) (r := lo) hf Try.underlying23 (by kernel_rfl) rfl rfl rfl (by simp) rfl) fun a hf => sV hf rfl (ex_load hf rfl (by kernel_rfl) (lead_now hL hE (j := 0) rfl)) fun a hf => st_c hf rfl rfl rfl (by kernel_rfl) (putL (lead := l0) (tok := [108, 101, 116]) hP (by (try simp only [putP, List.length_append, List.length_cons, List.length_nil]); omega) (by (try simp only [putP, List.length_append, List.length_cons, List.length_nil]); omega) hE.now) ?_
  rintro _ w22 ⟨rfl, hPn, hEn⟩
  refine ⟨_, rfl, fun a hf => ?_⟩
  have hx21 := hEn.chg
  replace hB4 := hB4.chg hx21 (nm_blk hB4 rfl (Ne.symm ne_b_b3))
  replace hE := hE.trans hx21 (fun _ h => .inl h)
  obtain ⟨s20, es20⟩ : ∃ z, z = putP l0 [108, 101, 116] s := ⟨_, rfl⟩
  replace hPn : Pr Bs b (putP l0 [108, 101, 116] s).1 (putP l0 [108, 101, 116] s).2 w22 := hPn
  rw [← es20] at hPn
  have gs20 := put_len l0 [108, 101, 116] s
  rw [← es20] at gs20
  obtain ⟨gs20, gs20'⟩ := gs20
  (try simp only [List.length_cons, List.length_nil, lsum] at gs20 gs20')
  replace hG := nlt gs20 (Nat.add_le_add_right hG _)
  replace hG' := nlt gs20' (Nat.add_le_add_right hG' _)
  clear gs20 gs20'
  clear hP; have hP := hPn; clear hPn hEn
  refine sN <| hK19 _ _ <| wS fun K23 hK23 => ?_
  have s_lb := lead_now hL hE (j := 1) rfl
  have s_hB4 := hB4
  refine dl_start (fun x => x.cell? ⟨b3, 2, none⟩ = w22.cell? ⟨b3, 2, none⟩ ∧ x.cell? ⟨lb, lo + 1, none⟩ = w22.cell? ⟨lb, lo + 1, none⟩ ∧ x.cell? ⟨b3, 1, none⟩ = w22.cell? ⟨b3, 1, none⟩) 8 8 rfl (by kernel_rfl) (by kernel_rfl) ?_
  intro w24 hx25 hsel
  replace hB4 := hB4.c0 hx25
  replace hP := hP.chg0 hx25
  replace hE := hE.t0 hx25
  have hS0 : w24.cell? ⟨b3, 2, none⟩ = w22.cell? ⟨b3, 2, none⟩ ∧ w24.cell? ⟨lb, lo + 1, none⟩ = w22.cell? ⟨lb, lo + 1, none⟩ ∧ w24.cell? ⟨b3, 1, none⟩ = w22.cell? ⟨b3, 1, none⟩ := ⟨(hB4.cell 2).trans (s_hB4.cell 2).symm, ((lead_now hL hE (j := 1) rfl).trans s_lb.symm), (hB4.cell 1).trans (s_hB4.cell 1).symm⟩
  refine dM 0 rfl rfl hsel (by kernel_rfl) hf rfl hS0 rfl fun a hf => dV 1 rfl rfl hsel (by kernel_rfl) hf rfl (.inl hS0) (fun x => ex_fa (k := 2) (r := 2) hf rfl (by kernel_rfl) rfl) fun a hf => dL 2 rfl rfl hsel (by kernel_rfl) hf rfl hS0 (fun x hS => ex_load hf rfl (by kernel_rfl) (hS.1.trans ((s_hB4.cell 2).trans rfl))) fun a hf => dV 3 rfl rfl hsel (by kernel_rfl) hf rfl (.inl hS0) (fun x => ex_index (sz := 1) (k := 1) (r := lo + 1) hf Try.underlying23 (by kernel_rfl) rfl rfl rfl (by simp) rfl) fun a hf => dL 4 rfl rfl hsel (by kernel_rfl) hf rfl hS0 (fun x hS => ex_load hf rfl (by kernel_rfl) (hS.2.1.trans s_lb)) fun a hf => dV 5 rfl rfl hsel (by kernel_rfl) hf rfl (.inl hS0) (fun x => ex_fa (k := 1) (r := 1) hf rfl (by kernel_rfl) rfl) fun a hf => dL 6 rfl rfl hsel (by kernel_rfl) hf rfl hS0 (fun x hS => ex_load hf rfl (by kernel_rfl) (hS.2.2.trans ((s_hB4.cell 1).trans rfl))) fun a hf => dl_c 7 (by kernel_rfl) rfl hf rfl rfl rfl (by kernel_rfl) (putL (lead := l1) (tok := x) hP (by (try simp only [putP, List.length_append, List.length_cons, List.length_nil]); omega) (by (try simp only [putP, List.length_append, List.length_cons, List.length_nil]); omega) hE.now) ?_
  rintro _ w28 ⟨rfl, hPn, hEn⟩
  refine ⟨_, rfl, fun a hf => ?_⟩
  have hx27 := hEn.chg
  replace hB4 := hB4.chg hx27 (nm_blk hB4 rfl (Ne.symm ne_b_b3))
  replace hE := hE.trans hx27 (fun _ h => .inl h)
  obtain ⟨s26, es26⟩ : ∃ z, z = putP l1 x s20 := ⟨_, rfl⟩
  replace hPn : Pr Bs b (putP l1 x s20).1 (putP l1 x s20).2 w28 := hPn
  rw [← es26] at hPn
  have gs26 := put_len l1 x s20
  rw [← es26] at gs26
  obtain ⟨gs26, gs26'⟩ := gs26
  (try simp only [List.length_cons, List.length_nil, lsum] at gs26 gs26')
  replace hG := nlt gs26 (Nat.add_le_add_right hG _)
  replace hG' := nlt gs26' (Nat.add_le_add_right hG' _)
  clear gs26 gs26'
  clear hP; have hP := hPn; clear hPn hEn
  clear hS0
  have hS0 : w28.cell? ⟨b3, 2, none⟩ = w22.cell? ⟨b3, 2, none⟩ ∧ w28.cell? ⟨lb, lo + 1, none⟩ = w22.cell? ⟨lb, lo + 1, none⟩ ∧ w28.cell? ⟨b3, 1, none⟩ = w22.cell? ⟨b3, 1, none⟩ := ⟨(hB4.cell 2).trans (s_hB4.cell 2).symm, ((lead_now hL hE (j := 1) rfl).trans s_lb.symm), (hB4.cell 1).trans (s_hB4.cell 1).symm⟩
  refine ⟨.inl hS0, ?_⟩
  refine dl_done (by kernel_rfl) ?_
  clear hS0 hsel
  refine hK23 _ _ <| wS fun K29 hK29 => wR <| sM hf rfl rfl fun a hf => sV hf rfl (ex_fa (k := 2) (r := 2) hf rfl (by kernel_rfl) rfl) fun a hf => sV hf rfl (ex_loadB hf rfl (by kernel_rfl) hB4 rfl) fun a hf => sV hf rfl (ex_index (sz := 1) (k := 2) (r := lo + 2) hf Try.underlying23 (by kernel_rfl) rfl rfl rfl (by simp) rfl) fun a hf => sV hf rfl (ex_load hf rfl (by kernel_rfl) (lead_now hL hE (j := 2) rfl)) fun a hf => st_c hf rfl rfl rfl (by kernel_rfl) (putL (lead := l2) (tok := [61]) hP (by (try simp only [putP, List.length_append, List.length_cons, List.length_nil]); omega) (by (try simp only [putP, List.length_append, List.length_cons, List.length_nil]); omega) hE.now) ?_
  rintro _ w32 ⟨rfl, hPn, hEn⟩
  refine ⟨_, rfl, fun a hf => ?_⟩
  have hx31 := hEn.chg
  replace hB4 := hB4.chg hx31 (nm_blk hB4 rfl (Ne.symm ne_b_b3))
  replace hE := hE.trans hx31 (fun _ h => .inl h)
  obtain ⟨s30, es30⟩ : ∃ z, z = putP l2 [61] s26 := ⟨_, rfl⟩
  replace hPn : Pr Bs b (putP l2 [61] s26).1 (putP l2 [61] s26).2 w32 := hPn
  rw [← es30] at hPn
  have gs30 := put_len l2 [61] s26
  rw [← es30] at gs30
  obtain ⟨gs30, gs30'⟩ := gs30
  (try simp only [List.length_cons, List.length_nil, lsum] at gs30 gs30')
  replace hG := nlt gs30 (Nat.add_le_add_right hG _)
  replace hG' := nlt gs30' (Nat.add_le_add_right hG' _)
  clear gs30 gs30'
  clear hP; have hP := hPn; clear hPn hEn
  refine sN <| hK29 _ _ <| wS fun K33 hK33 => wR <| sM hf rfl rfl fun a hf => sV hf rfl (ex_fa (k := 3) (r := 3) hf rfl (by kernel_rfl) rfl) fun a hf => sV hf rfl (ex_loadB hf rfl (by kernel_rfl) hB4 rfl) fun a hf => sV hf rfl (ex_index (sz := 4) (k := 0) (r := ko) hf Try.underlying24 (by kernel_rfl) rfl rfl rfl (by simp) rfl) fun a hf => ?_
  obtain ⟨d0, d1, d2, d3, hT, hK4⟩ := kid_now hK hR hE (i := 0) (t := k0) rfl
  have on_T := hT.one
  refine sV hf rfl (ex_loadN (cs := [d0, d1, d2, d3]) (m := 4) hf rfl (by kernel_rfl) rfl hK4) fun a hf => st_c hf rfl rfl rfl (by kernel_rfl) (ih k0 _ Bs b s30 d0 d1 d2 d3 (hks _ (by simp)).1 (hks _ (by simp)).2.1 (hks _ (by simp)).2.2 (by (try simp only [putP, List.length_append, List.length_cons, List.length_nil]); omega) (by (try simp only [putP, List.length_append, List.length_cons, List.length_nil]); omega) hP hT hE.now) ?_
  rintro _ w36 ⟨rfl, hPn, hEn⟩
  refine ⟨_, rfl, fun a hf => ?_⟩
  have hx35 := hEn.chg
  replace hB4 := hB4.chg hx35 (nm_blk hB4 rfl (Ne.symm ne_b_b3))
  replace hE := hE.trans hx35 (fun _ h => .inl h)
  obtain ⟨s34, es34⟩ : ∃ z, z = treeP k0 s30 := ⟨_, rfl⟩
  replace hPn : Pr Bs b (treeP k0 s30).1 (treeP k0 s30).2 w36 := hPn
  rw [← es34] at hPn
  have gs34 := tree_len (t := k0) (hks _ (by simp)).2.2 s30
  rw [← es34] at gs34
  obtain ⟨gs34, gs34'⟩ := gs34
  (try simp only [List.length_cons, List.length_nil, lsum] at gs34 gs34')
  replace hG := nlt gs34 (Nat.add_le_add_right hG _)
  replace hG' := nlt gs34' (Nat.add_le_add_right hG' _)
  clear gs34 gs34'
  clear hP; have hP := hPn; clear hPn hEn
  refine sN <| hK33 _ _ <| wS fun K37 hK37 => wR <| sM hf rfl rfl fun a hf => sV hf rfl (ex_fa (k := 2) (r := 2) hf rfl (by kernel_rfl) rfl) fun a hf => sV hf rfl (ex_loadB hf rfl (by kernel_rfl) hB4 rfl) fun a hf => sV hf rfl (ex_index (sz := 1) (k := 3) (r := lo + 3) hf Try.underlying23 (by kernel_rfl) rfl rfl rfl (by simp) rfl) fun a hf => sV hf rfl (ex_load hf rfl (by kernel_rfl) (lead_now hL hE (j := 3) rfl)) fun a hf => st_c hf rfl rfl rfl (by kernel_rfl) (putL (lead := l3) (tok := [105, 110]) hP (by (try simp only [putP, List.length_append, List.length_cons, List.length_nil]); omega) (by (try simp only [putP, List.length_append, List.length_cons, List.length_nil]); omega) hE.now) ?_
  rintro _ w40 ⟨rfl, hPn, hEn⟩
  refine ⟨_, rfl, fun a hf => ?_⟩
  have hx39 := hEn.chg
  replace hB4 := hB4.chg hx39 (nm_blk hB4 rfl (Ne.symm ne_b_b3))
  replace hE := hE.trans hx39 (fun _ h => .inl h)
  obtain ⟨s38, es38⟩ : ∃ z, z = putP l3 [105, 110] s34 := ⟨_, rfl⟩
  replace hPn : Pr Bs b (putP l3 [105, 110] s34).1 (putP l3 [105, 110] s34).2 w40 := hPn
  rw [← es38] at hPn
  have gs38 := put_len l3 [105, 110] s34
  rw [← es38] at gs38
  obtain ⟨gs38, gs38'⟩ := gs38
  (try simp only [List.length_cons, List.length_nil, lsum] at gs38 gs38')
  replace hG := nlt gs38 (Nat.add_le_add_right hG _)
  replace hG' := nlt gs38' (Nat.add_le_add_right hG' _)
  clear gs38 gs38'
  clear hP; have hP := hPn; clear hPn hEn
  refine sN <| hK37 _ _ <| wR <| sM hf rfl rfl fun a hf => sV hf rfl (ex_fa (k := 3) (r := 3) hf rfl (by kernel_rfl) rfl) fun a hf => sV hf rfl (ex_loadB hf rfl (by kernel_rfl) hB4 rfl) fun a hf => sV hf rfl (ex_index (sz := 4) (k := 1) (r := ko + 4) hf Try.underlying24 (by kernel_rfl) rfl rfl rfl (by simp) rfl) fun a hf => ?_
  obtain ⟨d0, d1, d2, d3, hT, hK4⟩ := kid_now hK hR hE (i := 1) (t := k1) rfl
  have on_T := hT.one
  refine sV hf rfl (ex_loadN (cs := [d0, d1, d2, d3]) (m := 4) hf rfl (by kernel_rfl) rfl hK4) fun a hf => st_c hf rfl rfl rfl (by kernel_rfl) (ih k1 _ Bs b s38 d0 d1 d2 d3 (hks _ (by simp)).1 (hks _ (by simp)).2.1 (hks _ (by simp)).2.2 (by (try simp only [putP, List.length_append, List.length_cons, List.length_nil]); omega) (by (try simp only [putP, List.length_append, List.length_cons, List.length_nil]); omega) hP hT hE.now) ?_
  rintro _ w43 ⟨rfl, hPn, hEn⟩
  refine ⟨_, rfl, fun a hf => ?_⟩
  have hx42 := hEn.chg
  replace hB4 := hB4.chg hx42 (nm_blk hB4 rfl (Ne.symm ne_b_b3))
  replace hE := hE.trans hx42 (fun _ h => .inl h)
  obtain ⟨s41, es41⟩ : ∃ z, z = treeP k1 s38 := ⟨_, rfl⟩
  replace hPn : Pr Bs b (treeP k1 s38).1 (treeP k1 s38).2 w43 := hPn
  rw [← es41] at hPn
  have gs41 := tree_len (t := k1) (hks _ (by simp)).2.2 s38
  rw [← es41] at gs41
  obtain ⟨gs41, gs41'⟩ := gs41
  (try simp only [List.length_cons, List.length_nil, lsum] at gs41 gs41')
  replace hG := nlt gs41 (Nat.add_le_add_right hG _)
  replace hG' := nlt gs41' (Nat.add_le_add_right hG' _)
  clear gs41 gs41'
  clear hP; have hP := hPn; clear hPn hEn
  refine sN ?_
  have eq : treeP (.node 20 x [l0, l1, l2, l3] [k0, k1]) s = s41 := by subst es41; subst es38; subst es34; subst es30; subst es26; subst es20; rfl
  rw [eq]
  try simp only [Exit.then, Exit.inBlock]
  exact end_of (rs := []) hf rfl rfl ⟨rfl, hP, hE⟩
theorem t21 {N : Nat} (ih : TreeOk N) {w : World} {Bs b : Nat} {s : WS} {x : List UInt8} {l0 : List UInt8} {k0 k1 : Tree} {cs : List Value} {A B : Option Addr} {m n : Nat} (hks : ∀ t, t ∈ [k0, k1] → tsize t ≤ N ∧ shapedT t = true ∧ leadedT t = true)
    (hl1 : s.2.length + 100 * (x.length + lsum [l0] + kbulk [k0, k1] + 1) ≤ 1000000000000) (hl2 : s.1.length + 100 * (x.length + lsum [l0] + kbulk [k0, k1] + 1) ≤ 1000000000000) (hP : Pr Bs b s.1 s.2 w) (hL : RowIn (fun b => b < Bs) w 1 A [l0].length ([l0].map strV)) (hn : [k0, k1].length ≤ n) (hn2 : n ≤ maxLen) (hK : KidsAre (fun b => b < Bs) w [k0, k1] cs) (hR : RowIn (fun b => b < Bs) w 4 B [k0, k1].length cs) (hBw : Bs ≤ w.heap.size) :
    Calls Try.prog 61 [.pointer (some ⟨b, 0, none⟩), .agg #[.int .i64 21, strV x, .slice A [l0].length m, .slice B [k0, k1].length n]].toArray w fun e w' => e = .returned (.tuple #[]) ∧ Pr Bs b (treeP (.node 21 x [l0] [k0, k1]) s).1 (treeP (.node 21 x [l0] [k0, k1]) s).2 w' ∧ Prn Bs b w w' := by
  simp only [lsum, kbulk] at hl1 hl2
  have hE := Prn.refl (b := b) hBw
  have hG : s.2.length ≤ s.2.length := Nat.le_refl _
  have hG' : s.1.length ≤ s.1.length := Nat.le_refl _
  obtain ⟨lb, lo, rfl, _, hlb, _⟩ := hL.2 (by simp)
  obtain ⟨kb, ko, rfl, _, hkb, _⟩ := hR.2 (by simp)
  refine enter_fr 216 Try.func61 rfl rfl rfl ?_
  intro a hf
  refine wS fun K1 hK1 => wR ?_
  obtain ⟨w2, b3, he, hB4, hx5, eb6, lb7⟩ := ef_box (P := Try.prog) (t := 26) (x := (.tmp 1)) hf rfl rfl w 0
  refine sV hf rfl he fun a hf => ?_
  have ge_b3 := Prn.ge_new hE eb6
  have ne_b_b3 : b ≠ b3 := ne_new hP.lt eb6
  replace hP := hP.chg0 hx5
  replace hE := hE.t0 hx5
  clear eb6 lb7
  refine sN <| hK1 _ _ <| wS fun K8 hK8 => wR <| sV hf rfl (ex_fa (k := 0) (r := 0) hf rfl (by kernel_rfl) rfl) fun a hf => sV hf rfl (ex_loadB hf rfl (by kernel_rfl) hB4 rfl) fun a hf => sN <| hK8 _ _ <| wp_block <| wS fun K9 hK9 => wS fun K10 hK10 => wR <| sV hf rfl (ex_eqI (c := false) hf rfl rfl (by decide)) fun a hf => sA hf rfl rfl fun a hf => sN <| hK10 _ _ <| cF hf rfl <| wS fun K11 hK11 => wR <| sV hf rfl (ex_eqI (c := false) hf rfl rfl (by decide)) fun a hf => sA hf rfl rfl fun a hf => sN <| hK11 _ _ <| cF hf rfl <| wS fun K12 hK12 => wR <| sV hf rfl (ex_eqI (c := false) hf rfl rfl (by decide)) fun a hf => sA hf rfl rfl fun a hf => sN <| hK12 _ _ <| cF hf rfl <| wR <| sV hf rfl (ex_eqI (c := false) hf rfl rfl (by decide)) fun a hf => sA hf rfl rfl fun a hf => sN <| hK9 _ _ <| cF hf rfl <| wS fun K13 hK13 => wR <| sV hf rfl (ex_eqI (c := false) hf rfl rfl (by decide)) fun a hf => sA hf rfl rfl fun a hf => sN <| hK13 _ _ <| cF hf rfl <| wS fun K14 hK14 => wR <| sV hf rfl (ex_eqI (c := false) hf rfl rfl (by decide)) fun a hf => sA hf rfl rfl fun a hf => sN <| hK14 _ _ <| cF hf rfl <| wS fun K15 hK15 => wR <| sV hf rfl (ex_eqI (c := false) hf rfl rfl (by decide)) fun a hf => sA hf rfl rfl fun a hf => sN <| hK15 _ _ <| cF hf rfl <| wS fun K16 hK16 => wR <| sV hf rfl (ex_eqI (c := false) hf rfl rfl (by decide)) fun a hf => sA hf rfl rfl fun a hf => sN <| hK16 _ _ <| cF hf rfl <| wS fun K17 hK17 => wR <| sV hf rfl (ex_eqI (c := false) hf rfl rfl (by decide)) fun a hf => sA hf rfl rfl fun a hf => sN <| hK17 _ _ <| cF hf rfl <| wS fun K18 hK18 => wR <| sV hf rfl (ex_eqI (c := false) hf rfl rfl (by decide)) fun a hf => sA hf rfl rfl fun a hf => sN <| hK18 _ _ <| cF hf rfl <| wS fun K19 hK19 => wR <| sV hf rfl (ex_eqI (c := true) hf rfl rfl (by decide)) fun a hf => sA hf rfl rfl fun a hf => sN <| hK19 _ _ <| cT hf rfl <| wS fun K20 hK20 => ?_
  refine wR <| sM hf rfl rfl fun a hf => sV hf rfl (ex_fa (k := 3) (r := 3) hf rfl (by kernel_rfl) rfl) fun a hf => sV hf rfl (ex_loadB hf rfl (by kernel_rfl) hB4 rfl) fun a hf => sV hf rfl (ex_index (sz := 4) (k := 0) (r := ko) hf Try.underlying24 (by kernel_rfl) rfl rfl rfl (by simp) rfl) fun a hf => ?_
  obtain ⟨d0, d1, d2, d3, hT, hK4⟩ := kid_now hK hR hE (i := 0) (t := k0) rfl
  have on_T := hT.one
  refine sV hf rfl (ex_loadN (cs := [d0, d1, d2, d3]) (m := 4) hf rfl (by kernel_rfl) rfl hK4) fun a hf => st_c hf rfl rfl rfl (by kernel_rfl) (ih k0 _ Bs b s d0 d1 d2 d3 (hks _ (by simp)).1 (hks _ (by simp)).2.1 (hks _ (by simp)).2.2 (by (try simp only [putP, List.length_append, List.length_cons, List.length_nil]); omega) (by (try simp only [putP, List.length_append, List.length_cons, List.length_nil]); omega) hP hT hE.now) ?_
  rintro _ w23 ⟨rfl, hPn, hEn⟩
  refine ⟨_, rfl, fun a hf => ?_⟩
  have hx22 := hEn.chg
  replace hB4 := hB4.chg hx22 (nm_blk hB4 rfl (Ne.symm ne_b_b3))
  replace hE := hE.trans hx22 (fun _ h => .inl h)
  obtain ⟨s21, es21⟩ : ∃ z, z = treeP k0 s := ⟨_, rfl⟩
  replace hPn : Pr Bs b (treeP k0 s).1 (treeP k0 s).2 w23 := hPn
  rw [← es21] at hPn
  have gs21 := tree_len (t := k0) (hks _ (by simp)).2.2 s
  rw [← es21] at gs21
  obtain ⟨gs21, gs21'⟩ := gs21
  (try simp only [List.length_cons, List.length_nil, lsum] at gs21 gs21')
  replace hG := nlt gs21 (Nat.add_le_add_right hG _)
  replace hG' := nlt gs21' (Nat.add_le_add_right hG' _)
  clear gs21 gs21'
  clear hP; have hP := hPn; clear hPn hEn
  refine sN <| hK20 _ _ <| wS fun K24 hK24 => ?_
  have s_lb := lead_now hL hE (j := 0) rfl
  have s_hB4 := hB4
  refine dl_start (fun x => x.cell? ⟨b3, 2, none⟩ = w23.cell? ⟨b3, 2, none⟩ ∧ x.cell? ⟨lb, lo, none⟩ = w23.cell? ⟨lb, lo, none⟩ ∧ x.cell? ⟨b3, 1, none⟩ = w23.cell? ⟨b3, 1, none⟩) 8 8 rfl (by kernel_rfl) (by kernel_rfl) ?_
  intro w25 hx26 hsel
  replace hB4 := hB4.c0 hx26
  replace hP := hP.chg0 hx26
  replace hE := hE.t0 hx26
  have hS0 : w25.cell? ⟨b3, 2, none⟩ = w23.cell? ⟨b3, 2, none⟩ ∧ w25.cell? ⟨lb, lo, none⟩ = w23.cell? ⟨lb, lo, none⟩ ∧ w25.cell? ⟨b3, 1, none⟩ = w23.cell? ⟨b3, 1, none⟩ := ⟨(hB4.cell 2).trans (s_hB4.cell 2).symm, ((lead_now hL hE (j := 0) rfl).trans s_lb.symm), (hB4.cell 1).trans (s_hB4.cell 1).symm⟩
  refine dM 0 rfl rfl hsel (by kernel_rfl) hf rfl hS0 rfl fun a hf => dV 1 rfl rfl hsel (by kernel_rfl) hf rfl (.inl hS0) (fun x => ex_fa (k := 2) (r := 2) hf rfl (by kernel_rfl) rfl) fun a hf => dL 2 rfl rfl hsel (by kernel_rfl) hf rfl hS0 (fun x hS => ex_load hf rfl (by kernel_rfl) (hS.1.trans ((s_hB4.cell 2).trans rfl))) fun a hf => dV 3 rfl rfl hsel (by kernel_rfl) hf rfl (.inl hS0) (fun x => ex_index (sz := 1) (k := 0) (r := lo) hf Try.underlying23 (by kernel_rfl) rfl rfl rfl (by simp) rfl) fun a hf => dL 4 rfl rfl hsel (by kernel_rfl) hf rfl hS0 (fun x hS => ex_load hf rfl (by kernel_rfl) (hS.2.1.trans s_lb)) fun a hf => dV 5 rfl rfl hsel (by kernel_rfl) hf rfl (.inl hS0) (fun x => ex_fa (k := 1) (r := 1) hf rfl (by kernel_rfl) rfl) fun a hf => dL 6 rfl rfl hsel (by kernel_rfl) hf rfl hS0 (fun x hS => ex_load hf rfl (by kernel_rfl) (hS.2.2.trans ((s_hB4.cell 1).trans rfl))) fun a hf => dl_c 7 (by kernel_rfl) rfl hf rfl rfl rfl (by kernel_rfl) (putL (lead := l0) (tok := x) hP (by (try simp only [putP, List.length_append, List.length_cons, List.length_nil]); omega) (by (try simp only [putP, List.length_append, List.length_cons, List.length_nil]); omega) hE.now) ?_
  rintro _ w29 ⟨rfl, hPn, hEn⟩
  refine ⟨_, rfl, fun a hf => ?_⟩
  have hx28 := hEn.chg
  replace hB4 := hB4.chg hx28 (nm_blk hB4 rfl (Ne.symm ne_b_b3))
  replace hE := hE.trans hx28 (fun _ h => .inl h)
  obtain ⟨s27, es27⟩ : ∃ z, z = putP l0 x s21 := ⟨_, rfl⟩
  replace hPn : Pr Bs b (putP l0 x s21).1 (putP l0 x s21).2 w29 := hPn
  rw [← es27] at hPn
  have gs27 := put_len l0 x s21
  rw [← es27] at gs27
  obtain ⟨gs27, gs27'⟩ := gs27
  (try simp only [List.length_cons, List.length_nil, lsum] at gs27 gs27')
  replace hG := nlt gs27 (Nat.add_le_add_right hG _)
  replace hG' := nlt gs27' (Nat.add_le_add_right hG' _)
  clear gs27 gs27'
  clear hP; have hP := hPn; clear hPn hEn
  clear hS0
  have hS0 : w29.cell? ⟨b3, 2, none⟩ = w23.cell? ⟨b3, 2, none⟩ ∧ w29.cell? ⟨lb, lo, none⟩ = w23.cell? ⟨lb, lo, none⟩ ∧ w29.cell? ⟨b3, 1, none⟩ = w23.cell? ⟨b3, 1, none⟩ := ⟨(hB4.cell 2).trans (s_hB4.cell 2).symm, ((lead_now hL hE (j := 0) rfl).trans s_lb.symm), (hB4.cell 1).trans (s_hB4.cell 1).symm⟩
  refine ⟨.inl hS0, ?_⟩
  refine dl_done (by kernel_rfl) ?_
  clear hS0 hsel
  refine hK24 _ _ <| wR <| sM hf rfl rfl fun a hf => sV hf rfl (ex_fa (k := 3) (r := 3) hf rfl (by kernel_rfl) rfl) fun a hf => sV hf rfl (ex_loadB hf rfl (by kernel_rfl) hB4 rfl) fun a hf => sV hf rfl (ex_index (sz := 4) (k := 1) (r := ko + 4) hf Try.underlying24 (by kernel_rfl) rfl rfl rfl (by simp) rfl) fun a hf => ?_
  obtain ⟨d0, d1, d2, d3, hT, hK4⟩ := kid_now hK hR hE (i := 1) (t := k1) rfl
  have on_T := hT.one
  refine sV hf rfl (ex_loadN (cs := [d0, d1, d2, d3]) (m := 4) hf rfl (by kernel_rfl) rfl hK4) fun a hf => st_c hf rfl rfl rfl (by kernel_rfl) (ih k1 _ Bs b s27 d0 d1 d2 d3 (hks _ (by simp)).1 (hks _ (by simp)).2.1 (hks _ (by simp)).2.2 (by (try simp only [putP, List.length_append, List.length_cons, List.length_nil]); omega) (by (try simp only [putP, List.length_append, List.length_cons, List.length_nil]); omega) hP hT hE.now) ?_
  rintro _ w32 ⟨rfl, hPn, hEn⟩
  refine ⟨_, rfl, fun a hf => ?_⟩
  have hx31 := hEn.chg
  replace hB4 := hB4.chg hx31 (nm_blk hB4 rfl (Ne.symm ne_b_b3))
  replace hE := hE.trans hx31 (fun _ h => .inl h)
  obtain ⟨s30, es30⟩ : ∃ z, z = treeP k1 s27 := ⟨_, rfl⟩
  replace hPn : Pr Bs b (treeP k1 s27).1 (treeP k1 s27).2 w32 := hPn
  rw [← es30] at hPn
  have gs30 := tree_len (t := k1) (hks _ (by simp)).2.2 s27
  rw [← es30] at gs30
  obtain ⟨gs30, gs30'⟩ := gs30
  (try simp only [List.length_cons, List.length_nil, lsum] at gs30 gs30')
  replace hG := nlt gs30 (Nat.add_le_add_right hG _)
  replace hG' := nlt gs30' (Nat.add_le_add_right hG' _)
  clear gs30 gs30'
  clear hP; have hP := hPn; clear hPn hEn
  refine sN ?_
  have eq : treeP (.node 21 x [l0] [k0, k1]) s = s30 := by subst es30; subst es27; subst es21; rfl
  rw [eq]
  try simp only [Exit.then, Exit.inBlock]
  exact end_of (rs := []) hf rfl rfl ⟨rfl, hP, hE⟩
theorem t22 {N : Nat} (ih : TreeOk N) {w : World} {Bs b : Nat} {s : WS} {x : List UInt8} {l0 l1 : List UInt8} {k0 : Tree} {cs : List Value} {A B : Option Addr} {m n : Nat} (hks : ∀ t, t ∈ [k0] → tsize t ≤ N ∧ shapedT t = true ∧ leadedT t = true)
    (hl1 : s.2.length + 100 * (x.length + lsum [l0, l1] + kbulk [k0] + 1) ≤ 1000000000000) (hl2 : s.1.length + 100 * (x.length + lsum [l0, l1] + kbulk [k0] + 1) ≤ 1000000000000) (hP : Pr Bs b s.1 s.2 w) (hL : RowIn (fun b => b < Bs) w 1 A [l0, l1].length ([l0, l1].map strV)) (hn : [k0].length ≤ n) (hn2 : n ≤ maxLen) (hK : KidsAre (fun b => b < Bs) w [k0] cs) (hR : RowIn (fun b => b < Bs) w 4 B [k0].length cs) (hBw : Bs ≤ w.heap.size) :
    Calls Try.prog 61 [.pointer (some ⟨b, 0, none⟩), .agg #[.int .i64 22, strV x, .slice A [l0, l1].length m, .slice B [k0].length n]].toArray w fun e w' => e = .returned (.tuple #[]) ∧ Pr Bs b (treeP (.node 22 x [l0, l1] [k0]) s).1 (treeP (.node 22 x [l0, l1] [k0]) s).2 w' ∧ Prn Bs b w w' := by
  simp only [lsum, kbulk] at hl1 hl2
  have hE := Prn.refl (b := b) hBw
  have hG : s.2.length ≤ s.2.length := Nat.le_refl _
  have hG' : s.1.length ≤ s.1.length := Nat.le_refl _
  obtain ⟨lb, lo, rfl, _, hlb, _⟩ := hL.2 (by simp)
  obtain ⟨kb, ko, rfl, _, hkb, _⟩ := hR.2 (by simp)
  refine enter_fr 216 Try.func61 rfl rfl rfl ?_
  intro a hf
  refine wS fun K1 hK1 => wR ?_
  obtain ⟨w2, b3, he, hB4, hx5, eb6, lb7⟩ := ef_box (P := Try.prog) (t := 26) (x := (.tmp 1)) hf rfl rfl w 0
  refine sV hf rfl he fun a hf => ?_
  have ge_b3 := Prn.ge_new hE eb6
  have ne_b_b3 : b ≠ b3 := ne_new hP.lt eb6
  replace hP := hP.chg0 hx5
  replace hE := hE.t0 hx5
  clear eb6 lb7
  refine sN <| hK1 _ _ <| wS fun K8 hK8 => wR <| sV hf rfl (ex_fa (k := 0) (r := 0) hf rfl (by kernel_rfl) rfl) fun a hf => sV hf rfl (ex_loadB hf rfl (by kernel_rfl) hB4 rfl) fun a hf => sN <| hK8 _ _ <| wp_block <| wS fun K9 hK9 => wS fun K10 hK10 => wR <| sV hf rfl (ex_eqI (c := false) hf rfl rfl (by decide)) fun a hf => sA hf rfl rfl fun a hf => sN <| hK10 _ _ <| cF hf rfl <| wS fun K11 hK11 => wR <| sV hf rfl (ex_eqI (c := false) hf rfl rfl (by decide)) fun a hf => sA hf rfl rfl fun a hf => sN <| hK11 _ _ <| cF hf rfl <| wS fun K12 hK12 => wR <| sV hf rfl (ex_eqI (c := false) hf rfl rfl (by decide)) fun a hf => sA hf rfl rfl fun a hf => sN <| hK12 _ _ <| cF hf rfl <| wR <| sV hf rfl (ex_eqI (c := false) hf rfl rfl (by decide)) fun a hf => sA hf rfl rfl fun a hf => sN <| hK9 _ _ <| cF hf rfl <| wS fun K13 hK13 => wR <| sV hf rfl (ex_eqI (c := false) hf rfl rfl (by decide)) fun a hf => sA hf rfl rfl fun a hf => sN <| hK13 _ _ <| cF hf rfl <| wS fun K14 hK14 => wR <| sV hf rfl (ex_eqI (c := false) hf rfl rfl (by decide)) fun a hf => sA hf rfl rfl fun a hf => sN <| hK14 _ _ <| cF hf rfl <| wS fun K15 hK15 => wR <| sV hf rfl (ex_eqI (c := false) hf rfl rfl (by decide)) fun a hf => sA hf rfl rfl fun a hf => sN <| hK15 _ _ <| cF hf rfl <| wS fun K16 hK16 => wR <| sV hf rfl (ex_eqI (c := false) hf rfl rfl (by decide)) fun a hf => sA hf rfl rfl fun a hf => sN <| hK16 _ _ <| cF hf rfl <| wS fun K17 hK17 => wR <| sV hf rfl (ex_eqI (c := false) hf rfl rfl (by decide)) fun a hf => sA hf rfl rfl fun a hf => sN <| hK17 _ _ <| cF hf rfl <| wS fun K18 hK18 => wR <| sV hf rfl (ex_eqI (c := false) hf rfl rfl (by decide)) fun a hf => sA hf rfl rfl fun a hf => sN <| hK18 _ _ <| cF hf rfl <| wS fun K19 hK19 => wR <| sV hf rfl (ex_eqI (c := false) hf rfl rfl (by decide)) fun a hf => sA hf rfl rfl fun a hf => sN <| hK19 _ _ <| cF hf rfl <| wS fun K20 hK20 => ?_
  refine wR <| sV hf rfl (ex_eqI (c := true) hf rfl rfl (by decide)) fun a hf => sA hf rfl rfl fun a hf => sN <| hK20 _ _ <| cT hf rfl <| wS fun K21 hK21 => wR <| sM hf rfl rfl fun a hf => sV hf rfl (ex_fa (k := 2) (r := 2) hf rfl (by kernel_rfl) rfl) fun a hf => sV hf rfl (ex_loadB hf rfl (by kernel_rfl) hB4 rfl) fun a hf => sV hf rfl (ex_index (sz := 1) (k := 0) (r := lo) hf Try.underlying23 (by kernel_rfl) rfl rfl rfl (by simp) rfl) fun a hf => sV hf rfl (ex_load hf rfl (by kernel_rfl) (lead_now hL hE (j := 0) rfl)) fun a hf => st_c hf rfl rfl rfl (by kernel_rfl) (putL (lead := l0) (tok := [40]) hP (by (try simp only [putP, List.length_append, List.length_cons, List.length_nil]); omega) (by (try simp only [putP, List.length_append, List.length_cons, List.length_nil]); omega) hE.now) ?_
  rintro _ w24 ⟨rfl, hPn, hEn⟩
  refine ⟨_, rfl, fun a hf => ?_⟩
  have hx23 := hEn.chg
  replace hB4 := hB4.chg hx23 (nm_blk hB4 rfl (Ne.symm ne_b_b3))
  replace hE := hE.trans hx23 (fun _ h => .inl h)
  obtain ⟨s22, es22⟩ : ∃ z, z = putP l0 [40] s := ⟨_, rfl⟩
  replace hPn : Pr Bs b (putP l0 [40] s).1 (putP l0 [40] s).2 w24 := hPn
  rw [← es22] at hPn
  have gs22 := put_len l0 [40] s
  rw [← es22] at gs22
  obtain ⟨gs22, gs22'⟩ := gs22
  (try simp only [List.length_cons, List.length_nil, lsum] at gs22 gs22')
  replace hG := nlt gs22 (Nat.add_le_add_right hG _)
  replace hG' := nlt gs22' (Nat.add_le_add_right hG' _)
  clear gs22 gs22'
  clear hP; have hP := hPn; clear hPn hEn
  refine sN <| hK21 _ _ <| wS fun K25 hK25 => wR <| sM hf rfl rfl fun a hf => sV hf rfl (ex_fa (k := 3) (r := 3) hf rfl (by kernel_rfl) rfl) fun a hf => sV hf rfl (ex_loadB hf rfl (by kernel_rfl) hB4 rfl) fun a hf => sV hf rfl (ex_index (sz := 4) (k := 0) (r := ko) hf Try.underlying24 (by kernel_rfl) rfl rfl rfl (by simp) rfl) fun a hf => ?_
  obtain ⟨d0, d1, d2, d3, hT, hK4⟩ := kid_now hK hR hE (i := 0) (t := k0) rfl
  have on_T := hT.one
  refine sV hf rfl (ex_loadN (cs := [d0, d1, d2, d3]) (m := 4) hf rfl (by kernel_rfl) rfl hK4) fun a hf => st_c hf rfl rfl rfl (by kernel_rfl) (ih k0 _ Bs b s22 d0 d1 d2 d3 (hks _ (by simp)).1 (hks _ (by simp)).2.1 (hks _ (by simp)).2.2 (by (try simp only [putP, List.length_append, List.length_cons, List.length_nil]); omega) (by (try simp only [putP, List.length_append, List.length_cons, List.length_nil]); omega) hP hT hE.now) ?_
  rintro _ w28 ⟨rfl, hPn, hEn⟩
  refine ⟨_, rfl, fun a hf => ?_⟩
  have hx27 := hEn.chg
  replace hB4 := hB4.chg hx27 (nm_blk hB4 rfl (Ne.symm ne_b_b3))
  replace hE := hE.trans hx27 (fun _ h => .inl h)
  obtain ⟨s26, es26⟩ : ∃ z, z = treeP k0 s22 := ⟨_, rfl⟩
  replace hPn : Pr Bs b (treeP k0 s22).1 (treeP k0 s22).2 w28 := hPn
  rw [← es26] at hPn
  have gs26 := tree_len (t := k0) (hks _ (by simp)).2.2 s22
  rw [← es26] at gs26
  obtain ⟨gs26, gs26'⟩ := gs26
  (try simp only [List.length_cons, List.length_nil, lsum] at gs26 gs26')
  replace hG := nlt gs26 (Nat.add_le_add_right hG _)
  replace hG' := nlt gs26' (Nat.add_le_add_right hG' _)
  clear gs26 gs26'
  clear hP; have hP := hPn; clear hPn hEn
  refine sN <| hK25 _ _ <| wR <| sM hf rfl rfl fun a hf => sV hf rfl (ex_fa (k := 2) (r := 2) hf rfl (by kernel_rfl) rfl) fun a hf => sV hf rfl (ex_loadB hf rfl (by kernel_rfl) hB4 rfl) fun a hf => sV hf rfl (ex_index (sz := 1) (k := 1) (r := lo + 1) hf Try.underlying23 (by kernel_rfl) rfl rfl rfl (by simp) rfl) fun a hf => sV hf rfl (ex_load hf rfl (by kernel_rfl) (lead_now hL hE (j := 1) rfl)) fun a hf => st_c hf rfl rfl rfl (by kernel_rfl) (putL (lead := l1) (tok := [41]) hP (by (try simp only [putP, List.length_append, List.length_cons, List.length_nil]); omega) (by (try simp only [putP, List.length_append, List.length_cons, List.length_nil]); omega) hE.now) ?_
  rintro _ w31 ⟨rfl, hPn, hEn⟩
  refine ⟨_, rfl, fun a hf => ?_⟩
  have hx30 := hEn.chg
  replace hB4 := hB4.chg hx30 (nm_blk hB4 rfl (Ne.symm ne_b_b3))
  replace hE := hE.trans hx30 (fun _ h => .inl h)
  obtain ⟨s29, es29⟩ : ∃ z, z = putP l1 [41] s26 := ⟨_, rfl⟩
  replace hPn : Pr Bs b (putP l1 [41] s26).1 (putP l1 [41] s26).2 w31 := hPn
  rw [← es29] at hPn
  have gs29 := put_len l1 [41] s26
  rw [← es29] at gs29
  obtain ⟨gs29, gs29'⟩ := gs29
  (try simp only [List.length_cons, List.length_nil, lsum] at gs29 gs29')
  replace hG := nlt gs29 (Nat.add_le_add_right hG _)
  replace hG' := nlt gs29' (Nat.add_le_add_right hG' _)
  clear gs29 gs29'
  clear hP; have hP := hPn; clear hPn hEn
  refine sN ?_
  have eq : treeP (.node 22 x [l0, l1] [k0]) s = s29 := by subst es29; subst es26; subst es22; rfl
  rw [eq]
  try simp only [Exit.then, Exit.inBlock]
  exact end_of (rs := []) hf rfl rfl ⟨rfl, hP, hE⟩
theorem d3 {N : Nat} (ih : TreeOk N) {w : World} {Bs b : Nat} {s : WS} {x : List UInt8} {l0 l1 l2 : List UInt8} {k0 : Tree} {cs : List Value} {A B : Option Addr} {m n : Nat} (hks : ∀ t, t ∈ [k0] → tsize t ≤ N ∧ shapedT t = true ∧ leadedT t = true)
    (hl1 : s.2.length + 100 * (x.length + lsum [l0, l1, l2] + kbulk [k0] + 1) ≤ 1000000000000) (hl2 : s.1.length + 100 * (x.length + lsum [l0, l1, l2] + kbulk [k0] + 1) ≤ 1000000000000) (hP : Pr Bs b s.1 s.2 w) (hL : RowIn (fun b => b < Bs) w 1 A [l0, l1, l2].length ([l0, l1, l2].map strV)) (hn : [k0].length ≤ n) (hn2 : n ≤ maxLen) (hK : KidsAre (fun b => b < Bs) w [k0] cs) (hR : RowIn (fun b => b < Bs) w 4 B [k0].length cs) (hBw : Bs ≤ w.heap.size) :
    Calls Try.prog 91 [.pointer (some ⟨b, 0, none⟩), .agg #[.int .i64 3, strV x, .slice A [l0, l1, l2].length m, .slice B [k0].length n]].toArray w fun e w' => e = .returned (.tuple #[]) ∧ Pr Bs b (treeP (.node 3 x [l0, l1, l2] [k0]) s).1 (treeP (.node 3 x [l0, l1, l2] [k0]) s).2 w' ∧ Prn Bs b w w' := by
  simp only [lsum, kbulk] at hl1 hl2
  have hE := Prn.refl (b := b) hBw
  have hG : s.2.length ≤ s.2.length := Nat.le_refl _
  have hG' : s.1.length ≤ s.1.length := Nat.le_refl _
  obtain ⟨lb, lo, rfl, _, hlb, _⟩ := hL.2 (by simp)
  obtain ⟨kb, ko, rfl, _, hkb, _⟩ := hR.2 (by simp)
  refine enter_fr 161 Try.func91 rfl rfl rfl ?_
  intro a hf
  refine wS fun K1 hK1 => wR ?_
  obtain ⟨w2, b3, he, hB4, hx5, eb6, lb7⟩ := ef_box (P := Try.prog) (t := 26) (x := (.tmp 1)) hf rfl rfl w 0
  refine sV hf rfl he fun a hf => ?_
  have ge_b3 := Prn.ge_new hE eb6
  have ne_b_b3 : b ≠ b3 := ne_new hP.lt eb6
  replace hP := hP.chg0 hx5
  replace hE := hE.t0 hx5
  clear eb6 lb7
  refine sN <| hK1 _ _ <| wS fun K8 hK8 => wR <| sV hf rfl (ex_fa (k := 0) (r := 0) hf rfl (by kernel_rfl) rfl) fun a hf => sV hf rfl (ex_loadB hf rfl (by kernel_rfl) hB4 rfl) fun a hf => sN <| hK8 _ _ <| wp_block <| wS fun K9 hK9 => wR <| sV hf rfl (ex_eqI (c := false) hf rfl rfl (by decide)) fun a hf => sA hf rfl rfl fun a hf => sN <| hK9 _ _ <| cF hf rfl <| wS fun K10 hK10 => wR <| sV hf rfl (ex_eqI (c := false) hf rfl rfl (by decide)) fun a hf => sA hf rfl rfl fun a hf => sN <| hK10 _ _ <| cF hf rfl <| wS fun K11 hK11 => wR <| sV hf rfl (ex_eqI (c := true) hf rfl rfl (by decide)) fun a hf => sA hf rfl rfl fun a hf => sN <| hK11 _ _ <| cT hf rfl <| wS fun K12 hK12 => wR <| sM hf rfl rfl fun a hf => sV hf rfl (ex_fa (k := 2) (r := 2) hf rfl (by kernel_rfl) rfl) fun a hf => sV hf rfl (ex_loadB hf rfl (by kernel_rfl) hB4 rfl) fun a hf => sV hf rfl (ex_index (sz := 1) (k := 0) (r := lo) hf Try.underlying23 (by kernel_rfl) rfl rfl rfl (by simp) rfl) fun a hf => sV hf rfl (ex_load hf rfl (by kernel_rfl) (lead_now hL hE (j := 0) rfl)) fun a hf => st_c hf rfl rfl rfl (by kernel_rfl) (putL (lead := l0) (tok := [116, 121, 112, 101]) hP (by (try simp only [putP, List.length_append, List.length_cons, List.length_nil]); omega) (by (try simp only [putP, List.length_append, List.length_cons, List.length_nil]); omega) hE.now) ?_
  rintro _ w15 ⟨rfl, hPn, hEn⟩
  refine ⟨_, rfl, fun a hf => ?_⟩
  have hx14 := hEn.chg
  replace hB4 := hB4.chg hx14 (nm_blk hB4 rfl (Ne.symm ne_b_b3))
  replace hE := hE.trans hx14 (fun _ h => .inl h)
  obtain ⟨s13, es13⟩ : ∃ z, z = putP l0 [116, 121, 112, 101] s := ⟨_, rfl⟩
  replace hPn : Pr Bs b (putP l0 [116, 121, 112, 101] s).1 (putP l0 [116, 121, 112, 101] s).2 w15 := hPn
  rw [← es13] at hPn
  have gs13 := put_len l0 [116, 121, 112, 101] s
  rw [← es13] at gs13
  obtain ⟨gs13, gs13'⟩ := gs13
  (try simp only [List.length_cons, List.length_nil, lsum] at gs13 gs13')
  replace hG := nlt gs13 (Nat.add_le_add_right hG _)
  replace hG' := nlt gs13' (Nat.add_le_add_right hG' _)
  clear gs13 gs13'
  clear hP; have hP := hPn; clear hPn hEn
  refine sN <| hK12 _ _ <| wS fun K16 hK16 => ?_
  have s_lb := lead_now hL hE (j := 1) rfl
  have s_hB4 := hB4
  refine dl_start (fun x => x.cell? ⟨b3, 2, none⟩ = w15.cell? ⟨b3, 2, none⟩ ∧ x.cell? ⟨lb, lo + 1, none⟩ = w15.cell? ⟨lb, lo + 1, none⟩ ∧ x.cell? ⟨b3, 1, none⟩ = w15.cell? ⟨b3, 1, none⟩) 8 8 rfl (by kernel_rfl) (by kernel_rfl) ?_
  intro w17 hx18 hsel
  replace hB4 := hB4.c0 hx18
  replace hP := hP.chg0 hx18
  replace hE := hE.t0 hx18
  have hS0 : w17.cell? ⟨b3, 2, none⟩ = w15.cell? ⟨b3, 2, none⟩ ∧ w17.cell? ⟨lb, lo + 1, none⟩ = w15.cell? ⟨lb, lo + 1, none⟩ ∧ w17.cell? ⟨b3, 1, none⟩ = w15.cell? ⟨b3, 1, none⟩ := ⟨(hB4.cell 2).trans (s_hB4.cell 2).symm, ((lead_now hL hE (j := 1) rfl).trans s_lb.symm), (hB4.cell 1).trans (s_hB4.cell 1).symm⟩
  refine dM 0 rfl rfl hsel (by kernel_rfl) hf rfl hS0 rfl fun a hf => dV 1 rfl rfl hsel (by kernel_rfl) hf rfl (.inl hS0) (fun x => ex_fa (k := 2) (r := 2) hf rfl (by kernel_rfl) rfl) fun a hf => dL 2 rfl rfl hsel (by kernel_rfl) hf rfl hS0 (fun x hS => ex_load hf rfl (by kernel_rfl) (hS.1.trans ((s_hB4.cell 2).trans rfl))) fun a hf => dV 3 rfl rfl hsel (by kernel_rfl) hf rfl (.inl hS0) (fun x => ex_index (sz := 1) (k := 1) (r := lo + 1) hf Try.underlying23 (by kernel_rfl) rfl rfl rfl (by simp) rfl) fun a hf => dL 4 rfl rfl hsel (by kernel_rfl) hf rfl hS0 (fun x hS => ex_load hf rfl (by kernel_rfl) (hS.2.1.trans s_lb)) fun a hf => dV 5 rfl rfl hsel (by kernel_rfl) hf rfl (.inl hS0) (fun x => ex_fa (k := 1) (r := 1) hf rfl (by kernel_rfl) rfl) fun a hf => dL 6 rfl rfl hsel (by kernel_rfl) hf rfl hS0 (fun x hS => ex_load hf rfl (by kernel_rfl) (hS.2.2.trans ((s_hB4.cell 1).trans rfl))) fun a hf => dl_c 7 (by kernel_rfl) rfl hf rfl rfl rfl (by kernel_rfl) (putL (lead := l1) (tok := x) hP (by (try simp only [putP, List.length_append, List.length_cons, List.length_nil]); omega) (by (try simp only [putP, List.length_append, List.length_cons, List.length_nil]); omega) hE.now) ?_
  rintro _ w21 ⟨rfl, hPn, hEn⟩
  refine ⟨_, rfl, fun a hf => ?_⟩
  have hx20 := hEn.chg
  replace hB4 := hB4.chg hx20 (nm_blk hB4 rfl (Ne.symm ne_b_b3))
  replace hE := hE.trans hx20 (fun _ h => .inl h)
  obtain ⟨s19, es19⟩ : ∃ z, z = putP l1 x s13 := ⟨_, rfl⟩
  replace hPn : Pr Bs b (putP l1 x s13).1 (putP l1 x s13).2 w21 := hPn
  rw [← es19] at hPn
  have gs19 := put_len l1 x s13
  rw [← es19] at gs19
  obtain ⟨gs19, gs19'⟩ := gs19
  (try simp only [List.length_cons, List.length_nil, lsum] at gs19 gs19')
  replace hG := nlt gs19 (Nat.add_le_add_right hG _)
  replace hG' := nlt gs19' (Nat.add_le_add_right hG' _)
  clear gs19 gs19'
  clear hP; have hP := hPn; clear hPn hEn
  clear hS0
  have hS0 : w21.cell? ⟨b3, 2, none⟩ = w15.cell? ⟨b3, 2, none⟩ ∧ w21.cell? ⟨lb, lo + 1, none⟩ = w15.cell? ⟨lb, lo + 1, none⟩ ∧ w21.cell? ⟨b3, 1, none⟩ = w15.cell? ⟨b3, 1, none⟩ := ⟨(hB4.cell 2).trans (s_hB4.cell 2).symm, ((lead_now hL hE (j := 1) rfl).trans s_lb.symm), (hB4.cell 1).trans (s_hB4.cell 1).symm⟩
  refine ⟨.inl hS0, ?_⟩
  refine dl_done (by kernel_rfl) ?_
  clear hS0 hsel
  refine hK16 _ _ <| wS fun K22 hK22 => wR <| sM hf rfl rfl fun a hf => sV hf rfl (ex_fa (k := 2) (r := 2) hf rfl (by kernel_rfl) rfl) fun a hf => sV hf rfl (ex_loadB hf rfl (by kernel_rfl) hB4 rfl) fun a hf => sV hf rfl (ex_index (sz := 1) (k := 2) (r := lo + 2) hf Try.underlying23 (by kernel_rfl) rfl rfl rfl (by simp) rfl) fun a hf => sV hf rfl (ex_load hf rfl (by kernel_rfl) (lead_now hL hE (j := 2) rfl)) fun a hf => st_c hf rfl rfl rfl (by kernel_rfl) (putL (lead := l2) (tok := [61]) hP (by (try simp only [putP, List.length_append, List.length_cons, List.length_nil]); omega) (by (try simp only [putP, List.length_append, List.length_cons, List.length_nil]); omega) hE.now) ?_
  rintro _ w25 ⟨rfl, hPn, hEn⟩
  refine ⟨_, rfl, fun a hf => ?_⟩
  have hx24 := hEn.chg
  replace hB4 := hB4.chg hx24 (nm_blk hB4 rfl (Ne.symm ne_b_b3))
  replace hE := hE.trans hx24 (fun _ h => .inl h)
  obtain ⟨s23, es23⟩ : ∃ z, z = putP l2 [61] s19 := ⟨_, rfl⟩
  replace hPn : Pr Bs b (putP l2 [61] s19).1 (putP l2 [61] s19).2 w25 := hPn
  rw [← es23] at hPn
  have gs23 := put_len l2 [61] s19
  rw [← es23] at gs23
  obtain ⟨gs23, gs23'⟩ := gs23
  (try simp only [List.length_cons, List.length_nil, lsum] at gs23 gs23')
  replace hG := nlt gs23 (Nat.add_le_add_right hG _)
  replace hG' := nlt gs23' (Nat.add_le_add_right hG' _)
  clear gs23 gs23'
  clear hP; have hP := hPn; clear hPn hEn
  refine sN <| hK22 _ _ <| wR <| sM hf rfl rfl fun a hf => sV hf rfl (ex_fa (k := 3) (r := 3) hf rfl (by kernel_rfl) rfl) fun a hf => sV hf rfl (ex_loadB hf rfl (by kernel_rfl) hB4 rfl) fun a hf => sV hf rfl (ex_index (sz := 4) (k := 0) (r := ko) hf Try.underlying24 (by kernel_rfl) rfl rfl rfl (by simp) rfl) fun a hf => ?_
  obtain ⟨d0, d1, d2, d3, hT, hK4⟩ := kid_now hK hR hE (i := 0) (t := k0) rfl
  have on_T := hT.one
  refine sV hf rfl (ex_loadN (cs := [d0, d1, d2, d3]) (m := 4) hf rfl (by kernel_rfl) rfl hK4) fun a hf => st_c hf rfl rfl rfl (by kernel_rfl) (ih k0 _ Bs b s23 d0 d1 d2 d3 (hks _ (by simp)).1 (hks _ (by simp)).2.1 (hks _ (by simp)).2.2 (by (try simp only [putP, List.length_append, List.length_cons, List.length_nil]); omega) (by (try simp only [putP, List.length_append, List.length_cons, List.length_nil]); omega) hP hT hE.now) ?_
  rintro _ w28 ⟨rfl, hPn, hEn⟩
  refine ⟨_, rfl, fun a hf => ?_⟩
  have hx27 := hEn.chg
  replace hB4 := hB4.chg hx27 (nm_blk hB4 rfl (Ne.symm ne_b_b3))
  replace hE := hE.trans hx27 (fun _ h => .inl h)
  obtain ⟨s26, es26⟩ : ∃ z, z = treeP k0 s23 := ⟨_, rfl⟩
  replace hPn : Pr Bs b (treeP k0 s23).1 (treeP k0 s23).2 w28 := hPn
  rw [← es26] at hPn
  have gs26 := tree_len (t := k0) (hks _ (by simp)).2.2 s23
  rw [← es26] at gs26
  obtain ⟨gs26, gs26'⟩ := gs26
  (try simp only [List.length_cons, List.length_nil, lsum] at gs26 gs26')
  replace hG := nlt gs26 (Nat.add_le_add_right hG _)
  replace hG' := nlt gs26' (Nat.add_le_add_right hG' _)
  clear gs26 gs26'
  clear hP; have hP := hPn; clear hPn hEn
  refine sN ?_
  have eq : treeP (.node 3 x [l0, l1, l2] [k0]) s = s26 := by subst es26; subst es23; subst es19; subst es13; rfl
  rw [eq]
  try simp only [Exit.then, Exit.inBlock]
  exact end_of (rs := []) hf rfl rfl ⟨rfl, hP, hE⟩
theorem d4 {N : Nat} (ih : TreeOk N) {w : World} {Bs b : Nat} {s : WS} {x : List UInt8} {l0 l1 : List UInt8} {k0 : Tree} {cs : List Value} {A B : Option Addr} {m n : Nat} (hks : ∀ t, t ∈ [k0] → tsize t ≤ N ∧ shapedT t = true ∧ leadedT t = true)
    (hl1 : s.2.length + 100 * (x.length + lsum [l0, l1] + kbulk [k0] + 1) ≤ 1000000000000) (hl2 : s.1.length + 100 * (x.length + lsum [l0, l1] + kbulk [k0] + 1) ≤ 1000000000000) (hP : Pr Bs b s.1 s.2 w) (hL : RowIn (fun b => b < Bs) w 1 A [l0, l1].length ([l0, l1].map strV)) (hn : [k0].length ≤ n) (hn2 : n ≤ maxLen) (hK : KidsAre (fun b => b < Bs) w [k0] cs) (hR : RowIn (fun b => b < Bs) w 4 B [k0].length cs) (hBw : Bs ≤ w.heap.size) :
    Calls Try.prog 91 [.pointer (some ⟨b, 0, none⟩), .agg #[.int .i64 4, strV x, .slice A [l0, l1].length m, .slice B [k0].length n]].toArray w fun e w' => e = .returned (.tuple #[]) ∧ Pr Bs b (treeP (.node 4 x [l0, l1] [k0]) s).1 (treeP (.node 4 x [l0, l1] [k0]) s).2 w' ∧ Prn Bs b w w' := by
  simp only [lsum, kbulk] at hl1 hl2
  have hE := Prn.refl (b := b) hBw
  have hG : s.2.length ≤ s.2.length := Nat.le_refl _
  have hG' : s.1.length ≤ s.1.length := Nat.le_refl _
  obtain ⟨lb, lo, rfl, _, hlb, _⟩ := hL.2 (by simp)
  obtain ⟨kb, ko, rfl, _, hkb, _⟩ := hR.2 (by simp)
  refine enter_fr 161 Try.func91 rfl rfl rfl ?_
  intro a hf
  refine wS fun K1 hK1 => wR ?_
  obtain ⟨w2, b3, he, hB4, hx5, eb6, lb7⟩ := ef_box (P := Try.prog) (t := 26) (x := (.tmp 1)) hf rfl rfl w 0
  refine sV hf rfl he fun a hf => ?_
  have ge_b3 := Prn.ge_new hE eb6
  have ne_b_b3 : b ≠ b3 := ne_new hP.lt eb6
  replace hP := hP.chg0 hx5
  replace hE := hE.t0 hx5
  clear eb6 lb7
  refine sN <| hK1 _ _ <| wS fun K8 hK8 => wR <| sV hf rfl (ex_fa (k := 0) (r := 0) hf rfl (by kernel_rfl) rfl) fun a hf => sV hf rfl (ex_loadB hf rfl (by kernel_rfl) hB4 rfl) fun a hf => sN <| hK8 _ _ <| wp_block <| wS fun K9 hK9 => wR <| sV hf rfl (ex_eqI (c := false) hf rfl rfl (by decide)) fun a hf => sA hf rfl rfl fun a hf => sN <| hK9 _ _ <| cF hf rfl <| wS fun K10 hK10 => wR <| sV hf rfl (ex_eqI (c := false) hf rfl rfl (by decide)) fun a hf => sA hf rfl rfl fun a hf => sN <| hK10 _ _ <| cF hf rfl <| wS fun K11 hK11 => wR <| sV hf rfl (ex_eqI (c := false) hf rfl rfl (by decide)) fun a hf => sA hf rfl rfl fun a hf => sN <| hK11 _ _ <| cF hf rfl <| wS fun K12 hK12 => wR <| sV hf rfl (ex_eqI (c := true) hf rfl rfl (by decide)) fun a hf => sA hf rfl rfl fun a hf => sN <| hK12 _ _ <| cT hf rfl <| wS fun K13 hK13 => ?_
  have s_lb := lead_now hL hE (j := 0) rfl
  have s_hB4 := hB4
  refine dl_start (fun x => x.cell? ⟨b3, 2, none⟩ = w2.cell? ⟨b3, 2, none⟩ ∧ x.cell? ⟨lb, lo, none⟩ = w2.cell? ⟨lb, lo, none⟩ ∧ x.cell? ⟨b3, 1, none⟩ = w2.cell? ⟨b3, 1, none⟩) 8 8 rfl (by kernel_rfl) (by kernel_rfl) ?_
  intro w14 hx15 hsel
  replace hB4 := hB4.c0 hx15
  replace hP := hP.chg0 hx15
  replace hE := hE.t0 hx15
  have hS0 : w14.cell? ⟨b3, 2, none⟩ = w2.cell? ⟨b3, 2, none⟩ ∧ w14.cell? ⟨lb, lo, none⟩ = w2.cell? ⟨lb, lo, none⟩ ∧ w14.cell? ⟨b3, 1, none⟩ = w2.cell? ⟨b3, 1, none⟩ := ⟨(hB4.cell 2).trans (s_hB4.cell 2).symm, ((lead_now hL hE (j := 0) rfl).trans s_lb.symm), (hB4.cell 1).trans (s_hB4.cell 1).symm⟩
  refine dM 0 rfl rfl hsel (by kernel_rfl) hf rfl hS0 rfl fun a hf => dV 1 rfl rfl hsel (by kernel_rfl) hf rfl (.inl hS0) (fun x => ex_fa (k := 2) (r := 2) hf rfl (by kernel_rfl) rfl) fun a hf => dL 2 rfl rfl hsel (by kernel_rfl) hf rfl hS0 (fun x hS => ex_load hf rfl (by kernel_rfl) (hS.1.trans ((s_hB4.cell 2).trans rfl))) fun a hf => dV 3 rfl rfl hsel (by kernel_rfl) hf rfl (.inl hS0) (fun x => ex_index (sz := 1) (k := 0) (r := lo) hf Try.underlying23 (by kernel_rfl) rfl rfl rfl (by simp) rfl) fun a hf => dL 4 rfl rfl hsel (by kernel_rfl) hf rfl hS0 (fun x hS => ex_load hf rfl (by kernel_rfl) (hS.2.1.trans s_lb)) fun a hf => dV 5 rfl rfl hsel (by kernel_rfl) hf rfl (.inl hS0) (fun x => ex_fa (k := 1) (r := 1) hf rfl (by kernel_rfl) rfl) fun a hf => dL 6 rfl rfl hsel (by kernel_rfl) hf rfl hS0 (fun x hS => ex_load hf rfl (by kernel_rfl) (hS.2.2.trans ((s_hB4.cell 1).trans rfl))) fun a hf => dl_c 7 (by kernel_rfl) rfl hf rfl rfl rfl (by kernel_rfl) (putL (lead := l0) (tok := x) hP (by (try simp only [putP, List.length_append, List.length_cons, List.length_nil]); omega) (by (try simp only [putP, List.length_append, List.length_cons, List.length_nil]); omega) hE.now) ?_
  rintro _ w18 ⟨rfl, hPn, hEn⟩
  refine ⟨_, rfl, fun a hf => ?_⟩
  have hx17 := hEn.chg
  replace hB4 := hB4.chg hx17 (nm_blk hB4 rfl (Ne.symm ne_b_b3))
  replace hE := hE.trans hx17 (fun _ h => .inl h)
  obtain ⟨s16, es16⟩ : ∃ z, z = putP l0 x s := ⟨_, rfl⟩
  replace hPn : Pr Bs b (putP l0 x s).1 (putP l0 x s).2 w18 := hPn
  rw [← es16] at hPn
  have gs16 := put_len l0 x s
  rw [← es16] at gs16
  obtain ⟨gs16, gs16'⟩ := gs16
  (try simp only [List.length_cons, List.length_nil, lsum] at gs16 gs16')
  replace hG := nlt gs16 (Nat.add_le_add_right hG _)
  replace hG' := nlt gs16' (Nat.add_le_add_right hG' _)
  clear gs16 gs16'
  clear hP; have hP := hPn; clear hPn hEn
  clear hS0
  have hS0 : w18.cell? ⟨b3, 2, none⟩ = w2.cell? ⟨b3, 2, none⟩ ∧ w18.cell? ⟨lb, lo, none⟩ = w2.cell? ⟨lb, lo, none⟩ ∧ w18.cell? ⟨b3, 1, none⟩ = w2.cell? ⟨b3, 1, none⟩ := ⟨(hB4.cell 2).trans (s_hB4.cell 2).symm, ((lead_now hL hE (j := 0) rfl).trans s_lb.symm), (hB4.cell 1).trans (s_hB4.cell 1).symm⟩
  refine ⟨.inl hS0, ?_⟩
  refine dl_done (by kernel_rfl) ?_
  clear hS0 hsel
  refine hK13 _ _ <| wS fun K19 hK19 => wR <| sM hf rfl rfl fun a hf => sV hf rfl (ex_fa (k := 2) (r := 2) hf rfl (by kernel_rfl) rfl) fun a hf => sV hf rfl (ex_loadB hf rfl (by kernel_rfl) hB4 rfl) fun a hf => sV hf rfl (ex_index (sz := 1) (k := 1) (r := lo + 1) hf Try.underlying23 (by kernel_rfl) rfl rfl rfl (by simp) rfl) fun a hf => sV hf rfl (ex_load hf rfl (by kernel_rfl) (lead_now hL hE (j := 1) rfl)) fun a hf => st_c hf rfl rfl rfl (by kernel_rfl) (putL (lead := l1) (tok := [58]) hP (by (try simp only [putP, List.length_append, List.length_cons, List.length_nil]); omega) (by (try simp only [putP, List.length_append, List.length_cons, List.length_nil]); omega) hE.now) ?_
  rintro _ w22 ⟨rfl, hPn, hEn⟩
  refine ⟨_, rfl, fun a hf => ?_⟩
  have hx21 := hEn.chg
  replace hB4 := hB4.chg hx21 (nm_blk hB4 rfl (Ne.symm ne_b_b3))
  replace hE := hE.trans hx21 (fun _ h => .inl h)
  obtain ⟨s20, es20⟩ : ∃ z, z = putP l1 [58] s16 := ⟨_, rfl⟩
  replace hPn : Pr Bs b (putP l1 [58] s16).1 (putP l1 [58] s16).2 w22 := hPn
  rw [← es20] at hPn
  have gs20 := put_len l1 [58] s16
  rw [← es20] at gs20
  obtain ⟨gs20, gs20'⟩ := gs20
  (try simp only [List.length_cons, List.length_nil, lsum] at gs20 gs20')
  replace hG := nlt gs20 (Nat.add_le_add_right hG _)
  replace hG' := nlt gs20' (Nat.add_le_add_right hG' _)
  clear gs20 gs20'
  clear hP; have hP := hPn; clear hPn hEn
  refine sN <| hK19 _ _ <| wR <| sM hf rfl rfl fun a hf => sV hf rfl (ex_fa (k := 3) (r := 3) hf rfl (by kernel_rfl) rfl) fun a hf => sV hf rfl (ex_loadB hf rfl (by kernel_rfl) hB4 rfl) fun a hf => sV hf rfl (ex_index (sz := 4) (k := 0) (r := ko) hf Try.underlying24 (by kernel_rfl) rfl rfl rfl (by simp) rfl) fun a hf => ?_
  obtain ⟨d0, d1, d2, d3, hT, hK4⟩ := kid_now hK hR hE (i := 0) (t := k0) rfl
  have on_T := hT.one
  refine sV hf rfl (ex_loadN (cs := [d0, d1, d2, d3]) (m := 4) hf rfl (by kernel_rfl) rfl hK4) fun a hf => st_c hf rfl rfl rfl (by kernel_rfl) (ih k0 _ Bs b s20 d0 d1 d2 d3 (hks _ (by simp)).1 (hks _ (by simp)).2.1 (hks _ (by simp)).2.2 (by (try simp only [putP, List.length_append, List.length_cons, List.length_nil]); omega) (by (try simp only [putP, List.length_append, List.length_cons, List.length_nil]); omega) hP hT hE.now) ?_
  rintro _ w25 ⟨rfl, hPn, hEn⟩
  refine ⟨_, rfl, fun a hf => ?_⟩
  have hx24 := hEn.chg
  replace hB4 := hB4.chg hx24 (nm_blk hB4 rfl (Ne.symm ne_b_b3))
  replace hE := hE.trans hx24 (fun _ h => .inl h)
  obtain ⟨s23, es23⟩ : ∃ z, z = treeP k0 s20 := ⟨_, rfl⟩
  replace hPn : Pr Bs b (treeP k0 s20).1 (treeP k0 s20).2 w25 := hPn
  rw [← es23] at hPn
  have gs23 := tree_len (t := k0) (hks _ (by simp)).2.2 s20
  rw [← es23] at gs23
  obtain ⟨gs23, gs23'⟩ := gs23
  (try simp only [List.length_cons, List.length_nil, lsum] at gs23 gs23')
  replace hG := nlt gs23 (Nat.add_le_add_right hG _)
  replace hG' := nlt gs23' (Nat.add_le_add_right hG' _)
  clear gs23 gs23'
  clear hP; have hP := hPn; clear hPn hEn
  refine sN ?_
  have eq : treeP (.node 4 x [l0, l1] [k0]) s = s23 := by subst es23; subst es20; subst es16; rfl
  rw [eq]
  try simp only [Exit.then, Exit.inBlock]
  exact end_of (rs := []) hf rfl rfl ⟨rfl, hP, hE⟩
theorem tLeaf {N : Nat} {w : World} {Bs b : Nat} {s : WS} {k : Int} {x : List UInt8} {l0 : List UInt8} {cs : List Value} {A B : Option Addr} {m n : Nat} (hk : k = 5 ∨ k = 6 ∨ k = 7 ∨ k = 9 ∨ k = 10 ∨ k = 11 ∨ k = 12 ∨ k = 13 ∨ k = 14 ∨ k = 15) (hks : ∀ t, t ∈ ([] : List Tree) → tsize t ≤ N ∧ shapedT t = true ∧ leadedT t = true)
    (hl1 : s.2.length + 100 * (x.length + lsum [l0] + kbulk ([] : List Tree) + 1) ≤ 1000000000000) (hl2 : s.1.length + 100 * (x.length + lsum [l0] + kbulk ([] : List Tree) + 1) ≤ 1000000000000) (hP : Pr Bs b s.1 s.2 w) (hL : RowIn (fun b => b < Bs) w 1 A [l0].length ([l0].map strV)) (hn : ([] : List Tree).length ≤ n) (hn2 : n ≤ maxLen) (hK : KidsAre (fun b => b < Bs) w ([] : List Tree) cs) (hR : RowIn (fun b => b < Bs) w 4 B ([] : List Tree).length cs) (hBw : Bs ≤ w.heap.size) :
    Calls Try.prog 61 [.pointer (some ⟨b, 0, none⟩), .agg #[.int .i64 k, strV x, .slice A [l0].length m, .slice B ([] : List Tree).length n]].toArray w fun e w' => e = .returned (.tuple #[]) ∧ Pr Bs b (treeP (.node k x [l0] ([] : List Tree)) s).1 (treeP (.node k x [l0] ([] : List Tree)) s).2 w' ∧ Prn Bs b w w' := by
  simp only [lsum, kbulk] at hl1 hl2
  have sl := singleT_len k x
  have hE := Prn.refl (b := b) hBw
  have hG : s.2.length ≤ s.2.length := Nat.le_refl _
  have hG' : s.1.length ≤ s.1.length := Nat.le_refl _
  obtain ⟨lb, lo, rfl, _, hlb, _⟩ := hL.2 (by simp)
  refine enter_fr 216 Try.func61 rfl rfl rfl ?_
  intro a hf
  refine wS fun K1 hK1 => wR ?_
  obtain ⟨w2, b3, he, hB4, hx5, eb6, lb7⟩ := ef_box (P := Try.prog) (t := 26) (x := (.tmp 1)) hf rfl rfl w 0
  refine sV hf rfl he fun a hf => ?_
  have ge_b3 := Prn.ge_new hE eb6
  have ne_b_b3 : b ≠ b3 := ne_new hP.lt eb6
  replace hP := hP.chg0 hx5
  replace hE := hE.t0 hx5
  clear eb6 lb7
  refine sN <| hK1 _ _ <| wS fun K8 hK8 => wR <| sV hf rfl (ex_fa (k := 0) (r := 0) hf rfl (by kernel_rfl) rfl) fun a hf => sV hf rfl (ex_loadB hf rfl (by kernel_rfl) hB4 rfl) fun a hf => sN <| hK8 _ _ <| wp_block <| wS fun K9 hK9 => wS fun K10 hK10 => wR <| sV hf rfl (ex_eqI (c := false) hf rfl rfl (by simp; omega)) fun a hf => sA hf rfl rfl fun a hf => sN <| hK10 _ _ <| cF hf rfl <| wS fun K11 hK11 => wR <| sV hf rfl (ex_eqI (c := false) hf rfl rfl (by simp; omega)) fun a hf => sA hf rfl rfl fun a hf => sN <| hK11 _ _ <| cF hf rfl <| wS fun K12 hK12 => wR <| sV hf rfl (ex_eqI (c := false) hf rfl rfl (by simp; omega)) fun a hf => sA hf rfl rfl fun a hf => sN <| hK12 _ _ <| cF hf rfl <| wR <| sV hf rfl (ex_eqI (c := false) hf rfl rfl (by simp; omega)) fun a hf => sA hf rfl rfl fun a hf => sN <| hK9 _ _ <| cF hf rfl <| wS fun K13 hK13 => wR <| sV hf rfl (ex_eqI (c := false) hf rfl rfl (by simp; omega)) fun a hf => sA hf rfl rfl fun a hf => sN <| hK13 _ _ <| cF hf rfl <| wS fun K14 hK14 => wR <| sV hf rfl (ex_eqI (c := false) hf rfl rfl (by simp; omega)) fun a hf => sA hf rfl rfl fun a hf => sN <| hK14 _ _ <| cF hf rfl <| wS fun K15 hK15 => wR <| sV hf rfl (ex_eqI (c := false) hf rfl rfl (by simp; omega)) fun a hf => sA hf rfl rfl fun a hf => sN <| hK15 _ _ <| cF hf rfl <| wS fun K16 hK16 => wR <| sV hf rfl (ex_eqI (c := false) hf rfl rfl (by simp; omega)) fun a hf => sA hf rfl rfl fun a hf => sN <| hK16 _ _ <| cF hf rfl <| wS fun K17 hK17 => wR <| sV hf rfl (ex_eqI (c := false) hf rfl rfl (by simp; omega)) fun a hf => sA hf rfl rfl fun a hf => sN <| hK17 _ _ <| cF hf rfl <| wS fun K18 hK18 => wR <| sV hf rfl (ex_eqI (c := false) hf rfl rfl (by simp; omega)) fun a hf => sA hf rfl rfl fun a hf => sN <| hK18 _ _ <| cF hf rfl <| wS fun K19 hK19 => wR <| sV hf rfl (ex_eqI (c := false) hf rfl rfl (by simp; omega)) fun a hf => sA hf rfl rfl fun a hf => sN ?_
  refine hK19 _ _ <| cF hf rfl <| wS fun K20 hK20 => wR <| sV hf rfl (ex_eqI (c := false) hf rfl rfl (by simp; omega)) fun a hf => sA hf rfl rfl fun a hf => sN <| hK20 _ _ <| cF hf rfl ?_
  have s_lb := lead_now hL hE (j := 0) rfl
  have s_hB4 := hB4
  refine dl_start (fun x => x.cell? ⟨b3, 2, none⟩ = w2.cell? ⟨b3, 2, none⟩ ∧ x.cell? ⟨lb, lo, none⟩ = w2.cell? ⟨lb, lo, none⟩ ∧ x.cell? ⟨b3, 0, none⟩ = w2.cell? ⟨b3, 0, none⟩ ∧ x.cell? ⟨b3, 1, none⟩ = w2.cell? ⟨b3, 1, none⟩ ∧ x.cell? ⟨b3, 3, none⟩ = w2.cell? ⟨b3, 3, none⟩) 8 8 rfl (by kernel_rfl) (by kernel_rfl) ?_
  intro w21 hx22 hsel
  replace hB4 := hB4.c0 hx22
  replace hP := hP.chg0 hx22
  replace hE := hE.t0 hx22
  have hS0 : w21.cell? ⟨b3, 2, none⟩ = w2.cell? ⟨b3, 2, none⟩ ∧ w21.cell? ⟨lb, lo, none⟩ = w2.cell? ⟨lb, lo, none⟩ ∧ w21.cell? ⟨b3, 0, none⟩ = w2.cell? ⟨b3, 0, none⟩ ∧ w21.cell? ⟨b3, 1, none⟩ = w2.cell? ⟨b3, 1, none⟩ ∧ w21.cell? ⟨b3, 3, none⟩ = w2.cell? ⟨b3, 3, none⟩ := ⟨(hB4.cell 2).trans (s_hB4.cell 2).symm, ((lead_now hL hE (j := 0) rfl).trans s_lb.symm), (hB4.cell 0).trans (s_hB4.cell 0).symm, (hB4.cell 1).trans (s_hB4.cell 1).symm, (hB4.cell 3).trans (s_hB4.cell 3).symm⟩
  refine dM 0 rfl rfl hsel (by kernel_rfl) hf rfl hS0 rfl fun a hf => dV 1 rfl rfl hsel (by kernel_rfl) hf rfl (.inl hS0) (fun x => ex_fa (k := 2) (r := 2) hf rfl (by kernel_rfl) rfl) fun a hf => dL 2 rfl rfl hsel (by kernel_rfl) hf rfl hS0 (fun x hS => ex_load hf rfl (by kernel_rfl) (hS.1.trans ((s_hB4.cell 2).trans rfl))) fun a hf => dV 3 rfl rfl hsel (by kernel_rfl) hf rfl (.inl hS0) (fun x => ex_index (sz := 1) (k := 0) (r := lo) hf Try.underlying23 (by kernel_rfl) rfl rfl rfl (by simp) rfl) fun a hf => dL 4 rfl rfl hsel (by kernel_rfl) hf rfl hS0 (fun x hS => ex_load hf rfl (by kernel_rfl) (hS.2.1.trans s_lb)) fun a hf => dL 5 rfl rfl hsel (by kernel_rfl) hf rfl hS0 (fun x hS => ex_loadX4 hf rfl (by kernel_rfl) s_hB4 rfl hS.2.2.1 hS.2.2.2.1 hS.1 hS.2.2.2.2) fun a hf => dl_c 6 (by kernel_rfl) rfl hf rfl rfl rfl (by kernel_rfl) (singleL (k := k) (tx := x)) ?_
  rintro _ w24 ⟨rfl, hx23⟩
  refine ⟨_, rfl, fun a hf => ?_⟩
  replace hB4 := hB4.c0 hx23
  replace hP := hP.chg0 hx23
  replace hE := hE.t0 hx23
  clear hS0
  have hS0 : w24.cell? ⟨b3, 2, none⟩ = w2.cell? ⟨b3, 2, none⟩ ∧ w24.cell? ⟨lb, lo, none⟩ = w2.cell? ⟨lb, lo, none⟩ ∧ w24.cell? ⟨b3, 0, none⟩ = w2.cell? ⟨b3, 0, none⟩ ∧ w24.cell? ⟨b3, 1, none⟩ = w2.cell? ⟨b3, 1, none⟩ ∧ w24.cell? ⟨b3, 3, none⟩ = w2.cell? ⟨b3, 3, none⟩ := ⟨(hB4.cell 2).trans (s_hB4.cell 2).symm, ((lead_now hL hE (j := 0) rfl).trans s_lb.symm), (hB4.cell 0).trans (s_hB4.cell 0).symm, (hB4.cell 1).trans (s_hB4.cell 1).symm, (hB4.cell 3).trans (s_hB4.cell 3).symm⟩
  refine ⟨.inl hS0, ?_⟩
  refine dl_c 7 (by kernel_rfl) rfl hf rfl rfl rfl (by kernel_rfl) (putL (lead := l0) (tok := (singleT k x)) hP (by (try simp only [putP, List.length_append, List.length_cons, List.length_nil]); omega) (by (try simp only [putP, List.length_append, List.length_cons, List.length_nil]); omega) hE.now) ?_
  rintro _ w27 ⟨rfl, hPn, hEn⟩
  refine ⟨_, rfl, fun a hf => ?_⟩
  have hx26 := hEn.chg
  replace hB4 := hB4.chg hx26 (nm_blk hB4 rfl (Ne.symm ne_b_b3))
  replace hE := hE.trans hx26 (fun _ h => .inl h)
  obtain ⟨s25, es25⟩ : ∃ z, z = putP l0 (singleT k x) s := ⟨_, rfl⟩
  replace hPn : Pr Bs b (putP l0 (singleT k x) s).1 (putP l0 (singleT k x) s).2 w27 := hPn
  rw [← es25] at hPn
  have gs25 := put_len l0 (singleT k x) s
  rw [← es25] at gs25
  obtain ⟨gs25, gs25'⟩ := gs25
  (try simp only [List.length_cons, List.length_nil, lsum] at gs25 gs25')
  replace hG := nlt gs25 (Nat.add_le_add_right hG _)
  replace hG' := nlt gs25' (Nat.add_le_add_right hG' _)
  clear gs25 gs25'
  clear hP; have hP := hPn; clear hPn hEn
  clear hS0
  have hS0 : w27.cell? ⟨b3, 2, none⟩ = w2.cell? ⟨b3, 2, none⟩ ∧ w27.cell? ⟨lb, lo, none⟩ = w2.cell? ⟨lb, lo, none⟩ ∧ w27.cell? ⟨b3, 0, none⟩ = w2.cell? ⟨b3, 0, none⟩ ∧ w27.cell? ⟨b3, 1, none⟩ = w2.cell? ⟨b3, 1, none⟩ ∧ w27.cell? ⟨b3, 3, none⟩ = w2.cell? ⟨b3, 3, none⟩ := ⟨(hB4.cell 2).trans (s_hB4.cell 2).symm, ((lead_now hL hE (j := 0) rfl).trans s_lb.symm), (hB4.cell 0).trans (s_hB4.cell 0).symm, (hB4.cell 1).trans (s_hB4.cell 1).symm, (hB4.cell 3).trans (s_hB4.cell 3).symm⟩
  refine ⟨.inl hS0, ?_⟩
  refine dl_done (by kernel_rfl) ?_
  clear hS0 hsel
  have eq : treeP (.node k x [l0] ([] : List Tree)) s = s25 := by subst es25; rw [treeP, treesP]; simp only [nodeP]; rw [if_neg (by omega), if_neg (by omega), if_neg (by omega), if_neg (by omega), if_neg (by omega), if_neg (by omega), if_neg (by omega), if_neg (by omega), if_neg (by omega)]; rfl
  rw [eq]
  try simp only [Exit.then, Exit.inBlock]
  exact end_of (rs := []) hf rfl rfl ⟨rfl, hP, hE⟩
end Go.Proofs.Ythpjpngfghcmcaa
namespace Go.Proofs.Ythpjpngfghcmcaa
open Go.RowKit Lx Sx
set_option maxRecDepth 100000
set_option maxHeartbeats 4000000
theorem KidsAre.part {S : Nat → Prop} {w : World} : ∀ {a b : List Tree} {cs : List Value}, KidsAre S w (a ++ b) cs → ∃ c d, cs = c ++ d ∧ KidsAre S w a c ∧ KidsAre S w b d
  | [], b, cs, h => ⟨[], cs, rfl, rfl, h⟩
  | t :: r, b, cs, h => by
    simp only [List.cons_append, KidsAre] at h
    obtain ⟨c, d, e, h1, h2⟩ := h
    obtain ⟨c', d', e', h3, h4⟩ := KidsAre.part h2
    exact ⟨c ++ c', d', by rw [e, e', List.append_assoc], by simp only [KidsAre]; exact ⟨c, c', rfl, h1, h3⟩, h4⟩
theorem RowIn.now {Bs b : Nat} {w w' : World} {A : Option Addr} {sz n : Nat} {cs : List Value} (h : RowIn (fun b => b < Bs) w sz A n cs) (hE : Prn Bs b w w') : RowIn (fun b => b < Bs) w' sz A n cs := h.keepB (fun _ h _ => h) (fun _ hb _ => hE.below.block _ hb)
theorem KidsAre.now {Bs b : Nat} {w w' : World} {ks : List Tree} {cs : List Value} (h : KidsAre (fun b => b < Bs) w ks cs) (hE : Prn Bs b w w') : KidsAre (fun b => b < Bs) w' ks cs := h.keepB (fun _ h _ => h) (fun _ hb _ => hE.below.block _ hb)
theorem RowIn.part {S : Nat → Prop} {w : World} {A : Option Addr} {n n1 : Nat} {c d : List Value} (h : RowIn S w 4 A n (c ++ d)) (hc : c.length = n1 * 4) (hn : n1 ≤ n) : RowIn S w 4 A n1 c := by
  refine ⟨hc, fun h0 => ?_⟩
  obtain ⟨b, off, e, hS, hb, hcell⟩ := h.2 (by omega)
  refine ⟨b, off, e, hS, hb, fun j hj => ?_⟩
  rw [hcell j (by omega), List.getElem?_append_left (by omega)]
theorem kbulk_app : ∀ (a b : List Tree), kbulk (a ++ b) = kbulk a + kbulk b
  | [], b => by simp [kbulk]
  | t :: r, b => by simp only [List.cons_append, kbulk, kbulk_app r b]; omega
theorem ex_slH {P : Program} {a : Act} {w : World} {n : Nat} {f : Nat → Option Value} {ty : TypeId} {t e : TypeId} {x y : Operand} {A : Option Addr} {m c sz k : Nat} {i : Int} (h : Fr a n f) (ht : P.underlying t = some (.slice e)) (hz : sizeT P e = some sz) (hx : valF f x = some (.slice A m c)) (hy : valF f y = some (.int .i64 i)) (hi : i = (k : Int)) (hk : k ≤ c) :
    Runs P a ty (.slice t x none (some y) none) w (.value (.slice A k c)) w := fun _ _ _ _ => by
  subst hi
  obtain ⟨inf, hinf, hs⟩ := Option.map_eq_some_iff.1 (show (P.info? e).map (·.size) = some sz from hz)
  simp only [execOp, h.eval hx, Option.map_some, Option.map_none, h.eval hy]
  simp [Instr.sliceAt, Instr.slice, run_underlying ht, Instr.sliceBounds, run_sliceBound w .i64 (k : Int) c .sliceAcap (by omega) (by omega), sizeOf, typeInfo, hinf, hs]
  try (split <;> simp_all)
  try (cases A <;> simp)
  all_goals (intro _; unfold Addr.add; split <;> simp_all)
theorem t16 {N : Nat} (ih : TreeOk N) {w : World} {Bs b : Nat} {s : WS} {x : List UInt8} {l0 l1 l2 : List UInt8} {ms : List (List UInt8)} {ks : List Tree} {cs : List Value} {A B : Option Addr} {m n : Nat} (hcl : 3 + ks.length ≤ (l0 :: l1 :: l2 :: ms).length + 1) (hks : ∀ t, t ∈ ks → tsize t ≤ N ∧ shapedT t = true ∧ leadedT t = true)
    (hl1 : s.2.length + 100 * (x.length + lsum (l0 :: l1 :: l2 :: ms) + kbulk ks + 1) ≤ 1000000000000) (hl2 : s.1.length + 100 * (x.length + lsum (l0 :: l1 :: l2 :: ms) + kbulk ks + 1) ≤ 1000000000000) (hP : Pr Bs b s.1 s.2 w) (hL : RowIn (fun b => b < Bs) w 1 A (l0 :: l1 :: l2 :: ms).length ((l0 :: l1 :: l2 :: ms).map strV)) (hn : ks.length ≤ n) (hn2 : n ≤ maxLen) (hK : KidsAre (fun b => b < Bs) w ks cs) (hR : RowIn (fun b => b < Bs) w 4 B ks.length cs) (hBw : Bs ≤ w.heap.size) :
    Calls Try.prog 61 [.pointer (some ⟨b, 0, none⟩), .agg #[.int .i64 16, strV x, .slice A (l0 :: l1 :: l2 :: ms).length m, .slice B ks.length n]].toArray w fun e w' => e = .returned (.tuple #[]) ∧ Pr Bs b (treeP (.node 16 x (l0 :: l1 :: l2 :: ms) ks) s).1 (treeP (.node 16 x (l0 :: l1 :: l2 :: ms) ks) s).2 w' ∧ Prn Bs b w w' := by
  simp only [lsum, kbulk] at hl1 hl2
  have hgk : ∀ t, t ∈ ks → ∀ s, Gw (100 * tbulk t) s (treeP t s) := fun t ht s => Gw.tree _ t (Nat.le_refl _) (hks t ht).2.2 s
  have hKL := kbulk_len ks
  have hll := lsum_len ms
  have hcl' := hcl
  simp only [List.length_cons] at hcl'
  have hE := Prn.refl (b := b) hBw
  have hG : s.2.length ≤ s.2.length := Nat.le_refl _
  have hG' : s.1.length ≤ s.1.length := Nat.le_refl _
  obtain ⟨lb, lo, rfl, _, hlb, _⟩ := hL.2 (by simp)
  refine enter_fr 216 Try.func61 rfl rfl rfl ?_
  intro a hf
  refine wS fun K1 hK1 => wR ?_
  obtain ⟨w2, b3, he, hB4, hx5, eb6, lb7⟩ := ef_box (P := Try.prog) (t := 26) (x := (.tmp 1)) hf rfl rfl w 0
  refine sV hf rfl he fun a hf => ?_
  have ge_b3 := Prn.ge_new hE eb6
  have ne_b_b3 : b ≠ b3 := ne_new hP.lt eb6
  replace hP := hP.chg0 hx5
  replace hE := hE.t0 hx5
  clear eb6 lb7
  refine sN <| hK1 _ _ <| wS fun K8 hK8 => wR <| sV hf rfl (ex_fa (k := 0) (r := 0) hf rfl (by kernel_rfl) rfl) fun a hf => sV hf rfl (ex_loadB hf rfl (by kernel_rfl) hB4 rfl) fun a hf => sN <| hK8 _ _ <| wp_block <| wS fun K9 hK9 => wS fun K10 hK10 => wR <| sV hf rfl (ex_eqI (c := false) hf rfl rfl (by decide)) fun a hf => sA hf rfl rfl fun a hf => sN <| hK10 _ _ <| cF hf rfl <| wS fun K11 hK11 => wR <| sV hf rfl (ex_eqI (c := false) hf rfl rfl (by decide)) fun a hf => sA hf rfl rfl fun a hf => sN <| hK11 _ _ <| cF hf rfl <| wS fun K12 hK12 => wR <| sV hf rfl (ex_eqI (c := false) hf rfl rfl (by decide)) fun a hf => sA hf rfl rfl fun a hf => sN <| hK12 _ _ <| cF hf rfl <| wR <| sV hf rfl (ex_eqI (c := false) hf rfl rfl (by decide)) fun a hf => sA hf rfl rfl fun a hf => sN <| hK9 _ _ <| cF hf rfl <| wS fun K13 hK13 => wR <| sV hf rfl (ex_eqI (c := false) hf rfl rfl (by decide)) fun a hf => sA hf rfl rfl fun a hf => sN <| hK13 _ _ <| cF hf rfl <| wS fun K14 hK14 => wR <| sV hf rfl (ex_eqI (c := false) hf rfl rfl (by decide)) fun a hf => sA hf rfl rfl fun a hf => sN <| hK14 _ _ <| cF hf rfl <| wS fun K15 hK15 => wR <| sV hf rfl (ex_eqI (c := true) hf rfl rfl (by decide)) fun a hf => sA hf rfl rfl fun a hf => sN <| hK15 _ _ <| cT hf rfl <| wS fun K16 hK16 => ?_
  have s_lb := lead_now hL hE (j := 0) rfl
  have s_hB4 := hB4
  refine dl_start (fun x => x.cell? ⟨b3, 2, none⟩ = w2.cell? ⟨b3, 2, none⟩ ∧ x.cell? ⟨lb, lo, none⟩ = w2.cell? ⟨lb, lo, none⟩ ∧ x.cell? ⟨b3, 1, none⟩ = w2.cell? ⟨b3, 1, none⟩) 8 8 rfl (by kernel_rfl) (by kernel_rfl) ?_
  intro w17 hx18 hsel
  replace hB4 := hB4.c0 hx18
  replace hP := hP.chg0 hx18
  replace hE := hE.t0 hx18
  have hS0 : w17.cell? ⟨b3, 2, none⟩ = w2.cell? ⟨b3, 2, none⟩ ∧ w17.cell? ⟨lb, lo, none⟩ = w2.cell? ⟨lb, lo, none⟩ ∧ w17.cell? ⟨b3, 1, none⟩ = w2.cell? ⟨b3, 1, none⟩ := ⟨(hB4.cell 2).trans (s_hB4.cell 2).symm, ((lead_now hL hE (j := 0) rfl).trans s_lb.symm), (hB4.cell 1).trans (s_hB4.cell 1).symm⟩
  refine dM 0 rfl rfl hsel (by kernel_rfl) hf rfl hS0 rfl fun a hf => dV 1 rfl rfl hsel (by kernel_rfl) hf rfl (.inl hS0) (fun x => ex_fa (k := 2) (r := 2) hf rfl (by kernel_rfl) rfl) fun a hf => dL 2 rfl rfl hsel (by kernel_rfl) hf rfl hS0 (fun x hS => ex_load hf rfl (by kernel_rfl) (hS.1.trans ((s_hB4.cell 2).trans rfl))) fun a hf => dV 3 rfl rfl hsel (by kernel_rfl) hf rfl (.inl hS0) (fun x => ex_index (sz := 1) (k := 0) (r := lo) hf Try.underlying23 (by kernel_rfl) rfl rfl rfl (by simp) rfl) fun a hf => dL 4 rfl rfl hsel (by kernel_rfl) hf rfl hS0 (fun x hS => ex_load hf rfl (by kernel_rfl) (hS.2.1.trans s_lb)) fun a hf => dV 5 rfl rfl hsel (by kernel_rfl) hf rfl (.inl hS0) (fun x => ex_fa (k := 1) (r := 1) hf rfl (by kernel_rfl) rfl) fun a hf => dL 6 rfl rfl hsel (by kernel_rfl) hf rfl hS0 (fun x hS => ex_load hf rfl (by kernel_rfl) (hS.2.2.trans ((s_hB4.cell 1).trans rfl))) fun a hf => dl_c 7 (by kernel_rfl) rfl hf rfl rfl rfl (by kernel_rfl) (putL (lead := l0) (tok := x) hP (by (try simp only [putP, List.length_append, List.length_cons, List.length_nil]); omega) (by (try simp only [putP, List.length_append, List.length_cons, List.length_nil]); omega) hE.now) ?_
  rintro _ w21 ⟨rfl, hPn, hEn⟩
  refine ⟨_, rfl, fun a hf => ?_⟩
  have hx20 := hEn.chg
  replace hB4 := hB4.chg hx20 (nm_blk hB4 rfl (Ne.symm ne_b_b3))
  replace hE := hE.trans hx20 (fun _ h => .inl h)
  obtain ⟨s19, es19⟩ : ∃ z, z = putP l0 x s := ⟨_, rfl⟩
  replace hPn : Pr Bs b (putP l0 x s).1 (putP l0 x s).2 w21 := hPn
  rw [← es19] at hPn
  have gs19 := put_len l0 x s
  rw [← es19] at gs19
  obtain ⟨gs19, gs19'⟩ := gs19
  (try simp only [List.length_cons, List.length_nil, lsum] at gs19 gs19')
  replace hG := nlt gs19 (Nat.add_le_add_right hG _)
  replace hG' := nlt gs19' (Nat.add_le_add_right hG' _)
  clear gs19 gs19'
  clear hP; have hP := hPn; clear hPn hEn
  clear hS0
  have hS0 : w21.cell? ⟨b3, 2, none⟩ = w2.cell? ⟨b3, 2, none⟩ ∧ w21.cell? ⟨lb, lo, none⟩ = w2.cell? ⟨lb, lo, none⟩ ∧ w21.cell? ⟨b3, 1, none⟩ = w2.cell? ⟨b3, 1, none⟩ := ⟨(hB4.cell 2).trans (s_hB4.cell 2).symm, ((lead_now hL hE (j := 0) rfl).trans s_lb.symm), (hB4.cell 1).trans (s_hB4.cell 1).symm⟩
  refine ⟨.inl hS0, ?_⟩
  refine dl_done (by kernel_rfl) ?_
  clear hS0 hsel
  refine hK16 _ _ <| wS fun K22 hK22 => wR <| sM hf rfl rfl fun a hf => sV hf rfl (ex_fa (k := 2) (r := 2) hf rfl (by kernel_rfl) rfl) fun a hf => sV hf rfl (ex_loadB hf rfl (by kernel_rfl) hB4 rfl) fun a hf => sV hf rfl (ex_index (sz := 1) (k := 1) (r := lo + 1) hf Try.underlying23 (by kernel_rfl) rfl rfl rfl (by simp) rfl) fun a hf => sV hf rfl (ex_load hf rfl (by kernel_rfl) (lead_now hL hE (j := 1) rfl)) fun a hf => st_c hf rfl rfl rfl (by kernel_rfl) (putL (lead := l1) (tok := [40]) hP (by (try simp only [putP, List.length_append, List.length_cons, List.length_nil]); omega) (by (try simp only [putP, List.length_append, List.length_cons, List.length_nil]); omega) hE.now) ?_
  rintro _ w25 ⟨rfl, hPn, hEn⟩
  refine ⟨_, rfl, fun a hf => ?_⟩
  have hx24 := hEn.chg
  replace hB4 := hB4.chg hx24 (nm_blk hB4 rfl (Ne.symm ne_b_b3))
  replace hE := hE.trans hx24 (fun _ h => .inl h)
  obtain ⟨s23, es23⟩ : ∃ z, z = putP l1 [40] s19 := ⟨_, rfl⟩
  replace hPn : Pr Bs b (putP l1 [40] s19).1 (putP l1 [40] s19).2 w25 := hPn
  rw [← es23] at hPn
  have gs23 := put_len l1 [40] s19
  rw [← es23] at gs23
  obtain ⟨gs23, gs23'⟩ := gs23
  (try simp only [List.length_cons, List.length_nil, lsum] at gs23 gs23')
  replace hG := nlt gs23 (Nat.add_le_add_right hG _)
  replace hG' := nlt gs23' (Nat.add_le_add_right hG' _)
  clear gs23 gs23'
  clear hP; have hP := hPn; clear hPn hEn
  refine sN <| hK22 _ _ <| wS fun K26 hK26 => wR <| sM hf rfl rfl fun a hf => sV hf rfl (ex_loadBN (m := 4) hf rfl (by kernel_rfl) hB4 rfl) fun a hf => sV hf rfl (ex_fa (k := 3) (r := 3) hf rfl (by kernel_rfl) rfl) fun a hf => sV hf rfl (ex_loadB hf rfl (by kernel_rfl) hB4 rfl) fun a hf => ?_
  have hLn := hL.now hE
  have hKn := hK.now hE
  have hRn := hR.now hE
  refine st_c hf rfl rfl rfl (by kernel_rfl) (plistI ih (s := s23) (ls := (l0 :: l1 :: l2 :: ms)) (ks := ks) (c := 3) (ci := 3) (by decide) (by decide) (by decide) hcl hks (by simp only [lsum]; omega) (by simp only [lsum]; omega) hP hLn hKn hRn hE.now) ?_
  rintro _ w29 ⟨rfl, hPn, hEn⟩
  refine ⟨_, rfl, fun a hf => ?_⟩
  have hx28 := hEn.chg
  replace hB4 := hB4.chg hx28 (nm_blk hB4 rfl (Ne.symm ne_b_b3))
  replace hE := hE.trans hx28 (fun _ h => .inl h)
  obtain ⟨s27, es27⟩ : ∃ z, z = listP (l0 :: l1 :: l2 :: ms) 3 (treesP ks) 0 s23 := ⟨_, rfl⟩
  replace hPn : Pr Bs b (listP (l0 :: l1 :: l2 :: ms) 3 (treesP ks) 0 s23).1 (listP (l0 :: l1 :: l2 :: ms) 3 (treesP ks) 0 s23).2 w29 := hPn
  rw [← es27] at hPn
  have gs27 := list_len (ls := (l0 :: l1 :: l2 :: ms)) (c := 3) (by decide) hgk s23
  rw [← es27] at gs27
  obtain ⟨gs27, gs27'⟩ := gs27
  (try simp only [List.length_cons, List.length_nil, lsum] at gs27 gs27')
  replace hG := nlt gs27 (Nat.add_le_add_right hG _)
  replace hG' := nlt gs27' (Nat.add_le_add_right hG' _)
  clear gs27 gs27'
  clear hP; have hP := hPn; clear hPn hEn
  refine sN <| hK26 _ _ <| wR <| sM hf rfl rfl fun a hf => sV hf rfl (ex_fa (k := 2) (r := 2) hf rfl (by kernel_rfl) rfl) fun a hf => sV hf rfl (ex_loadB hf rfl (by kernel_rfl) hB4 rfl) fun a hf => sV hf rfl (ex_index (sz := 1) (k := 2) (r := lo + 2) hf Try.underlying23 (by kernel_rfl) rfl rfl rfl (by simp) rfl) fun a hf => sV hf rfl (ex_load hf rfl (by kernel_rfl) (lead_now hL hE (j := 2) rfl)) fun a hf => st_c hf rfl rfl rfl (by kernel_rfl) (putL (lead := l2) (tok := [41]) hP (by (try simp only [putP, List.length_append, List.length_cons, List.length_nil]); omega) (by (try simp only [putP, List.length_append, List.length_cons, List.length_nil]); omega) hE.now) ?_
  rintro _ w32 ⟨rfl, hPn, hEn⟩
  refine ⟨_, rfl, fun a hf => ?_⟩
  have hx31 := hEn.chg
  replace hB4 := hB4.chg hx31 (nm_blk hB4 rfl (Ne.symm ne_b_b3))
  replace hE := hE.trans hx31 (fun _ h => .inl h)
  obtain ⟨s30, es30⟩ : ∃ z, z = putP l2 [41] s27 := ⟨_, rfl⟩
  replace hPn : Pr Bs b (putP l2 [41] s27).1 (putP l2 [41] s27).2 w32 := hPn
  rw [← es30] at hPn
  have gs30 := put_len l2 [41] s27
  rw [← es30] at gs30
  obtain ⟨gs30, gs30'⟩ := gs30
  (try simp only [List.length_cons, List.length_nil, lsum] at gs30 gs30')
  replace hG := nlt gs30 (Nat.add_le_add_right hG _)
  replace hG' := nlt gs30' (Nat.add_le_add_right hG' _)
  clear gs30 gs30'
  clear hP; have hP := hPn; clear hPn hEn
  refine sN ?_
  have eq : treeP (.node 16 x (l0 :: l1 :: l2 :: ms) ks) s = s30 := by subst es30; subst es27; subst es23; subst es19; rw [treeP]; rfl
  rw [eq]
  try simp only [Exit.then, Exit.inBlock]
  exact end_of (rs := []) hf rfl rfl ⟨rfl, hP, hE⟩
theorem t18 {N : Nat} (ih : TreeOk N) {w : World} {Bs b : Nat} {s : WS} {x : List UInt8} {l0 l1 : List UInt8} {ms : List (List UInt8)} {ks : List Tree} {cs : List Value} {A B : Option Addr} {m n : Nat} (hcl : 2 + ks.length ≤ (l0 :: l1 :: ms).length + 1) (hks : ∀ t, t ∈ ks → tsize t ≤ N ∧ shapedT t = true ∧ leadedT t = true)
    (hl1 : s.2.length + 100 * (x.length + lsum (l0 :: l1 :: ms) + kbulk ks + 1) ≤ 1000000000000) (hl2 : s.1.length + 100 * (x.length + lsum (l0 :: l1 :: ms) + kbulk ks + 1) ≤ 1000000000000) (hP : Pr Bs b s.1 s.2 w) (hL : RowIn (fun b => b < Bs) w 1 A (l0 :: l1 :: ms).length ((l0 :: l1 :: ms).map strV)) (hn : ks.length ≤ n) (hn2 : n ≤ maxLen) (hK : KidsAre (fun b => b < Bs) w ks cs) (hR : RowIn (fun b => b < Bs) w 4 B ks.length cs) (hBw : Bs ≤ w.heap.size) :
    Calls Try.prog 61 [.pointer (some ⟨b, 0, none⟩), .agg #[.int .i64 18, strV x, .slice A (l0 :: l1 :: ms).length m, .slice B ks.length n]].toArray w fun e w' => e = .returned (.tuple #[]) ∧ Pr Bs b (treeP (.node 18 x (l0 :: l1 :: ms) ks) s).1 (treeP (.node 18 x (l0 :: l1 :: ms) ks) s).2 w' ∧ Prn Bs b w w' := by
  simp only [lsum, kbulk] at hl1 hl2
  have hgk : ∀ t, t ∈ ks → ∀ s, Gw (100 * tbulk t) s (treeP t s) := fun t ht s => Gw.tree _ t (Nat.le_refl _) (hks t ht).2.2 s
  have hKL := kbulk_len ks
  have hll := lsum_len ms
  have hcl' := hcl
  simp only [List.length_cons] at hcl'
  have hE := Prn.refl (b := b) hBw
  have hG : s.2.length ≤ s.2.length := Nat.le_refl _
  have hG' : s.1.length ≤ s.1.length := Nat.le_refl _
  obtain ⟨lb, lo, rfl, _, hlb, _⟩ := hL.2 (by simp)
  refine enter_fr 216 Try.func61 rfl rfl rfl ?_
  intro a hf
  refine wS fun K1 hK1 => wR ?_
  obtain ⟨w2, b3, he, hB4, hx5, eb6, lb7⟩ := ef_box (P := Try.prog) (t := 26) (x := (.tmp 1)) hf rfl rfl w 0
  refine sV hf rfl he fun a hf => ?_
  have ge_b3 := Prn.ge_new hE eb6
  have ne_b_b3 : b ≠ b3 := ne_new hP.lt eb6
  replace hP := hP.chg0 hx5
  replace hE := hE.t0 hx5
  clear eb6 lb7
  refine sN <| hK1 _ _ <| wS fun K8 hK8 => wR <| sV hf rfl (ex_fa (k := 0) (r := 0) hf rfl (by kernel_rfl) rfl) fun a hf => sV hf rfl (ex_loadB hf rfl (by kernel_rfl) hB4 rfl) fun a hf => sN <| hK8 _ _ <| wp_block <| wS fun K9 hK9 => wS fun K10 hK10 => wR <| sV hf rfl (ex_eqI (c := false) hf rfl rfl (by decide)) fun a hf => sA hf rfl rfl fun a hf => sN <| hK10 _ _ <| cF hf rfl <| wS fun K11 hK11 => wR <| sV hf rfl (ex_eqI (c := false) hf rfl rfl (by decide)) fun a hf => sA hf rfl rfl fun a hf => sN <| hK11 _ _ <| cF hf rfl <| wS fun K12 hK12 => wR <| sV hf rfl (ex_eqI (c := false) hf rfl rfl (by decide)) fun a hf => sA hf rfl rfl fun a hf => sN <| hK12 _ _ <| cF hf rfl <| wR <| sV hf rfl (ex_eqI (c := false) hf rfl rfl (by decide)) fun a hf => sA hf rfl rfl fun a hf => sN <| hK9 _ _ <| cF hf rfl <| wS fun K13 hK13 => wR <| sV hf rfl (ex_eqI (c := false) hf rfl rfl (by decide)) fun a hf => sA hf rfl rfl fun a hf => sN <| hK13 _ _ <| cF hf rfl <| wS fun K14 hK14 => wR <| sV hf rfl (ex_eqI (c := false) hf rfl rfl (by decide)) fun a hf => sA hf rfl rfl fun a hf => sN <| hK14 _ _ <| cF hf rfl <| wS fun K15 hK15 => wR <| sV hf rfl (ex_eqI (c := false) hf rfl rfl (by decide)) fun a hf => sA hf rfl rfl fun a hf => sN <| hK15 _ _ <| cF hf rfl <| wS fun K16 hK16 => wR <| sV hf rfl (ex_eqI (c := true) hf rfl rfl (by decide)) fun a hf => sA hf rfl rfl fun a hf => sN <| hK16 _ _ <| cT hf rfl <| wS fun K17 hK17 => wR <| sM hf rfl rfl fun a hf => sV hf rfl (ex_fa (k := 2) (r := 2) hf rfl (by kernel_rfl) rfl) fun a hf => sV hf rfl (ex_loadB hf rfl (by kernel_rfl) hB4 rfl) fun a hf => sV hf rfl (ex_index (sz := 1) (k := 0) (r := lo) hf Try.underlying23 (by kernel_rfl) rfl rfl rfl (by simp) rfl) fun a hf => sV hf rfl (ex_load hf rfl (by kernel_rfl) (lead_now hL hE (j := 0) rfl)) fun a hf => st_c hf rfl rfl rfl (by kernel_rfl) (putL (lead := l0) (tok := [91]) hP (by (try simp only [putP, List.length_append, List.length_cons, List.length_nil]); omega) (by (try simp only [putP, List.length_append, List.length_cons, List.length_nil]); omega) hE.now) ?_
  rintro _ w20 ⟨rfl, hPn, hEn⟩
  refine ⟨_, rfl, fun a hf => ?_⟩
  have hx19 := hEn.chg
  replace hB4 := hB4.chg hx19 (nm_blk hB4 rfl (Ne.symm ne_b_b3))
  replace hE := hE.trans hx19 (fun _ h => .inl h)
  obtain ⟨s18, es18⟩ : ∃ z, z = putP l0 [91] s := ⟨_, rfl⟩
  replace hPn : Pr Bs b (putP l0 [91] s).1 (putP l0 [91] s).2 w20 := hPn
  rw [← es18] at hPn
  have gs18 := put_len l0 [91] s
  rw [← es18] at gs18
  obtain ⟨gs18, gs18'⟩ := gs18
  (try simp only [List.length_cons, List.length_nil, lsum] at gs18 gs18')
  replace hG := nlt gs18 (Nat.add_le_add_right hG _)
  replace hG' := nlt gs18' (Nat.add_le_add_right hG' _)
  clear gs18 gs18'
  clear hP; have hP := hPn; clear hPn hEn
  refine sN <| hK17 _ _ <| wS fun K21 hK21 => wR <| sM hf rfl rfl fun a hf => sV hf rfl (ex_loadBN (m := 4) hf rfl (by kernel_rfl) hB4 rfl) fun a hf => sV hf rfl (ex_fa (k := 3) (r := 3) hf rfl (by kernel_rfl) rfl) fun a hf => sV hf rfl (ex_loadB hf rfl (by kernel_rfl) hB4 rfl) fun a hf => ?_
  have hLn := hL.now hE
  have hKn := hK.now hE
  have hRn := hR.now hE
  refine st_c hf rfl rfl rfl (by kernel_rfl) (plistI ih (s := s18) (ls := (l0 :: l1 :: ms)) (ks := ks) (c := 2) (ci := 2) (by decide) (by decide) (by decide) hcl hks (by simp only [lsum]; omega) (by simp only [lsum]; omega) hP hLn hKn hRn hE.now) ?_
  rintro _ w24 ⟨rfl, hPn, hEn⟩
  refine ⟨_, rfl, fun a hf => ?_⟩
  have hx23 := hEn.chg
  replace hB4 := hB4.chg hx23 (nm_blk hB4 rfl (Ne.symm ne_b_b3))
  replace hE := hE.trans hx23 (fun _ h => .inl h)
  obtain ⟨s22, es22⟩ : ∃ z, z = listP (l0 :: l1 :: ms) 2 (treesP ks) 0 s18 := ⟨_, rfl⟩
  replace hPn : Pr Bs b (listP (l0 :: l1 :: ms) 2 (treesP ks) 0 s18).1 (listP (l0 :: l1 :: ms) 2 (treesP ks) 0 s18).2 w24 := hPn
  rw [← es22] at hPn
  have gs22 := list_len (ls := (l0 :: l1 :: ms)) (c := 2) (by decide) hgk s18
  rw [← es22] at gs22
  obtain ⟨gs22, gs22'⟩ := gs22
  (try simp only [List.length_cons, List.length_nil, lsum] at gs22 gs22')
  replace hG := nlt gs22 (Nat.add_le_add_right hG _)
  replace hG' := nlt gs22' (Nat.add_le_add_right hG' _)
  clear gs22 gs22'
  clear hP; have hP := hPn; clear hPn hEn
  refine sN <| hK21 _ _ <| wR <| sM hf rfl rfl fun a hf => sV hf rfl (ex_fa (k := 2) (r := 2) hf rfl (by kernel_rfl) rfl) fun a hf => sV hf rfl (ex_loadB hf rfl (by kernel_rfl) hB4 rfl) fun a hf => sV hf rfl (ex_index (sz := 1) (k := 1) (r := lo + 1) hf Try.underlying23 (by kernel_rfl) rfl rfl rfl (by simp) rfl) fun a hf => sV hf rfl (ex_load hf rfl (by kernel_rfl) (lead_now hL hE (j := 1) rfl)) fun a hf => st_c hf rfl rfl rfl (by kernel_rfl) (putL (lead := l1) (tok := [93]) hP (by (try simp only [putP, List.length_append, List.length_cons, List.length_nil]); omega) (by (try simp only [putP, List.length_append, List.length_cons, List.length_nil]); omega) hE.now) ?_
  rintro _ w27 ⟨rfl, hPn, hEn⟩
  refine ⟨_, rfl, fun a hf => ?_⟩
  have hx26 := hEn.chg
  replace hB4 := hB4.chg hx26 (nm_blk hB4 rfl (Ne.symm ne_b_b3))
  replace hE := hE.trans hx26 (fun _ h => .inl h)
  obtain ⟨s25, es25⟩ : ∃ z, z = putP l1 [93] s22 := ⟨_, rfl⟩
  replace hPn : Pr Bs b (putP l1 [93] s22).1 (putP l1 [93] s22).2 w27 := hPn
  rw [← es25] at hPn
  have gs25 := put_len l1 [93] s22
  rw [← es25] at gs25
  obtain ⟨gs25, gs25'⟩ := gs25
  (try simp only [List.length_cons, List.length_nil, lsum] at gs25 gs25')
  replace hG := nlt gs25 (Nat.add_le_add_right hG _)
  replace hG' := nlt gs25' (Nat.add_le_add_right hG' _)
  clear gs25 gs25'
  clear hP; have hP := hPn; clear hPn hEn
  refine sN ?_
  have eq : treeP (.node 18 x (l0 :: l1 :: ms) ks) s = s25 := by subst es25; subst es22; subst es18; rw [treeP]; rfl
  rw [eq]
  try simp only [Exit.then, Exit.inBlock]
  exact end_of (rs := []) hf rfl rfl ⟨rfl, hP, hE⟩
theorem node2 (x : List UInt8) (ls : List (List UInt8)) (fs : List (WS → WS)) (f g : WS → WS) (s : WS) : nodeP 2 x ls (fs ++ [f, g]) s = g (putP (ls.getD 5 []) [61] (f (putP (ls.getD 4 []) [58] (putP (ls.getD 3 []) [41] (listP ls 6 fs 0 (putP (ls.getD 2 []) [40] (putP (ls.getD 1 []) x (putP (ls.getD 0 []) [100, 101, 102] s)))))))) := by
  unfold nodeP
  rw [if_pos (by decide)]
  unfold defnP
  dsimp only
  rw [if_neg (by decide), if_pos rfl]
  have k1 : (fs ++ [f, g]).length - 2 = fs.length := by simp
  have k2 : (fs ++ [f, g]).length - 1 = fs.length + 1 := by simp
  rw [k1, k2]
  have t1 : (fs ++ [f, g]).take fs.length = fs := by rw [List.take_append_of_le_length (Nat.le_refl _), List.take_length]
  have t2 : (fs ++ [f, g]).getD fs.length id = f := by rw [List.getD_eq_getElem?_getD, List.getElem?_append_right (Nat.le_refl _), Nat.sub_self]; rfl
  have t3 : (fs ++ [f, g]).getD (fs.length + 1) id = g := by rw [List.getD_eq_getElem?_getD, List.getElem?_append_right (by omega), show fs.length + 1 - fs.length = 1 from by omega]; rfl
  rw [t1, t2, t3]
theorem d2 {N : Nat} (ih : TreeOk N) {w : World} {Bs b : Nat} {s : WS} {x : List UInt8} {l0 l1 l2 l3 l4 l5 : List UInt8} {ms : List (List UInt8)} {k0 k1 : Tree} {ps : List Tree} {cs : List Value} {A B : Option Addr} {m n : Nat} (hcl : 6 + ps.length ≤ (l0 :: l1 :: l2 :: l3 :: l4 :: l5 :: ms).length + 1) (hks : ∀ t, t ∈ (ps ++ [k0, k1]) → tsize t ≤ N ∧ shapedT t = true ∧ leadedT t = true)
    (hl1 : s.2.length + 100 * (x.length + lsum (l0 :: l1 :: l2 :: l3 :: l4 :: l5 :: ms) + kbulk (ps ++ [k0, k1]) + 1) ≤ 1000000000000) (hl2 : s.1.length + 100 * (x.length + lsum (l0 :: l1 :: l2 :: l3 :: l4 :: l5 :: ms) + kbulk (ps ++ [k0, k1]) + 1) ≤ 1000000000000) (hP : Pr Bs b s.1 s.2 w) (hL : RowIn (fun b => b < Bs) w 1 A (l0 :: l1 :: l2 :: l3 :: l4 :: l5 :: ms).length ((l0 :: l1 :: l2 :: l3 :: l4 :: l5 :: ms).map strV)) (hn : (ps ++ [k0, k1]).length ≤ n) (hn2 : n ≤ maxLen) (hK : KidsAre (fun b => b < Bs) w (ps ++ [k0, k1]) cs) (hR : RowIn (fun b => b < Bs) w 4 B (ps ++ [k0, k1]).length cs) (hBw : Bs ≤ w.heap.size) :
    Calls Try.prog 91 [.pointer (some ⟨b, 0, none⟩), .agg #[.int .i64 2, strV x, .slice A (l0 :: l1 :: l2 :: l3 :: l4 :: l5 :: ms).length m, .slice B (ps ++ [k0, k1]).length n]].toArray w fun e w' => e = .returned (.tuple #[]) ∧ Pr Bs b (treeP (.node 2 x (l0 :: l1 :: l2 :: l3 :: l4 :: l5 :: ms) (ps ++ [k0, k1])) s).1 (treeP (.node 2 x (l0 :: l1 :: l2 :: l3 :: l4 :: l5 :: ms) (ps ++ [k0, k1])) s).2 w' ∧ Prn Bs b w w' := by
  simp only [lsum, kbulk] at hl1 hl2
  have hgk : ∀ t, t ∈ ps → ∀ s, Gw (100 * tbulk t) s (treeP t s) := fun t ht s => Gw.tree _ t (Nat.le_refl _) (hks t (by simp [ht])).2.2 s
  have hKL := kbulk_len ps
  simp only [kbulk_app, kbulk] at hl1 hl2
  have hll := lsum_len ms
  have hcl' := hcl
  simp only [List.length_cons] at hcl'
  obtain ⟨cs1, cs2, rfl, hKp, hKq⟩ := hK.part
  have hRp := hR.part hKp.length (by simp)
  have hE := Prn.refl (b := b) hBw
  have hG : s.2.length ≤ s.2.length := Nat.le_refl _
  have hG' : s.1.length ≤ s.1.length := Nat.le_refl _
  obtain ⟨lb, lo, rfl, _, hlb, _⟩ := hL.2 (by simp)
  obtain ⟨kb, ko, rfl, _, hkb, _⟩ := hR.2 (by simp)
  refine enter_fr 161 Try.func91 rfl rfl rfl ?_
  intro a hf
  refine wS fun K1 hK1 => wR ?_
  obtain ⟨w2, b3, he, hB4, hx5, eb6, lb7⟩ := ef_box (P := Try.prog) (t := 26) (x := (.tmp 1)) hf rfl rfl w 0
  refine sV hf rfl he fun a hf => ?_
  have ge_b3 := Prn.ge_new hE eb6
  have ne_b_b3 : b ≠ b3 := ne_new hP.lt eb6
  replace hP := hP.chg0 hx5
  replace hE := hE.t0 hx5
  clear eb6 lb7
  refine sN <| hK1 _ _ <| wS fun K8 hK8 => wR <| sV hf rfl (ex_fa (k := 0) (r := 0) hf rfl (by kernel_rfl) rfl) fun a hf => sV hf rfl (ex_loadB hf rfl (by kernel_rfl) hB4 rfl) fun a hf => sN <| hK8 _ _ <| wp_block <| wS fun K9 hK9 => wR <| sV hf rfl (ex_eqI (c := false) hf rfl rfl (by decide)) fun a hf => sA hf rfl rfl fun a hf => sN <| hK9 _ _ <| cF hf rfl <| wS fun K10 hK10 => wR <| sV hf rfl (ex_eqI (c := true) hf rfl rfl (by decide)) fun a hf => sA hf rfl rfl fun a hf => sN <| hK10 _ _ <| cT hf rfl <| wS fun K11 hK11 => wR <| sV hf rfl (ex_fa (k := 3) (r := 3) hf rfl (by kernel_rfl) rfl) fun a hf => sV hf rfl (ex_loadB hf rfl (by kernel_rfl) hB4 rfl) fun a hf => sV hf rfl (ex_len hf Try.underlying24 rfl) fun a hf => sA hf rfl rfl fun a hf => sN <| hK11 _ _ <| wS fun K12 hK12 => wR <| sM hf rfl rfl fun a hf => sV hf rfl (ex_fa (k := 2) (r := 2) hf rfl (by kernel_rfl) rfl) fun a hf => sV hf rfl (ex_loadB hf rfl (by kernel_rfl) hB4 rfl) fun a hf => sV hf rfl (ex_index (sz := 1) (k := 0) (r := lo) hf Try.underlying23 (by kernel_rfl) rfl rfl rfl (by simp) rfl) fun a hf => sV hf rfl (ex_load hf rfl (by kernel_rfl) (lead_now hL hE (j := 0) rfl)) fun a hf => st_c hf rfl rfl rfl (by kernel_rfl) (putL (lead := l0) (tok := [100, 101, 102]) hP (by (try simp only [putP, List.length_append, List.length_cons, List.length_nil]); omega) (by (try simp only [putP, List.length_append, List.length_cons, List.length_nil]); omega) hE.now) ?_
  rintro _ w15 ⟨rfl, hPn, hEn⟩
  refine ⟨_, rfl, fun a hf => ?_⟩
  have hx14 := hEn.chg
  replace hB4 := hB4.chg hx14 (nm_blk hB4 rfl (Ne.symm ne_b_b3))
  replace hE := hE.trans hx14 (fun _ h => .inl h)
  obtain ⟨s13, es13⟩ : ∃ z, z = putP l0 [100, 101, 102] s := ⟨_, rfl⟩
  replace hPn : Pr Bs b (putP l0 [100, 101, 102] s).1 (putP l0 [100, 101, 102] s).2 w15 := hPn
  rw [← es13] at hPn
  have gs13 := put_len l0 [100, 101, 102] s
  rw [← es13] at gs13
  obtain ⟨gs13, gs13'⟩ := gs13
  (try simp only [List.length_cons, List.length_nil, lsum] at gs13 gs13')
  replace hG := nlt gs13 (Nat.add_le_add_right hG _)
  replace hG' := nlt gs13' (Nat.add_le_add_right hG' _)
  clear gs13 gs13'
  clear hP; have hP := hPn; clear hPn hEn
  refine sN <| hK12 _ _ <| wS fun K16 hK16 => ?_
  have s_lb := lead_now hL hE (j := 1) rfl
  have s_hB4 := hB4
  refine dl_start (fun x => x.cell? ⟨b3, 2, none⟩ = w15.cell? ⟨b3, 2, none⟩ ∧ x.cell? ⟨lb, lo + 1, none⟩ = w15.cell? ⟨lb, lo + 1, none⟩ ∧ x.cell? ⟨b3, 1, none⟩ = w15.cell? ⟨b3, 1, none⟩) 8 8 rfl (by kernel_rfl) (by kernel_rfl) ?_
  intro w17 hx18 hsel
  replace hB4 := hB4.c0 hx18
  replace hP := hP.chg0 hx18
  replace hE := hE.t0 hx18
  have hS0 : w17.cell? ⟨b3, 2, none⟩ = w15.cell? ⟨b3, 2, none⟩ ∧ w17.cell? ⟨lb, lo + 1, none⟩ = w15.cell? ⟨lb, lo + 1, none⟩ ∧ w17.cell? ⟨b3, 1, none⟩ = w15.cell? ⟨b3, 1, none⟩ := ⟨(hB4.cell 2).trans (s_hB4.cell 2).symm, ((lead_now hL hE (j := 1) rfl).trans s_lb.symm), (hB4.cell 1).trans (s_hB4.cell 1).symm⟩
  refine dM 0 rfl rfl hsel (by kernel_rfl) hf rfl hS0 rfl fun a hf => dV 1 rfl rfl hsel (by kernel_rfl) hf rfl (.inl hS0) (fun x => ex_fa (k := 2) (r := 2) hf rfl (by kernel_rfl) rfl) fun a hf => dL 2 rfl rfl hsel (by kernel_rfl) hf rfl hS0 (fun x hS => ex_load hf rfl (by kernel_rfl) (hS.1.trans ((s_hB4.cell 2).trans rfl))) fun a hf => dV 3 rfl rfl hsel (by kernel_rfl) hf rfl (.inl hS0) (fun x => ex_index (sz := 1) (k := 1) (r := lo + 1) hf Try.underlying23 (by kernel_rfl) rfl rfl rfl (by simp) rfl) fun a hf => dL 4 rfl rfl hsel (by kernel_rfl) hf rfl hS0 (fun x hS => ex_load hf rfl (by kernel_rfl) (hS.2.1.trans s_lb)) fun a hf => dV 5 rfl rfl hsel (by kernel_rfl) hf rfl (.inl hS0) (fun x => ex_fa (k := 1) (r := 1) hf rfl (by kernel_rfl) rfl) fun a hf => dL 6 rfl rfl hsel (by kernel_rfl) hf rfl hS0 (fun x hS => ex_load hf rfl (by kernel_rfl) (hS.2.2.trans ((s_hB4.cell 1).trans rfl))) fun a hf => dl_c 7 (by kernel_rfl) rfl hf rfl rfl rfl (by kernel_rfl) (putL (lead := l1) (tok := x) hP (by (try simp only [putP, List.length_append, List.length_cons, List.length_nil]); omega) (by (try simp only [putP, List.length_append, List.length_cons, List.length_nil]); omega) hE.now) ?_
  rintro _ w21 ⟨rfl, hPn, hEn⟩
  refine ⟨_, rfl, fun a hf => ?_⟩
  have hx20 := hEn.chg
  replace hB4 := hB4.chg hx20 (nm_blk hB4 rfl (Ne.symm ne_b_b3))
  replace hE := hE.trans hx20 (fun _ h => .inl h)
  obtain ⟨s19, es19⟩ : ∃ z, z = putP l1 x s13 := ⟨_, rfl⟩
  replace hPn : Pr Bs b (putP l1 x s13).1 (putP l1 x s13).2 w21 := hPn
  rw [← es19] at hPn
  have gs19 := put_len l1 x s13
  rw [← es19] at gs19
  obtain ⟨gs19, gs19'⟩ := gs19
  (try simp only [List.length_cons, List.length_nil, lsum] at gs19 gs19')
  replace hG := nlt gs19 (Nat.add_le_add_right hG _)
  replace hG' := nlt gs19' (Nat.add_le_add_right hG' _)
  clear gs19 gs19'
  clear hP; have hP := hPn; clear hPn hEn
  clear hS0
  have hS0 : w21.cell? ⟨b3, 2, none⟩ = w15.cell? ⟨b3, 2, none⟩ ∧ w21.cell? ⟨lb, lo + 1, none⟩ = w15.cell? ⟨lb, lo + 1, none⟩ ∧ w21.cell? ⟨b3, 1, none⟩ = w15.cell? ⟨b3, 1, none⟩ := ⟨(hB4.cell 2).trans (s_hB4.cell 2).symm, ((lead_now hL hE (j := 1) rfl).trans s_lb.symm), (hB4.cell 1).trans (s_hB4.cell 1).symm⟩
  refine ⟨.inl hS0, ?_⟩
  refine dl_done (by kernel_rfl) ?_
  clear hS0 hsel
  refine hK16 _ _ <| wS fun K22 hK22 => wR <| sM hf rfl rfl fun a hf => sV hf rfl (ex_fa (k := 2) (r := 2) hf rfl (by kernel_rfl) rfl) fun a hf => sV hf rfl (ex_loadB hf rfl (by kernel_rfl) hB4 rfl) fun a hf => sV hf rfl (ex_index (sz := 1) (k := 2) (r := lo + 2) hf Try.underlying23 (by kernel_rfl) rfl rfl rfl (by simp) rfl) fun a hf => sV hf rfl (ex_load hf rfl (by kernel_rfl) (lead_now hL hE (j := 2) rfl)) fun a hf => st_c hf rfl rfl rfl (by kernel_rfl) (putL (lead := l2) (tok := [40]) hP (by (try simp only [putP, List.length_append, List.length_cons, List.length_nil]); omega) (by (try simp only [putP, List.length_append, List.length_cons, List.length_nil]); omega) hE.now) ?_
  rintro _ w25 ⟨rfl, hPn, hEn⟩
  refine ⟨_, rfl, fun a hf => ?_⟩
  have hx24 := hEn.chg
  replace hB4 := hB4.chg hx24 (nm_blk hB4 rfl (Ne.symm ne_b_b3))
  replace hE := hE.trans hx24 (fun _ h => .inl h)
  obtain ⟨s23, es23⟩ : ∃ z, z = putP l2 [40] s19 := ⟨_, rfl⟩
  replace hPn : Pr Bs b (putP l2 [40] s19).1 (putP l2 [40] s19).2 w25 := hPn
  rw [← es23] at hPn
  have gs23 := put_len l2 [40] s19
  rw [← es23] at gs23
  obtain ⟨gs23, gs23'⟩ := gs23
  (try simp only [List.length_cons, List.length_nil, lsum] at gs23 gs23')
  replace hG := nlt gs23 (Nat.add_le_add_right hG _)
  replace hG' := nlt gs23' (Nat.add_le_add_right hG' _)
  clear gs23 gs23'
  clear hP; have hP := hPn; clear hPn hEn
  refine sN <| hK22 _ _ <| wS fun K26 hK26 => ?_
  have s_hB4 := hB4
  refine dl_start (fun x => x.cell? ⟨b3, 0, none⟩ = w25.cell? ⟨b3, 0, none⟩ ∧ x.cell? ⟨b3, 1, none⟩ = w25.cell? ⟨b3, 1, none⟩ ∧ x.cell? ⟨b3, 2, none⟩ = w25.cell? ⟨b3, 2, none⟩ ∧ x.cell? ⟨b3, 3, none⟩ = w25.cell? ⟨b3, 3, none⟩) 8 8 rfl (by kernel_rfl) (by kernel_rfl) ?_
  intro w27 hx28 hsel
  replace hB4 := hB4.c0 hx28
  replace hP := hP.chg0 hx28
  replace hE := hE.t0 hx28
  have hS0 : w27.cell? ⟨b3, 0, none⟩ = w25.cell? ⟨b3, 0, none⟩ ∧ w27.cell? ⟨b3, 1, none⟩ = w25.cell? ⟨b3, 1, none⟩ ∧ w27.cell? ⟨b3, 2, none⟩ = w25.cell? ⟨b3, 2, none⟩ ∧ w27.cell? ⟨b3, 3, none⟩ = w25.cell? ⟨b3, 3, none⟩ := ⟨(hB4.cell 0).trans (s_hB4.cell 0).symm, (hB4.cell 1).trans (s_hB4.cell 1).symm, (hB4.cell 2).trans (s_hB4.cell 2).symm, (hB4.cell 3).trans (s_hB4.cell 3).symm⟩
  refine dM 0 rfl rfl hsel (by kernel_rfl) hf rfl hS0 rfl fun a hf => dL 1 rfl rfl hsel (by kernel_rfl) hf rfl hS0 (fun x hS => ex_loadX4 hf rfl (by kernel_rfl) s_hB4 rfl hS.1 hS.2.1 hS.2.2.1 hS.2.2.2) fun a hf => dV 2 rfl rfl hsel (by kernel_rfl) hf rfl (.inl hS0) (fun x => ex_fa (k := 3) (r := 3) hf rfl (by kernel_rfl) rfl) fun a hf => dL 3 rfl rfl hsel (by kernel_rfl) hf rfl hS0 (fun x hS => ex_load hf rfl (by kernel_rfl) (hS.2.2.2.trans ((s_hB4.cell 3).trans rfl))) fun a hf => dM 4 rfl rfl hsel (by kernel_rfl) hf rfl hS0 rfl fun a hf => dV 5 rfl rfl hsel (by kernel_rfl) hf rfl (.inl hS0) (fun x => ex_subI hf rfl rfl rfl (by simp only [List.length_append, List.length_cons, List.length_nil]; omega)) fun a hf => dV 6 rfl rfl hsel (by kernel_rfl) hf rfl (.inl hS0) (fun x => ex_slH (sz := 4) (k := ps.length) hf Try.underlying24 (by kernel_rfl) rfl rfl (by simp only [List.length_append, List.length_cons, List.length_nil]; omega) (by simp only [List.length_append, List.length_cons, List.length_nil] at hn; omega)) fun a hf => ?_
  have hLn := hL.now hE
  have hKn := hKp.now hE
  have hRn := hRp.now hE
  refine dl_c 7 (by kernel_rfl) rfl hf rfl rfl rfl (by kernel_rfl) (plistI ih (s := s23) (ls := (l0 :: l1 :: l2 :: l3 :: l4 :: l5 :: ms)) (ks := ps) (c := 6) (ci := 6) (by decide) (by decide) (by decide) hcl (fun t ht => hks t (by simp [ht])) (by simp only [lsum]; omega) (by simp only [lsum]; omega) hP hLn hKn hRn hE.now) ?_
  rintro _ w31 ⟨rfl, hPn, hEn⟩
  refine ⟨_, rfl, fun a hf => ?_⟩
  have hx30 := hEn.chg
  replace hB4 := hB4.chg hx30 (nm_blk hB4 rfl (Ne.symm ne_b_b3))
  replace hE := hE.trans hx30 (fun _ h => .inl h)
  obtain ⟨s29, es29⟩ : ∃ z, z = listP (l0 :: l1 :: l2 :: l3 :: l4 :: l5 :: ms) 6 (treesP ps) 0 s23 := ⟨_, rfl⟩
  replace hPn : Pr Bs b (listP (l0 :: l1 :: l2 :: l3 :: l4 :: l5 :: ms) 6 (treesP ps) 0 s23).1 (listP (l0 :: l1 :: l2 :: l3 :: l4 :: l5 :: ms) 6 (treesP ps) 0 s23).2 w31 := hPn
  rw [← es29] at hPn
  have gs29 := list_len (ls := (l0 :: l1 :: l2 :: l3 :: l4 :: l5 :: ms)) (c := 6) (by decide) hgk s23
  rw [← es29] at gs29
  obtain ⟨gs29, gs29'⟩ := gs29
  (try simp only [List.length_cons, List.length_nil, lsum] at gs29 gs29')
  replace hG := nlt gs29 (Nat.add_le_add_right hG _)
  replace hG' := nlt gs29' (Nat.add_le_add_right hG' _)
  clear gs29 gs29'
  clear hP; have hP := hPn; clear hPn hEn
  clear hS0
  have hS0 : w31.cell? ⟨b3, 0, none⟩ = w25.cell? ⟨b3, 0, none⟩ ∧ w31.cell? ⟨b3, 1, none⟩ = w25.cell? ⟨b3, 1, none⟩ ∧ w31.cell? ⟨b3, 2, none⟩ = w25.cell? ⟨b3, 2, none⟩ ∧ w31.cell? ⟨b3, 3, none⟩ = w25.cell? ⟨b3, 3, none⟩ := ⟨(hB4.cell 0).trans (s_hB4.cell 0).symm, (hB4.cell 1).trans (s_hB4.cell 1).symm, (hB4.cell 2).trans (s_hB4.cell 2).symm, (hB4.cell 3).trans (s_hB4.cell 3).symm⟩
  refine ⟨.inl hS0, ?_⟩
  refine dl_done (by kernel_rfl) ?_
  clear hS0 hsel
  refine hK26 _ _ <| wS fun K32 hK32 => wR <| sM hf rfl rfl fun a hf => sV hf rfl (ex_fa (k := 2) (r := 2) hf rfl (by kernel_rfl) rfl) fun a hf => sV hf rfl (ex_loadB hf rfl (by kernel_rfl) hB4 rfl) fun a hf => sV hf rfl (ex_index (sz := 1) (k := 3) (r := lo + 3) hf Try.underlying23 (by kernel_rfl) rfl rfl rfl (by simp) rfl) fun a hf => sV hf rfl (ex_load hf rfl (by kernel_rfl) (lead_now hL hE (j := 3) rfl)) fun a hf => st_c hf rfl rfl rfl (by kernel_rfl) (putL (lead := l3) (tok := [41]) hP (by (try simp only [putP, List.length_append, List.length_cons, List.length_nil]); omega) (by (try simp only [putP, List.length_append, List.length_cons, List.length_nil]); omega) hE.now) ?_
  rintro _ w35 ⟨rfl, hPn, hEn⟩
  refine ⟨_, rfl, fun a hf => ?_⟩
  have hx34 := hEn.chg
  replace hB4 := hB4.chg hx34 (nm_blk hB4 rfl (Ne.symm ne_b_b3))
  replace hE := hE.trans hx34 (fun _ h => .inl h)
  obtain ⟨s33, es33⟩ : ∃ z, z = putP l3 [41] s29 := ⟨_, rfl⟩
  replace hPn : Pr Bs b (putP l3 [41] s29).1 (putP l3 [41] s29).2 w35 := hPn
  rw [← es33] at hPn
  have gs33 := put_len l3 [41] s29
  rw [← es33] at gs33
  obtain ⟨gs33, gs33'⟩ := gs33
  (try simp only [List.length_cons, List.length_nil, lsum] at gs33 gs33')
  replace hG := nlt gs33 (Nat.add_le_add_right hG _)
  replace hG' := nlt gs33' (Nat.add_le_add_right hG' _)
  clear gs33 gs33'
  clear hP; have hP := hPn; clear hPn hEn
  refine sN <| hK32 _ _ <| wS fun K36 hK36 => wR <| sM hf rfl rfl fun a hf => sV hf rfl (ex_fa (k := 2) (r := 2) hf rfl (by kernel_rfl) rfl) fun a hf => sV hf rfl (ex_loadB hf rfl (by kernel_rfl) hB4 rfl) fun a hf => sV hf rfl (ex_index (sz := 1) (k := 4) (r := lo + 4) hf Try.underlying23 (by kernel_rfl) rfl rfl rfl (by simp) rfl) fun a hf => sV hf rfl (ex_load hf rfl (by kernel_rfl) (lead_now hL hE (j := 4) rfl)) fun a hf => st_c hf rfl rfl rfl (by kernel_rfl) (putL (lead := l4) (tok := [58]) hP (by (try simp only [putP, List.length_append, List.length_cons, List.length_nil]); omega) (by (try simp only [putP, List.length_append, List.length_cons, List.length_nil]); omega) hE.now) ?_
  rintro _ w39 ⟨rfl, hPn, hEn⟩
  refine ⟨_, rfl, fun a hf => ?_⟩
  have hx38 := hEn.chg
  replace hB4 := hB4.chg hx38 (nm_blk hB4 rfl (Ne.symm ne_b_b3))
  replace hE := hE.trans hx38 (fun _ h => .inl h)
  obtain ⟨s37, es37⟩ : ∃ z, z = putP l4 [58] s33 := ⟨_, rfl⟩
  replace hPn : Pr Bs b (putP l4 [58] s33).1 (putP l4 [58] s33).2 w39 := hPn
  rw [← es37] at hPn
  have gs37 := put_len l4 [58] s33
  rw [← es37] at gs37
  obtain ⟨gs37, gs37'⟩ := gs37
  (try simp only [List.length_cons, List.length_nil, lsum] at gs37 gs37')
  replace hG := nlt gs37 (Nat.add_le_add_right hG _)
  replace hG' := nlt gs37' (Nat.add_le_add_right hG' _)
  clear gs37 gs37'
  clear hP; have hP := hPn; clear hPn hEn
  refine sN <| hK36 _ _ <| wS fun K40 hK40 => wR <| sM hf rfl rfl fun a hf => sV hf rfl (ex_fa (k := 3) (r := 3) hf rfl (by kernel_rfl) rfl) fun a hf => sV hf rfl (ex_loadB hf rfl (by kernel_rfl) hB4 rfl) fun a hf => sM hf rfl rfl fun a hf => sV hf rfl (ex_subI hf rfl rfl rfl (by simp only [List.length_append, List.length_cons, List.length_nil]; omega)) fun a hf => sV hf rfl (ex_index (sz := 4) (k := ps.length) (r := ko + ps.length * 4) hf Try.underlying24 (by kernel_rfl) rfl rfl (by simp only [List.length_append, List.length_cons, List.length_nil]; omega) (by simp only [List.length_append, List.length_cons, List.length_nil]; omega) rfl) fun a hf => ?_
  obtain ⟨d0, d1, d2, d3, hT, hK4⟩ := kid_now hK hR hE (i := ps.length) (t := k0) (by simp)
  have on_T := hT.one
  refine sV hf rfl (ex_loadN (cs := [d0, d1, d2, d3]) (m := 4) hf rfl (by kernel_rfl) rfl hK4) fun a hf => st_c hf rfl rfl rfl (by kernel_rfl) (ih k0 _ Bs b s37 d0 d1 d2 d3 (hks _ (by simp)).1 (hks _ (by simp)).2.1 (hks _ (by simp)).2.2 (by (try simp only [putP, List.length_append, List.length_cons, List.length_nil]); omega) (by (try simp only [putP, List.length_append, List.length_cons, List.length_nil]); omega) hP hT hE.now) ?_
  rintro _ w43 ⟨rfl, hPn, hEn⟩
  refine ⟨_, rfl, fun a hf => ?_⟩
  have hx42 := hEn.chg
  replace hB4 := hB4.chg hx42 (nm_blk hB4 rfl (Ne.symm ne_b_b3))
  replace hE := hE.trans hx42 (fun _ h => .inl h)
  obtain ⟨s41, es41⟩ : ∃ z, z = treeP k0 s37 := ⟨_, rfl⟩
  replace hPn : Pr Bs b (treeP k0 s37).1 (treeP k0 s37).2 w43 := hPn
  rw [← es41] at hPn
  have gs41 := tree_len (t := k0) (hks _ (by simp)).2.2 s37
  rw [← es41] at gs41
  obtain ⟨gs41, gs41'⟩ := gs41
  (try simp only [List.length_cons, List.length_nil, lsum] at gs41 gs41')
  replace hG := nlt gs41 (Nat.add_le_add_right hG _)
  replace hG' := nlt gs41' (Nat.add_le_add_right hG' _)
  clear gs41 gs41'
  clear hP; have hP := hPn; clear hPn hEn
  refine sN <| hK40 _ _ <| wS fun K44 hK44 => wR <| sM hf rfl rfl fun a hf => sV hf rfl (ex_fa (k := 2) (r := 2) hf rfl (by kernel_rfl) rfl) fun a hf => sV hf rfl (ex_loadB hf rfl (by kernel_rfl) hB4 rfl) fun a hf => sV hf rfl (ex_index (sz := 1) (k := 5) (r := lo + 5) hf Try.underlying23 (by kernel_rfl) rfl rfl rfl (by simp) rfl) fun a hf => sV hf rfl (ex_load hf rfl (by kernel_rfl) (lead_now hL hE (j := 5) rfl)) fun a hf => st_c hf rfl rfl rfl (by kernel_rfl) (putL (lead := l5) (tok := [61]) hP (by (try simp only [putP, List.length_append, List.length_cons, List.length_nil]); omega) (by (try simp only [putP, List.length_append, List.length_cons, List.length_nil]); omega) hE.now) ?_
  rintro _ w47 ⟨rfl, hPn, hEn⟩
  refine ⟨_, rfl, fun a hf => ?_⟩
  have hx46 := hEn.chg
  replace hB4 := hB4.chg hx46 (nm_blk hB4 rfl (Ne.symm ne_b_b3))
  replace hE := hE.trans hx46 (fun _ h => .inl h)
  obtain ⟨s45, es45⟩ : ∃ z, z = putP l5 [61] s41 := ⟨_, rfl⟩
  replace hPn : Pr Bs b (putP l5 [61] s41).1 (putP l5 [61] s41).2 w47 := hPn
  rw [← es45] at hPn
  have gs45 := put_len l5 [61] s41
  rw [← es45] at gs45
  obtain ⟨gs45, gs45'⟩ := gs45
  (try simp only [List.length_cons, List.length_nil, lsum] at gs45 gs45')
  replace hG := nlt gs45 (Nat.add_le_add_right hG _)
  replace hG' := nlt gs45' (Nat.add_le_add_right hG' _)
  clear gs45 gs45'
  clear hP; have hP := hPn; clear hPn hEn
  refine sN <| hK44 _ _ <| wR <| sM hf rfl rfl fun a hf => sV hf rfl (ex_fa (k := 3) (r := 3) hf rfl (by kernel_rfl) rfl) fun a hf => sV hf rfl (ex_loadB hf rfl (by kernel_rfl) hB4 rfl) fun a hf => sM hf rfl rfl fun a hf => sV hf rfl (ex_subI hf rfl rfl rfl (by simp only [List.length_append, List.length_cons, List.length_nil]; omega)) fun a hf => sV hf rfl (ex_index (sz := 4) (k := (ps.length + 1)) (r := ko + (ps.length + 1) * 4) hf Try.underlying24 (by kernel_rfl) rfl rfl (by simp only [List.length_append, List.length_cons, List.length_nil]; omega) (by simp only [List.length_append, List.length_cons, List.length_nil]; omega) rfl) fun a hf => ?_
  obtain ⟨d0, d1, d2, d3, hT, hK4⟩ := kid_now hK hR hE (i := (ps.length + 1)) (t := k1) (by simp)
  have on_T := hT.one
  refine sV hf rfl (ex_loadN (cs := [d0, d1, d2, d3]) (m := 4) hf rfl (by kernel_rfl) rfl hK4) fun a hf => st_c hf rfl rfl rfl (by kernel_rfl) (ih k1 _ Bs b s45 d0 d1 d2 d3 (hks _ (by simp)).1 (hks _ (by simp)).2.1 (hks _ (by simp)).2.2 (by (try simp only [putP, List.length_append, List.length_cons, List.length_nil]); omega) (by (try simp only [putP, List.length_append, List.length_cons, List.length_nil]); omega) hP hT hE.now) ?_
  rintro _ w50 ⟨rfl, hPn, hEn⟩
  refine ⟨_, rfl, fun a hf => ?_⟩
  have hx49 := hEn.chg
  replace hB4 := hB4.chg hx49 (nm_blk hB4 rfl (Ne.symm ne_b_b3))
  replace hE := hE.trans hx49 (fun _ h => .inl h)
  obtain ⟨s48, es48⟩ : ∃ z, z = treeP k1 s45 := ⟨_, rfl⟩
  replace hPn : Pr Bs b (treeP k1 s45).1 (treeP k1 s45).2 w50 := hPn
  rw [← es48] at hPn
  have gs48 := tree_len (t := k1) (hks _ (by simp)).2.2 s45
  rw [← es48] at gs48
  obtain ⟨gs48, gs48'⟩ := gs48
  (try simp only [List.length_cons, List.length_nil, lsum] at gs48 gs48')
  replace hG := nlt gs48 (Nat.add_le_add_right hG _)
  replace hG' := nlt gs48' (Nat.add_le_add_right hG' _)
  clear gs48 gs48'
  clear hP; have hP := hPn; clear hPn hEn
  refine sN ?_
  have eq : treeP (.node 2 x (l0 :: l1 :: l2 :: l3 :: l4 :: l5 :: ms) (ps ++ [k0, k1])) s = s48 := by subst es48; subst es45; subst es41; subst es37; subst es33; subst es29; subst es23; subst es19; subst es13; rw [treeP, treesP_app, treesP, treesP, treesP, node2]; rfl
  rw [eq]
  try simp only [Exit.then, Exit.inBlock]
  exact end_of (rs := []) hf rfl rfl ⟨rfl, hP, hE⟩
end Go.Proofs.Ythpjpngfghcmcaa
namespace Go.Proofs.Ythpjpngfghcmcaa
open Go.RowKit Lx Sx
set_option maxRecDepth 100000
set_option maxHeartbeats 4000000
def foldP (ks : List Tree) (s : WS) : WS := (treesP ks).foldl (fun s f => f s) s
theorem fold_step {ks : List Tree} {i : Nat} (s : WS) (h : i < ks.length) : foldP (ks.take (i + 1)) s = treeP ks[i] (foldP (ks.take i) s) := by
  unfold foldP
  rw [List.take_succ_eq_append_getElem h, treesP_app, treesP, treesP, List.foldl_append]; rfl
theorem d1 {N : Nat} (ih : TreeOk N) {w : World} {Bs b : Nat} {s : WS} {x : List UInt8} {l0 l1 l2 : List UInt8} {ks : List Tree} {cs : List Value} {A B : Option Addr} {m n : Nat} (hks : ∀ t, t ∈ ks → tsize t ≤ N ∧ shapedT t = true ∧ leadedT t = true)
    (hl1 : s.2.length + 100 * (x.length + lsum [l0, l1, l2] + kbulk ks + 1) ≤ 1000000000000) (hl2 : s.1.length + 100 * (x.length + lsum [l0, l1, l2] + kbulk ks + 1) ≤ 1000000000000) (hP : Pr Bs b s.1 s.2 w) (hL : RowIn (fun b => b < Bs) w 1 A [l0, l1, l2].length ([l0, l1, l2].map strV)) (hn : ks.length ≤ n) (hn2 : n ≤ maxLen) (hK : KidsAre (fun b => b < Bs) w ks cs) (hR : RowIn (fun b => b < Bs) w 4 B ks.length cs) (hBw : Bs ≤ w.heap.size) :
    Calls Try.prog 91 [.pointer (some ⟨b, 0, none⟩), .agg #[.int .i64 1, strV x, .slice A [l0, l1, l2].length m, .slice B ks.length n]].toArray w fun e w' => e = .returned (.tuple #[]) ∧ Pr Bs b (treeP (.node 1 x [l0, l1, l2] ks) s).1 (treeP (.node 1 x [l0, l1, l2] ks) s).2 w' ∧ Prn Bs b w w' := by
  simp only [lsum, kbulk] at hl1 hl2
  have hgk : ∀ t, t ∈ ks → ∀ s, Gw (100 * tbulk t) s (treeP t s) := fun t ht s => Gw.tree _ t (Nat.le_refl _) (hks t ht).2.2 s
  have hKL := kbulk_len ks
  have hE := Prn.refl (b := b) hBw
  have hG : s.2.length ≤ s.2.length := Nat.le_refl _
  have hG' : s.1.length ≤ s.1.length := Nat.le_refl _
  obtain ⟨lb, lo, rfl, _, hlb, _⟩ := hL.2 (by simp)
  refine enter_fr 161 Try.func91 rfl rfl rfl ?_
  intro a hf
  refine wS fun K1 hK1 => ?_
  refine wR ?_
  obtain ⟨w2, b3, he, hB4, hx5, eb6, lb7⟩ := ef_box (P := Try.prog) (t := 26) (x := (.tmp 1)) hf rfl rfl w 0
  refine sV hf rfl he ?_
  clear he hf a; intro a hf
  have ge_b3 := Prn.ge_new hE eb6
  have ne_b_b3 : b ≠ b3 := ne_new hP.lt eb6
  replace hP := hP.chg0 hx5
  replace hE := hE.t0 hx5
  clear eb6 lb7
  refine sN ?_
  refine hK1 _ _ ?_
  refine wS fun K8 hK8 => ?_
  refine wR ?_
  refine sV hf rfl (ex_fa (k := 0) (r := 0) hf rfl (by kernel_rfl) rfl) ?_
  clear hf a; intro a hf
  refine sV hf rfl (ex_loadB hf rfl (by kernel_rfl) hB4 rfl) ?_
  clear hf a; intro a hf
  refine sN ?_
  refine hK8 _ _ ?_
  refine wp_block ?_
  refine wS fun K9 hK9 => ?_
  refine wR ?_
  refine sV hf rfl (ex_eqI (c := true) hf rfl rfl (by decide)) ?_
  clear hf a; intro a hf
  refine sA hf rfl rfl ?_
  clear hf a; intro a hf
  refine sN ?_
  refine hK9 _ _ ?_
  refine cT hf rfl ?_
  refine wS fun K10 hK10 => ?_
  refine wR ?_
  refine sM hf rfl rfl ?_
  clear hf a; intro a hf
  refine sV hf rfl (ex_fa (k := 2) (r := 2) hf rfl (by kernel_rfl) rfl) ?_
  clear hf a; intro a hf
  refine sV hf rfl (ex_loadB hf rfl (by kernel_rfl) hB4 rfl) ?_
  clear hf a; intro a hf
  refine sV hf rfl (ex_index (sz := 1) (k := 0) (r := lo) hf Try.underlying23 (by kernel_rfl) rfl rfl rfl (by simp) rfl) ?_
  clear hf a; intro a hf
  refine sV hf rfl (ex_load hf rfl (by kernel_rfl) (lead_now hL hE (j := 0) rfl)) ?_
  clear hf a; intro a hf
  refine st_c hf rfl rfl rfl (by kernel_rfl) (putL (lead := l0) (tok := [109, 111, 100, 117, 108, 101]) hP (by (try simp only [putP, List.length_append, List.length_cons, List.length_nil]); omega) (by (try simp only [putP, List.length_append, List.length_cons, List.length_nil]); omega) hE.now) ?_
  rintro _ w13 ⟨rfl, hPn, hEn⟩
  refine ⟨_, rfl, ?_⟩
  clear hf a; intro a hf
  have hx12 := hEn.chg
  replace hB4 := hB4.chg hx12 (nm_blk hB4 rfl (Ne.symm ne_b_b3))
  replace hE := hE.trans hx12 (fun _ h => .inl h)
  obtain ⟨s11, es11⟩ : ∃ z, z = putP l0 [109, 111, 100, 117, 108, 101] s := ⟨_, rfl⟩
  replace hPn : Pr Bs b (putP l0 [109, 111, 100, 117, 108, 101] s).1 (putP l0 [109, 111, 100, 117, 108, 101] s).2 w13 := hPn
  rw [← es11] at hPn
  have gs11 := put_len l0 [109, 111, 100, 117, 108, 101] s
  rw [← es11] at gs11
  obtain ⟨gs11, gs11'⟩ := gs11
  (try simp only [List.length_cons, List.length_nil, lsum] at gs11 gs11')
  replace hG := nlt gs11 (Nat.add_le_add_right hG _)
  replace hG' := nlt gs11' (Nat.add_le_add_right hG' _)
  clear gs11 gs11'
  clear hP; have hP := hPn; clear hPn hEn
  refine sN ?_
  refine hK10 _ _ ?_
  refine wS fun K14 hK14 => ?_
  have s_lb := lead_now hL hE (j := 1) rfl
  have s_hB4 := hB4
  refine dl_start (fun x => x.cell? ⟨b3, 2, none⟩ = w13.cell? ⟨b3, 2, none⟩ ∧ x.cell? ⟨lb, lo + 1, none⟩ = w13.cell? ⟨lb, lo + 1, none⟩ ∧ x.cell? ⟨b3, 1, none⟩ = w13.cell? ⟨b3, 1, none⟩) 8 8 rfl (by kernel_rfl) (by kernel_rfl) ?_
  intro w15 hx16 hsel
  replace hB4 := hB4.c0 hx16
  replace hP := hP.chg0 hx16
  replace hE := hE.t0 hx16
  have hS0 : w15.cell? ⟨b3, 2, none⟩ = w13.cell? ⟨b3, 2, none⟩ ∧ w15.cell? ⟨lb, lo + 1, none⟩ = w13.cell? ⟨lb, lo + 1, none⟩ ∧ w15.cell? ⟨b3, 1, none⟩ = w13.cell? ⟨b3, 1, none⟩ := ⟨(hB4.cell 2).trans (s_hB4.cell 2).symm, ((lead_now hL hE (j := 1) rfl).trans s_lb.symm), (hB4.cell 1).trans (s_hB4.cell 1).symm⟩
  refine dM 0 rfl rfl hsel (by kernel_rfl) hf rfl hS0 rfl ?_
  clear hf a; intro a hf
  refine dV 1 rfl rfl hsel (by kernel_rfl) hf rfl (.inl hS0) (fun x => ex_fa (k := 2) (r := 2) hf rfl (by kernel_rfl) rfl) ?_
  clear hf a; intro a hf
  refine dL 2 rfl rfl hsel (by kernel_rfl) hf rfl hS0 (fun x hS => ex_load hf rfl (by kernel_rfl) (hS.1.trans ((s_hB4.cell 2).trans rfl))) ?_
  clear hf a; intro a hf
  refine dV 3 rfl rfl hsel (by kernel_rfl) hf rfl (.inl hS0) (fun x => ex_index (sz := 1) (k := 1) (r := lo + 1) hf Try.underlying23 (by kernel_rfl) rfl rfl rfl (by simp) rfl) ?_
  clear hf a; intro a hf
  refine dL 4 rfl rfl hsel (by kernel_rfl) hf rfl hS0 (fun x hS => ex_load hf rfl (by kernel_rfl) (hS.2.1.trans s_lb)) ?_
  clear hf a; intro a hf
  refine dV 5 rfl rfl hsel (by kernel_rfl) hf rfl (.inl hS0) (fun x => ex_fa (k := 1) (r := 1) hf rfl (by kernel_rfl) rfl) ?_
  clear hf a; intro a hf
  refine dL 6 rfl rfl hsel (by kernel_rfl) hf rfl hS0 (fun x hS => ex_load hf rfl (by kernel_rfl) (hS.2.2.trans ((s_hB4.cell 1).trans rfl))) ?_
  clear hf a; intro a hf
  refine dl_c 7 (by kernel_rfl) rfl hf rfl rfl rfl (by kernel_rfl) (putL (lead := l1) (tok := x) hP (by (try simp only [putP, List.length_append, List.length_cons, List.length_nil]); omega) (by (try simp only [putP, List.length_append, List.length_cons, List.length_nil]); omega) hE.now) ?_
  rintro _ w19 ⟨rfl, hPn, hEn⟩
  refine ⟨_, rfl, ?_⟩
  clear hf a; intro a hf
  have hx18 := hEn.chg
  replace hB4 := hB4.chg hx18 (nm_blk hB4 rfl (Ne.symm ne_b_b3))
  replace hE := hE.trans hx18 (fun _ h => .inl h)
  obtain ⟨s17, es17⟩ : ∃ z, z = putP l1 x s11 := ⟨_, rfl⟩
  replace hPn : Pr Bs b (putP l1 x s11).1 (putP l1 x s11).2 w19 := hPn
  rw [← es17] at hPn
  have gs17 := put_len l1 x s11
  rw [← es17] at gs17
  obtain ⟨gs17, gs17'⟩ := gs17
  (try simp only [List.length_cons, List.length_nil, lsum] at gs17 gs17')
  replace hG := nlt gs17 (Nat.add_le_add_right hG _)
  replace hG' := nlt gs17' (Nat.add_le_add_right hG' _)
  clear gs17 gs17'
  clear hP; have hP := hPn; clear hPn hEn
  clear hS0
  have hS0 : w19.cell? ⟨b3, 2, none⟩ = w13.cell? ⟨b3, 2, none⟩ ∧ w19.cell? ⟨lb, lo + 1, none⟩ = w13.cell? ⟨lb, lo + 1, none⟩ ∧ w19.cell? ⟨b3, 1, none⟩ = w13.cell? ⟨b3, 1, none⟩ := ⟨(hB4.cell 2).trans (s_hB4.cell 2).symm, ((lead_now hL hE (j := 1) rfl).trans s_lb.symm), (hB4.cell 1).trans (s_hB4.cell 1).symm⟩
  refine ⟨.inl hS0, ?_⟩
  refine dl_done (by kernel_rfl) ?_
  clear hS0 hsel
  refine hK14 _ _ ?_
  refine wS fun K20 hK20 => ?_
  refine wS fun K21 hK21 => ?_
  refine wR ?_
  refine sV hf rfl (ex_fa (k := 3) (r := 3) hf rfl (by kernel_rfl) rfl) ?_
  clear hf a; intro a hf
  refine sV hf rfl (ex_loadB hf rfl (by kernel_rfl) hB4 rfl) ?_
  clear hf a; intro a hf
  refine sV hf rfl (ex_len hf Try.underlying24 rfl) ?_
  clear hf a; intro a hf
  refine sM hf rfl rfl ?_
  clear hf a; intro a hf
  refine sN ?_
  refine hK21 _ _ ?_
  refine wp_block ?_
  refine wp_loop_ghost (fun g a w' => ∃ i, Fr a 161 (fm [(0, .pointer (some ⟨b, 0, none⟩)), (3, .pointer (some ⟨b3, 0, none⟩)), (26, .slice B ks.length n), (27, .int .i64 (ks.length : Nat)), (28, .int .i64 (i : Nat))]) ∧ Prn Bs b w w' ∧ Blk w' b3 26 [.int .i64 1, strV x, .slice (some ⟨lb, lo, none⟩) [l0, l1, l2].length m, .slice B ks.length n] ∧ Pr Bs b (foldP (ks.take i) s17).1 (foldP (ks.take i) s17).2 w' ∧ i ≤ ks.length ∧ g = ks.length - i) _ ⟨0, hf.pick ⟨rfl, rfl, rfl, rfl, rfl, trivial⟩, hE, hB4, by simpa [foldP, treesP] using hP, Nat.zero_le _, rfl⟩ ?_
  obtain ⟨b5, eb5⟩ : ∃ x, b3 = x := ⟨_, rfl⟩
  rw [eb5]
  have ge_b5 : w.heap.size ≤ b5 := eb5 ▸ ge_b3
  have ne_b_b5 : b ≠ b5 := eb5 ▸ ne_b_b3
  clear eb5 hf a hP
  intro g0 a w' hI
  obtain ⟨i, hf, hE, hB5, hP, hi, rfl⟩ := hI
  by_cases hlt : i < ks.length
  obtain ⟨kb, ko, rfl, _, hkb, _⟩ := hR.2 (by omega)
  have hki : ks[i]? = some ks[i] := List.getElem?_eq_getElem hlt
  obtain ⟨d0, d1, d2, d3, hT, hK4⟩ := kid_now hK hR hE hki
  have on_T := hT.one
  have hmem : ks[i] ∈ ks := List.getElem_mem hlt
  have htt := kbulk_step hlt
  have hst := fold_step s17 hlt
  have hF := Gw.fold (ks.take i) (fun t ht => hgk t (List.mem_of_mem_take ht)) s17
  have hF1 : (foldP (ks.take i) s17).2.length ≤ _ := hF.1
  have hF2 : (foldP (ks.take i) s17).1.length ≤ _ := hF.2
  clear hF
  refine wS fun K22 hK22 => ?_
  refine wR ?_
  refine sV hf rfl (ex_ltI (c := true) hf rfl rfl (by simp; omega)) ?_
  clear hf a; intro a hf
  refine sN ?_
  refine hK22 _ _ ?_
  refine wS fun K23 hK23 => ?_
  refine cT hf rfl ?_
  refine wp_skip ?_
  refine hK23 _ _ ?_
  refine wS fun K24 hK24 => ?_
  refine wp_block ?_
  refine wS fun K25 hK25 => ?_
  refine wR ?_
  refine sV hf rfl (ex_index (sz := 4) (k := i) (r := ko + i * 4) hf Try.underlying24 (by kernel_rfl) rfl rfl rfl hlt rfl) ?_
  clear hf a; intro a hf
  refine sV hf rfl (ex_loadN (cs := [d0, d1, d2, d3]) (m := 4) hf rfl (by kernel_rfl) rfl hK4) ?_
  clear hf a; intro a hf
  obtain ⟨w26, b27, he, hB28, hx29, eb30, lb31⟩ := eT a w' 0
  refine sV hf rfl he ?_
  clear he hf a; intro a hf
  have ne_b5_b27 : b5 ≠ b27 := ne_new hB5.lt eb30
  have ge_b27 := Prn.ge_new hE eb30
  have ne_b_b27 : b ≠ b27 := ne_new hP.lt eb30
  replace hB5 := hB5.c0 hx29
  replace hP := hP.chg0 hx29
  replace hT := hT.chg hx29 (fun k hb hlt2 => nm0)
  replace hE := hE.t0 hx29
  clear eb30 lb31
  obtain ⟨w32, he, hB33, hx34⟩ := eN (.tmp 5) (.tmp 31) hf rfl rfl rfl on_T hB28 rfl 0
  refine st_s hf rfl rfl he ?_
  clear he hf a; intro a hf
  replace hB5 := hB5.chg hx34 (nmc ne_b5_b27 nm0)
  replace hP := hP.chgN hB28 (by decide) ne_b_b27 hx34
  replace hT := hT.chg hx34 (fun k hb hlt2 => (nmc (by have := hE.base; omega) nm0))
  replace hE := hE.trans hx34 (allc (.inr ge_b27) all0)
  clear hB28
  refine sN ?_
  refine hK25 _ _ ?_
  refine wR ?_
  refine sM hf rfl rfl ?_
  clear hf a; intro a hf
  refine sV hf rfl (ex_loadBN (m := 4) hf rfl (by kernel_rfl) hB33 rfl) ?_
  clear hf a; intro a hf
  refine st_c hf rfl rfl rfl (by kernel_rfl) (ih ks[i] _ Bs b (foldP (ks.take i) s17) d0 d1 d2 d3 (hks _ hmem).1 (hks _ hmem).2.1 (hks _ hmem).2.2 (by omega) (by omega) hP hT hE.now) ?_
  rintro _ w36 ⟨rfl, hPn, hEn⟩
  refine ⟨_, rfl, ?_⟩
  clear hf a; intro a hf
  have hx35 := hEn.chg
  replace hB5 := hB5.chg hx35 (nm_blk hB5 rfl (Ne.symm ne_b_b5))
  replace hB33 := hB33.chg hx35 (nm_blk hB33 rfl (Ne.symm ne_b_b27))
  replace hT := hT.chg hx35 (fun k hb hlt2 => (nm_low hb))
  replace hE := hE.trans hx35 (fun _ h => .inl h)
  clear hP; have hP : Pr Bs b (treeP ks[i] (foldP (ks.take i) s17)).1 (treeP ks[i] (foldP (ks.take i) s17)).2 w36 := hPn; clear hPn hEn
  refine sN ?_
  refine hK24 _ _ ?_
  refine wR ?_
  refine sV hf rfl (ex_addI hf rfl rfl rfl (by omega)) ?_
  clear hf a; intro a hf
  refine sM hf rfl rfl ?_
  clear hf a; intro a hf
  refine sN ?_
  rw [← hst] at hP
  exact ⟨_, (by omega : ks.length - (i + 1) < ks.length - i), i + 1, hf.pick ⟨rfl, rfl, rfl, rfl, rfl, trivial⟩, hE, hB5, hP, by omega, rfl⟩
  have hz : ks.take i = ks := List.take_of_length_le (by omega)
  rw [hz] at hP
  obtain ⟨sF, esF⟩ : ∃ z, z = foldP ks s17 := ⟨_, rfl⟩
  rw [← esF] at hP
  have hF := Gw.fold ks hgk s17
  have hF1 : (foldP ks s17).2.length ≤ _ := hF.1
  have hF2 : (foldP ks s17).1.length ≤ _ := hF.2
  rw [← esF] at hF1 hF2
  clear hF
  replace hG := nlt hF1 (Nat.add_le_add_right hG _)
  replace hG' := nlt hF2 (Nat.add_le_add_right hG' _)
  clear hF1 hF2
  refine wS fun K37 hK37 => ?_
  refine wR ?_
  refine sV hf rfl (ex_ltI (c := false) hf rfl rfl (by simp; omega)) ?_
  clear hf a; intro a hf
  refine sN ?_
  refine hK37 _ _ ?_
  refine wS fun K38 hK38 => ?_
  refine cF hf rfl ?_
  refine wp_exit ?_
  simp only [Exit.then, Exit.inBlock, ↓reduceIte, Nat.reduceEqDiff]
  refine hK20 _ _ ?_
  have s_lb := lead_now hL hE (j := 2) rfl
  have s_hB5 := hB5
  refine dl_start (fun x => x.cell? ⟨b5, 2, none⟩ = w'.cell? ⟨b5, 2, none⟩ ∧ x.cell? ⟨lb, lo + 2, none⟩ = w'.cell? ⟨lb, lo + 2, none⟩) 8 8 rfl (by kernel_rfl) (by kernel_rfl) ?_
  intro w39 hx40 hsel
  replace hB5 := hB5.c0 hx40
  replace hP := hP.chg0 hx40
  replace hE := hE.t0 hx40
  have hS0 : w39.cell? ⟨b5, 2, none⟩ = w'.cell? ⟨b5, 2, none⟩ ∧ w39.cell? ⟨lb, lo + 2, none⟩ = w'.cell? ⟨lb, lo + 2, none⟩ := ⟨(hB5.cell 2).trans (s_hB5.cell 2).symm, ((lead_now hL hE (j := 2) rfl).trans s_lb.symm)⟩
  refine dM 0 rfl rfl hsel (by kernel_rfl) hf rfl hS0 rfl ?_
  clear hf a; intro a hf
  refine dV 1 rfl rfl hsel (by kernel_rfl) hf rfl (.inl hS0) (fun x => ex_nil hf rfl) ?_
  clear hf a; intro a hf
  refine dV 2 rfl rfl hsel (by kernel_rfl) hf rfl (.inl hS0) (fun x => ex_fa (k := 0) (r := 0) hf rfl (by kernel_rfl) rfl) ?_
  clear hf a; intro a hf
  refine dV 3 rfl rfl hsel (by kernel_rfl) hf rfl (.inl hS0) (fun x => ex_fa (k := 2) (r := 2) hf rfl (by kernel_rfl) rfl) ?_
  clear hf a; intro a hf
  refine dL 4 rfl rfl hsel (by kernel_rfl) hf rfl hS0 (fun x hS => ex_load hf rfl (by kernel_rfl) (hS.1.trans ((s_hB5.cell 2).trans rfl))) ?_
  clear hf a; intro a hf
  refine dV 5 rfl rfl hsel (by kernel_rfl) hf rfl (.inl hS0) (fun x => ex_index (sz := 1) (k := 2) (r := lo + 2) hf Try.underlying23 (by kernel_rfl) rfl rfl rfl (by simp) rfl) ?_
  clear hf a; intro a hf
  refine dL 6 rfl rfl hsel (by kernel_rfl) hf rfl hS0 (fun x hS => ex_load hf rfl (by kernel_rfl) (hS.2.trans s_lb)) ?_
  clear hf a; intro a hf
  refine dl_c 7 (by kernel_rfl) rfl hf rfl rfl rfl (by kernel_rfl) (wsL (s := l2) hP (by omega) hE.now) ?_
  rintro _ w42 ⟨rfl, hPn, hx41, _⟩
  refine ⟨_, rfl, ?_⟩
  clear hf a; intro a hf
  replace hB5 := hB5.chg hx41 (nm_blk hB5 rfl (Ne.symm ne_b_b5))
  replace hE := hE.trans hx41 (fun _ h => .inl h)
  clear hP; have hP := hPn; clear hPn
  clear hS0
  have hS0 : w42.cell? ⟨b5, 2, none⟩ = w'.cell? ⟨b5, 2, none⟩ ∧ w42.cell? ⟨lb, lo + 2, none⟩ = w'.cell? ⟨lb, lo + 2, none⟩ := ⟨(hB5.cell 2).trans (s_hB5.cell 2).symm, ((lead_now hL hE (j := 2) rfl).trans s_lb.symm)⟩
  refine ⟨.inl hS0, ?_⟩
  refine dl_done (by kernel_rfl) ?_
  clear hS0 hsel
  have eq : treeP (.node 1 x [l0, l1, l2] ks) s = (sF.1, sF.2 ++ l2) := by subst esF; subst es17; subst es11; rw [treeP]; rfl
  rw [eq]
  try simp only [Exit.then, Exit.inBlock]
  exact end_of (rs := []) hf rfl rfl ⟨rfl, hP, hE⟩
theorem t1 {N : Nat} (ih : TreeOk N) {w : World} {Bs b : Nat} {s : WS} {x : List UInt8} {l0 l1 l2 : List UInt8} {ks : List Tree} {cs : List Value} {A B : Option Addr} {m n : Nat} (hks : ∀ t, t ∈ ks → tsize t ≤ N ∧ shapedT t = true ∧ leadedT t = true)
    (hl1 : s.2.length + 100 * (x.length + lsum [l0, l1, l2] + kbulk ks + 1) ≤ 1000000000000) (hl2 : s.1.length + 100 * (x.length + lsum [l0, l1, l2] + kbulk ks + 1) ≤ 1000000000000) (hP : Pr Bs b s.1 s.2 w) (hL : RowIn (fun b => b < Bs) w 1 A [l0, l1, l2].length ([l0, l1, l2].map strV)) (hn : ks.length ≤ n) (hn2 : n ≤ maxLen) (hK : KidsAre (fun b => b < Bs) w ks cs) (hR : RowIn (fun b => b < Bs) w 4 B ks.length cs) (hBw : Bs ≤ w.heap.size) :
    Calls Try.prog 61 [.pointer (some ⟨b, 0, none⟩), .agg #[.int .i64 1, strV x, .slice A [l0, l1, l2].length m, .slice B ks.length n]].toArray w fun e w' => e = .returned (.tuple #[]) ∧ Pr Bs b (treeP (.node 1 x [l0, l1, l2] ks) s).1 (treeP (.node 1 x [l0, l1, l2] ks) s).2 w' ∧ Prn Bs b w w' := by
  have hE := Prn.refl (b := b) hBw
  have hG : s.2.length ≤ s.2.length := Nat.le_refl _
  have hG' : s.1.length ≤ s.1.length := Nat.le_refl _
  obtain ⟨lb, lo, rfl, _, hlb, _⟩ := hL.2 (by simp)
  refine enter_fr 216 Try.func61 rfl rfl rfl ?_
  intro a hf
  refine wS fun K1 hK1 => wR ?_
  obtain ⟨w2, b3, he, hB4, hx5, eb6, lb7⟩ := ef_box (P := Try.prog) (t := 26) (x := (.tmp 1)) hf rfl rfl w 0
  refine sV hf rfl he fun a hf => ?_
  have ge_b3 := Prn.ge_new hE eb6
  have ne_b_b3 : b ≠ b3 := ne_new hP.lt eb6
  replace hP := hP.chg0 hx5
  replace hE := hE.t0 hx5
  clear eb6 lb7
  refine sN <| hK1 _ _ <| wS fun K8 hK8 => wR <| sV hf rfl (ex_fa (k := 0) (r := 0) hf rfl (by kernel_rfl) rfl) fun a hf => sV hf rfl (ex_loadB hf rfl (by kernel_rfl) hB4 rfl) fun a hf => sN <| hK8 _ _ <| wp_block <| wS fun K9 hK9 => wS fun K10 hK10 => wR <| sV hf rfl (ex_eqI (c := true) hf rfl rfl (by decide)) fun a hf => sA hf rfl rfl fun a hf => sN <| hK10 _ _ <| cT hf rfl <| wp_skip <| hK9 _ _ <| cT hf rfl <| wR <| sM hf rfl rfl fun a hf => sV hf rfl (ex_loadBN (m := 4) hf rfl (by kernel_rfl) hB4 rfl) fun a hf => ?_
  have hLn := hL.now hE
  have hKn := hK.now hE
  have hRn := hR.now hE
  refine st_c hf rfl rfl rfl (by kernel_rfl) (d1 ih  hks hl1 hl2 hP hLn hn hn2 hKn hRn hE.now) ?_
  rintro _ w13 ⟨rfl, hPn, hEn⟩
  refine ⟨_, rfl, fun a hf => ?_⟩
  have hx12 := hEn.chg
  replace hB4 := hB4.chg hx12 (nm_blk hB4 rfl (Ne.symm ne_b_b3))
  replace hE := hE.trans hx12 (fun _ h => .inl h)
  clear hP; have hP := hPn; clear hPn hEn
  refine sN ?_
  have eq : treeP (.node 1 x [l0, l1, l2] ks) s = treeP (.node 1 x [l0, l1, l2] ks) s := by rfl
  rw [eq]
  try simp only [Exit.then, Exit.inBlock]
  exact end_of (rs := []) hf rfl rfl ⟨rfl, hP, hE⟩
theorem t2 {N : Nat} (ih : TreeOk N) {w : World} {Bs b : Nat} {s : WS} {x : List UInt8} {l0 l1 l2 l3 l4 l5 : List UInt8} {ms : List (List UInt8)} {k0 k1 : Tree} {ps : List Tree} {cs : List Value} {A B : Option Addr} {m n : Nat} (hcl : 6 + ps.length ≤ (l0 :: l1 :: l2 :: l3 :: l4 :: l5 :: ms).length + 1) (hks : ∀ t, t ∈ (ps ++ [k0, k1]) → tsize t ≤ N ∧ shapedT t = true ∧ leadedT t = true)
    (hl1 : s.2.length + 100 * (x.length + lsum (l0 :: l1 :: l2 :: l3 :: l4 :: l5 :: ms) + kbulk (ps ++ [k0, k1]) + 1) ≤ 1000000000000) (hl2 : s.1.length + 100 * (x.length + lsum (l0 :: l1 :: l2 :: l3 :: l4 :: l5 :: ms) + kbulk (ps ++ [k0, k1]) + 1) ≤ 1000000000000) (hP : Pr Bs b s.1 s.2 w) (hL : RowIn (fun b => b < Bs) w 1 A (l0 :: l1 :: l2 :: l3 :: l4 :: l5 :: ms).length ((l0 :: l1 :: l2 :: l3 :: l4 :: l5 :: ms).map strV)) (hn : (ps ++ [k0, k1]).length ≤ n) (hn2 : n ≤ maxLen) (hK : KidsAre (fun b => b < Bs) w (ps ++ [k0, k1]) cs) (hR : RowIn (fun b => b < Bs) w 4 B (ps ++ [k0, k1]).length cs) (hBw : Bs ≤ w.heap.size) :
    Calls Try.prog 61 [.pointer (some ⟨b, 0, none⟩), .agg #[.int .i64 2, strV x, .slice A (l0 :: l1 :: l2 :: l3 :: l4 :: l5 :: ms).length m, .slice B (ps ++ [k0, k1]).length n]].toArray w fun e w' => e = .returned (.tuple #[]) ∧ Pr Bs b (treeP (.node 2 x (l0 :: l1 :: l2 :: l3 :: l4 :: l5 :: ms) (ps ++ [k0, k1])) s).1 (treeP (.node 2 x (l0 :: l1 :: l2 :: l3 :: l4 :: l5 :: ms) (ps ++ [k0, k1])) s).2 w' ∧ Prn Bs b w w' := by
  have hE := Prn.refl (b := b) hBw
  have hG : s.2.length ≤ s.2.length := Nat.le_refl _
  have hG' : s.1.length ≤ s.1.length := Nat.le_refl _
  obtain ⟨lb, lo, rfl, _, hlb, _⟩ := hL.2 (by simp)
  obtain ⟨kb, ko, rfl, _, hkb, _⟩ := hR.2 (by simp)
  refine enter_fr 216 Try.func61 rfl rfl rfl ?_
  intro a hf
  refine wS fun K1 hK1 => wR ?_
  obtain ⟨w2, b3, he, hB4, hx5, eb6, lb7⟩ := ef_box (P := Try.prog) (t := 26) (x := (.tmp 1)) hf rfl rfl w 0
  refine sV hf rfl he fun a hf => ?_
  have ge_b3 := Prn.ge_new hE eb6
  have ne_b_b3 : b ≠ b3 := ne_new hP.lt eb6
  replace hP := hP.chg0 hx5
  replace hE := hE.t0 hx5
  clear eb6 lb7
  refine sN <| hK1 _ _ <| wS fun K8 hK8 => wR <| sV hf rfl (ex_fa (k := 0) (r := 0) hf rfl (by kernel_rfl) rfl) fun a hf => sV hf rfl (ex_loadB hf rfl (by kernel_rfl) hB4 rfl) fun a hf => sN <| hK8 _ _ <| wp_block <| wS fun K9 hK9 => wS fun K10 hK10 => wR <| sV hf rfl (ex_eqI (c := false) hf rfl rfl (by decide)) fun a hf => sA hf rfl rfl fun a hf => sN <| hK10 _ _ <| cF hf rfl <| wS fun K11 hK11 => wR <| sV hf rfl (ex_eqI (c := true) hf rfl rfl (by decide)) fun a hf => sA hf rfl rfl fun a hf => sN <| hK11 _ _ <| cT hf rfl <| wp_skip <| hK9 _ _ <| cT hf rfl <| wR <| sM hf rfl rfl fun a hf => sV hf rfl (ex_loadBN (m := 4) hf rfl (by kernel_rfl) hB4 rfl) fun a hf => ?_
  have hLn := hL.now hE
  have hKn := hK.now hE
  have hRn := hR.now hE
  refine st_c hf rfl rfl rfl (by kernel_rfl) (d2 ih hcl hks hl1 hl2 hP hLn hn hn2 hKn hRn hE.now) ?_
  rintro _ w14 ⟨rfl, hPn, hEn⟩
  refine ⟨_, rfl, fun a hf => ?_⟩
  have hx13 := hEn.chg
  replace hB4 := hB4.chg hx13 (nm_blk hB4 rfl (Ne.symm ne_b_b3))
  replace hE := hE.trans hx13 (fun _ h => .inl h)
  clear hP; have hP := hPn; clear hPn hEn
  refine sN ?_
  have eq : treeP (.node 2 x (l0 :: l1 :: l2 :: l3 :: l4 :: l5 :: ms) (ps ++ [k0, k1])) s = treeP (.node 2 x (l0 :: l1 :: l2 :: l3 :: l4 :: l5 :: ms) (ps ++ [k0, k1])) s := by rfl
  rw [eq]
  try simp only [Exit.then, Exit.inBlock]
  exact end_of (rs := []) hf rfl rfl ⟨rfl, hP, hE⟩
theorem t3 {N : Nat} (ih : TreeOk N) {w : World} {Bs b : Nat} {s : WS} {x : List UInt8} {l0 l1 l2 : List UInt8} {k0 : Tree} {cs : List Value} {A B : Option Addr} {m n : Nat} (hks : ∀ t, t ∈ [k0] → tsize t ≤ N ∧ shapedT t = true ∧ leadedT t = true)
    (hl1 : s.2.length + 100 * (x.length + lsum [l0, l1, l2] + kbulk [k0] + 1) ≤ 1000000000000) (hl2 : s.1.length + 100 * (x.length + lsum [l0, l1, l2] + kbulk [k0] + 1) ≤ 1000000000000) (hP : Pr Bs b s.1 s.2 w) (hL : RowIn (fun b => b < Bs) w 1 A [l0, l1, l2].length ([l0, l1, l2].map strV)) (hn : [k0].length ≤ n) (hn2 : n ≤ maxLen) (hK : KidsAre (fun b => b < Bs) w [k0] cs) (hR : RowIn (fun b => b < Bs) w 4 B [k0].length cs) (hBw : Bs ≤ w.heap.size) :
    Calls Try.prog 61 [.pointer (some ⟨b, 0, none⟩), .agg #[.int .i64 3, strV x, .slice A [l0, l1, l2].length m, .slice B [k0].length n]].toArray w fun e w' => e = .returned (.tuple #[]) ∧ Pr Bs b (treeP (.node 3 x [l0, l1, l2] [k0]) s).1 (treeP (.node 3 x [l0, l1, l2] [k0]) s).2 w' ∧ Prn Bs b w w' := by
  have hE := Prn.refl (b := b) hBw
  have hG : s.2.length ≤ s.2.length := Nat.le_refl _
  have hG' : s.1.length ≤ s.1.length := Nat.le_refl _
  obtain ⟨lb, lo, rfl, _, hlb, _⟩ := hL.2 (by simp)
  obtain ⟨kb, ko, rfl, _, hkb, _⟩ := hR.2 (by simp)
  refine enter_fr 216 Try.func61 rfl rfl rfl ?_
  intro a hf
  refine wS fun K1 hK1 => wR ?_
  obtain ⟨w2, b3, he, hB4, hx5, eb6, lb7⟩ := ef_box (P := Try.prog) (t := 26) (x := (.tmp 1)) hf rfl rfl w 0
  refine sV hf rfl he fun a hf => ?_
  have ge_b3 := Prn.ge_new hE eb6
  have ne_b_b3 : b ≠ b3 := ne_new hP.lt eb6
  replace hP := hP.chg0 hx5
  replace hE := hE.t0 hx5
  clear eb6 lb7
  refine sN <| hK1 _ _ <| wS fun K8 hK8 => wR <| sV hf rfl (ex_fa (k := 0) (r := 0) hf rfl (by kernel_rfl) rfl) fun a hf => sV hf rfl (ex_loadB hf rfl (by kernel_rfl) hB4 rfl) fun a hf => sN <| hK8 _ _ <| wp_block <| wS fun K9 hK9 => wS fun K10 hK10 => wR <| sV hf rfl (ex_eqI (c := false) hf rfl rfl (by decide)) fun a hf => sA hf rfl rfl fun a hf => sN <| hK10 _ _ <| cF hf rfl <| wS fun K11 hK11 => wR <| sV hf rfl (ex_eqI (c := false) hf rfl rfl (by decide)) fun a hf => sA hf rfl rfl fun a hf => sN <| hK11 _ _ <| cF hf rfl <| wS fun K12 hK12 => wR <| sV hf rfl (ex_eqI (c := true) hf rfl rfl (by decide)) fun a hf => sA hf rfl rfl fun a hf => sN <| hK12 _ _ <| cT hf rfl <| wp_skip <| hK9 _ _ <| cT hf rfl <| wR <| sM hf rfl rfl fun a hf => sV hf rfl (ex_loadBN (m := 4) hf rfl (by kernel_rfl) hB4 rfl) fun a hf => ?_
  have hLn := hL.now hE
  have hKn := hK.now hE
  have hRn := hR.now hE
  refine st_c hf rfl rfl rfl (by kernel_rfl) (d3 ih  hks hl1 hl2 hP hLn hn hn2 hKn hRn hE.now) ?_
  rintro _ w15 ⟨rfl, hPn, hEn⟩
  refine ⟨_, rfl, fun a hf => ?_⟩
  have hx14 := hEn.chg
  replace hB4 := hB4.chg hx14 (nm_blk hB4 rfl (Ne.symm ne_b_b3))
  replace hE := hE.trans hx14 (fun _ h => .inl h)
  clear hP; have hP := hPn; clear hPn hEn
  refine sN ?_
  have eq : treeP (.node 3 x [l0, l1, l2] [k0]) s = treeP (.node 3 x [l0, l1, l2] [k0]) s := by rfl
  rw [eq]
  try simp only [Exit.then, Exit.inBlock]
  exact end_of (rs := []) hf rfl rfl ⟨rfl, hP, hE⟩
theorem t4 {N : Nat} (ih : TreeOk N) {w : World} {Bs b : Nat} {s : WS} {x : List UInt8} {l0 l1 : List UInt8} {k0 : Tree} {cs : List Value} {A B : Option Addr} {m n : Nat} (hks : ∀ t, t ∈ [k0] → tsize t ≤ N ∧ shapedT t = true ∧ leadedT t = true)
    (hl1 : s.2.length + 100 * (x.length + lsum [l0, l1] + kbulk [k0] + 1) ≤ 1000000000000) (hl2 : s.1.length + 100 * (x.length + lsum [l0, l1] + kbulk [k0] + 1) ≤ 1000000000000) (hP : Pr Bs b s.1 s.2 w) (hL : RowIn (fun b => b < Bs) w 1 A [l0, l1].length ([l0, l1].map strV)) (hn : [k0].length ≤ n) (hn2 : n ≤ maxLen) (hK : KidsAre (fun b => b < Bs) w [k0] cs) (hR : RowIn (fun b => b < Bs) w 4 B [k0].length cs) (hBw : Bs ≤ w.heap.size) :
    Calls Try.prog 61 [.pointer (some ⟨b, 0, none⟩), .agg #[.int .i64 4, strV x, .slice A [l0, l1].length m, .slice B [k0].length n]].toArray w fun e w' => e = .returned (.tuple #[]) ∧ Pr Bs b (treeP (.node 4 x [l0, l1] [k0]) s).1 (treeP (.node 4 x [l0, l1] [k0]) s).2 w' ∧ Prn Bs b w w' := by
  have hE := Prn.refl (b := b) hBw
  have hG : s.2.length ≤ s.2.length := Nat.le_refl _
  have hG' : s.1.length ≤ s.1.length := Nat.le_refl _
  obtain ⟨lb, lo, rfl, _, hlb, _⟩ := hL.2 (by simp)
  obtain ⟨kb, ko, rfl, _, hkb, _⟩ := hR.2 (by simp)
  refine enter_fr 216 Try.func61 rfl rfl rfl ?_
  intro a hf
  refine wS fun K1 hK1 => wR ?_
  obtain ⟨w2, b3, he, hB4, hx5, eb6, lb7⟩ := ef_box (P := Try.prog) (t := 26) (x := (.tmp 1)) hf rfl rfl w 0
  refine sV hf rfl he fun a hf => ?_
  have ge_b3 := Prn.ge_new hE eb6
  have ne_b_b3 : b ≠ b3 := ne_new hP.lt eb6
  replace hP := hP.chg0 hx5
  replace hE := hE.t0 hx5
  clear eb6 lb7
  refine sN <| hK1 _ _ <| wS fun K8 hK8 => wR <| sV hf rfl (ex_fa (k := 0) (r := 0) hf rfl (by kernel_rfl) rfl) fun a hf => sV hf rfl (ex_loadB hf rfl (by kernel_rfl) hB4 rfl) fun a hf => sN <| hK8 _ _ <| wp_block <| wS fun K9 hK9 => wS fun K10 hK10 => wR <| sV hf rfl (ex_eqI (c := false) hf rfl rfl (by decide)) fun a hf => sA hf rfl rfl fun a hf => sN <| hK10 _ _ <| cF hf rfl <| wS fun K11 hK11 => wR <| sV hf rfl (ex_eqI (c := false) hf rfl rfl (by decide)) fun a hf => sA hf rfl rfl fun a hf => sN <| hK11 _ _ <| cF hf rfl <| wS fun K12 hK12 => wR <| sV hf rfl (ex_eqI (c := false) hf rfl rfl (by decide)) fun a hf => sA hf rfl rfl fun a hf => sN <| hK12 _ _ <| cF hf rfl <| wR <| sV hf rfl (ex_eqI (c := true) hf rfl rfl (by decide)) fun a hf => sA hf rfl rfl fun a hf => sN <| hK9 _ _ <| cT hf rfl <| wR <| sM hf rfl rfl fun a hf => sV hf rfl (ex_loadBN (m := 4) hf rfl (by kernel_rfl) hB4 rfl) fun a hf => ?_
  have hLn := hL.now hE
  have hKn := hK.now hE
  have hRn := hR.now hE
  refine st_c hf rfl rfl rfl (by kernel_rfl) (d4 ih  hks hl1 hl2 hP hLn hn hn2 hKn hRn hE.now) ?_
  rintro _ w15 ⟨rfl, hPn, hEn⟩
  refine ⟨_, rfl, fun a hf => ?_⟩
  have hx14 := hEn.chg
  replace hB4 := hB4.chg hx14 (nm_blk hB4 rfl (Ne.symm ne_b_b3))
  replace hE := hE.trans hx14 (fun _ h => .inl h)
  clear hP; have hP := hPn; clear hPn hEn
  refine sN ?_
  have eq : treeP (.node 4 x [l0, l1] [k0]) s = treeP (.node 4 x [l0, l1] [k0]) s := by rfl
  rw [eq]
  try simp only [Exit.then, Exit.inBlock]
  exact end_of (rs := []) hf rfl rfl ⟨rfl, hP, hE⟩
theorem len0 {α : Type} {l : List α} (h : l.length = 0) : l = [] := List.length_eq_zero_iff.1 h
theorem lenS {α : Type} {l : List α} {n : Nat} (h : l.length = n + 1) : ∃ a r, l = a :: r ∧ r.length = n := by
  cases l with
  | nil => simp at h
  | cons a r => exact ⟨a, r, rfl, by simpa using h⟩
theorem kids_all {k : Int} {n : Nat} : ∀ {ks : List Tree} {i : Nat}, kidsT k n ks i = true → ∀ t, t ∈ ks → shapedT t = true
  | u :: r, i, h, t, ht => by
    simp only [kidsT, Bool.and_eq_true] at h
    rcases List.mem_cons.1 ht with e | e
    · exact e ▸ h.1.2
    · exact kids_all h.2 t e
theorem leads_kind {k n : Int} (h : 0 ≤ leadsT k n) : (k = 1 ∧ leadsT k n = 3) ∨ (k = 2 ∧ 2 ≤ n ∧ (2 < n ∧ leadsT k n = 6 + (n - 3) ∨ n = 2 ∧ leadsT k n = 6)) ∨ (k = 16 ∧ (n = 0 ∧ leadsT k n = 3 ∨ 0 < n ∧ leadsT k n = 3 + (n - 1))) ∨ (k = 18 ∧ 1 ≤ n ∧ leadsT k n = 2 + (n - 1)) ∨ (k = 3 ∧ n = 1 ∧ leadsT k n = 3) ∨ (k = 4 ∧ n = 1 ∧ leadsT k n = 2) ∨ (k = 8 ∧ n = 1 ∧ leadsT k n = 2) ∨ (k = 22 ∧ n = 1 ∧ leadsT k n = 2) ∨ (k = 17 ∧ n = 1 ∧ leadsT k n = 0) ∨ (k = 19 ∧ n = 3 ∧ leadsT k n = 3) ∨ (k = 20 ∧ n = 2 ∧ leadsT k n = 4) ∨ (k = 21 ∧ n = 2 ∧ leadsT k n = 1) ∨ ((k = 5 ∨ k = 6 ∨ k = 7 ∨ k = 9 ∨ k = 10 ∨ k = 11 ∨ k = 12 ∨ k = 13 ∨ k = 14 ∨ k = 15) ∧ n = 0 ∧ leadsT k n = 1) := by
  obtain ⟨L, hL⟩ : ∃ L, L = leadsT k n := ⟨_, rfl⟩
  rw [← hL] at h ⊢
  unfold leadsT at hL
  by_cases hk1 : k = 1
  · rw [if_pos hk1] at hL
    split at hL
    · exact absurd h (by omega)
    · exact .inl (⟨hk1, hL⟩)
  rw [if_neg hk1] at hL
  by_cases hk2 : k = 2
  · rw [if_pos hk2] at hL
    split at hL
    · exact absurd h (by omega)
    · split at hL
      · exact .inr (.inl (⟨hk2, by omega, .inl ⟨by omega, hL⟩⟩))
      · exact .inr (.inl (⟨hk2, by omega, .inr ⟨by omega, hL⟩⟩))
  rw [if_neg hk2] at hL
  by_cases hk3 : k = 16
  · rw [if_pos hk3] at hL
    split at hL
    · exact absurd h (by omega)
    · split at hL
      · exact .inr (.inr (.inl (⟨hk3, .inr ⟨by omega, hL⟩⟩)))
      · exact .inr (.inr (.inl (⟨hk3, .inl ⟨by omega, hL⟩⟩)))
  rw [if_neg hk3] at hL
  by_cases hk4 : k = 18
  · rw [if_pos hk4] at hL
    split at hL
    · exact absurd h (by omega)
    · exact .inr (.inr (.inr (.inl (⟨hk4, by omega, hL⟩))))
  rw [if_neg hk4] at hL
  by_cases hk5 : k = 3
  · rw [if_pos hk5] at hL
    split at hL
    · exact .inr (.inr (.inr (.inr (.inl (⟨hk5, by omega, hL⟩)))))
    · exact absurd h (by omega)
  rw [if_neg hk5] at hL
  by_cases hk6 : k = 4 ∨ k = 8 ∨ k = 22
  · rw [if_pos hk6] at hL
    split at hL
    · rcases hk6 with hq | hq | hq
      · exact .inr (.inr (.inr (.inr (.inr (.inl (⟨hq, by omega, hL⟩))))))
      · exact .inr (.inr (.inr (.inr (.inr (.inr (.inl (⟨hq, by omega, hL⟩)))))))
      · exact .inr (.inr (.inr (.inr (.inr (.inr (.inr (.inl (⟨hq, by omega, hL⟩))))))))
    · exact absurd h (by omega)
  rw [if_neg hk6] at hL
  by_cases hk7 : k = 17
  · rw [if_pos hk7] at hL
    split at hL
    · exact .inr (.inr (.inr (.inr (.inr (.inr (.inr (.inr (.inl (⟨hk7, by omega, hL⟩)))))))))
    · exact absurd h (by omega)
  rw [if_neg hk7] at hL
  by_cases hk8 : k = 19
  · rw [if_pos hk8] at hL
    split at hL
    · exact .inr (.inr (.inr (.inr (.inr (.inr (.inr (.inr (.inr (.inl (⟨hk8, by omega, hL⟩))))))))))
    · exact absurd h (by omega)
  rw [if_neg hk8] at hL
  by_cases hk9 : k = 20
  · rw [if_pos hk9] at hL
    split at hL
    · exact .inr (.inr (.inr (.inr (.inr (.inr (.inr (.inr (.inr (.inr (.inl (⟨hk9, by omega, hL⟩)))))))))))
    · exact absurd h (by omega)
  rw [if_neg hk9] at hL
  by_cases hk10 : k = 21
  · rw [if_pos hk10] at hL
    split at hL
    · exact .inr (.inr (.inr (.inr (.inr (.inr (.inr (.inr (.inr (.inr (.inr (.inl (⟨hk10, by omega, hL⟩))))))))))))
    · exact absurd h (by omega)
  rw [if_neg hk10] at hL
  by_cases hk11 : k = 5 ∨ k = 6 ∨ k = 7 ∨ k = 9 ∨ k = 10 ∨ k = 11 ∨ k = 12 ∨ k = 13 ∨ k = 14 ∨ k = 15
  · rw [if_pos hk11] at hL
    split at hL
    · exact .inr (.inr (.inr (.inr (.inr (.inr (.inr (.inr (.inr (.inr (.inr (.inr ((⟨hk11, by omega, hL⟩)))))))))))))
    · exact absurd h (by omega)
  rw [if_neg hk11] at hL
  exact absurd h (by omega)
theorem tree_step {N : Nat} (ih : TreeOk N) : TreeOk (N + 1) := by
  intro t w Bs b s c0 c1 c2 c3 hN hs hl h1 h2 hP hT hBw
  obtain ⟨k, x, ls, ks⟩ := t
  simp only [TreeIs] at hT
  obtain ⟨A, m, B, n, hc, _, _, hn, hn2, hL, cs, hK, hR⟩ := hT
  simp only [List.cons.injEq, and_true] at hc
  obtain ⟨rfl, rfl, rfl, rfl⟩ := hc
  simp only [tsize] at hN
  simp only [tbulk] at h1 h2
  simp only [shapedT, leadedT, Bool.and_eq_true, decide_eq_true_eq] at hs hl
  have hks : ∀ t, t ∈ ks → tsize t ≤ N ∧ shapedT t = true ∧ leadedT t = true := fun t ht => ⟨by have := tsize_mem ht; omega, kids_all hs.2 t ht, leaded_of hl.2 ht⟩
  have hkk := leads_kind hs.1.1
  have hll := hl.1.1
  clear hs hl hN
  rcases hkk with ⟨rfl, e⟩ | ⟨rfl, h0, e⟩ | ⟨rfl, e⟩ | ⟨rfl, h0, e⟩ | ⟨rfl, h0, e⟩ | ⟨rfl, h0, e⟩ | ⟨rfl, h0, e⟩ | ⟨rfl, h0, e⟩ | ⟨rfl, h0, e⟩ | ⟨rfl, h0, e⟩ | ⟨rfl, h0, e⟩ | ⟨rfl, h0, e⟩ | ⟨hk, h0, e⟩
  · obtain ⟨l0, ls0r, rfl, qls0⟩ := lenS (n := 2) (l := ls) (by omega)
    obtain ⟨l1, ls1r, rfl, qls1⟩ := lenS (n := 1) (l := ls0r) qls0
    obtain ⟨l2, ls2r, rfl, qls2⟩ := lenS (n := 0) (l := ls1r) qls1
    obtain rfl := len0 (l := ls2r) qls2
    exact t1 ih hks h1 h2 hP hL hn hn2 hK hR hBw
  · obtain ⟨ps, k0, k1, rfl⟩ : ∃ ps k0 k1, ks = ps ++ [k0, k1] := by
      refine ⟨ks.take (ks.length - 2), ks[ks.length - 2]'(by omega), ks[ks.length - 1]'(by omega), ?_⟩
      have e1 : ks = ks.take (ks.length - 2) ++ ks.drop (ks.length - 2) := (List.take_append_drop _ _).symm
      have e2 : ks.drop (ks.length - 2) = [ks[ks.length - 2]'(by omega), ks[ks.length - 1]'(by omega)] := by
        rw [List.drop_eq_getElem_cons (by omega : ks.length - 2 < ks.length)]
        congr 1
        have e3 : ks.length - 2 + 1 = ks.length - 1 := by omega
        rw [e3, List.drop_eq_getElem_cons (by omega : ks.length - 1 < ks.length), List.drop_of_length_le (by omega)]
      rw [← e2]; exact e1
    have hpl : (ps ++ [k0, k1]).length = ps.length + 2 := by simp
    obtain ⟨q, hq⟩ : ∃ q, ls.length = q + 6 := ⟨ls.length - 6, by omega⟩
    obtain ⟨l0, ls0r, rfl, qls0⟩ := lenS (n := q + 5) (l := ls) hq
    obtain ⟨l1, ls1r, rfl, qls1⟩ := lenS (n := q + 4) (l := ls0r) qls0
    obtain ⟨l2, ls2r, rfl, qls2⟩ := lenS (n := q + 3) (l := ls1r) qls1
    obtain ⟨l3, ls3r, rfl, qls3⟩ := lenS (n := q + 2) (l := ls2r) qls2
    obtain ⟨l4, ls4r, rfl, qls4⟩ := lenS (n := q + 1) (l := ls3r) qls3
    obtain ⟨l5, ls5r, rfl, qls5⟩ := lenS (n := q + 0) (l := ls4r) qls4
    exact t2 ih (by simp only [List.length_cons]; omega) hks h1 h2 hP hL hn hn2 hK hR hBw
  · obtain ⟨q, hq⟩ : ∃ q, ls.length = q + 3 := ⟨ls.length - 3, by omega⟩
    obtain ⟨l0, ls0r, rfl, qls0⟩ := lenS (n := q + 2) (l := ls) hq
    obtain ⟨l1, ls1r, rfl, qls1⟩ := lenS (n := q + 1) (l := ls0r) qls0
    obtain ⟨l2, ls2r, rfl, qls2⟩ := lenS (n := q + 0) (l := ls1r) qls1
    exact t16 ih (by simp only [List.length_cons]; omega) hks h1 h2 hP hL hn hn2 hK hR hBw
  · obtain ⟨q, hq⟩ : ∃ q, ls.length = q + 2 := ⟨ls.length - 2, by omega⟩
    obtain ⟨l0, ls0r, rfl, qls0⟩ := lenS (n := q + 1) (l := ls) hq
    obtain ⟨l1, ls1r, rfl, qls1⟩ := lenS (n := q + 0) (l := ls0r) qls0
    exact t18 ih (by simp only [List.length_cons]; omega) hks h1 h2 hP hL hn hn2 hK hR hBw
  · obtain ⟨l0, ls0r, rfl, qls0⟩ := lenS (n := 2) (l := ls) (by omega)
    obtain ⟨l1, ls1r, rfl, qls1⟩ := lenS (n := 1) (l := ls0r) qls0
    obtain ⟨l2, ls2r, rfl, qls2⟩ := lenS (n := 0) (l := ls1r) qls1
    obtain rfl := len0 (l := ls2r) qls2
    obtain ⟨k0, ks0r, rfl, qks0⟩ := lenS (n := 0) (l := ks) (by omega)
    obtain rfl := len0 (l := ks0r) qks0
    exact t3 ih hks h1 h2 hP hL hn hn2 hK hR hBw
  · obtain ⟨l0, ls0r, rfl, qls0⟩ := lenS (n := 1) (l := ls) (by omega)
    obtain ⟨l1, ls1r, rfl, qls1⟩ := lenS (n := 0) (l := ls0r) qls0
    obtain rfl := len0 (l := ls1r) qls1
    obtain ⟨k0, ks0r, rfl, qks0⟩ := lenS (n := 0) (l := ks) (by omega)
    obtain rfl := len0 (l := ks0r) qks0
    exact t4 ih hks h1 h2 hP hL hn hn2 hK hR hBw
  · obtain ⟨l0, ls0r, rfl, qls0⟩ := lenS (n := 1) (l := ls) (by omega)
    obtain ⟨l1, ls1r, rfl, qls1⟩ := lenS (n := 0) (l := ls0r) qls0
    obtain rfl := len0 (l := ls1r) qls1
    obtain ⟨k0, ks0r, rfl, qks0⟩ := lenS (n := 0) (l := ks) (by omega)
    obtain rfl := len0 (l := ks0r) qks0
    exact t8 ih hks h1 h2 hP hL hn hn2 hK hR hBw
  · obtain ⟨l0, ls0r, rfl, qls0⟩ := lenS (n := 1) (l := ls) (by omega)
    obtain ⟨l1, ls1r, rfl, qls1⟩ := lenS (n := 0) (l := ls0r) qls0
    obtain rfl := len0 (l := ls1r) qls1
    obtain ⟨k0, ks0r, rfl, qks0⟩ := lenS (n := 0) (l := ks) (by omega)
    obtain rfl := len0 (l := ks0r) qks0
    exact t22 ih hks h1 h2 hP hL hn hn2 hK hR hBw
  · obtain rfl := len0 (l := ls) (by omega)
    obtain ⟨k0, ks0r, rfl, qks0⟩ := lenS (n := 0) (l := ks) (by omega)
    obtain rfl := len0 (l := ks0r) qks0
    exact t17 ih hks h1 h2 hP hL hn hn2 hK hR hBw
  · obtain ⟨l0, ls0r, rfl, qls0⟩ := lenS (n := 2) (l := ls) (by omega)
    obtain ⟨l1, ls1r, rfl, qls1⟩ := lenS (n := 1) (l := ls0r) qls0
    obtain ⟨l2, ls2r, rfl, qls2⟩ := lenS (n := 0) (l := ls1r) qls1
    obtain rfl := len0 (l := ls2r) qls2
    obtain ⟨k0, ks0r, rfl, qks0⟩ := lenS (n := 2) (l := ks) (by omega)
    obtain ⟨k1, ks1r, rfl, qks1⟩ := lenS (n := 1) (l := ks0r) qks0
    obtain ⟨k2, ks2r, rfl, qks2⟩ := lenS (n := 0) (l := ks1r) qks1
    obtain rfl := len0 (l := ks2r) qks2
    exact t19 ih hks h1 h2 hP hL hn hn2 hK hR hBw
  · obtain ⟨l0, ls0r, rfl, qls0⟩ := lenS (n := 3) (l := ls) (by omega)
    obtain ⟨l1, ls1r, rfl, qls1⟩ := lenS (n := 2) (l := ls0r) qls0
    obtain ⟨l2, ls2r, rfl, qls2⟩ := lenS (n := 1) (l := ls1r) qls1
    obtain ⟨l3, ls3r, rfl, qls3⟩ := lenS (n := 0) (l := ls2r) qls2
    obtain rfl := len0 (l := ls3r) qls3
    obtain ⟨k0, ks0r, rfl, qks0⟩ := lenS (n := 1) (l := ks) (by omega)
    obtain ⟨k1, ks1r, rfl, qks1⟩ := lenS (n := 0) (l := ks0r) qks0
    obtain rfl := len0 (l := ks1r) qks1
    exact t20 ih hks h1 h2 hP hL hn hn2 hK hR hBw
  · obtain ⟨l0, ls0r, rfl, qls0⟩ := lenS (n := 0) (l := ls) (by omega)
    obtain rfl := len0 (l := ls0r) qls0
    obtain ⟨k0, ks0r, rfl, qks0⟩ := lenS (n := 1) (l := ks) (by omega)
    obtain ⟨k1, ks1r, rfl, qks1⟩ := lenS (n := 0) (l := ks0r) qks0
    obtain rfl := len0 (l := ks1r) qks1
    exact t21 ih hks h1 h2 hP hL hn hn2 hK hR hBw
  · obtain ⟨l0, ls0r, rfl, qls0⟩ := lenS (n := 0) (l := ls) (by omega)
    obtain rfl := len0 (l := ls0r) qls0
    obtain rfl := len0 (l := ks) (by omega)
    exact tLeaf (N := N) hk hks h1 h2 hP hL hn hn2 hK hR hBw
theorem treeL : ∀ N, TreeOk N
  | 0 => fun t _ _ _ _ _ _ _ _ hN => by cases t; simp only [tsize] at hN; omega
  | N + 1 => tree_step (treeL N)
end Go.Proofs.Ythpjpngfghcmcaa
namespace Go.Proofs.Ythpjpngfghcmcaa
open Go.RowKit Lx Sx
set_option maxRecDepth 100000
set_option maxHeartbeats 4000000
theorem TreeIs.cells {S : Nat → Prop} {w : World} {t : Tree} {c0 c1 c2 c3 : Value} (h : TreeIs S w t [c0, c1, c2, c3]) : ∃ A m B n, [c0, c1, c2, c3] = [.int .i64 t.kind, strV t.text, .slice A t.leads.length m, .slice B t.kids.length n] := by
  obtain ⟨k, x, ls, ks⟩ := t
  simp only [TreeIs] at h
  obtain ⟨A, m, B, n, e, _⟩ := h
  exact ⟨A, m, B, n, e⟩
theorem Pr.new {Bs b : Nat} {w : World} (h : Blk w b 80 [.pointer none, .slice none 0 0, strV []]) (hb : Bs ≤ b) : Pr Bs b [] [] w :=
  ⟨.pointer none, .slice none 0 0, .inl rfl, hb, h, World.ownsRow_nil w Bs 5 1⟩
def upX (Bs : Nat) (w : World) : List Nat := (List.range w.heap.size).filter fun k => decide (Bs ≤ k)
theorem mem_upX {Bs : Nat} {w : World} {k : Nat} (h : k ∈ upX Bs w) : Bs ≤ k := by simp [upX] at h; exact h.2
theorem chg_up {Bs : Nat} {w w' : World} (h : Below Bs w w') (hb : Bs ≤ w.heap.size) : Chg (upX Bs w) w w' :=
  ⟨h.os, h.tape, h.output, h.size, fun k hk hX => h.block k (by
    rcases Nat.lt_or_ge k Bs with h1 | h1
    · exact h1
    · exact absurd (by simp [upX]; exact ⟨hk, h1⟩) hX)⟩
theorem strL {Bs b : Nat} {x l : List UInt8} {w : World} (h : Pr Bs b x l w) (hBw : Bs ≤ w.heap.size) : Calls Try.prog 62 [.pointer (some ⟨b, 0, none⟩)].toArray w fun e w' => e = .returned (strV l) ∧ Chg (upX Bs w) w w' :=
  (builderString _ Bs b [strV x] l w h hBw).mono fun _ _ ⟨e, h1⟩ => ⟨e, chg_up h1 hBw⟩
theorem textL {t : Tree} {S : Nat → Prop} {w : World} {c0 c1 c2 c3 : Value} (hs : shapedT t = true) (hl : leadedT t = true) (hb : tbulk t ≤ 1000000000) (hT : TreeIs S w t [c0, c1, c2, c3]) : Calls Try.prog 33 [.agg #[c0, c1, c2, c3]].toArray w fun e w' => e = .returned (strV (textT t)) ∧ Chg [] w w' := by
  obtain ⟨hi0, ehi0⟩ : ∃ x, x = w.heap.size := ⟨_, rfl⟩
  replace hT := hT.keepB (S' := fun b => b < hi0) (fun b _ hb => by omega) (fun _ _ _ => rfl)
  obtain ⟨A, m1, B, m2, hc⟩ := hT.cells
  simp only [List.cons.injEq, and_true] at hc
  obtain ⟨rfl, rfl, rfl, rfl⟩ := hc
  refine enter_fr 8 Try.func33 rfl rfl rfl ?_
  intro a hf
  have hE := Chg.refl [] w
  refine wS fun K1 hK1 => wR ?_
  obtain ⟨w2, b3, he, hB4, hx5, eb6, lb7⟩ := ef_box (P := Try.prog) (t := 26) (x := (.tmp 0)) hf rfl rfl w 0
  refine sV hf rfl he fun a hf => ?_
  have ge_b3 := ge_new hE eb6
  have tb_b3 : hi0 ≤ b3 := by have := hE.size; omega
  replace hT := hT.chg hx5 (fun b hb hlt2 => nm0)
  replace hE := hE.t0 hx5
  clear eb6 lb7
  refine sA hf rfl rfl fun a hf => sN <| hK1 _ _ <| wS fun K8 hK8 => wR ?_
  obtain ⟨w9, b10, he, hB11, hx12, eb13, lb14⟩ := ef_alloc (P := Try.prog) (t := 80) [.pointer none, .slice none 0 0, .string ⟨([] : List UInt8).toArray⟩] (by kernel_rfl) a w2 0
  refine sV hf rfl he fun a hf => ?_
  have ne_b3_b10 : b3 ≠ b10 := ne_new hB4.lt eb13
  have ge_b10 := ge_new hE eb13
  have tb_b10 : hi0 ≤ b10 := by have := hE.size; omega
  replace hB4 := hB4.c0 hx12
  replace hT := hT.chg hx12 (fun b hb hlt2 => nm0)
  replace hE := hE.t0 hx12
  clear eb13 lb14
  refine sN <| hK8 _ _ <| wS fun K15 hK15 => wR <| sV hf rfl (ex_loadBN (m := 4) hf rfl (by kernel_rfl) hB4 rfl) fun a hf => ?_
  have hPr := Pr.new hB11 (Nat.le_refl b10)
  have hTl : TreeIs (fun k => k < b10) w9 t _ := hT.mono (fun k hk => Nat.lt_of_lt_of_le hk tb_b10)
  have hBw : b10 ≤ w9.heap.size := Nat.le_of_lt hB11.lt
  refine st_c hf rfl rfl rfl (by kernel_rfl) (treeL _ t _ b10 b10 ([], []) _ _ _ _ (Nat.le_refl _) hs hl (by simp only [List.length_nil]; omega) (by simp only [List.length_nil]; omega) hPr hTl hBw) ?_
  rintro _ w17 ⟨rfl, hPn, hEn⟩
  refine ⟨_, rfl, fun a hf => ?_⟩
  have hx16 := hEn.chg
  clear hTl hPr
  replace hE := hE.trans hx16 (fun x hx => .inr (by have := (mem_prX.1 hx).2.1; omega))
  refine sN <| hK15 _ _ <| wS fun K18 hK18 => wR <| sV hf rfl (ex_fa (k := 0) (r := 0) hf rfl (by kernel_rfl) rfl) fun a hf => st_c hf rfl rfl rfl (by kernel_rfl) (strL hPn hEn.now) ?_
  rintro _ w20 ⟨rfl, hx19⟩
  refine ⟨_, rfl, fun a hf => ?_⟩
  replace hE := hE.trans hx19 (fun x hx => .inr (by have := mem_upX hx; omega))
  refine sA hf rfl rfl fun a hf => sN <| hK18 _ _ <| wp_ret ?_
  try simp only [Exit.then, Exit.inBlock]
  exact ret_of (rs := [.tmp 2]) hf rfl ⟨_, _, rfl, rfl, rfl⟩ ⟨rfl, hE⟩
theorem printL {t : Tree} {S : Nat → Prop} {w : World} {c0 c1 c2 c3 : Value} (hb : tbulk t ≤ 1000000000) (hT : TreeIs S w t [c0, c1, c2, c3]) : Calls Try.prog 16 [.agg #[c0, c1, c2, c3]].toArray w fun e w' => e = .returned (strV (printT t)) ∧ Chg [] w w' := by
  obtain ⟨hi0, ehi0⟩ : ∃ x, x = w.heap.size := ⟨_, rfl⟩
  replace hT := hT.keepB (S' := fun b => b < hi0) (fun b _ hb => by omega) (fun _ _ _ => rfl)
  obtain ⟨A, m1, B, m2, hc⟩ := hT.cells
  simp only [List.cons.injEq, and_true] at hc
  obtain ⟨rfl, rfl, rfl, rfl⟩ := hc
  refine enter_fr 13 Try.func16 rfl rfl rfl ?_
  intro a hf
  have hE := Chg.refl [] w
  refine wS fun K1 hK1 => wR ?_
  obtain ⟨w2, b3, he, hB4, hx5, eb6, lb7⟩ := ef_box (P := Try.prog) (t := 26) (x := (.tmp 0)) hf rfl rfl w 0
  refine sV hf rfl he fun a hf => ?_
  have ge_b3 := ge_new hE eb6
  have tb_b3 : hi0 ≤ b3 := by have := hE.size; omega
  replace hT := hT.chg hx5 (fun b hb hlt2 => nm0)
  replace hE := hE.t0 hx5
  clear eb6 lb7
  refine sA hf rfl rfl fun a hf => sN <| hK1 _ _ <| wS fun K8 hK8 => wS fun K9 hK9 => wR <| sV hf rfl (ex_loadBN (m := 4) hf rfl (by kernel_rfl) hB4 rfl) fun a hf => ?_
  rcases Bool.eq_false_or_eq_true (shapedT t) with hbs | hbs
  refine st_c hf rfl rfl rfl (by kernel_rfl) (bool_is (shapedL _ t _ _ _ _ _ _ (Nat.le_refl _) (by omega) hT) hbs) ?_
  rintro _ w11 ⟨rfl, hx10⟩
  refine ⟨_, rfl, fun a hf => ?_⟩
  replace hB4 := hB4.c0 hx10
  replace hT := hT.chg hx10 (fun b hb hlt2 => nm0)
  replace hE := hE.t0 hx10
  refine sV hf rfl (ex_not (c := false) hf rfl rfl) fun a hf => sM hf rfl rfl fun a hf => sV hf rfl (ex_loadBN (m := 4) hf rfl (by kernel_rfl) hB4 rfl) fun a hf => ?_
  rcases Bool.eq_false_or_eq_true (leadedT t) with hbl | hbl
  refine st_c hf rfl rfl rfl (by kernel_rfl) (bool_is (leadedL _ t _ _ _ _ _ _ (Nat.le_refl _) (by omega) hT) hbl) ?_
  rintro _ w13 ⟨rfl, hx12⟩
  refine ⟨_, rfl, fun a hf => ?_⟩
  replace hB4 := hB4.c0 hx12
  replace hT := hT.chg hx12 (fun b hb hlt2 => nm0)
  replace hE := hE.t0 hx12
  refine sV hf rfl (ex_not (c := false) hf rfl rfl) fun a hf => sV hf rfl (ex_pickF hf rfl rfl) fun a hf => sN <| hK9 _ _ <| cF hf rfl <| wp_skip <| hK8 _ _ <| wS fun K14 hK14 => wR <| sV hf rfl (ex_loadBN (m := 4) hf rfl (by kernel_rfl) hB4 rfl) fun a hf => st_c hf rfl rfl rfl (by kernel_rfl) (textL hbs hbl hb hT) ?_
  rintro _ w16 ⟨rfl, hx15⟩
  refine ⟨_, rfl, fun a hf => ?_⟩
  replace hB4 := hB4.c0 hx15
  replace hT := hT.chg hx15 (fun b hb hlt2 => nm0)
  replace hE := hE.t0 hx15
  refine sA hf rfl rfl fun a hf => sN <| hK14 _ _ <| wp_ret ?_
  try simp only [Exit.then, Exit.inBlock]
  exact ret_of (rs := [.tmp 2]) hf rfl ⟨_, _, rfl, rfl, rfl⟩ ⟨ret_s (by unfold printT; simp [hbs, hbl]), hE⟩
  refine st_c hf rfl rfl rfl (by kernel_rfl) (bool_is (leadedL _ t _ _ _ _ _ _ (Nat.le_refl _) (by omega) hT) hbl) ?_
  rintro _ w17 ⟨rfl, hx12⟩
  refine ⟨_, rfl, fun a hf => ?_⟩
  replace hB4 := hB4.c0 hx12
  replace hT := hT.chg hx12 (fun b hb hlt2 => nm0)
  replace hE := hE.t0 hx12
  refine sV hf rfl (ex_not (c := true) hf rfl rfl) fun a hf => sV hf rfl (ex_pickF hf rfl rfl) fun a hf => sN <| hK9 _ _ <| cT hf rfl <| wS fun K18 hK18 => wR <| sA hf rfl rfl fun a hf => sN <| hK18 _ _ <| wp_ret ?_
  try simp only [Exit.then, Exit.inBlock]
  exact ret_of (rs := [.tmp 2]) hf rfl ⟨_, _, rfl, rfl, rfl⟩ ⟨ret_s (by unfold printT; simp [hbs, hbl]), hE⟩
  refine st_c hf rfl rfl rfl (by kernel_rfl) (bool_is (shapedL _ t _ _ _ _ _ _ (Nat.le_refl _) (by omega) hT) hbs) ?_
  rintro _ w19 ⟨rfl, hx10⟩
  refine ⟨_, rfl, fun a hf => ?_⟩
  replace hB4 := hB4.c0 hx10
  replace hT := hT.chg hx10 (fun b hb hlt2 => nm0)
  replace hE := hE.t0 hx10
  refine sV hf rfl (ex_not (c := true) hf rfl rfl) fun a hf => sM hf rfl rfl fun a hf => st_k hf rfl rfl fun a hf => st_k hf rfl rfl fun a hf => st_k hf rfl rfl fun a hf => sV hf rfl (ex_pickT hf rfl rfl) fun a hf => sN <| hK9 _ _ <| cT hf rfl <| wS fun K20 hK20 => wR <| sA hf rfl rfl fun a hf => sN <| hK20 _ _ <| wp_ret ?_
  try simp only [Exit.then, Exit.inBlock]
  exact ret_of (rs := [.tmp 2]) hf rfl ⟨_, _, rfl, rfl, rfl⟩ ⟨ret_s (by unfold printT; simp [hbs]), hE⟩
mutual
theorem depth_bulk : ∀ t : Tree, depthT t ≤ tbulk t
  | .node k x ls ks => by have := depths_bulk ks; simp only [depthT, tbulk]; omega
theorem depths_bulk : ∀ ks : List Tree, depthsT ks ≤ kbulk ks
  | [] => Nat.le_refl _
  | t :: r => by have := depth_bulk t; have := depths_bulk r; simp only [depthsT, kbulk]; omega
end
theorem validL {t : Tree} {S : Nat → Prop} {w : World} {c0 c1 c2 c3 : Value} (hb : tbulk t ≤ 1000000000) (hT : TreeIs S w t [c0, c1, c2, c3]) : Calls Try.prog 24 [.agg #[c0, c1, c2, c3]].toArray w fun e w' => e = .returned (.bool (validT t)) ∧ Chg [] w w' := by
  obtain ⟨hi0, ehi0⟩ : ∃ x, x = w.heap.size := ⟨_, rfl⟩
  replace hT := hT.keepB (S' := fun b => b < hi0) (fun b _ hb => by omega) (fun _ _ _ => rfl)
  obtain ⟨A, m1, B, m2, hc⟩ := hT.cells
  simp only [List.cons.injEq, and_true] at hc
  obtain ⟨rfl, rfl, rfl, rfl⟩ := hc
  refine enter_fr 25 Try.func24 rfl rfl rfl ?_
  intro a hf
  have hE := Chg.refl [] w
  refine wS fun K1 hK1 => wR ?_
  obtain ⟨w2, b3, he, hB4, hx5, eb6, lb7⟩ := ef_box (P := Try.prog) (t := 26) (x := (.tmp 0)) hf rfl rfl w 0
  refine sV hf rfl he fun a hf => ?_
  have ge_b3 := ge_new hE eb6
  have tb_b3 : hi0 ≤ b3 := by have := hE.size; omega
  replace hT := hT.chg hx5 (fun b hb hlt2 => nm0)
  replace hE := hE.t0 hx5
  clear eb6 lb7
  refine sA hf rfl rfl fun a hf => sN <| hK1 _ _ <| wS fun K8 hK8 => wS fun K9 hK9 => wR <| sV hf rfl (ex_loadBN (m := 4) hf rfl (by kernel_rfl) hB4 rfl) fun a hf => ?_
  rcases Bool.eq_false_or_eq_true (shapedT t) with hbs | hbs
  refine st_c hf rfl rfl rfl (by kernel_rfl) (bool_is (shapedL _ t _ _ _ _ _ _ (Nat.le_refl _) (by omega) hT) hbs) ?_
  rintro _ w11 ⟨rfl, hx10⟩
  refine ⟨_, rfl, fun a hf => ?_⟩
  replace hB4 := hB4.c0 hx10
  replace hT := hT.chg hx10 (fun b hb hlt2 => nm0)
  replace hE := hE.t0 hx10
  refine sV hf rfl (ex_not (c := false) hf rfl rfl) fun a hf => sM hf rfl rfl fun a hf => sV hf rfl (ex_loadBN (m := 4) hf rfl (by kernel_rfl) hB4 rfl) fun a hf => ?_
  rcases Bool.eq_false_or_eq_true (leadedT t) with hbl | hbl
  refine st_c hf rfl rfl rfl (by kernel_rfl) (bool_is (leadedL _ t _ _ _ _ _ _ (Nat.le_refl _) (by omega) hT) hbl) ?_
  rintro _ w13 ⟨rfl, hx12⟩
  refine ⟨_, rfl, fun a hf => ?_⟩
  replace hB4 := hB4.c0 hx12
  replace hT := hT.chg hx12 (fun b hb hlt2 => nm0)
  replace hE := hE.t0 hx12
  refine sV hf rfl (ex_not (c := false) hf rfl rfl) fun a hf => sV hf rfl (ex_pickF hf rfl rfl) fun a hf => sM hf rfl rfl fun a hf => sV hf rfl (ex_loadBN (m := 4) hf rfl (by kernel_rfl) hB4 rfl) fun a hf => ?_
  rcases Bool.eq_false_or_eq_true (smallT t) with hbm | hbm
  refine st_c hf rfl rfl rfl (by kernel_rfl) (bool_is (smallL _ t _ _ _ _ _ _ (Nat.le_refl _) (by omega) hT) hbm) ?_
  rintro _ w15 ⟨rfl, hx14⟩
  refine ⟨_, rfl, fun a hf => ?_⟩
  replace hB4 := hB4.c0 hx14
  replace hT := hT.chg hx14 (fun b hb hlt2 => nm0)
  replace hE := hE.t0 hx14
  refine sV hf rfl (ex_not (c := false) hf rfl rfl) fun a hf => sV hf rfl (ex_pickF hf rfl rfl) fun a hf => sM hf rfl rfl fun a hf => sV hf rfl (ex_loadBN (m := 4) hf rfl (by kernel_rfl) hB4 rfl) fun a hf => st_c hf rfl rfl rfl (by kernel_rfl) (depthL _ t _ _ _ _ _ _ (Nat.le_refl _) (by have := depth_bulk t; omega) hT) ?_
  rintro _ w17 ⟨rfl, hx16⟩
  refine ⟨_, rfl, fun a hf => ?_⟩
  replace hB4 := hB4.c0 hx16
  replace hT := hT.chg hx16 (fun b hb hlt2 => nm0)
  replace hE := hE.t0 hx16
  refine st_b hf rfl rfl (fun c hc => ex_gtI hf rfl rfl hc) ?_ ?_
  clear hf a; intro h19 a hf
  refine sV hf rfl (ex_pickF hf rfl rfl) fun a hf => sN <| hK9 _ _ <| cT hf rfl <| wS fun K18 hK18 => wR <| sA hf rfl rfl fun a hf => sN <| hK18 _ _ <| wp_ret ?_
  simp only [decide_eq_true_eq, decide_eq_false_iff_not] at h19
  try simp only [Exit.then, Exit.inBlock]
  exact ret_of (rs := [.tmp 2]) hf rfl ⟨_, _, rfl, rfl, rfl⟩ ⟨ret_b (by unfold validT; simp [hbs, hbl, hbm]; omega), hE⟩
  clear hf a; intro h19 a hf
  refine sV hf rfl (ex_pickF hf rfl rfl) fun a hf => sN <| hK9 _ _ <| cF hf rfl <| wp_skip <| hK8 _ _ <| wS fun K19 hK19 => wR <| sV hf rfl (ex_loadBN (m := 4) hf rfl (by kernel_rfl) hB4 rfl) fun a hf => st_c hf rfl rfl rfl (by kernel_rfl) (textL hbs hbl hb hT) ?_
  rintro _ w21 ⟨rfl, hx20⟩
  refine ⟨_, rfl, fun a hf => ?_⟩
  replace hB4 := hB4.c0 hx20
  replace hT := hT.chg hx20 (fun b hb hlt2 => nm0)
  replace hE := hE.t0 hx20
  refine sV hf rfl (ex_lenS hf Try.underlying9 rfl) fun a hf => st_b hf rfl rfl (fun c hc => ex_leI hf rfl rfl hc) ?_ ?_
  clear hf a; intro h24 a hf
  refine sA hf rfl rfl fun a hf => sN <| hK19 _ _ <| wp_ret ?_
  simp only [decide_eq_true_eq, decide_eq_false_iff_not] at h19 h24
  try simp only [Exit.then, Exit.inBlock]
  exact ret_of (rs := [.tmp 2]) hf rfl ⟨_, _, rfl, rfl, rfl⟩ ⟨ret_b (by unfold validT; simp [hbs, hbl, hbm]; omega), hE⟩
  clear hf a; intro h24 a hf
  refine sA hf rfl rfl fun a hf => sN <| hK19 _ _ <| wp_ret ?_
  simp only [decide_eq_true_eq, decide_eq_false_iff_not] at h19 h24
  try simp only [Exit.then, Exit.inBlock]
  exact ret_of (rs := [.tmp 2]) hf rfl ⟨_, _, rfl, rfl, rfl⟩ ⟨ret_b (by unfold validT; simp [hbs, hbl, hbm]; omega), hE⟩
  refine st_c hf rfl rfl rfl (by kernel_rfl) (bool_is (smallL _ t _ _ _ _ _ _ (Nat.le_refl _) (by omega) hT) hbm) ?_
  rintro _ w22 ⟨rfl, hx14⟩
  refine ⟨_, rfl, fun a hf => ?_⟩
  replace hB4 := hB4.c0 hx14
  replace hT := hT.chg hx14 (fun b hb hlt2 => nm0)
  replace hE := hE.t0 hx14
  refine sV hf rfl (ex_not (c := true) hf rfl rfl) fun a hf => sV hf rfl (ex_pickF hf rfl rfl) fun a hf => sM hf rfl rfl fun a hf => st_k hf rfl rfl fun a hf => st_k hf rfl rfl fun a hf => st_k hf rfl rfl fun a hf => sV hf rfl (ex_pickT hf rfl rfl) fun a hf => sN <| hK9 _ _ <| cT hf rfl <| wS fun K23 hK23 => wR <| sA hf rfl rfl fun a hf => sN <| hK23 _ _ <| wp_ret ?_
  try simp only [Exit.then, Exit.inBlock]
  exact ret_of (rs := [.tmp 2]) hf rfl ⟨_, _, rfl, rfl, rfl⟩ ⟨ret_b (by unfold validT; simp [hbs, hbl, hbm]), hE⟩
  refine st_c hf rfl rfl rfl (by kernel_rfl) (bool_is (leadedL _ t _ _ _ _ _ _ (Nat.le_refl _) (by omega) hT) hbl) ?_
  rintro _ w24 ⟨rfl, hx12⟩
  refine ⟨_, rfl, fun a hf => ?_⟩
  replace hB4 := hB4.c0 hx12
  replace hT := hT.chg hx12 (fun b hb hlt2 => nm0)
  replace hE := hE.t0 hx12
  refine sV hf rfl (ex_not (c := true) hf rfl rfl) fun a hf => sV hf rfl (ex_pickF hf rfl rfl) fun a hf => sM hf rfl rfl fun a hf => st_k hf rfl rfl fun a hf => st_k hf rfl rfl fun a hf => st_k hf rfl rfl fun a hf => sV hf rfl (ex_pickT hf rfl rfl) fun a hf => sM hf rfl rfl fun a hf => st_k hf rfl rfl fun a hf => st_k hf rfl rfl fun a hf => st_k hf rfl rfl fun a hf => sV hf rfl (ex_pickT hf rfl rfl) fun a hf => sN <| hK9 _ _ <| cT hf rfl <| wS fun K25 hK25 => wR <| sA hf rfl rfl fun a hf => sN <| hK25 _ _ <| wp_ret ?_
  try simp only [Exit.then, Exit.inBlock]
  exact ret_of (rs := [.tmp 2]) hf rfl ⟨_, _, rfl, rfl, rfl⟩ ⟨ret_b (by unfold validT; simp [hbs, hbl]), hE⟩
  refine st_c hf rfl rfl rfl (by kernel_rfl) (bool_is (shapedL _ t _ _ _ _ _ _ (Nat.le_refl _) (by omega) hT) hbs) ?_
  rintro _ w26 ⟨rfl, hx10⟩
  refine ⟨_, rfl, fun a hf => ?_⟩
  replace hB4 := hB4.c0 hx10
  replace hT := hT.chg hx10 (fun b hb hlt2 => nm0)
  replace hE := hE.t0 hx10
  refine sV hf rfl (ex_not (c := true) hf rfl rfl) fun a hf => sM hf rfl rfl fun a hf => st_k hf rfl rfl fun a hf => st_k hf rfl rfl fun a hf => st_k hf rfl rfl fun a hf => sV hf rfl (ex_pickT hf rfl rfl) fun a hf => sM hf rfl rfl fun a hf => st_k hf rfl rfl fun a hf => st_k hf rfl rfl fun a hf => st_k hf rfl rfl fun a hf => sV hf rfl (ex_pickT hf rfl rfl) fun a hf => sM hf rfl rfl fun a hf => st_k hf rfl rfl fun a hf => st_k hf rfl rfl fun a hf => st_k hf rfl rfl fun a hf => sV hf rfl (ex_pickT hf rfl rfl) fun a hf => sN <| hK9 _ _ <| cT hf rfl <| wS fun K27 hK27 => wR <| sA hf rfl rfl fun a hf => sN <| hK27 _ _ <| wp_ret ?_
  try simp only [Exit.then, Exit.inBlock]
  exact ret_of (rs := [.tmp 2]) hf rfl ⟨_, _, rfl, rfl, rfl⟩ ⟨ret_b (by unfold validT; simp [hbs]), hE⟩
end Go.Proofs.Ythpjpngfghcmcaa
namespace Go.Proofs.Ythpjpngfghcmcaa
open Go.RowKit Lx Sx
set_option maxRecDepth 100000
set_option maxHeartbeats 4000000
def awkS : List UInt8 := [109, 111, 100, 117, 108, 101, 32, 77, 32, 100, 101, 102, 32, 102, 40, 120, 58, 32, 73, 110, 116, 41, 58, 32, 73, 110, 116, 32, 61, 32, 120, 32, 43, 32, 49, 32, 35, 32, 101, 110, 100]
def awkT : Tree := (parseT awkS).1
theorem awk_zero : (parseT awkS).2 = (0, 0) := by decide +kernel
theorem awk_print : printT awkT = awkS := by decide +kernel
theorem awk_bulk : tbulk awkT ≤ 1000000000 := by decide +kernel
def awkB : Tree → Bool
  | .node k x ls ks => k == 1 && x == [77] && ls.length == 3 && ks.length == 1 && (match ks with | t :: _ => t.kids.length == 3 | [] => false)
theorem awk_form : awkB awkT = true := by decide +kernel
theorem awkP {w : World} : Calls Try.prog 12 [strV awkS].toArray w fun e w' => ∃ A m kb ko n A3 m3, e = .returned (.tuple #[.agg #[.int .i64 1, strV [77], .slice A 3 m, .slice (some ⟨kb, ko, none⟩) 1 n], .int .i64 0, .int .i64 0]) ∧ TreeIs (fun b => w.heap.size ≤ b) w' awkT [.int .i64 1, strV [77], .slice A 3 m, .slice (some ⟨kb, ko, none⟩) 1 n] ∧ kb < w'.heap.size ∧ w'.cell? ⟨kb, ko + 3, none⟩ = some (.slice A3 3 m3) ∧ Chg [] w w' := by
  refine (parseL (l := awkS) (w := w) (by decide)).mono ?_
  rintro e w' ⟨c0, c1, c2, c3, rfl, hT, hx⟩
  rw [awk_zero]
  have hT' := hT
  have hf := awk_form
  change TreeIs _ _ awkT _ at hT hT'
  obtain ⟨T, hTe⟩ : ∃ T, T = awkT := ⟨_, rfl⟩
  rw [← hTe] at hT hT' hf ⊢
  obtain ⟨k, x, ls, ks⟩ := T
  simp only [awkB, Bool.and_eq_true, beq_iff_eq] at hf
  obtain ⟨⟨⟨⟨rfl, rfl⟩, hl⟩, hk⟩, h3⟩ := hf
  obtain ⟨t0, r, rfl, hr⟩ := lenS (n := 0) hk
  obtain rfl := len0 hr
  simp only [beq_iff_eq] at h3
  simp only [TreeIs] at hT
  obtain ⟨A, m, B, n, hc, _, _, _, _, _, cs, hK, hR⟩ := hT
  simp only [List.cons.injEq, and_true] at hc
  obtain ⟨rfl, rfl, rfl, rfl⟩ := hc
  obtain ⟨kb, ko, rfl, hS, hkb, hcell⟩ := hR.2 (by simp)
  obtain ⟨d0, d1, d2, d3, hT0, _, _, _, g3⟩ := hK.at_ (i := 0) (by simp)
  obtain ⟨A3, m3', B3, n3, e4⟩ := hT0.cells
  simp only [List.cons.injEq, and_true] at e4
  rw [hl] at hT' ⊢
  simp only [List.getElem_cons_zero] at e4
  refine ⟨A, m, kb, ko, n, B3, n3, rfl, hT', hkb, ?_, hx⟩
  rw [hcell 3 (by simp), show cs[3]? = some d3 from g3, e4.2.2.2, h3]
theorem awakeL {w : World} : Calls Try.prog 11 [].toArray w fun e w' => e = .returned (.bool true) ∧ Chg [] w w' := by
  refine enter_fr 47 Try.func11 rfl rfl rfl ?_
  intro a hf
  have hE := Chg.refl [] w
  refine wS fun K1 hK1 => wR <| sA hf rfl rfl fun a hf => sN <| hK1 _ _ <| wS fun K2 hK2 => wR <| sA hf rfl rfl fun a hf => sN <| hK2 _ _ <| wS fun K3 hK3 => wR <| sM hf rfl rfl fun a hf => st_c hf rfl rfl rfl (by kernel_rfl) (awkP (w := w)) ?_
  rintro _ w5 ⟨A, m, kb, ko, n, A3, m3, rfl, hT, lt_kb, hQ3, hx4⟩
  refine ⟨_, rfl, fun a hf => ?_⟩
  obtain ⟨lo6, elo6⟩ : ∃ x, x = w.heap.size := ⟨_, rfl⟩
  obtain ⟨hi6, ehi6⟩ : ∃ x, x = w5.heap.size := ⟨_, rfl⟩
  replace hT := hT.within elo6 ehi6
  have hle6 : hi6 ≤ w5.heap.size := Nat.le_of_eq ehi6
  have ge_lo6 : w.heap.size ≤ lo6 := elo6 ▸ hE.size
  clear elo6 ehi6
  replace hE := hE.t0 hx4
  refine sM hf rfl rfl fun a hf => sV hf rfl (ex_extract hf rfl rfl) fun a hf => sV hf rfl (ex_extract hf rfl rfl) fun a hf => sV hf rfl (ex_extract hf rfl rfl) fun a hf => ?_
  obtain ⟨w7, b8, he, hB9, hx10, eb11, lb12⟩ := eT a w5 0
  refine sV hf rfl he fun a hf => ?_
  have ne_kb_b8 : kb ≠ b8 := ne_new lt_kb eb11
  have ta_hi6_b8 : hi6 ≤ b8 := eb11 ▸ hle6
  have ge_b8 := ge_new hE eb11
  replace hT := hT.chg hx10 (fun b hb _ => nm0)
  replace hle6 := nlt hle6 hx10.size
  replace hQ3 := (hx10.cell lt_kb nm0).trans hQ3
  replace lt_kb := hx10.lt lt_kb
  replace hE := hE.t0 hx10
  clear eb11 lb12
  obtain ⟨w13, he, hB14, hx15⟩ := eN (.tmp 2) (.tmp 8) hf rfl rfl rfl rfl hB9 rfl 0
  refine st_s hf rfl rfl he fun a hf => ?_
  replace hT := hT.chg hx15 (fun b hb _ => (nmc (by omega) nm0))
  replace hle6 := nlt hle6 hx15.size
  replace hQ3 := (hx15.cell lt_kb (nmc ne_kb_b8 nm0)).trans hQ3
  replace lt_kb := hx15.lt lt_kb
  replace hE := hE.trans hx15 (allc (.inr ge_b8) all0)
  clear hB9
  refine sA hf rfl rfl fun a hf => sA hf rfl rfl fun a hf => sN <| hK3 _ _ <| wS fun K16 hK16 => wR <| sM hf rfl rfl fun a hf => sV hf rfl (ex_eqI (c := true) hf rfl rfl (by decide)) fun a hf => sM hf rfl rfl fun a hf => sM hf rfl rfl fun a hf => sV hf rfl (ex_eqI (c := true) hf rfl rfl (by decide)) fun a hf => sV hf rfl (ex_pickT hf rfl rfl) fun a hf => sM hf rfl rfl fun a hf => sV hf rfl (ex_fa (k := 3) (r := 3) hf rfl (by kernel_rfl) rfl) fun a hf => sV hf rfl (ex_loadB hf rfl (by kernel_rfl) hB14 rfl) fun a hf => sV hf rfl (ex_len hf Try.underlying24 rfl) fun a hf => sV hf rfl (ex_eqI (c := true) hf rfl rfl (by decide)) fun a hf => sV hf rfl (ex_pickT hf rfl rfl) fun a hf => sM hf rfl rfl fun a hf => sV hf rfl (ex_fa (k := 1) (r := 1) hf rfl (by kernel_rfl) rfl) fun a hf => sV hf rfl (ex_loadB hf rfl (by kernel_rfl) hB14 rfl) fun a hf => sV hf rfl (ex_eqS (c := true) hf rfl rfl rfl) fun a hf => sV hf rfl (ex_pickT hf rfl rfl) fun a hf => sM hf rfl rfl fun a hf => sV hf rfl (ex_fa (k := 3) (r := 3) hf rfl (by kernel_rfl) rfl) fun a hf => sV hf rfl (ex_loadB hf rfl (by kernel_rfl) hB14 rfl) fun a hf => sV hf rfl (ex_index (sz := 4) (k := 0) (r := ko) hf Try.underlying24 (by kernel_rfl) rfl rfl rfl (by first | decide | simp) rfl) fun a hf => sV hf rfl (ex_fa (k := 3) (r := ko + 3) hf rfl (by kernel_rfl) rfl) fun a hf => sV hf rfl (ex_load hf rfl (by kernel_rfl) hQ3) fun a hf => sV hf rfl (ex_len hf Try.underlying24 rfl) fun a hf => sV hf rfl (ex_eqI (c := true) hf rfl rfl (by decide)) fun a hf => sV hf rfl (ex_pickT hf rfl rfl) fun a hf => sM hf rfl rfl fun a hf => sV hf rfl (ex_loadBN (m := 4) hf rfl (by kernel_rfl) hB14 rfl) fun a hf => st_c hf rfl rfl rfl (by kernel_rfl) (printL awk_bulk hT) ?_
  rintro _ w18 ⟨rfl, hx17⟩
  refine ⟨_, rfl, fun a hf => ?_⟩
  replace hB14 := hB14.c0 hx17
  replace hT := hT.chg hx17 (fun b hb _ => nm0)
  replace hle6 := nlt hle6 hx17.size
  replace hQ3 := (hx17.cell lt_kb nm0).trans hQ3
  replace lt_kb := hx17.lt lt_kb
  replace hE := hE.t0 hx17
  refine sM hf rfl rfl fun a hf => sV hf rfl (ex_eqS (c := true) hf rfl rfl (by rw [awk_print]; rfl)) fun a hf => sV hf rfl (ex_pickT hf rfl rfl) fun a hf => sM hf rfl rfl fun a hf => st_c hf rfl rfl rfl (by kernel_rfl) (leadsL (k := 2) (n := 4) (by omega)) ?_
  rintro _ w20 ⟨rfl, hx19⟩
  refine ⟨_, rfl, fun a hf => ?_⟩
  replace hB14 := hB14.c0 hx19
  replace hT := hT.chg hx19 (fun b hb _ => nm0)
  replace hle6 := nlt hle6 hx19.size
  replace hQ3 := (hx19.cell lt_kb nm0).trans hQ3
  replace lt_kb := hx19.lt lt_kb
  replace hE := hE.t0 hx19
  refine sV hf rfl (ex_eqI (c := true) hf rfl rfl rfl) fun a hf => sV hf rfl (ex_pickT hf rfl rfl) fun a hf => sA hf rfl rfl fun a hf => sN <| hK16 _ _ <| wp_ret ?_
  try simp only [Exit.then, Exit.inBlock]
  exact ret_of (rs := [.tmp 0]) hf rfl ⟨_, _, rfl, rfl, rfl⟩ ⟨rfl, hE⟩
end Go.Proofs.Ythpjpngfghcmcaa
namespace Go.Proofs.Ythpjpngfghcmcaa
open Go.RowKit Lx Sx
set_option maxRecDepth 100000
set_option maxHeartbeats 4000000
theorem parseAt {l : List UInt8} {w : World} (hl : l.length ≤ 281474976710656) {at_ e : Nat} (h : (parseT l).2 = (at_, e)) : Calls Try.prog 12 [strV l].toArray w fun r w' => ∃ c0 c1 c2 c3, r = .returned (.tuple #[.agg #[c0, c1, c2, c3], .int .i64 at_, .int .i64 e]) ∧ TreeIs (fun b => w.heap.size ≤ b) w' (parseT l).1 [c0, c1, c2, c3] ∧ Chg [] w w' := by
  refine (parseL (l := l) (w := w) hl).mono ?_
  rintro r w' ⟨c0, c1, c2, c3, rfl, hT, hx⟩
  rw [h]
  exact ⟨c0, c1, c2, c3, rfl, hT, hx⟩
end Go.Proofs.Ythpjpngfghcmcaa
namespace Go.Proofs.Ythpjpngfghcmcaa
open Lx
theorem spanN_app_lt (p : UInt8 → Bool) : ∀ (a r : List UInt8), spanN p a < a.length → spanN p (a ++ r) = spanN p a
  | [], r, h => by simp at h
  | c :: a, r, h => by
    unfold spanN at *
    simp only [List.cons_append, List.takeWhile_cons] at *
    split
    · rename_i hp
      simp only [hp, if_true, List.length_cons] at h ⊢
      have := spanN_app_lt p a r (by unfold spanN; omega)
      unfold spanN at this
      omega
    · rfl
theorem spanN_app_all (p : UInt8 → Bool) : ∀ (a r : List UInt8), spanN p a = a.length → spanN p (a ++ r) = a.length + spanN p r
  | [], r, h => by simp
  | c :: a, r, h => by
    unfold spanN at *
    simp only [List.cons_append, List.takeWhile_cons] at *
    split
    · rename_i hp
      simp only [hp, if_true, List.length_cons] at h ⊢
      have := spanN_app_all p a r (by unfold spanN; omega)
      unfold spanN at this
      omega
    · rename_i hp
      simp [hp] at h
theorem spanN_head {p : UInt8 → Bool} {r : List UInt8} (h : p (r.getD 0 0) = false ∨ r = []) : spanN p r = 0 := by
  cases r with
  | nil => rfl
  | cons c r => simp at h; simp [spanN, h]
theorem getD_app (a r : List UInt8) (k : Nat) (h : k < a.length) : (a ++ r).getD k 0 = a.getD k 0 := by
  simp only [List.getD]; rw [List.getElem?_append_left h]
def growsB (a : List UInt8) (c : UInt8) : Bool := (letterB (a.getD 0 0) && wordB c) || (digitB (a.getD 0 0) && digitB c) || (a == [61] && c.toNat == 61)
theorem wordT_len_eq {l : List UInt8} {k m : Nat} (h : wordT l = (k, m, 0)) : m = if wordCond l = true then spanN wordB l + 1 + spanN wordB (l.drop (spanN wordB l + 1)) else spanN wordB l := by
  unfold wordT at h
  split at h
  · rename_i hc
    rw [if_pos hc]
    unfold wordYesT at h
    split at h
    · simp at h
    · split at h
      · simp at h
      · split at h <;> (simp at h; omega)
  · rename_i hc
    rw [if_neg hc]
    unfold wordNoT at h
    split at h
    · simp at h
    · split at h
      · simp at h; omega
      · split at h <;> (simp at h; omega)
theorem class_token {a : List UInt8} {k : Nat} (h : classT a = k) (hk : k ≠ 0) : 0 < a.length ∧ tokenT a = (k, a.length, 0) := by
  unfold classT at h
  by_cases h0 : a = []
  · rw [if_pos h0] at h; exact absurd h.symm hk
  · rw [if_neg h0] at h
    by_cases h1 : (tokenT a).2.2 = 0 ∧ (tokenT a).2.1 = a.length
    · rw [if_pos h1] at h
      exact ⟨List.length_pos_iff.2 h0, by rw [← h, ← h1.2, ← h1.1]⟩
    · rw [if_neg h1] at h; exact absurd h.symm hk
theorem quotedT_app : ∀ (r : List UInt8) (i m : Nat) (s : List UInt8), quotedT r i = (m, 0) → quotedT (r ++ s) i = (m, 0)
  | [], i, m, s, h => by simp [quotedT] at h
  | c :: r, i, m, s, h => by
    rw [List.cons_append]
    unfold quotedT at h ⊢
    split
    · rename_i ha; rw [if_pos ha] at h; simp at h
    · rename_i ha; rw [if_neg ha] at h
      split
      · rename_i hq; rw [if_pos hq] at h; exact h
      · rename_i hq; rw [if_neg hq] at h
        split
        · rename_i hb; rw [if_pos hb] at h; simp at h
        · rename_i hb; rw [if_neg hb] at h
          exact quotedT_app r (i + 1) m s h
theorem wordT_app {a r : List UInt8} {k : Nat} (h0 : 0 < a.length) (hl : letterB (a.getD 0 0) = true) (h : wordT a = (k, a.length, 0)) (hr : wordB (r.getD 0 0) = false ∧ (r.getD 0 0).toNat ≠ 46 ∨ r = []) : wordT (a ++ r) = (k, a.length, 0) := by
  have hpos : 0 < spanN wordB a := spanN_pos h0 (wordB_letter hl)
  have hle := spanN_le wordB a
  have hlen := wordT_len_eq h
  have hsr : spanN wordB r = 0 := spanN_head (hr.imp (·.1) id)
  by_cases hcond : wordCond a = true
  · rw [if_pos hcond] at hlen
    obtain ⟨c1, c2, c3, c4, c5⟩ := wordCond_parts hcond
    have hy := wordT_yes rfl rfl hcond
    generalize hn : spanN wordB a = n at *
    generalize hm' : spanN wordB (a.drop (n + 1)) = m' at *
    have e1 : spanN wordB (a ++ r) = n := by rw [spanN_app_lt _ _ _ (by omega), hn]
    have e2 : (a ++ r).take n = a.take n := List.take_append_of_le_length (by omega)
    have hc' : wordCond (a ++ r) = true := wordCond_mk e1 (by rw [getD_app _ _ _ h0]; exact c1) (by rw [e2]; exact c2) (by simp; omega) (by rw [getD_app _ _ _ (by omega)]; exact c4) (by rw [getD_app _ _ _ (by omega)]; exact c5)
    have e4 : (a ++ r).drop (n + 1) = a.drop (n + 1) ++ r := List.drop_append_of_le_length (by omega)
    have e3 : spanN wordB ((a ++ r).drop (n + 1)) = m' := by
      rw [e4, spanN_app_all _ _ _ (by rw [hm', List.length_drop]; omega), hsr, List.length_drop]; omega
    rw [wordT_yes e1 e3 hc', ← h, hy]
    unfold wordYesT
    rw [e4, getD_app _ _ _ (by omega), List.take_append_of_le_length (by rw [List.length_drop]; omega)]
  · have hcond' : wordCond a = false := by simpa using hcond
    rw [if_neg hcond] at hlen
    have hnn := wordT_no rfl hcond'
    generalize hn : spanN wordB a = n at *
    have e1 : spanN wordB (a ++ r) = n := by rw [spanN_app_all _ _ _ (by omega), hsr]; omega
    have hc' : wordCond (a ++ r) = false := by
      cases hx : wordCond (a ++ r) with
      | false => rfl
      | true =>
        obtain ⟨d1, d2, d3, d4, d5⟩ := wordCond_parts hx
        rw [e1] at d3 d4
        rcases hr with hr | hr
        · refine absurd ?_ hr.2
          have : (a ++ r).getD n 0 = r.getD 0 0 := by
            simp only [List.getD]; rw [List.getElem?_append_right (by omega)]; congr 2; omega
          rw [← this]; exact d4
        · subst hr; simp at d3; omega
    rw [wordT_no e1 hc', ← h, hnn]
    unfold wordNoT
    rw [getD_app _ _ _ h0, List.take_append_of_le_length (by omega)]
theorem tokenT_app {a r : List UInt8} {k : Nat} (h0 : 0 < a.length) (h : tokenT a = (k, a.length, 0)) (hr : growsB a (r.getD 0 0) = false ∧ (r.getD 0 0).toNat ≠ 46 ∨ r = []) : tokenT (a ++ r) = (k, a.length, 0) := by
  have hg : (a ++ r).getD 0 0 = a.getD 0 0 := getD_app _ _ _ h0
  have hgr : ∀ {P : Prop}, (growsB a (r.getD 0 0) = false → P) → P ∨ r = [] := fun {P} f => hr.imp (fun x => f x.1) id
  unfold tokenT at h ⊢
  simp only at h ⊢
  rw [hg]
  by_cases ha : allowedB (a.getD 0 0) = false
  · rw [if_pos ha] at h; simp at h
  rw [if_neg ha] at h ⊢
  by_cases hl : letterB (a.getD 0 0) = true
  · rw [if_pos hl] at h ⊢
    refine wordT_app h0 hl h (hr.imp (fun x => ⟨?_, x.2⟩) id)
    have := x.1
    unfold growsB at this
    simp only [hl, Bool.true_and, Bool.or_eq_false_iff] at this
    exact this.1.1
  rw [if_neg hl] at h ⊢
  by_cases hd : digitB (a.getD 0 0) = true
  · rw [if_pos hd] at h ⊢
    simp only [Prod.mk.injEq] at h
    have hn : spanN digitB a = a.length := by
      have h2 := h.2
      unfold numberT at h2
      simp only at h2
      split at h2
      · simp at h2
      · split at h2
        · simp at h2
        · simp at h2; exact h2
    have hsr : spanN digitB r = 0 := spanN_head (hgr (fun x => by unfold growsB at x; simp only [hd, Bool.true_and, Bool.or_eq_false_iff] at x; exact x.1.2))
    have e1 : spanN digitB (a ++ r) = a.length := by rw [spanN_app_all _ _ _ hn, hsr]; omega
    have e2 : numberT (a ++ r) = numberT a := by unfold numberT; rw [e1, hn, hg]
    rw [e2, h.2, h.1]
  rw [if_neg hd] at h ⊢
  by_cases hq : (a.getD 0 0).toNat = 34
  · rw [if_pos hq] at h ⊢
    simp only [Prod.mk.injEq] at h
    have e : (a ++ r).tail = a.tail ++ r := by
      cases a with
      | nil => simp at h0
      | cons c a => rfl
    rw [e, quotedT_app _ _ _ _ h.2, h.1]
  rw [if_neg hq] at h ⊢
  by_cases he : (a.getD 0 0).toNat = 61 ∧ 1 < a.length ∧ (a.getD 1 0).toNat = 61
  · rw [if_pos he] at h
    rw [if_pos ⟨he.1, by simp; omega, by rw [getD_app _ _ _ he.2.1]; exact he.2.2⟩]
    exact h
  · rw [if_neg he] at h
    by_cases hs : signs.contains (a.getD 0 0) = true
    · rw [if_pos hs] at h
      simp only [Prod.mk.injEq] at h
      have hl1 : a.length = 1 := h.2.1.symm
      rw [if_neg, if_pos hs, h.1, ← h.2.1]
      intro hh
      obtain ⟨h1, h2, h3⟩ := hh
      have ha1 : a = [61] := by
        match a, hl1 with
        | [c], _ =>
          simp at h1
          congr 1
          apply UInt8.toNat_inj.1
          simpa using h1
      have h4 : (a ++ r).getD 1 0 = r.getD 0 0 := by
        simp only [List.getD]; rw [List.getElem?_append_right (by omega), hl1]
      rcases hr with hr | hr
      · have := hr.1
        unfold growsB at this
        rw [ha1] at this
        simp only [beq_self_eq_true, Bool.true_and, Bool.or_eq_false_iff, beq_eq_false_iff_ne] at this
        exact this.2 (by rw [← h4]; exact h3)
      · subst hr; simp at h2; omega
    · rw [if_neg hs] at h; simp at h
theorem token_head {a : List UInt8} {k : Nat} (h0 : 0 < a.length) (h : tokenT a = (k, a.length, 0)) : whiteB (a.getD 0 0) = false ∧ (a.getD 0 0).toNat ≠ 35 ∧ (a.getD 0 0).toNat ≠ 46 := by
  have hc : a[0] = a.getD 0 0 := by simp [List.getD, List.getElem?_eq_getElem h0]
  refine ⟨?_, ?_, ?_⟩
  · cases hw : whiteB (a.getD 0 0) with
    | false => rfl
    | true => rw [tokenT_white h0 hc (.inl hw)] at h; simp at h
  · intro h35; rw [tokenT_white h0 hc (.inr h35)] at h; simp at h
  · intro h46
    have hn : a.getD 0 0 = 46 := by apply UInt8.toNat_inj.1; simpa using h46
    unfold tokenT at h
    simp only at h
    rw [hn] at h
    rw [if_neg (by decide), if_neg (by decide), if_neg (by decide), if_neg (by decide), if_neg (by intro x; exact absurd x.1 (by decide)), if_neg (by decide)] at h
    simp at h
theorem lead_stop {r : List UInt8} {n : Nat} (h0 : 0 < r.length) (h1 : whiteB (r.getD 0 0) = false) (h2 : (r.getD 0 0).toNat ≠ 35) : leadT false r n = (n, none) := by
  cases r with
  | nil => simp at h0
  | cons c r => simp at h1 h2; simp [leadT, h1, h2]
def Apart : List Tok → Prop
  | [] => True
  | [_] => True
  | a :: b :: r => (b.lead = [] → fusesT a.text b.text = false) ∧ Apart (b :: r)
end Go.Proofs.Ythpjpngfghcmcaa
namespace Go.Proofs.Ythpjpngfghcmcaa
open Lx
theorem spanN_next (p : UInt8 → Bool) : ∀ (l : List UInt8), spanN p l < l.length → p (l.getD (spanN p l) 0) = false
  | [], h => by simp at h
  | c :: r, h => by
    by_cases hc : p c = true
    · have e : spanN p (c :: r) = spanN p r + 1 := by simp [spanN, hc]
      rw [e] at h ⊢
      have := spanN_next p r (by simpa using h)
      simpa using this
    · have e : spanN p (c :: r) = 0 := by simp [spanN, hc]
      rw [e]; simpa using hc
theorem getD_len (a r : List UInt8) : (a ++ r).getD a.length 0 = r.getD 0 0 := by
  rw [List.getD_eq_getElem?_getD, List.getElem?_append_right (Nat.le_refl _), Nat.sub_self, ← List.getD_eq_getElem?_getD]
theorem munch {a r : List UInt8} {k : Nat} (h0 : 0 < a.length) (hr : r ≠ []) (h : tokenT (a ++ r) = (k, a.length, 0)) : growsB a (r.getD 0 0) = false := by
  have hrl : 0 < r.length := List.length_pos_iff.2 hr
  have hlt : a.length < (a ++ r).length := by simp; omega
  have hg : (a ++ r).getD 0 0 = a.getD 0 0 := getD_app a r 0 h0
  have hw : letterB (a.getD 0 0) = true → wordB (r.getD 0 0) = false := by
    intro hl
    have e : tokenT (a ++ r) = wordT (a ++ r) := by
      unfold tokenT
      simp only
      split
      · rename_i ha; rw [hg] at ha; simp [allowedB, printedB, letterB, lowerB, upperB, whiteB] at ha hl; omega
      · rw [if_pos (by rw [hg]; exact hl)]
    rw [e] at h
    have hm := wordT_len_eq h
    rw [← getD_len a r]
    split at hm
    · have hc := wordCond_parts ‹_›
      have h1 := spanN_next wordB ((a ++ r).drop (spanN wordB (a ++ r) + 1)) (by simp only [List.length_drop]; omega)
      have e2 : ((a ++ r).drop (spanN wordB (a ++ r) + 1)).getD (spanN wordB ((a ++ r).drop (spanN wordB (a ++ r) + 1))) 0 = (a ++ r).getD a.length 0 := by
        rw [List.getD_eq_getElem?_getD, List.getElem?_drop, ← hm, ← List.getD_eq_getElem?_getD]
      rw [e2] at h1; exact h1
    · have h1 := spanN_next wordB (a ++ r) (by omega)
      rw [← hm] at h1; exact h1
  have hd : digitB (a.getD 0 0) = true → digitB (r.getD 0 0) = false := by
    intro hl
    have e : tokenT (a ++ r) = (5, numberT (a ++ r)) := by
      unfold tokenT
      simp only
      split
      · rename_i ha; rw [hg] at ha; simp [allowedB, printedB, digitB, whiteB] at ha hl; omega
      · rw [if_neg (by rw [hg]; simp [letterB, lowerB, upperB, digitB] at hl ⊢; omega), if_pos (by rw [hg]; exact hl)]
    rw [e] at h
    have hn : numberT (a ++ r) = (a.length, 0) := by simpa using congrArg Prod.snd h
    have hm : spanN digitB (a ++ r) = a.length := by
      unfold numberT at hn
      simp only at hn
      split at hn
      · simp at hn
      · split at hn
        · simp at hn
        · simpa using congrArg Prod.fst hn
    rw [← getD_len a r, ← hm]
    exact spanN_next digitB (a ++ r) (by omega)
  have he : a = [61] → ¬ (r.getD 0 0).toNat = 61 := by
    intro ha hc
    subst ha
    unfold tokenT at h
    rw [if_neg (by rw [hg]; decide), if_neg (by rw [hg]; decide), if_neg (by rw [hg]; decide), if_neg (by rw [hg]; decide), if_pos ⟨by rw [hg]; decide, by simp; omega, by simpa using hc⟩] at h
    simp at h
  unfold growsB
  simp only [Bool.or_eq_false_iff, Bool.and_eq_false_iff]
  refine ⟨⟨?_, ?_⟩, ?_⟩
  · cases hl : letterB (a.getD 0 0)
    · exact .inl rfl
    · exact .inr (hw hl)
  · cases hl : digitB (a.getD 0 0)
    · exact .inl rfl
    · exact .inr (hd hl)
  · by_cases ha : a = [61]
    · right; simpa using he ha
    · left; simpa using ha
theorem grows_fuses {a b : List UInt8} {ka kb : Nat} (ha : classT a = ka) (hka : ka ≠ 0) (hb : classT b = kb) (hkb : kb ≠ 0) (hl : a.length + b.length ≤ 4096) (hg : growsB a (b.getD 0 0) = false) : fusesT a b = false := by
  obtain ⟨a0, hta⟩ := class_token ha hka
  obtain ⟨b0, htb⟩ := class_token hb hkb
  have hha := token_head a0 hta
  have hhb := token_head b0 htb
  have t1 : tokenT (a ++ b) = (ka, a.length, 0) := tokenT_app a0 hta (.inl ⟨hg, hhb.2.2⟩)
  have g1 : (a ++ b).getD 0 0 = a.getD 0 0 := getD_app a b 0 a0
  have l1 : leadT false (a ++ b) 0 = (0, none) := lead_stop (by simp; omega) (by rw [g1]; exact hha.1) (by rw [g1]; exact hha.2.1)
  have l2 : leadT false b 0 = (0, none) := lead_stop b0 hhb.1 hhb.2.1
  have l3 : leadT false ([] : List UInt8) 0 = (0, none) := rfl
  have hs : scan (a ++ b) = ⟨[⟨ka, [], a⟩, ⟨kb, [], b⟩], [], 0, 0⟩ := by
    unfold scan
    rw [if_neg (by simp; omega), scanT_tok l1 (by simp; omega) (by simpa using t1)]
    have e1 : (a ++ b).drop (0 + a.length) = b := by simp
    rw [e1]
    obtain ⟨f, hf⟩ : ∃ f, (a ++ b).length = f + 1 + 1 := ⟨a.length + b.length - 2, by simp; omega⟩
    rw [hf, scanT_tok l2 (by omega) (by simpa using htb)]
    have e2 : b.drop (0 + b.length) = [] := by simp
    rw [e2, scanT_end l3 rfl]
    simp
  have hne : ¬ (classT a = 0 ∨ classT b = 0) := by rw [ha, hb]; rintro (h | h); exact hka h; exact hkb h
  rw [fusesT_two (t0 := ⟨ka, [], a⟩) (t1 := ⟨kb, [], b⟩) hne (by rw [hs]) (by rw [hs]) (by rw [hs])]
  simp
theorem good_head {t : Tok} (h : GoodTok t) : 0 < t.text.length := by
  obtain ⟨h1, h2, _⟩ := h
  exact (class_token (a := t.text) (k := classT t.text) rfl (by omega)).1
theorem scanT_apart : ∀ (f : Nat) (l : List UInt8) (pos : Nat) (acc : List Tok), l.length < f → l.length ≤ 4096 → (scanT f l pos acc).err = 0 →
    ∃ ts, (scanT f l pos acc).toks = acc ++ ts ∧ joinT ts (scanT f l pos acc).tail = l ∧ (∀ t ∈ ts, GoodTok t) ∧ Apart ts
  | 0, l, pos, acc, hf, _, _ => by omega
  | f + 1, l, pos, acc, hf, h4, he => by
    obtain ⟨n, b, hLd⟩ : ∃ n b, leadT false l 0 = (n, b) := ⟨_, _, rfl⟩
    cases b with
    | some q => rw [scanT_bad hLd] at he; simp at he
    | none =>
      by_cases hn : n = l.length
      · rw [scanT_end hLd hn] at he ⊢
        exact ⟨[], by simp, rfl, by simp, trivial⟩
      · have hnl : n < l.length := by have h := leadT_le false l 0; rw [hLd] at h; simp at h; omega
        have hd0 : 0 < (l.drop n).length := by simp; omega
        obtain ⟨k, m, e, hT⟩ : ∃ k m e, tokenT (l.drop n) = (k, m, e) := ⟨_, _, _, rfl⟩
        by_cases he0 : e = 0
        · subst he0
          have hlen := tokenT_len hd0
          rw [hT] at hlen
          simp only [List.length_drop] at hlen
          have hm0 := hlen.2 trivial
          rw [scanT_tok hLd hn hT] at he ⊢
          obtain ⟨ts, h1, h2, h3, h5⟩ := scanT_apart f (l.drop (n + m)) (pos + n + m) (acc ++ [⟨k, l.take n, (l.drop n).take m⟩]) (by simp; omega) (by simp; omega) he
          have hgt : GoodTok ⟨k, l.take n, (l.drop n).take m⟩ := by
            refine ⟨?_, ?_, lead_take l false n hLd hnl⟩
            · simp only; rw [class_of_token hd0 hT]
            · simp only; have := tokenT_kind hT; omega
          refine ⟨⟨k, l.take n, (l.drop n).take m⟩ :: ts, by rw [h1]; simp, ?_, ?_, ?_⟩
          · simp only [joinT]
            rw [h2, ← List.drop_drop, List.append_assoc, List.take_append_drop, List.take_append_drop]
          · intro t ht
            rcases List.mem_cons.1 ht with rfl | ht
            · exact hgt
            · exact h3 t ht
          · cases ts with
            | nil => trivial
            | cons t2 ts =>
              refine ⟨fun hl2 => ?_, h5⟩
              have g2 := h3 t2 (List.mem_cons_self ..)
              have b0 := good_head g2
              have e1 : ∃ q, l.drop (n + m) = t2.text ++ q := ⟨_, h2.symm.trans (by simp only [joinT, hl2, List.nil_append]; rfl)⟩
              obtain ⟨q, e1⟩ := e1
              have e2 : l.drop n = (l.drop n).take m ++ l.drop (n + m) := by rw [← List.drop_drop, List.take_append_drop]
              have hml : ((l.drop n).take m).length = m := by simp; omega
              have hmu := munch (a := (l.drop n).take m) (r := l.drop (n + m)) (k := k) (by omega) (by intro e; rw [e1] at e; simp at e; simp [e.1] at b0) (by rw [← e2, hml]; exact hT)
              rw [e1, getD_app _ _ _ b0] at hmu
              have hl3 : t2.text.length ≤ l.length - (n + m) := by
                have := congrArg List.length e1; simp only [List.length_drop, List.length_append] at this; omega
              have c1 : classT ((l.drop n).take m) = k := class_of_token hd0 hT
              exact grows_fuses c1 (tokenT_kind hT) rfl (by have := g2.1; have := g2.2.1; omega) (by simp only [hml]; omega) hmu
        · rw [scanT_err hLd hn hT he0] at he; simp only at he; omega
theorem scan_apart {l : List UInt8} (h : (scan l).err = 0) : Apart (scan l).toks := by
  unfold scan at h ⊢
  by_cases h4 : 4096 < l.length
  · rw [if_pos h4] at h; simp at h
  · rw [if_neg h4] at h ⊢
    obtain ⟨ts, h1, _, _, h5⟩ := scanT_apart _ l 0 [] (Nat.lt_succ_self _) (by omega) h
    rw [h1]; simpa using h5
end Go.Proofs.Ythpjpngfghcmcaa
namespace Go.Proofs.Ythpjpngfghcmcaa
open Go.RowKit Lx Sx
def putsP : List Tok → WS → WS
  | [], s => s
  | t :: r, s => putsP r (putP t.lead t.text s)
theorem putsP_app : ∀ (a b : List Tok) (s : WS), putsP (a ++ b) s = putsP b (putsP a s)
  | [], b, s => rfl
  | t :: r, b, s => by simp only [List.cons_append, putsP]; exact putsP_app r b _
theorem putsP_join : ∀ (ts : List Tok) (last out : List UInt8), Apart ts → (∀ t r, ts = t :: r → t.lead = [] → last = [] ∨ fusesT last t.text = false) → (putsP ts (last, out)).2 = out ++ joinT ts []
  | [], last, out, _, _ => by simp [putsP, joinT]
  | t :: r, last, out, hap, h => by
    have hg : glueT last t.lead t.text = t.lead := by
      unfold glueT
      split
      · rename_i hc
        rcases h t r rfl hc.1 with e | e
        · exact absurd e hc.2.1
        · rw [e] at hc; exact absurd hc.2.2 (by simp)
      · rfl
    have hr : Apart r := by
      cases r with
      | nil => trivial
      | cons u r => exact hap.2
    have ih := putsP_join r t.text (out ++ t.lead ++ t.text) hr (fun u q e hl => by subst e; exact .inr (hap.1 hl))
    simp only [putsP, putP, hg]
    rw [ih]; simp [joinT]
theorem pFail_bad {e : Nat} (he : e ≠ 0) (s : PS) : (pFail e s).failed ≠ 0 := by
  unfold pFail; split
  · exact he
  · assumption
theorem pTake_failed (s : PS) : (pTake s).failed = s.failed := by
  unfold pTake; split <;> rfl
theorem pTake_toks {s : PS} {t : Tok} {r : List Tok} (h : s.toks = t :: r) : (pTake s).toks = r := by
  unfold pTake; cases r <;> simp [h]
theorem next_cons {s : PS} {t : Tok} {r : List Tok} (h : s.toks = t :: r) : pNext s = t := by simp [pNext, h]
theorem next_text {s : PS} {x : List UInt8} (h : (pNext s).text = x) (hx : x ≠ []) : ∃ t r, s.toks = t :: r ∧ t.text = x := by
  unfold pNext at h
  cases hs : s.toks with
  | nil => rw [hs] at h; exact absurd h.symm hx
  | cons t r => rw [hs] at h; exact ⟨t, r, rfl, h⟩
theorem next_kind {s : PS} (h : (pNext s).kind ≠ 0) : ∃ t r, s.toks = t :: r := by
  unfold pNext at h
  cases hs : s.toks with
  | nil => rw [hs] at h; exact absurd rfl h
  | cons t r => exact ⟨t, r, rfl⟩
theorem word_ok {x : List UInt8} {s : PS} (hx : x ≠ []) (h : (pWord x s).2.failed = 0) : s.failed = 0 ∧ ∃ t r, s.toks = t :: r ∧ t.text = x ∧ (pWord x s).1 = t.lead ∧ (pWord x s).2.toks = r := by
  unfold pWord at h ⊢
  split at h
  · rename_i hc
    obtain ⟨t, r, e, ht⟩ := next_text hc hx
    rw [if_pos hc]
    exact ⟨by rw [← pTake_failed]; exact h, t, r, e, ht, by rw [next_cons e], pTake_toks e⟩
  · exact absurd h (pFail_bad (by decide) s)
theorem name_ok {k o : Int} {s : PS} (h : (pName k o s).2.2.failed = 0) : s.failed = 0 ∧ ∃ t r, s.toks = t :: r ∧ (t.kind = k ∨ t.kind = o) ∧ (pName k o s).1 = t.text ∧ (pName k o s).2.1 = t.lead ∧ (pName k o s).2.2.toks = r := by
  unfold pName at h ⊢
  split at h
  · exact absurd h (pFail_bad (by decide) s)
  · rename_i hc
    rw [if_neg hc]
    simp only [not_or] at hc
    obtain ⟨t, r, e⟩ := next_kind hc.1
    have en := next_cons e
    rw [en] at hc
    exact ⟨by rw [← pTake_failed]; exact h, t, r, e, by have := hc.2; omega, by rw [en], by rw [en], pTake_toks e⟩
def Goods (l : List Tok) : Prop := ∀ t ∈ l, GoodTok t
theorem Goods.l {a b : List Tok} (h : Goods (a ++ b)) : Goods a := fun t ht => h t (by simp [ht])
theorem Goods.r {a b : List Tok} (h : Goods (a ++ b)) : Goods b := fun t ht => h t (by simp [ht])
theorem Goods.hd {t : Tok} {b : List Tok} (h : Goods (t :: b)) : GoodTok t := h t (by simp)
theorem Goods.tl {t : Tok} {b : List Tok} (h : Goods (t :: b)) : Goods b := fun u hu => h u (by simp [hu])
theorem GoodTok.triv {t : Tok} (h : GoodTok t) : triviaT false t.lead false = true := h.2.2
theorem GoodTok.cls {t : Tok} (h : GoodTok t) {k : Nat} (hk : t.kind = k) : classT t.text = k := by have := h.1; omega
def wsum : List Tok → Nat
  | [] => 0
  | t :: r => t.lead.length + t.text.length + 3 + wsum r
theorem wsum_app : ∀ (a b : List Tok), wsum (a ++ b) = wsum a + wsum b
  | [], b => by simp [wsum]
  | t :: r, b => by simp only [List.cons_append, wsum, wsum_app r b]; omega
theorem lsum_append : ∀ (a b : List (List UInt8)), lsum (a ++ b) = lsum a + lsum b
  | [], b => by simp [lsum]
  | u :: r, b => by simp only [List.cons_append, lsum, lsum_append r b]; omega
theorem kbulk_append : ∀ (a b : List Tree), kbulk (a ++ b) = kbulk a + kbulk b
  | [], b => by simp [kbulk]
  | u :: r, b => by simp only [List.cons_append, kbulk, kbulk_append r b]; omega
def Fine (t : Tree) : Prop := shapedT t = true ∧ leadedT t = true ∧ smallT t = true
def Rd (K : Int → Bool) (B : Tok → Bool) (d : Nat) (s : PS) (t : Tree) (s' : PS) : Prop :=
  s.failed = 0 ∧ ∃ u r, s.toks = (u :: r) ++ s'.toks ∧ B u = true ∧ (∀ st, treeP t st = putsP (u :: r) st) ∧ tbulk t + d ≤ wsum (u :: r) ∧ (Goods (u :: r) → K t.kind = true ∧ Fine t)
def RdF (K : Int → Bool) (B : Tok → Bool) (d : Nat) (f : PS → Tree × PS) (n : Nat) : Prop := ∀ s, s.toks.length < n → (f s).2.failed = 0 → Rd K B d s (f s).1 (f s).2
def anyB (_ : Tok) : Bool := true
theorem trivs_of {k : Int} (hk : k ≠ 1) : ∀ {ls : List (List UInt8)} (i : Nat), (∀ l ∈ ls, triviaT false l false = true) → trivsT k ls i = true
  | [], i, _ => rfl
  | l :: r, i, h => by
    have e : (k == 1 && (i : Int) == 2) = false := by simp [hk]
    rw [trivsT, e, h l (by simp), trivs_of hk (i + 1) (fun x hx => h x (by simp [hx]))]; rfl
theorem fine_mk {k : Int} {x : List UInt8} {ls : List (List UInt8)} {ks : List Tree} (h1 : (ls.length : Int) = leadsT k ks.length) (h2 : wordedT k x = true) (h3 : kidsT k ks.length ks 0 = true) (hk : k ≠ 1) (h4 : ∀ l ∈ ls, triviaT false l false = true) (h5 : fewT k ks.length = true) (h6 : leadedsT ks = true) (h7 : smallsT ks = true) : Fine (.node k x ls ks) := by
  refine ⟨?_, ?_, ?_⟩
  · rw [shapedT, h2, h3]; simp; omega
  · rw [leadedT, trivs_of hk 0 h4, h6]; simp [h1]
  · rw [smallT, h5, h7]; rfl
theorem leaf_rd {K : Int → Bool} {B : Tok → Bool} {s s' : PS} {t : Tok} {k : Int} {x : List UInt8} (hf : s.failed = 0) (hs : s.toks = t :: s'.toks) (hB : B t = true) (hK : K k = true) (hl : leadsT k 0 = 1) (hw : GoodTok t → wordedT k x = true) (hk : k ≠ 1 ∧ k ≠ 2 ∧ k ≠ 16 ∧ k ≠ 18) (hp : ∀ st, nodeP k x [t.lead] [] st = putP t.lead t.text st) (hx : x.length ≤ t.text.length) : Rd K B 1 s (.node k x [t.lead] []) s' := by
  refine ⟨hf, t, [], by simpa using hs, hB, fun st => ?_, ?_, fun hg => ⟨hK, fine_mk ?_ (hw hg.hd) rfl hk.1 ?_ ?_ rfl rfl⟩⟩
  · rw [treeP, treesP, hp]; rfl
  · simp only [tbulk, lsum, kbulk, wsum]; omega
  · simp [hl]
  · intro l hl; simp only [List.mem_singleton] at hl; subst hl; exact hg.hd.triv
  · simp [fewT, hk.1, hk.2.1, hk.2.2.1, hk.2.2.2]
theorem typ_rd : ∀ n, RdF isTypeB anyB 1 (typT n) n
  | 0, s, hn, _ => by omega
  | n + 1, s, hn, h => by
    unfold typT at h ⊢
    by_cases h1 : (pNext s).text = wInt
    · rw [if_pos h1] at h ⊢
      obtain ⟨t, r, e, ht⟩ := next_text h1 (by decide)
      rw [next_cons e]
      exact leaf_rd (by rw [← pTake_failed]; exact h) (by rw [pTake_toks e]; exact e) rfl rfl rfl (fun _ => rfl) (by decide) (fun st => by simp [nodeP, singleT, ht, wInt]) (Nat.zero_le _)
    rw [if_neg h1] at h ⊢
    clear h1
    by_cases h1 : (pNext s).text = wText
    · rw [if_pos h1] at h ⊢
      obtain ⟨t, r, e, ht⟩ := next_text h1 (by decide)
      rw [next_cons e]
      exact leaf_rd (by rw [← pTake_failed]; exact h) (by rw [pTake_toks e]; exact e) rfl rfl rfl (fun _ => rfl) (by decide) (fun st => by simp [nodeP, singleT, ht, wText]) (Nat.zero_le _)
    rw [if_neg h1] at h ⊢
    clear h1
    by_cases h1 : (pNext s).text = wBool
    · rw [if_pos h1] at h ⊢
      obtain ⟨t, r, e, ht⟩ := next_text h1 (by decide)
      rw [next_cons e]
      exact leaf_rd (by rw [← pTake_failed]; exact h) (by rw [pTake_toks e]; exact e) rfl rfl rfl (fun _ => rfl) (by decide) (fun st => by simp [nodeP, singleT, ht, wBool]) (Nat.zero_le _)
    rw [if_neg h1] at h ⊢
    clear h1
    by_cases h4 : (pNext s).text = [91]
    · rw [if_pos h4] at h ⊢
      obtain ⟨t, r, e, ht⟩ := next_text h4 (by decide)
      rw [next_cons e]
      simp only at h ⊢
      obtain ⟨f1, z, zr, ez, zt, zl, zs⟩ := word_ok (by decide) h
      have et := pTake_toks e
      obtain ⟨f0, u, us, eu, _, pu, wu, gu⟩ := typ_rd n (pTake s) (by rw [et]; rw [e] at hn; simp at hn; omega) f1
      rw [zl]
      refine ⟨by rw [← pTake_failed]; exact f0, t, (u :: us) ++ [z], ?_, rfl, fun st => ?_, ?_, fun hg => ?_⟩
      · rw [e, ← et, eu, ez, zs]; simp
      · rw [treeP, treesP, treesP]
        simp only [nodeP]
        simp [pu, putsP, putsP_app, ht, zt]
      · simp only [tbulk, lsum, kbulk, wsum, wsum_app, lsum_append, kbulk_append, List.cons_append, List.nil_append, List.length_nil, List.length_cons] at *; omega
      · obtain ⟨K0, F0⟩ := gu hg.tl.l
        refine ⟨rfl, fine_mk rfl rfl ?_ (by decide) ?_ rfl ?_ ?_⟩
        · simp [kidsT, suitsT, K0, F0.1]
        · intro l hl
          simp only [List.mem_cons, List.not_mem_nil, or_false] at hl
          rcases hl with rfl | rfl
          · exact hg.hd.triv
          · exact hg.tl.r.hd.triv
        · simp [leadedsT, F0.2.1]
        · simp [smallsT, F0.2.2]
    rw [if_neg h4] at h ⊢
    obtain ⟨f1, t, r, e, tk, tt, tl, ts⟩ := name_ok h
    simp only
    rw [tt, tl]
    refine leaf_rd f1 (by rw [ts]; exact e) rfl rfl rfl (fun hg1 => ?_) (by decide) (fun st => by simp [nodeP, singleT]) (Nat.le_refl _)
    rcases tk with tk | tk
    · have := hg1.cls (k := 2) tk; simp [wordedT, this]
    · have := hg1.cls (k := 4) tk; simp [wordedT, this]
theorem param_rd (n : Nat) : RdF (fun k => k == 4) (fun t => t.kind == 1) 1 (paramT n) n := by
  intro s hn h
  unfold paramT at h ⊢
  simp only at h ⊢
  obtain ⟨f2, u, us, eu, _, pu, wu, gu⟩ := typ_rd n _ (by have := pName_len 1 1 s; have := pWord_len [58] (pName 1 1 s).2.2; omega) h
  obtain ⟨f1, z, zr, ez, zt, zl, zs⟩ := word_ok (by decide) f2
  obtain ⟨f0, t, r, e, tk, tt, tl, ts⟩ := name_ok f1
  rw [zl, tt, tl]
  have tk1 : t.kind = 1 := by rcases tk with h | h <;> exact h
  refine ⟨f0, t, z :: u :: us, ?_, by simp [tk1], fun st => ?_, ?_, fun hg => ?_⟩
  · rw [e, ← ts, ez, ← zs, eu]; simp
  · rw [treeP, treesP, treesP]
    simp only [nodeP, defnP]
    simp [pu, putsP, zt]
  · simp only [tbulk, lsum, kbulk, wsum, wsum_app, lsum_append, kbulk_append, List.cons_append, List.nil_append, List.length_nil, List.length_cons] at *; omega
  · obtain ⟨K0, F0⟩ := gu hg.tl.tl
    have hc := hg.hd.cls (k := 1) tk1
    refine ⟨rfl, fine_mk rfl (by simp [wordedT, hc]) ?_ (by decide) ?_ rfl ?_ ?_⟩
    · simp [kidsT, suitsT, K0, F0.1]
    · intro l hl
      simp only [List.mem_cons, List.not_mem_nil, or_false] at hl
      rcases hl with rfl | rfl
      · exact hg.hd.triv
      · exact hg.tl.hd.triv
    · simp [leadedsT, F0.2.1]
    · simp [smallsT, F0.2.2]
theorem alias_rd (n : Nat) : RdF (fun k => k == 3) anyB 1 (aliasT n) n := by
  intro s hn h
  unfold aliasT at h ⊢
  simp only at h ⊢
  obtain ⟨f3, u, us, eu, _, pu, wu, gu⟩ := typ_rd n _ (by have := pWord_len wType s; have := pName_len 2 2 (pWord wType s).2; have := pWord_len [61] (pName 2 2 (pWord wType s).2).2.2; omega) h
  obtain ⟨f2, z, zr, ez, zt, zl, zs⟩ := word_ok (by decide) f3
  obtain ⟨f1, t, r, e, tk, tt, tl, ts⟩ := name_ok f2
  obtain ⟨f0, y, yr, ey, yt, yl, ys⟩ := word_ok (by decide) f1
  rw [zl, tt, tl, yl]
  have tk1 : t.kind = 2 := by rcases tk with h | h <;> exact h
  refine ⟨f0, y, t :: z :: u :: us, ?_, rfl, fun st => ?_, ?_, fun hg => ?_⟩
  · rw [ey, ← ys, e, ← ts, ez, ← zs, eu]; simp
  · rw [treeP, treesP, treesP]
    simp only [nodeP, defnP]
    have yt' : y.text = [116, 121, 112, 101] := yt
    simp [pu, putsP, zt, yt']
  · simp only [tbulk, lsum, kbulk, wsum, wsum_app, lsum_append, kbulk_append, List.cons_append, List.nil_append, List.length_nil, List.length_cons] at *; omega
  · obtain ⟨K0, F0⟩ := gu hg.tl.tl.tl
    have hc := hg.tl.hd.cls (k := 2) tk1
    refine ⟨rfl, fine_mk rfl (by simp [wordedT, hc]) ?_ (by decide) ?_ rfl ?_ ?_⟩
    · simp [kidsT, suitsT, K0, F0.1]
    · intro l hl
      simp only [List.mem_cons, List.not_mem_nil, or_false] at hl
      rcases hl with rfl | rfl | rfl
      · exact hg.hd.triv
      · exact hg.tl.hd.triv
      · exact hg.tl.tl.hd.triv
    · simp [leadedsT, F0.2.1]
    · simp [smallsT, F0.2.2]
end Go.Proofs.Ythpjpngfghcmcaa
namespace Go.Proofs.Ythpjpngfghcmcaa
open Go.RowKit Lx Sx
def GoodKids (K : Int → Bool) (ks : List Tree) : Prop := ∀ t ∈ ks, K t.kind = true ∧ Fine t
def Trivs (ls : List (List UInt8)) : Prop := ∀ l ∈ ls, triviaT false l false = true
theorem Trivs.nil : Trivs [] := fun _ h => by cases h
theorem Trivs.cons {l : List UInt8} {r : List (List UInt8)} (h : triviaT false l false = true) (k : Trivs r) : Trivs (l :: r) := fun x hx => by
  rcases List.mem_cons.1 hx with e | e
  · exact e ▸ h
  · exact k x e
theorem Trivs.snoc {l : List UInt8} {r : List (List UInt8)} (k : Trivs r) (h : triviaT false l false = true) : Trivs (r ++ [l]) := fun x hx => by
  rcases List.mem_append.1 hx with e | e
  · exact k x e
  · rw [List.mem_singleton.1 e]; exact h
theorem GoodKids.snoc {K : Int → Bool} {ks : List Tree} {t : Tree} (k : GoodKids K ks) (h : K t.kind = true ∧ Fine t) : GoodKids K (ks ++ [t]) := fun x hx => by
  rcases List.mem_append.1 hx with e | e
  · exact k x e
  · rw [List.mem_singleton.1 e]; exact h
theorem GoodKids.one {K : Int → Bool} {t : Tree} (h : K t.kind = true ∧ Fine t) : GoodKids K [t] := fun x hx => by rw [List.mem_singleton.1 hx]; exact h
theorem GoodKids.nil {K : Int → Bool} : GoodKids K [] := fun x hx => by cases hx
theorem leadeds_of {K : Int → Bool} : ∀ {ks : List Tree}, GoodKids K ks → leadedsT ks = true
  | [], _ => rfl
  | t :: r, h => by rw [leadedsT, (h t (by simp)).2.2.1, leadeds_of (fun x hx => h x (by simp [hx]))]; rfl
theorem smalls_of {K : Int → Bool} : ∀ {ks : List Tree}, GoodKids K ks → smallsT ks = true
  | [], _ => rfl
  | t :: r, h => by rw [smallsT, (h t (by simp)).2.2.2, smalls_of (fun x hx => h x (by simp [hx]))]; rfl
theorem kids_of {K : Int → Bool} {k : Int} {n : Nat} (hs : ∀ i kk, K kk = true → suitsT k n i kk = true) : ∀ {ks : List Tree} (i : Nat), GoodKids K ks → kidsT k n ks i = true
  | [], i, _ => rfl
  | t :: r, i, h => by rw [kidsT, hs i _ (h t (by simp)).1, (h t (by simp)).2.1, kids_of hs (i + 1) (fun x hx => h x (by simp [hx]))]; rfl
theorem listP_more {ls more : List (List UInt8)} {c : Nat} : ∀ (fs : List (WS → WS)) (i : Nat) (s : WS), c + i + fs.length ≤ ls.length + 1 → listP (ls ++ more) c fs i s = listP ls c fs i s
  | [], i, s, _ => rfl
  | f :: r, i, s, h => by
    simp only [List.length_cons] at h
    simp only [listP]
    by_cases hi : 0 < i
    · have e : (ls ++ more).getD (c + i - 1) [] = ls.getD (c + i - 1) [] := by
        rw [List.getD_eq_getElem?_getD, List.getD_eq_getElem?_getD, List.getElem?_append_left (by omega)]
      rw [if_pos hi, if_pos hi, e, listP_more r (i + 1) _ (by omega)]
    · rw [if_neg hi, if_neg hi, listP_more r (i + 1) _ (by omega)]
theorem leadsT16 {n : Int} (h : 0 ≤ n) : leadsT 16 n = if 0 < n then 3 + (n - 1) else 3 := by unfold leadsT; rw [if_neg (by decide), if_neg (by decide), if_pos rfl, if_neg (by omega)]
theorem leadsT18 {n : Int} (h : 1 ≤ n) : leadsT 18 n = 2 + (n - 1) := by unfold leadsT; rw [if_neg (by decide), if_neg (by decide), if_neg (by decide), if_pos rfl, if_neg (by omega)]
theorem leadsT2 {n : Int} (h : 2 ≤ n) : leadsT 2 n = if 2 < n then 6 + (n - 3) else 6 := by unfold leadsT; rw [if_neg (by decide), if_pos rfl, if_neg (by omega)]
theorem kbulk_snoc : ∀ (a : List Tree) (t : Tree), kbulk (a ++ [t]) = kbulk a + tbulk t
  | [], t => by simp [kbulk]
  | u :: r, t => by simp only [List.cons_append, kbulk, kbulk_snoc r t]; omega
theorem lsum_snoc : ∀ (a : List (List UInt8)) (l : List UInt8), lsum (a ++ [l]) = lsum a + l.length + 1
  | [], l => by simp [lsum]
  | u :: r, l => by simp only [List.cons_append, lsum, lsum_snoc r l]; omega
theorem comma_rd {item : PS → Tree × PS} {K : Int → Bool} {B beg : Tok → Bool} {d most n : Nat} (hI : RdF K B d item n) (hlen : ∀ s, (item s).2.toks.length ≤ s.toks.length) (hB : ∀ u, B u = true → beg u = true) : ∀ (m : Nat) (cs : List (List UInt8)) (ks : List Tree) (s : PS), s.toks.length < n → cs.length + 1 = ks.length → (commaF item most beg m cs ks s).2.2.failed = 0 →
    s.failed = 0 ∧ ∃ used, s.toks = used ++ (commaF item most beg m cs ks s).2.2.toks ∧ (commaF item most beg m cs ks s).1.length + 1 = (commaF item most beg m cs ks s).2.1.length ∧ (ks.length ≤ most → (commaF item most beg m cs ks s).2.1.length ≤ most) ∧ kbulk (commaF item most beg m cs ks s).2.1 + lsum (commaF item most beg m cs ks s).1 ≤ kbulk ks + lsum cs + wsum used ∧
      (∀ pre st, listP (pre ++ (commaF item most beg m cs ks s).1) pre.length (treesP (commaF item most beg m cs ks s).2.1) 0 st = putsP used (listP (pre ++ cs) pre.length (treesP ks) 0 st)) ∧
      (Goods used → GoodKids K ks → Trivs cs → GoodKids K (commaF item most beg m cs ks s).2.1 ∧ Trivs (commaF item most beg m cs ks s).1)
  | 0, cs, ks, s, _, hc, h => ⟨h, [], rfl, hc, id, Nat.le_refl _, fun _ _ => rfl, fun _ a b => ⟨a, b⟩⟩
  | m + 1, cs, ks, s, hn, hc, h => by
    rw [commaF] at h ⊢
    by_cases h1 : (pNext s).text = [44]
    · rw [if_pos h1] at h ⊢
      simp only at h ⊢
      obtain ⟨c, r, e, ct⟩ := next_text h1 (by decide)
      rw [next_cons e] at h ⊢
      have et := pTake_toks e
      have hnr : (pTake s).toks.length < n := by rw [et]; rw [e] at hn; simp at hn; omega
      by_cases h2 : ks.length = most ∧ beg (pNext (pTake s)) = true
      · rw [if_pos h2] at h
        obtain ⟨f1, _⟩ := comma_rd hI hlen hB m _ _ _ (by have := hlen (pFail 3 (pTake s)); have := pFail_len 3 (pTake s); omega) (by simp; omega) h
        obtain ⟨f0, _⟩ := hI _ (by have := pFail_len 3 (pTake s); omega) f1
        exact absurd f0 (pFail_bad (by decide) _)
      · rw [if_neg h2] at h ⊢
        obtain ⟨f1, us2, e2, hc2, hm2, hw2, hp2, hg2⟩ := comma_rd hI hlen hB m _ _ _ (by have := hlen (pTake s); omega) (by simp; omega) h
        obtain ⟨f0, u, us, eu, bu, pu, wu, gu⟩ := hI _ hnr f1
        refine ⟨by rw [← pTake_failed]; exact f0, c :: (u :: us) ++ us2, ?_, hc2, fun hm => hm2 ?_, ?_, fun pre st => ?_, fun hg hk ht => ?_⟩
        · rw [e, ← et, eu]; simp only [List.cons_append, List.append_assoc]; rw [← e2]
        · have hne : ks.length ≠ most := fun hq => h2 ⟨hq, by rw [next_cons (s := pTake s) (t := u) (r := us ++ (item (pTake s)).2.toks) (by simpa using eu)]; exact hB u bu⟩
          simp; omega
        · rw [kbulk_snoc, lsum_snoc] at hw2
          simp only [List.cons_append, wsum, wsum_app] at wu hw2 ⊢
          omega
        · rw [hp2, treesP_app, treesP, treesP, listP_snoc, if_pos (by rw [treesP_length]; omega), treesP_length]
          have eg : (pre ++ (cs ++ [c.lead])).getD (pre.length + (0 + ks.length) - 1) [] = c.lead := by
            rw [List.getD_eq_getElem?_getD, List.getElem?_append_right (by omega), List.getElem?_append_right (by omega)]
            rw [show pre.length + (0 + ks.length) - 1 - pre.length - cs.length = 0 from by omega]; rfl
          rw [eg, ← List.append_assoc pre cs, listP_more _ 0 _ (by rw [treesP_length]; simp; omega), pu, putsP_app, ← ct]
          rfl
        · exact hg2 hg.r (hk.snoc (gu hg.l.tl)) (ht.snoc hg.l.hd.triv)
    · rw [if_neg h1] at h ⊢
      exact ⟨h, [], rfl, hc, id, Nat.le_refl _, fun _ _ => rfl, fun _ a b => ⟨a, b⟩⟩
theorem row_rd {item : PS → Tree × PS} {K : Int → Bool} {B beg : Tok → Bool} {d most n : Nat} (hI : RdF K B d item n) (hlen : ∀ s, (item s).2.toks.length ≤ s.toks.length) (hB : ∀ u, B u = true → beg u = true) (hm : 1 ≤ most) (s : PS) (hn : s.toks.length < n) (h : (rowF item most beg s).2.2.failed = 0) :
    s.failed = 0 ∧ ∃ used, s.toks = used ++ (rowF item most beg s).2.2.toks ∧ (rowF item most beg s).1.length = (rowF item most beg s).2.1.length - 1 ∧ (rowF item most beg s).2.1.length ≤ most ∧ kbulk (rowF item most beg s).2.1 + lsum (rowF item most beg s).1 ≤ wsum used ∧
      (∀ pre st, listP (pre ++ (rowF item most beg s).1) pre.length (treesP (rowF item most beg s).2.1) 0 st = putsP used st) ∧
      (Goods used → GoodKids K (rowF item most beg s).2.1 ∧ Trivs (rowF item most beg s).1) := by
  unfold rowF at h ⊢
  by_cases h1 : (pNext s).text = [41]
  · rw [if_pos h1] at h ⊢
    exact ⟨h, [], rfl, rfl, Nat.zero_le _, Nat.le_refl _, fun _ _ => rfl, fun _ => ⟨GoodKids.nil, Trivs.nil⟩⟩
  · rw [if_neg h1] at h ⊢
    obtain ⟨f1, us2, e2, hc2, hm2, hw2, hp2, hg2⟩ := comma_rd hI hlen hB _ _ _ _ (by have := hlen s; omega) rfl h
    obtain ⟨f0, u, us, eu, bu, pu, wu, gu⟩ := hI _ hn f1
    refine ⟨f0, (u :: us) ++ us2, ?_, by omega, hm2 hm, ?_, fun pre st => ?_, fun hg => ?_⟩
    · rw [List.append_assoc, ← e2]; exact eu
    · simp only [kbulk, lsum] at hw2
      rw [wsum_app]; omega
    · rw [hp2, putsP_app, ← pu]; rfl
    · exact hg2 hg.r (GoodKids.one (gu hg.l)) Trivs.nil
theorem arg_rd {E : PS → Tree × PS} {n : Nat} (hE : RdF isExprB beginsB 1 E n) : RdF (fun k => k == 17) beginsB 0 (argF E) n := by
  intro s hn h
  obtain ⟨f0, u, us, eu, bu, pu, wu, gu⟩ := hE s hn h
  refine ⟨f0, u, us, eu, bu, fun st => ?_, ?_, fun hg => ?_⟩
  · simp only [argF]; rw [treeP, treesP, treesP]; simp [nodeP, pu]
  · simp only [argF, tbulk, lsum, kbulk, wsum, wsum_app, lsum_append, kbulk_append, List.cons_append, List.nil_append, List.length_nil, List.length_cons] at *; omega
  · obtain ⟨K0, F0⟩ := gu hg
    refine ⟨rfl, fine_mk rfl rfl ?_ (by decide) (fun l hl => by cases hl) rfl ?_ ?_⟩
    · simp [kidsT, suitsT, K0, F0.1]
    · simp [leadedsT, F0.2.1]
    · simp [smallsT, F0.2.2]
theorem begins_kind {t : Tok} (h : t.kind = 1 ∨ t.kind = 3 ∨ t.kind = 5 ∨ t.kind = 6) : beginsB t = true := by
  rcases h with h | h | h | h <;> simp [beginsB, h]
theorem begins_text {t : Tok} (h : t.text = wLet ∨ t.text = wIf ∨ t.text = wTrue ∨ t.text = wFalse ∨ t.text = [63] ∨ t.text = [91] ∨ t.text = [40]) : beginsB t = true := by
  rcases h with h | h | h | h | h | h | h <;> simp [beginsB, h]
theorem use_rd {E : PS → Tree × PS} {n : Nat} (hE : RdF isExprB beginsB 1 E n) (hlen : ∀ s, (E s).2.toks.length ≤ s.toks.length) (s : PS) (hn : s.toks.length < n + 1) (hk : (pNext s).kind = 1 ∨ (pNext s).kind = 3) (h : (useF E s).2.failed = 0) : Rd isUnitB beginsB 1 s (useF E s).1 (useF E s).2 := by
  obtain ⟨t, r, e⟩ := next_kind (s := s) (by rcases hk with h | h <;> rw [h] <;> decide)
  have en := next_cons e
  have et := pTake_toks e
  unfold useF at h ⊢
  rw [en] at h hk ⊢
  have hb : beginsB t = true := begins_kind (by rcases hk with h | h <;> simp [h])
  by_cases h1 : t.kind = 1 ∧ ¬ (pNext (pTake s)).text = [40]
  · rw [if_pos h1] at h ⊢
    exact leaf_rd (by rw [← pTake_failed]; exact h) (by rw [et]; exact e) hb rfl rfl (fun hg => by have := hg.cls (k := 1) h1.1; simp [wordedT, this]) (by decide) (fun st => by simp [nodeP, singleT]) (Nat.le_refl _)
  · rw [if_neg h1] at h ⊢
    simp only at h ⊢
    have hl1 : (pTake s).toks.length < n := by rw [et]; rw [e] at hn; simp at hn; omega
    obtain ⟨f2, z, zr, ez, zt, zl, zs⟩ := word_ok (by decide) h
    obtain ⟨f1, us, eu, hc, hm, hw, hp, hg2⟩ := row_rd (arg_rd hE) (fun s => hlen s) (fun _ h => h) (by decide) _ (by have := pWord_len [40] (pTake s); omega) f2
    obtain ⟨f0, y, yr, ey, yt, yl, ys⟩ := word_ok (by decide) f1
    rw [zl, yl]
    refine ⟨by rw [← pTake_failed]; exact f0, t, y :: us ++ [z], ?_, hb, fun st => ?_, ?_, fun hg => ?_⟩
    · rw [e, ← et, ey, ← ys, eu, ez, ← zs]; simp
    · have := hp [t.lead, y.lead, z.lead]
      simp only [List.length_cons, List.length_nil, Nat.zero_add] at this
      rw [treeP]
      simp only [nodeP]
      simp only [List.cons_append, List.nil_append] at this
      simp [this, putsP, putsP_app, yt, zt]
    · simp only [tbulk, lsum, kbulk, wsum, wsum_app, lsum_append, kbulk_append, List.cons_append, List.nil_append, List.length_nil, List.length_cons] at *; omega
    · obtain ⟨gk, gt⟩ := hg2 hg.tl.tl.l
      have ht : wordedT 16 t.text = true := by
        rcases hk with h | h
        · have := hg.hd.cls (k := 1) h; simp [wordedT, this]
        · have := hg.hd.cls (k := 3) h; simp [wordedT, this]
      refine ⟨rfl, fine_mk ?_ ht (kids_of (K := fun k => k == 17) (fun i kk h => by simpa [suitsT] using h) 0 gk) (by decide) (Trivs.cons hg.hd.triv (Trivs.cons hg.tl.hd.triv (Trivs.cons hg.tl.tl.r.hd.triv gt))) ?_ (leadeds_of gk) (smalls_of gk)⟩
      · rw [leadsT16 (by omega)]
        simp only [List.length_append, List.length_cons, List.length_nil]
        split <;> omega
      · simp [fewT, hm]
theorem list_rd {E : PS → Tree × PS} {n : Nat} (hE : RdF isExprB beginsB 1 E n) (hlen : ∀ s, (E s).2.toks.length ≤ s.toks.length) (s : PS) (hn : s.toks.length < n + 1) (hk : (pNext s).text = [91]) (h : (listF E s).2.failed = 0) : Rd isUnitB beginsB 1 s (listF E s).1 (listF E s).2 := by
  obtain ⟨t, r, e, ht⟩ := next_text hk (by decide)
  have ew : pWord [91] s = (t.lead, pTake s) := by unfold pWord; rw [if_pos hk, next_cons e]
  have et := pTake_toks e
  have hl1 : (pTake s).toks.length < n := by rw [et]; rw [e] at hn; simp at hn; omega
  unfold listF at h ⊢
  rw [ew] at h ⊢
  simp only at h ⊢
  obtain ⟨f2, z, zr, ez, zt, zl, zs⟩ := word_ok (by decide) h
  obtain ⟨f1, us2, e2, hc2, hm2, hw2, hp2, hg2⟩ := comma_rd hE hlen (fun _ h => h) _ _ _ _ (by have := hlen (pTake s); omega) rfl f2
  obtain ⟨f0, u, us, eu, bu, pu, wu, gu⟩ := hE _ hl1 f1
  rw [zl]
  refine ⟨by rw [← pTake_failed]; exact f0, t, (u :: us) ++ us2 ++ [z], ?_, begins_text (by simp [ht]), fun st => ?_, ?_, fun hg => ?_⟩
  · rw [ez, ← zs] at e2
    rw [e, ← et, eu]
    exact (congrArg (fun q => t :: (u :: us ++ q)) e2).trans (by simp)
  · have := hp2 [t.lead, z.lead]
    simp only [List.length_cons, List.length_nil, Nat.zero_add, treesP, List.append_nil] at this
    rw [treeP]
    simp only [nodeP]
    simp only [List.cons_append, List.nil_append] at this
    simp [this, putsP, putsP_app, ht, zt, listP, pu]
  · simp only [tbulk, lsum, kbulk, wsum, wsum_app, lsum_append, kbulk_append, List.cons_append, List.nil_append, List.length_nil, List.length_cons] at *; omega
  · obtain ⟨gk, gt⟩ := hg2 hg.tl.l.r (GoodKids.one (gu hg.tl.l.l)) Trivs.nil
    refine ⟨rfl, fine_mk ?_ rfl (kids_of (K := isExprB) (fun i kk h => by simpa [suitsT] using h) 0 gk) (by decide) (Trivs.cons hg.hd.triv (Trivs.cons hg.tl.r.hd.triv gt)) ?_ (leadeds_of gk) (smalls_of gk)⟩
    · rw [leadsT18 (by omega)]
      simp only [List.length_append, List.length_cons, List.length_nil]
      omega
    · have := hm2 (by simp)
      simp [fewT, this]
theorem paren_rd {E : PS → Tree × PS} {n : Nat} (hE : RdF isExprB beginsB 1 E n) (hlen : ∀ s, (E s).2.toks.length ≤ s.toks.length) (s : PS) (hn : s.toks.length < n + 1) (hk : (pNext s).text = [40]) (h : (parenF E s).2.failed = 0) : Rd isUnitB beginsB 1 s (parenF E s).1 (parenF E s).2 := by
  obtain ⟨t, r, e, ht⟩ := next_text hk (by decide)
  have et := pTake_toks e
  have hl1 : (pTake s).toks.length < n := by rw [et]; rw [e] at hn; simp at hn; omega
  unfold parenF at h ⊢
  rw [next_cons e]
  simp only at h ⊢
  obtain ⟨f1, z, zr, ez, zt, zl, zs⟩ := word_ok (by decide) h
  obtain ⟨f0, u, us, eu, bu, pu, wu, gu⟩ := hE _ hl1 f1
  rw [zl]
  refine ⟨by rw [← pTake_failed]; exact f0, t, (u :: us) ++ [z], ?_, begins_text (by simp [ht]), fun st => ?_, ?_, fun hg => ?_⟩
  · rw [e, ← et, eu, ez, ← zs]; simp
  · rw [treeP, treesP, treesP]
    simp only [nodeP]
    simp [pu, putsP, putsP_app, ht, zt]
  · simp only [tbulk, lsum, kbulk, wsum, wsum_app, lsum_append, kbulk_append, List.cons_append, List.nil_append, List.length_nil, List.length_cons] at *; omega
  · obtain ⟨K0, F0⟩ := gu hg.tl.l
    refine ⟨rfl, fine_mk rfl rfl ?_ (by decide) (Trivs.cons hg.hd.triv (Trivs.cons hg.tl.r.hd.triv Trivs.nil)) rfl ?_ ?_⟩
    · simp [kidsT, suitsT, K0, F0.1]
    · simp [leadedsT, F0.2.1]
    · simp [smallsT, F0.2.2]
theorem unit_rd {E : PS → Tree × PS} {n : Nat} (hE : RdF isExprB beginsB 1 E n) (hlen : ∀ s, (E s).2.toks.length ≤ s.toks.length) : RdF isUnitB beginsB 1 (unitF E) (n + 1) := by
  intro s hn h
  unfold unitF at h ⊢
  simp only at h ⊢
  by_cases h1 : (pNext s).kind = 1 ∨ (pNext s).kind = 3
  · rw [if_pos h1] at h ⊢; exact use_rd hE hlen s hn h1 h
  rw [if_neg h1] at h ⊢
  by_cases h2 : (pNext s).text = wTrue
  · rw [if_pos h2] at h ⊢
    obtain ⟨t, r, e, ht⟩ := next_text h2 (by decide)
    rw [next_cons e]
    exact leaf_rd (by rw [← pTake_failed]; exact h) (by rw [pTake_toks e]; exact e) (begins_text (by simp [ht])) rfl rfl (fun _ => rfl) (by decide) (fun st => by simp [nodeP, singleT, ht, wTrue]) (Nat.zero_le _)
  rw [if_neg h2] at h ⊢
  by_cases h3 : (pNext s).text = wFalse
  · rw [if_pos h3] at h ⊢
    obtain ⟨t, r, e, ht⟩ := next_text h3 (by decide)
    rw [next_cons e]
    exact leaf_rd (by rw [← pTake_failed]; exact h) (by rw [pTake_toks e]; exact e) (begins_text (by simp [ht])) rfl rfl (fun _ => rfl) (by decide) (fun st => by simp [nodeP, singleT, ht, wFalse]) (Nat.zero_le _)
  rw [if_neg h3] at h ⊢
  by_cases h4 : (pNext s).text = [63]
  · rw [if_pos h4] at h ⊢
    obtain ⟨t, r, e, ht⟩ := next_text h4 (by decide)
    rw [next_cons e]
    exact leaf_rd (by rw [← pTake_failed]; exact h) (by rw [pTake_toks e]; exact e) (begins_text (by simp [ht])) rfl rfl (fun _ => rfl) (by decide) (fun st => by simp [nodeP, singleT, ht]) (Nat.zero_le _)
  rw [if_neg h4] at h ⊢
  by_cases h5 : (pNext s).text = [91]
  · rw [if_pos h5] at h ⊢; exact list_rd hE hlen s hn h5 h
  rw [if_neg h5] at h ⊢
  by_cases h6 : (pNext s).text = [40]
  · rw [if_pos h6] at h ⊢; exact paren_rd hE hlen s hn h6 h
  rw [if_neg h6] at h ⊢
  by_cases h7 : (pNext s).kind = 5
  · rw [if_pos h7] at h ⊢
    obtain ⟨t, r, e⟩ := next_kind (s := s) (by rw [h7]; decide)
    rw [next_cons e] at h7 ⊢
    exact leaf_rd (by rw [← pTake_failed]; exact h) (by rw [pTake_toks e]; exact e) (begins_kind (by simp [h7])) rfl rfl (fun hg => by have := hg.cls (k := 5) h7; simp [wordedT, this]) (by decide) (fun st => by simp [nodeP, singleT]) (Nat.le_refl _)
  rw [if_neg h7] at h ⊢
  by_cases h8 : (pNext s).kind = 6
  · rw [if_pos h8] at h ⊢
    obtain ⟨t, r, e⟩ := next_kind (s := s) (by rw [h8]; decide)
    rw [next_cons e] at h8 ⊢
    exact leaf_rd (by rw [← pTake_failed]; exact h) (by rw [pTake_toks e]; exact e) (begins_kind (by simp [h8])) rfl rfl (fun hg => by have := hg.cls (k := 6) h8; simp [wordedT, this]) (by decide) (fun st => by simp [nodeP, singleT]) (Nat.le_refl _)
  rw [if_neg h8] at h
  exact absurd h (pFail_bad (by decide) s)
def leftB (k : Int) : Bool := isUnitB k || k == 21
theorem bin_rd {U : PS → Tree × PS} {n : Nat} (hU : RdF isUnitB beginsB 1 U n) (hlen : ∀ s, (U s).2.toks.length ≤ s.toks.length) : ∀ (m : Nat) (t : Tree) (s : PS), s.toks.length < n → (binF U m t s).2.failed = 0 →
    s.failed = 0 ∧ ∃ used, s.toks = used ++ (binF U m t s).2.toks ∧ (∀ st, treeP (binF U m t s).1 st = putsP used (treeP t st)) ∧ tbulk (binF U m t s).1 ≤ tbulk t + wsum used ∧ (Goods used → leftB t.kind = true → Fine t → leftB (binF U m t s).1.kind = true ∧ Fine (binF U m t s).1)
  | 0, t, s, _, h => ⟨h, [], rfl, fun _ => rfl, Nat.le_refl _, fun _ a b => ⟨a, b⟩⟩
  | m + 1, t, s, hn, h => by
    rw [binF] at h ⊢
    by_cases h1 : operB (pNext s).text = true
    · rw [if_pos h1] at h ⊢
      obtain ⟨c, r, e, ct⟩ := next_text (s := s) (x := (pNext s).text) rfl (fun e => by rw [e] at h1; exact absurd h1 (by decide))
      rw [next_cons e] at h h1 ⊢
      have et := pTake_toks e
      have hl1 : (pTake s).toks.length < n := by rw [et]; rw [e] at hn; simp at hn; omega
      obtain ⟨f1, us2, e2, p2, w2, g2⟩ := bin_rd hU hlen m _ _ (by have := hlen (pTake s); omega) h
      obtain ⟨f0, u, us, eu, bu, pu, wu, gu⟩ := hU _ hl1 f1
      refine ⟨by rw [← pTake_failed]; exact f0, c :: (u :: us) ++ us2, ?_, fun st => ?_, ?_, fun hg hk hF => ?_⟩
      · rw [e, ← et, eu]; simp only [List.cons_append, List.append_assoc]; rw [← e2]
      · rw [p2, treeP, treesP, treesP, treesP]
        simp only [nodeP]
        simp [pu, putsP, putsP_app]
      · simp only [tbulk, lsum, kbulk, wsum, wsum_app, lsum_append, kbulk_append, List.cons_append, List.nil_append, List.length_nil, List.length_cons] at *; omega
      · obtain ⟨K0, F0⟩ := gu hg.l.tl
        refine g2 hg.r rfl (fine_mk rfl (by simp [wordedT, h1]) ?_ (by decide) (Trivs.cons hg.l.hd.triv Trivs.nil) rfl ?_ ?_)
        · simp only [leftB] at hk
          simp [kidsT, suitsT, K0, F0.1, hF.1, hk]
        · simp [leadedsT, F0.2.1, hF.2.1]
        · simp [smallsT, F0.2.2, hF.2.2]
    · rw [if_neg h1] at h ⊢
      exact ⟨h, [], rfl, fun _ => rfl, Nat.le_refl _, fun _ a b => ⟨a, b⟩⟩
theorem left_expr {k : Int} (h : leftB k = true) : isExprB k = true := by
  simp only [leftB, isUnitB, isExprB, Bool.or_eq_true, Bool.and_eq_true, decide_eq_true_eq, bne_iff_ne, beq_iff_eq] at h ⊢
  omega
theorem unit_left {k : Int} (h : isUnitB k = true) : leftB k = true := by simp [leftB, h]
theorem expr_rd : ∀ n, RdF isExprB beginsB 1 (exprT n) n
  | 0, s, hn, _ => by omega
  | n + 1, s, hn, h => by
    have hE := expr_rd n
    have hlen := exprT_len n
    rw [exprT] at h ⊢
    unfold exprF at h ⊢
    by_cases h1 : (pNext s).text = wLet
    · rw [if_pos h1] at h ⊢
      obtain ⟨t, r, e, ht⟩ := next_text h1 (by decide)
      have et := pTake_toks e
      have hl1 : (pTake s).toks.length < n := by rw [et]; rw [e] at hn; simp at hn; omega
      simp only [letF] at h ⊢
      rw [next_cons e]
      have q1 := pName_len 1 1 (pTake s)
      have q2 := pWord_len [61] (pName 1 1 (pTake s)).2.2
      have q3 := hlen (pWord [61] (pName 1 1 (pTake s)).2.2).2
      have q4 := pWord_len wIn (exprT n (pWord [61] (pName 1 1 (pTake s)).2.2).2).2
      obtain ⟨f5, v, vs, ev, bv, pv, wv, gv⟩ := hE _ (by omega) h
      obtain ⟨f4, z, zr, ez, zt, zl, zs⟩ := word_ok (by decide) f5
      obtain ⟨f3, u, us, eu, bu, pu, wu, gu⟩ := hE _ (by omega) f4
      obtain ⟨f2, y, yr, ey, yt, yl, ys⟩ := word_ok (by decide) f3
      obtain ⟨f1, x, xr, ex, xk, xt, xl, xs⟩ := name_ok f2
      rw [zl, yl, xt, xl]
      have xk1 : x.kind = 1 := by rcases xk with h | h <;> exact h
      refine ⟨by rw [← pTake_failed]; exact f1, t, x :: y :: (u :: us) ++ z :: v :: vs, ?_, begins_text (by simp [ht]), fun st => ?_, ?_, fun hg => ?_⟩
      · rw [e, ← et, ex, ← xs, ey, ← ys, eu, ez, ← zs, ev]; simp
      · rw [treeP, treesP, treesP, treesP]
        simp only [nodeP]
        have ht' : t.text = [108, 101, 116] := ht
        have zt' : z.text = [105, 110] := zt
        simp [pu, pv, putsP, putsP_app, ht', zt', yt]
      · simp only [tbulk, lsum, kbulk, wsum, wsum_app, lsum_append, kbulk_append, List.cons_append, List.nil_append, List.length_nil, List.length_cons] at *; omega
      · have gx := hg.tl.hd
        obtain ⟨K0, F0⟩ := gu hg.tl.tl.tl.l
        obtain ⟨K1, F1⟩ := gv hg.tl.tl.tl.r.tl
        have hc := gx.cls (k := 1) xk1
        refine ⟨rfl, fine_mk rfl (by simp [wordedT, hc]) ?_ (by decide) (Trivs.cons hg.hd.triv (Trivs.cons gx.triv (Trivs.cons hg.tl.tl.hd.triv (Trivs.cons hg.tl.tl.tl.r.hd.triv Trivs.nil)))) rfl ?_ ?_⟩
        · simp [kidsT, suitsT, K0, F0.1, K1, F1.1]
        · simp [leadedsT, F0.2.1, F1.2.1]
        · simp [smallsT, F0.2.2, F1.2.2]
    rw [if_neg h1] at h ⊢
    by_cases h2 : (pNext s).text = wIf
    · rw [if_pos h2] at h ⊢
      obtain ⟨t, r, e, ht⟩ := next_text h2 (by decide)
      have et := pTake_toks e
      have hl1 : (pTake s).toks.length < n := by rw [et]; rw [e] at hn; simp at hn; omega
      simp only [ifF] at h ⊢
      rw [next_cons e]
      have q1 := hlen (pTake s)
      have q2 := pWord_len wThen (exprT n (pTake s)).2
      have q3 := hlen (pWord wThen (exprT n (pTake s)).2).2
      have q4 := pWord_len wElse (exprT n (pWord wThen (exprT n (pTake s)).2).2).2
      obtain ⟨f5, v, vs, ev, bv, pv, wv, gv⟩ := hE _ (by omega) h
      obtain ⟨f4, z, zr, ez, zt, zl, zs⟩ := word_ok (by decide) f5
      obtain ⟨f3, u, us, eu, bu, pu, wu, gu⟩ := hE _ (by omega) f4
      obtain ⟨f2, y, yr, ey, yt, yl, ys⟩ := word_ok (by decide) f3
      obtain ⟨f1, x, xs', ex, bx, px, wx, gx⟩ := hE _ (by omega) f2
      rw [zl, yl]
      refine ⟨by rw [← pTake_failed]; exact f1, t, (x :: xs') ++ (y :: (u :: us) ++ z :: v :: vs), ?_, begins_text (by simp [ht]), fun st => ?_, ?_, fun hg => ?_⟩
      · rw [e, ← et, ex, ey, ← ys, eu, ez, ← zs, ev]; simp
      · rw [treeP, treesP, treesP, treesP, treesP]
        simp only [nodeP]
        have ht' : t.text = [105, 102] := ht
        have yt' : y.text = [116, 104, 101, 110] := yt
        have zt' : z.text = [101, 108, 115, 101] := zt
        simp [px, pu, pv, putsP, putsP_app, ht', zt', yt']
      · simp only [tbulk, lsum, kbulk, wsum, wsum_app, lsum_append, kbulk_append, List.cons_append, List.nil_append, List.length_nil, List.length_cons] at *; omega
      · obtain ⟨Kx, Fx⟩ := gx hg.tl.l
        obtain ⟨K0, F0⟩ := gu hg.tl.r.tl.l
        obtain ⟨K1, F1⟩ := gv hg.tl.r.tl.r.tl
        refine ⟨rfl, fine_mk rfl rfl ?_ (by decide) (Trivs.cons hg.hd.triv (Trivs.cons hg.tl.r.hd.triv (Trivs.cons hg.tl.r.tl.r.hd.triv Trivs.nil))) rfl ?_ ?_⟩
        · simp [kidsT, suitsT, K0, F0.1, K1, F1.1, Kx, Fx.1]
        · simp [leadedsT, F0.2.1, F1.2.1, Fx.2.1]
        · simp [smallsT, F0.2.2, F1.2.2, Fx.2.2]
    rw [if_neg h2] at h ⊢
    have hU := unit_rd hE hlen
    have hUl := unitF_len hlen
    obtain ⟨f1, us2, e2, p2, w2, g2⟩ := bin_rd hU hUl _ _ _ (by have := hUl s; omega) h
    obtain ⟨f0, u, us, eu, bu, pu, wu, gu⟩ := hU _ hn f1
    refine ⟨f0, u, us ++ us2, ?_, bu, fun st => ?_, ?_, fun hg => ?_⟩
    · rw [eu]; simp only [List.cons_append, List.append_assoc]; rw [← e2]
    · rw [p2, pu, ← putsP_app]; rfl
    · simp only [wsum, wsum_app] at *; omega
    · have hg' : Goods ((u :: us) ++ us2) := hg
      obtain ⟨K0, F0⟩ := gu hg'.l
      obtain ⟨K1, F1⟩ := g2 hg'.r (unit_left K0) F0
      exact ⟨left_expr K1, F1⟩
end Go.Proofs.Ythpjpngfghcmcaa
namespace Go.Proofs.Ythpjpngfghcmcaa
open Go.RowKit Lx Sx
theorem kids_app {k : Int} {n : Nat} : ∀ (a b : List Tree) (i : Nat), kidsT k n (a ++ b) i = (kidsT k n a i && kidsT k n b (i + a.length))
  | [], b, i => by simp [kidsT]
  | t :: r, b, i => by
    simp only [List.cons_append, kidsT, kids_app r b (i + 1), List.length_cons, Bool.and_assoc]
    rw [show i + 1 + r.length = i + (r.length + 1) from by omega]
theorem leadeds_app : ∀ (a b : List Tree), leadedsT (a ++ b) = (leadedsT a && leadedsT b)
  | [], b => by simp [leadedsT]
  | t :: r, b => by simp only [List.cons_append, leadedsT, leadeds_app r b, Bool.and_assoc]
theorem smalls_app : ∀ (a b : List Tree), smallsT (a ++ b) = (smallsT a && smallsT b)
  | [], b => by simp [smallsT]
  | t :: r, b => by simp only [List.cons_append, smallsT, smalls_app r b, Bool.and_assoc]
theorem suits2 {n i : Nat} {kk : Int} : suitsT 2 n i kk = if (i : Int) = n - 1 then isExprB kk else if (i : Int) = n - 2 then isTypeB kk else kk == 4 := by unfold suitsT; rw [if_neg (by decide), if_pos rfl]
theorem few2 {n : Nat} : fewT 2 n = decide (n ≤ 10) := by unfold fewT; rw [if_neg (by decide), if_pos rfl]
theorem params_of {n : Nat} : ∀ {ks : List Tree} (i : Nat), i + ks.length + 2 = n → GoodKids (fun k => k == 4) ks → kidsT 2 n ks i = true
  | [], i, _, _ => rfl
  | t :: r, i, hi, h => by
    simp only [List.length_cons] at hi
    have hk := (h t (by simp)).1
    have e : suitsT 2 n i t.kind = true := by
      rw [suits2, if_neg (by omega), if_neg (by omega)]; exact hk
    rw [kidsT, e, (h t (by simp)).2.1, params_of (i + 1) (by omega) (fun x hx => h x (by simp [hx]))]; rfl
theorem function_rd (n : Nat) : RdF (fun k => k == 2) anyB 1 (functionT n) n := by
  intro s hn h
  unfold functionT at h ⊢
  simp only at h ⊢
  have q1 := pWord_len wDef s
  have q2 := pName_len 1 1 (pWord wDef s).2
  have q3 := pWord_len [40] (pName 1 1 (pWord wDef s).2).2.2
  obtain ⟨C, hC⟩ : ∃ C, C = (pWord [40] (pName 1 1 (pWord wDef s).2).2.2).2 := ⟨_, rfl⟩
  rw [← hC] at h q3 ⊢
  have q4 := rowF_len (most := 8) (beg := fun t => t.kind == 1) (paramT_len n) C
  obtain ⟨R, hR⟩ : ∃ R, R = rowF (paramT n) 8 (fun t => t.kind == 1) C := ⟨_, rfl⟩
  rw [← hR] at h q4 ⊢
  have q5 := pWord_len [41] R.2.2
  have q6 := pWord_len [58] (pWord [41] R.2.2).2
  have q7 := typT_len n (pWord [58] (pWord [41] R.2.2).2).2
  have q8 := pWord_len [61] (typT n (pWord [58] (pWord [41] R.2.2).2).2).2
  obtain ⟨f8, x, xs, ex, _, px, wx, gx⟩ := expr_rd n _ (by omega) h
  obtain ⟨f7, g, gr, eg, gt, gl, gs⟩ := word_ok (by decide) f8
  obtain ⟨f6, y, ys, ey, _, py, wy, gy⟩ := typ_rd n _ (by omega) f7
  obtain ⟨f5, e, er, ee, et, el, es⟩ := word_ok (by decide) f6
  obtain ⟨f4, d, dr, ed, dt, dl, ds⟩ := word_ok (by decide) f5
  have f4' : (rowF (paramT n) 8 (fun t => t.kind == 1) C).2.2.failed = 0 := hR ▸ f4
  obtain ⟨f3, us, eu, hc, hm, hw, hp, hg2⟩ := row_rd (most := 8) (beg := fun t => t.kind == 1) (param_rd n) (paramT_len n) (fun _ h => h) (by decide) C (by omega) f4'
  rw [← hR] at eu hc hm hw hp hg2
  rw [hC] at f3
  obtain ⟨f2, c, cr, ec, ct, cl, cs⟩ := word_ok (by decide) f3
  obtain ⟨f1, b, br, eb, bk, bt, bl, bs⟩ := name_ok f2
  obtain ⟨f0, a, ar, ea, at_, al, as_⟩ := word_ok (by decide) f1
  rw [gl, el, dl, cl, bt, bl, al]
  have bk1 : b.kind = 1 := by rcases bk with h | h <;> exact h
  refine ⟨f0, a, b :: c :: (us ++ (d :: e :: (y :: ys) ++ g :: x :: xs)), ?_, rfl, fun st => ?_, ?_, fun hg => ?_⟩
  · rw [ea, ← as_, eb, ← bs, ec, ← cs, ← hC, eu, ed, ← ds, ee, ← es, ey, eg, ← gs, ex]; simp
  · have := hp [a.lead, b.lead, c.lead, d.lead, e.lead, g.lead]
    simp only [List.length_cons, List.length_nil, Nat.zero_add, List.cons_append, List.nil_append] at this
    rw [treeP, treesP_app, treesP, treesP, treesP]
    simp only [nodeP, defnP]
    simp only [List.length_append, List.length_cons, List.length_nil, treesP_length, List.cons_append, List.nil_append]
    have k1 : R.2.1.length + (0 + 1 + 1) - 2 = R.2.1.length := by omega
    have k2 : R.2.1.length + (0 + 1 + 1) - 1 = R.2.1.length + 1 := by omega
    rw [k1, k2]
    have t1 : (treesP R.2.1 ++ [treeP (typT n (pWord [58] (pWord [41] R.2.2).2).2).1, treeP (exprT n (pWord [61] (typT n (pWord [58] (pWord [41] R.2.2).2).2).2).2).1]).take R.2.1.length = treesP R.2.1 := by
      rw [List.take_append_of_le_length (by rw [treesP_length]; exact Nat.le_refl _), List.take_of_length_le (by rw [treesP_length]; exact Nat.le_refl _)]
    have t2 : (treesP R.2.1 ++ [treeP (typT n (pWord [58] (pWord [41] R.2.2).2).2).1, treeP (exprT n (pWord [61] (typT n (pWord [58] (pWord [41] R.2.2).2).2).2).2).1]).getD R.2.1.length id = treeP (typT n (pWord [58] (pWord [41] R.2.2).2).2).1 := by
      rw [List.getD_eq_getElem?_getD, List.getElem?_append_right (by rw [treesP_length]; exact Nat.le_refl _), treesP_length, Nat.sub_self]; rfl
    have t3 : (treesP R.2.1 ++ [treeP (typT n (pWord [58] (pWord [41] R.2.2).2).2).1, treeP (exprT n (pWord [61] (typT n (pWord [58] (pWord [41] R.2.2).2).2).2).2).1]).getD (R.2.1.length + 1) id = treeP (exprT n (pWord [61] (typT n (pWord [58] (pWord [41] R.2.2).2).2).2).2).1 := by
      rw [List.getD_eq_getElem?_getD, List.getElem?_append_right (by rw [treesP_length]; omega), treesP_length, show R.2.1.length + 1 - R.2.1.length = 1 from by omega]; rfl
    rw [t1, t2, t3]
    have at' : a.text = [100, 101, 102] := at_
    simp [this, px, py, putsP, putsP_app, at', ct, dt, et, gt]
  · simp only [tbulk, lsum, kbulk, wsum, wsum_app, lsum_append, kbulk_append, List.cons_append, List.nil_append, List.length_nil, List.length_cons] at *; omega
  · obtain ⟨gk, gv⟩ := hg2 hg.tl.tl.tl.l
    have hq := hg.tl.tl.tl.r
    obtain ⟨K0, F0⟩ := gy hq.tl.tl.l
    obtain ⟨K1, F1⟩ := gx hq.tl.tl.r.tl
    have hcl := hg.tl.hd.cls (k := 1) bk1
    refine ⟨rfl, fine_mk ?_ (by simp [wordedT, hcl]) ?_ (by decide) (Trivs.cons hg.hd.triv (Trivs.cons hg.tl.hd.triv (Trivs.cons hg.tl.tl.hd.triv (Trivs.cons hq.hd.triv (Trivs.cons hq.tl.hd.triv (Trivs.cons hq.tl.tl.r.hd.triv gv)))))) ?_ ?_ ?_⟩
    · rw [leadsT2 (by simp only [List.length_append, List.length_cons, List.length_nil]; omega)]
      simp only [List.length_append, List.length_cons, List.length_nil]
      split <;> omega
    · rw [kids_app, params_of 0 (by simp) gk]
      simp only [kidsT, F0.1, F1.1, Bool.and_true, Bool.true_and, suits2, Bool.and_eq_true, List.length_append, List.length_cons, List.length_nil]
      rw [if_neg (by omega), if_pos (by omega), if_pos (by omega)]
      exact ⟨K0, K1⟩
    · rw [few2]; simp; omega
    · rw [leadeds_app, leadeds_of gk]; simp [leadedsT, F0.2.1, F1.2.1]
    · rw [smalls_app, smalls_of gk]; simp [smallsT, F0.2.2, F1.2.2]
def defK (k : Int) : Bool := k == 2 || k == 3
theorem defs_rd (n : Nat) : ∀ (m : Nat) (ks : List Tree) (s : PS), s.toks.length < m → s.toks.length < n → (defsT n m ks s).2.failed = 0 →
    s.failed = 0 ∧ kbulk (defsT n m ks s).1 ≤ kbulk ks + wsum s.toks ∧ (ks.length ≤ 40 → (defsT n m ks s).1.length ≤ 40) ∧ (∀ st, (treesP (defsT n m ks s).1).foldl (fun s f => f s) st = putsP s.toks ((treesP ks).foldl (fun s f => f s) st)) ∧ (Goods s.toks → GoodKids defK ks → GoodKids defK (defsT n m ks s).1)
  | 0, ks, s, hm, _, _ => by omega
  | m + 1, ks, s, hm, hn, h => by
    rw [defsT] at h ⊢
    by_cases h0 : s.toks = []
    · rw [if_pos h0] at h ⊢
      exact ⟨h, by rw [h0]; exact Nat.le_refl _, id, fun st => by rw [h0]; rfl, fun _ a => a⟩
    rw [if_neg h0] at h ⊢
    have hpos : 0 < s.toks.length := List.length_pos_iff.2 h0
    have bad : ∀ e, e ≠ 0 → (defsT n m ks (pFail e s)).2.failed = 0 → False := by
      intro e he hb
      have hz : (pFail e s).toks.length = 0 := by unfold pFail; split <;> rfl
      exact pFail_bad he s (defs_rd n m ks (pFail e s) (by omega) (by omega) hb).1
    by_cases h1 : ¬ (pNext s).text = wDef ∧ ¬ (pNext s).text = wType
    · rw [if_pos h1] at h; exact (bad 2 (by decide) h).elim
    rw [if_neg h1] at h ⊢
    by_cases h2 : ks.length = 40
    · rw [if_pos h2] at h; exact (bad 3 (by decide) h).elim
    rw [if_neg h2] at h ⊢
    have go : ∀ (K : Int → Bool) (f : PS → Tree × PS), RdF K anyB 1 f n → (∀ k, K k = true → defK k = true) → (f s).2.toks.length < s.toks.length → (defsT n m (ks ++ [(f s).1]) (f s).2).2.failed = 0 →
        s.failed = 0 ∧ kbulk (defsT n m (ks ++ [(f s).1]) (f s).2).1 ≤ kbulk ks + wsum s.toks ∧ (ks.length ≤ 40 → (defsT n m (ks ++ [(f s).1]) (f s).2).1.length ≤ 40) ∧ (∀ st, (treesP (defsT n m (ks ++ [(f s).1]) (f s).2).1).foldl (fun s f => f s) st = putsP s.toks ((treesP ks).foldl (fun s f => f s) st)) ∧ (Goods s.toks → GoodKids defK ks → GoodKids defK (defsT n m (ks ++ [(f s).1]) (f s).2).1) := by
      intro K f hf hK hlt hb
      obtain ⟨f1, hbk, hl, hp, hgk⟩ := defs_rd n m _ _ (by omega) (by omega) hb
      obtain ⟨f0, u, us, eu, _, pu, wu, gu⟩ := hf s hn f1
      refine ⟨f0, ?_, fun hle => hl (by simp; omega), fun st => ?_, fun hg hk => ?_⟩
      · rw [kbulk_snoc] at hbk
        rw [eu, wsum_app]; omega
      · rw [hp, treesP_app, treesP, treesP, List.foldl_append]
        simp only [List.foldl_cons, List.foldl_nil]
        rw [pu, eu, putsP_app]
      · rw [eu] at hg
        obtain ⟨K0, F0⟩ := gu hg.l
        exact hgk hg.r (hk.snoc ⟨hK _ K0, F0⟩)
    by_cases h3 : (pNext s).text = wDef
    · rw [if_pos h3] at h ⊢
      exact go _ _ (function_rd n) (fun k hk => by simp only [beq_iff_eq] at hk; rw [hk]; rfl) (functionT_lt' h3) h
    · rw [if_neg h3] at h ⊢
      have h4 : (pNext s).text = wType := Decidable.byContradiction fun h5 => h1 ⟨h3, h5⟩
      exact go _ _ (alias_rd n) (fun k hk => by simp only [beq_iff_eq] at hk; rw [hk]; rfl) (aliasT_lt' h4) h
theorem file_rd {n : Nat} {s : PS} (hn : s.toks.length < n) (h : (fileT n s).2.failed = 0) : s.failed = 0 ∧ (fileT n s).1.kind = 1 ∧ (fileT n s).1.leads.length = 3 ∧ (∀ tail, tbulk (.node (fileT n s).1.kind (fileT n s).1.text ((fileT n s).1.leads.set 2 tail) (fileT n s).1.kids) ≤ wsum s.toks + tail.length + 2) ∧ ∀ tail, triviaT false tail true = true → Goods s.toks →
    Fine (.node (fileT n s).1.kind (fileT n s).1.text ((fileT n s).1.leads.set 2 tail) (fileT n s).1.kids) ∧ ∀ st, treeP (.node (fileT n s).1.kind (fileT n s).1.text ((fileT n s).1.leads.set 2 tail) (fileT n s).1.kids) st = ((putsP s.toks st).1, (putsP s.toks st).2 ++ tail) := by
  unfold fileT at h ⊢
  simp only [Tree.kind, Tree.text, Tree.leads, Tree.kids] at h ⊢
  have q1 := pWord_len wModule s
  have q2 := pName_len 2 2 (pWord wModule s).2
  obtain ⟨f2, hbk, hl, hp, hgk⟩ := defs_rd n _ [] _ (by omega) (by omega) h
  obtain ⟨f1, b, br, eb, bk, bt, bl, bs⟩ := name_ok f2
  obtain ⟨f0, a, ar, ea, at_, al, as_⟩ := word_ok (by decide) f1
  rw [bt, bl, al]
  have bk1 : b.kind = 2 := by rcases bk with h | h <;> exact h
  have es : s.toks = a :: b :: (pName 2 2 (pWord wModule s).2).2.2.toks := by rw [ea, ← as_, eb, ← bs]
  refine ⟨f0, by trivial, by trivial, fun tail => ?_, fun tail htl hg => ?_⟩
  · rw [es]
    simp only [kbulk, tbulk, lsum, wsum, List.set, List.length_nil] at *
    omega
  rw [es] at hg
  have gk := hgk hg.tl.tl GoodKids.nil
  have hcl := hg.tl.hd.cls (k := 2) bk1
  have t0 := hg.hd.triv
  have t1 := hg.tl.hd.triv
  refine ⟨⟨?_, ?_, ?_⟩, fun st => ?_⟩
  · rw [shapedT, kids_of (K := defK) (fun i kk hk => by simpa [suitsT, defK] using hk) 0 gk]
    simp [wordedT, hcl, leadsT]
    try (split <;> omega)
  · rw [leadedT, leadeds_of gk]
    simp [trivsT, t0, t1, htl, leadsT]
    try omega
  · rw [smallT, smalls_of gk]
    have := hl (by simp)
    simp [fewT, this]
  · rw [treeP]
    simp only [nodeP, defnP]
    have := hp
    simp only [treesP, List.foldl_nil] at this
    rw [es]
    have at' : a.text = [109, 111, 100, 117, 108, 101] := at_
    simp [this, putsP, at']
theorem wsum_join : ∀ (ts : List Tok) (tail : List UInt8), wsum ts + tail.length = (joinT ts tail).length + 3 * ts.length
  | [], tail => by simp [wsum, joinT]
  | t :: r, tail => by have := wsum_join r tail; simp only [wsum, joinT, List.length_append, List.length_cons]; omega
theorem round_plain {l : List UInt8} (h : (parseT l).2.2 = 0) : tbulk (parseT l).1 ≤ 1000000000 ∧ printT (parseT l).1 = l ∧ validT (parseT l).1 = true ∧ shapedT (parseT l).1 = true := by
  unfold parseT at h ⊢
  simp only at h ⊢
  by_cases h1 : ¬ (scan l).err = 0
  · rw [if_pos h1] at h; exact absurd h h1
  rw [if_neg h1] at h ⊢
  have h1' : (scan l).err = 0 := Decidable.not_not.1 h1
  by_cases h2 : ¬ (fileT ((scan l).toks.length + 1) (startT (scan l).toks l.length)).2.failed = 0
  · rw [if_pos h2] at h; exact absurd h h2
  rw [if_neg h2] at h ⊢
  have h2' := Decidable.not_not.1 h2
  by_cases h3 : 40 < depthT (fileT ((scan l).toks.length + 1) (startT (scan l).toks l.length)).1
  · rw [if_pos h3] at h; exact absurd h (by decide)
  rw [if_neg h3]
  simp only
  obtain ⟨k1, k2, k3, k4, k5⟩ := scan_keeps h1'
  obtain ⟨_, _, _, hbk, hF⟩ := file_rd (s := startT (scan l).toks l.length) (n := (scan l).toks.length + 1) (Nat.lt_succ_self _) h2'
  obtain ⟨F, P⟩ := hF (scan l).tail k3 k2
  have ht : textT (.node (fileT ((scan l).toks.length + 1) (startT (scan l).toks l.length)).1.kind (fileT ((scan l).toks.length + 1) (startT (scan l).toks l.length)).1.text ((fileT ((scan l).toks.length + 1) (startT (scan l).toks l.length)).1.leads.set 2 (scan l).tail) (fileT ((scan l).toks.length + 1) (startT (scan l).toks l.length)).1.kids) = l := by
    unfold textT
    rw [P]
    simp only
    have := putsP_join (scan l).toks [] [] (scan_apart h1') (fun _ _ _ _ => .inl rfl)
    rw [show (startT (scan l).toks l.length).toks = (scan l).toks from rfl, this, List.nil_append]
    have hj : ∀ (ts : List Tok) (tail : List UInt8), joinT ts [] ++ tail = joinT ts tail := by
      intro ts tail
      induction ts with
      | nil => rfl
      | cons t r ih => simp only [joinT, List.append_assoc, ih]
    rw [hj]; exact k1
  have hd : depthT (.node (fileT ((scan l).toks.length + 1) (startT (scan l).toks l.length)).1.kind (fileT ((scan l).toks.length + 1) (startT (scan l).toks l.length)).1.text ((fileT ((scan l).toks.length + 1) (startT (scan l).toks l.length)).1.leads.set 2 (scan l).tail) (fileT ((scan l).toks.length + 1) (startT (scan l).toks l.length)).1.kids) ≤ 40 := by
    refine Nat.le_trans (Nat.le_of_eq ?_) (Nat.le_of_not_lt h3)
    cases (fileT ((scan l).toks.length + 1) (startT (scan l).toks l.length)).1
    simp only [Tree.kind, Tree.text, Tree.leads, Tree.kids, depthT]
  refine ⟨?_, ?_, ?_, F.1⟩
  · have h1 := hbk (scan l).tail
    have h2 := wsum_join (scan l).toks (scan l).tail
    rw [k1] at h2
    have h3 : wsum (startT (scan l).toks l.length).toks = wsum (scan l).toks := rfl
    omega
  · unfold printT; rw [F.1, F.2.1]; exact ht
  · unfold validT; rw [F.1, F.2.1, F.2.2, ht]
    simp [hd, k5]
end Go.Proofs.Ythpjpngfghcmcaa
