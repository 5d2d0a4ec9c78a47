/- Contracts of the functions that the law reaches, part 5. -/
import Derived.Test.YtgpcdfbmbcognaaGreatTa4
set_option linter.unusedVariables false
set_option linter.unusedSimpArgs false
namespace Go.Proofs.YtgpcdfbmbcognaaGreat
open Go.RowKit Lx Sx
set_option maxRecDepth 100000
set_option maxHeartbeats 4000000
theorem dd {t : Tree} (h : leadedT t = true) (s : WS) : (treeP t s).2.length ≤ s.2.length + 100 * tbulk t ∧ (treeP t s).1.length ≤ s.1.length + 100 * tbulk t := Gw.tree _ t (Nat.le_refl _) h s
theorem qZ {ls : List (List UInt8)} {c : Nat} (hc : 1 ≤ c) {ks : List Tree} (h : ∀ t, t ∈ ks → ∀ s, Gw (100 * tbulk t) s (treeP t s)) (s : WS) : (aZ ls c (treesP ks) 0 s).2.length ≤ s.2.length + (lsum ls + 2 * ks.length + 100 * kbulk ks) ∧ (aZ ls c (treesP ks) 0 s).1.length ≤ s.1.length + (lsum ls + 2 * ks.length + 100 * kbulk ks) := by
 have h1 := Gw.list (ls := ls) hc ks 0 h s
 have h2 := iE ls (c + 0 - 1)
 exact ⟨by have := h1.1; omega, by have := h1.2; omega⟩
theorem t17 {N : Nat} (ih : cF N) {w : World} {Bs b : Nat} {s : WS} {x : List UInt8} {k0 : Tree} {cs : List Value} {A B : Option Addr} {m n : Nat} (hks : ∀ t, t ∈ [k0] → tsize t ≤ N ∧ shapedT t = true ∧ leadedT t = true)
    (hl1 : s.2.length + 100 * (x.length + lsum ([] : List (List UInt8)) + kbulk [k0] + 1) ≤ 1000000000000) (hl2 : s.1.length + 100 * (x.length + lsum ([] : List (List UInt8)) + kbulk [k0] + 1) ≤ 1000000000000) (hP : Pr Bs b s.1 s.2 w) (hL : RowIn (fun b => b < Bs) w 1 A ([] : List (List UInt8)).length (([] : List (List UInt8)).map aQ)) (hn : [k0].length ≤ n) (hn2 : n ≤ maxLen) (hK : KidsAre (fun b => b < Bs) w [k0] cs) (hR : RowIn (fun b => b < Bs) w 4 B [k0].length cs) (hBw : Bs ≤ w.heap.size) :
    Calls Tryz.prog 42 [.pointer (some ⟨b, 0, none⟩), .agg #[.int .i64 17, aQ x, .slice A ([] : List (List UInt8)).length m, .slice B [k0].length n]].toArray w fun e w' => e = .returned (.tuple #[]) ∧ Pr Bs b (treeP (.node 17 x ([] : List (List UInt8)) [k0]) s).1 (treeP (.node 17 x ([] : List (List UInt8)) [k0]) s).2 w' ∧ Prn Bs b w w' := by
  simp only [lsum, kbulk] at hl1 hl2
  have hE := Prn.refl (b := b) hBw
  have hG : s.2.length ≤ s.2.length := Nat.le_refl _
  have hG' : s.1.length ≤ s.1.length := Nat.le_refl _
  obtain ⟨kb, ko, rfl, _, hkb, _⟩ := hR.2 (by simp)
  refine rE 216 Tryz.func42 rfl rfl rfl ?_
  intro a hf
  refine rR 2 hf rfl fun a hf => ?_
  obtain ⟨w1, b2, he, hB3, hx4, eb5, lb6⟩ := cC (P := Tryz.prog) (t := 34) (x := (.tmp 1)) hf rfl rfl w 0
  refine rV hf rfl he fun a hf => ?_
  have ge_b2 := Prn.ge_new hE eb5
  have ne_b_b2 : b ≠ b2 := cm hP.lt eb5
  replace hP := hP.chg0 hx4
  replace hE := hE.t0 hx4
  clear eb5 lb6
  refine rR 5 hf rfl fun a hf => rV hf rfl (an hf rfl (by kernel_rfl) hB3 rfl) fun a hf => rR 41 hf rfl fun a hf => rV hf rfl (an hf rfl (by kernel_rfl) hB3 rfl) fun a hf => rV hf rfl (aB (sz := 4) (k := 0) (r := ko) hf Tryz.underlying25 (by kernel_rfl) rfl rfl rfl (by simp) rfl) fun a hf => ?_
  obtain ⟨d0, d1, d2, d3, hT, hK4⟩ := dp hK hR hE (i := 0) (t := k0) rfl
  have on_T := hT.one
  refine rV hf rfl (ex_loadN (cs := [d0, d1, d2, d3]) (m := 4) hf rfl (by kernel_rfl) rfl hK4) fun a hf => rC hf rfl rfl (by kernel_rfl) (ih k0 _ Bs b s d0 d1 d2 d3 (hks _ (by simp)).1 (hks _ (by simp)).2.1 (hks _ (by simp)).2.2 (by (try simp only [ac, List.length_append, List.length_cons, List.length_nil]); omega) (by (try simp only [ac, List.length_append, List.length_cons, List.length_nil]); omega) hP hT hE.now) ?_
  rintro _ w9 ⟨rfl, hPn, hEn⟩
  refine ⟨_, rfl, fun a hf => ?_⟩
  have hx8 := hEn.chg
  replace hB3 := hB3.chg hx8 (aF hB3 rfl (Ne.symm ne_b_b2))
  replace hE := hE.trans hx8 (fun _ h => .inl h)
  obtain ⟨s7, es7⟩ : ∃ z, z = treeP k0 s := ⟨_, rfl⟩
  replace hPn : Pr Bs b (treeP k0 s).1 (treeP k0 s).2 w9 := hPn
  rw [← es7] at hPn
  have gs7 := dd (t := k0) (hks _ (by simp)).2.2 s
  rw [← es7] at gs7
  obtain ⟨gs7, gs7'⟩ := gs7
  (try simp only [List.length_cons, List.length_nil, lsum] at gs7 gs7')
  replace hG := nlt gs7 (Nat.add_le_add_right hG _)
  replace hG' := nlt gs7' (Nat.add_le_add_right hG' _)
  clear gs7 gs7'
  clear hP; have hP := hPn; clear hPn hEn
  refine rR 2 hf rfl fun a hf => ?_
  have eq : treeP (.node 17 x ([] : List (List UInt8)) [k0]) s = s7 := by subst es7; rfl
  rw [eq]
  exact rF (rs := []) hf rfl rfl ⟨rfl, hP, hE⟩
theorem t8 {N : Nat} (ih : cF N) {w : World} {Bs b : Nat} {s : WS} {x : List UInt8} {l0 l1 : List UInt8} {k0 : Tree} {cs : List Value} {A B : Option Addr} {m n : Nat} (hks : ∀ t, t ∈ [k0] → tsize t ≤ N ∧ shapedT t = true ∧ leadedT t = true)
    (hl1 : s.2.length + 100 * (x.length + lsum [l0, l1] + kbulk [k0] + 1) ≤ 1000000000000) (hl2 : s.1.length + 100 * (x.length + lsum [l0, l1] + kbulk [k0] + 1) ≤ 1000000000000) (hP : Pr Bs b s.1 s.2 w) (hL : RowIn (fun b => b < Bs) w 1 A [l0, l1].length ([l0, l1].map aQ)) (hn : [k0].length ≤ n) (hn2 : n ≤ maxLen) (hK : KidsAre (fun b => b < Bs) w [k0] cs) (hR : RowIn (fun b => b < Bs) w 4 B [k0].length cs) (hBw : Bs ≤ w.heap.size) :
    Calls Tryz.prog 42 [.pointer (some ⟨b, 0, none⟩), .agg #[.int .i64 8, aQ x, .slice A [l0, l1].length m, .slice B [k0].length n]].toArray w fun e w' => e = .returned (.tuple #[]) ∧ Pr Bs b (treeP (.node 8 x [l0, l1] [k0]) s).1 (treeP (.node 8 x [l0, l1] [k0]) s).2 w' ∧ Prn Bs b w w' := by
  simp only [lsum, kbulk] at hl1 hl2
  have hE := Prn.refl (b := b) hBw
  have hG : s.2.length ≤ s.2.length := Nat.le_refl _
  have hG' : s.1.length ≤ s.1.length := Nat.le_refl _
  obtain ⟨lb, lo, rfl, _, hlb, _⟩ := hL.2 (by simp)
  obtain ⟨kb, ko, rfl, _, hkb, _⟩ := hR.2 (by simp)
  refine rE 216 Tryz.func42 rfl rfl rfl ?_
  intro a hf
  refine rR 2 hf rfl fun a hf => ?_
  obtain ⟨w1, b2, he, hB3, hx4, eb5, lb6⟩ := cC (P := Tryz.prog) (t := 34) (x := (.tmp 1)) hf rfl rfl w 0
  refine rV hf rfl he fun a hf => ?_
  have ge_b2 := Prn.ge_new hE eb5
  have ne_b_b2 : b ≠ b2 := cm hP.lt eb5
  replace hP := hP.chg0 hx4
  replace hE := hE.t0 hx4
  clear eb5 lb6
  refine rR 5 hf rfl fun a hf => rV hf rfl (an hf rfl (by kernel_rfl) hB3 rfl) fun a hf => rR 49 hf rfl fun a hf => rV hf rfl (an hf rfl (by kernel_rfl) hB3 rfl) fun a hf => rV hf rfl (aB (sz := 1) (k := 0) (r := lo) hf Tryz.underlying32 (by kernel_rfl) rfl rfl rfl (by simp) rfl) fun a hf => rV hf rfl (ex_load hf rfl (by kernel_rfl) (ax hL hE (j := 0) rfl)) fun a hf => rC hf rfl rfl (by kernel_rfl) (cD (lead := l0) (tok := [91]) hP (by (try simp only [ac, List.length_append, List.length_cons, List.length_nil]); omega) (by (try simp only [ac, List.length_append, List.length_cons, List.length_nil]); omega) hE.now) ?_
  rintro _ w9 ⟨rfl, hPn, hEn⟩
  refine ⟨_, rfl, fun a hf => ?_⟩
  have hx8 := hEn.chg
  replace hB3 := hB3.chg hx8 (aF hB3 rfl (Ne.symm ne_b_b2))
  replace hE := hE.trans hx8 (fun _ h => .inl h)
  obtain ⟨s7, es7⟩ : ∃ z, z = ac l0 [91] s := ⟨_, rfl⟩
  replace hPn : Pr Bs b (ac l0 [91] s).1 (ac l0 [91] s).2 w9 := hPn
  rw [← es7] at hPn
  have gs7 := bg l0 [91] s
  rw [← es7] at gs7
  obtain ⟨gs7, gs7'⟩ := gs7
  (try simp only [List.length_cons, List.length_nil, lsum] at gs7 gs7')
  replace hG := nlt gs7 (Nat.add_le_add_right hG _)
  replace hG' := nlt gs7' (Nat.add_le_add_right hG' _)
  clear gs7 gs7'
  clear hP; have hP := hPn; clear hPn hEn
  refine rR 6 hf rfl fun a hf => rV hf rfl (an hf rfl (by kernel_rfl) hB3 rfl) fun a hf => rV hf rfl (aB (sz := 4) (k := 0) (r := ko) hf Tryz.underlying25 (by kernel_rfl) rfl rfl rfl (by simp) rfl) fun a hf => ?_
  obtain ⟨d0, d1, d2, d3, hT, hK4⟩ := dp hK hR hE (i := 0) (t := k0) rfl
  have on_T := hT.one
  refine rV hf rfl (ex_loadN (cs := [d0, d1, d2, d3]) (m := 4) hf rfl (by kernel_rfl) rfl hK4) fun a hf => rC hf rfl rfl (by kernel_rfl) (ih k0 _ Bs b s7 d0 d1 d2 d3 (hks _ (by simp)).1 (hks _ (by simp)).2.1 (hks _ (by simp)).2.2 (by (try simp only [ac, List.length_append, List.length_cons, List.length_nil]); omega) (by (try simp only [ac, List.length_append, List.length_cons, List.length_nil]); omega) hP hT hE.now) ?_
  rintro _ w12 ⟨rfl, hPn, hEn⟩
  refine ⟨_, rfl, fun a hf => ?_⟩
  have hx11 := hEn.chg
  replace hB3 := hB3.chg hx11 (aF hB3 rfl (Ne.symm ne_b_b2))
  replace hE := hE.trans hx11 (fun _ h => .inl h)
  obtain ⟨s10, es10⟩ : ∃ z, z = treeP k0 s7 := ⟨_, rfl⟩
  replace hPn : Pr Bs b (treeP k0 s7).1 (treeP k0 s7).2 w12 := hPn
  rw [← es10] at hPn
  have gs10 := dd (t := k0) (hks _ (by simp)).2.2 s7
  rw [← es10] at gs10
  obtain ⟨gs10, gs10'⟩ := gs10
  (try simp only [List.length_cons, List.length_nil, lsum] at gs10 gs10')
  replace hG := nlt gs10 (Nat.add_le_add_right hG _)
  replace hG' := nlt gs10' (Nat.add_le_add_right hG' _)
  clear gs10 gs10'
  clear hP; have hP := hPn; clear hPn hEn
  refine rR 5 hf rfl fun a hf => rV hf rfl (an hf rfl (by kernel_rfl) hB3 rfl) fun a hf => rV hf rfl (aB (sz := 1) (k := 1) (r := lo + 1) hf Tryz.underlying32 (by kernel_rfl) rfl rfl rfl (by simp) rfl) fun a hf => rV hf rfl (ex_load hf rfl (by kernel_rfl) (ax hL hE (j := 1) rfl)) fun a hf => rC hf rfl rfl (by kernel_rfl) (cD (lead := l1) (tok := [93]) hP (by (try simp only [ac, List.length_append, List.length_cons, List.length_nil]); omega) (by (try simp only [ac, List.length_append, List.length_cons, List.length_nil]); omega) hE.now) ?_
  rintro _ w15 ⟨rfl, hPn, hEn⟩
  refine ⟨_, rfl, fun a hf => ?_⟩
  have hx14 := hEn.chg
  replace hB3 := hB3.chg hx14 (aF hB3 rfl (Ne.symm ne_b_b2))
  replace hE := hE.trans hx14 (fun _ h => .inl h)
  obtain ⟨s13, es13⟩ : ∃ z, z = ac l1 [93] s10 := ⟨_, rfl⟩
  replace hPn : Pr Bs b (ac l1 [93] s10).1 (ac l1 [93] s10).2 w15 := hPn
  rw [← es13] at hPn
  have gs13 := bg l1 [93] s10
  rw [← es13] at gs13
  obtain ⟨gs13, gs13'⟩ := gs13
  (try simp only [List.length_cons, List.length_nil, lsum] at gs13 gs13')
  replace hG := nlt gs13 (Nat.add_le_add_right hG _)
  replace hG' := nlt gs13' (Nat.add_le_add_right hG' _)
  clear gs13 gs13'
  clear hP; have hP := hPn; clear hPn hEn
  refine rR 2 hf rfl fun a hf => ?_
  have eq : treeP (.node 8 x [l0, l1] [k0]) s = s13 := by subst es13; subst es10; subst es7; rfl
  rw [eq]
  exact rF (rs := []) hf rfl rfl ⟨rfl, hP, hE⟩
theorem t19 {N : Nat} (ih : cF N) {w : World} {Bs b : Nat} {s : WS} {x : List UInt8} {l0 l1 l2 : List UInt8} {k0 k1 k2 : Tree} {cs : List Value} {A B : Option Addr} {m n : Nat} (hks : ∀ t, t ∈ [k0, k1, k2] → tsize t ≤ N ∧ shapedT t = true ∧ leadedT t = true)
    (hl1 : s.2.length + 100 * (x.length + lsum [l0, l1, l2] + kbulk [k0, k1, k2] + 1) ≤ 1000000000000) (hl2 : s.1.length + 100 * (x.length + lsum [l0, l1, l2] + kbulk [k0, k1, k2] + 1) ≤ 1000000000000) (hP : Pr Bs b s.1 s.2 w) (hL : RowIn (fun b => b < Bs) w 1 A [l0, l1, l2].length ([l0, l1, l2].map aQ)) (hn : [k0, k1, k2].length ≤ n) (hn2 : n ≤ maxLen) (hK : KidsAre (fun b => b < Bs) w [k0, k1, k2] cs) (hR : RowIn (fun b => b < Bs) w 4 B [k0, k1, k2].length cs) (hBw : Bs ≤ w.heap.size) :
    Calls Tryz.prog 42 [.pointer (some ⟨b, 0, none⟩), .agg #[.int .i64 19, aQ x, .slice A [l0, l1, l2].length m, .slice B [k0, k1, k2].length n]].toArray w fun e w' => e = .returned (.tuple #[]) ∧ Pr Bs b (treeP (.node 19 x [l0, l1, l2] [k0, k1, k2]) s).1 (treeP (.node 19 x [l0, l1, l2] [k0, k1, k2]) s).2 w' ∧ Prn Bs b w w' := by
  simp only [lsum, kbulk] at hl1 hl2
  have hE := Prn.refl (b := b) hBw
  have hG : s.2.length ≤ s.2.length := Nat.le_refl _
  have hG' : s.1.length ≤ s.1.length := Nat.le_refl _
  obtain ⟨lb, lo, rfl, _, hlb, _⟩ := hL.2 (by simp)
  obtain ⟨kb, ko, rfl, _, hkb, _⟩ := hR.2 (by simp)
  refine rE 216 Tryz.func42 rfl rfl rfl ?_
  intro a hf
  refine rR 2 hf rfl fun a hf => ?_
  obtain ⟨w1, b2, he, hB3, hx4, eb5, lb6⟩ := cC (P := Tryz.prog) (t := 34) (x := (.tmp 1)) hf rfl rfl w 0
  refine rV hf rfl he fun a hf => ?_
  have ge_b2 := Prn.ge_new hE eb5
  have ne_b_b2 : b ≠ b2 := cm hP.lt eb5
  replace hP := hP.chg0 hx4
  replace hE := hE.t0 hx4
  clear eb5 lb6
  refine rR 5 hf rfl fun a hf => rV hf rfl (an hf rfl (by kernel_rfl) hB3 rfl) fun a hf => rR 70 hf rfl fun a hf => rV hf rfl (an hf rfl (by kernel_rfl) hB3 rfl) fun a hf => rV hf rfl (aB (sz := 1) (k := 0) (r := lo) hf Tryz.underlying32 (by kernel_rfl) rfl rfl rfl (by simp) rfl) fun a hf => rV hf rfl (ex_load hf rfl (by kernel_rfl) (ax hL hE (j := 0) rfl)) fun a hf => rC hf rfl rfl (by kernel_rfl) (cD (lead := l0) (tok := [105, 102]) hP (by (try simp only [ac, List.length_append, List.length_cons, List.length_nil]); omega) (by (try simp only [ac, List.length_append, List.length_cons, List.length_nil]); omega) hE.now) ?_
  rintro _ w9 ⟨rfl, hPn, hEn⟩
  refine ⟨_, rfl, fun a hf => ?_⟩
  have hx8 := hEn.chg
  replace hB3 := hB3.chg hx8 (aF hB3 rfl (Ne.symm ne_b_b2))
  replace hE := hE.trans hx8 (fun _ h => .inl h)
  obtain ⟨s7, es7⟩ : ∃ z, z = ac l0 [105, 102] s := ⟨_, rfl⟩
  replace hPn : Pr Bs b (ac l0 [105, 102] s).1 (ac l0 [105, 102] s).2 w9 := hPn
  rw [← es7] at hPn
  have gs7 := bg l0 [105, 102] s
  rw [← es7] at gs7
  obtain ⟨gs7, gs7'⟩ := gs7
  (try simp only [List.length_cons, List.length_nil, lsum] at gs7 gs7')
  replace hG := nlt gs7 (Nat.add_le_add_right hG _)
  replace hG' := nlt gs7' (Nat.add_le_add_right hG' _)
  clear gs7 gs7'
  clear hP; have hP := hPn; clear hPn hEn
  refine rR 6 hf rfl fun a hf => rV hf rfl (an hf rfl (by kernel_rfl) hB3 rfl) fun a hf => rV hf rfl (aB (sz := 4) (k := 0) (r := ko) hf Tryz.underlying25 (by kernel_rfl) rfl rfl rfl (by simp) rfl) fun a hf => ?_
  obtain ⟨d0, d1, d2, d3, hT, hK4⟩ := dp hK hR hE (i := 0) (t := k0) rfl
  have on_T := hT.one
  refine rV hf rfl (ex_loadN (cs := [d0, d1, d2, d3]) (m := 4) hf rfl (by kernel_rfl) rfl hK4) fun a hf => rC hf rfl rfl (by kernel_rfl) (ih k0 _ Bs b s7 d0 d1 d2 d3 (hks _ (by simp)).1 (hks _ (by simp)).2.1 (hks _ (by simp)).2.2 (by (try simp only [ac, List.length_append, List.length_cons, List.length_nil]); omega) (by (try simp only [ac, List.length_append, List.length_cons, List.length_nil]); omega) hP hT hE.now) ?_
  rintro _ w12 ⟨rfl, hPn, hEn⟩
  refine ⟨_, rfl, fun a hf => ?_⟩
  have hx11 := hEn.chg
  replace hB3 := hB3.chg hx11 (aF hB3 rfl (Ne.symm ne_b_b2))
  replace hE := hE.trans hx11 (fun _ h => .inl h)
  obtain ⟨s10, es10⟩ : ∃ z, z = treeP k0 s7 := ⟨_, rfl⟩
  replace hPn : Pr Bs b (treeP k0 s7).1 (treeP k0 s7).2 w12 := hPn
  rw [← es10] at hPn
  have gs10 := dd (t := k0) (hks _ (by simp)).2.2 s7
  rw [← es10] at gs10
  obtain ⟨gs10, gs10'⟩ := gs10
  (try simp only [List.length_cons, List.length_nil, lsum] at gs10 gs10')
  replace hG := nlt gs10 (Nat.add_le_add_right hG _)
  replace hG' := nlt gs10' (Nat.add_le_add_right hG' _)
  clear gs10 gs10'
  clear hP; have hP := hPn; clear hPn hEn
  refine rR 6 hf rfl fun a hf => rV hf rfl (an hf rfl (by kernel_rfl) hB3 rfl) fun a hf => rV hf rfl (aB (sz := 1) (k := 1) (r := lo + 1) hf Tryz.underlying32 (by kernel_rfl) rfl rfl rfl (by simp) rfl) fun a hf => rV hf rfl (ex_load hf rfl (by kernel_rfl) (ax hL hE (j := 1) rfl)) fun a hf => rC hf rfl rfl (by kernel_rfl) (cD (lead := l1) (tok := [116, 104, 101, 110]) hP (by (try simp only [ac, List.length_append, List.length_cons, List.length_nil]); omega) (by (try simp only [ac, List.length_append, List.length_cons, List.length_nil]); omega) hE.now) ?_
  rintro _ w15 ⟨rfl, hPn, hEn⟩
  refine ⟨_, rfl, fun a hf => ?_⟩
  have hx14 := hEn.chg
  replace hB3 := hB3.chg hx14 (aF hB3 rfl (Ne.symm ne_b_b2))
  replace hE := hE.trans hx14 (fun _ h => .inl h)
  obtain ⟨s13, es13⟩ : ∃ z, z = ac l1 [116, 104, 101, 110] s10 := ⟨_, rfl⟩
  replace hPn : Pr Bs b (ac l1 [116, 104, 101, 110] s10).1 (ac l1 [116, 104, 101, 110] s10).2 w15 := hPn
  rw [← es13] at hPn
  have gs13 := bg l1 [116, 104, 101, 110] s10
  rw [← es13] at gs13
  obtain ⟨gs13, gs13'⟩ := gs13
  (try simp only [List.length_cons, List.length_nil, lsum] at gs13 gs13')
  replace hG := nlt gs13 (Nat.add_le_add_right hG _)
  replace hG' := nlt gs13' (Nat.add_le_add_right hG' _)
  clear gs13 gs13'
  clear hP; have hP := hPn; clear hPn hEn
  refine rR 6 hf rfl fun a hf => rV hf rfl (an hf rfl (by kernel_rfl) hB3 rfl) fun a hf => rV hf rfl (aB (sz := 4) (k := 1) (r := ko + 4) hf Tryz.underlying25 (by kernel_rfl) rfl rfl rfl (by simp) rfl) fun a hf => ?_
  obtain ⟨d0, d1, d2, d3, hT, hK4⟩ := dp hK hR hE (i := 1) (t := k1) rfl
  have on_T := hT.one
  refine rV hf rfl (ex_loadN (cs := [d0, d1, d2, d3]) (m := 4) hf rfl (by kernel_rfl) rfl hK4) fun a hf => rC hf rfl rfl (by kernel_rfl) (ih k1 _ Bs b s13 d0 d1 d2 d3 (hks _ (by simp)).1 (hks _ (by simp)).2.1 (hks _ (by simp)).2.2 (by (try simp only [ac, List.length_append, List.length_cons, List.length_nil]); omega) (by (try simp only [ac, List.length_append, List.length_cons, List.length_nil]); omega) hP hT hE.now) ?_
  rintro _ w18 ⟨rfl, hPn, hEn⟩
  refine ⟨_, rfl, fun a hf => ?_⟩
  have hx17 := hEn.chg
  replace hB3 := hB3.chg hx17 (aF hB3 rfl (Ne.symm ne_b_b2))
  replace hE := hE.trans hx17 (fun _ h => .inl h)
  obtain ⟨s16, es16⟩ : ∃ z, z = treeP k1 s13 := ⟨_, rfl⟩
  replace hPn : Pr Bs b (treeP k1 s13).1 (treeP k1 s13).2 w18 := hPn
  rw [← es16] at hPn
  have gs16 := dd (t := k1) (hks _ (by simp)).2.2 s13
  rw [← es16] at gs16
  obtain ⟨gs16, gs16'⟩ := gs16
  (try simp only [List.length_cons, List.length_nil, lsum] at gs16 gs16')
  replace hG := nlt gs16 (Nat.add_le_add_right hG _)
  replace hG' := nlt gs16' (Nat.add_le_add_right hG' _)
  clear gs16 gs16'
  clear hP; have hP := hPn; clear hPn hEn
  refine rR 6 hf rfl fun a hf => rV hf rfl (an hf rfl (by kernel_rfl) hB3 rfl) fun a hf => rV hf rfl (aB (sz := 1) (k := 2) (r := lo + 2) hf Tryz.underlying32 (by kernel_rfl) rfl rfl rfl (by simp) rfl) fun a hf => rV hf rfl (ex_load hf rfl (by kernel_rfl) (ax hL hE (j := 2) rfl)) fun a hf => rC hf rfl rfl (by kernel_rfl) (cD (lead := l2) (tok := [101, 108, 115, 101]) hP (by (try simp only [ac, List.length_append, List.length_cons, List.length_nil]); omega) (by (try simp only [ac, List.length_append, List.length_cons, List.length_nil]); omega) hE.now) ?_
  rintro _ w21 ⟨rfl, hPn, hEn⟩
  refine ⟨_, rfl, fun a hf => ?_⟩
  have hx20 := hEn.chg
  replace hB3 := hB3.chg hx20 (aF hB3 rfl (Ne.symm ne_b_b2))
  replace hE := hE.trans hx20 (fun _ h => .inl h)
  obtain ⟨s19, es19⟩ : ∃ z, z = ac l2 [101, 108, 115, 101] s16 := ⟨_, rfl⟩
  replace hPn : Pr Bs b (ac l2 [101, 108, 115, 101] s16).1 (ac l2 [101, 108, 115, 101] s16).2 w21 := hPn
  rw [← es19] at hPn
  have gs19 := bg l2 [101, 108, 115, 101] s16
  rw [← es19] at gs19
  obtain ⟨gs19, gs19'⟩ := gs19
  (try simp only [List.length_cons, List.length_nil, lsum] at gs19 gs19')
  replace hG := nlt gs19 (Nat.add_le_add_right hG _)
  replace hG' := nlt gs19' (Nat.add_le_add_right hG' _)
  clear gs19 gs19'
  clear hP; have hP := hPn; clear hPn hEn
  refine rR 5 hf rfl fun a hf => rV hf rfl (an hf rfl (by kernel_rfl) hB3 rfl) fun a hf => rV hf rfl (aB (sz := 4) (k := 2) (r := ko + 8) hf Tryz.underlying25 (by kernel_rfl) rfl rfl rfl (by simp) rfl) fun a hf => ?_
  obtain ⟨d0, d1, d2, d3, hT, hK4⟩ := dp hK hR hE (i := 2) (t := k2) rfl
  have on_T := hT.one
  refine rV hf rfl (ex_loadN (cs := [d0, d1, d2, d3]) (m := 4) hf rfl (by kernel_rfl) rfl hK4) fun a hf => rC hf rfl rfl (by kernel_rfl) (ih k2 _ Bs b s19 d0 d1 d2 d3 (hks _ (by simp)).1 (hks _ (by simp)).2.1 (hks _ (by simp)).2.2 (by (try simp only [ac, List.length_append, List.length_cons, List.length_nil]); omega) (by (try simp only [ac, List.length_append, List.length_cons, List.length_nil]); omega) hP hT hE.now) ?_
  rintro _ w24 ⟨rfl, hPn, hEn⟩
  refine ⟨_, rfl, fun a hf => ?_⟩
  have hx23 := hEn.chg
  replace hB3 := hB3.chg hx23 (aF hB3 rfl (Ne.symm ne_b_b2))
  replace hE := hE.trans hx23 (fun _ h => .inl h)
  obtain ⟨s22, es22⟩ : ∃ z, z = treeP k2 s19 := ⟨_, rfl⟩
  replace hPn : Pr Bs b (treeP k2 s19).1 (treeP k2 s19).2 w24 := hPn
  rw [← es22] at hPn
  have gs22 := dd (t := k2) (hks _ (by simp)).2.2 s19
  rw [← es22] at gs22
  obtain ⟨gs22, gs22'⟩ := gs22
  (try simp only [List.length_cons, List.length_nil, lsum] at gs22 gs22')
  replace hG := nlt gs22 (Nat.add_le_add_right hG _)
  replace hG' := nlt gs22' (Nat.add_le_add_right hG' _)
  clear gs22 gs22'
  clear hP; have hP := hPn; clear hPn hEn
  refine rR 2 hf rfl fun a hf => ?_
  have eq : treeP (.node 19 x [l0, l1, l2] [k0, k1, k2]) s = s22 := by subst es22; subst es19; subst es16; subst es13; subst es10; subst es7; rfl
  rw [eq]
  exact rF (rs := []) hf rfl rfl ⟨rfl, hP, hE⟩
theorem t20 {N : Nat} (ih : cF N) {w : World} {Bs b : Nat} {s : WS} {x : List UInt8} {l0 l1 l2 l3 : List UInt8} {k0 k1 : Tree} {cs : List Value} {A B : Option Addr} {m n : Nat} (hks : ∀ t, t ∈ [k0, k1] → tsize t ≤ N ∧ shapedT t = true ∧ leadedT t = true)
    (hl1 : s.2.length + 100 * (x.length + lsum [l0, l1, l2, l3] + kbulk [k0, k1] + 1) ≤ 1000000000000) (hl2 : s.1.length + 100 * (x.length + lsum [l0, l1, l2, l3] + kbulk [k0, k1] + 1) ≤ 1000000000000) (hP : Pr Bs b s.1 s.2 w) (hL : RowIn (fun b => b < Bs) w 1 A [l0, l1, l2, l3].length ([l0, l1, l2, l3].map aQ)) (hn : [k0, k1].length ≤ n) (hn2 : n ≤ maxLen) (hK : KidsAre (fun b => b < Bs) w [k0, k1] cs) (hR : RowIn (fun b => b < Bs) w 4 B [k0, k1].length cs) (hBw : Bs ≤ w.heap.size) :
    Calls Tryz.prog 42 [.pointer (some ⟨b, 0, none⟩), .agg #[.int .i64 20, aQ x, .slice A [l0, l1, l2, l3].length m, .slice B [k0, k1].length n]].toArray w fun e w' => e = .returned (.tuple #[]) ∧ Pr Bs b (treeP (.node 20 x [l0, l1, l2, l3] [k0, k1]) s).1 (treeP (.node 20 x [l0, l1, l2, l3] [k0, k1]) s).2 w' ∧ Prn Bs b w w' := by
  simp only [lsum, kbulk] at hl1 hl2
  have hE := Prn.refl (b := b) hBw
  have hG : s.2.length ≤ s.2.length := Nat.le_refl _
  have hG' : s.1.length ≤ s.1.length := Nat.le_refl _
  obtain ⟨lb, lo, rfl, _, hlb, _⟩ := hL.2 (by simp)
  obtain ⟨kb, ko, rfl, _, hkb, _⟩ := hR.2 (by simp)
  refine rE 216 Tryz.func42 rfl rfl rfl ?_
  intro a hf
  refine rR 2 hf rfl fun a hf => ?_
  obtain ⟨w1, b2, he, hB3, hx4, eb5, lb6⟩ := cC (P := Tryz.prog) (t := 34) (x := (.tmp 1)) hf rfl rfl w 0
  refine rV hf rfl he fun a hf => ?_
  have ge_b2 := Prn.ge_new hE eb5
  have ne_b_b2 : b ≠ b2 := cm hP.lt eb5
  replace hP := hP.chg0 hx4
  replace hE := hE.t0 hx4
  clear eb5 lb6
  refine rR 5 hf rfl fun a hf => rV hf rfl (an hf rfl (by kernel_rfl) hB3 rfl) fun a hf => rR 77 hf rfl fun a hf => rV hf rfl (an hf rfl (by kernel_rfl) hB3 rfl) fun a hf => rV hf rfl (aB (sz := 1) (k := 0) (r := lo) hf Tryz.underlying32 (by kernel_rfl) rfl rfl rfl (by simp) rfl) fun a hf => rV hf rfl (ex_load hf rfl (by kernel_rfl) (ax hL hE (j := 0) rfl)) fun a hf => rC hf rfl rfl (by kernel_rfl) (cD (lead := l0) (tok := [108, 101, 116]) hP (by (try simp only [ac, List.length_append, List.length_cons, List.length_nil]); omega) (by (try simp only [ac, List.length_append, List.length_cons, List.length_nil]); omega) hE.now) ?_
  rintro _ w9 ⟨rfl, hPn, hEn⟩
  refine ⟨_, rfl, fun a hf => ?_⟩
  have hx8 := hEn.chg
  replace hB3 := hB3.chg hx8 (aF hB3 rfl (Ne.symm ne_b_b2))
  replace hE := hE.trans hx8 (fun _ h => .inl h)
  obtain ⟨s7, es7⟩ : ∃ z, z = ac l0 [108, 101, 116] s := ⟨_, rfl⟩
  replace hPn : Pr Bs b (ac l0 [108, 101, 116] s).1 (ac l0 [108, 101, 116] s).2 w9 := hPn
  rw [← es7] at hPn
  have gs7 := bg l0 [108, 101, 116] s
  rw [← es7] at gs7
  obtain ⟨gs7, gs7'⟩ := gs7
  (try simp only [List.length_cons, List.length_nil, lsum] at gs7 gs7')
  replace hG := nlt gs7 (Nat.add_le_add_right hG _)
  replace hG' := nlt gs7' (Nat.add_le_add_right hG' _)
  clear gs7 gs7'
  clear hP; have hP := hPn; clear hPn hEn
  refine rR 3 hf rfl fun a hf => ?_
  have s_lb := ax hL hE (j := 1) rfl
  have s_hB3 := hB3
  refine rD (fun x => x.cell? ⟨b2, 2, none⟩ = w9.cell? ⟨b2, 2, none⟩ ∧ x.cell? ⟨lb, lo + 1, none⟩ = w9.cell? ⟨lb, lo + 1, none⟩ ∧ x.cell? ⟨b2, 1, none⟩ = w9.cell? ⟨b2, 1, none⟩) 8 8 rfl (by kernel_rfl) (by kernel_rfl) ?_
  intro w10 hx11 hsel
  replace hB3 := hB3.c0 hx11
  replace hP := hP.chg0 hx11
  replace hE := hE.t0 hx11
  have hS0 : w10.cell? ⟨b2, 2, none⟩ = w9.cell? ⟨b2, 2, none⟩ ∧ w10.cell? ⟨lb, lo + 1, none⟩ = w9.cell? ⟨lb, lo + 1, none⟩ ∧ w10.cell? ⟨b2, 1, none⟩ = w9.cell? ⟨b2, 1, none⟩ := ⟨(hB3.cell 2).trans (s_hB3.cell 2).symm, ((ax hL hE (j := 1) rfl).trans s_lb.symm), (hB3.cell 1).trans (s_hB3.cell 1).symm⟩
  refine dR [0, 1] hsel (by kernel_rfl) hf rfl rfl (.inl hS0) fun a hf => dL 2 rfl rfl hsel (by kernel_rfl) hf rfl hS0 (fun x hS => ex_load hf rfl (by kernel_rfl) (hS.1.trans ((s_hB3.cell 2).trans rfl))) fun a hf => dV 3 rfl rfl hsel (by kernel_rfl) hf rfl (.inl hS0) (fun x => aB (sz := 1) (k := 1) (r := lo + 1) hf Tryz.underlying32 (by kernel_rfl) rfl rfl rfl (by simp) rfl) fun a hf => dL 4 rfl rfl hsel (by kernel_rfl) hf rfl hS0 (fun x hS => ex_load hf rfl (by kernel_rfl) (hS.2.1.trans s_lb)) fun a hf => dR [5] hsel (by kernel_rfl) hf rfl rfl (.inl hS0) fun a hf => dL 6 rfl rfl hsel (by kernel_rfl) hf rfl hS0 (fun x hS => ex_load hf rfl (by kernel_rfl) (hS.2.2.trans ((s_hB3.cell 1).trans rfl))) fun a hf => mw 7 (by kernel_rfl) rfl hf rfl rfl rfl (by kernel_rfl) (cD (lead := l1) (tok := x) hP (by (try simp only [ac, List.length_append, List.length_cons, List.length_nil]); omega) (by (try simp only [ac, List.length_append, List.length_cons, List.length_nil]); omega) hE.now) ?_
  rintro _ w14 ⟨rfl, hPn, hEn⟩
  refine ⟨_, rfl, fun a hf => ?_⟩
  have hx13 := hEn.chg
  replace hB3 := hB3.chg hx13 (aF hB3 rfl (Ne.symm ne_b_b2))
  replace hE := hE.trans hx13 (fun _ h => .inl h)
  obtain ⟨s12, es12⟩ : ∃ z, z = ac l1 x s7 := ⟨_, rfl⟩
  replace hPn : Pr Bs b (ac l1 x s7).1 (ac l1 x s7).2 w14 := hPn
  rw [← es12] at hPn
  have gs12 := bg l1 x s7
  rw [← es12] at gs12
  obtain ⟨gs12, gs12'⟩ := gs12
  (try simp only [List.length_cons, List.length_nil, lsum] at gs12 gs12')
  replace hG := nlt gs12 (Nat.add_le_add_right hG _)
  replace hG' := nlt gs12' (Nat.add_le_add_right hG' _)
  clear gs12 gs12'
  clear hP; have hP := hPn; clear hPn hEn
  clear hS0
  have hS0 : w14.cell? ⟨b2, 2, none⟩ = w9.cell? ⟨b2, 2, none⟩ ∧ w14.cell? ⟨lb, lo + 1, none⟩ = w9.cell? ⟨lb, lo + 1, none⟩ ∧ w14.cell? ⟨b2, 1, none⟩ = w9.cell? ⟨b2, 1, none⟩ := ⟨(hB3.cell 2).trans (s_hB3.cell 2).symm, ((ax hL hE (j := 1) rfl).trans s_lb.symm), (hB3.cell 1).trans (s_hB3.cell 1).symm⟩
  refine ⟨.inl hS0, ?_⟩
  refine rN (by kernel_rfl) ?_
  clear hS0 hsel
  refine rR 5 hf rfl fun a hf => rV hf rfl (an hf rfl (by kernel_rfl) hB3 rfl) fun a hf => rV hf rfl (aB (sz := 1) (k := 2) (r := lo + 2) hf Tryz.underlying32 (by kernel_rfl) rfl rfl rfl (by simp) rfl) fun a hf => rV hf rfl (ex_load hf rfl (by kernel_rfl) (ax hL hE (j := 2) rfl)) fun a hf => rC hf rfl rfl (by kernel_rfl) (cD (lead := l2) (tok := [61]) hP (by (try simp only [ac, List.length_append, List.length_cons, List.length_nil]); omega) (by (try simp only [ac, List.length_append, List.length_cons, List.length_nil]); omega) hE.now) ?_
  rintro _ w17 ⟨rfl, hPn, hEn⟩
  refine ⟨_, rfl, fun a hf => ?_⟩
  have hx16 := hEn.chg
  replace hB3 := hB3.chg hx16 (aF hB3 rfl (Ne.symm ne_b_b2))
  replace hE := hE.trans hx16 (fun _ h => .inl h)
  obtain ⟨s15, es15⟩ : ∃ z, z = ac l2 [61] s12 := ⟨_, rfl⟩
  replace hPn : Pr Bs b (ac l2 [61] s12).1 (ac l2 [61] s12).2 w17 := hPn
  rw [← es15] at hPn
  have gs15 := bg l2 [61] s12
  rw [← es15] at gs15
  obtain ⟨gs15, gs15'⟩ := gs15
  (try simp only [List.length_cons, List.length_nil, lsum] at gs15 gs15')
  replace hG := nlt gs15 (Nat.add_le_add_right hG _)
  replace hG' := nlt gs15' (Nat.add_le_add_right hG' _)
  clear gs15 gs15'
  clear hP; have hP := hPn; clear hPn hEn
  refine rR 6 hf rfl fun a hf => rV hf rfl (an hf rfl (by kernel_rfl) hB3 rfl) fun a hf => rV hf rfl (aB (sz := 4) (k := 0) (r := ko) hf Tryz.underlying25 (by kernel_rfl) rfl rfl rfl (by simp) rfl) fun a hf => ?_
  obtain ⟨d0, d1, d2, d3, hT, hK4⟩ := dp hK hR hE (i := 0) (t := k0) rfl
  have on_T := hT.one
  refine rV hf rfl (ex_loadN (cs := [d0, d1, d2, d3]) (m := 4) hf rfl (by kernel_rfl) rfl hK4) fun a hf => rC hf rfl rfl (by kernel_rfl) (ih k0 _ Bs b s15 d0 d1 d2 d3 (hks _ (by simp)).1 (hks _ (by simp)).2.1 (hks _ (by simp)).2.2 (by (try simp only [ac, List.length_append, List.length_cons, List.length_nil]); omega) (by (try simp only [ac, List.length_append, List.length_cons, List.length_nil]); omega) hP hT hE.now) ?_
  rintro _ w20 ⟨rfl, hPn, hEn⟩
  refine ⟨_, rfl, fun a hf => ?_⟩
  have hx19 := hEn.chg
  replace hB3 := hB3.chg hx19 (aF hB3 rfl (Ne.symm ne_b_b2))
  replace hE := hE.trans hx19 (fun _ h => .inl h)
  obtain ⟨s18, es18⟩ : ∃ z, z = treeP k0 s15 := ⟨_, rfl⟩
  replace hPn : Pr Bs b (treeP k0 s15).1 (treeP k0 s15).2 w20 := hPn
  rw [← es18] at hPn
  have gs18 := dd (t := k0) (hks _ (by simp)).2.2 s15
  rw [← es18] at gs18
  obtain ⟨gs18, gs18'⟩ := gs18
  (try simp only [List.length_cons, List.length_nil, lsum] at gs18 gs18')
  replace hG := nlt gs18 (Nat.add_le_add_right hG _)
  replace hG' := nlt gs18' (Nat.add_le_add_right hG' _)
  clear gs18 gs18'
  clear hP; have hP := hPn; clear hPn hEn
  refine rR 6 hf rfl fun a hf => rV hf rfl (an hf rfl (by kernel_rfl) hB3 rfl) fun a hf => rV hf rfl (aB (sz := 1) (k := 3) (r := lo + 3) hf Tryz.underlying32 (by kernel_rfl) rfl rfl rfl (by simp) rfl) fun a hf => rV hf rfl (ex_load hf rfl (by kernel_rfl) (ax hL hE (j := 3) rfl)) fun a hf => rC hf rfl rfl (by kernel_rfl) (cD (lead := l3) (tok := [105, 110]) hP (by (try simp only [ac, List.length_append, List.length_cons, List.length_nil]); omega) (by (try simp only [ac, List.length_append, List.length_cons, List.length_nil]); omega) hE.now) ?_
  rintro _ w23 ⟨rfl, hPn, hEn⟩
  refine ⟨_, rfl, fun a hf => ?_⟩
  have hx22 := hEn.chg
  replace hB3 := hB3.chg hx22 (aF hB3 rfl (Ne.symm ne_b_b2))
  replace hE := hE.trans hx22 (fun _ h => .inl h)
  obtain ⟨s21, es21⟩ : ∃ z, z = ac l3 [105, 110] s18 := ⟨_, rfl⟩
  replace hPn : Pr Bs b (ac l3 [105, 110] s18).1 (ac l3 [105, 110] s18).2 w23 := hPn
  rw [← es21] at hPn
  have gs21 := bg l3 [105, 110] s18
  rw [← es21] at gs21
  obtain ⟨gs21, gs21'⟩ := gs21
  (try simp only [List.length_cons, List.length_nil, lsum] at gs21 gs21')
  replace hG := nlt gs21 (Nat.add_le_add_right hG _)
  replace hG' := nlt gs21' (Nat.add_le_add_right hG' _)
  clear gs21 gs21'
  clear hP; have hP := hPn; clear hPn hEn
  refine rR 5 hf rfl fun a hf => rV hf rfl (an hf rfl (by kernel_rfl) hB3 rfl) fun a hf => rV hf rfl (aB (sz := 4) (k := 1) (r := ko + 4) hf Tryz.underlying25 (by kernel_rfl) rfl rfl rfl (by simp) rfl) fun a hf => ?_
  obtain ⟨d0, d1, d2, d3, hT, hK4⟩ := dp hK hR hE (i := 1) (t := k1) rfl
  have on_T := hT.one
  refine rV hf rfl (ex_loadN (cs := [d0, d1, d2, d3]) (m := 4) hf rfl (by kernel_rfl) rfl hK4) fun a hf => rC hf rfl rfl (by kernel_rfl) (ih k1 _ Bs b s21 d0 d1 d2 d3 (hks _ (by simp)).1 (hks _ (by simp)).2.1 (hks _ (by simp)).2.2 (by (try simp only [ac, List.length_append, List.length_cons, List.length_nil]); omega) (by (try simp only [ac, List.length_append, List.length_cons, List.length_nil]); omega) hP hT hE.now) ?_
  rintro _ w26 ⟨rfl, hPn, hEn⟩
  refine ⟨_, rfl, fun a hf => ?_⟩
  have hx25 := hEn.chg
  replace hB3 := hB3.chg hx25 (aF hB3 rfl (Ne.symm ne_b_b2))
  replace hE := hE.trans hx25 (fun _ h => .inl h)
  obtain ⟨s24, es24⟩ : ∃ z, z = treeP k1 s21 := ⟨_, rfl⟩
  replace hPn : Pr Bs b (treeP k1 s21).1 (treeP k1 s21).2 w26 := hPn
  rw [← es24] at hPn
  have gs24 := dd (t := k1) (hks _ (by simp)).2.2 s21
  rw [← es24] at gs24
  obtain ⟨gs24, gs24'⟩ := gs24
  (try simp only [List.length_cons, List.length_nil, lsum] at gs24 gs24')
  replace hG := nlt gs24 (Nat.add_le_add_right hG _)
  replace hG' := nlt gs24' (Nat.add_le_add_right hG' _)
  clear gs24 gs24'
  clear hP; have hP := hPn; clear hPn hEn
  refine rR 2 hf rfl fun a hf => ?_
  have eq : treeP (.node 20 x [l0, l1, l2, l3] [k0, k1]) s = s24 := by subst es24; subst es21; subst es18; subst es15; subst es12; subst es7; rfl
  rw [eq]
  exact rF (rs := []) hf rfl rfl ⟨rfl, hP, hE⟩
theorem t21 {N : Nat} (ih : cF N) {w : World} {Bs b : Nat} {s : WS} {x : List UInt8} {l0 : List UInt8} {k0 k1 : Tree} {cs : List Value} {A B : Option Addr} {m n : Nat} (hks : ∀ t, t ∈ [k0, k1] → tsize t ≤ N ∧ shapedT t = true ∧ leadedT t = true)
    (hl1 : s.2.length + 100 * (x.length + lsum [l0] + kbulk [k0, k1] + 1) ≤ 1000000000000) (hl2 : s.1.length + 100 * (x.length + lsum [l0] + kbulk [k0, k1] + 1) ≤ 1000000000000) (hP : Pr Bs b s.1 s.2 w) (hL : RowIn (fun b => b < Bs) w 1 A [l0].length ([l0].map aQ)) (hn : [k0, k1].length ≤ n) (hn2 : n ≤ maxLen) (hK : KidsAre (fun b => b < Bs) w [k0, k1] cs) (hR : RowIn (fun b => b < Bs) w 4 B [k0, k1].length cs) (hBw : Bs ≤ w.heap.size) :
    Calls Tryz.prog 42 [.pointer (some ⟨b, 0, none⟩), .agg #[.int .i64 21, aQ x, .slice A [l0].length m, .slice B [k0, k1].length n]].toArray w fun e w' => e = .returned (.tuple #[]) ∧ Pr Bs b (treeP (.node 21 x [l0] [k0, k1]) s).1 (treeP (.node 21 x [l0] [k0, k1]) s).2 w' ∧ Prn Bs b w w' := by
  simp only [lsum, kbulk] at hl1 hl2
  have hE := Prn.refl (b := b) hBw
  have hG : s.2.length ≤ s.2.length := Nat.le_refl _
  have hG' : s.1.length ≤ s.1.length := Nat.le_refl _
  obtain ⟨lb, lo, rfl, _, hlb, _⟩ := hL.2 (by simp)
  obtain ⟨kb, ko, rfl, _, hkb, _⟩ := hR.2 (by simp)
  refine rE 216 Tryz.func42 rfl rfl rfl ?_
  intro a hf
  refine rR 2 hf rfl fun a hf => ?_
  obtain ⟨w1, b2, he, hB3, hx4, eb5, lb6⟩ := cC (P := Tryz.prog) (t := 34) (x := (.tmp 1)) hf rfl rfl w 0
  refine rV hf rfl he fun a hf => ?_
  have ge_b2 := Prn.ge_new hE eb5
  have ne_b_b2 : b ≠ b2 := cm hP.lt eb5
  replace hP := hP.chg0 hx4
  replace hE := hE.t0 hx4
  clear eb5 lb6
  refine rR 5 hf rfl fun a hf => rV hf rfl (an hf rfl (by kernel_rfl) hB3 rfl) fun a hf => rR 84 hf rfl fun a hf => rV hf rfl (an hf rfl (by kernel_rfl) hB3 rfl) fun a hf => rV hf rfl (aB (sz := 4) (k := 0) (r := ko) hf Tryz.underlying25 (by kernel_rfl) rfl rfl rfl (by simp) rfl) fun a hf => ?_
  obtain ⟨d0, d1, d2, d3, hT, hK4⟩ := dp hK hR hE (i := 0) (t := k0) rfl
  have on_T := hT.one
  refine rV hf rfl (ex_loadN (cs := [d0, d1, d2, d3]) (m := 4) hf rfl (by kernel_rfl) rfl hK4) fun a hf => rC hf rfl rfl (by kernel_rfl) (ih k0 _ Bs b s d0 d1 d2 d3 (hks _ (by simp)).1 (hks _ (by simp)).2.1 (hks _ (by simp)).2.2 (by (try simp only [ac, List.length_append, List.length_cons, List.length_nil]); omega) (by (try simp only [ac, List.length_append, List.length_cons, List.length_nil]); omega) hP hT hE.now) ?_
  rintro _ w9 ⟨rfl, hPn, hEn⟩
  refine ⟨_, rfl, fun a hf => ?_⟩
  have hx8 := hEn.chg
  replace hB3 := hB3.chg hx8 (aF hB3 rfl (Ne.symm ne_b_b2))
  replace hE := hE.trans hx8 (fun _ h => .inl h)
  obtain ⟨s7, es7⟩ : ∃ z, z = treeP k0 s := ⟨_, rfl⟩
  replace hPn : Pr Bs b (treeP k0 s).1 (treeP k0 s).2 w9 := hPn
  rw [← es7] at hPn
  have gs7 := dd (t := k0) (hks _ (by simp)).2.2 s
  rw [← es7] at gs7
  obtain ⟨gs7, gs7'⟩ := gs7
  (try simp only [List.length_cons, List.length_nil, lsum] at gs7 gs7')
  replace hG := nlt gs7 (Nat.add_le_add_right hG _)
  replace hG' := nlt gs7' (Nat.add_le_add_right hG' _)
  clear gs7 gs7'
  clear hP; have hP := hPn; clear hPn hEn
  refine rR 3 hf rfl fun a hf => ?_
  have s_lb := ax hL hE (j := 0) rfl
  have s_hB3 := hB3
  refine rD (fun x => x.cell? ⟨b2, 2, none⟩ = w9.cell? ⟨b2, 2, none⟩ ∧ x.cell? ⟨lb, lo, none⟩ = w9.cell? ⟨lb, lo, none⟩ ∧ x.cell? ⟨b2, 1, none⟩ = w9.cell? ⟨b2, 1, none⟩) 8 8 rfl (by kernel_rfl) (by kernel_rfl) ?_
  intro w10 hx11 hsel
  replace hB3 := hB3.c0 hx11
  replace hP := hP.chg0 hx11
  replace hE := hE.t0 hx11
  have hS0 : w10.cell? ⟨b2, 2, none⟩ = w9.cell? ⟨b2, 2, none⟩ ∧ w10.cell? ⟨lb, lo, none⟩ = w9.cell? ⟨lb, lo, none⟩ ∧ w10.cell? ⟨b2, 1, none⟩ = w9.cell? ⟨b2, 1, none⟩ := ⟨(hB3.cell 2).trans (s_hB3.cell 2).symm, ((ax hL hE (j := 0) rfl).trans s_lb.symm), (hB3.cell 1).trans (s_hB3.cell 1).symm⟩
  refine dR [0, 1] hsel (by kernel_rfl) hf rfl rfl (.inl hS0) fun a hf => dL 2 rfl rfl hsel (by kernel_rfl) hf rfl hS0 (fun x hS => ex_load hf rfl (by kernel_rfl) (hS.1.trans ((s_hB3.cell 2).trans rfl))) fun a hf => dV 3 rfl rfl hsel (by kernel_rfl) hf rfl (.inl hS0) (fun x => aB (sz := 1) (k := 0) (r := lo) hf Tryz.underlying32 (by kernel_rfl) rfl rfl rfl (by simp) rfl) fun a hf => dL 4 rfl rfl hsel (by kernel_rfl) hf rfl hS0 (fun x hS => ex_load hf rfl (by kernel_rfl) (hS.2.1.trans s_lb)) fun a hf => dR [5] hsel (by kernel_rfl) hf rfl rfl (.inl hS0) fun a hf => dL 6 rfl rfl hsel (by kernel_rfl) hf rfl hS0 (fun x hS => ex_load hf rfl (by kernel_rfl) (hS.2.2.trans ((s_hB3.cell 1).trans rfl))) fun a hf => mw 7 (by kernel_rfl) rfl hf rfl rfl rfl (by kernel_rfl) (cD (lead := l0) (tok := x) hP (by (try simp only [ac, List.length_append, List.length_cons, List.length_nil]); omega) (by (try simp only [ac, List.length_append, List.length_cons, List.length_nil]); omega) hE.now) ?_
  rintro _ w14 ⟨rfl, hPn, hEn⟩
  refine ⟨_, rfl, fun a hf => ?_⟩
  have hx13 := hEn.chg
  replace hB3 := hB3.chg hx13 (aF hB3 rfl (Ne.symm ne_b_b2))
  replace hE := hE.trans hx13 (fun _ h => .inl h)
  obtain ⟨s12, es12⟩ : ∃ z, z = ac l0 x s7 := ⟨_, rfl⟩
  replace hPn : Pr Bs b (ac l0 x s7).1 (ac l0 x s7).2 w14 := hPn
  rw [← es12] at hPn
  have gs12 := bg l0 x s7
  rw [← es12] at gs12
  obtain ⟨gs12, gs12'⟩ := gs12
  (try simp only [List.length_cons, List.length_nil, lsum] at gs12 gs12')
  replace hG := nlt gs12 (Nat.add_le_add_right hG _)
  replace hG' := nlt gs12' (Nat.add_le_add_right hG' _)
  clear gs12 gs12'
  clear hP; have hP := hPn; clear hPn hEn
  clear hS0
  have hS0 : w14.cell? ⟨b2, 2, none⟩ = w9.cell? ⟨b2, 2, none⟩ ∧ w14.cell? ⟨lb, lo, none⟩ = w9.cell? ⟨lb, lo, none⟩ ∧ w14.cell? ⟨b2, 1, none⟩ = w9.cell? ⟨b2, 1, none⟩ := ⟨(hB3.cell 2).trans (s_hB3.cell 2).symm, ((ax hL hE (j := 0) rfl).trans s_lb.symm), (hB3.cell 1).trans (s_hB3.cell 1).symm⟩
  refine ⟨.inl hS0, ?_⟩
  refine rN (by kernel_rfl) ?_
  clear hS0 hsel
  refine rR 4 hf rfl fun a hf => rV hf rfl (an hf rfl (by kernel_rfl) hB3 rfl) fun a hf => rV hf rfl (aB (sz := 4) (k := 1) (r := ko + 4) hf Tryz.underlying25 (by kernel_rfl) rfl rfl rfl (by simp) rfl) fun a hf => ?_
  obtain ⟨d0, d1, d2, d3, hT, hK4⟩ := dp hK hR hE (i := 1) (t := k1) rfl
  have on_T := hT.one
  refine rV hf rfl (ex_loadN (cs := [d0, d1, d2, d3]) (m := 4) hf rfl (by kernel_rfl) rfl hK4) fun a hf => rC hf rfl rfl (by kernel_rfl) (ih k1 _ Bs b s12 d0 d1 d2 d3 (hks _ (by simp)).1 (hks _ (by simp)).2.1 (hks _ (by simp)).2.2 (by (try simp only [ac, List.length_append, List.length_cons, List.length_nil]); omega) (by (try simp only [ac, List.length_append, List.length_cons, List.length_nil]); omega) hP hT hE.now) ?_
  rintro _ w17 ⟨rfl, hPn, hEn⟩
  refine ⟨_, rfl, fun a hf => ?_⟩
  have hx16 := hEn.chg
  replace hB3 := hB3.chg hx16 (aF hB3 rfl (Ne.symm ne_b_b2))
  replace hE := hE.trans hx16 (fun _ h => .inl h)
  obtain ⟨s15, es15⟩ : ∃ z, z = treeP k1 s12 := ⟨_, rfl⟩
  replace hPn : Pr Bs b (treeP k1 s12).1 (treeP k1 s12).2 w17 := hPn
  rw [← es15] at hPn
  have gs15 := dd (t := k1) (hks _ (by simp)).2.2 s12
  rw [← es15] at gs15
  obtain ⟨gs15, gs15'⟩ := gs15
  (try simp only [List.length_cons, List.length_nil, lsum] at gs15 gs15')
  replace hG := nlt gs15 (Nat.add_le_add_right hG _)
  replace hG' := nlt gs15' (Nat.add_le_add_right hG' _)
  clear gs15 gs15'
  clear hP; have hP := hPn; clear hPn hEn
  refine rR 2 hf rfl fun a hf => ?_
  have eq : treeP (.node 21 x [l0] [k0, k1]) s = s15 := by subst es15; subst es12; subst es7; rfl
  rw [eq]
  exact rF (rs := []) hf rfl rfl ⟨rfl, hP, hE⟩
theorem t22 {N : Nat} (ih : cF N) {w : World} {Bs b : Nat} {s : WS} {x : List UInt8} {l0 l1 : List UInt8} {k0 : Tree} {cs : List Value} {A B : Option Addr} {m n : Nat} (hks : ∀ t, t ∈ [k0] → tsize t ≤ N ∧ shapedT t = true ∧ leadedT t = true)
    (hl1 : s.2.length + 100 * (x.length + lsum [l0, l1] + kbulk [k0] + 1) ≤ 1000000000000) (hl2 : s.1.length + 100 * (x.length + lsum [l0, l1] + kbulk [k0] + 1) ≤ 1000000000000) (hP : Pr Bs b s.1 s.2 w) (hL : RowIn (fun b => b < Bs) w 1 A [l0, l1].length ([l0, l1].map aQ)) (hn : [k0].length ≤ n) (hn2 : n ≤ maxLen) (hK : KidsAre (fun b => b < Bs) w [k0] cs) (hR : RowIn (fun b => b < Bs) w 4 B [k0].length cs) (hBw : Bs ≤ w.heap.size) :
    Calls Tryz.prog 42 [.pointer (some ⟨b, 0, none⟩), .agg #[.int .i64 22, aQ x, .slice A [l0, l1].length m, .slice B [k0].length n]].toArray w fun e w' => e = .returned (.tuple #[]) ∧ Pr Bs b (treeP (.node 22 x [l0, l1] [k0]) s).1 (treeP (.node 22 x [l0, l1] [k0]) s).2 w' ∧ Prn Bs b w w' := by
  simp only [lsum, kbulk] at hl1 hl2
  have hE := Prn.refl (b := b) hBw
  have hG : s.2.length ≤ s.2.length := Nat.le_refl _
  have hG' : s.1.length ≤ s.1.length := Nat.le_refl _
  obtain ⟨lb, lo, rfl, _, hlb, _⟩ := hL.2 (by simp)
  obtain ⟨kb, ko, rfl, _, hkb, _⟩ := hR.2 (by simp)
  refine rE 216 Tryz.func42 rfl rfl rfl ?_
  intro a hf
  refine rR 2 hf rfl fun a hf => ?_
  obtain ⟨w1, b2, he, hB3, hx4, eb5, lb6⟩ := cC (P := Tryz.prog) (t := 34) (x := (.tmp 1)) hf rfl rfl w 0
  refine rV hf rfl he fun a hf => ?_
  have ge_b2 := Prn.ge_new hE eb5
  have ne_b_b2 : b ≠ b2 := cm hP.lt eb5
  replace hP := hP.chg0 hx4
  replace hE := hE.t0 hx4
  clear eb5 lb6
  refine rR 5 hf rfl fun a hf => rV hf rfl (an hf rfl (by kernel_rfl) hB3 rfl) fun a hf => rR 91 hf rfl fun a hf => rV hf rfl (an hf rfl (by kernel_rfl) hB3 rfl) fun a hf => rV hf rfl (aB (sz := 1) (k := 0) (r := lo) hf Tryz.underlying32 (by kernel_rfl) rfl rfl rfl (by simp) rfl) fun a hf => rV hf rfl (ex_load hf rfl (by kernel_rfl) (ax hL hE (j := 0) rfl)) fun a hf => rC hf rfl rfl (by kernel_rfl) (cD (lead := l0) (tok := [40]) hP (by (try simp only [ac, List.length_append, List.length_cons, List.length_nil]); omega) (by (try simp only [ac, List.length_append, List.length_cons, List.length_nil]); omega) hE.now) ?_
  rintro _ w9 ⟨rfl, hPn, hEn⟩
  refine ⟨_, rfl, fun a hf => ?_⟩
  have hx8 := hEn.chg
  replace hB3 := hB3.chg hx8 (aF hB3 rfl (Ne.symm ne_b_b2))
  replace hE := hE.trans hx8 (fun _ h => .inl h)
  obtain ⟨s7, es7⟩ : ∃ z, z = ac l0 [40] s := ⟨_, rfl⟩
  replace hPn : Pr Bs b (ac l0 [40] s).1 (ac l0 [40] s).2 w9 := hPn
  rw [← es7] at hPn
  have gs7 := bg l0 [40] s
  rw [← es7] at gs7
  obtain ⟨gs7, gs7'⟩ := gs7
  (try simp only [List.length_cons, List.length_nil, lsum] at gs7 gs7')
  replace hG := nlt gs7 (Nat.add_le_add_right hG _)
  replace hG' := nlt gs7' (Nat.add_le_add_right hG' _)
  clear gs7 gs7'
  clear hP; have hP := hPn; clear hPn hEn
  refine rR 6 hf rfl fun a hf => rV hf rfl (an hf rfl (by kernel_rfl) hB3 rfl) fun a hf => rV hf rfl (aB (sz := 4) (k := 0) (r := ko) hf Tryz.underlying25 (by kernel_rfl) rfl rfl rfl (by simp) rfl) fun a hf => ?_
  obtain ⟨d0, d1, d2, d3, hT, hK4⟩ := dp hK hR hE (i := 0) (t := k0) rfl
  have on_T := hT.one
  refine rV hf rfl (ex_loadN (cs := [d0, d1, d2, d3]) (m := 4) hf rfl (by kernel_rfl) rfl hK4) fun a hf => rC hf rfl rfl (by kernel_rfl) (ih k0 _ Bs b s7 d0 d1 d2 d3 (hks _ (by simp)).1 (hks _ (by simp)).2.1 (hks _ (by simp)).2.2 (by (try simp only [ac, List.length_append, List.length_cons, List.length_nil]); omega) (by (try simp only [ac, List.length_append, List.length_cons, List.length_nil]); omega) hP hT hE.now) ?_
  rintro _ w12 ⟨rfl, hPn, hEn⟩
  refine ⟨_, rfl, fun a hf => ?_⟩
  have hx11 := hEn.chg
  replace hB3 := hB3.chg hx11 (aF hB3 rfl (Ne.symm ne_b_b2))
  replace hE := hE.trans hx11 (fun _ h => .inl h)
  obtain ⟨s10, es10⟩ : ∃ z, z = treeP k0 s7 := ⟨_, rfl⟩
  replace hPn : Pr Bs b (treeP k0 s7).1 (treeP k0 s7).2 w12 := hPn
  rw [← es10] at hPn
  have gs10 := dd (t := k0) (hks _ (by simp)).2.2 s7
  rw [← es10] at gs10
  obtain ⟨gs10, gs10'⟩ := gs10
  (try simp only [List.length_cons, List.length_nil, lsum] at gs10 gs10')
  replace hG := nlt gs10 (Nat.add_le_add_right hG _)
  replace hG' := nlt gs10' (Nat.add_le_add_right hG' _)
  clear gs10 gs10'
  clear hP; have hP := hPn; clear hPn hEn
  refine rR 5 hf rfl fun a hf => rV hf rfl (an hf rfl (by kernel_rfl) hB3 rfl) fun a hf => rV hf rfl (aB (sz := 1) (k := 1) (r := lo + 1) hf Tryz.underlying32 (by kernel_rfl) rfl rfl rfl (by simp) rfl) fun a hf => rV hf rfl (ex_load hf rfl (by kernel_rfl) (ax hL hE (j := 1) rfl)) fun a hf => rC hf rfl rfl (by kernel_rfl) (cD (lead := l1) (tok := [41]) hP (by (try simp only [ac, List.length_append, List.length_cons, List.length_nil]); omega) (by (try simp only [ac, List.length_append, List.length_cons, List.length_nil]); omega) hE.now) ?_
  rintro _ w15 ⟨rfl, hPn, hEn⟩
  refine ⟨_, rfl, fun a hf => ?_⟩
  have hx14 := hEn.chg
  replace hB3 := hB3.chg hx14 (aF hB3 rfl (Ne.symm ne_b_b2))
  replace hE := hE.trans hx14 (fun _ h => .inl h)
  obtain ⟨s13, es13⟩ : ∃ z, z = ac l1 [41] s10 := ⟨_, rfl⟩
  replace hPn : Pr Bs b (ac l1 [41] s10).1 (ac l1 [41] s10).2 w15 := hPn
  rw [← es13] at hPn
  have gs13 := bg l1 [41] s10
  rw [← es13] at gs13
  obtain ⟨gs13, gs13'⟩ := gs13
  (try simp only [List.length_cons, List.length_nil, lsum] at gs13 gs13')
  replace hG := nlt gs13 (Nat.add_le_add_right hG _)
  replace hG' := nlt gs13' (Nat.add_le_add_right hG' _)
  clear gs13 gs13'
  clear hP; have hP := hPn; clear hPn hEn
  refine rR 2 hf rfl fun a hf => ?_
  have eq : treeP (.node 22 x [l0, l1] [k0]) s = s13 := by subst es13; subst es10; subst es7; rfl
  rw [eq]
  exact rF (rs := []) hf rfl rfl ⟨rfl, hP, hE⟩
theorem d3 {N : Nat} (ih : cF N) {w : World} {Bs b : Nat} {s : WS} {x : List UInt8} {l0 l1 l2 : List UInt8} {k0 : Tree} {cs : List Value} {A B : Option Addr} {m n : Nat} (hks : ∀ t, t ∈ [k0] → tsize t ≤ N ∧ shapedT t = true ∧ leadedT t = true)
    (hl1 : s.2.length + 100 * (x.length + lsum [l0, l1, l2] + kbulk [k0] + 1) ≤ 1000000000000) (hl2 : s.1.length + 100 * (x.length + lsum [l0, l1, l2] + kbulk [k0] + 1) ≤ 1000000000000) (hP : Pr Bs b s.1 s.2 w) (hL : RowIn (fun b => b < Bs) w 1 A [l0, l1, l2].length ([l0, l1, l2].map aQ)) (hn : [k0].length ≤ n) (hn2 : n ≤ maxLen) (hK : KidsAre (fun b => b < Bs) w [k0] cs) (hR : RowIn (fun b => b < Bs) w 4 B [k0].length cs) (hBw : Bs ≤ w.heap.size) :
    Calls Tryz.prog 68 [.pointer (some ⟨b, 0, none⟩), .agg #[.int .i64 3, aQ x, .slice A [l0, l1, l2].length m, .slice B [k0].length n]].toArray w fun e w' => e = .returned (.tuple #[]) ∧ Pr Bs b (treeP (.node 3 x [l0, l1, l2] [k0]) s).1 (treeP (.node 3 x [l0, l1, l2] [k0]) s).2 w' ∧ Prn Bs b w w' := by
  simp only [lsum, kbulk] at hl1 hl2
  have hE := Prn.refl (b := b) hBw
  have hG : s.2.length ≤ s.2.length := Nat.le_refl _
  have hG' : s.1.length ≤ s.1.length := Nat.le_refl _
  obtain ⟨lb, lo, rfl, _, hlb, _⟩ := hL.2 (by simp)
  obtain ⟨kb, ko, rfl, _, hkb, _⟩ := hR.2 (by simp)
  refine rE 161 Tryz.func68 rfl rfl rfl ?_
  intro a hf
  refine rR 2 hf rfl fun a hf => ?_
  obtain ⟨w1, b2, he, hB3, hx4, eb5, lb6⟩ := cC (P := Tryz.prog) (t := 34) (x := (.tmp 1)) hf rfl rfl w 0
  refine rV hf rfl he fun a hf => ?_
  have ge_b2 := Prn.ge_new hE eb5
  have ne_b_b2 : b ≠ b2 := cm hP.lt eb5
  replace hP := hP.chg0 hx4
  replace hE := hE.t0 hx4
  clear eb5 lb6
  refine rR 5 hf rfl fun a hf => rV hf rfl (an hf rfl (by kernel_rfl) hB3 rfl) fun a hf => rR 28 hf rfl fun a hf => rV hf rfl (an hf rfl (by kernel_rfl) hB3 rfl) fun a hf => rV hf rfl (aB (sz := 1) (k := 0) (r := lo) hf Tryz.underlying32 (by kernel_rfl) rfl rfl rfl (by simp) rfl) fun a hf => rV hf rfl (ex_load hf rfl (by kernel_rfl) (ax hL hE (j := 0) rfl)) fun a hf => rC hf rfl rfl (by kernel_rfl) (cD (lead := l0) (tok := [116, 121, 112, 101]) hP (by (try simp only [ac, List.length_append, List.length_cons, List.length_nil]); omega) (by (try simp only [ac, List.length_append, List.length_cons, List.length_nil]); omega) hE.now) ?_
  rintro _ w9 ⟨rfl, hPn, hEn⟩
  refine ⟨_, rfl, fun a hf => ?_⟩
  have hx8 := hEn.chg
  replace hB3 := hB3.chg hx8 (aF hB3 rfl (Ne.symm ne_b_b2))
  replace hE := hE.trans hx8 (fun _ h => .inl h)
  obtain ⟨s7, es7⟩ : ∃ z, z = ac l0 [116, 121, 112, 101] s := ⟨_, rfl⟩
  replace hPn : Pr Bs b (ac l0 [116, 121, 112, 101] s).1 (ac l0 [116, 121, 112, 101] s).2 w9 := hPn
  rw [← es7] at hPn
  have gs7 := bg l0 [116, 121, 112, 101] s
  rw [← es7] at gs7
  obtain ⟨gs7, gs7'⟩ := gs7
  (try simp only [List.length_cons, List.length_nil, lsum] at gs7 gs7')
  replace hG := nlt gs7 (Nat.add_le_add_right hG _)
  replace hG' := nlt gs7' (Nat.add_le_add_right hG' _)
  clear gs7 gs7'
  clear hP; have hP := hPn; clear hPn hEn
  refine rR 3 hf rfl fun a hf => ?_
  have s_lb := ax hL hE (j := 1) rfl
  have s_hB3 := hB3
  refine rD (fun x => x.cell? ⟨b2, 2, none⟩ = w9.cell? ⟨b2, 2, none⟩ ∧ x.cell? ⟨lb, lo + 1, none⟩ = w9.cell? ⟨lb, lo + 1, none⟩ ∧ x.cell? ⟨b2, 1, none⟩ = w9.cell? ⟨b2, 1, none⟩) 8 8 rfl (by kernel_rfl) (by kernel_rfl) ?_
  intro w10 hx11 hsel
  replace hB3 := hB3.c0 hx11
  replace hP := hP.chg0 hx11
  replace hE := hE.t0 hx11
  have hS0 : w10.cell? ⟨b2, 2, none⟩ = w9.cell? ⟨b2, 2, none⟩ ∧ w10.cell? ⟨lb, lo + 1, none⟩ = w9.cell? ⟨lb, lo + 1, none⟩ ∧ w10.cell? ⟨b2, 1, none⟩ = w9.cell? ⟨b2, 1, none⟩ := ⟨(hB3.cell 2).trans (s_hB3.cell 2).symm, ((ax hL hE (j := 1) rfl).trans s_lb.symm), (hB3.cell 1).trans (s_hB3.cell 1).symm⟩
  refine dR [0, 1] hsel (by kernel_rfl) hf rfl rfl (.inl hS0) fun a hf => dL 2 rfl rfl hsel (by kernel_rfl) hf rfl hS0 (fun x hS => ex_load hf rfl (by kernel_rfl) (hS.1.trans ((s_hB3.cell 2).trans rfl))) fun a hf => dV 3 rfl rfl hsel (by kernel_rfl) hf rfl (.inl hS0) (fun x => aB (sz := 1) (k := 1) (r := lo + 1) hf Tryz.underlying32 (by kernel_rfl) rfl rfl rfl (by simp) rfl) fun a hf => dL 4 rfl rfl hsel (by kernel_rfl) hf rfl hS0 (fun x hS => ex_load hf rfl (by kernel_rfl) (hS.2.1.trans s_lb)) fun a hf => dR [5] hsel (by kernel_rfl) hf rfl rfl (.inl hS0) fun a hf => dL 6 rfl rfl hsel (by kernel_rfl) hf rfl hS0 (fun x hS => ex_load hf rfl (by kernel_rfl) (hS.2.2.trans ((s_hB3.cell 1).trans rfl))) fun a hf => mw 7 (by kernel_rfl) rfl hf rfl rfl rfl (by kernel_rfl) (cD (lead := l1) (tok := x) hP (by (try simp only [ac, List.length_append, List.length_cons, List.length_nil]); omega) (by (try simp only [ac, List.length_append, List.length_cons, List.length_nil]); omega) hE.now) ?_
  rintro _ w14 ⟨rfl, hPn, hEn⟩
  refine ⟨_, rfl, fun a hf => ?_⟩
  have hx13 := hEn.chg
  replace hB3 := hB3.chg hx13 (aF hB3 rfl (Ne.symm ne_b_b2))
  replace hE := hE.trans hx13 (fun _ h => .inl h)
  obtain ⟨s12, es12⟩ : ∃ z, z = ac l1 x s7 := ⟨_, rfl⟩
  replace hPn : Pr Bs b (ac l1 x s7).1 (ac l1 x s7).2 w14 := hPn
  rw [← es12] at hPn
  have gs12 := bg l1 x s7
  rw [← es12] at gs12
  obtain ⟨gs12, gs12'⟩ := gs12
  (try simp only [List.length_cons, List.length_nil, lsum] at gs12 gs12')
  replace hG := nlt gs12 (Nat.add_le_add_right hG _)
  replace hG' := nlt gs12' (Nat.add_le_add_right hG' _)
  clear gs12 gs12'
  clear hP; have hP := hPn; clear hPn hEn
  clear hS0
  have hS0 : w14.cell? ⟨b2, 2, none⟩ = w9.cell? ⟨b2, 2, none⟩ ∧ w14.cell? ⟨lb, lo + 1, none⟩ = w9.cell? ⟨lb, lo + 1, none⟩ ∧ w14.cell? ⟨b2, 1, none⟩ = w9.cell? ⟨b2, 1, none⟩ := ⟨(hB3.cell 2).trans (s_hB3.cell 2).symm, ((ax hL hE (j := 1) rfl).trans s_lb.symm), (hB3.cell 1).trans (s_hB3.cell 1).symm⟩
  refine ⟨.inl hS0, ?_⟩
  refine rN (by kernel_rfl) ?_
  clear hS0 hsel
  refine rR 5 hf rfl fun a hf => rV hf rfl (an hf rfl (by kernel_rfl) hB3 rfl) fun a hf => rV hf rfl (aB (sz := 1) (k := 2) (r := lo + 2) hf Tryz.underlying32 (by kernel_rfl) rfl rfl rfl (by simp) rfl) fun a hf => rV hf rfl (ex_load hf rfl (by kernel_rfl) (ax hL hE (j := 2) rfl)) fun a hf => rC hf rfl rfl (by kernel_rfl) (cD (lead := l2) (tok := [61]) hP (by (try simp only [ac, List.length_append, List.length_cons, List.length_nil]); omega) (by (try simp only [ac, List.length_append, List.length_cons, List.length_nil]); omega) hE.now) ?_
  rintro _ w17 ⟨rfl, hPn, hEn⟩
  refine ⟨_, rfl, fun a hf => ?_⟩
  have hx16 := hEn.chg
  replace hB3 := hB3.chg hx16 (aF hB3 rfl (Ne.symm ne_b_b2))
  replace hE := hE.trans hx16 (fun _ h => .inl h)
  obtain ⟨s15, es15⟩ : ∃ z, z = ac l2 [61] s12 := ⟨_, rfl⟩
  replace hPn : Pr Bs b (ac l2 [61] s12).1 (ac l2 [61] s12).2 w17 := hPn
  rw [← es15] at hPn
  have gs15 := bg l2 [61] s12
  rw [← es15] at gs15
  obtain ⟨gs15, gs15'⟩ := gs15
  (try simp only [List.length_cons, List.length_nil, lsum] at gs15 gs15')
  replace hG := nlt gs15 (Nat.add_le_add_right hG _)
  replace hG' := nlt gs15' (Nat.add_le_add_right hG' _)
  clear gs15 gs15'
  clear hP; have hP := hPn; clear hPn hEn
  refine rR 5 hf rfl fun a hf => rV hf rfl (an hf rfl (by kernel_rfl) hB3 rfl) fun a hf => rV hf rfl (aB (sz := 4) (k := 0) (r := ko) hf Tryz.underlying25 (by kernel_rfl) rfl rfl rfl (by simp) rfl) fun a hf => ?_
  obtain ⟨d0, d1, d2, d3, hT, hK4⟩ := dp hK hR hE (i := 0) (t := k0) rfl
  have on_T := hT.one
  refine rV hf rfl (ex_loadN (cs := [d0, d1, d2, d3]) (m := 4) hf rfl (by kernel_rfl) rfl hK4) fun a hf => rC hf rfl rfl (by kernel_rfl) (ih k0 _ Bs b s15 d0 d1 d2 d3 (hks _ (by simp)).1 (hks _ (by simp)).2.1 (hks _ (by simp)).2.2 (by (try simp only [ac, List.length_append, List.length_cons, List.length_nil]); omega) (by (try simp only [ac, List.length_append, List.length_cons, List.length_nil]); omega) hP hT hE.now) ?_
  rintro _ w20 ⟨rfl, hPn, hEn⟩
  refine ⟨_, rfl, fun a hf => ?_⟩
  have hx19 := hEn.chg
  replace hB3 := hB3.chg hx19 (aF hB3 rfl (Ne.symm ne_b_b2))
  replace hE := hE.trans hx19 (fun _ h => .inl h)
  obtain ⟨s18, es18⟩ : ∃ z, z = treeP k0 s15 := ⟨_, rfl⟩
  replace hPn : Pr Bs b (treeP k0 s15).1 (treeP k0 s15).2 w20 := hPn
  rw [← es18] at hPn
  have gs18 := dd (t := k0) (hks _ (by simp)).2.2 s15
  rw [← es18] at gs18
  obtain ⟨gs18, gs18'⟩ := gs18
  (try simp only [List.length_cons, List.length_nil, lsum] at gs18 gs18')
  replace hG := nlt gs18 (Nat.add_le_add_right hG _)
  replace hG' := nlt gs18' (Nat.add_le_add_right hG' _)
  clear gs18 gs18'
  clear hP; have hP := hPn; clear hPn hEn
  refine rR 2 hf rfl fun a hf => ?_
  have eq : treeP (.node 3 x [l0, l1, l2] [k0]) s = s18 := by subst es18; subst es15; subst es12; subst es7; rfl
  rw [eq]
  exact rF (rs := []) hf rfl rfl ⟨rfl, hP, hE⟩
theorem d4 {N : Nat} (ih : cF N) {w : World} {Bs b : Nat} {s : WS} {x : List UInt8} {l0 l1 : List UInt8} {k0 : Tree} {cs : List Value} {A B : Option Addr} {m n : Nat} (hks : ∀ t, t ∈ [k0] → tsize t ≤ N ∧ shapedT t = true ∧ leadedT t = true)
    (hl1 : s.2.length + 100 * (x.length + lsum [l0, l1] + kbulk [k0] + 1) ≤ 1000000000000) (hl2 : s.1.length + 100 * (x.length + lsum [l0, l1] + kbulk [k0] + 1) ≤ 1000000000000) (hP : Pr Bs b s.1 s.2 w) (hL : RowIn (fun b => b < Bs) w 1 A [l0, l1].length ([l0, l1].map aQ)) (hn : [k0].length ≤ n) (hn2 : n ≤ maxLen) (hK : KidsAre (fun b => b < Bs) w [k0] cs) (hR : RowIn (fun b => b < Bs) w 4 B [k0].length cs) (hBw : Bs ≤ w.heap.size) :
    Calls Tryz.prog 68 [.pointer (some ⟨b, 0, none⟩), .agg #[.int .i64 4, aQ x, .slice A [l0, l1].length m, .slice B [k0].length n]].toArray w fun e w' => e = .returned (.tuple #[]) ∧ Pr Bs b (treeP (.node 4 x [l0, l1] [k0]) s).1 (treeP (.node 4 x [l0, l1] [k0]) s).2 w' ∧ Prn Bs b w w' := by
  simp only [lsum, kbulk] at hl1 hl2
  have hE := Prn.refl (b := b) hBw
  have hG : s.2.length ≤ s.2.length := Nat.le_refl _
  have hG' : s.1.length ≤ s.1.length := Nat.le_refl _
  obtain ⟨lb, lo, rfl, _, hlb, _⟩ := hL.2 (by simp)
  obtain ⟨kb, ko, rfl, _, hkb, _⟩ := hR.2 (by simp)
  refine rE 161 Tryz.func68 rfl rfl rfl ?_
  intro a hf
  refine rR 2 hf rfl fun a hf => ?_
  obtain ⟨w1, b2, he, hB3, hx4, eb5, lb6⟩ := cC (P := Tryz.prog) (t := 34) (x := (.tmp 1)) hf rfl rfl w 0
  refine rV hf rfl he fun a hf => ?_
  have ge_b2 := Prn.ge_new hE eb5
  have ne_b_b2 : b ≠ b2 := cm hP.lt eb5
  replace hP := hP.chg0 hx4
  replace hE := hE.t0 hx4
  clear eb5 lb6
  refine rR 5 hf rfl fun a hf => rV hf rfl (an hf rfl (by kernel_rfl) hB3 rfl) fun a hf => rR 32 hf rfl fun a hf => ?_
  have s_lb := ax hL hE (j := 0) rfl
  have s_hB3 := hB3
  refine rD (fun x => x.cell? ⟨b2, 2, none⟩ = w1.cell? ⟨b2, 2, none⟩ ∧ x.cell? ⟨lb, lo, none⟩ = w1.cell? ⟨lb, lo, none⟩ ∧ x.cell? ⟨b2, 1, none⟩ = w1.cell? ⟨b2, 1, none⟩) 8 8 rfl (by kernel_rfl) (by kernel_rfl) ?_
  intro w7 hx8 hsel
  replace hB3 := hB3.c0 hx8
  replace hP := hP.chg0 hx8
  replace hE := hE.t0 hx8
  have hS0 : w7.cell? ⟨b2, 2, none⟩ = w1.cell? ⟨b2, 2, none⟩ ∧ w7.cell? ⟨lb, lo, none⟩ = w1.cell? ⟨lb, lo, none⟩ ∧ w7.cell? ⟨b2, 1, none⟩ = w1.cell? ⟨b2, 1, none⟩ := ⟨(hB3.cell 2).trans (s_hB3.cell 2).symm, ((ax hL hE (j := 0) rfl).trans s_lb.symm), (hB3.cell 1).trans (s_hB3.cell 1).symm⟩
  refine dR [0, 1] hsel (by kernel_rfl) hf rfl rfl (.inl hS0) fun a hf => dL 2 rfl rfl hsel (by kernel_rfl) hf rfl hS0 (fun x hS => ex_load hf rfl (by kernel_rfl) (hS.1.trans ((s_hB3.cell 2).trans rfl))) fun a hf => dV 3 rfl rfl hsel (by kernel_rfl) hf rfl (.inl hS0) (fun x => aB (sz := 1) (k := 0) (r := lo) hf Tryz.underlying32 (by kernel_rfl) rfl rfl rfl (by simp) rfl) fun a hf => dL 4 rfl rfl hsel (by kernel_rfl) hf rfl hS0 (fun x hS => ex_load hf rfl (by kernel_rfl) (hS.2.1.trans s_lb)) fun a hf => dR [5] hsel (by kernel_rfl) hf rfl rfl (.inl hS0) fun a hf => dL 6 rfl rfl hsel (by kernel_rfl) hf rfl hS0 (fun x hS => ex_load hf rfl (by kernel_rfl) (hS.2.2.trans ((s_hB3.cell 1).trans rfl))) fun a hf => mw 7 (by kernel_rfl) rfl hf rfl rfl rfl (by kernel_rfl) (cD (lead := l0) (tok := x) hP (by (try simp only [ac, List.length_append, List.length_cons, List.length_nil]); omega) (by (try simp only [ac, List.length_append, List.length_cons, List.length_nil]); omega) hE.now) ?_
  rintro _ w11 ⟨rfl, hPn, hEn⟩
  refine ⟨_, rfl, fun a hf => ?_⟩
  have hx10 := hEn.chg
  replace hB3 := hB3.chg hx10 (aF hB3 rfl (Ne.symm ne_b_b2))
  replace hE := hE.trans hx10 (fun _ h => .inl h)
  obtain ⟨s9, es9⟩ : ∃ z, z = ac l0 x s := ⟨_, rfl⟩
  replace hPn : Pr Bs b (ac l0 x s).1 (ac l0 x s).2 w11 := hPn
  rw [← es9] at hPn
  have gs9 := bg l0 x s
  rw [← es9] at gs9
  obtain ⟨gs9, gs9'⟩ := gs9
  (try simp only [List.length_cons, List.length_nil, lsum] at gs9 gs9')
  replace hG := nlt gs9 (Nat.add_le_add_right hG _)
  replace hG' := nlt gs9' (Nat.add_le_add_right hG' _)
  clear gs9 gs9'
  clear hP; have hP := hPn; clear hPn hEn
  clear hS0
  have hS0 : w11.cell? ⟨b2, 2, none⟩ = w1.cell? ⟨b2, 2, none⟩ ∧ w11.cell? ⟨lb, lo, none⟩ = w1.cell? ⟨lb, lo, none⟩ ∧ w11.cell? ⟨b2, 1, none⟩ = w1.cell? ⟨b2, 1, none⟩ := ⟨(hB3.cell 2).trans (s_hB3.cell 2).symm, ((ax hL hE (j := 0) rfl).trans s_lb.symm), (hB3.cell 1).trans (s_hB3.cell 1).symm⟩
  refine ⟨.inl hS0, ?_⟩
  refine rN (by kernel_rfl) ?_
  clear hS0 hsel
  refine rR 5 hf rfl fun a hf => rV hf rfl (an hf rfl (by kernel_rfl) hB3 rfl) fun a hf => rV hf rfl (aB (sz := 1) (k := 1) (r := lo + 1) hf Tryz.underlying32 (by kernel_rfl) rfl rfl rfl (by simp) rfl) fun a hf => rV hf rfl (ex_load hf rfl (by kernel_rfl) (ax hL hE (j := 1) rfl)) fun a hf => rC hf rfl rfl (by kernel_rfl) (cD (lead := l1) (tok := [58]) hP (by (try simp only [ac, List.length_append, List.length_cons, List.length_nil]); omega) (by (try simp only [ac, List.length_append, List.length_cons, List.length_nil]); omega) hE.now) ?_
  rintro _ w14 ⟨rfl, hPn, hEn⟩
  refine ⟨_, rfl, fun a hf => ?_⟩
  have hx13 := hEn.chg
  replace hB3 := hB3.chg hx13 (aF hB3 rfl (Ne.symm ne_b_b2))
  replace hE := hE.trans hx13 (fun _ h => .inl h)
  obtain ⟨s12, es12⟩ : ∃ z, z = ac l1 [58] s9 := ⟨_, rfl⟩
  replace hPn : Pr Bs b (ac l1 [58] s9).1 (ac l1 [58] s9).2 w14 := hPn
  rw [← es12] at hPn
  have gs12 := bg l1 [58] s9
  rw [← es12] at gs12
  obtain ⟨gs12, gs12'⟩ := gs12
  (try simp only [List.length_cons, List.length_nil, lsum] at gs12 gs12')
  replace hG := nlt gs12 (Nat.add_le_add_right hG _)
  replace hG' := nlt gs12' (Nat.add_le_add_right hG' _)
  clear gs12 gs12'
  clear hP; have hP := hPn; clear hPn hEn
  refine rR 5 hf rfl fun a hf => rV hf rfl (an hf rfl (by kernel_rfl) hB3 rfl) fun a hf => rV hf rfl (aB (sz := 4) (k := 0) (r := ko) hf Tryz.underlying25 (by kernel_rfl) rfl rfl rfl (by simp) rfl) fun a hf => ?_
  obtain ⟨d0, d1, d2, d3, hT, hK4⟩ := dp hK hR hE (i := 0) (t := k0) rfl
  have on_T := hT.one
  refine rV hf rfl (ex_loadN (cs := [d0, d1, d2, d3]) (m := 4) hf rfl (by kernel_rfl) rfl hK4) fun a hf => rC hf rfl rfl (by kernel_rfl) (ih k0 _ Bs b s12 d0 d1 d2 d3 (hks _ (by simp)).1 (hks _ (by simp)).2.1 (hks _ (by simp)).2.2 (by (try simp only [ac, List.length_append, List.length_cons, List.length_nil]); omega) (by (try simp only [ac, List.length_append, List.length_cons, List.length_nil]); omega) hP hT hE.now) ?_
  rintro _ w17 ⟨rfl, hPn, hEn⟩
  refine ⟨_, rfl, fun a hf => ?_⟩
  have hx16 := hEn.chg
  replace hB3 := hB3.chg hx16 (aF hB3 rfl (Ne.symm ne_b_b2))
  replace hE := hE.trans hx16 (fun _ h => .inl h)
  obtain ⟨s15, es15⟩ : ∃ z, z = treeP k0 s12 := ⟨_, rfl⟩
  replace hPn : Pr Bs b (treeP k0 s12).1 (treeP k0 s12).2 w17 := hPn
  rw [← es15] at hPn
  have gs15 := dd (t := k0) (hks _ (by simp)).2.2 s12
  rw [← es15] at gs15
  obtain ⟨gs15, gs15'⟩ := gs15
  (try simp only [List.length_cons, List.length_nil, lsum] at gs15 gs15')
  replace hG := nlt gs15 (Nat.add_le_add_right hG _)
  replace hG' := nlt gs15' (Nat.add_le_add_right hG' _)
  clear gs15 gs15'
  clear hP; have hP := hPn; clear hPn hEn
  refine rR 2 hf rfl fun a hf => ?_
  have eq : treeP (.node 4 x [l0, l1] [k0]) s = s15 := by subst es15; subst es12; subst es9; rfl
  rw [eq]
  exact rF (rs := []) hf rfl rfl ⟨rfl, hP, hE⟩
theorem EG {N : Nat} {w : World} {Bs b : Nat} {s : WS} {k : Int} {x : List UInt8} {l0 : List UInt8} {cs : List Value} {A B : Option Addr} {m n : Nat} (hk : k = 5 ∨ k = 6 ∨ k = 7 ∨ k = 9 ∨ k = 10 ∨ k = 11 ∨ k = 12 ∨ k = 13 ∨ k = 14 ∨ k = 15) (hks : ∀ t, t ∈ ([] : List Tree) → tsize t ≤ N ∧ shapedT t = true ∧ leadedT t = true)
    (hl1 : s.2.length + 100 * (x.length + lsum [l0] + kbulk ([] : List Tree) + 1) ≤ 1000000000000) (hl2 : s.1.length + 100 * (x.length + lsum [l0] + kbulk ([] : List Tree) + 1) ≤ 1000000000000) (hP : Pr Bs b s.1 s.2 w) (hL : RowIn (fun b => b < Bs) w 1 A [l0].length ([l0].map aQ)) (hn : ([] : List Tree).length ≤ n) (hn2 : n ≤ maxLen) (hK : KidsAre (fun b => b < Bs) w ([] : List Tree) cs) (hR : RowIn (fun b => b < Bs) w 4 B ([] : List Tree).length cs) (hBw : Bs ≤ w.heap.size) :
    Calls Tryz.prog 42 [.pointer (some ⟨b, 0, none⟩), .agg #[.int .i64 k, aQ x, .slice A [l0].length m, .slice B ([] : List Tree).length n]].toArray w fun e w' => e = .returned (.tuple #[]) ∧ Pr Bs b (treeP (.node k x [l0] ([] : List Tree)) s).1 (treeP (.node k x [l0] ([] : List Tree)) s).2 w' ∧ Prn Bs b w w' := by
  simp only [lsum, kbulk] at hl1 hl2
  have sl := qz k x
  have hE := Prn.refl (b := b) hBw
  have hG : s.2.length ≤ s.2.length := Nat.le_refl _
  have hG' : s.1.length ≤ s.1.length := Nat.le_refl _
  obtain ⟨lb, lo, rfl, _, hlb, _⟩ := hL.2 (by simp)
  refine rE 216 Tryz.func42 rfl rfl rfl ?_
  intro a hf
  refine rR 2 hf rfl fun a hf => ?_
  obtain ⟨w1, b2, he, hB3, hx4, eb5, lb6⟩ := cC (P := Tryz.prog) (t := 34) (x := (.tmp 1)) hf rfl rfl w 0
  refine rV hf rfl he fun a hf => ?_
  have ge_b2 := Prn.ge_new hE eb5
  have ne_b_b2 : b ≠ b2 := cm hP.lt eb5
  replace hP := hP.chg0 hx4
  replace hE := hE.t0 hx4
  clear eb5 lb6
  refine rR 5 hf rfl fun a hf => rV hf rfl (an hf rfl (by kernel_rfl) hB3 rfl) fun a hf => rR 6 hf rfl fun a hf => rV hf rfl (cW (c := false) hf rfl rfl (by simp; omega)) fun a hf => rR 6 hf rfl fun a hf => rV hf rfl (cW (c := false) hf rfl rfl (by simp; omega)) fun a hf => rR 6 hf rfl fun a hf => rV hf rfl (cW (c := false) hf rfl rfl (by simp; omega)) fun a hf => rR 5 hf rfl fun a hf => rV hf rfl (cW (c := false) hf rfl rfl (by simp; omega)) fun a hf => rR 6 hf rfl fun a hf => rV hf rfl (cW (c := false) hf rfl rfl (by simp; omega)) fun a hf => rR 6 hf rfl fun a hf => rV hf rfl (cW (c := false) hf rfl rfl (by simp; omega)) fun a hf => rR 6 hf rfl fun a hf => rV hf rfl (cW (c := false) hf rfl rfl (by simp; omega)) fun a hf => rR 6 hf rfl fun a hf => rV hf rfl (cW (c := false) hf rfl rfl (by simp; omega)) fun a hf => rR 6 hf rfl fun a hf => rV hf rfl (cW (c := false) hf rfl rfl (by simp; omega)) fun a hf => rR 6 hf rfl fun a hf => rV hf rfl (cW (c := false) hf rfl rfl (by simp; omega)) fun a hf => rR 6 hf rfl fun a hf => rV hf rfl (cW (c := false) hf rfl rfl (by simp; omega)) fun a hf => rR 6 hf rfl fun a hf => rV hf rfl (cW (c := false) hf rfl rfl (by simp; omega)) fun a hf => rR 4 hf rfl fun a hf => ?_
  have s_lb := ax hL hE (j := 0) rfl
  have s_hB3 := hB3
  refine rD (fun x => x.cell? ⟨b2, 2, none⟩ = w1.cell? ⟨b2, 2, none⟩ ∧ x.cell? ⟨lb, lo, none⟩ = w1.cell? ⟨lb, lo, none⟩ ∧ x.cell? ⟨b2, 0, none⟩ = w1.cell? ⟨b2, 0, none⟩ ∧ x.cell? ⟨b2, 1, none⟩ = w1.cell? ⟨b2, 1, none⟩ ∧ x.cell? ⟨b2, 3, none⟩ = w1.cell? ⟨b2, 3, none⟩) 8 8 rfl (by kernel_rfl) (by kernel_rfl) ?_
  intro w7 hx8 hsel
  replace hB3 := hB3.c0 hx8
  replace hP := hP.chg0 hx8
  replace hE := hE.t0 hx8
  have hS0 : w7.cell? ⟨b2, 2, none⟩ = w1.cell? ⟨b2, 2, none⟩ ∧ w7.cell? ⟨lb, lo, none⟩ = w1.cell? ⟨lb, lo, none⟩ ∧ w7.cell? ⟨b2, 0, none⟩ = w1.cell? ⟨b2, 0, none⟩ ∧ w7.cell? ⟨b2, 1, none⟩ = w1.cell? ⟨b2, 1, none⟩ ∧ w7.cell? ⟨b2, 3, none⟩ = w1.cell? ⟨b2, 3, none⟩ := ⟨(hB3.cell 2).trans (s_hB3.cell 2).symm, ((ax hL hE (j := 0) rfl).trans s_lb.symm), (hB3.cell 0).trans (s_hB3.cell 0).symm, (hB3.cell 1).trans (s_hB3.cell 1).symm, (hB3.cell 3).trans (s_hB3.cell 3).symm⟩
  refine dR [0, 1] hsel (by kernel_rfl) hf rfl rfl (.inl hS0) fun a hf => dL 2 rfl rfl hsel (by kernel_rfl) hf rfl hS0 (fun x hS => ex_load hf rfl (by kernel_rfl) (hS.1.trans ((s_hB3.cell 2).trans rfl))) fun a hf => dV 3 rfl rfl hsel (by kernel_rfl) hf rfl (.inl hS0) (fun x => aB (sz := 1) (k := 0) (r := lo) hf Tryz.underlying32 (by kernel_rfl) rfl rfl rfl (by simp) rfl) fun a hf => dL 4 rfl rfl hsel (by kernel_rfl) hf rfl hS0 (fun x hS => ex_load hf rfl (by kernel_rfl) (hS.2.1.trans s_lb)) fun a hf => dL 5 rfl rfl hsel (by kernel_rfl) hf rfl hS0 (fun x hS => tc hf rfl (by kernel_rfl) s_hB3 rfl hS.2.2.1 hS.2.2.2.1 hS.1 hS.2.2.2.2) fun a hf => mw 6 (by kernel_rfl) rfl hf rfl rfl rfl (by kernel_rfl) (Ci (k := k) (tx := x)) ?_
  rintro _ w10 ⟨rfl, hx9⟩
  refine ⟨_, rfl, fun a hf => ?_⟩
  replace hB3 := hB3.c0 hx9
  replace hP := hP.chg0 hx9
  replace hE := hE.t0 hx9
  clear hS0
  have hS0 : w10.cell? ⟨b2, 2, none⟩ = w1.cell? ⟨b2, 2, none⟩ ∧ w10.cell? ⟨lb, lo, none⟩ = w1.cell? ⟨lb, lo, none⟩ ∧ w10.cell? ⟨b2, 0, none⟩ = w1.cell? ⟨b2, 0, none⟩ ∧ w10.cell? ⟨b2, 1, none⟩ = w1.cell? ⟨b2, 1, none⟩ ∧ w10.cell? ⟨b2, 3, none⟩ = w1.cell? ⟨b2, 3, none⟩ := ⟨(hB3.cell 2).trans (s_hB3.cell 2).symm, ((ax hL hE (j := 0) rfl).trans s_lb.symm), (hB3.cell 0).trans (s_hB3.cell 0).symm, (hB3.cell 1).trans (s_hB3.cell 1).symm, (hB3.cell 3).trans (s_hB3.cell 3).symm⟩
  refine ⟨.inl hS0, ?_⟩
  refine mw 7 (by kernel_rfl) rfl hf rfl rfl rfl (by kernel_rfl) (cD (lead := l0) (tok := (cz k x)) hP (by (try simp only [ac, List.length_append, List.length_cons, List.length_nil]); omega) (by (try simp only [ac, List.length_append, List.length_cons, List.length_nil]); omega) hE.now) ?_
  rintro _ w13 ⟨rfl, hPn, hEn⟩
  refine ⟨_, rfl, fun a hf => ?_⟩
  have hx12 := hEn.chg
  replace hB3 := hB3.chg hx12 (aF hB3 rfl (Ne.symm ne_b_b2))
  replace hE := hE.trans hx12 (fun _ h => .inl h)
  obtain ⟨s11, es11⟩ : ∃ z, z = ac l0 (cz k x) s := ⟨_, rfl⟩
  replace hPn : Pr Bs b (ac l0 (cz k x) s).1 (ac l0 (cz k x) s).2 w13 := hPn
  rw [← es11] at hPn
  have gs11 := bg l0 (cz k x) s
  rw [← es11] at gs11
  obtain ⟨gs11, gs11'⟩ := gs11
  (try simp only [List.length_cons, List.length_nil, lsum] at gs11 gs11')
  replace hG := nlt gs11 (Nat.add_le_add_right hG _)
  replace hG' := nlt gs11' (Nat.add_le_add_right hG' _)
  clear gs11 gs11'
  clear hP; have hP := hPn; clear hPn hEn
  clear hS0
  have hS0 : w13.cell? ⟨b2, 2, none⟩ = w1.cell? ⟨b2, 2, none⟩ ∧ w13.cell? ⟨lb, lo, none⟩ = w1.cell? ⟨lb, lo, none⟩ ∧ w13.cell? ⟨b2, 0, none⟩ = w1.cell? ⟨b2, 0, none⟩ ∧ w13.cell? ⟨b2, 1, none⟩ = w1.cell? ⟨b2, 1, none⟩ ∧ w13.cell? ⟨b2, 3, none⟩ = w1.cell? ⟨b2, 3, none⟩ := ⟨(hB3.cell 2).trans (s_hB3.cell 2).symm, ((ax hL hE (j := 0) rfl).trans s_lb.symm), (hB3.cell 0).trans (s_hB3.cell 0).symm, (hB3.cell 1).trans (s_hB3.cell 1).symm, (hB3.cell 3).trans (s_hB3.cell 3).symm⟩
  refine ⟨.inl hS0, ?_⟩
  refine rN (by kernel_rfl) ?_
  clear hS0 hsel
  refine rR 1 hf rfl fun a hf => ?_
  have eq : treeP (.node k x [l0] ([] : List Tree)) s = s11 := by subst es11; rw [treeP, treesP]; simp only [dH]; rw [if_neg (by omega), if_neg (by omega), if_neg (by omega), if_neg (by omega), if_neg (by omega), if_neg (by omega), if_neg (by omega), if_neg (by omega), if_neg (by omega)]; rfl
  rw [eq]
  exact rF (rs := []) hf rfl rfl ⟨rfl, hP, hE⟩
end Go.Proofs.YtgpcdfbmbcognaaGreat
namespace Go.Proofs.YtgpcdfbmbcognaaGreat
open Go.RowKit Lx Sx
set_option maxRecDepth 100000
set_option maxHeartbeats 4000000
theorem KidsAre.part {S : Nat → Prop} {w : World} : ∀ {a b : List Tree} {cs : List Value}, KidsAre S w (a ++ b) cs → ∃ c d, cs = c ++ d ∧ KidsAre S w a c ∧ KidsAre S w b d
 | [], b, cs, h => ⟨[], cs, rfl, rfl, h⟩
 | t :: r, b, cs, h => by
  simp only [List.cons_append, KidsAre] at h
  obtain ⟨c, d, e, h1, h2⟩ := h
  obtain ⟨c', d', e', h3, h4⟩ := KidsAre.part h2
  exact ⟨c ++ c', d', by rw [e, e', List.append_assoc], by simp only [KidsAre]; exact ⟨c, c', rfl, h1, h3⟩, h4⟩
theorem RowIn.now {Bs b : Nat} {w w' : World} {A : Option Addr} {sz n : Nat} {cs : List Value} (h : RowIn (fun b => b < Bs) w sz A n cs) (hE : Prn Bs b w w') : RowIn (fun b => b < Bs) w' sz A n cs := h.keepB (fun _ h _ => h) (fun _ hb _ => hE.below.block _ hb)
theorem KidsAre.now {Bs b : Nat} {w w' : World} {ks : List Tree} {cs : List Value} (h : KidsAre (fun b => b < Bs) w ks cs) (hE : Prn Bs b w w') : KidsAre (fun b => b < Bs) w' ks cs := h.keepB (fun _ h _ => h) (fun _ hb _ => hE.below.block _ hb)
theorem RowIn.part {S : Nat → Prop} {w : World} {A : Option Addr} {n n1 : Nat} {c d : List Value} (h : RowIn S w 4 A n (c ++ d)) (hc : c.length = n1 * 4) (hn : n1 ≤ n) : RowIn S w 4 A n1 c := by
 refine ⟨hc, fun h0 => ?_⟩
 obtain ⟨b, off, e, hS, hb, hcell⟩ := h.2 (by omega)
 refine ⟨b, off, e, hS, hb, fun j hj => ?_⟩
 rw [hcell j (by omega), List.getElem?_append_left (by omega)]
theorem Dg {P : Program} {a : Act} {w : World} {n : Nat} {f : Nat → Option Value} {ty : TypeId} {t e : TypeId} {x y : Operand} {A : Option Addr} {m c sz k : Nat} {i : Int} (h : Fr a n f) (ht : P.underlying t = some (.slice e)) (hz : df P e = some sz) (hx : au f x = some (.slice A m c)) (hy : au f y = some (.int .i64 i)) (hi : i = (k : Int)) (hk : k ≤ c) :
  Runs P a ty (.slice t x none (some y) none) w (.value (.slice A k c)) w := fun _ _ _ _ => by
 subst hi
 obtain ⟨inf, hinf, hs⟩ := Option.map_eq_some_iff.1 (show (P.info? e).map (·.size) = some sz from hz)
 simp only [execOp, h.eval hx, Option.map_some, Option.map_none, h.eval hy]
 simp [Instr.sliceAt, Instr.slice, run_underlying ht, Instr.sliceBounds, run_sliceBound w .i64 (k : Int) c .sliceAcap (by omega) (by omega), sizeOf, typeInfo, hinf, hs]
 try (split <;> simp_all)
 try (cases A <;> simp)
 all_goals (intro _; unfold Addr.add; split <;> simp_all)
theorem t16 {N : Nat} (ih : cF N) {w : World} {Bs b : Nat} {s : WS} {x : List UInt8} {l0 l1 l2 : List UInt8} {ms : List (List UInt8)} {ks : List Tree} {cs : List Value} {A B : Option Addr} {m n : Nat} (hcl : 3 + ks.length ≤ (l0 :: l1 :: l2 :: ms).length + 1) (hks : ∀ t, t ∈ ks → tsize t ≤ N ∧ shapedT t = true ∧ leadedT t = true)
    (hl1 : s.2.length + 100 * (x.length + lsum (l0 :: l1 :: l2 :: ms) + kbulk ks + 1) ≤ 1000000000000) (hl2 : s.1.length + 100 * (x.length + lsum (l0 :: l1 :: l2 :: ms) + kbulk ks + 1) ≤ 1000000000000) (hP : Pr Bs b s.1 s.2 w) (hL : RowIn (fun b => b < Bs) w 1 A (l0 :: l1 :: l2 :: ms).length ((l0 :: l1 :: l2 :: ms).map aQ)) (hn : ks.length ≤ n) (hn2 : n ≤ maxLen) (hK : KidsAre (fun b => b < Bs) w ks cs) (hR : RowIn (fun b => b < Bs) w 4 B ks.length cs) (hBw : Bs ≤ w.heap.size) :
    Calls Tryz.prog 42 [.pointer (some ⟨b, 0, none⟩), .agg #[.int .i64 16, aQ x, .slice A (l0 :: l1 :: l2 :: ms).length m, .slice B ks.length n]].toArray w fun e w' => e = .returned (.tuple #[]) ∧ Pr Bs b (treeP (.node 16 x (l0 :: l1 :: l2 :: ms) ks) s).1 (treeP (.node 16 x (l0 :: l1 :: l2 :: ms) ks) s).2 w' ∧ Prn Bs b w w' := by
  simp only [lsum, kbulk] at hl1 hl2
  have hgk : ∀ t, t ∈ ks → ∀ s, Gw (100 * tbulk t) s (treeP t s) := fun t ht s => Gw.tree _ t (Nat.le_refl _) (hks t ht).2.2 s
  have hKL := fq ks
  have hll := gN ms
  have hcl' := hcl
  simp only [List.length_cons] at hcl'
  have hE := Prn.refl (b := b) hBw
  have hG : s.2.length ≤ s.2.length := Nat.le_refl _
  have hG' : s.1.length ≤ s.1.length := Nat.le_refl _
  obtain ⟨lb, lo, rfl, _, hlb, _⟩ := hL.2 (by simp)
  refine rE 216 Tryz.func42 rfl rfl rfl ?_
  intro a hf
  refine rR 2 hf rfl fun a hf => ?_
  obtain ⟨w1, b2, he, hB3, hx4, eb5, lb6⟩ := cC (P := Tryz.prog) (t := 34) (x := (.tmp 1)) hf rfl rfl w 0
  refine rV hf rfl he fun a hf => ?_
  have ge_b2 := Prn.ge_new hE eb5
  have ne_b_b2 : b ≠ b2 := cm hP.lt eb5
  replace hP := hP.chg0 hx4
  replace hE := hE.t0 hx4
  clear eb5 lb6
  refine rR 5 hf rfl fun a hf => rV hf rfl (an hf rfl (by kernel_rfl) hB3 rfl) fun a hf => rR 53 hf rfl fun a hf => ?_
  have s_lb := ax hL hE (j := 0) rfl
  have s_hB3 := hB3
  refine rD (fun x => x.cell? ⟨b2, 2, none⟩ = w1.cell? ⟨b2, 2, none⟩ ∧ x.cell? ⟨lb, lo, none⟩ = w1.cell? ⟨lb, lo, none⟩ ∧ x.cell? ⟨b2, 1, none⟩ = w1.cell? ⟨b2, 1, none⟩) 8 8 rfl (by kernel_rfl) (by kernel_rfl) ?_
  intro w7 hx8 hsel
  replace hB3 := hB3.c0 hx8
  replace hP := hP.chg0 hx8
  replace hE := hE.t0 hx8
  have hS0 : w7.cell? ⟨b2, 2, none⟩ = w1.cell? ⟨b2, 2, none⟩ ∧ w7.cell? ⟨lb, lo, none⟩ = w1.cell? ⟨lb, lo, none⟩ ∧ w7.cell? ⟨b2, 1, none⟩ = w1.cell? ⟨b2, 1, none⟩ := ⟨(hB3.cell 2).trans (s_hB3.cell 2).symm, ((ax hL hE (j := 0) rfl).trans s_lb.symm), (hB3.cell 1).trans (s_hB3.cell 1).symm⟩
  refine dR [0, 1] hsel (by kernel_rfl) hf rfl rfl (.inl hS0) fun a hf => dL 2 rfl rfl hsel (by kernel_rfl) hf rfl hS0 (fun x hS => ex_load hf rfl (by kernel_rfl) (hS.1.trans ((s_hB3.cell 2).trans rfl))) fun a hf => dV 3 rfl rfl hsel (by kernel_rfl) hf rfl (.inl hS0) (fun x => aB (sz := 1) (k := 0) (r := lo) hf Tryz.underlying32 (by kernel_rfl) rfl rfl rfl (by simp) rfl) fun a hf => dL 4 rfl rfl hsel (by kernel_rfl) hf rfl hS0 (fun x hS => ex_load hf rfl (by kernel_rfl) (hS.2.1.trans s_lb)) fun a hf => dR [5] hsel (by kernel_rfl) hf rfl rfl (.inl hS0) fun a hf => dL 6 rfl rfl hsel (by kernel_rfl) hf rfl hS0 (fun x hS => ex_load hf rfl (by kernel_rfl) (hS.2.2.trans ((s_hB3.cell 1).trans rfl))) fun a hf => mw 7 (by kernel_rfl) rfl hf rfl rfl rfl (by kernel_rfl) (cD (lead := l0) (tok := x) hP (by (try simp only [ac, List.length_append, List.length_cons, List.length_nil]); omega) (by (try simp only [ac, List.length_append, List.length_cons, List.length_nil]); omega) hE.now) ?_
  rintro _ w11 ⟨rfl, hPn, hEn⟩
  refine ⟨_, rfl, fun a hf => ?_⟩
  have hx10 := hEn.chg
  replace hB3 := hB3.chg hx10 (aF hB3 rfl (Ne.symm ne_b_b2))
  replace hE := hE.trans hx10 (fun _ h => .inl h)
  obtain ⟨s9, es9⟩ : ∃ z, z = ac l0 x s := ⟨_, rfl⟩
  replace hPn : Pr Bs b (ac l0 x s).1 (ac l0 x s).2 w11 := hPn
  rw [← es9] at hPn
  have gs9 := bg l0 x s
  rw [← es9] at gs9
  obtain ⟨gs9, gs9'⟩ := gs9
  (try simp only [List.length_cons, List.length_nil, lsum] at gs9 gs9')
  replace hG := nlt gs9 (Nat.add_le_add_right hG _)
  replace hG' := nlt gs9' (Nat.add_le_add_right hG' _)
  clear gs9 gs9'
  clear hP; have hP := hPn; clear hPn hEn
  clear hS0
  have hS0 : w11.cell? ⟨b2, 2, none⟩ = w1.cell? ⟨b2, 2, none⟩ ∧ w11.cell? ⟨lb, lo, none⟩ = w1.cell? ⟨lb, lo, none⟩ ∧ w11.cell? ⟨b2, 1, none⟩ = w1.cell? ⟨b2, 1, none⟩ := ⟨(hB3.cell 2).trans (s_hB3.cell 2).symm, ((ax hL hE (j := 0) rfl).trans s_lb.symm), (hB3.cell 1).trans (s_hB3.cell 1).symm⟩
  refine ⟨.inl hS0, ?_⟩
  refine rN (by kernel_rfl) ?_
  clear hS0 hsel
  refine rR 5 hf rfl fun a hf => rV hf rfl (an hf rfl (by kernel_rfl) hB3 rfl) fun a hf => rV hf rfl (aB (sz := 1) (k := 1) (r := lo + 1) hf Tryz.underlying32 (by kernel_rfl) rfl rfl rfl (by simp) rfl) fun a hf => rV hf rfl (ex_load hf rfl (by kernel_rfl) (ax hL hE (j := 1) rfl)) fun a hf => rC hf rfl rfl (by kernel_rfl) (cD (lead := l1) (tok := [40]) hP (by (try simp only [ac, List.length_append, List.length_cons, List.length_nil]); omega) (by (try simp only [ac, List.length_append, List.length_cons, List.length_nil]); omega) hE.now) ?_
  rintro _ w14 ⟨rfl, hPn, hEn⟩
  refine ⟨_, rfl, fun a hf => ?_⟩
  have hx13 := hEn.chg
  replace hB3 := hB3.chg hx13 (aF hB3 rfl (Ne.symm ne_b_b2))
  replace hE := hE.trans hx13 (fun _ h => .inl h)
  obtain ⟨s12, es12⟩ : ∃ z, z = ac l1 [40] s9 := ⟨_, rfl⟩
  replace hPn : Pr Bs b (ac l1 [40] s9).1 (ac l1 [40] s9).2 w14 := hPn
  rw [← es12] at hPn
  have gs12 := bg l1 [40] s9
  rw [← es12] at gs12
  obtain ⟨gs12, gs12'⟩ := gs12
  (try simp only [List.length_cons, List.length_nil, lsum] at gs12 gs12')
  replace hG := nlt gs12 (Nat.add_le_add_right hG _)
  replace hG' := nlt gs12' (Nat.add_le_add_right hG' _)
  clear gs12 gs12'
  clear hP; have hP := hPn; clear hPn hEn
  refine rR 5 hf rfl fun a hf => rV hf rfl (eK (m := 4) hf rfl (by kernel_rfl) hB3 rfl) fun a hf => rR 1 hf rfl fun a hf => rV hf rfl (an hf rfl (by kernel_rfl) hB3 rfl) fun a hf => ?_
  have hLn := hL.now hE
  have hKn := hK.now hE
  have hRn := hR.now hE
  refine rC hf rfl rfl (by kernel_rfl) (ug ih (s := s12) (ls := (l0 :: l1 :: l2 :: ms)) (ks := ks) (c := 3) (ci := 3) (by decide) (by decide) (by decide) hcl hks (by simp only [lsum]; omega) (by simp only [lsum]; omega) hP hLn hKn hRn hE.now) ?_
  rintro _ w17 ⟨rfl, hPn, hEn⟩
  refine ⟨_, rfl, fun a hf => ?_⟩
  have hx16 := hEn.chg
  replace hB3 := hB3.chg hx16 (aF hB3 rfl (Ne.symm ne_b_b2))
  replace hE := hE.trans hx16 (fun _ h => .inl h)
  obtain ⟨s15, es15⟩ : ∃ z, z = aZ (l0 :: l1 :: l2 :: ms) 3 (treesP ks) 0 s12 := ⟨_, rfl⟩
  replace hPn : Pr Bs b (aZ (l0 :: l1 :: l2 :: ms) 3 (treesP ks) 0 s12).1 (aZ (l0 :: l1 :: l2 :: ms) 3 (treesP ks) 0 s12).2 w17 := hPn
  rw [← es15] at hPn
  have gs15 := qZ (ls := (l0 :: l1 :: l2 :: ms)) (c := 3) (by decide) hgk s12
  rw [← es15] at gs15
  obtain ⟨gs15, gs15'⟩ := gs15
  (try simp only [List.length_cons, List.length_nil, lsum] at gs15 gs15')
  replace hG := nlt gs15 (Nat.add_le_add_right hG _)
  replace hG' := nlt gs15' (Nat.add_le_add_right hG' _)
  clear gs15 gs15'
  clear hP; have hP := hPn; clear hPn hEn
  refine rR 5 hf rfl fun a hf => rV hf rfl (an hf rfl (by kernel_rfl) hB3 rfl) fun a hf => rV hf rfl (aB (sz := 1) (k := 2) (r := lo + 2) hf Tryz.underlying32 (by kernel_rfl) rfl rfl rfl (by simp) rfl) fun a hf => rV hf rfl (ex_load hf rfl (by kernel_rfl) (ax hL hE (j := 2) rfl)) fun a hf => rC hf rfl rfl (by kernel_rfl) (cD (lead := l2) (tok := [41]) hP (by (try simp only [ac, List.length_append, List.length_cons, List.length_nil]); omega) (by (try simp only [ac, List.length_append, List.length_cons, List.length_nil]); omega) hE.now) ?_
  rintro _ w20 ⟨rfl, hPn, hEn⟩
  refine ⟨_, rfl, fun a hf => ?_⟩
  have hx19 := hEn.chg
  replace hB3 := hB3.chg hx19 (aF hB3 rfl (Ne.symm ne_b_b2))
  replace hE := hE.trans hx19 (fun _ h => .inl h)
  obtain ⟨s18, es18⟩ : ∃ z, z = ac l2 [41] s15 := ⟨_, rfl⟩
  replace hPn : Pr Bs b (ac l2 [41] s15).1 (ac l2 [41] s15).2 w20 := hPn
  rw [← es18] at hPn
  have gs18 := bg l2 [41] s15
  rw [← es18] at gs18
  obtain ⟨gs18, gs18'⟩ := gs18
  (try simp only [List.length_cons, List.length_nil, lsum] at gs18 gs18')
  replace hG := nlt gs18 (Nat.add_le_add_right hG _)
  replace hG' := nlt gs18' (Nat.add_le_add_right hG' _)
  clear gs18 gs18'
  clear hP; have hP := hPn; clear hPn hEn
  refine rR 2 hf rfl fun a hf => ?_
  have eq : treeP (.node 16 x (l0 :: l1 :: l2 :: ms) ks) s = s18 := by subst es18; subst es15; subst es12; subst es9; rw [treeP]; rfl
  rw [eq]
  exact rF (rs := []) hf rfl rfl ⟨rfl, hP, hE⟩
theorem t18 {N : Nat} (ih : cF N) {w : World} {Bs b : Nat} {s : WS} {x : List UInt8} {l0 l1 : List UInt8} {ms : List (List UInt8)} {ks : List Tree} {cs : List Value} {A B : Option Addr} {m n : Nat} (hcl : 2 + ks.length ≤ (l0 :: l1 :: ms).length + 1) (hks : ∀ t, t ∈ ks → tsize t ≤ N ∧ shapedT t = true ∧ leadedT t = true)
    (hl1 : s.2.length + 100 * (x.length + lsum (l0 :: l1 :: ms) + kbulk ks + 1) ≤ 1000000000000) (hl2 : s.1.length + 100 * (x.length + lsum (l0 :: l1 :: ms) + kbulk ks + 1) ≤ 1000000000000) (hP : Pr Bs b s.1 s.2 w) (hL : RowIn (fun b => b < Bs) w 1 A (l0 :: l1 :: ms).length ((l0 :: l1 :: ms).map aQ)) (hn : ks.length ≤ n) (hn2 : n ≤ maxLen) (hK : KidsAre (fun b => b < Bs) w ks cs) (hR : RowIn (fun b => b < Bs) w 4 B ks.length cs) (hBw : Bs ≤ w.heap.size) :
    Calls Tryz.prog 42 [.pointer (some ⟨b, 0, none⟩), .agg #[.int .i64 18, aQ x, .slice A (l0 :: l1 :: ms).length m, .slice B ks.length n]].toArray w fun e w' => e = .returned (.tuple #[]) ∧ Pr Bs b (treeP (.node 18 x (l0 :: l1 :: ms) ks) s).1 (treeP (.node 18 x (l0 :: l1 :: ms) ks) s).2 w' ∧ Prn Bs b w w' := by
  simp only [lsum, kbulk] at hl1 hl2
  have hgk : ∀ t, t ∈ ks → ∀ s, Gw (100 * tbulk t) s (treeP t s) := fun t ht s => Gw.tree _ t (Nat.le_refl _) (hks t ht).2.2 s
  have hKL := fq ks
  have hll := gN ms
  have hcl' := hcl
  simp only [List.length_cons] at hcl'
  have hE := Prn.refl (b := b) hBw
  have hG : s.2.length ≤ s.2.length := Nat.le_refl _
  have hG' : s.1.length ≤ s.1.length := Nat.le_refl _
  obtain ⟨lb, lo, rfl, _, hlb, _⟩ := hL.2 (by simp)
  refine rE 216 Tryz.func42 rfl rfl rfl ?_
  intro a hf
  refine rR 2 hf rfl fun a hf => ?_
  obtain ⟨w1, b2, he, hB3, hx4, eb5, lb6⟩ := cC (P := Tryz.prog) (t := 34) (x := (.tmp 1)) hf rfl rfl w 0
  refine rV hf rfl he fun a hf => ?_
  have ge_b2 := Prn.ge_new hE eb5
  have ne_b_b2 : b ≠ b2 := cm hP.lt eb5
  replace hP := hP.chg0 hx4
  replace hE := hE.t0 hx4
  clear eb5 lb6
  refine rR 5 hf rfl fun a hf => rV hf rfl (an hf rfl (by kernel_rfl) hB3 rfl) fun a hf => rR 63 hf rfl fun a hf => rV hf rfl (an hf rfl (by kernel_rfl) hB3 rfl) fun a hf => rV hf rfl (aB (sz := 1) (k := 0) (r := lo) hf Tryz.underlying32 (by kernel_rfl) rfl rfl rfl (by simp) rfl) fun a hf => rV hf rfl (ex_load hf rfl (by kernel_rfl) (ax hL hE (j := 0) rfl)) fun a hf => rC hf rfl rfl (by kernel_rfl) (cD (lead := l0) (tok := [91]) hP (by (try simp only [ac, List.length_append, List.length_cons, List.length_nil]); omega) (by (try simp only [ac, List.length_append, List.length_cons, List.length_nil]); omega) hE.now) ?_
  rintro _ w9 ⟨rfl, hPn, hEn⟩
  refine ⟨_, rfl, fun a hf => ?_⟩
  have hx8 := hEn.chg
  replace hB3 := hB3.chg hx8 (aF hB3 rfl (Ne.symm ne_b_b2))
  replace hE := hE.trans hx8 (fun _ h => .inl h)
  obtain ⟨s7, es7⟩ : ∃ z, z = ac l0 [91] s := ⟨_, rfl⟩
  replace hPn : Pr Bs b (ac l0 [91] s).1 (ac l0 [91] s).2 w9 := hPn
  rw [← es7] at hPn
  have gs7 := bg l0 [91] s
  rw [← es7] at gs7
  obtain ⟨gs7, gs7'⟩ := gs7
  (try simp only [List.length_cons, List.length_nil, lsum] at gs7 gs7')
  replace hG := nlt gs7 (Nat.add_le_add_right hG _)
  replace hG' := nlt gs7' (Nat.add_le_add_right hG' _)
  clear gs7 gs7'
  clear hP; have hP := hPn; clear hPn hEn
  refine rR 5 hf rfl fun a hf => rV hf rfl (eK (m := 4) hf rfl (by kernel_rfl) hB3 rfl) fun a hf => rR 1 hf rfl fun a hf => rV hf rfl (an hf rfl (by kernel_rfl) hB3 rfl) fun a hf => ?_
  have hLn := hL.now hE
  have hKn := hK.now hE
  have hRn := hR.now hE
  refine rC hf rfl rfl (by kernel_rfl) (ug ih (s := s7) (ls := (l0 :: l1 :: ms)) (ks := ks) (c := 2) (ci := 2) (by decide) (by decide) (by decide) hcl hks (by simp only [lsum]; omega) (by simp only [lsum]; omega) hP hLn hKn hRn hE.now) ?_
  rintro _ w12 ⟨rfl, hPn, hEn⟩
  refine ⟨_, rfl, fun a hf => ?_⟩
  have hx11 := hEn.chg
  replace hB3 := hB3.chg hx11 (aF hB3 rfl (Ne.symm ne_b_b2))
  replace hE := hE.trans hx11 (fun _ h => .inl h)
  obtain ⟨s10, es10⟩ : ∃ z, z = aZ (l0 :: l1 :: ms) 2 (treesP ks) 0 s7 := ⟨_, rfl⟩
  replace hPn : Pr Bs b (aZ (l0 :: l1 :: ms) 2 (treesP ks) 0 s7).1 (aZ (l0 :: l1 :: ms) 2 (treesP ks) 0 s7).2 w12 := hPn
  rw [← es10] at hPn
  have gs10 := qZ (ls := (l0 :: l1 :: ms)) (c := 2) (by decide) hgk s7
  rw [← es10] at gs10
  obtain ⟨gs10, gs10'⟩ := gs10
  (try simp only [List.length_cons, List.length_nil, lsum] at gs10 gs10')
  replace hG := nlt gs10 (Nat.add_le_add_right hG _)
  replace hG' := nlt gs10' (Nat.add_le_add_right hG' _)
  clear gs10 gs10'
  clear hP; have hP := hPn; clear hPn hEn
  refine rR 5 hf rfl fun a hf => rV hf rfl (an hf rfl (by kernel_rfl) hB3 rfl) fun a hf => rV hf rfl (aB (sz := 1) (k := 1) (r := lo + 1) hf Tryz.underlying32 (by kernel_rfl) rfl rfl rfl (by simp) rfl) fun a hf => rV hf rfl (ex_load hf rfl (by kernel_rfl) (ax hL hE (j := 1) rfl)) fun a hf => rC hf rfl rfl (by kernel_rfl) (cD (lead := l1) (tok := [93]) hP (by (try simp only [ac, List.length_append, List.length_cons, List.length_nil]); omega) (by (try simp only [ac, List.length_append, List.length_cons, List.length_nil]); omega) hE.now) ?_
  rintro _ w15 ⟨rfl, hPn, hEn⟩
  refine ⟨_, rfl, fun a hf => ?_⟩
  have hx14 := hEn.chg
  replace hB3 := hB3.chg hx14 (aF hB3 rfl (Ne.symm ne_b_b2))
  replace hE := hE.trans hx14 (fun _ h => .inl h)
  obtain ⟨s13, es13⟩ : ∃ z, z = ac l1 [93] s10 := ⟨_, rfl⟩
  replace hPn : Pr Bs b (ac l1 [93] s10).1 (ac l1 [93] s10).2 w15 := hPn
  rw [← es13] at hPn
  have gs13 := bg l1 [93] s10
  rw [← es13] at gs13
  obtain ⟨gs13, gs13'⟩ := gs13
  (try simp only [List.length_cons, List.length_nil, lsum] at gs13 gs13')
  replace hG := nlt gs13 (Nat.add_le_add_right hG _)
  replace hG' := nlt gs13' (Nat.add_le_add_right hG' _)
  clear gs13 gs13'
  clear hP; have hP := hPn; clear hPn hEn
  refine rR 2 hf rfl fun a hf => ?_
  have eq : treeP (.node 18 x (l0 :: l1 :: ms) ks) s = s13 := by subst es13; subst es10; subst es7; rw [treeP]; rfl
  rw [eq]
  exact rF (rs := []) hf rfl rfl ⟨rfl, hP, hE⟩
theorem EF (x : List UInt8) (ls : List (List UInt8)) (fs : List (WS → WS)) (f g : WS → WS) (s : WS) : dH 2 x ls (fs ++ [f, g]) s = g (ac (ls.getD 5 []) [61] (f (ac (ls.getD 4 []) [58] (ac (ls.getD 3 []) [41] (aZ ls 6 fs 0 (ac (ls.getD 2 []) [40] (ac (ls.getD 1 []) x (ac (ls.getD 0 []) [100, 101, 102] s)))))))) := by
 unfold dH
 rw [if_pos (by decide)]
 unfold tR
 dsimp only
 rw [if_neg (by decide), if_pos rfl]
 have k1 : (fs ++ [f, g]).length - 2 = fs.length := by simp
 have k2 : (fs ++ [f, g]).length - 1 = fs.length + 1 := by simp
 rw [k1, k2]
 have t1 : (fs ++ [f, g]).take fs.length = fs := by rw [List.take_append_of_le_length (Nat.le_refl _), List.take_length]
 have t2 : (fs ++ [f, g]).getD fs.length id = f := by rw [List.getD_eq_getElem?_getD, List.getElem?_append_right (Nat.le_refl _), Nat.sub_self]; rfl
 have t3 : (fs ++ [f, g]).getD (fs.length + 1) id = g := by rw [List.getD_eq_getElem?_getD, List.getElem?_append_right (by omega), show fs.length + 1 - fs.length = 1 from by omega]; rfl
 rw [t1, t2, t3]
theorem d2 {N : Nat} (ih : cF N) {w : World} {Bs b : Nat} {s : WS} {x : List UInt8} {l0 l1 l2 l3 l4 l5 : List UInt8} {ms : List (List UInt8)} {k0 k1 : Tree} {ps : List Tree} {cs : List Value} {A B : Option Addr} {m n : Nat} (hcl : 6 + ps.length ≤ (l0 :: l1 :: l2 :: l3 :: l4 :: l5 :: ms).length + 1) (hks : ∀ t, t ∈ (ps ++ [k0, k1]) → tsize t ≤ N ∧ shapedT t = true ∧ leadedT t = true)
    (hl1 : s.2.length + 100 * (x.length + lsum (l0 :: l1 :: l2 :: l3 :: l4 :: l5 :: ms) + kbulk (ps ++ [k0, k1]) + 1) ≤ 1000000000000) (hl2 : s.1.length + 100 * (x.length + lsum (l0 :: l1 :: l2 :: l3 :: l4 :: l5 :: ms) + kbulk (ps ++ [k0, k1]) + 1) ≤ 1000000000000) (hP : Pr Bs b s.1 s.2 w) (hL : RowIn (fun b => b < Bs) w 1 A (l0 :: l1 :: l2 :: l3 :: l4 :: l5 :: ms).length ((l0 :: l1 :: l2 :: l3 :: l4 :: l5 :: ms).map aQ)) (hn : (ps ++ [k0, k1]).length ≤ n) (hn2 : n ≤ maxLen) (hK : KidsAre (fun b => b < Bs) w (ps ++ [k0, k1]) cs) (hR : RowIn (fun b => b < Bs) w 4 B (ps ++ [k0, k1]).length cs) (hBw : Bs ≤ w.heap.size) :
    Calls Tryz.prog 68 [.pointer (some ⟨b, 0, none⟩), .agg #[.int .i64 2, aQ x, .slice A (l0 :: l1 :: l2 :: l3 :: l4 :: l5 :: ms).length m, .slice B (ps ++ [k0, k1]).length n]].toArray w fun e w' => e = .returned (.tuple #[]) ∧ Pr Bs b (treeP (.node 2 x (l0 :: l1 :: l2 :: l3 :: l4 :: l5 :: ms) (ps ++ [k0, k1])) s).1 (treeP (.node 2 x (l0 :: l1 :: l2 :: l3 :: l4 :: l5 :: ms) (ps ++ [k0, k1])) s).2 w' ∧ Prn Bs b w w' := by
  simp only [lsum, kbulk] at hl1 hl2
  have hgk : ∀ t, t ∈ ps → ∀ s, Gw (100 * tbulk t) s (treeP t s) := fun t ht s => Gw.tree _ t (Nat.le_refl _) (hks t (by simp [ht])).2.2 s
  have hKL := fq ps
  simp only [dr, kbulk] at hl1 hl2
  have hll := gN ms
  have hcl' := hcl
  simp only [List.length_cons] at hcl'
  obtain ⟨cs1, cs2, rfl, hKp, hKq⟩ := hK.part
  have hRp := hR.part hKp.length (by simp)
  have hE := Prn.refl (b := b) hBw
  have hG : s.2.length ≤ s.2.length := Nat.le_refl _
  have hG' : s.1.length ≤ s.1.length := Nat.le_refl _
  obtain ⟨lb, lo, rfl, _, hlb, _⟩ := hL.2 (by simp)
  obtain ⟨kb, ko, rfl, _, hkb, _⟩ := hR.2 (by simp)
  refine rE 161 Tryz.func68 rfl rfl rfl ?_
  intro a hf
  refine rR 2 hf rfl fun a hf => ?_
  obtain ⟨w1, b2, he, hB3, hx4, eb5, lb6⟩ := cC (P := Tryz.prog) (t := 34) (x := (.tmp 1)) hf rfl rfl w 0
  refine rV hf rfl he fun a hf => ?_
  have ge_b2 := Prn.ge_new hE eb5
  have ne_b_b2 : b ≠ b2 := cm hP.lt eb5
  replace hP := hP.chg0 hx4
  replace hE := hE.t0 hx4
  clear eb5 lb6
  refine rR 5 hf rfl fun a hf => rV hf rfl (an hf rfl (by kernel_rfl) hB3 rfl) fun a hf => rR 20 hf rfl fun a hf => rV hf rfl (an hf rfl (by kernel_rfl) hB3 rfl) fun a hf => rV hf rfl (nU hf Tryz.underlying25 rfl) fun a hf => rR 7 hf rfl fun a hf => rV hf rfl (an hf rfl (by kernel_rfl) hB3 rfl) fun a hf => rV hf rfl (aB (sz := 1) (k := 0) (r := lo) hf Tryz.underlying32 (by kernel_rfl) rfl rfl rfl (by simp) rfl) fun a hf => rV hf rfl (ex_load hf rfl (by kernel_rfl) (ax hL hE (j := 0) rfl)) fun a hf => rC hf rfl rfl (by kernel_rfl) (cD (lead := l0) (tok := [100, 101, 102]) hP (by (try simp only [ac, List.length_append, List.length_cons, List.length_nil]); omega) (by (try simp only [ac, List.length_append, List.length_cons, List.length_nil]); omega) hE.now) ?_
  rintro _ w9 ⟨rfl, hPn, hEn⟩
  refine ⟨_, rfl, fun a hf => ?_⟩
  have hx8 := hEn.chg
  replace hB3 := hB3.chg hx8 (aF hB3 rfl (Ne.symm ne_b_b2))
  replace hE := hE.trans hx8 (fun _ h => .inl h)
  obtain ⟨s7, es7⟩ : ∃ z, z = ac l0 [100, 101, 102] s := ⟨_, rfl⟩
  replace hPn : Pr Bs b (ac l0 [100, 101, 102] s).1 (ac l0 [100, 101, 102] s).2 w9 := hPn
  rw [← es7] at hPn
  have gs7 := bg l0 [100, 101, 102] s
  rw [← es7] at gs7
  obtain ⟨gs7, gs7'⟩ := gs7
  (try simp only [List.length_cons, List.length_nil, lsum] at gs7 gs7')
  replace hG := nlt gs7 (Nat.add_le_add_right hG _)
  replace hG' := nlt gs7' (Nat.add_le_add_right hG' _)
  clear gs7 gs7'
  clear hP; have hP := hPn; clear hPn hEn
  refine rR 3 hf rfl fun a hf => ?_
  have s_lb := ax hL hE (j := 1) rfl
  have s_hB3 := hB3
  refine rD (fun x => x.cell? ⟨b2, 2, none⟩ = w9.cell? ⟨b2, 2, none⟩ ∧ x.cell? ⟨lb, lo + 1, none⟩ = w9.cell? ⟨lb, lo + 1, none⟩ ∧ x.cell? ⟨b2, 1, none⟩ = w9.cell? ⟨b2, 1, none⟩) 8 8 rfl (by kernel_rfl) (by kernel_rfl) ?_
  intro w10 hx11 hsel
  replace hB3 := hB3.c0 hx11
  replace hP := hP.chg0 hx11
  replace hE := hE.t0 hx11
  have hS0 : w10.cell? ⟨b2, 2, none⟩ = w9.cell? ⟨b2, 2, none⟩ ∧ w10.cell? ⟨lb, lo + 1, none⟩ = w9.cell? ⟨lb, lo + 1, none⟩ ∧ w10.cell? ⟨b2, 1, none⟩ = w9.cell? ⟨b2, 1, none⟩ := ⟨(hB3.cell 2).trans (s_hB3.cell 2).symm, ((ax hL hE (j := 1) rfl).trans s_lb.symm), (hB3.cell 1).trans (s_hB3.cell 1).symm⟩
  refine dR [0, 1] hsel (by kernel_rfl) hf rfl rfl (.inl hS0) fun a hf => dL 2 rfl rfl hsel (by kernel_rfl) hf rfl hS0 (fun x hS => ex_load hf rfl (by kernel_rfl) (hS.1.trans ((s_hB3.cell 2).trans rfl))) fun a hf => dV 3 rfl rfl hsel (by kernel_rfl) hf rfl (.inl hS0) (fun x => aB (sz := 1) (k := 1) (r := lo + 1) hf Tryz.underlying32 (by kernel_rfl) rfl rfl rfl (by simp) rfl) fun a hf => dL 4 rfl rfl hsel (by kernel_rfl) hf rfl hS0 (fun x hS => ex_load hf rfl (by kernel_rfl) (hS.2.1.trans s_lb)) fun a hf => dR [5] hsel (by kernel_rfl) hf rfl rfl (.inl hS0) fun a hf => dL 6 rfl rfl hsel (by kernel_rfl) hf rfl hS0 (fun x hS => ex_load hf rfl (by kernel_rfl) (hS.2.2.trans ((s_hB3.cell 1).trans rfl))) fun a hf => mw 7 (by kernel_rfl) rfl hf rfl rfl rfl (by kernel_rfl) (cD (lead := l1) (tok := x) hP (by (try simp only [ac, List.length_append, List.length_cons, List.length_nil]); omega) (by (try simp only [ac, List.length_append, List.length_cons, List.length_nil]); omega) hE.now) ?_
  rintro _ w14 ⟨rfl, hPn, hEn⟩
  refine ⟨_, rfl, fun a hf => ?_⟩
  have hx13 := hEn.chg
  replace hB3 := hB3.chg hx13 (aF hB3 rfl (Ne.symm ne_b_b2))
  replace hE := hE.trans hx13 (fun _ h => .inl h)
  obtain ⟨s12, es12⟩ : ∃ z, z = ac l1 x s7 := ⟨_, rfl⟩
  replace hPn : Pr Bs b (ac l1 x s7).1 (ac l1 x s7).2 w14 := hPn
  rw [← es12] at hPn
  have gs12 := bg l1 x s7
  rw [← es12] at gs12
  obtain ⟨gs12, gs12'⟩ := gs12
  (try simp only [List.length_cons, List.length_nil, lsum] at gs12 gs12')
  replace hG := nlt gs12 (Nat.add_le_add_right hG _)
  replace hG' := nlt gs12' (Nat.add_le_add_right hG' _)
  clear gs12 gs12'
  clear hP; have hP := hPn; clear hPn hEn
  clear hS0
  have hS0 : w14.cell? ⟨b2, 2, none⟩ = w9.cell? ⟨b2, 2, none⟩ ∧ w14.cell? ⟨lb, lo + 1, none⟩ = w9.cell? ⟨lb, lo + 1, none⟩ ∧ w14.cell? ⟨b2, 1, none⟩ = w9.cell? ⟨b2, 1, none⟩ := ⟨(hB3.cell 2).trans (s_hB3.cell 2).symm, ((ax hL hE (j := 1) rfl).trans s_lb.symm), (hB3.cell 1).trans (s_hB3.cell 1).symm⟩
  refine ⟨.inl hS0, ?_⟩
  refine rN (by kernel_rfl) ?_
  clear hS0 hsel
  refine rR 5 hf rfl fun a hf => rV hf rfl (an hf rfl (by kernel_rfl) hB3 rfl) fun a hf => rV hf rfl (aB (sz := 1) (k := 2) (r := lo + 2) hf Tryz.underlying32 (by kernel_rfl) rfl rfl rfl (by simp) rfl) fun a hf => rV hf rfl (ex_load hf rfl (by kernel_rfl) (ax hL hE (j := 2) rfl)) fun a hf => rC hf rfl rfl (by kernel_rfl) (cD (lead := l2) (tok := [40]) hP (by (try simp only [ac, List.length_append, List.length_cons, List.length_nil]); omega) (by (try simp only [ac, List.length_append, List.length_cons, List.length_nil]); omega) hE.now) ?_
  rintro _ w17 ⟨rfl, hPn, hEn⟩
  refine ⟨_, rfl, fun a hf => ?_⟩
  have hx16 := hEn.chg
  replace hB3 := hB3.chg hx16 (aF hB3 rfl (Ne.symm ne_b_b2))
  replace hE := hE.trans hx16 (fun _ h => .inl h)
  obtain ⟨s15, es15⟩ : ∃ z, z = ac l2 [40] s12 := ⟨_, rfl⟩
  replace hPn : Pr Bs b (ac l2 [40] s12).1 (ac l2 [40] s12).2 w17 := hPn
  rw [← es15] at hPn
  have gs15 := bg l2 [40] s12
  rw [← es15] at gs15
  obtain ⟨gs15, gs15'⟩ := gs15
  (try simp only [List.length_cons, List.length_nil, lsum] at gs15 gs15')
  replace hG := nlt gs15 (Nat.add_le_add_right hG _)
  replace hG' := nlt gs15' (Nat.add_le_add_right hG' _)
  clear gs15 gs15'
  clear hP; have hP := hPn; clear hPn hEn
  refine rR 3 hf rfl fun a hf => ?_
  have s_hB3 := hB3
  refine rD (fun x => x.cell? ⟨b2, 0, none⟩ = w17.cell? ⟨b2, 0, none⟩ ∧ x.cell? ⟨b2, 1, none⟩ = w17.cell? ⟨b2, 1, none⟩ ∧ x.cell? ⟨b2, 2, none⟩ = w17.cell? ⟨b2, 2, none⟩ ∧ x.cell? ⟨b2, 3, none⟩ = w17.cell? ⟨b2, 3, none⟩) 8 8 rfl (by kernel_rfl) (by kernel_rfl) ?_
  intro w18 hx19 hsel
  replace hB3 := hB3.c0 hx19
  replace hP := hP.chg0 hx19
  replace hE := hE.t0 hx19
  have hS0 : w18.cell? ⟨b2, 0, none⟩ = w17.cell? ⟨b2, 0, none⟩ ∧ w18.cell? ⟨b2, 1, none⟩ = w17.cell? ⟨b2, 1, none⟩ ∧ w18.cell? ⟨b2, 2, none⟩ = w17.cell? ⟨b2, 2, none⟩ ∧ w18.cell? ⟨b2, 3, none⟩ = w17.cell? ⟨b2, 3, none⟩ := ⟨(hB3.cell 0).trans (s_hB3.cell 0).symm, (hB3.cell 1).trans (s_hB3.cell 1).symm, (hB3.cell 2).trans (s_hB3.cell 2).symm, (hB3.cell 3).trans (s_hB3.cell 3).symm⟩
  refine dR [0] hsel (by kernel_rfl) hf rfl rfl (.inl hS0) fun a hf => dL 1 rfl rfl hsel (by kernel_rfl) hf rfl hS0 (fun x hS => tc hf rfl (by kernel_rfl) s_hB3 rfl hS.1 hS.2.1 hS.2.2.1 hS.2.2.2) fun a hf => dR [2] hsel (by kernel_rfl) hf rfl rfl (.inl hS0) fun a hf => dL 3 rfl rfl hsel (by kernel_rfl) hf rfl hS0 (fun x hS => ex_load hf rfl (by kernel_rfl) (hS.2.2.2.trans ((s_hB3.cell 3).trans rfl))) fun a hf => dR [4] hsel (by kernel_rfl) hf rfl rfl (.inl hS0) fun a hf => dV 5 rfl rfl hsel (by kernel_rfl) hf rfl (.inl hS0) (fun x => qa hf rfl rfl rfl (by simp only [List.length_append, List.length_cons, List.length_nil]; omega)) fun a hf => dV 6 rfl rfl hsel (by kernel_rfl) hf rfl (.inl hS0) (fun x => Dg (sz := 4) (k := ps.length) hf Tryz.underlying25 (by kernel_rfl) rfl rfl (by simp only [List.length_append, List.length_cons, List.length_nil]; omega) (by simp only [List.length_append, List.length_cons, List.length_nil] at hn; omega)) fun a hf => ?_
  have hLn := hL.now hE
  have hKn := hKp.now hE
  have hRn := hRp.now hE
  refine mw 7 (by kernel_rfl) rfl hf rfl rfl rfl (by kernel_rfl) (ug ih (s := s15) (ls := (l0 :: l1 :: l2 :: l3 :: l4 :: l5 :: ms)) (ks := ps) (c := 6) (ci := 6) (by decide) (by decide) (by decide) hcl (fun t ht => hks t (by simp [ht])) (by simp only [lsum]; omega) (by simp only [lsum]; omega) hP hLn hKn hRn hE.now) ?_
  rintro _ w22 ⟨rfl, hPn, hEn⟩
  refine ⟨_, rfl, fun a hf => ?_⟩
  have hx21 := hEn.chg
  replace hB3 := hB3.chg hx21 (aF hB3 rfl (Ne.symm ne_b_b2))
  replace hE := hE.trans hx21 (fun _ h => .inl h)
  obtain ⟨s20, es20⟩ : ∃ z, z = aZ (l0 :: l1 :: l2 :: l3 :: l4 :: l5 :: ms) 6 (treesP ps) 0 s15 := ⟨_, rfl⟩
  replace hPn : Pr Bs b (aZ (l0 :: l1 :: l2 :: l3 :: l4 :: l5 :: ms) 6 (treesP ps) 0 s15).1 (aZ (l0 :: l1 :: l2 :: l3 :: l4 :: l5 :: ms) 6 (treesP ps) 0 s15).2 w22 := hPn
  rw [← es20] at hPn
  have gs20 := qZ (ls := (l0 :: l1 :: l2 :: l3 :: l4 :: l5 :: ms)) (c := 6) (by decide) hgk s15
  rw [← es20] at gs20
  obtain ⟨gs20, gs20'⟩ := gs20
  (try simp only [List.length_cons, List.length_nil, lsum] at gs20 gs20')
  replace hG := nlt gs20 (Nat.add_le_add_right hG _)
  replace hG' := nlt gs20' (Nat.add_le_add_right hG' _)
  clear gs20 gs20'
  clear hP; have hP := hPn; clear hPn hEn
  clear hS0
  have hS0 : w22.cell? ⟨b2, 0, none⟩ = w17.cell? ⟨b2, 0, none⟩ ∧ w22.cell? ⟨b2, 1, none⟩ = w17.cell? ⟨b2, 1, none⟩ ∧ w22.cell? ⟨b2, 2, none⟩ = w17.cell? ⟨b2, 2, none⟩ ∧ w22.cell? ⟨b2, 3, none⟩ = w17.cell? ⟨b2, 3, none⟩ := ⟨(hB3.cell 0).trans (s_hB3.cell 0).symm, (hB3.cell 1).trans (s_hB3.cell 1).symm, (hB3.cell 2).trans (s_hB3.cell 2).symm, (hB3.cell 3).trans (s_hB3.cell 3).symm⟩
  refine ⟨.inl hS0, ?_⟩
  refine rN (by kernel_rfl) ?_
  clear hS0 hsel
  refine rR 5 hf rfl fun a hf => rV hf rfl (an hf rfl (by kernel_rfl) hB3 rfl) fun a hf => rV hf rfl (aB (sz := 1) (k := 3) (r := lo + 3) hf Tryz.underlying32 (by kernel_rfl) rfl rfl rfl (by simp) rfl) fun a hf => rV hf rfl (ex_load hf rfl (by kernel_rfl) (ax hL hE (j := 3) rfl)) fun a hf => rC hf rfl rfl (by kernel_rfl) (cD (lead := l3) (tok := [41]) hP (by (try simp only [ac, List.length_append, List.length_cons, List.length_nil]); omega) (by (try simp only [ac, List.length_append, List.length_cons, List.length_nil]); omega) hE.now) ?_
  rintro _ w25 ⟨rfl, hPn, hEn⟩
  refine ⟨_, rfl, fun a hf => ?_⟩
  have hx24 := hEn.chg
  replace hB3 := hB3.chg hx24 (aF hB3 rfl (Ne.symm ne_b_b2))
  replace hE := hE.trans hx24 (fun _ h => .inl h)
  obtain ⟨s23, es23⟩ : ∃ z, z = ac l3 [41] s20 := ⟨_, rfl⟩
  replace hPn : Pr Bs b (ac l3 [41] s20).1 (ac l3 [41] s20).2 w25 := hPn
  rw [← es23] at hPn
  have gs23 := bg l3 [41] s20
  rw [← es23] at gs23
  obtain ⟨gs23, gs23'⟩ := gs23
  (try simp only [List.length_cons, List.length_nil, lsum] at gs23 gs23')
  replace hG := nlt gs23 (Nat.add_le_add_right hG _)
  replace hG' := nlt gs23' (Nat.add_le_add_right hG' _)
  clear gs23 gs23'
  clear hP; have hP := hPn; clear hPn hEn
  refine rR 6 hf rfl fun a hf => rV hf rfl (an hf rfl (by kernel_rfl) hB3 rfl) fun a hf => rV hf rfl (aB (sz := 1) (k := 4) (r := lo + 4) hf Tryz.underlying32 (by kernel_rfl) rfl rfl rfl (by simp) rfl) fun a hf => rV hf rfl (ex_load hf rfl (by kernel_rfl) (ax hL hE (j := 4) rfl)) fun a hf => rC hf rfl rfl (by kernel_rfl) (cD (lead := l4) (tok := [58]) hP (by (try simp only [ac, List.length_append, List.length_cons, List.length_nil]); omega) (by (try simp only [ac, List.length_append, List.length_cons, List.length_nil]); omega) hE.now) ?_
  rintro _ w28 ⟨rfl, hPn, hEn⟩
  refine ⟨_, rfl, fun a hf => ?_⟩
  have hx27 := hEn.chg
  replace hB3 := hB3.chg hx27 (aF hB3 rfl (Ne.symm ne_b_b2))
  replace hE := hE.trans hx27 (fun _ h => .inl h)
  obtain ⟨s26, es26⟩ : ∃ z, z = ac l4 [58] s23 := ⟨_, rfl⟩
  replace hPn : Pr Bs b (ac l4 [58] s23).1 (ac l4 [58] s23).2 w28 := hPn
  rw [← es26] at hPn
  have gs26 := bg l4 [58] s23
  rw [← es26] at gs26
  obtain ⟨gs26, gs26'⟩ := gs26
  (try simp only [List.length_cons, List.length_nil, lsum] at gs26 gs26')
  replace hG := nlt gs26 (Nat.add_le_add_right hG _)
  replace hG' := nlt gs26' (Nat.add_le_add_right hG' _)
  clear gs26 gs26'
  clear hP; have hP := hPn; clear hPn hEn
  refine rR 6 hf rfl fun a hf => rV hf rfl (an hf rfl (by kernel_rfl) hB3 rfl) fun a hf => rR 1 hf rfl fun a hf => rV hf rfl (qa hf rfl rfl rfl (by simp only [List.length_append, List.length_cons, List.length_nil]; omega)) fun a hf => rV hf rfl (aB (sz := 4) (k := ps.length) (r := ko + ps.length * 4) hf Tryz.underlying25 (by kernel_rfl) rfl rfl (by simp only [List.length_append, List.length_cons, List.length_nil]; omega) (by simp only [List.length_append, List.length_cons, List.length_nil]; omega) rfl) fun a hf => ?_
  obtain ⟨d0, d1, d2, d3, hT, hK4⟩ := dp hK hR hE (i := ps.length) (t := k0) (by simp)
  have on_T := hT.one
  refine rV hf rfl (ex_loadN (cs := [d0, d1, d2, d3]) (m := 4) hf rfl (by kernel_rfl) rfl hK4) fun a hf => rC hf rfl rfl (by kernel_rfl) (ih k0 _ Bs b s26 d0 d1 d2 d3 (hks _ (by simp)).1 (hks _ (by simp)).2.1 (hks _ (by simp)).2.2 (by (try simp only [ac, List.length_append, List.length_cons, List.length_nil]); omega) (by (try simp only [ac, List.length_append, List.length_cons, List.length_nil]); omega) hP hT hE.now) ?_
  rintro _ w31 ⟨rfl, hPn, hEn⟩
  refine ⟨_, rfl, fun a hf => ?_⟩
  have hx30 := hEn.chg
  replace hB3 := hB3.chg hx30 (aF hB3 rfl (Ne.symm ne_b_b2))
  replace hE := hE.trans hx30 (fun _ h => .inl h)
  obtain ⟨s29, es29⟩ : ∃ z, z = treeP k0 s26 := ⟨_, rfl⟩
  replace hPn : Pr Bs b (treeP k0 s26).1 (treeP k0 s26).2 w31 := hPn
  rw [← es29] at hPn
  have gs29 := dd (t := k0) (hks _ (by simp)).2.2 s26
  rw [← es29] at gs29
  obtain ⟨gs29, gs29'⟩ := gs29
  (try simp only [List.length_cons, List.length_nil, lsum] at gs29 gs29')
  replace hG := nlt gs29 (Nat.add_le_add_right hG _)
  replace hG' := nlt gs29' (Nat.add_le_add_right hG' _)
  clear gs29 gs29'
  clear hP; have hP := hPn; clear hPn hEn
  refine rR 6 hf rfl fun a hf => rV hf rfl (an hf rfl (by kernel_rfl) hB3 rfl) fun a hf => rV hf rfl (aB (sz := 1) (k := 5) (r := lo + 5) hf Tryz.underlying32 (by kernel_rfl) rfl rfl rfl (by simp) rfl) fun a hf => rV hf rfl (ex_load hf rfl (by kernel_rfl) (ax hL hE (j := 5) rfl)) fun a hf => rC hf rfl rfl (by kernel_rfl) (cD (lead := l5) (tok := [61]) hP (by (try simp only [ac, List.length_append, List.length_cons, List.length_nil]); omega) (by (try simp only [ac, List.length_append, List.length_cons, List.length_nil]); omega) hE.now) ?_
  rintro _ w34 ⟨rfl, hPn, hEn⟩
  refine ⟨_, rfl, fun a hf => ?_⟩
  have hx33 := hEn.chg
  replace hB3 := hB3.chg hx33 (aF hB3 rfl (Ne.symm ne_b_b2))
  replace hE := hE.trans hx33 (fun _ h => .inl h)
  obtain ⟨s32, es32⟩ : ∃ z, z = ac l5 [61] s29 := ⟨_, rfl⟩
  replace hPn : Pr Bs b (ac l5 [61] s29).1 (ac l5 [61] s29).2 w34 := hPn
  rw [← es32] at hPn
  have gs32 := bg l5 [61] s29
  rw [← es32] at gs32
  obtain ⟨gs32, gs32'⟩ := gs32
  (try simp only [List.length_cons, List.length_nil, lsum] at gs32 gs32')
  replace hG := nlt gs32 (Nat.add_le_add_right hG _)
  replace hG' := nlt gs32' (Nat.add_le_add_right hG' _)
  clear gs32 gs32'
  clear hP; have hP := hPn; clear hPn hEn
  refine rR 5 hf rfl fun a hf => rV hf rfl (an hf rfl (by kernel_rfl) hB3 rfl) fun a hf => rR 1 hf rfl fun a hf => rV hf rfl (qa hf rfl rfl rfl (by simp only [List.length_append, List.length_cons, List.length_nil]; omega)) fun a hf => rV hf rfl (aB (sz := 4) (k := (ps.length + 1)) (r := ko + (ps.length + 1) * 4) hf Tryz.underlying25 (by kernel_rfl) rfl rfl (by simp only [List.length_append, List.length_cons, List.length_nil]; omega) (by simp only [List.length_append, List.length_cons, List.length_nil]; omega) rfl) fun a hf => ?_
  obtain ⟨d0, d1, d2, d3, hT, hK4⟩ := dp hK hR hE (i := (ps.length + 1)) (t := k1) (by simp)
  have on_T := hT.one
  refine rV hf rfl (ex_loadN (cs := [d0, d1, d2, d3]) (m := 4) hf rfl (by kernel_rfl) rfl hK4) fun a hf => rC hf rfl rfl (by kernel_rfl) (ih k1 _ Bs b s32 d0 d1 d2 d3 (hks _ (by simp)).1 (hks _ (by simp)).2.1 (hks _ (by simp)).2.2 (by (try simp only [ac, List.length_append, List.length_cons, List.length_nil]); omega) (by (try simp only [ac, List.length_append, List.length_cons, List.length_nil]); omega) hP hT hE.now) ?_
  rintro _ w37 ⟨rfl, hPn, hEn⟩
  refine ⟨_, rfl, fun a hf => ?_⟩
  have hx36 := hEn.chg
  replace hB3 := hB3.chg hx36 (aF hB3 rfl (Ne.symm ne_b_b2))
  replace hE := hE.trans hx36 (fun _ h => .inl h)
  obtain ⟨s35, es35⟩ : ∃ z, z = treeP k1 s32 := ⟨_, rfl⟩
  replace hPn : Pr Bs b (treeP k1 s32).1 (treeP k1 s32).2 w37 := hPn
  rw [← es35] at hPn
  have gs35 := dd (t := k1) (hks _ (by simp)).2.2 s32
  rw [← es35] at gs35
  obtain ⟨gs35, gs35'⟩ := gs35
  (try simp only [List.length_cons, List.length_nil, lsum] at gs35 gs35')
  replace hG := nlt gs35 (Nat.add_le_add_right hG _)
  replace hG' := nlt gs35' (Nat.add_le_add_right hG' _)
  clear gs35 gs35'
  clear hP; have hP := hPn; clear hPn hEn
  refine rR 2 hf rfl fun a hf => ?_
  have eq : treeP (.node 2 x (l0 :: l1 :: l2 :: l3 :: l4 :: l5 :: ms) (ps ++ [k0, k1])) s = s35 := by subst es35; subst es32; subst es29; subst es26; subst es23; subst es20; subst es15; subst es12; subst es7; rw [treeP, ma, treesP, treesP, treesP, EF]; rfl
  rw [eq]
  exact rF (rs := []) hf rfl rfl ⟨rfl, hP, hE⟩
end Go.Proofs.YtgpcdfbmbcognaaGreat
namespace Go.Proofs.YtgpcdfbmbcognaaGreat
open Go.RowKit Lx Sx
set_option maxRecDepth 100000
set_option maxHeartbeats 4000000
def im (ks : List Tree) (s : WS) : WS := (treesP ks).foldl (fun s f => f s) s
theorem zp {ks : List Tree} {i : Nat} (s : WS) (h : i < ks.length) : im (ks.take (i + 1)) s = treeP ks[i] (im (ks.take i) s) := by
 unfold im
 rw [List.take_succ_eq_append_getElem h, ma, treesP, treesP, List.foldl_append]; rfl
theorem d1 {N : Nat} (ih : cF N) {w : World} {Bs b : Nat} {s : WS} {x : List UInt8} {l0 l1 l2 : List UInt8} {ks : List Tree} {cs : List Value} {A B : Option Addr} {m n : Nat} (hks : ∀ t, t ∈ ks → tsize t ≤ N ∧ shapedT t = true ∧ leadedT t = true)
    (hl1 : s.2.length + 100 * (x.length + lsum [l0, l1, l2] + kbulk ks + 1) ≤ 1000000000000) (hl2 : s.1.length + 100 * (x.length + lsum [l0, l1, l2] + kbulk ks + 1) ≤ 1000000000000) (hP : Pr Bs b s.1 s.2 w) (hL : RowIn (fun b => b < Bs) w 1 A [l0, l1, l2].length ([l0, l1, l2].map aQ)) (hn : ks.length ≤ n) (hn2 : n ≤ maxLen) (hK : KidsAre (fun b => b < Bs) w ks cs) (hR : RowIn (fun b => b < Bs) w 4 B ks.length cs) (hBw : Bs ≤ w.heap.size) :
    Calls Tryz.prog 68 [.pointer (some ⟨b, 0, none⟩), .agg #[.int .i64 1, aQ x, .slice A [l0, l1, l2].length m, .slice B ks.length n]].toArray w fun e w' => e = .returned (.tuple #[]) ∧ Pr Bs b (treeP (.node 1 x [l0, l1, l2] ks) s).1 (treeP (.node 1 x [l0, l1, l2] ks) s).2 w' ∧ Prn Bs b w w' := by
  simp only [lsum, kbulk] at hl1 hl2
  have hgk : ∀ t, t ∈ ks → ∀ s, Gw (100 * tbulk t) s (treeP t s) := fun t ht s => Gw.tree _ t (Nat.le_refl _) (hks t ht).2.2 s
  have hKL := fq ks
  have hE := Prn.refl (b := b) hBw
  have hG : s.2.length ≤ s.2.length := Nat.le_refl _
  have hG' : s.1.length ≤ s.1.length := Nat.le_refl _
  obtain ⟨lb, lo, rfl, _, hlb, _⟩ := hL.2 (by simp)
  refine rE 161 Tryz.func68 rfl rfl rfl ?_
  intro a hf
  refine rR 2 hf rfl ?_
  clear hf a; intro a hf
  obtain ⟨w1, b2, he, hB3, hx4, eb5, lb6⟩ := cC (P := Tryz.prog) (t := 34) (x := (.tmp 1)) hf rfl rfl w 0
  refine rV hf rfl he ?_
  clear he hf a; intro a hf
  have ge_b2 := Prn.ge_new hE eb5
  have ne_b_b2 : b ≠ b2 := cm hP.lt eb5
  replace hP := hP.chg0 hx4
  replace hE := hE.t0 hx4
  clear eb5 lb6
  refine rR 5 hf rfl ?_
  clear hf a; intro a hf
  refine rV hf rfl (an hf rfl (by kernel_rfl) hB3 rfl) ?_
  clear hf a; intro a hf
  refine rR 14 hf rfl ?_
  clear hf a; intro a hf
  refine rV hf rfl (an hf rfl (by kernel_rfl) hB3 rfl) ?_
  clear hf a; intro a hf
  refine rV hf rfl (aB (sz := 1) (k := 0) (r := lo) hf Tryz.underlying32 (by kernel_rfl) rfl rfl rfl (by simp) rfl) ?_
  clear hf a; intro a hf
  refine rV hf rfl (ex_load hf rfl (by kernel_rfl) (ax hL hE (j := 0) rfl)) ?_
  clear hf a; intro a hf
  refine rC hf rfl rfl (by kernel_rfl) (cD (lead := l0) (tok := [109, 111, 100, 117, 108, 101]) hP (by (try simp only [ac, List.length_append, List.length_cons, List.length_nil]); omega) (by (try simp only [ac, List.length_append, List.length_cons, List.length_nil]); omega) hE.now) ?_
  rintro _ w9 ⟨rfl, hPn, hEn⟩
  refine ⟨_, rfl, ?_⟩
  clear hf a; intro a hf
  have hx8 := hEn.chg
  replace hB3 := hB3.chg hx8 (aF hB3 rfl (Ne.symm ne_b_b2))
  replace hE := hE.trans hx8 (fun _ h => .inl h)
  obtain ⟨s7, es7⟩ : ∃ z, z = ac l0 [109, 111, 100, 117, 108, 101] s := ⟨_, rfl⟩
  replace hPn : Pr Bs b (ac l0 [109, 111, 100, 117, 108, 101] s).1 (ac l0 [109, 111, 100, 117, 108, 101] s).2 w9 := hPn
  rw [← es7] at hPn
  have gs7 := bg l0 [109, 111, 100, 117, 108, 101] s
  rw [← es7] at gs7
  obtain ⟨gs7, gs7'⟩ := gs7
  (try simp only [List.length_cons, List.length_nil, lsum] at gs7 gs7')
  replace hG := nlt gs7 (Nat.add_le_add_right hG _)
  replace hG' := nlt gs7' (Nat.add_le_add_right hG' _)
  clear gs7 gs7'
  clear hP; have hP := hPn; clear hPn hEn
  refine rR 3 hf rfl ?_
  clear hf a; intro a hf
  have s_lb := ax hL hE (j := 1) rfl
  have s_hB3 := hB3
  refine rD (fun x => x.cell? ⟨b2, 2, none⟩ = w9.cell? ⟨b2, 2, none⟩ ∧ x.cell? ⟨lb, lo + 1, none⟩ = w9.cell? ⟨lb, lo + 1, none⟩ ∧ x.cell? ⟨b2, 1, none⟩ = w9.cell? ⟨b2, 1, none⟩) 8 8 rfl (by kernel_rfl) (by kernel_rfl) ?_
  intro w10 hx11 hsel
  replace hB3 := hB3.c0 hx11
  replace hP := hP.chg0 hx11
  replace hE := hE.t0 hx11
  have hS0 : w10.cell? ⟨b2, 2, none⟩ = w9.cell? ⟨b2, 2, none⟩ ∧ w10.cell? ⟨lb, lo + 1, none⟩ = w9.cell? ⟨lb, lo + 1, none⟩ ∧ w10.cell? ⟨b2, 1, none⟩ = w9.cell? ⟨b2, 1, none⟩ := ⟨(hB3.cell 2).trans (s_hB3.cell 2).symm, ((ax hL hE (j := 1) rfl).trans s_lb.symm), (hB3.cell 1).trans (s_hB3.cell 1).symm⟩
  refine dR [0, 1] hsel (by kernel_rfl) hf rfl rfl (.inl hS0) ?_
  clear hf a; intro a hf
  refine dL 2 rfl rfl hsel (by kernel_rfl) hf rfl hS0 (fun x hS => ex_load hf rfl (by kernel_rfl) (hS.1.trans ((s_hB3.cell 2).trans rfl))) ?_
  clear hf a; intro a hf
  refine dV 3 rfl rfl hsel (by kernel_rfl) hf rfl (.inl hS0) (fun x => aB (sz := 1) (k := 1) (r := lo + 1) hf Tryz.underlying32 (by kernel_rfl) rfl rfl rfl (by simp) rfl) ?_
  clear hf a; intro a hf
  refine dL 4 rfl rfl hsel (by kernel_rfl) hf rfl hS0 (fun x hS => ex_load hf rfl (by kernel_rfl) (hS.2.1.trans s_lb)) ?_
  clear hf a; intro a hf
  refine dR [5] hsel (by kernel_rfl) hf rfl rfl (.inl hS0) ?_
  clear hf a; intro a hf
  refine dL 6 rfl rfl hsel (by kernel_rfl) hf rfl hS0 (fun x hS => ex_load hf rfl (by kernel_rfl) (hS.2.2.trans ((s_hB3.cell 1).trans rfl))) ?_
  clear hf a; intro a hf
  refine mw 7 (by kernel_rfl) rfl hf rfl rfl rfl (by kernel_rfl) (cD (lead := l1) (tok := x) hP (by (try simp only [ac, List.length_append, List.length_cons, List.length_nil]); omega) (by (try simp only [ac, List.length_append, List.length_cons, List.length_nil]); omega) hE.now) ?_
  rintro _ w14 ⟨rfl, hPn, hEn⟩
  refine ⟨_, rfl, ?_⟩
  clear hf a; intro a hf
  have hx13 := hEn.chg
  replace hB3 := hB3.chg hx13 (aF hB3 rfl (Ne.symm ne_b_b2))
  replace hE := hE.trans hx13 (fun _ h => .inl h)
  obtain ⟨s12, es12⟩ : ∃ z, z = ac l1 x s7 := ⟨_, rfl⟩
  replace hPn : Pr Bs b (ac l1 x s7).1 (ac l1 x s7).2 w14 := hPn
  rw [← es12] at hPn
  have gs12 := bg l1 x s7
  rw [← es12] at gs12
  obtain ⟨gs12, gs12'⟩ := gs12
  (try simp only [List.length_cons, List.length_nil, lsum] at gs12 gs12')
  replace hG := nlt gs12 (Nat.add_le_add_right hG _)
  replace hG' := nlt gs12' (Nat.add_le_add_right hG' _)
  clear gs12 gs12'
  clear hP; have hP := hPn; clear hPn hEn
  clear hS0
  have hS0 : w14.cell? ⟨b2, 2, none⟩ = w9.cell? ⟨b2, 2, none⟩ ∧ w14.cell? ⟨lb, lo + 1, none⟩ = w9.cell? ⟨lb, lo + 1, none⟩ ∧ w14.cell? ⟨b2, 1, none⟩ = w9.cell? ⟨b2, 1, none⟩ := ⟨(hB3.cell 2).trans (s_hB3.cell 2).symm, ((ax hL hE (j := 1) rfl).trans s_lb.symm), (hB3.cell 1).trans (s_hB3.cell 1).symm⟩
  refine ⟨.inl hS0, ?_⟩
  refine rN (by kernel_rfl) ?_
  clear hS0 hsel
  refine rR 5 hf rfl ?_
  clear hf a; intro a hf
  refine rV hf rfl (an hf rfl (by kernel_rfl) hB3 rfl) ?_
  clear hf a; intro a hf
  refine rV hf rfl (nU hf Tryz.underlying25 rfl) ?_
  clear hf a; intro a hf
  refine rR 4 hf rfl ?_
  clear hf a; intro a hf
  refine rL (fun g a w' => ∃ i, Fr a 161 (fm [(0, .pointer (some ⟨b, 0, none⟩)), (3, .pointer (some ⟨b2, 0, none⟩)), (26, .slice B ks.length n), (27, .int .i64 (ks.length : Nat)), (28, .int .i64 (i : Nat))]) ∧ Prn Bs b w w' ∧ Blk w' b2 34 [.int .i64 1, aQ x, .slice (some ⟨lb, lo, none⟩) [l0, l1, l2].length m, .slice B ks.length n] ∧ Pr Bs b (im (ks.take i) s12).1 (im (ks.take i) s12).2 w' ∧ i ≤ ks.length ∧ g = ks.length - i) _ ⟨0, hf.pick ⟨rfl, rfl, rfl, rfl, rfl, trivial⟩, hE, hB3, by simpa [im, treesP] using hP, Nat.zero_le _, rfl⟩ ?_
  obtain ⟨b5, eb5⟩ : ∃ x, b2 = x := ⟨_, rfl⟩
  rw [eb5]
  have ge_b5 : w.heap.size ≤ b5 := eb5 ▸ ge_b2
  have ne_b_b5 : b ≠ b5 := eb5 ▸ ne_b_b2
  clear eb5 hf a hP
  intro g0 a w' hI
  obtain ⟨i, hf, hE, hB5, hP, hi, rfl⟩ := hI
  by_cases hlt : i < ks.length
  obtain ⟨kb, ko, rfl, _, hkb, _⟩ := hR.2 (by omega)
  have hki : ks[i]? = some ks[i] := List.getElem?_eq_getElem hlt
  obtain ⟨d0, d1, d2, d3, hT, hK4⟩ := dp hK hR hE hki
  have on_T := hT.one
  have hmem : ks[i] ∈ ks := List.getElem_mem hlt
  have htt := sa hlt
  have hst := zp s12 hlt
  have hF := Gw.fold (ks.take i) (fun t ht => hgk t (List.mem_of_mem_take ht)) s12
  have hF1 : (im (ks.take i) s12).2.length ≤ _ := hF.1
  have hF2 : (im (ks.take i) s12).1.length ≤ _ := hF.2
  clear hF
  refine rR 2 hf rfl ?_
  clear hf a; intro a hf
  refine rV hf rfl (pr (c := true) hf rfl rfl (by simp; omega)) ?_
  clear hf a; intro a hf
  refine rR 10 hf rfl ?_
  clear hf a; intro a hf
  refine rV hf rfl (aB (sz := 4) (k := i) (r := ko + i * 4) hf Tryz.underlying25 (by kernel_rfl) rfl rfl rfl hlt rfl) ?_
  clear hf a; intro a hf
  refine rV hf rfl (ex_loadN (cs := [d0, d1, d2, d3]) (m := 4) hf rfl (by kernel_rfl) rfl hK4) ?_
  clear hf a; intro a hf
  obtain ⟨w15, b16, he, hB17, hx18, eb19, lb20⟩ := eT a w' 0
  refine rV hf rfl he ?_
  clear he hf a; intro a hf
  have ne_b5_b16 : b5 ≠ b16 := cm hB5.lt eb19
  have ge_b16 := Prn.ge_new hE eb19
  have ne_b_b16 : b ≠ b16 := cm hP.lt eb19
  replace hB5 := hB5.c0 hx18
  replace hP := hP.chg0 hx18
  replace hT := hT.t0 hx18
  replace hE := hE.t0 hx18
  clear eb19 lb20
  obtain ⟨w21, he, hB22, hx23⟩ := eN (.tmp 5) (.tmp 31) hf rfl rfl rfl on_T hB17 rfl 0
  refine rS hf rfl he ?_
  clear he hf a; intro a hf
  replace hB5 := hB5.c1 hx23 ne_b5_b16
  replace hP := hP.chgN hB17 (by decide) ne_b_b16 hx23
  replace hT := hT.chg hx23 (fun k hb hlt2 => (nmc (by have := hE.base; omega) nm0))
  replace hE := hE.n1 hx23 ge_b16
  clear hB17
  refine rR 4 hf rfl ?_
  clear hf a; intro a hf
  refine rV hf rfl (eK (m := 4) hf rfl (by kernel_rfl) hB22 rfl) ?_
  clear hf a; intro a hf
  refine rC hf rfl rfl (by kernel_rfl) (ih ks[i] _ Bs b (im (ks.take i) s12) d0 d1 d2 d3 (hks _ hmem).1 (hks _ hmem).2.1 (hks _ hmem).2.2 (by omega) (by omega) hP hT hE.now) ?_
  rintro _ w25 ⟨rfl, hPn, hEn⟩
  refine ⟨_, rfl, ?_⟩
  clear hf a; intro a hf
  have hx24 := hEn.chg
  replace hB5 := hB5.chg hx24 (aF hB5 rfl (Ne.symm ne_b_b5))
  replace hB22 := hB22.chg hx24 (aF hB22 rfl (Ne.symm ne_b_b16))
  replace hT := hT.chg hx24 (fun k hb hlt2 => (mi hb))
  replace hE := hE.trans hx24 (fun _ h => .inl h)
  clear hP; have hP : Pr Bs b (treeP ks[i] (im (ks.take i) s12)).1 (treeP ks[i] (im (ks.take i) s12)).2 w25 := hPn; clear hPn hEn
  refine rR 4 hf rfl ?_
  clear hf a; intro a hf
  refine rV hf rfl (qh hf rfl rfl rfl (by omega)) ?_
  clear hf a; intro a hf
  refine rR 2 hf rfl ?_
  clear hf a; intro a hf
  rw [← hst] at hP
  exact rX ⟨_, (by omega : ks.length - (i + 1) < ks.length - i), i + 1, hf.pick ⟨rfl, rfl, rfl, rfl, rfl, trivial⟩, hE, hB5, hP, by omega, rfl⟩
  have hz : ks.take i = ks := List.take_of_length_le (by omega)
  rw [hz] at hP
  obtain ⟨sF, esF⟩ : ∃ z, z = im ks s12 := ⟨_, rfl⟩
  rw [← esF] at hP
  have hF := Gw.fold ks hgk s12
  have hF1 : (im ks s12).2.length ≤ _ := hF.1
  have hF2 : (im ks s12).1.length ≤ _ := hF.2
  rw [← esF] at hF1 hF2
  clear hF
  replace hG := nlt hF1 (Nat.add_le_add_right hG _)
  replace hG' := nlt hF2 (Nat.add_le_add_right hG' _)
  clear hF1 hF2
  refine rR 2 hf rfl ?_
  clear hf a; intro a hf
  refine rV hf rfl (pr (c := false) hf rfl rfl (by simp; omega)) ?_
  clear hf a; intro a hf
  refine rR 6 hf rfl ?_
  clear hf a; intro a hf
  refine rO ?_
  refine rR 2 hf rfl ?_
  clear hf a; intro a hf
  have s_lb := ax hL hE (j := 2) rfl
  have s_hB5 := hB5
  refine rD (fun x => x.cell? ⟨b5, 2, none⟩ = w'.cell? ⟨b5, 2, none⟩ ∧ x.cell? ⟨lb, lo + 2, none⟩ = w'.cell? ⟨lb, lo + 2, none⟩) 8 8 rfl (by kernel_rfl) (by kernel_rfl) ?_
  intro w26 hx27 hsel
  replace hB5 := hB5.c0 hx27
  replace hP := hP.chg0 hx27
  replace hE := hE.t0 hx27
  have hS0 : w26.cell? ⟨b5, 2, none⟩ = w'.cell? ⟨b5, 2, none⟩ ∧ w26.cell? ⟨lb, lo + 2, none⟩ = w'.cell? ⟨lb, lo + 2, none⟩ := ⟨(hB5.cell 2).trans (s_hB5.cell 2).symm, ((ax hL hE (j := 2) rfl).trans s_lb.symm)⟩
  refine dR [0, 1, 2, 3] hsel (by kernel_rfl) hf rfl rfl (.inl hS0) ?_
  clear hf a; intro a hf
  refine dL 4 rfl rfl hsel (by kernel_rfl) hf rfl hS0 (fun x hS => ex_load hf rfl (by kernel_rfl) (hS.1.trans ((s_hB5.cell 2).trans rfl))) ?_
  clear hf a; intro a hf
  refine dV 5 rfl rfl hsel (by kernel_rfl) hf rfl (.inl hS0) (fun x => aB (sz := 1) (k := 2) (r := lo + 2) hf Tryz.underlying32 (by kernel_rfl) rfl rfl rfl (by simp) rfl) ?_
  clear hf a; intro a hf
  refine dL 6 rfl rfl hsel (by kernel_rfl) hf rfl hS0 (fun x hS => ex_load hf rfl (by kernel_rfl) (hS.2.trans s_lb)) ?_
  clear hf a; intro a hf
  refine mw 7 (by kernel_rfl) rfl hf rfl rfl rfl (by kernel_rfl) (wsL (s := l2) hP (by omega) hE.now) ?_
  rintro _ w29 ⟨rfl, hPn, hx28, _⟩
  refine ⟨_, rfl, ?_⟩
  clear hf a; intro a hf
  replace hB5 := hB5.chg hx28 (aF hB5 rfl (Ne.symm ne_b_b5))
  replace hE := hE.trans hx28 (fun _ h => .inl h)
  clear hP; have hP := hPn; clear hPn
  clear hS0
  have hS0 : w29.cell? ⟨b5, 2, none⟩ = w'.cell? ⟨b5, 2, none⟩ ∧ w29.cell? ⟨lb, lo + 2, none⟩ = w'.cell? ⟨lb, lo + 2, none⟩ := ⟨(hB5.cell 2).trans (s_hB5.cell 2).symm, ((ax hL hE (j := 2) rfl).trans s_lb.symm)⟩
  refine ⟨.inl hS0, ?_⟩
  refine rN (by kernel_rfl) ?_
  clear hS0 hsel
  refine rR 1 hf rfl ?_
  clear hf a; intro a hf
  have eq : treeP (.node 1 x [l0, l1, l2] ks) s = (sF.1, sF.2 ++ l2) := by subst esF; subst es12; subst es7; rw [treeP]; rfl
  rw [eq]
  exact rF (rs := []) hf rfl rfl ⟨rfl, hP, hE⟩
theorem t1 {N : Nat} (ih : cF N) {w : World} {Bs b : Nat} {s : WS} {x : List UInt8} {l0 l1 l2 : List UInt8} {ks : List Tree} {cs : List Value} {A B : Option Addr} {m n : Nat} (hks : ∀ t, t ∈ ks → tsize t ≤ N ∧ shapedT t = true ∧ leadedT t = true)
    (hl1 : s.2.length + 100 * (x.length + lsum [l0, l1, l2] + kbulk ks + 1) ≤ 1000000000000) (hl2 : s.1.length + 100 * (x.length + lsum [l0, l1, l2] + kbulk ks + 1) ≤ 1000000000000) (hP : Pr Bs b s.1 s.2 w) (hL : RowIn (fun b => b < Bs) w 1 A [l0, l1, l2].length ([l0, l1, l2].map aQ)) (hn : ks.length ≤ n) (hn2 : n ≤ maxLen) (hK : KidsAre (fun b => b < Bs) w ks cs) (hR : RowIn (fun b => b < Bs) w 4 B ks.length cs) (hBw : Bs ≤ w.heap.size) :
    Calls Tryz.prog 42 [.pointer (some ⟨b, 0, none⟩), .agg #[.int .i64 1, aQ x, .slice A [l0, l1, l2].length m, .slice B ks.length n]].toArray w fun e w' => e = .returned (.tuple #[]) ∧ Pr Bs b (treeP (.node 1 x [l0, l1, l2] ks) s).1 (treeP (.node 1 x [l0, l1, l2] ks) s).2 w' ∧ Prn Bs b w w' := by
  have hE := Prn.refl (b := b) hBw
  have hG : s.2.length ≤ s.2.length := Nat.le_refl _
  have hG' : s.1.length ≤ s.1.length := Nat.le_refl _
  obtain ⟨lb, lo, rfl, _, hlb, _⟩ := hL.2 (by simp)
  refine rE 216 Tryz.func42 rfl rfl rfl ?_
  intro a hf
  refine rR 2 hf rfl fun a hf => ?_
  obtain ⟨w1, b2, he, hB3, hx4, eb5, lb6⟩ := cC (P := Tryz.prog) (t := 34) (x := (.tmp 1)) hf rfl rfl w 0
  refine rV hf rfl he fun a hf => ?_
  have ge_b2 := Prn.ge_new hE eb5
  have ne_b_b2 : b ≠ b2 := cm hP.lt eb5
  replace hP := hP.chg0 hx4
  replace hE := hE.t0 hx4
  clear eb5 lb6
  refine rR 5 hf rfl fun a hf => rV hf rfl (an hf rfl (by kernel_rfl) hB3 rfl) fun a hf => rR 16 hf rfl fun a hf => rV hf rfl (eK (m := 4) hf rfl (by kernel_rfl) hB3 rfl) fun a hf => ?_
  have hLn := hL.now hE
  have hKn := hK.now hE
  have hRn := hR.now hE
  refine rC hf rfl rfl (by kernel_rfl) (d1 ih  hks hl1 hl2 hP hLn hn hn2 hKn hRn hE.now) ?_
  rintro _ w9 ⟨rfl, hPn, hEn⟩
  refine ⟨_, rfl, fun a hf => ?_⟩
  have hx8 := hEn.chg
  replace hB3 := hB3.chg hx8 (aF hB3 rfl (Ne.symm ne_b_b2))
  replace hE := hE.trans hx8 (fun _ h => .inl h)
  clear hP; have hP := hPn; clear hPn hEn
  refine rR 2 hf rfl fun a hf => ?_
  have eq : treeP (.node 1 x [l0, l1, l2] ks) s = treeP (.node 1 x [l0, l1, l2] ks) s := by rfl
  rw [eq]
  exact rF (rs := []) hf rfl rfl ⟨rfl, hP, hE⟩
theorem t2 {N : Nat} (ih : cF N) {w : World} {Bs b : Nat} {s : WS} {x : List UInt8} {l0 l1 l2 l3 l4 l5 : List UInt8} {ms : List (List UInt8)} {k0 k1 : Tree} {ps : List Tree} {cs : List Value} {A B : Option Addr} {m n : Nat} (hcl : 6 + ps.length ≤ (l0 :: l1 :: l2 :: l3 :: l4 :: l5 :: ms).length + 1) (hks : ∀ t, t ∈ (ps ++ [k0, k1]) → tsize t ≤ N ∧ shapedT t = true ∧ leadedT t = true)
    (hl1 : s.2.length + 100 * (x.length + lsum (l0 :: l1 :: l2 :: l3 :: l4 :: l5 :: ms) + kbulk (ps ++ [k0, k1]) + 1) ≤ 1000000000000) (hl2 : s.1.length + 100 * (x.length + lsum (l0 :: l1 :: l2 :: l3 :: l4 :: l5 :: ms) + kbulk (ps ++ [k0, k1]) + 1) ≤ 1000000000000) (hP : Pr Bs b s.1 s.2 w) (hL : RowIn (fun b => b < Bs) w 1 A (l0 :: l1 :: l2 :: l3 :: l4 :: l5 :: ms).length ((l0 :: l1 :: l2 :: l3 :: l4 :: l5 :: ms).map aQ)) (hn : (ps ++ [k0, k1]).length ≤ n) (hn2 : n ≤ maxLen) (hK : KidsAre (fun b => b < Bs) w (ps ++ [k0, k1]) cs) (hR : RowIn (fun b => b < Bs) w 4 B (ps ++ [k0, k1]).length cs) (hBw : Bs ≤ w.heap.size) :
    Calls Tryz.prog 42 [.pointer (some ⟨b, 0, none⟩), .agg #[.int .i64 2, aQ x, .slice A (l0 :: l1 :: l2 :: l3 :: l4 :: l5 :: ms).length m, .slice B (ps ++ [k0, k1]).length n]].toArray w fun e w' => e = .returned (.tuple #[]) ∧ Pr Bs b (treeP (.node 2 x (l0 :: l1 :: l2 :: l3 :: l4 :: l5 :: ms) (ps ++ [k0, k1])) s).1 (treeP (.node 2 x (l0 :: l1 :: l2 :: l3 :: l4 :: l5 :: ms) (ps ++ [k0, k1])) s).2 w' ∧ Prn Bs b w w' := by
  have hE := Prn.refl (b := b) hBw
  have hG : s.2.length ≤ s.2.length := Nat.le_refl _
  have hG' : s.1.length ≤ s.1.length := Nat.le_refl _
  obtain ⟨lb, lo, rfl, _, hlb, _⟩ := hL.2 (by simp)
  obtain ⟨kb, ko, rfl, _, hkb, _⟩ := hR.2 (by simp)
  refine rE 216 Tryz.func42 rfl rfl rfl ?_
  intro a hf
  refine rR 2 hf rfl fun a hf => ?_
  obtain ⟨w1, b2, he, hB3, hx4, eb5, lb6⟩ := cC (P := Tryz.prog) (t := 34) (x := (.tmp 1)) hf rfl rfl w 0
  refine rV hf rfl he fun a hf => ?_
  have ge_b2 := Prn.ge_new hE eb5
  have ne_b_b2 : b ≠ b2 := cm hP.lt eb5
  replace hP := hP.chg0 hx4
  replace hE := hE.t0 hx4
  clear eb5 lb6
  refine rR 5 hf rfl fun a hf => rV hf rfl (an hf rfl (by kernel_rfl) hB3 rfl) fun a hf => rR 23 hf rfl fun a hf => rV hf rfl (eK (m := 4) hf rfl (by kernel_rfl) hB3 rfl) fun a hf => ?_
  have hLn := hL.now hE
  have hKn := hK.now hE
  have hRn := hR.now hE
  refine rC hf rfl rfl (by kernel_rfl) (d2 ih hcl hks hl1 hl2 hP hLn hn hn2 hKn hRn hE.now) ?_
  rintro _ w9 ⟨rfl, hPn, hEn⟩
  refine ⟨_, rfl, fun a hf => ?_⟩
  have hx8 := hEn.chg
  replace hB3 := hB3.chg hx8 (aF hB3 rfl (Ne.symm ne_b_b2))
  replace hE := hE.trans hx8 (fun _ h => .inl h)
  clear hP; have hP := hPn; clear hPn hEn
  refine rR 2 hf rfl fun a hf => ?_
  have eq : treeP (.node 2 x (l0 :: l1 :: l2 :: l3 :: l4 :: l5 :: ms) (ps ++ [k0, k1])) s = treeP (.node 2 x (l0 :: l1 :: l2 :: l3 :: l4 :: l5 :: ms) (ps ++ [k0, k1])) s := by rfl
  rw [eq]
  exact rF (rs := []) hf rfl rfl ⟨rfl, hP, hE⟩
theorem t3 {N : Nat} (ih : cF N) {w : World} {Bs b : Nat} {s : WS} {x : List UInt8} {l0 l1 l2 : List UInt8} {k0 : Tree} {cs : List Value} {A B : Option Addr} {m n : Nat} (hks : ∀ t, t ∈ [k0] → tsize t ≤ N ∧ shapedT t = true ∧ leadedT t = true)
    (hl1 : s.2.length + 100 * (x.length + lsum [l0, l1, l2] + kbulk [k0] + 1) ≤ 1000000000000) (hl2 : s.1.length + 100 * (x.length + lsum [l0, l1, l2] + kbulk [k0] + 1) ≤ 1000000000000) (hP : Pr Bs b s.1 s.2 w) (hL : RowIn (fun b => b < Bs) w 1 A [l0, l1, l2].length ([l0, l1, l2].map aQ)) (hn : [k0].length ≤ n) (hn2 : n ≤ maxLen) (hK : KidsAre (fun b => b < Bs) w [k0] cs) (hR : RowIn (fun b => b < Bs) w 4 B [k0].length cs) (hBw : Bs ≤ w.heap.size) :
    Calls Tryz.prog 42 [.pointer (some ⟨b, 0, none⟩), .agg #[.int .i64 3, aQ x, .slice A [l0, l1, l2].length m, .slice B [k0].length n]].toArray w fun e w' => e = .returned (.tuple #[]) ∧ Pr Bs b (treeP (.node 3 x [l0, l1, l2] [k0]) s).1 (treeP (.node 3 x [l0, l1, l2] [k0]) s).2 w' ∧ Prn Bs b w w' := by
  have hE := Prn.refl (b := b) hBw
  have hG : s.2.length ≤ s.2.length := Nat.le_refl _
  have hG' : s.1.length ≤ s.1.length := Nat.le_refl _
  obtain ⟨lb, lo, rfl, _, hlb, _⟩ := hL.2 (by simp)
  obtain ⟨kb, ko, rfl, _, hkb, _⟩ := hR.2 (by simp)
  refine rE 216 Tryz.func42 rfl rfl rfl ?_
  intro a hf
  refine rR 2 hf rfl fun a hf => ?_
  obtain ⟨w1, b2, he, hB3, hx4, eb5, lb6⟩ := cC (P := Tryz.prog) (t := 34) (x := (.tmp 1)) hf rfl rfl w 0
  refine rV hf rfl he fun a hf => ?_
  have ge_b2 := Prn.ge_new hE eb5
  have ne_b_b2 : b ≠ b2 := cm hP.lt eb5
  replace hP := hP.chg0 hx4
  replace hE := hE.t0 hx4
  clear eb5 lb6
  refine rR 5 hf rfl fun a hf => rV hf rfl (an hf rfl (by kernel_rfl) hB3 rfl) fun a hf => rR 30 hf rfl fun a hf => rV hf rfl (eK (m := 4) hf rfl (by kernel_rfl) hB3 rfl) fun a hf => ?_
  have hLn := hL.now hE
  have hKn := hK.now hE
  have hRn := hR.now hE
  refine rC hf rfl rfl (by kernel_rfl) (d3 ih  hks hl1 hl2 hP hLn hn hn2 hKn hRn hE.now) ?_
  rintro _ w9 ⟨rfl, hPn, hEn⟩
  refine ⟨_, rfl, fun a hf => ?_⟩
  have hx8 := hEn.chg
  replace hB3 := hB3.chg hx8 (aF hB3 rfl (Ne.symm ne_b_b2))
  replace hE := hE.trans hx8 (fun _ h => .inl h)
  clear hP; have hP := hPn; clear hPn hEn
  refine rR 2 hf rfl fun a hf => ?_
  have eq : treeP (.node 3 x [l0, l1, l2] [k0]) s = treeP (.node 3 x [l0, l1, l2] [k0]) s := by rfl
  rw [eq]
  exact rF (rs := []) hf rfl rfl ⟨rfl, hP, hE⟩
theorem t4 {N : Nat} (ih : cF N) {w : World} {Bs b : Nat} {s : WS} {x : List UInt8} {l0 l1 : List UInt8} {k0 : Tree} {cs : List Value} {A B : Option Addr} {m n : Nat} (hks : ∀ t, t ∈ [k0] → tsize t ≤ N ∧ shapedT t = true ∧ leadedT t = true)
    (hl1 : s.2.length + 100 * (x.length + lsum [l0, l1] + kbulk [k0] + 1) ≤ 1000000000000) (hl2 : s.1.length + 100 * (x.length + lsum [l0, l1] + kbulk [k0] + 1) ≤ 1000000000000) (hP : Pr Bs b s.1 s.2 w) (hL : RowIn (fun b => b < Bs) w 1 A [l0, l1].length ([l0, l1].map aQ)) (hn : [k0].length ≤ n) (hn2 : n ≤ maxLen) (hK : KidsAre (fun b => b < Bs) w [k0] cs) (hR : RowIn (fun b => b < Bs) w 4 B [k0].length cs) (hBw : Bs ≤ w.heap.size) :
    Calls Tryz.prog 42 [.pointer (some ⟨b, 0, none⟩), .agg #[.int .i64 4, aQ x, .slice A [l0, l1].length m, .slice B [k0].length n]].toArray w fun e w' => e = .returned (.tuple #[]) ∧ Pr Bs b (treeP (.node 4 x [l0, l1] [k0]) s).1 (treeP (.node 4 x [l0, l1] [k0]) s).2 w' ∧ Prn Bs b w w' := by
  have hE := Prn.refl (b := b) hBw
  have hG : s.2.length ≤ s.2.length := Nat.le_refl _
  have hG' : s.1.length ≤ s.1.length := Nat.le_refl _
  obtain ⟨lb, lo, rfl, _, hlb, _⟩ := hL.2 (by simp)
  obtain ⟨kb, ko, rfl, _, hkb, _⟩ := hR.2 (by simp)
  refine rE 216 Tryz.func42 rfl rfl rfl ?_
  intro a hf
  refine rR 2 hf rfl fun a hf => ?_
  obtain ⟨w1, b2, he, hB3, hx4, eb5, lb6⟩ := cC (P := Tryz.prog) (t := 34) (x := (.tmp 1)) hf rfl rfl w 0
  refine rV hf rfl he fun a hf => ?_
  have ge_b2 := Prn.ge_new hE eb5
  have ne_b_b2 : b ≠ b2 := cm hP.lt eb5
  replace hP := hP.chg0 hx4
  replace hE := hE.t0 hx4
  clear eb5 lb6
  refine rR 5 hf rfl fun a hf => rV hf rfl (an hf rfl (by kernel_rfl) hB3 rfl) fun a hf => rR 33 hf rfl fun a hf => rV hf rfl (eK (m := 4) hf rfl (by kernel_rfl) hB3 rfl) fun a hf => ?_
  have hLn := hL.now hE
  have hKn := hK.now hE
  have hRn := hR.now hE
  refine rC hf rfl rfl (by kernel_rfl) (d4 ih  hks hl1 hl2 hP hLn hn hn2 hKn hRn hE.now) ?_
  rintro _ w9 ⟨rfl, hPn, hEn⟩
  refine ⟨_, rfl, fun a hf => ?_⟩
  have hx8 := hEn.chg
  replace hB3 := hB3.chg hx8 (aF hB3 rfl (Ne.symm ne_b_b2))
  replace hE := hE.trans hx8 (fun _ h => .inl h)
  clear hP; have hP := hPn; clear hPn hEn
  refine rR 2 hf rfl fun a hf => ?_
  have eq : treeP (.node 4 x [l0, l1] [k0]) s = treeP (.node 4 x [l0, l1] [k0]) s := by rfl
  rw [eq]
  exact rF (rs := []) hf rfl rfl ⟨rfl, hP, hE⟩
theorem gI {α : Type} {l : List α} (h : l.length = 0) : l = [] := List.length_eq_zero_iff.1 h
theorem bK {α : Type} {l : List α} {n : Nat} (h : l.length = n + 1) : ∃ a r, l = a :: r ∧ r.length = n := by
 cases l with
 | nil => simp at h
 | cons a r => exact ⟨a, r, rfl, by simpa using h⟩
theorem vu {k : Int} {n : Nat} : ∀ {ks : List Tree} {i : Nat}, kidsT k n ks i = true → ∀ t, t ∈ ks → shapedT t = true
 | u :: r, i, h, t, ht => by
  simp only [kidsT, Bool.and_eq_true] at h
  rcases List.mem_cons.1 ht with e | e
  ·exact e ▸ h.1.2
  ·exact vu h.2 t e
theorem xw {k n : Int} (h : 0 ≤ bC k n) : (k = 1 ∧ bC k n = 3) ∨ (k = 2 ∧ 2 ≤ n ∧ (2 < n ∧ bC k n = 6 + (n - 3) ∨ n = 2 ∧ bC k n = 6)) ∨ (k = 16 ∧ (n = 0 ∧ bC k n = 3 ∨ 0 < n ∧ bC k n = 3 + (n - 1))) ∨ (k = 18 ∧ 1 ≤ n ∧ bC k n = 2 + (n - 1)) ∨ (k = 3 ∧ n = 1 ∧ bC k n = 3) ∨ (k = 4 ∧ n = 1 ∧ bC k n = 2) ∨ (k = 8 ∧ n = 1 ∧ bC k n = 2) ∨ (k = 22 ∧ n = 1 ∧ bC k n = 2) ∨ (k = 17 ∧ n = 1 ∧ bC k n = 0) ∨ (k = 19 ∧ n = 3 ∧ bC k n = 3) ∨ (k = 20 ∧ n = 2 ∧ bC k n = 4) ∨ (k = 21 ∧ n = 2 ∧ bC k n = 1) ∨ ((k = 5 ∨ k = 6 ∨ k = 7 ∨ k = 9 ∨ k = 10 ∨ k = 11 ∨ k = 12 ∨ k = 13 ∨ k = 14 ∨ k = 15) ∧ n = 0 ∧ bC k n = 1) := by
 obtain ⟨L, hL⟩ : ∃ L, L = bC k n := ⟨_, rfl⟩
 rw [← hL] at h ⊢
 unfold bC at hL
 by_cases hk1 : k = 1
 ·rw [if_pos hk1] at hL
  split at hL
  ·exact absurd h (by omega)
  ·exact .inl (⟨hk1, hL⟩)
 rw [if_neg hk1] at hL
 by_cases hk2 : k = 2
 ·rw [if_pos hk2] at hL
  split at hL
  ·exact absurd h (by omega)
  ·split at hL
   ·exact .inr (.inl (⟨hk2, by omega, .inl ⟨by omega, hL⟩⟩))
   ·exact .inr (.inl (⟨hk2, by omega, .inr ⟨by omega, hL⟩⟩))
 rw [if_neg hk2] at hL
 by_cases hk3 : k = 16
 ·rw [if_pos hk3] at hL
  split at hL
  ·exact absurd h (by omega)
  ·split at hL
   ·exact .inr (.inr (.inl (⟨hk3, .inr ⟨by omega, hL⟩⟩)))
   ·exact .inr (.inr (.inl (⟨hk3, .inl ⟨by omega, hL⟩⟩)))
 rw [if_neg hk3] at hL
 by_cases hk4 : k = 18
 ·rw [if_pos hk4] at hL
  split at hL
  ·exact absurd h (by omega)
  ·exact .inr (.inr (.inr (.inl (⟨hk4, by omega, hL⟩))))
 rw [if_neg hk4] at hL
 by_cases hk5 : k = 3
 ·rw [if_pos hk5] at hL
  split at hL
  ·exact .inr (.inr (.inr (.inr (.inl (⟨hk5, by omega, hL⟩)))))
  ·exact absurd h (by omega)
 rw [if_neg hk5] at hL
 by_cases hk6 : k = 4 ∨ k = 8 ∨ k = 22
 ·rw [if_pos hk6] at hL
  split at hL
  ·rcases hk6 with hq | hq | hq
   ·exact .inr (.inr (.inr (.inr (.inr (.inl (⟨hq, by omega, hL⟩))))))
   ·exact .inr (.inr (.inr (.inr (.inr (.inr (.inl (⟨hq, by omega, hL⟩)))))))
   ·exact .inr (.inr (.inr (.inr (.inr (.inr (.inr (.inl (⟨hq, by omega, hL⟩))))))))
  ·exact absurd h (by omega)
 rw [if_neg hk6] at hL
 by_cases hk7 : k = 17
 ·rw [if_pos hk7] at hL
  split at hL
  ·exact .inr (.inr (.inr (.inr (.inr (.inr (.inr (.inr (.inl (⟨hk7, by omega, hL⟩)))))))))
  ·exact absurd h (by omega)
 rw [if_neg hk7] at hL
 by_cases hk8 : k = 19
 ·rw [if_pos hk8] at hL
  split at hL
  ·exact .inr (.inr (.inr (.inr (.inr (.inr (.inr (.inr (.inr (.inl (⟨hk8, by omega, hL⟩))))))))))
  ·exact absurd h (by omega)
 rw [if_neg hk8] at hL
 by_cases hk9 : k = 20
 ·rw [if_pos hk9] at hL
  split at hL
  ·exact .inr (.inr (.inr (.inr (.inr (.inr (.inr (.inr (.inr (.inr (.inl (⟨hk9, by omega, hL⟩)))))))))))
  ·exact absurd h (by omega)
 rw [if_neg hk9] at hL
 by_cases hk10 : k = 21
 ·rw [if_pos hk10] at hL
  split at hL
  ·exact .inr (.inr (.inr (.inr (.inr (.inr (.inr (.inr (.inr (.inr (.inr (.inl (⟨hk10, by omega, hL⟩))))))))))))
  ·exact absurd h (by omega)
 rw [if_neg hk10] at hL
 by_cases hk11 : k = 5 ∨ k = 6 ∨ k = 7 ∨ k = 9 ∨ k = 10 ∨ k = 11 ∨ k = 12 ∨ k = 13 ∨ k = 14 ∨ k = 15
 ·rw [if_pos hk11] at hL
  split at hL
  ·exact .inr (.inr (.inr (.inr (.inr (.inr (.inr (.inr (.inr (.inr (.inr (.inr ((⟨hk11, by omega, hL⟩)))))))))))))
  ·exact absurd h (by omega)
 rw [if_neg hk11] at hL
 exact absurd h (by omega)
theorem zE {N : Nat} (ih : cF N) : cF (N + 1) := by
 intro t w Bs b s c0 c1 c2 c3 hN hs hl h1 h2 hP hT hBw
 obtain ⟨k, x, ls, ks⟩ := t
 simp only [TreeIs] at hT
 obtain ⟨A, m, B, n, hc, _, _, hn, hn2, hL, cs, hK, hR⟩ := hT
 simp only [List.cons.injEq, and_true] at hc
 obtain ⟨rfl, rfl, rfl, rfl⟩ := hc
 simp only [tsize] at hN
 simp only [tbulk] at h1 h2
 simp only [shapedT, leadedT, Bool.and_eq_true, decide_eq_true_eq] at hs hl
 have hks : ∀ t, t ∈ ks → tsize t ≤ N ∧ shapedT t = true ∧ leadedT t = true := fun t ht => ⟨by have := pn ht; omega, vu hs.2 t ht, pD hl.2 ht⟩
 have hkk := xw hs.1.1
 have hll := hl.1.1
 clear hs hl hN
 rcases hkk with ⟨rfl, e⟩ | ⟨rfl, h0, e⟩ | ⟨rfl, e⟩ | ⟨rfl, h0, e⟩ | ⟨rfl, h0, e⟩ | ⟨rfl, h0, e⟩ | ⟨rfl, h0, e⟩ | ⟨rfl, h0, e⟩ | ⟨rfl, h0, e⟩ | ⟨rfl, h0, e⟩ | ⟨rfl, h0, e⟩ | ⟨rfl, h0, e⟩ | ⟨hk, h0, e⟩
 ·obtain ⟨l0, ls0r, rfl, qls0⟩ := bK (n := 2) (l := ls) (by omega)
  obtain ⟨l1, ls1r, rfl, qls1⟩ := bK (n := 1) (l := ls0r) qls0
  obtain ⟨l2, ls2r, rfl, qls2⟩ := bK (n := 0) (l := ls1r) qls1
  obtain rfl := gI (l := ls2r) qls2
  exact t1 ih hks h1 h2 hP hL hn hn2 hK hR hBw
 ·obtain ⟨ps, k0, k1, rfl⟩ : ∃ ps k0 k1, ks = ps ++ [k0, k1] := by
   refine ⟨ks.take (ks.length - 2), ks[ks.length - 2]'(by omega), ks[ks.length - 1]'(by omega), ?_⟩
   have e1 : ks = ks.take (ks.length - 2) ++ ks.drop (ks.length - 2) := (List.take_append_drop _ _).symm
   have e2 : ks.drop (ks.length - 2) = [ks[ks.length - 2]'(by omega), ks[ks.length - 1]'(by omega)] := by
    rw [List.drop_eq_getElem_cons (by omega : ks.length - 2 < ks.length)]
    congr 1
    have e3 : ks.length - 2 + 1 = ks.length - 1 := by omega
    rw [e3, List.drop_eq_getElem_cons (by omega : ks.length - 1 < ks.length), List.drop_of_length_le (by omega)]
   rw [← e2]; exact e1
  have hpl : (ps ++ [k0, k1]).length = ps.length + 2 := by simp
  obtain ⟨q, hq⟩ : ∃ q, ls.length = q + 6 := ⟨ls.length - 6, by omega⟩
  obtain ⟨l0, ls0r, rfl, qls0⟩ := bK (n := q + 5) (l := ls) hq
  obtain ⟨l1, ls1r, rfl, qls1⟩ := bK (n := q + 4) (l := ls0r) qls0
  obtain ⟨l2, ls2r, rfl, qls2⟩ := bK (n := q + 3) (l := ls1r) qls1
  obtain ⟨l3, ls3r, rfl, qls3⟩ := bK (n := q + 2) (l := ls2r) qls2
  obtain ⟨l4, ls4r, rfl, qls4⟩ := bK (n := q + 1) (l := ls3r) qls3
  obtain ⟨l5, ls5r, rfl, qls5⟩ := bK (n := q + 0) (l := ls4r) qls4
  exact t2 ih (by simp only [List.length_cons]; omega) hks h1 h2 hP hL hn hn2 hK hR hBw
 ·obtain ⟨q, hq⟩ : ∃ q, ls.length = q + 3 := ⟨ls.length - 3, by omega⟩
  obtain ⟨l0, ls0r, rfl, qls0⟩ := bK (n := q + 2) (l := ls) hq
  obtain ⟨l1, ls1r, rfl, qls1⟩ := bK (n := q + 1) (l := ls0r) qls0
  obtain ⟨l2, ls2r, rfl, qls2⟩ := bK (n := q + 0) (l := ls1r) qls1
  exact t16 ih (by simp only [List.length_cons]; omega) hks h1 h2 hP hL hn hn2 hK hR hBw
 ·obtain ⟨q, hq⟩ : ∃ q, ls.length = q + 2 := ⟨ls.length - 2, by omega⟩
  obtain ⟨l0, ls0r, rfl, qls0⟩ := bK (n := q + 1) (l := ls) hq
  obtain ⟨l1, ls1r, rfl, qls1⟩ := bK (n := q + 0) (l := ls0r) qls0
  exact t18 ih (by simp only [List.length_cons]; omega) hks h1 h2 hP hL hn hn2 hK hR hBw
 ·obtain ⟨l0, ls0r, rfl, qls0⟩ := bK (n := 2) (l := ls) (by omega)
  obtain ⟨l1, ls1r, rfl, qls1⟩ := bK (n := 1) (l := ls0r) qls0
  obtain ⟨l2, ls2r, rfl, qls2⟩ := bK (n := 0) (l := ls1r) qls1
  obtain rfl := gI (l := ls2r) qls2
  obtain ⟨k0, ks0r, rfl, qks0⟩ := bK (n := 0) (l := ks) (by omega)
  obtain rfl := gI (l := ks0r) qks0
  exact t3 ih hks h1 h2 hP hL hn hn2 hK hR hBw
 ·obtain ⟨l0, ls0r, rfl, qls0⟩ := bK (n := 1) (l := ls) (by omega)
  obtain ⟨l1, ls1r, rfl, qls1⟩ := bK (n := 0) (l := ls0r) qls0
  obtain rfl := gI (l := ls1r) qls1
  obtain ⟨k0, ks0r, rfl, qks0⟩ := bK (n := 0) (l := ks) (by omega)
  obtain rfl := gI (l := ks0r) qks0
  exact t4 ih hks h1 h2 hP hL hn hn2 hK hR hBw
 ·obtain ⟨l0, ls0r, rfl, qls0⟩ := bK (n := 1) (l := ls) (by omega)
  obtain ⟨l1, ls1r, rfl, qls1⟩ := bK (n := 0) (l := ls0r) qls0
  obtain rfl := gI (l := ls1r) qls1
  obtain ⟨k0, ks0r, rfl, qks0⟩ := bK (n := 0) (l := ks) (by omega)
  obtain rfl := gI (l := ks0r) qks0
  exact t8 ih hks h1 h2 hP hL hn hn2 hK hR hBw
 ·obtain ⟨l0, ls0r, rfl, qls0⟩ := bK (n := 1) (l := ls) (by omega)
  obtain ⟨l1, ls1r, rfl, qls1⟩ := bK (n := 0) (l := ls0r) qls0
  obtain rfl := gI (l := ls1r) qls1
  obtain ⟨k0, ks0r, rfl, qks0⟩ := bK (n := 0) (l := ks) (by omega)
  obtain rfl := gI (l := ks0r) qks0
  exact t22 ih hks h1 h2 hP hL hn hn2 hK hR hBw
 ·obtain rfl := gI (l := ls) (by omega)
  obtain ⟨k0, ks0r, rfl, qks0⟩ := bK (n := 0) (l := ks) (by omega)
  obtain rfl := gI (l := ks0r) qks0
  exact t17 ih hks h1 h2 hP hL hn hn2 hK hR hBw
 ·obtain ⟨l0, ls0r, rfl, qls0⟩ := bK (n := 2) (l := ls) (by omega)
  obtain ⟨l1, ls1r, rfl, qls1⟩ := bK (n := 1) (l := ls0r) qls0
  obtain ⟨l2, ls2r, rfl, qls2⟩ := bK (n := 0) (l := ls1r) qls1
  obtain rfl := gI (l := ls2r) qls2
  obtain ⟨k0, ks0r, rfl, qks0⟩ := bK (n := 2) (l := ks) (by omega)
  obtain ⟨k1, ks1r, rfl, qks1⟩ := bK (n := 1) (l := ks0r) qks0
  obtain ⟨k2, ks2r, rfl, qks2⟩ := bK (n := 0) (l := ks1r) qks1
  obtain rfl := gI (l := ks2r) qks2
  exact t19 ih hks h1 h2 hP hL hn hn2 hK hR hBw
 ·obtain ⟨l0, ls0r, rfl, qls0⟩ := bK (n := 3) (l := ls) (by omega)
  obtain ⟨l1, ls1r, rfl, qls1⟩ := bK (n := 2) (l := ls0r) qls0
  obtain ⟨l2, ls2r, rfl, qls2⟩ := bK (n := 1) (l := ls1r) qls1
  obtain ⟨l3, ls3r, rfl, qls3⟩ := bK (n := 0) (l := ls2r) qls2
  obtain rfl := gI (l := ls3r) qls3
  obtain ⟨k0, ks0r, rfl, qks0⟩ := bK (n := 1) (l := ks) (by omega)
  obtain ⟨k1, ks1r, rfl, qks1⟩ := bK (n := 0) (l := ks0r) qks0
  obtain rfl := gI (l := ks1r) qks1
  exact t20 ih hks h1 h2 hP hL hn hn2 hK hR hBw
 ·obtain ⟨l0, ls0r, rfl, qls0⟩ := bK (n := 0) (l := ls) (by omega)
  obtain rfl := gI (l := ls0r) qls0
  obtain ⟨k0, ks0r, rfl, qks0⟩ := bK (n := 1) (l := ks) (by omega)
  obtain ⟨k1, ks1r, rfl, qks1⟩ := bK (n := 0) (l := ks0r) qks0
  obtain rfl := gI (l := ks1r) qks1
  exact t21 ih hks h1 h2 hP hL hn hn2 hK hR hBw
 ·obtain ⟨l0, ls0r, rfl, qls0⟩ := bK (n := 0) (l := ls) (by omega)
  obtain rfl := gI (l := ls0r) qls0
  obtain rfl := gI (l := ks) (by omega)
  exact EG (N := N) hk hks h1 h2 hP hL hn hn2 hK hR hBw
theorem Bq : ∀ N, cF N
 | 0 => fun t _ _ _ _ _ _ _ _ hN => by cases t; simp only [tsize] at hN; omega
 | N + 1 => zE (Bq N)
end Go.Proofs.YtgpcdfbmbcognaaGreat
namespace Go.Proofs.YtgpcdfbmbcognaaGreat
open Go.RowKit Lx Sx
set_option maxRecDepth 100000
set_option maxHeartbeats 4000000
theorem TreeIs.cells {S : Nat → Prop} {w : World} {t : Tree} {c0 c1 c2 c3 : Value} (h : TreeIs S w t [c0, c1, c2, c3]) : ∃ A m B n, [c0, c1, c2, c3] = [.int .i64 t.kind, aQ t.text, .slice A t.leads.length m, .slice B t.kids.length n] := by
 obtain ⟨k, x, ls, ks⟩ := t
 simp only [TreeIs] at h
 obtain ⟨A, m, B, n, e, _⟩ := h
 exact ⟨A, m, B, n, e⟩
theorem Pr.new {Bs b : Nat} {w : World} (h : Blk w b 70 [.pointer none, .slice none 0 0, aQ []]) (hb : Bs ≤ b) : Pr Bs b [] [] w :=
 ⟨.pointer none, .slice none 0 0, .inl rfl, hb, h, World.ownsRow_nil w Bs 5 1⟩
def upX (Bs : Nat) (w : World) : List Nat := (List.range w.heap.size).filter fun k => decide (Bs ≤ k)
theorem Cv {Bs : Nat} {w : World} {k : Nat} (h : k ∈ upX Bs w) : Bs ≤ k := by simp [upX] at h; exact h.2
theorem CF {Bs : Nat} {w w' : World} (h : Below Bs w w') (hb : Bs ≤ w.heap.size) : Chg (upX Bs w) w w' :=
 ⟨h.os, h.tape, h.output, h.size, fun k hk hX => h.block k (by
  rcases Nat.lt_or_ge k Bs with h1 | h1
  ·exact h1
  ·exact absurd (by simp [upX]; exact ⟨hk, h1⟩) hX)⟩
theorem EV {Bs b : Nat} {x l : List UInt8} {w : World} (h : Pr Bs b x l w) (hBw : Bs ≤ w.heap.size) : Calls Tryz.prog 43 [.pointer (some ⟨b, 0, none⟩)].toArray w fun e w' => e = .returned (aQ l) ∧ Chg (upX Bs w) w w' :=
 (tE _ Bs b [aQ x] l w h hBw).mono fun _ _ ⟨e, h1⟩ => ⟨e, CF h1 hBw⟩
theorem El {t : Tree} {S : Nat → Prop} {w : World} {c0 c1 c2 c3 : Value} (hs : shapedT t = true) (hl : leadedT t = true) (hb : tbulk t ≤ 1000000000) (hT : TreeIs S w t [c0, c1, c2, c3]) : Calls Tryz.prog 21 [.agg #[c0, c1, c2, c3]].toArray w fun e w' => e = .returned (aQ (eD t)) ∧ Chg [] w w' := by
  obtain ⟨hi0, ehi0⟩ : ∃ x, x = w.heap.size := ⟨_, rfl⟩
  replace hT := hT.keepB (S' := fun b => b < hi0) (fun b _ hb => by omega) (fun _ _ _ => rfl)
  obtain ⟨A, m1, B, m2, hc⟩ := hT.cells
  simp only [List.cons.injEq, and_true] at hc
  obtain ⟨rfl, rfl, rfl, rfl⟩ := hc
  refine rE 8 Tryz.func21 rfl rfl rfl ?_
  intro a hf
  have hE := Chg.refl [] w
  refine rR 2 hf rfl fun a hf => ?_
  obtain ⟨w1, b2, he, hB3, hx4, eb5, lb6⟩ := cC (P := Tryz.prog) (t := 34) (x := (.tmp 0)) hf rfl rfl w 0
  refine rV hf rfl he fun a hf => ?_
  have ge_b2 := vr hE eb5
  have tb_b2 : hi0 ≤ b2 := by have := hE.size; omega
  replace hT := hT.t0 hx4
  replace hE := hE.t0 hx4
  clear eb5 lb6
  refine rR 5 hf rfl fun a hf => ?_
  obtain ⟨w7, b8, he, hB9, hx10, eb11, lb12⟩ := rh (P := Tryz.prog) (t := 70) [.pointer none, .slice none 0 0, .string ⟨([] : List UInt8).toArray⟩] (by kernel_rfl) a w1 0
  refine rV hf rfl he fun a hf => ?_
  have ne_b2_b8 : b2 ≠ b8 := cm hB3.lt eb11
  have ge_b8 := vr hE eb11
  have tb_b8 : hi0 ≤ b8 := by have := hE.size; omega
  replace hB3 := hB3.c0 hx10
  replace hT := hT.t0 hx10
  replace hE := hE.t0 hx10
  clear eb11 lb12
  refine rR 4 hf rfl fun a hf => rV hf rfl (eK (m := 4) hf rfl (by kernel_rfl) hB3 rfl) fun a hf => ?_
  have hPr := Pr.new hB9 (Nat.le_refl b8)
  have hTl : TreeIs (fun k => k < b8) w7 t _ := hT.mono (fun k hk => Nat.lt_of_lt_of_le hk tb_b8)
  have hBw : b8 ≤ w7.heap.size := Nat.le_of_lt hB9.lt
  refine rC hf rfl rfl (by kernel_rfl) (Bq _ t _ b8 b8 ([], []) _ _ _ _ (Nat.le_refl _) hs hl (by simp only [List.length_nil]; omega) (by simp only [List.length_nil]; omega) hPr hTl hBw) ?_
  rintro _ w14 ⟨rfl, hPn, hEn⟩
  refine ⟨_, rfl, fun a hf => ?_⟩
  have hx13 := hEn.chg
  clear hTl hPr
  replace hE := hE.trans hx13 (fun x hx => .inr (by have := (dY.1 hx).2.1; omega))
  refine rR 5 hf rfl fun a hf => rC hf rfl rfl (by kernel_rfl) (EV hPn hEn.now) ?_
  rintro _ w16 ⟨rfl, hx15⟩
  refine ⟨_, rfl, fun a hf => ?_⟩
  replace hE := hE.trans hx15 (fun x hx => .inr (by have := Cv hx; omega))
  refine rR 4 hf rfl fun a hf => ?_
  exact rT (rs := [.tmp 2]) hf rfl ⟨_, _, rfl, rfl, rfl⟩ ⟨rfl, hE⟩
end Go.Proofs.YtgpcdfbmbcognaaGreat
namespace Go.Proofs.YtgpcdfbmbcognaaGreat
open Go.RowKit Lx
set_option maxRecDepth 100000
set_option maxHeartbeats 1000000 in
theorem BZ (l : List UInt8) (fin : Bool) (w : World) (hl : l.length ≤ 281474976710656) : Calls Tryz.prog 41 #[.string ⟨l.toArray⟩, .bool fin] w fun e w' => e = .returned (.bool (aM false l fin)) ∧ w = w' := by
 obtain ⟨r, hr⟩ : ∃ r, aM false l fin = r := ⟨_, rfl⟩
 rw [hr]
 have HR := Lib.hid hr; clear hr
 go_enter Tryz.func41, Tryz.ntmps41
 go_wp2_with fail
 go_loopg [5, 6] l.length (fun g s5 s6 wx => ∃ (i : Nat) (c : Bool), g = l.length - i ∧ wx = w ∧ i ≤ l.length ∧ s5 = .bool c ∧ s6 = .int .i64 i ∧ Hid (aM c (l.drop i) fin = r))
 case atStart => exact ⟨0, false, rfl, rfl, Nat.zero_le _, rfl, rfl, Lib.hid (by simpa using HR.out)⟩
 case round =>
  obtain ⟨i, c, rfl, rfl, hil, rfl, rfl, HT⟩ := hrel
  by_cases hit : i < l.length
  rotate_left
  ·have HF := Lib.hid (show (!c || fin) = r from by rw [← HT.out, vN (by omega)])
   cases c <;> (go_wp2_with fail; go_ret; exact ⟨aO (by rw [← HF.out]; rfl), rfl⟩)
  obtain ⟨x, hx⟩ : ∃ c, ({ data := l.toArray } : ByteArray)[i]'hit = c := ⟨_, rfl⟩
  have HXi := Lib.hid (show l[i] = x from hx)
  have HS := Lib.hid (HT.out.symm.trans (vg hit HXi.out))
  clear HT
  cases ha : ay x
  ·go_wp2_with (first | (go_at_call 16; refine qmm (en _ _) ?_) | (go_at_call 17; refine qmm (aT _ _) ?_))
   go_ret
   exact ⟨aO (by rw [HS.out, if_pos ha]), rfl⟩
  cases c with
  | true =>
   go_wp2_with (first | (go_at_call 16; refine qmm (en _ _) ?_) | (go_at_call 17; refine qmm (aT _ _) ?_))
   go_roundg (l.length - (i + 1))
   case measure => omega
   case rel => exact ⟨i + 1, !(x.toNat == 10), rfl, rfl, by omega, by rw [Eg], by go_num, Lib.hid (by rw [HS.out, if_neg (by simp [ha]), if_pos (by trivial)])⟩
  | false =>
   cases h35 : ((x.toNat : Int) == 35)
   rotate_left
   ·go_wp2_with (first | (go_at_call 16; refine qmm (en _ _) ?_) | (go_at_call 17; refine qmm (aT _ _) ?_))
    go_roundg (l.length - (i + 1))
    case measure => omega
    case rel => exact ⟨i + 1, true, rfl, rfl, by omega, rfl, by go_num, Lib.hid (by rw [HS.out, if_neg (by simp [ha]), if_neg (by simp), if_pos (bU (m := 35) h35)])⟩
   cases hw : aP x
   ·go_wp2_with (first | (go_at_call 16; refine qmm (en _ _) ?_) | (go_at_call 17; refine qmm (aT _ _) ?_))
    go_ret
    exact ⟨aO (by rw [HS.out, if_neg (by simp [ha]), if_neg (by simp), if_neg (bx (m := 35) h35), if_pos hw]), rfl⟩
   ·go_wp2_with (first | (go_at_call 16; refine qmm (en _ _) ?_) | (go_at_call 17; refine qmm (aT _ _) ?_))
    go_roundg (l.length - (i + 1))
    case measure => omega
    case rel => exact ⟨i + 1, false, rfl, rfl, by omega, rfl, by go_num, Lib.hid (by rw [HS.out, if_neg (by simp [ha]), if_neg (by simp), if_neg (bx (m := 35) h35), if_neg (by simp [hw])])⟩
end Go.Proofs.YtgpcdfbmbcognaaGreat
namespace Go.Proofs.YtgpcdfbmbcognaaGreat
open Go.RowKit
def cX (R : List Nat) (l : List (Nat × Ob)) : List (Nat × Ob) := l.filter fun p => gU p.1 R
def ung : Ob → Ob
 | .free => .gone
 | o => o
def dC (nx : Nat) (R : List Nat) (l : List (Nat × Ob)) : List (Nat × Ob) := (l.filter fun p => !gU p.1 R && Nat.blt p.1 nx).map fun p => (p.1, ung p.2)
theorem oS {α : Type} {R : List Nat} : ∀ (l : List (Nat × Ob)) (c : List (Nat × Ob) → α), pR R l c = c (cX R l)
 | [], c => rfl
 | (i, o) :: r, c => by
  simp only [pR]
  cases h : gU i R
  ·simp only; rw [oS r]; simp [cX, h]
  ·simp only; rw [oS r]; simp [cX, h]
theorem oL {α : Type} {nx : Nat} {R : List Nat} : ∀ (l : List (Nat × Ob)) (c : List (Nat × Ob) → α), oW nx R l c = c (dC nx R l)
 | [], c => rfl
 | (i, o) :: r, c => by
  simp only [oW]
  cases h : (!gU i R && Nat.blt i nx)
  ·simp only; rw [oL r]; simp only [dC, List.filter_cons, h]; rfl
  ·cases o <;> (simp only; rw [oL r]; simp only [dC, List.filter_cons, h]; rfl)
theorem ni {R : List Nat} {i : Nat} : ∀ {l : List (Nat × Ob)}, am (cX R l) i = am l i ∨ (gU i R = false ∧ am (cX R l) i = .gone)
 | [] => .inl rfl
 | (j, o) :: r => by
  by_cases hj : j = i
  ·subst hj
   cases h : gU j R
   ·right
    refine ⟨rfl, ?_⟩
    have ih := ni (R := R) (i := j) (l := r)
    simp only [cX, List.filter_cons, h] at ih ⊢
    simp only [Bool.false_eq_true, if_false]
    clear ih
    have key : ∀ (l : List (Nat × Ob)), am (l.filter fun p => gU p.1 R) j = .gone := by
     intro l
     induction l with
     | nil => rfl
     | cons q t ih =>
      obtain ⟨k, o'⟩ := q
      simp only [List.filter_cons]
      split
      ·rename_i hk
       have : k ≠ j := fun e => by subst e; simp [h] at hk
       simp only [am, nbF this]; exact ih
      ·exact ih
    exact key r
   ·left
    simp only [cX, List.filter_cons, h, if_true, am, nbT]
  ·have ih := ni (R := R) (i := i) (l := r)
   simp only [cX, List.filter_cons]
   split
   ·simp only [am, nbF hj]; exact ih
   ·simp only [am, nbF hj]; exact ih
theorem tI {R : List Nat} {i : Nat} (h : gU i R = false) (l : List (Nat × Ob)) : am (cX R l) i = .gone := by
 induction l with
 | nil => rfl
 | cons q t ih =>
  obtain ⟨k, o'⟩ := q
  simp only [cX, List.filter_cons]
  split
  ·rename_i hk
   have : k ≠ i := fun e => by subst e; simp [h] at hk
   simp only [am, nbF this]; exact ih
  ·exact ih
theorem zA {nx : Nat} {R : List Nat} {i : Nat} (l : List (Nat × Ob)) : am (dC nx R l) i = if (!gU i R && Nat.blt i nx) = true then ung (am l i) else .gone := by
 induction l with
 | nil => simp [dC, am, ung]
 | cons q t ih =>
  obtain ⟨k, o⟩ := q
  by_cases hk : k = i
  ·subst hk
   cases h : (!gU k R && Nat.blt k nx)
   ·rw [h] at ih
    simp only [dC, List.filter_cons, h, Bool.false_eq_true, if_false] at ih ⊢
    exact ih
   ·simp only [dC, List.filter_cons, h, if_true, List.map_cons, am, nbT]
  ·have e : am ((k, o) :: t) i = am t i := by simp only [am, nbF hk]
   rw [e, ← ih]
   simp only [dC, List.filter_cons]
   split
   ·simp only [List.map_cons, am, nbF hk]
   ·rfl
section
variable {P : Program} {T : Tab} {K : Ctx} {Q : Exit → Act → World → Prop} {s : List EI} {n : Nat} {F : Fm} {H : Hp}
theorem wF (lo : Nat) (H : Hp) (v : V) : ∃ v' H', (∀ (α : Type) (c : V → Hp → α), yj lo H v c = c v' H') ∧ H'.nx = H.nx ∧ (∀ K S w ρ x, HRel S w ρ H.get → Inv K S w ρ H.get → VRel S w ρ v x → ∃ S', HRel S' w ρ H'.get ∧ Inv K S' w ρ H'.get ∧ Up S S' w w ρ ρ ∧ VRel S' w ρ v' x) := by
 have triv : ∃ v' H', (∀ (α : Type) (c : V → Hp → α), c v H = c v' H') ∧ H'.nx = H.nx ∧ (∀ K S w ρ x, HRel S w ρ H.get → Inv K S w ρ H.get → VRel S w ρ v x → ∃ S', HRel S' w ρ H'.get ∧ Inv K S' w ρ H'.get ∧ Up S S' w w ρ ρ ∧ VRel S' w ρ v' x) := ⟨v, H, fun _ _ => rfl, rfl, fun K S w ρ x h1 h2 h3 => ⟨S, h1, h2, Up.refl, h3⟩⟩
 cases v with
 | sl id =>
  simp only [yj]
  split
  ·split
   ·rename_i e sz els ho
    split
    ·rename_i hpu
     refine ⟨.row sz els, ⟨H.nx, lp id H.es⟩, fun α c => by rw [pX], rfl, fun K S w ρ x hr hi hx => ?_⟩
     have hg : (⟨H.nx, lp id H.es⟩ : Hp).get = cb H.get id .gone := by
      funext i
      unfold Hp.get
      by_cases hii : i = id
      ·subst hii
       rw [bB]
       simp only []
       have hlt : Nat.blt i H.nx = true := by
        unfold Hp.get at ho
        split at ho
        ·assumption
        ·cases ho
       rw [hlt]
       simp only [lj, if_true]
      ·rw [bW _ _ hii]
       simp only [lj, if_neg hii]
     refine ⟨_, by rw [hg]; exact (fG hr).1, by rw [hg]; exact hi.frz hr id, (fG hr).2, sm hr ho hpu hx⟩
    ·exact triv
   ·exact triv
  ·exact triv
 | _ => exact triv
theorem wz (lo : Nat) : ∀ (vs : List V) (H : Hp), ∃ vs' H', (∀ (α : Type) (c : List V → Hp → α), wZ lo H vs c = c vs' H') ∧ H'.nx = H.nx ∧ (∀ K S w ρ xs, HRel S w ρ H.get → Inv K S w ρ H.get → LRel S w ρ vs xs → ∃ S', HRel S' w ρ H'.get ∧ Inv K S' w ρ H'.get ∧ Up S S' w w ρ ρ ∧ LRel S' w ρ vs' xs)
 | [], H => ⟨[], H, fun _ _ => rfl, rfl, fun K S w ρ x h1 h2 h3 => ⟨S, h1, h2, Up.refl, h3⟩⟩
 | v :: r, H => by
  obtain ⟨v', H1, e1, n1, k1⟩ := wF lo H v
  obtain ⟨r', H2, e2, n2, k2⟩ := wz lo r H1
  refine ⟨v' :: r', H2, fun α c => by simp only [wZ, e1, e2], n2.trans n1, fun K S w ρ xs hr hi hx => ?_⟩
  simp only [LRel] at hx
  obtain ⟨x, ys, rfl, h1, h2⟩ := hx
  obtain ⟨S1, a1, a2, a3, a4⟩ := k1 K S w ρ x hr hi h1
  obtain ⟨S2, b1, b2, b3, b4⟩ := k2 K S1 w ρ ys a1 a2 (h2.up a3)
  exact ⟨S2, b1, b2, ⟨fun b hb => b3.s b (a3.s b hb), fun _ _ _ => rfl, fun _ _ h => h⟩, x, ys, rfl, a4.up b3, b4⟩
theorem Ca (lo : Nat) (H : Hp) (v : V) : ∃ v' H', (∀ (α : Type) (c : V → Hp → α), AC lo H v c = c v' H') ∧ H'.nx = H.nx ∧ (∀ K S w ρ x, HRel S w ρ H.get → Inv K S w ρ H.get → VRel S w ρ v x → ∃ S', HRel S' w ρ H'.get ∧ Inv K S' w ρ H'.get ∧ Up S S' w w ρ ρ ∧ VRel S' w ρ v' x) := by
 have h0 := wF lo H v
 cases v
 case agg cs =>
  obtain ⟨vs', H', e, hn, k⟩ := wz lo cs H
  refine ⟨.agg vs', H', fun α c => by simp only [AC, e], hn, fun K S w ρ x hr hi hx => ?_⟩
  simp only [VRel] at hx
  obtain ⟨xs, rfl, h1⟩ := hx
  obtain ⟨S', a1, a2, a3, a4⟩ := k K S w ρ xs hr hi h1
  exact ⟨S', a1, a2, a3, by simp only [VRel]; exact ⟨xs, rfl, a4⟩⟩
 all_goals exact h0
theorem sv (lo : Nat) : ∀ (vs : List V) (H : Hp), ∃ vs' H', (∀ (α : Type) (c : List V → Hp → α), uZ lo H vs c = c vs' H') ∧ H'.nx = H.nx ∧ (∀ K S w ρ xs, HRel S w ρ H.get → Inv K S w ρ H.get → LRel S w ρ vs xs → ∃ S', HRel S' w ρ H'.get ∧ Inv K S' w ρ H'.get ∧ Up S S' w w ρ ρ ∧ LRel S' w ρ vs' xs)
 | [], H => ⟨[], H, fun _ _ => rfl, rfl, fun K S w ρ x h1 h2 h3 => ⟨S, h1, h2, Up.refl, h3⟩⟩
 | v :: r, H => by
  obtain ⟨v', H1, e1, n1, k1⟩ := Ca lo H v
  obtain ⟨r', H2, e2, n2, k2⟩ := sv lo r H1
  refine ⟨v' :: r', H2, fun α c => by simp only [uZ, e1, e2], n2.trans n1, fun K S w ρ xs hr hi hx => ?_⟩
  simp only [LRel] at hx
  obtain ⟨x, ys, rfl, h1, h2⟩ := hx
  obtain ⟨S1, a1, a2, a3, a4⟩ := k1 K S w ρ x hr hi h1
  obtain ⟨S2, b1, b2, b3, b4⟩ := k2 K S1 w ρ ys a1 a2 (h2.up a3)
  exact ⟨S2, b1, b2, ⟨fun b hb => b3.s b (a3.s b hb), fun _ _ _ => rfl, fun _ _ h => h⟩, x, ys, rfl, a4.up b3, b4⟩
variable {all : Array Oper} {rest : List Oper} {o : Oper} {u : V} {H' : Hp}
theorem Dd {ok : Bool} (hw : bv F all o.guard = some true) (hx : lY P K o [] ok n F H u H') (k : Go P K Q (.ops all rest) s n (F.seto o.dst (some u)) H') : Go P K Q (.ops all (o :: rest)) s n F H := fun S w ρ a hr hi hF => by
 show wpList P all (dc P Q s) (o :: rest) a w
 unfold wpList
 rw [if_pos (cn hF hw)]
 exact .inl (hx S w ρ a hr hi hF _ _ fun x S' w' ρ' hr' hi' hu _ _ hv => k S' w' ρ' _ hr' hi' (cQ (hF.up hu) o.dst hv))
variable {L : List Nat} {m left i : Nat} {listed : Array Bool}
theorem CX (hrd : Region.ready .any all listed = [i]) (hi : all[i]? = some o) (hw : bv F all o.guard = some true) (hx : lY P K o L ((listed.setIfInBounds i true).getD m false) n F H u H') (k : Go P K Q (.drw all L m left (listed.setIfInBounds i true)) s n (F.seto o.dst (some u)) H') : Go P K Q (.drw all L m (left + 1) listed) s n F H := fun S w ρ a hr hiv hF hs => by
 refine kR (S := S) hrd ?_
 unfold wpOp
 simp only [hi]
 rw [if_pos (cn hF hw)]
 exact .inl (hx S w ρ a hr hiv hF _ _ fun x S' w' ρ' hr' hi' hu hA hL hv => kG hu hA hL (k S' w' ρ' _ hr' hi' (cQ (hF.up hu) o.dst hv) hs))
def hV (P : Program) (K : Ctx) (Q : Exit → Act → World → Prop) (n : Nat) : Rs → Prop
 | .ok e F H => ∀ S w ρ a, HRel S w ρ H.get → Inv K S w ρ H.get → FRel S w ρ a n F → Q (match e with | true => .ret | false => .normal) a w
 | .pt p s F H => Go P K Q p s n F H
 | .er _ _ => False
variable {ih : EP → List EI → Fm → Hp → Rs}
theorem ww {S : Nat → Prop} {w : World} {ρ : Nat → Option Value} {x : Value} : ∀ {rs : List V}, VRel S w ρ (kS rs) x → ∃ ys, LRel S w ρ rs ys ∧ x = km ys
 | [], hvx => by simp only [kS, VRel] at hvx; obtain ⟨ys, rfl, h1⟩ := hvx; exact ⟨ys, h1, by simp only [LRel] at h1; subst h1; rfl⟩
 | [v], hvx => ⟨[x], ⟨x, [], rfl, hvx, rfl⟩, rfl⟩
 | v :: u :: r, hvx => by
  simp only [kS, VRel] at hvx; obtain ⟨ys, rfl, h1⟩ := hvx
  refine ⟨ys, h1, ?_⟩
  simp only [LRel] at h1
  obtain ⟨_, _, rfl, _, _, _, rfl, _⟩ := h1
  rfl
theorem Be (hT : TabOk P T) (IH : ∀ p s F H K Q n, hV P K Q n (ih p s F H) → Go P K Q p s n F H) {X : Rs → Prop} (hX : ∀ n m, ¬ X (.er n m)) {keep ok : Bool} {vs : List V} {fid : FuncId} {fn : Func} {b : Code} {c : V → Hp → Rs} (hf : P.funcs[fid]? = some fn) (hb : fn.body = some b) (hl : Nat.ble vs.length fn.ntmps = true)
  (h : X (wO T ih keep vs fn b H L ok c)) : ∃ u H' L', (L' = L ∨ ok = true) ∧ CallR P K fid vs H L' (fun u' H'' => u' = u ∧ H'' = H') ∧ X (c u H') := by
 unfold wO at h
 simp only [] at h
 generalize hR : lB H 40 (oF vs []) [] = R at h
 split at h
 ·rename_i hok
  rw [oS] at h
  split at h
  ·rename_i e F1 H1 hrun
   split at h
   ·rename_i rs hres
    split at h
    ·rename_i hnx
     have hnx' : H.nx ≤ H1.nx := Nat.le_of_ble_eq_true hnx
     -- the objects that the call gets
     have hin : ∀ i, (⟨H.nx, cX R H.es⟩ : Hp).get i = H.get i ∨ (⟨H.nx, cX R H.es⟩ : Hp).get i = .gone := fun i => by
      unfold Hp.get
      simp only []
      split
      ·rcases ni (R := R) (i := i) (l := H.es) with e | ⟨_, e⟩
       ·exact .inl e
       ·exact .inr e
      ·exact .inl rfl
     have hout : ∀ i, gU i R = false → Nat.blt i H.nx = true → (⟨H.nx, cX R H.es⟩ : Hp).get i = .gone := fun i hi hlt => by
      unfold Hp.get
      simp only [hlt]
      exact tI hi _
     -- the objects behind the call
     have key : ∀ (H2 : Hp) (es3 : List (Nat × Ob)), H2.nx = H1.nx → (∀ i, am es3 i = am H2.es i ∨ am es3 i = .gone) → ∀ i, ((⟨H2.nx, es3 ++ dC H.nx R H.es⟩ : Hp).get i = H2.get i ∨ (⟨H2.nx, es3 ++ dC H.nx R H.es⟩ : Hp).get i = .gone) ∨ ((⟨H2.nx, es3 ++ dC H.nx R H.es⟩ : Hp).get i = H.get i ∧ (⟨H.nx, cX R H.es⟩ : Hp).get i = .gone ∧ H.get i ≠ .free) := fun H2 es3 hn h3 i => by
      by_cases hlt2 : Nat.blt i H2.nx = true
      ·have e0 : (⟨H2.nx, es3 ++ dC H.nx R H.es⟩ : Hp).get i = am (es3 ++ dC H.nx R H.es) i := by unfold Hp.get; simp only [hlt2]
       have e2 : H2.get i = am H2.es i := by unfold Hp.get; rw [hlt2]
       rw [e0, e2]
       rcases vh es3 (dC H.nx R H.es) i with e | ⟨e', e⟩
       ·rw [e]
        rcases h3 i with h3 | h3
        ·exact .inl (.inl h3)
        ·exact .inl (.inr h3)
       ·rw [e]
        rw [zA]
        cases hm : (!gU i R && Nat.blt i H.nx)
        ·exact .inl (.inr (by simp))
        ·have hm' := hm
         simp only [Bool.and_eq_true, Bool.not_eq_true'] at hm'
         have eH : H.get i = am H.es i := by unfold Hp.get; rw [hm'.2]
         rw [if_pos rfl]
         cases hf : am H.es i
         case free => exact .inl (.inr rfl)
         all_goals exact .inr ⟨by rw [eH, hf]; rfl, hout i hm'.1 hm'.2, by rw [eH, hf]; simp⟩
      ·have e0 : (⟨H2.nx, es3 ++ dC H.nx R H.es⟩ : Hp).get i = .free := by
        unfold Hp.get; simp only [Bool.not_eq_true] at hlt2; simp only [hlt2]
       have e2 : H2.get i = .free := by unfold Hp.get; simp only [Bool.not_eq_true] at hlt2; rw [hlt2]
       exact .inl (.inl (by rw [e0, e2]))
     -- what holds behind the call
     have fin : ∀ (H2 : Hp) (es3 : List (Nat × Ob)) (rs2 : List V), H2.nx = H1.nx → (∀ i, am es3 i = am H2.es i ∨ am es3 i = .gone) →
       (∀ K S w ρ xs, HRel S w ρ H1.get → Inv K S w ρ H1.get → LRel S w ρ rs xs → ∃ S', HRel S' w ρ H2.get ∧ Inv K S' w ρ H2.get ∧ Up S S' w w ρ ρ ∧ LRel S' w ρ rs2 xs) →
       ∃ L', (L' = L ∨ ok = true) ∧ CallR P K fid vs H L' (fun u' H'' => u' = kS rs2 ∧ H'' = ⟨H2.nx, es3 ++ dC H.nx R H.es⟩) := fun H2 es3 rs2 hn h3 hfz => by
      have main : ∀ L', (∀ (S : Nat → Prop) (w : World) (ρ : Nat → Option Value), HRel S w ρ H.get → L' = [] ∨ (cf H.get L' = true ∧ ∀ id, id ∈ L' → (⟨H.nx, cX R H.es⟩ : Hp).get id = .gone)) → CallR P K fid vs H L' (fun u' H'' => u' = kS rs2 ∧ H'' = ⟨H2.nx, es3 ++ dC H.nx R H.es⟩) := fun L' hL' S w ρ xs hr hi hx => by
       have hr1 := hr.drop (h' := (⟨H.nx, cX R H.es⟩ : Hp).get) hin
       have hi1 : Inv ⟨w, S, fun b => ∃ id, own ρ id ((⟨H.nx, cX R H.es⟩ : Hp).get id) b, ρ⟩ S w ρ (⟨H.nx, cX R H.es⟩ : Hp).get := ⟨ChgP.refl _ _, fun _ h => h, fun _ h => .inl h, fun id b hb => .inl ⟨id, hb⟩, fun _ _ h => h⟩
       refine rg hf hb hl hr1 hi1 hx (IH _ _ _ _ _ _ _ ?_)
       rw [hrun]
       intro S' w' ρ' a' hr' hi' hF'
       obtain ⟨rl, hrl⟩ : ∃ l : List ResultVar, fn.results = l.toArray := ⟨fn.results.toList, by simp⟩
       rw [hrl] at hres
       refine ret_go hT (rs := rl) (by cases e <;> simp) hrl hr' hF' (by simpa using hres) fun x hvx => ?_
       have hLR := ww hvx
       obtain ⟨ys, hys, rfl⟩ := hLR
       obtain ⟨S2, a1, a2, a3, a4⟩ := hfz _ S' w' ρ' ys hr' hi' hys
       obtain ⟨m1, m2, m3, m4⟩ := uL (h1 := (⟨H.nx, cX R H.es⟩ : Hp).get) (h2 := (⟨H2.nx, es3 ++ dC H.nx R H.es⟩ : Hp).get) hr hi hin a1 a2 (key H2 es3 hn h3)
       refine ⟨_, S2, ρ', _, _, rfl, ⟨rfl, rfl⟩, m1, m2, m3, wE a4, ?_⟩
       rcases hL' S w ρ hr with rfl | ⟨g1, g2⟩
       ·intro id hid; simp at hid
       ·exact m4 L' g1 g2
      rcases qf hok with hok | hok
      ·simp only [Bool.and_eq_true] at hok
       refine ⟨L, .inl rfl, main L fun S w ρ hr => .inr ⟨hok.1, fun id hid => ?_⟩⟩
       have hmem := List.all_eq_true.1 hok.2 id hid
       simp only [Bool.not_eq_true'] at hmem
       by_cases hlt : Nat.blt id H.nx = true
       ·exact hout id hmem hlt
       ·exfalso
        have hfree : H.get id = .free := by unfold Hp.get; simp only [Bool.not_eq_true] at hlt; rw [hlt]
        have hnl : ∀ (l : List Nat), id ∈ l → cf H.get l = true → False := by
         intro l
         induction l with
         | nil => intro h; simp at h
         | cons j t ih =>
          intro hm hl
          simp only [cf] at hl
          rcases List.mem_cons.1 hm with e | e
          ·subst e; rw [hfree] at hl; cases hl
          ·split at hl
           ·exact ih e hl
           ·exact ih e hl
           ·cases hl
        exact hnl L hid hok.1
      ·exact ⟨[], .inr hok, main [] fun _ _ _ _ => .inl rfl⟩
     split at h
     ·rw [oL] at h
      obtain ⟨L', g1, g2⟩ := fin H1 H1.es rs rfl (fun i => .inl rfl) (fun K S w ρ xs h1 h2 h3 => ⟨S, h1, h2, Up.refl, h3⟩)
      exact ⟨_, _, L', g1, g2, h⟩
     ·obtain ⟨rs2, H2, e1, e2, e3⟩ := sv H.nx rs H1
      rw [e1] at h
      rw [oS, oL] at h
      obtain ⟨L', g1, g2⟩ := fin H2 (cX _ H2.es) rs2 e2 (fun i => by
       rcases ni (R := lB H2 60 (oF rs2 R) []) (i := i) (l := H2.es) with e | ⟨_, e⟩
       ·exact .inl e
       ·exact .inr e) e3
      exact ⟨_, _, L', g1, g2, h⟩
    ·exact absurd h (hX _ _)
   ·exact absurd h (hX _ _)
  ·exact absurd h (hX _ _)
  ·exact absurd h (hX _ _)
 ·exact absurd h (hX _ _)
theorem mr (hT : TabOk P T) (IH : ∀ p s F H K Q n, hV P K Q n (ih p s F H) → Go P K Q p s n F H) {X : Rs → Prop} (hX : ∀ n m, ¬ X (.er n m)) {ok : Bool} {c : Option V → Hp → Rs} (h : X (ot T ih F H L ok o c)) : ∃ u H', lY P K o L ok n F H u H' ∧ X (c (some u) H') := by
 unfold ot at h
 split at h
 ·rename_i v hv
  exact ⟨v, H, Ae hT hv, h⟩
 ·rw [cy] at h
  split at h
  ·rename_i v ed hv
   split at h
   ·rename_i hc
    rw [Hp.ap_eq] at h
    refine ⟨_, _, oV hT hv hc, ?_⟩
    cases v with
    | none => exact h
    | some v => exact h
   ·exact absurd h (hX _ _)
  ·split at h
   ·rename_i fid args tys hop
    split at h
    ·rename_i vs hvs
     split at h
     ·rename_i v hn
      obtain ⟨he, hnat⟩ := hT.nat _ _ _ hn
      refine ⟨v, H, mZ (L' := L) he (by rw [hop]) hvs (fun S w ρ xs hr hi hx => ?_) (.inl rfl), h⟩
      obtain ⟨x, h1, h2⟩ := hnat S w ρ xs hx
      refine h2.mono fun e w' hR => ?_
      obtain ⟨rfl, rfl⟩ := hR
      exact ⟨x, S, ρ, v, H, rfl, ⟨rfl, rfl⟩, hr, hi, Up.refl, h1, kZ⟩
     ·split at h
      ·rename_i fn hfn
       obtain ⟨hf, he⟩ := hT.fn _ _ hfn
       split at h
       ·rename_i b hb
        split at h
        ·rename_i hl
         obtain ⟨u, H', L', g1, g2, g3⟩ := Be (K := K) hT IH hX hf hb hl h
         exact ⟨u, H', mZ he (by rw [hop]) hvs g2 g1, g3⟩
        ·exact absurd h (hX _ _)
       ·exact absurd h (hX _ _)
      ·exact absurd h (hX _ _)
    ·exact absurd h (hX _ _)
   ·exact absurd h (hX _ _)
theorem zG {l : List Nat} {j : Nat} (h : ud l j = true) : l = [j] := by
 unfold ud at h
 split at h
 ·rw [Nat.eq_of_beq_eq_true h]
 ·cases h
theorem uH (hT : TabOk P T) (IH : ∀ p s F H K Q n, hV P K Q n (ih p s F H) → Go P K Q p s n F H) {i : Nat} {ps : List (Nat × Operand)} {vs : List (Nat × V)} {v : V} (hp : nf T all i vs = some (o, ps, v)) : ∀ (left : Nat) (listed : Array Bool) (F : Fm) (H : Hp), hV P K Q n (tK T ih all L m i o ps v s left listed F H) → GoP P K Q all L m left listed s n F H i o ps vs v
 | left, listed, F, H, h => by
  unfold tK at h
  split at h
  ·rename_i hl
   split at h
   ·rename_i x hrd
    split at h
    ·rename_i hb
     have := Nat.eq_of_beq_eq_true hb
     subst this
     rw [Fm.puto_eq] at h
     exact BN hT hp hrd hl (IH _ _ _ _ _ _ _ h)
    ·exact h.elim
   ·rename_i x y hrd
    cases left with
    | zero => exact h.elim
    | succ left =>
     simp only [cy] at h
     generalize hj : wL x y i = j at h
     unfold wL at hj
     split at h
     ·exact h.elim
     ·rename_i hji
      have hne : j ≠ i := Nat.ne_of_beq_eq_false hji
      split at h
      ·rename_i oj hoj
       split at h
       ·rename_i hc
        simp only [Bool.and_eq_true] at hc
        obtain ⟨⟨⟨hc1, hc2⟩, hc3⟩, hc4⟩ := hc
        split at h
        ·rename_i hw
         obtain ⟨u, H', hx, hk⟩ := mr (K := K) (n := n) hT IH (X := hV P K Q n) (fun _ _ h => h) h
         rw [Fm.puto_eq] at hk
         have ih2 := uH hT IH hp left _ _ _ hk
         have hpair : (match Region.ready .any all listed with | [x, y] => (Nat.beq x i && Nat.beq y j) || (Nat.beq x j && Nat.beq y i) | _ => false) = true := by
          rw [hrd]
          simp only []
          cases hx1 : Nat.beq x i
          ·rw [hx1] at hj
           cases hy1 : Nat.beq y i
           ·rw [hy1] at hj; exact absurd hj.symm hne
           ·rw [hy1] at hj; simp only at hj; subst hj; simp
          ·rw [hx1] at hj; simp only at hj; subst hj; simp
         refine AB hT hp hoj hpair (zG hc1) hl (fun t ht => ?_) hc2 hc3 (Array.setIfInBounds_comm _ _ (Ne.symm hne)) (Post := fun u' H'' => u' = u ∧ H'' = H') (fun S w ρ a hr hi hF K2 hK2 => ?_) (fun u' H'' hP => by obtain ⟨rfl, rfl⟩ := hP; exact ih2)
         ·rw [ht] at hc4
          simp only [Option.isNone_iff_eq_none] at hc4
          exact hc4
         ·unfold wpOp
          simp only [hoj]
          rw [if_pos (cn hF hw)]
          refine .inl (hx S w ρ a hr hi hF _ _ fun x S' w' ρ' hr' hi' hu hA hL hv => hK2 x S' w' ρ' u H' ⟨rfl, rfl⟩ hr' hi' hu hA (hL.imp id fun h => ?_) hv)
          simpa only [Bool.and_eq_true] using h
        ·exact h.elim
       ·exact h.elim
      ·exact h.elim
   ·exact h.elim
  ·exact h.elim
theorem Cr (hT : TabOk P T) (IH : ∀ p s F H K Q n, hV P K Q n (ih p s F H) → Go P K Q p s n F H) {i j : Nat} {left : Nat} {listed : Array Bool} (hrd : Region.ready .any all listed = [i, j]) (h : hV P K Q n (An T ih all L m left i j listed s F H)) : Go P K Q (.drw all L m (left + 1) listed) s n F H := by
 unfold An at h
 split at h
 ·rename_i oi hoi
  split at h
  ·rename_i oj hoj
   split at h
   ·rename_i hwi
    split at h
    ·rename_i hwj
     obtain ⟨ui, Hi, xi, hk⟩ := mr (K := K) (n := n) hT IH (X := hV P K Q n) (fun _ _ h => h) h
     rw [Fm.puto_eq] at hk
     split at hk
     ·rename_i F1 H1 e1
      obtain ⟨uj, Hj, xj, hk2⟩ := mr (K := K) (n := n) hT IH (X := hV P K Q n) (fun _ _ h => h) hk
      rw [Fm.puto_eq] at hk2
      split at hk2
      ·rename_i F2 H2 e2
       split at hk2
       ·rename_i hal
        have c : Go P K Q (.ex .normal) s n F1 H1 := IH _ _ _ _ _ _ _ hk2
        intro S w ρ a hr hi hF
        have hpin : ∀ id x, K.pin id = some x → id < H.nx := fun id x hx => Decidable.byContradiction fun hn => by
         have h1 := hi.pin id x hx
         have h2 := hr.ob id
         have h3 : H.get id = .free := by
          unfold Hp.get
          have : Nat.blt id H.nx = false := by
           cases hb : Nat.blt id H.nx
           ·rfl
           ·exact absurd (by simpa [Nat.blt_eq] using hb) hn
          simp only [this]
         rw [h3] at h2
         have h4 : ρ id = none := h2
         rw [h4] at h1; cases h1
        have g1 : Go P K (dc P Q s) (.drw all L m left (listed.setIfInBounds i true)) [] n (F.seto oi.dst (some ui)) Hi := IH _ _ _ _ _ _ _ (by rw [e1]; exact fun S w ρ a hr hi hF => c S w ρ a hr hi hF)
        have g2 : Go P K (dc P Q s) (.drw all L m left (listed.setIfInBounds j true)) [] n (F.seto oj.dst (some uj)) Hj := IH _ _ _ _ _ _ _ (by rw [e2]; exact fun S w ρ a hr hi hF => go_alike hal hpin c S w ρ a hr hi hF)
        exact ou (by rw [hrd]; simp) hoi hoj hwi hwj xi xj g1 g2 S w ρ a hr hi hF
       ·exact hk2.elim
      ·exact hk2.elim
      ·exact hk2.elim
     ·exact hk.elim
     ·exact hk.elim
    ·exact h.elim
   ·exact h.elim
  ·exact h.elim
 ·exact h.elim
theorem mM : ∀ {R : List Nat} {i : Nat} {ps : List (Nat × Operand)} {v : V}, nI T F all R = some (i, o, ps, v) → ∃ vs, jq F ps = some vs ∧ nf T all i vs = some (o, ps, v)
 | [], _, _, _, h => by cases h
 | j :: r, i, ps, v, h => by
  unfold nI at h
  split at h
  ·rename_i hj
   split at h
   ·rename_i vs hvs
    split at h
    ·rename_i o' ps' v' hpb
     simp only [Option.some.injEq, Prod.mk.injEq] at h
     obtain ⟨rfl, rfl, rfl, rfl⟩ := h
     refine ⟨vs, ?_, hpb⟩
     have := hpb
     unfold nf at this
     rw [hj] at this
     simp only at this
     repeat' (split at this)
     all_goals first
      | (cases this; done)
      | (simp only [cy, Option.some.injEq, Prod.mk.injEq] at this; obtain ⟨_, rfl, _⟩ := this; exact hvs)
    ·exact mM h
   ·exact mM h
  ·exact mM h
theorem BX (hT : TabOk P T) (hm : P.follows .mixedOrders = true) (IH : ∀ p s F H K Q n, hV P K Q n (ih p s F H) → Go P K Q p s n F H) : ∀ (p : EP) (s : List EI) (F : Fm) (H : Hp), hV P K Q n (step T ih p s F H) → Go P K Q p s n F H
 | .code c, s, F, H, h => by
  replace h : hV P K Q n (wJ T ih c s F H) := h
  unfold wJ at h
  split at h
  ·exact zP (IH _ _ _ _ _ _ _ h)
  ·exact vl (IH _ _ _ _ _ _ _ h)
  ·exact wc (IH _ _ _ _ _ _ _ h)
  ·exact go_ret (IH _ _ _ _ _ _ _ h)
  ·exact ws (IH _ _ _ _ _ _ _ h)
  ·exact Bh (IH _ _ _ _ _ _ _ h)
  ·exact As (IH _ _ _ _ _ _ _ h)
  ·exact go_loop 1000000 (IH _ _ _ _ _ _ _ h)
  ·split at h
   ·exact uw ‹_› (IH _ _ _ _ _ _ _ h)
   ·exact uc ‹_› (IH _ _ _ _ _ _ _ h)
   ·exact h.elim
  ·exact go_region (IH _ _ _ _ _ _ _ h)
  ·split at h
   ·rename_i hs
    simp only [bX, cy] at h
    exact wj _ _ _ rfl hm hs (IH _ _ _ _ _ _ _ h)
   ·exact h.elim
  ·exact h.elim
 | .ops all rest, s, F, H, h => by
  replace h : hV P K Q n (vw T ih all rest s F H) := h
  unfold vw at h
  split at h
  ·exact zS (IH _ _ _ _ _ _ _ h)
  ·split at h
   ·rw [Fm.puto_eq] at h
    exact zZ ‹_› (IH _ _ _ _ _ _ _ h)
   ·obtain ⟨u, H', hx, hk⟩ := mr (K := K) (n := n) hT IH (X := hV P K Q n) (fun _ _ h => h) h
    rw [Fm.puto_eq] at hk
    exact Dd ‹_› hx (IH _ _ _ _ _ _ _ hk)
   ·exact h.elim
 | .ex e, s, F, H, h => by
  replace h : hV P K Q n (yu ih e s F H) := h
  unfold yu at h
  split at h
  ·split at h
   ·exact fun S w ρ a hr hi hF => h S w ρ a hr hi hF
   ·exact fun S w ρ a hr hi hF => h S w ρ a hr hi hF
   ·exact h.elim
  ·split at h
   ·exact wk (IH _ _ _ _ _ _ _ h)
   ·exact uN (IH _ _ _ _ _ _ _ h)
   ·exact vf (IH _ _ _ _ _ _ _ h)
   ·exact h.elim
  ·split at h
   ·split at h
    ·exact h.elim
    ·exact go_xloop (IH _ _ _ _ _ _ _ h)
   ·exact go_xloopE (IH _ _ _ _ _ _ _ h)
   ·exact go_xloopR (IH _ _ _ _ _ _ _ h)
   ·exact h.elim
  ·split at h
   ·exact Bc (IH _ _ _ _ _ _ _ h)
   ·exact AG (IH _ _ _ _ _ _ _ h)
   ·exact AO (IH _ _ _ _ _ _ _ h)
   ·exact h.elim
  ·split at h
   ·exact uX (IH _ _ _ _ _ _ _ h)
   ·split at h
    ·exact uG ‹_› (IH _ _ _ _ _ _ _ h)
    ·exact uD ‹_› (IH _ _ _ _ _ _ _ h)
   ·exact va (IH _ _ _ _ _ _ _ h)
   ·exact h.elim
 | .drw all L m left listed, s, F, H, h => by
  replace h : hV P K Q n (yl T ih all L m left listed s F H) := h
  unfold yl at h
  split at h
  ·exact un ‹_› (IH _ _ _ _ _ _ _ h)
  ·rename_i i R hrd
   cases left with
   | zero => exact h.elim
   | succ left =>
    simp only [] at h
    split at h
    ·split at h
     ·rename_i o ho
      split at h
      ·rw [Fm.puto_eq] at h
       exact go_d1S hrd ho ‹_› (IH _ _ _ _ _ _ _ h)
      ·obtain ⟨u, H', hx, hk⟩ := mr (K := K) (n := n) hT IH (X := hV P K Q n) (fun _ _ h => h) h
       rw [Fm.puto_eq] at hk
       exact CX hrd ho ‹_› hx (IH _ _ _ _ _ _ _ hk)
      ·exact h.elim
     ·exact h.elim
    ·split at h
     ·split at h
      ·rename_i o ho
       split at h
       ·rename_i hc
        simp only [Bool.and_eq_true, Bool.not_eq_true'] at hc
        obtain ⟨⟨hc1, hc2⟩, hc3⟩ := hc
        split at h
        ·rw [Fm.puto_eq] at h
         exact yp hc3 ho hc2 hc1 ‹_› (IH _ _ _ _ _ _ _ h)
        ·rename_i hw
         split at h
         ·rename_i v hv
          rw [Fm.puto_eq] at h
          exact By hT hc3 ho hc2 hc1 hw hv (IH _ _ _ _ _ _ _ h)
         ·split at h
          ·rename_i id hid
           split at h
           ·rename_i hL
            simp only [Bool.and_eq_true, Bool.not_eq_true'] at hL
            obtain ⟨⟨hL1, hL2⟩, hL3⟩ := hL
            split at h
            ·rename_i v ed hv
             rw [Fm.puto_eq] at h
             exact Bv hT hc3 hL2 hL3 ho hc2 hc1 hw hid hL1 hv (IH _ _ _ _ _ _ _ h)
            ·exact h.elim
           ·exact h.elim
          ·exact h.elim
        ·exact h.elim
       ·exact h.elim
      ·exact h.elim
     ·split at h
      ·rename_i i' o ps v hpo
       rw [Fm.puto_eq] at h
       obtain ⟨vs, g1, g2⟩ := mM hpo
       exact Ad g1 (uH hT IH g2 left listed _ _ h)
      ·split at h
       ·exact Cr hT IH hrd h
       ·exact h.elim
theorem Aa (hT : TabOk P T) (hm : P.follows .mixedOrders = true) : ∀ (k : Nat) (p : EP) (s : List EI) (F : Fm) (H : Hp) (K : Ctx) (Q : Exit → Act → World → Prop) (n : Nat), hV P K Q n (run T k p s F H) → Go P K Q p s n F H
 | 0, p, s, F, H, K, Q, n, h => h
 | k + 1, p, s, F, H, K, Q, n, h => BX hT hm (fun p s F H K Q n h => Aa hT hm k p s F H K Q n h) p s F H h
def Bm (T : Tab) (k : Nat) (fid : FuncId) (vs : List V) (H : Hp) : Option (List V × Hp) := match T.fn fid with
 |some fn => match fn.body with
  |some b => match Nat.ble vs.length fn.ntmps with
   |true => match run T k (.code b) [] (jC fn.ntmps vs) H with
    |.ok _ F1 H1 => match oR T H1.get F1 fn.results.toList with
     | some rs => some (rs, H1)
     | none => none
    | _ => none
   | false => none
  | none => none
 | none => none
theorem Cp (hT : TabOk P T) (hm : P.follows .mixedOrders = true) {k : Nat} {fid : FuncId} {vs rs : List V} {H H1 : Hp} (h : Bm T k fid vs H = some (rs, H1)) {S : Nat → Prop} {w : World} {ρ : Nat → Option Value} {xs : List Value} (hr : HRel S w ρ H.get) (hx : LRel S w ρ vs xs) : ce P fid = true ∧
  Calls P fid xs.toArray w fun e w' => ∃ S' ρ' ys, e = .returned (km ys) ∧ HRel S' w' ρ' H1.get ∧ Inv ⟨w, S, fun b => ∃ id, own ρ id (H.get id) b, ρ⟩ S' w' ρ' H1.get ∧ LRel S' w' ρ' rs ys := by
 unfold Bm at h
 split at h
 ·rename_i fn hfn
  obtain ⟨hf, he⟩ := hT.fn _ _ hfn
  split at h
  ·rename_i b hb
   split at h
   ·rename_i hl
    split at h
    ·rename_i e F1 H1' hrun
     split at h
     ·rename_i rs' hres
      simp only [Option.some.injEq, Prod.mk.injEq] at h
      obtain ⟨rfl, rfl⟩ := h
      refine ⟨he, ?_⟩
      have hi1 : Inv ⟨w, S, fun b => ∃ id, own ρ id (H.get id) b, ρ⟩ S w ρ H.get := ⟨ChgP.refl _ _, fun _ h => h, fun _ h => .inl h, fun id b hb => .inl ⟨id, hb⟩, fun _ _ h => h⟩
      refine rg hf hb hl hr hi1 hx (Aa hT hm k _ _ _ _ _ _ _ ?_)
      rw [hrun]
      intro S' w' ρ' a' hr' hi' hF'
      obtain ⟨rl, hrl⟩ : ∃ l : List ResultVar, fn.results = l.toArray := ⟨fn.results.toList, by simp⟩
      rw [hrl] at hres
      refine ret_go hT (rs := rl) (by cases e <;> simp) hrl hr' hF' (by simpa using hres) fun x hvx => ?_
      have hLR := ww hvx
      obtain ⟨ys, hys, rfl⟩ := hLR
      exact ⟨S', ρ', ys, rfl, hr', hi', hys⟩
     ·cases h
    ·cases h
   ·cases h
  ·cases h
 ·cases h
end
end Go.Proofs.YtgpcdfbmbcognaaGreat
namespace Go.Proofs.YtgpcdfbmbcognaaGreat
open Go.RowKit
set_option maxRecDepth 100000
set_option maxHeartbeats 1000000 in
theorem Cg (s : ByteArray) (c : Int) (w : World) : Calls Tryz.prog 62 #[.string s, .int .u8 c] w fun e w' => e = .returned (.int .i64 (Lib.indexByte s.data.toList c.toNat.toUInt8)) ∧ w = w' := by
 go_enter Tryz.func62, Tryz.ntmps62
 go_wp2
 rw [run_callFunc_extern Tryz.func86 (by kernel_rfl) (by kernel_rfl) (by kernel_rfl) (e := Extern.BytealgIndexByte.indexByte) (by kernel_rfl), Lib.run_indexByteString]
 simp only [Result.andThen]
 rw [Oper.upon_value]
 go_wp2
 go_ret
 exact ⟨rfl, rfl⟩
theorem yt (s : ByteArray) (c : Int) (w : World) : Calls Tryz.prog 38 #[.string s, .int .u8 c] w fun e w' => e = .returned (.int .i64 (Lib.indexByte s.data.toList c.toNat.toUInt8)) ∧ w = w' := by
 go_enter Tryz.func38, Tryz.ntmps38
 go_wp2_with (go_at_call 62; refine qmm (Cg _ _ _) ?_)
 go_ret
 exact ⟨rfl, rfl⟩
end Go.Proofs.YtgpcdfbmbcognaaGreat
namespace Go.Proofs.YtgpcdfbmbcognaaGreat
open Go.RowKit Lx Sx
set_option maxRecDepth 100000
def pZ : List (List UInt8) → List V → Bool
 | [], [] => true
 | s :: r, .str l :: q => lEq s l && pZ r q
 | _, _ => false
def rr (ls : List (List UInt8)) : V → Bool
 | .nils => ls.isEmpty
 | .row sz els => Nat.beq sz 1 && pZ ls els
 | _ => false
mutual
def treeB : Tree → V → Bool
 |.node k s ls ks, v => match v with
  |.agg [.int .i64 k', .str s', l, r] => iEq k k' && lEq s s' && rr ls l && (match r with
   | .nils => ks.isEmpty
   | .row sz els => Nat.beq sz 4 && kidsB ks els
   | _ => false)
  | _ => false
def kidsB : List Tree → List V → Bool
 |[], vs => match vs with
  | [] => true
  | _ => false
 |t :: r, vs => match vs with
  | v :: q => treeB t v && kidsB r q
  | [] => false
end
section
variable {S : Nat → Prop} {w : World}
theorem uy {ρ : Nat → Option Value} : ∀ {ls : List (List UInt8)} {els : List V} {xs : List Value}, pZ ls els = true → CRel S w ρ 1 els xs → els.length = ls.length ∧ xs = ls.map aQ
 | [], [], xs, _, hc => by simp only [CRel] at hc; subst hc; exact ⟨rfl, rfl⟩
 | s :: r, v :: q, xs, hb, hc => by
  cases v <;> simp only [pZ] at hb <;> first | (cases hb; done) | skip
  rename_i l
  simp only [Bool.and_eq_true] at hb
  have hl := hb.1
  rw [lF] at hl
  simp only [beq_iff_eq] at hl
  subst hl
  simp only [CRel] at hc
  obtain ⟨x, ys, rfl, _, h3, h4⟩ := hc
  simp only [VRel] at h3
  subst h3
  obtain ⟨h5, h6⟩ := uy hb.2 h4
  exact ⟨by simp [h5], by simp [h6, Value.cells]⟩
 | [], _ :: _, _, hb, _ => by cases hb
 | _ :: _, [], _, hb, _ => by cases hb
theorem zn {ρ : Nat → Option Value} {ls : List (List UInt8)} {v : V} {x : Value} (hb : rr ls v = true) (hx : VRel S w ρ v x) : ∃ A m, x = .slice A ls.length m ∧ ls.length ≤ m ∧ m ≤ maxLen ∧ RowIn S w 1 A ls.length (ls.map aQ) := by
 cases v <;> simp only [rr] at hb <;> first | (cases hb; done) | skip
 ·simp only [List.isEmpty_iff] at hb
  subst hb
  simp only [VRel] at hx; subst hx
  exact ⟨none, 0, rfl, Nat.le_refl _, by decide, RowIn.none_⟩
 ·rename_i sz els
  simp only [Bool.and_eq_true, Nat.beq_eq] at hb
  obtain ⟨rfl, hb⟩ := hb
  simp only [VRel] at hx
  obtain ⟨A, c, xs, rfl, h3, h4, h5, h6⟩ := hx
  obtain ⟨h7, rfl⟩ := uy hb h5
  rw [h7] at h3 h6 ⊢
  exact ⟨A, c, rfl, h3, h4, h6⟩
mutual
theorem treeB_ok {ρ : Nat → Option Value} : ∀ {t : Tree} {v : V} {x : Value}, treeB t v = true → VRel S w ρ v x → ∃ c, x = .agg c.toArray ∧ TreeIs S w t c
 | .node k s ls ks, v, x, hb, hx => by
  unfold treeB at hb
  split at hb
  ·rename_i k' s' l r
   simp only [Bool.and_eq_true] at hb
   obtain ⟨⟨⟨hb1, hb2⟩, hb3⟩, hb4⟩ := hb
   rw [nV] at hb1
   rw [lF] at hb2
   simp only [beq_iff_eq] at hb1 hb2
   subst hb1 hb2
   simp only [VRel] at hx
   obtain ⟨xs, rfl, hl⟩ := hx
   simp only [LRel] at hl
   obtain ⟨x0, _, rfl, h0, x1, _, rfl, h1, x2, _, rfl, h2, x3, _, rfl, h3, rfl⟩ := hl
   simp only [VRel] at h0 h1
   subst h0 h1
   obtain ⟨A, m, rfl, g1, g2, g3⟩ := zn hb3 h2
   have kk : ∃ B n, x3 = .slice B ks.length n ∧ ks.length ≤ n ∧ n ≤ maxLen ∧ ∃ cs, KidsAre S w ks cs ∧ RowIn S w 4 B ks.length cs := by
    split at hb4
    ·simp only [List.isEmpty_iff] at hb4
     subst hb4
     simp only [VRel] at h3; subst h3
     exact ⟨none, 0, rfl, Nat.le_refl _, by decide, [], by simp only [KidsAre], RowIn.none_⟩
    ·rename_i sz els
     simp only [Bool.and_eq_true, Nat.beq_eq] at hb4
     obtain ⟨rfl, hb4⟩ := hb4
     simp only [VRel] at h3
     obtain ⟨B, c, ys, rfl, q3, q4, q5, q6⟩ := h3
     obtain ⟨q7, q8⟩ := kidsB_ok hb4 q5
     rw [q7] at q3 q6 ⊢
     exact ⟨B, c, rfl, q3, q4, ys, q8, q6⟩
    ·cases hb4
   obtain ⟨B, n, rfl, k1, k2, cs, k3, k4⟩ := kk
   exact ⟨_, rfl, Cl g1 g2 k1 k2 g3 k3 k4⟩
  ·cases hb
theorem kidsB_ok {ρ : Nat → Option Value} : ∀ {ts : List Tree} {vs : List V} {xs : List Value}, kidsB ts vs = true → CRel S w ρ 4 vs xs → vs.length = ts.length ∧ KidsAre S w ts xs
 | [], vs, xs, hb, hc => by
  unfold kidsB at hb
  split at hb
  ·simp only [CRel] at hc; subst hc; exact ⟨rfl, by simp only [KidsAre]⟩
  ·cases hb
 | t :: r, vs, xs, hb, hc => by
  unfold kidsB at hb
  split at hb
  ·rename_i v q
   simp only [Bool.and_eq_true] at hb
   simp only [CRel] at hc
   obtain ⟨x, ys, rfl, _, h3, h4⟩ := hc
   obtain ⟨c, rfl, hT⟩ := treeB_ok hb.1 h3
   obtain ⟨h5, h6⟩ := kidsB_ok hb.2 h4
   exact ⟨by simp [h5], by simp only [KidsAre]; exact ⟨c, ys, by simp [Value.cells], hT, h6⟩⟩
  ·cases hb
end
end
def vv (T : Tab) (k : Nat) (fid : FuncId) (vs : List V) : Option (List V) := match Bm T k fid vs ⟨0, []⟩ with
 | some (rs, H1) => uZ 0 H1 rs fun rs' _ => some rs'
 | none => none
theorem kr (i : Nat) : (⟨0, []⟩ : Hp).get i = .free := by
 unfold Hp.get
 have : Nat.blt i 0 = false := by cases i <;> rfl
 simp only [this]
theorem BA (w : World) : HRel (fun _ => False) w (fun _ => none) (⟨0, []⟩ : Hp).get :=
 ⟨fun i => by rw [kr]; rfl, fun i b hb => by rw [kr] at hb; exact hb.elim, fun i j b hb _ => by rw [kr] at hb; exact hb.elim, fun _ h => h.elim⟩
theorem BS {P : Program} {T : Tab} (hT : TabOk P T) (hm : P.follows .mixedOrders = true) {k : Nat} {fid : FuncId} {vs rs : List V} (h : vv T k fid vs = some rs) {w : World} {xs : List Value} (hx : LRel (fun _ => False) w (fun _ => none) vs xs) :
  Calls P fid xs.toArray w fun e w' => ∃ S' ρ' ys, e = .returned (km ys) ∧ (∀ b, S' b → w.heap.size ≤ b) ∧ Chg [] w w' ∧ LRel S' w' ρ' rs ys := by
 unfold vv at h
 split at h
 ·rename_i rs1 H1 hrun
  obtain ⟨rs2, H2, e1, _, e3⟩ := sv 0 rs1 H1
  rw [e1] at h
  injection h with h; subst h
  have hr0 := BA w
  refine (Cp hT hm hrun hr0 hx).2.mono fun e w' hR => ?_
  obtain ⟨S', ρ', ys, rfl, hr, hi, hl⟩ := hR
  obtain ⟨S2, a1, a2, a3, a4⟩ := e3 _ S' w' ρ' ys hr hi hl
  have hno : ∀ b, ¬ ∃ id, own (fun _ => none) id ((⟨0, []⟩ : Hp).get id) b := fun b ⟨id, hb⟩ => by rw [kr] at hb; exact hb
  refine ⟨S2, ρ', ys, rfl, fun b hb => ?_, ⟨hi.chg.os, hi.chg.tape, hi.chg.output, hi.chg.size, fun b hb _ => hi.chg.block b hb (hno b)⟩, a4⟩
  rcases a2.s1 b hb with h | h | h
  ·exact h.elim
  ·exact absurd h (hno b)
  ·exact h
 ·cases h
def AN (fid : FuncId) (vs : List V) : Option V := match Nat.beq fid 38 with
 |true => match vs with
  | [.str s, .int .u8 (.ofNat c)] => xd (Lib.indexByte s c.toUInt8) fun n => some (.int .i64 n)
  | _ => none
 | false => none
noncomputable def xl : Tab := ⟨true, lr tyL, lr fnL, AN, fun f => Nat.beq f 22⟩
theorem BV : TabOk Tryz.prog xl := by
 refine ⟨Ag, Dz, fun i vs v hv => ?_⟩
 replace hv : AN i vs = some v := hv
 unfold AN at hv
 split at hv
 ·rename_i hb
  have := Nat.eq_of_beq_eq_true hb
  subst this
  split at hv
  ·rename_i s c
   rw [vV] at hv
   injection hv with hv; subst hv
   refine ⟨by kernel_rfl, fun S w ρ xs hx => ?_⟩
   simp only [LRel] at hx
   obtain ⟨x0, _, rfl, h0, x1, _, rfl, h1, rfl⟩ := hx
   simp only [VRel] at h0 h1
   subst h0 h1
   exact ⟨_, by simp only [VRel]; rfl, yt _ _ _⟩
  ·cases hv
 ·cases hv
def qg (t : Tree) : Option (List V) → Bool
 | some [v, .int .i64 a, .int .i64 e] => treeB t v && iEq a 0 && iEq e 0
 | _ => false
theorem yO {k : Nat} {l : List UInt8} {t : Tree} (h : qg t (vv xl k 10 [.str l]) = true) {w : World} : Calls Tryz.prog 10 [aQ l].toArray w fun e w' => ∃ c0 c1 c2 c3, e = .returned (.tuple #[.agg #[c0, c1, c2, c3], .int .i64 0, .int .i64 0]) ∧ TreeIs (fun b => w.heap.size ≤ b) w' t [c0, c1, c2, c3] ∧ Chg [] w w' := by
 unfold qg at h
 split at h
 ·rename_i v a e hr
  simp only [Bool.and_eq_true, nV, beq_iff_eq] at h
  obtain ⟨⟨h1, rfl⟩, rfl⟩ := h
  refine (BS BV (by kernel_rfl) hr (xs := [aQ l]) ⟨_, [], rfl, by simp only [VRel], rfl⟩).mono fun e w' hR => ?_
  obtain ⟨S', ρ', ys, rfl, g1, g2, g3⟩ := hR
  simp only [LRel] at g3
  obtain ⟨x0, _, rfl, h0, x1, _, rfl, h2, x2, _, rfl, h3, rfl⟩ := g3
  simp only [VRel] at h2 h3
  subst h2 h3
  obtain ⟨c, rfl, hT⟩ := treeB_ok h1 h0
  have h4 := hT.four
  match c, h4, hT with
  | [c0, c1, c2, c3], _, hT => exact ⟨c0, c1, c2, c3, rfl, hT.keep g1 (fun _ _ _ => rfl), g2⟩
 ·cases h
end Go.Proofs.YtgpcdfbmbcognaaGreat
namespace Go.Proofs.YtgpcdfbmbcognaaGreat
open Go.RowKit Lx Sx
set_option maxRecDepth 100000
set_option maxHeartbeats 1000000
theorem sS (a : List UInt8) (f : Bool) (ha : a.length ≤ 140737488351232) : mj a f (aM false a f) := sum0_calls rfl rfl fun S w ρ xs hx => by
 simp only [LRel] at hx
 obtain ⟨x, ys, rfl, h1, y, zs, rfl, h2, rfl⟩ := hx
 simp only [VRel] at h1 h2; subst h1 h2
 exact (BZ a f w (by omega)).mono fun e w' ⟨h1, h2⟩ => ⟨_, h1, by simp only [VRel], h2 ▸ Chg.refl _ _⟩
theorem nt (k n : Int) : bC k n = co k n := by
 unfold bC co f0
 repeat' split
 all_goals first | rfl | omega
theorem yU (k : Int) (x : List UInt8) : sy k x = jy k x := by
 have c : ∀ n : Nat, ((ar x : Int) == (n : Int)) = (ar x == n) := fun n => by
  rw [Bool.eq_iff_iff]; simp only [beq_iff_eq]; omega
 have c1 : ((ar x : Int) == 1) = (ar x == 1) := c 1
 have c2 : ((ar x : Int) == 2) = (ar x == 2) := c 2
 have c3 : ((ar x : Int) == 3) = (ar x == 3) := c 3
 have c4 : ((ar x : Int) == 4) = (ar x == 4) := c 4
 have c5 : ((ar x : Int) == 5) = (ar x == 5) := c 5
 have c6 : ((ar x : Int) == 6) = (ar x == 6) := c 6
 unfold sy jy xO nk
 simp only [c1, c2, c3, c4, c5, c6]
theorem At (k : Int) (n i : Nat) (kk : Int) : uS k n i kk = kx k n i kk := by
 have e1 : nZ kk = ip kk := by simp only [nZ, ip, mc, Bool.and_assoc, Bool.decide_and]
 have e2 : qd kk = kz kk := by simp only [qd, kz, Bool.decide_and]
 have e3 : sQ kk = lT kk := by simp only [sQ, lT, e1, mc, Bool.and_assoc, Bool.decide_and]
 unfold uS kx
 rw [e1, e2, e3]
mutual
theorem shapedT_K : ∀ t : Tree, shapedT t = shapeK t
 | .node k s ls ks => by simp only [shapedT, shapeK, nt, yU, kidsT_K k ks.length ks 0]
theorem kidsT_K (k : Int) (n : Nat) : ∀ (l : List Tree) (i : Nat), kidsT k n l i = shapeKs k n i l
 | [], i => by simp only [kidsT, shapeKs]
 | t :: r, i => by simp only [kidsT, shapeKs, At, shapedT_K t, kidsT_K k n r (i + 1)]
end
theorem yM : ∀ t : Tree, tbulk t ≤ 40000000 → shapeK t = true → ir t (leadedT t) := ec fun t ih ht hs => by
 have hk := eh t
 have hl := mQ t
 have hbt := bD t
 have kids : ∀ k i, t.kids.length - i ≤ k → ∃ M, eR M t i (leadedsT (t.kids.drop i)) := fun k => by
  have last : ∀ i, ¬ i < t.kids.length → ∃ M, eR M t i (leadedsT (t.kids.drop i)) := fun i hi => by
   rw [List.drop_of_length_le (by omega)]
   exact ⟨1, lR 0 _ _ _ ⟨fun h => absurd h hi, fun _ => rfl⟩⟩
  induction k with
  | zero => intro i hi; exact last i (by omega)
  | succ k ihk =>
   intro i hi
   obtain ⟨u, hu, hul⟩ | h' := bd t.kids i
   ·have := dP hu
    have hb := ih i u hu (by omega) (dq hs hu).1
    obtain ⟨M, hM⟩ := ihk (i + 1) (by omega)
    rw [dD hu, leadedsT]
    refine ⟨M + 1, lR M _ _ _ ⟨fun _ => ⟨u, hu, _, hb, fun e => ?_, fun e => ?_⟩, fun h => absurd hul h⟩⟩
    ·rw [e]; rfl
    ·rw [e]; exact ⟨by omega, hM⟩
   ·exact last i h'
 obtain ⟨M0, h0⟩ := kids t.kids.length 0 (by omega)
 rw [List.drop_zero] at h0
 have lead : ∀ k i, t.leads.length - i ≤ k → ∃ M, dE M t i (cu t.kind (t.leads.drop i) i && leadedsT t.kids) := fun k => by
  have last : ∀ i, ¬ i < t.leads.length → ∃ M, dE M t i (cu t.kind (t.leads.drop i) i && leadedsT t.kids) := fun i hi => by
   rw [List.drop_of_length_le (by omega)]
   exact ⟨_, jc _ _ _ _ ⟨fun h => absurd h hi, fun _ => h0⟩⟩
  induction k with
  | zero => intro i hi; exact last i (by omega)
  | succ k ihk =>
   intro i hi
   obtain ⟨s, hs, hsl⟩ | h' := bd t.leads i
   ·have hsl2 := oz hs
    obtain ⟨M, hM⟩ := ihk (i + 1) (by omega)
    rw [dD hs, cu]
    by_cases h1 : t.kind = 1
    ·have ht1 := sS s (((i : Nat) : Int) == 2) (by omega)
     have e1 : (t.kind == 1 && (i : Int) == 2) = ((i : Int) == 2) := by simp [h1]
     rw [e1]
     refine ⟨M + 1, jc M _ _ _ ⟨fun _ => ⟨s, hs, fun _ => ⟨_, ht1, fun e => ?_, fun e => ?_⟩, fun h => absurd h1 h⟩, fun h => absurd hsl h⟩⟩
     ·rw [e]; rfl
     ·rw [e]; exact ⟨by omega, hM⟩
    ·have ht1 := sS s false (by omega)
     have e1 : (t.kind == 1 && (i : Int) == 2) = false := by simp [h1]
     rw [e1]
     refine ⟨M + 1, jc M _ _ _ ⟨fun _ => ⟨s, hs, fun h => absurd h h1, fun _ => ⟨_, ht1, fun e => ?_, fun e => ?_⟩⟩, fun h => absurd hsl h⟩⟩
     ·rw [e]; rfl
     ·rw [e]; exact ⟨by omega, hM⟩
   ·exact last i h'
 have e : leadedT t = (decide ((t.leads.length : Int) = bC t.kind t.kids.length) && (cu t.kind t.leads 0 && leadedsT t.kids)) := by cases t; simp only [leadedT, Bool.and_assoc]; rfl
 rw [nt] at e
 by_cases h : ((t.leads.length : Nat) : Int) = co t.kind t.kids.length
 ·obtain ⟨M, hM⟩ := lead t.leads.length 0 (by omega)
  rw [List.drop_zero] at hM
  refine mv M _ _ ⟨_, pP (by omega) (by omega), fun h' => absurd h h', fun _ => ?_⟩
  rw [e, decide_eq_true h]; exact hM
 ·refine mv 0 _ _ ⟨_, pP (by omega) (by omega), fun _ => ?_, fun h' => absurd h' h⟩
  rw [e, decide_eq_false h]; rfl
theorem yz : ∀ t : Tree, tbulk t ≤ 40000000 → shapeK t = true → fe t (leadedT t) := ec fun t ih ht hs => by
 have hk := eh t
 have hl := mQ t
 have hbt := bD t
 have kids : ∀ k i, t.kids.length - i ≤ k → ∃ M, dk M t i (leadedsT (t.kids.drop i)) := fun k => by
  have last : ∀ i, ¬ i < t.kids.length → ∃ M, dk M t i (leadedsT (t.kids.drop i)) := fun i hi => by
   rw [List.drop_of_length_le (by omega)]
   exact ⟨1, jP 0 _ _ _ ⟨fun h => absurd h hi, fun _ => rfl⟩⟩
  induction k with
  | zero => intro i hi; exact last i (by omega)
  | succ k ihk =>
   intro i hi
   obtain ⟨u, hu, hul⟩ | h' := bd t.kids i
   ·have := dP hu
    have hb := ih i u hu (by omega) (dq hs hu).1
    obtain ⟨M, hM⟩ := ihk (i + 1) (by omega)
    rw [dD hu, leadedsT]
    refine ⟨M + 1, jP M _ _ _ ⟨fun _ => ⟨u, hu, _, hb, fun e => ?_, fun e => ?_⟩, fun h => absurd hul h⟩⟩
    ·rw [e]; rfl
    ·rw [e]; exact hM
   ·exact last i h'
 obtain ⟨M0, h0⟩ := kids t.kids.length 0 (by omega)
 rw [List.drop_zero] at h0
 have lead : ∀ k i, t.leads.length - i ≤ k → ∃ M, cq M t i (cu t.kind (t.leads.drop i) i && leadedsT t.kids) := fun k => by
  have last : ∀ i, ¬ i < t.leads.length → ∃ M, cq M t i (cu t.kind (t.leads.drop i) i && leadedsT t.kids) := fun i hi => by
   rw [List.drop_of_length_le (by omega)]
   exact ⟨_, gu _ _ _ _ ⟨fun h => absurd h hi, fun _ => h0⟩⟩
  induction k with
  | zero => intro i hi; exact last i (by omega)
  | succ k ihk =>
   intro i hi
   obtain ⟨s, hs, hsl⟩ | h' := bd t.leads i
   ·have hsl2 := oz hs
    obtain ⟨M, hM⟩ := ihk (i + 1) (by omega)
    rw [dD hs, cu]
    by_cases h1 : t.kind = 1
    ·have ht1 := th s (((i : Nat) : Int) == 2) (by omega)
     have e1 : (t.kind == 1 && (i : Int) == 2) = ((i : Int) == 2) := by simp [h1]
     rw [e1]
     refine ⟨M + 1, gu M _ _ _ ⟨fun _ => ⟨s, hs, fun _ => ⟨_, ht1, fun e => ?_, fun e => ?_⟩, fun h => absurd h1 h⟩, fun h => absurd hsl h⟩⟩
     ·rw [e]; rfl
     ·rw [e]; exact hM
    ·have ht1 := th s false (by omega)
     have e1 : (t.kind == 1 && (i : Int) == 2) = false := by simp [h1]
     rw [e1]
     refine ⟨M + 1, gu M _ _ _ ⟨fun _ => ⟨s, hs, fun h => absurd h h1, fun _ => ⟨_, ht1, fun e => ?_, fun e => ?_⟩⟩, fun h => absurd hsl h⟩⟩
     ·rw [e]; rfl
     ·rw [e]; exact hM
   ·exact last i h'
 have e : leadedT t = (decide ((t.leads.length : Int) = bC t.kind t.kids.length) && (cu t.kind t.leads 0 && leadedsT t.kids)) := by cases t; simp only [leadedT, Bool.and_assoc]; rfl
 rw [nt] at e
 by_cases h : ((t.leads.length : Nat) : Int) = co t.kind t.kids.length
 ·obtain ⟨M, hM⟩ := lead t.leads.length 0 (by omega)
  rw [List.drop_zero] at hM
  refine jZ M _ _ ⟨_, oa (by omega) (by omega), fun h' => absurd h h', fun _ => ?_⟩
  rw [e, decide_eq_true h]; exact hM
 ·refine jZ 0 _ _ ⟨_, oa (by omega) (by omega), fun _ => ?_, fun h' => absurd h' h⟩
  rw [e, decide_eq_false h]; rfl
theorem pa (t : Tree) (ht : tbulk t ≤ 40000000) : du t (shapeK t && leadedT t) := by
 refine mx 0 _ _ ⟨_, tq t (by omega), fun h => ?_, fun h => ?_⟩
 ·exact ⟨_, yz t ht h, by rw [h]; rfl⟩
 ·rw [h]; rfl
theorem rt : ∀ ls : List (List UInt8), pZ ls (ls.map V.str) = true
 | [] => rfl
 | s :: r => by
  show (lEq s s && pZ r (r.map V.str)) = true
  rw [rt r, lF]; simp
mutual
theorem treeB_self : ∀ t : Tree, treeB t (treeV t) = true
 | .node k s ls ks => by
  rw [fL]
  unfold treeB
  simp only [mW, ak, Tree.kind, Tree.text, Tree.leads, Tree.kids, rr, rt, kidsB_self ks, nV, lF, Nat.beq_eq_true_eq, Bool.and_true, beq_self_eq_true, Nat.beq_refl]
theorem kidsB_self : ∀ ks : List Tree, kidsB ks (kidsV ks) = true
 | [] => rfl
 | t :: r => by simp only [kidsV, kidsB, treeB_self t, kidsB_self r, Bool.and_true]
end
theorem xz {S : Nat → Prop} {w : World} {t : Tree} {c : List Value} (h : TreeIs S w t c) : ∃ c0 c1 c2 c3, c = [c0, c1, c2, c3] := by
 cases t
 simp only [TreeIs] at h
 obtain ⟨a, b, w, n, rfl, _⟩ := h
 exact ⟨_, _, _, _, rfl⟩
theorem CJ (t : Tree) (ht : tbulk t ≤ 1000000000) (hs : shapedT t = true) (hl : leadedT t = true) : pd t (eD t) := sum0_calls rfl rfl fun S w ρ xs hx => by
 simp only [LRel] at hx
 obtain ⟨x, ys, rfl, h1, rfl⟩ := hx
 have hb := treeB_self t
 rw [fL] at hb
 obtain ⟨c, rfl, hT⟩ := treeB_ok hb h1
 obtain ⟨c0, c1, c2, c3, rfl⟩ := xz hT
 exact (El hs hl ht hT).mono fun e w' ⟨h1, h2⟩ => ⟨_, h1, by simp only [VRel], h2⟩
theorem ri (t : Tree) (ht : tbulk t ≤ 40000000) : gm t (if shapeK t && leadedT t then eD t else []) := by
 refine rp 0 _ _ ⟨_, Ah t (by omega), fun h => by rw [h]; rfl, fun h => ⟨_, yM t ht h, fun h2 => by rw [h, h2]; rfl, fun h2 => ⟨_, CJ t (by omega) (by rw [shapedT_K]; exact h) h2, by rw [h, h2]; rfl⟩⟩⟩
end Go.Proofs.YtgpcdfbmbcognaaGreat
namespace Go.Proofs.YtgpcdfbmbcognaaGreat
open Go.RowKit Lx Sx
set_option maxRecDepth 100000
set_option maxHeartbeats 4000000
structure GToken where
 Kind : Int
 Lead : (List UInt8)
 Text : (List UInt8)
abbrev GToken.c (x : GToken) : List V := [.int .i64 x.Kind, .str x.Lead, .str x.Text]
abbrev GToken.w (x : GToken) : V := .agg x.c
def oe (p0 : (List UInt8)) (r0 : (List GToken)) (r1 : (List UInt8)) (r2 : Int) (r3 : Int) : Prop := nu Tryz.prog 7 [.str p0] (.tup [.row 3 (List.map GToken.w r0), .str r1, .int .i64 r2, .int .i64 r3])
end Go.Proofs.YtgpcdfbmbcognaaGreat
namespace Go.Proofs.YtgpcdfbmbcognaaGreat
open Lx
theorem kD (p : UInt8 → Bool) : ∀ (l : List UInt8) (m : Nat), spanN p l ≤ m → spanN p (l.take m) = spanN p l
 | [], m, _ => by simp [spanN]
 | c :: r, 0, h => by
  have : spanN p (c :: r) = 0 := by omega
  rw [this]; simp [spanN]
 | c :: r, m + 1, h => by
  unfold spanN at *
  simp only [List.take_succ_cons, List.takeWhile_cons] at *
  split at h
  ·rename_i hp
   simp only [hp, if_true, List.length_cons] at *
   have := kD p r m (by unfold spanN; omega)
   unfold spanN at this
   omega
  ·rename_i hp; simp [hp]
theorem gE (l : List UInt8) (m k : Nat) (h : k < m) : (l.take m).getD k 0 = l.getD k 0 := by
 simp only [List.getD]
 rw [List.getElem?_take_of_lt h]
theorem mA {c : UInt8} (h : aN c = true) : aw c = true := by simp [aw, h]
theorem iI {l : List UInt8} (h : aU l = true) : upperB (l.getD 0 0) = true ∧ fC (l.take (spanN aw l)) = false ∧ spanN aw l + 1 < l.length ∧ (l.getD (spanN aw l) 0).toNat = 46 ∧ aN (l.getD (spanN aw l + 1) 0) = true := by
 unfold aU at h
 simp only [Bool.and_eq_true, decide_eq_true_eq, beq_iff_eq, Bool.not_eq_true'] at h
 obtain ⟨⟨⟨⟨h1, h2⟩, h3⟩, h4⟩, h5⟩ := h
 exact ⟨h1, h2, h3, h4, h5⟩
theorem nw {l : List UInt8} {n : Nat} (hn : spanN aw l = n) (h1 : upperB (l.getD 0 0) = true) (h2 : fC (l.take n) = false) (h3 : n + 1 < l.length) (h4 : (l.getD n 0).toNat = 46) (h5 : aN (l.getD (n + 1) 0) = true) : aU l = true := by
 subst hn
 unfold aU
 rw [h1, h2, h5]
 simp [h3, h4, -List.getD_eq_getElem?_getD]
theorem xr {l : List UInt8} {k m : Nat} (h0 : 0 < l.length) (hc : aN (l.getD 0 0) = true) (h : bh l = (k, m, 0)) : bh (l.take m) = (k, m, 0) := by
 have hpos : 0 < spanN aw l := iC h0 (mA hc)
 have hle := ee aw l
 unfold bh at h
 by_cases hcond : aU l = true
 ·rw [if_pos hcond] at h
  obtain ⟨c1, c2, c3, c4, c5⟩ := iI hcond
  generalize hn : spanN aw l = n at *
  generalize hm' : spanN aw (l.drop (n + 1)) = m' at *
  have hm0 : 0 < m' := by rw [← hm']; exact iC (by simp; omega) (by rw [mP]; exact mA c5)
  have hm : m = n + 1 + m' := by
   unfold bZ at h
   split at h
   ·simp at h
   ·split at h
    ·simp at h
    ·split at h <;> (simp at h; omega)
  have hml : n + 1 + m' ≤ l.length := by have := ee aw (l.drop (n + 1)); rw [hm'] at this; simp at this; omega
  have e1 : spanN aw (l.take m) = n := by rw [kD _ _ _ (by omega), hn]
  have e2 : (l.take m).take n = l.take n := by rw [List.take_take]; congr 1; omega
  have hc' : aU (l.take m) = true := nw e1 (by rw [gE _ _ _ (by omega)]; exact c1) (by rw [e2]; exact c2) (by simp; omega) (by rw [gE _ _ _ (by omega)]; exact c4) (by rw [gE _ _ _ (by omega)]; exact c5)
  have e3 : spanN aw ((l.take m).drop (n + 1)) = m' := by rw [List.drop_take, kD _ _ _ (by omega), hm']
  rw [lM e1 e3 hc', ← h]
  unfold bZ
  rw [List.drop_take, List.take_take, gE _ _ _ (by omega)]
  have : min m' (m - (n + 1)) = m' := by omega
  rw [this]
 ·rw [if_neg hcond] at h
  generalize hn : spanN aw l = n at *
  have hm : m = n := by
   unfold bf at h
   split at h
   ·simp at h
   ·split at h
    ·simp at h; omega
    ·split at h <;> (simp at h; omega)
  subst hm
  have e1 : spanN aw (l.take m) = m := by rw [kD _ _ _ (by omega), hn]
  have hc' : aU (l.take m) = false := tT e1 (by simp; omega)
  rw [dG e1 hc', ← h]
  unfold bf
  rw [List.take_take, gE _ _ _ (by omega), Nat.min_self]
theorem pE : ∀ (r : List UInt8) (i m : Nat), quotedT r i = (i + m, 0) → quotedT (r.take m) i = (i + m, 0)
 | [], i, m, h => by simp [quotedT] at h
 | c :: r, i, 0, h => by
  have := (nv (c :: r) i).2 (by rw [h])
  rw [h] at this
  simp at this
 | c :: r, i, m + 1, h => by
  simp only [List.take_succ_cons]
  unfold quotedT at h ⊢
  split
  ·rename_i ha; rw [if_pos ha] at h; simp at h
  ·rename_i ha; rw [if_neg ha] at h
   split
   ·rename_i hq; rw [if_pos hq] at h; simpa using h
   ·rename_i hq; rw [if_neg hq] at h
    split
    ·rename_i hb; rw [if_pos hb] at h; simp at h
    ·rename_i hb; rw [if_neg hb] at h
     have := pE r (i + 1) m (by rw [h]; congr 1; omega)
     rw [this]; congr 1; omega
theorem tY {l : List UInt8} {m : Nat} (h0 : 0 < spanN aL l) (h : bF l = (m, 0)) : bF (l.take m) = (m, 0) := by
 have hn : m = spanN aL l := by
  unfold bF at h
  simp only at h
  split at h
  ·simp at h
  ·split at h
   ·simp at h
   ·simpa using h.symm
 subst hn
 have e1 : spanN aL (l.take (spanN aL l)) = spanN aL l := kD _ _ _ (Nat.le_refl _)
 unfold bF at h ⊢
 rw [e1, gE _ _ _ h0]
 exact h
theorem vR {l : List UInt8} {k m : Nat} (h0 : 0 < l.length) (h : tokenT l = (k, m, 0)) : tokenT (l.take m) = (k, m, 0) := by
 have hlen := gQ h0
 rw [h] at hlen
 simp only at hlen
 have hm0 : 0 < m := hlen.2 trivial
 have hg : (l.take m).getD 0 0 = l.getD 0 0 := gE _ _ _ hm0
 have ht0 : 0 < (l.take m).length := by simp; omega
 have hpos : 0 < l.length := h0
 unfold tokenT at h ⊢
 simp only at h ⊢
 rw [hg]
 by_cases ha : ay (l.getD 0 0) = false
 ·rw [if_pos ha] at h; simp at h
 rw [if_neg ha] at h ⊢
 by_cases hl : aN (l.getD 0 0) = true
 ·rw [if_pos hl] at h ⊢; exact xr h0 hl h
 rw [if_neg hl] at h ⊢
 by_cases hd : aL (l.getD 0 0) = true
 ·rw [if_pos hd] at h ⊢
  simp only [Prod.mk.injEq] at h
  rw [tY (m := m) (iC h0 hd) h.2, h.1]
 rw [if_neg hd] at h ⊢
 by_cases hq : (l.getD 0 0).toNat = 34
 ·rw [if_pos hq] at h ⊢
  simp only [Prod.mk.injEq] at h
  have hr : quotedT l.tail 1 = (m, 0) := h.2
  have e : (l.take m).tail = l.tail.take (m - 1) := by
   cases l with
   | nil => simp
   | cons c r => obtain ⟨m', rfl⟩ : ∃ m', m = m' + 1 := ⟨m - 1, by omega⟩; simp
  rw [e, pE l.tail 1 (m - 1) (by rw [hr]; congr 1; omega), h.1]
  congr 2; omega
 rw [if_neg hq] at h ⊢
 by_cases he : (l.getD 0 0).toNat = 61 ∧ 1 < l.length ∧ (l.getD 1 0).toNat = 61
 ·rw [if_pos he] at h
  simp only [Prod.mk.injEq] at h
  obtain ⟨rfl, rfl, _⟩ := h
  rw [if_pos ⟨he.1, by simp; omega, by rw [gE _ _ _ (by omega)]; exact he.2.2⟩]
 ·rw [if_neg he] at h
  by_cases hs : signs.contains (l.getD 0 0) = true
  ·rw [if_pos hs] at h
   simp only [Prod.mk.injEq] at h
   obtain ⟨rfl, rfl, _⟩ := h
   rw [if_neg (by intro hh; have := hh.2.1; simp at this; omega), if_pos hs]
  ·rw [if_neg hs] at h; simp at h
theorem xk {l : List UInt8} {k m : Nat} (h : bh l = (k, m, 0)) : k ≠ 0 := by
 unfold bh at h
 split at h
 ·unfold bZ at h
  split at h
  ·simp at h
  ·split at h
   ·simp at h
   ·split at h <;> (simp at h; omega)
 ·unfold bf at h
  split at h
  ·simp at h
  ·split at h
   ·simp at h; omega
   ·split at h <;> (simp at h; omega)
theorem vJ {l : List UInt8} {k m : Nat} (h : tokenT l = (k, m, 0)) : k ≠ 0 := by
 unfold tokenT at h
 simp only at h
 split at h
 ·simp at h
 split at h
 ·exact xk h
 split at h
 ·simp at h; omega
 split at h
 ·simp at h; omega
 split at h
 ·simp at h; omega
 split at h
 ·simp at h; omega
 ·simp at h
theorem sp {l : List UInt8} {k m : Nat} (h0 : 0 < l.length) (h : tokenT l = (k, m, 0)) : ar (l.take m) = k := by
 have hlen := gQ h0
 rw [h] at hlen
 simp only at hlen
 have hm0 : 0 < m := hlen.2 trivial
 have ht := vR h0 h
 have hne : l.take m ≠ [] := by intro e; have := congrArg List.length e; simp only [List.length_take, List.length_nil] at this; omega
 unfold ar
 rw [if_neg hne, ht, if_pos ⟨rfl, by simp; omega⟩]
theorem ta : ∀ (l : List UInt8) (c : Bool) (n : Nat), al c l 0 = (n, none) → n < l.length → aM c (l.take n) false = true
 | [], c, n, h, hn => by simp at hn
 | x :: r, c, n, h, hn => by
  have ih := ta r
  have step : ∀ d : Bool, al c (x :: r) 0 = al d r 1 → ∃ n', n = n' + 1 ∧ al d r 0 = (n', none) ∧ n' < r.length := fun d hd => by
   rw [hd, show (1 : Nat) = 0 + 1 from rfl, iL] at h
   simp only [Prod.mk.injEq, Option.map_eq_none_iff] at h
   refine ⟨(al d r 0).1, h.1.symm, ?_, ?_⟩
   ·rw [← h.2]
   ·simp only [List.length_cons] at hn; omega
  cases c with
  | false =>
   by_cases hw : aP x = true
   ·obtain ⟨n', rfl, h1, h2⟩ := step false (by simp [al, hw])
    have ha : ay x = true := by simp [ay, hw]
    have h35 : ¬ x.toNat = 35 := fun e => by simp [aP, e] at hw
    simp only [List.take_succ_cons, aM]
    rw [if_neg (by simp [ha]), if_neg (by simp), if_neg h35, if_neg (by simp [hw])]
    exact ih false n' h1 h2
   ·by_cases h35 : x.toNat = 35
    ·obtain ⟨n', rfl, h1, h2⟩ := step true (by simp [al, hw, h35])
     have ha : ay x = true := by simp [ay, cv, h35]
     simp only [List.take_succ_cons, aM]
     rw [if_neg (by simp [ha]), if_neg (by simp), if_pos h35]
     exact ih true n' h1 h2
    ·have : al false (x :: r) 0 = (0, none) := by simp [al, hw, h35]
     rw [this] at h
     simp only [Prod.mk.injEq] at h
     rw [← h.1]; rfl
  | true =>
   by_cases h10 : x.toNat = 10
   ·obtain ⟨n', rfl, h1, h2⟩ := step false (by simp [al, h10])
    have ha : ay x = true := by simp [ay, aP, h10]
    simp only [List.take_succ_cons, aM]
    rw [if_neg (by simp [ha]), if_pos trivial]
    simp only [h10, beq_self_eq_true, Bool.not_true]
    exact ih false n' h1 h2
   ·by_cases ha : ay x = true
    ·obtain ⟨n', rfl, h1, h2⟩ := step true (by simp [al, h10, ha])
     simp only [List.take_succ_cons, aM]
     rw [if_neg (by simp [ha]), if_pos trivial]
     have : (!(x.toNat == 10)) = true := by simp [h10]
     rw [this]
     exact ih true n' h1 h2
    ·have : al true (x :: r) 0 = (0, some 0) := by simp [al, h10, ha]
     rw [this] at h
     simp at h
def pU (t : TokZ) : Prop := (ar t.text : Int) = t.kind ∧ t.kind ≠ 0 ∧ aM false t.lead false = true
theorem qv : ∀ (f : Nat) (l : List UInt8) (pos : Nat) (acc : List TokZ), l.length < f → (scanT f l pos acc).err = 0 →
  ∃ ts, (scanT f l pos acc).toks = acc ++ ts ∧ bL ts (scanT f l pos acc).tail = l ∧ (∀ t ∈ ts, pU t) ∧ aM false (scanT f l pos acc).tail true = true ∧ ts.length ≤ l.length
 | 0, l, pos, acc, hf, _ => by omega
 | f + 1, l, pos, acc, hf, he => by
  obtain ⟨n, b, hLd⟩ : ∃ n b, al false l 0 = (n, b) := ⟨_, _, rfl⟩
  cases b with
  | some q => rw [pm hLd] at he; simp at he
  | none =>
   by_cases hn : n = l.length
   ·rw [lH hLd hn] at he ⊢
    refine ⟨[], by simp, rfl, by simp, ?_, by simp⟩
    rw [lX]
    simp [fv, hLd, hn]
   ·have hnl : n < l.length := by have h := jH false l 0; rw [hLd] at h; simp at h; omega
    have hd0 : 0 < (l.drop n).length := by simp; omega
    obtain ⟨k, m, e, hT⟩ : ∃ k m e, tokenT (l.drop n) = (k, m, e) := ⟨_, _, _, rfl⟩
    by_cases he0 : e = 0
    ·subst he0
     have hlen := gQ hd0
     rw [hT] at hlen
     simp only [List.length_drop] at hlen
     have hm0 := hlen.2 trivial
     rw [lE hLd hn hT] at he ⊢
     obtain ⟨ts, h1, h2, h3, h4, h5⟩ := qv f (l.drop (n + m)) (pos + n + m) (acc ++ [⟨k, l.take n, (l.drop n).take m⟩]) (by simp; omega) he
     refine ⟨⟨k, l.take n, (l.drop n).take m⟩ :: ts, by rw [h1]; simp, ?_, ?_, h4, by simp at h5 ⊢; omega⟩
     ·simp only [bL]
      rw [h2, ← List.drop_drop, List.append_assoc, List.take_append_drop, List.take_append_drop]
     ·intro t ht
      rcases List.mem_cons.1 ht with rfl | ht
      ·refine ⟨?_, ?_, ta l false n hLd hnl⟩
       ·simp only; rw [sp hd0 hT]
       ·simp only; have := vJ hT; omega
      ·exact h3 t ht
    ·rw [na hLd hn hT he0] at he; simp only at he; omega
end Go.Proofs.YtgpcdfbmbcognaaGreat
namespace Go.Proofs.YtgpcdfbmbcognaaGreat
open Lx
theorem mm (p : UInt8 → Bool) : ∀ (a r : List UInt8), spanN p a < a.length → spanN p (a ++ r) = spanN p a
 | [], r, h => by simp at h
 | c :: a, r, h => by
  unfold spanN at *
  simp only [List.cons_append, List.takeWhile_cons] at *
  split
  ·rename_i hp
   simp only [hp, if_true, List.length_cons] at h ⊢
   have := mm p a r (by unfold spanN; omega)
   unfold spanN at this
   omega
  ·rfl
theorem eb (p : UInt8 → Bool) : ∀ (a r : List UInt8), spanN p a = a.length → spanN p (a ++ r) = a.length + spanN p r
 | [], r, h => by simp
 | c :: a, r, h => by
  unfold spanN at *
  simp only [List.cons_append, List.takeWhile_cons] at *
  split
  ·rename_i hp
   simp only [hp, if_true, List.length_cons] at h ⊢
   have := eb p a r (by unfold spanN; omega)
   unfold spanN at this
   omega
  ·rename_i hp
   simp [hp] at h
theorem rQ {p : UInt8 → Bool} {r : List UInt8} (h : p (r.getD 0 0) = false ∨ r = []) : spanN p r = 0 := by
 cases r with
 | nil => rfl
 | cons c r => simp at h; simp [spanN, h]
theorem kU {p : UInt8 → Bool} {c : UInt8} {r : List UInt8} (h : p c = true) : 0 < spanN p (c :: r) := by simp [spanN, h]
theorem de (a r : List UInt8) (k : Nat) (h : k < a.length) : (a ++ r).getD k 0 = a.getD k 0 := by
 simp only [List.getD]; rw [List.getElem?_append_left h]
def ix (a : List UInt8) (c : UInt8) : Bool := (aN (a.getD 0 0) && aw c) || (aL (a.getD 0 0) && aL c) || (a == [61] && c.toNat == 61)
theorem mt {l : List UInt8} {k m : Nat} (h : bh l = (k, m, 0)) : m = if aU l = true then spanN aw l + 1 + spanN aw (l.drop (spanN aw l + 1)) else spanN aw l := by
 unfold bh at h
 split at h
 ·rename_i hc
  rw [if_pos hc]
  unfold bZ at h
  split at h
  ·simp at h
  ·split at h
   ·simp at h
   ·split at h <;> (simp at h; omega)
 ·rename_i hc
  rw [if_neg hc]
  unfold bf at h
  split at h
  ·simp at h
  ·split at h
   ·simp at h; omega
   ·split at h <;> (simp at h; omega)
theorem lm {a : List UInt8} {k : Nat} (h : ar a = k) (hk : k ≠ 0) : 0 < a.length ∧ tokenT a = (k, a.length, 0) := by
 unfold ar at h
 by_cases h0 : a = []
 ·rw [if_pos h0] at h; exact absurd h.symm hk
 ·rw [if_neg h0] at h
  by_cases h1 : (tokenT a).2.2 = 0 ∧ (tokenT a).2.1 = a.length
  ·rw [if_pos h1] at h
   exact ⟨List.length_pos_iff.2 h0, by rw [← h, ← h1.2, ← h1.1]⟩
  ·rw [if_neg h1] at h; exact absurd h.symm hk
theorem qr : ∀ (r : List UInt8) (i m : Nat) (s : List UInt8), quotedT r i = (m, 0) → quotedT (r ++ s) i = (m, 0)
 | [], i, m, s, h => by simp [quotedT] at h
 | c :: r, i, m, s, h => by
  rw [List.cons_append]
  unfold quotedT at h ⊢
  split
  ·rename_i ha; rw [if_pos ha] at h; simp at h
  ·rename_i ha; rw [if_neg ha] at h
   split
   ·rename_i hq; rw [if_pos hq] at h; exact h
   ·rename_i hq; rw [if_neg hq] at h
    split
    ·rename_i hb; rw [if_pos hb] at h; simp at h
    ·rename_i hb; rw [if_neg hb] at h
     exact qr r (i + 1) m s h
theorem yF {a r : List UInt8} {k : Nat} (h0 : 0 < a.length) (hl : aN (a.getD 0 0) = true) (h : bh a = (k, a.length, 0)) (hr : aw (r.getD 0 0) = false ∧ (r.getD 0 0).toNat ≠ 46 ∨ r = []) : bh (a ++ r) = (k, a.length, 0) := by
 have hpos : 0 < spanN aw a := iC h0 (mA hl)
 have hle := ee aw a
 have hlen := mt h
 have hsr : spanN aw r = 0 := rQ (hr.imp (·.1) id)
 by_cases hcond : aU a = true
 ·rw [if_pos hcond] at hlen
  obtain ⟨c1, c2, c3, c4, c5⟩ := iI hcond
  have hy := lM rfl rfl hcond
  generalize hn : spanN aw a = n at *
  generalize hm' : spanN aw (a.drop (n + 1)) = m' at *
  have e1 : spanN aw (a ++ r) = n := by rw [mm _ _ _ (by omega), hn]
  have e2 : (a ++ r).take n = a.take n := List.take_append_of_le_length (by omega)
  have hc' : aU (a ++ r) = true := nw e1 (by rw [de _ _ _ h0]; exact c1) (by rw [e2]; exact c2) (by simp; omega) (by rw [de _ _ _ (by omega)]; exact c4) (by rw [de _ _ _ (by omega)]; exact c5)
  have e4 : (a ++ r).drop (n + 1) = a.drop (n + 1) ++ r := List.drop_append_of_le_length (by omega)
  have e3 : spanN aw ((a ++ r).drop (n + 1)) = m' := by
   rw [e4, eb _ _ _ (by rw [hm', List.length_drop]; omega), hsr, List.length_drop]; omega
  rw [lM e1 e3 hc', ← h, hy]
  unfold bZ
  rw [e4, de _ _ _ (by omega), List.take_append_of_le_length (by rw [List.length_drop]; omega)]
 ·have hcond' : aU a = false := by simpa using hcond
  rw [if_neg hcond] at hlen
  have hnn := dG rfl hcond'
  generalize hn : spanN aw a = n at *
  have e1 : spanN aw (a ++ r) = n := by rw [eb _ _ _ (by omega), hsr]; omega
  have hc' : aU (a ++ r) = false := by
   cases hx : aU (a ++ r) with
   | false => rfl
   | true =>
    obtain ⟨d1, d2, d3, d4, d5⟩ := iI hx
    rw [e1] at d3 d4
    rcases hr with hr | hr
    ·refine absurd ?_ hr.2
     have : (a ++ r).getD n 0 = r.getD 0 0 := by
      simp only [List.getD]; rw [List.getElem?_append_right (by omega)]; congr 2; omega
     rw [← this]; exact d4
    ·subst hr; simp at d3; omega
  rw [dG e1 hc', ← h, hnn]
  unfold bf
  rw [de _ _ _ h0, List.take_append_of_le_length (by omega)]
theorem wU {a r : List UInt8} {k : Nat} (h0 : 0 < a.length) (h : tokenT a = (k, a.length, 0)) (hr : ix a (r.getD 0 0) = false ∧ (r.getD 0 0).toNat ≠ 46 ∨ r = []) : tokenT (a ++ r) = (k, a.length, 0) := by
 have hg : (a ++ r).getD 0 0 = a.getD 0 0 := de _ _ _ h0
 have hgr : ∀ {P : Prop}, (ix a (r.getD 0 0) = false → P) → P ∨ r = [] := fun {P} f => hr.imp (fun x => f x.1) id
 unfold tokenT at h ⊢
 simp only at h ⊢
 rw [hg]
 by_cases ha : ay (a.getD 0 0) = false
 ·rw [if_pos ha] at h; simp at h
 rw [if_neg ha] at h ⊢
 by_cases hl : aN (a.getD 0 0) = true
 ·rw [if_pos hl] at h ⊢
  refine yF h0 hl h (hr.imp (fun x => ⟨?_, x.2⟩) id)
  have := x.1
  unfold ix at this
  simp only [hl, Bool.true_and, Bool.or_eq_false_iff] at this
  exact this.1.1
 rw [if_neg hl] at h ⊢
 by_cases hd : aL (a.getD 0 0) = true
 ·rw [if_pos hd] at h ⊢
  simp only [Prod.mk.injEq] at h
  have hn : spanN aL a = a.length := by
   have h2 := h.2
   unfold bF at h2
   simp only at h2
   split at h2
   ·simp at h2
   ·split at h2
    ·simp at h2
    ·simp at h2; exact h2
  have hsr : spanN aL r = 0 := rQ (hgr (fun x => by unfold ix at x; simp only [hd, Bool.true_and, Bool.or_eq_false_iff] at x; exact x.1.2))
  have e1 : spanN aL (a ++ r) = a.length := by rw [eb _ _ _ hn, hsr]; omega
  have e2 : bF (a ++ r) = bF a := by unfold bF; rw [e1, hn, hg]
  rw [e2, h.2, h.1]
 rw [if_neg hd] at h ⊢
 by_cases hq : (a.getD 0 0).toNat = 34
 ·rw [if_pos hq] at h ⊢
  simp only [Prod.mk.injEq] at h
  have e : (a ++ r).tail = a.tail ++ r := by
   cases a with
   | nil => simp at h0
   | cons c a => rfl
  rw [e, qr _ _ _ _ h.2, h.1]
 rw [if_neg hq] at h ⊢
 by_cases he : (a.getD 0 0).toNat = 61 ∧ 1 < a.length ∧ (a.getD 1 0).toNat = 61
 ·rw [if_pos he] at h
  rw [if_pos ⟨he.1, by simp; omega, by rw [de _ _ _ he.2.1]; exact he.2.2⟩]
  exact h
 ·rw [if_neg he] at h
  by_cases hs : signs.contains (a.getD 0 0) = true
  ·rw [if_pos hs] at h
   simp only [Prod.mk.injEq] at h
   have hl1 : a.length = 1 := h.2.1.symm
   rw [if_neg, if_pos hs, h.1, ← h.2.1]
   intro hh
   obtain ⟨h1, h2, h3⟩ := hh
   have ha1 : a = [61] := by
    match a, hl1 with
    | [c], _ =>
     simp at h1
     congr 1
     apply UInt8.toNat_inj.1
     simpa using h1
   have h4 : (a ++ r).getD 1 0 = r.getD 0 0 := by
    simp only [List.getD]; rw [List.getElem?_append_right (by omega), hl1]
   rcases hr with hr | hr
   ·have := hr.1
    unfold ix at this
    rw [ha1] at this
    simp only [beq_self_eq_true, Bool.true_and, Bool.or_eq_false_iff, beq_eq_false_iff_ne] at this
    exact this.2 (by rw [← h4]; exact h3)
   ·subst hr; simp at h2; omega
  ·rw [if_neg hs] at h; simp at h
theorem oX {a : List UInt8} {k : Nat} (h0 : 0 < a.length) (h : tokenT a = (k, a.length, 0)) : aP (a.getD 0 0) = false ∧ (a.getD 0 0).toNat ≠ 35 ∧ (a.getD 0 0).toNat ≠ 46 := by
 have hc : a[0] = a.getD 0 0 := by simp [List.getD, List.getElem?_eq_getElem h0]
 refine ⟨?_, ?_, ?_⟩
 ·cases hw : aP (a.getD 0 0) with
  | false => rfl
  | true => rw [jT h0 hc (.inl hw)] at h; simp at h
 ·intro h35; rw [jT h0 hc (.inr h35)] at h; simp at h
 ·intro h46
  have hn : a.getD 0 0 = 46 := by apply UInt8.toNat_inj.1; simpa using h46
  unfold tokenT at h
  simp only at h
  rw [hn] at h
  rw [if_neg (by decide), if_neg (by decide), if_neg (by decide), if_neg (by decide), if_neg (by intro x; exact absurd x.1 (by decide)), if_neg (by decide)] at h
  simp at h
theorem um : ∀ (lead : List UInt8) (b : Bool) (r : List UInt8) (n : Nat), aM b lead false = true → al b (lead ++ r) n = al false r (n + lead.length)
 | [], b, r, n, h => by
  have : b = false := by simpa [aM] using h
  subst this; rfl
 | x :: l, b, r, n, h => by
  have ih := um l
  unfold aM at h
  by_cases ha : ay x = false
  ·rw [if_pos ha] at h; simp at h
  rw [if_neg ha] at h
  have ha' : ay x = true := by simpa using ha
  rw [List.cons_append]
  cases b with
  | true =>
   rw [if_pos rfl] at h
   by_cases h10 : x.toNat = 10
   ·have e : al true (x :: (l ++ r)) n = al false (l ++ r) (n + 1) := by simp [al, h10]
    simp only [h10, beq_self_eq_true, Bool.not_true] at h
    rw [e, ih _ _ _ h]; congr 1; simp; omega
   ·have e : al true (x :: (l ++ r)) n = al true (l ++ r) (n + 1) := by simp [al, h10, ha']
    have hb : (x.toNat == 10) = false := by simpa using h10
    rw [hb, Bool.not_false] at h
    rw [e, ih _ _ _ h]; congr 1; simp; omega
  | false =>
   rw [if_neg (by simp)] at h
   by_cases h35 : x.toNat = 35
   ·have hw : aP x = false := by simp [aP, h35]
    rw [if_pos h35] at h
    have e : al false (x :: (l ++ r)) n = al true (l ++ r) (n + 1) := by simp [al, h35, hw]
    rw [e, ih _ _ _ h]; congr 1; simp; omega
   ·rw [if_neg h35] at h
    by_cases hw : aP x = false
    ·rw [if_pos hw] at h; simp at h
    ·rw [if_neg hw] at h
     have hw' : aP x = true := by simpa using hw
     have e : al false (x :: (l ++ r)) n = al false (l ++ r) (n + 1) := by simp [al, hw']
     rw [e, ih _ _ _ h]; congr 1; simp; omega
theorem tB {r : List UInt8} {n : Nat} (h0 : 0 < r.length) (h1 : aP (r.getD 0 0) = false) (h2 : (r.getD 0 0).toNat ≠ 35) : al false r n = (n, none) := by
 cases r with
 | nil => simp at h0
 | cons c r => simp at h1 h2; simp [al, h1, h2]
theorem qq {l : List UInt8} {fin : Bool} (h : aM false l fin = true) (hne : l ≠ []) : aP (l.getD 0 0) = true ∨ (l.getD 0 0).toNat = 35 := by
 cases l with
 | nil => exact absurd rfl hne
 | cons x r =>
  unfold aM at h
  show aP x = true ∨ x.toNat = 35
  by_cases ha : ay x = false
  ·rw [if_pos ha] at h; simp at h
  rw [if_neg ha, if_neg (by simp)] at h
  by_cases h35 : x.toNat = 35
  ·exact .inr h35
  ·rw [if_neg h35] at h
   by_cases hw : aP x = false
   ·rw [if_pos hw] at h; simp at h
   ·exact .inl (by simpa using hw)
theorem qI {a : List UInt8} {c : UInt8} (h : aP c = true ∨ c.toNat = 35) : ix a c = false ∧ c.toNat ≠ 46 := by
 have hv : c.toNat = 9 ∨ c.toNat = 10 ∨ c.toNat = 13 ∨ c.toNat = 32 ∨ c.toNat = 35 := by
  rcases h with h | h
  ·simp [aP] at h; omega
  ·omega
 have h1 : aw c = false := by rcases hv with h | h | h | h | h <;> simp [aw, aN, bN, upperB, aL, h]
 have h2 : aL c = false := by rcases hv with h | h | h | h | h <;> simp [aL, h]
 have h3 : (c.toNat == 61) = false := by simp; omega
 exact ⟨by simp [ix, h1, h2, h3], by omega⟩
theorem wX {l : List UInt8} (h4 : ¬ 4096 < l.length) (h0 : 0 < l.length) (hw : aP (l.getD 0 0) = false) (h35 : (l.getD 0 0).toNat ≠ 35) {k m e : Nat} (ht : tokenT l = (k, m, e)) :
  (e ≠ 0 ∧ (scan l).err ≠ 0) ∨ (e = 0 ∧ ((scan l).err = 0 → ∃ ts, (scan l).toks = ⟨k, [], l.take m⟩ :: ts)) := by
 have hld : al false l 0 = (0, none) := tB h0 hw h35
 unfold scan
 rw [if_neg h4]
 by_cases he : e = 0
 ·refine .inr ⟨he, fun herr => ?_⟩
  subst he
  have ht' : tokenT (l.drop 0) = (k, m, 0) := by simpa using ht
  rw [lE hld (by omega) ht'] at herr ⊢
  have hlen := gQ h0
  rw [ht] at hlen
  simp only at hlen
  have hm0 := hlen.2 trivial
  obtain ⟨ts, h1, _⟩ := qv l.length (l.drop (0 + m)) (0 + 0 + m) _ (by simp; omega) herr
  exact ⟨ts, by rw [h1]; simp⟩
 ·refine .inl ⟨he, ?_⟩
  have ht' : tokenT (l.drop 0) = (k, m, e) := by simpa using ht
  rw [na hld (by omega) ht' he]
  exact he
theorem vC {a b : List UInt8} {ka kb : Nat} (ha : ar a = ka) (hka : ka ≠ 0) (hb : ar b = kb) (hkb : kb ≠ 0) (h : fusesT a b = false) : ix a (b.getD 0 0) = false ∧ (b.getD 0 0).toNat ≠ 46 := by
 obtain ⟨ha0, hta⟩ := lm ha hka
 obtain ⟨hb0, htb⟩ := lm hb hkb
 refine ⟨?_, (oX hb0 htb).2.2⟩
 have hhead := oX ha0 hta
 have hg : (a ++ b).getD 0 0 = a.getD 0 0 := de _ _ _ ha0
 unfold fusesT at h
 rw [if_neg (by rw [ha, hb]; omega)] at h
 simp only at h
 by_cases hcond : (scan (a ++ b)).err = 0 ∧ (scan (a ++ b)).toks.length = 2 ∧ (scan (a ++ b)).tail = []
 ·rw [if_pos hcond] at h
  simp only [Bool.not_eq_false', Bool.and_eq_true, beq_iff_eq] at h
  obtain ⟨⟨⟨g1, g2⟩, g3⟩, g4⟩ := h
  have h4 : ¬ 4096 < (a ++ b).length := fun hh => by
   have := hcond.1
   unfold scan at this
   rw [if_pos hh] at this
   simp at this
  obtain ⟨k, m, e, ht⟩ : ∃ k m e, tokenT (a ++ b) = (k, m, e) := ⟨_, _, _, rfl⟩
  have hlen := gQ (l := a ++ b) (by simp; omega)
  rw [ht] at hlen
  simp only at hlen
  rcases wX h4 (by simp; omega) (by rw [hg]; exact hhead.1) (by rw [hg]; exact hhead.2.1) ht with ⟨_, h2⟩ | ⟨rfl, h2⟩
  ·exact absurd hcond.1 h2
  ·obtain ⟨ts, h3⟩ := h2 hcond.1
   rw [h3] at g2
   simp only [List.getD_cons_zero] at g2
   have hm : m = a.length := by
    have := congrArg List.length g2
    rw [List.length_take] at this
    omega
   subst hm
   -- the token at the head of a ++ b is a
   cases hgr : ix a (b.getD 0 0) with
   | false => rfl
   | true =>
    exfalso
    obtain ⟨c, b', rfl⟩ : ∃ c b', b = c :: b' := by
     cases b with
     | nil => simp at hb0
     | cons c b' => exact ⟨c, b', rfl⟩
    simp only [List.getD_cons_zero] at hgr
    unfold ix at hgr
    simp only [Bool.or_eq_true, Bool.and_eq_true, beq_iff_eq] at hgr
    unfold tokenT at ht hta
    simp only at ht hta
    rw [hg] at ht
    by_cases hal : ay (a.getD 0 0) = false
    ·rw [if_pos hal] at hta; simp at hta
    rw [if_neg hal] at ht hta
    by_cases hl : aN (a.getD 0 0) = true
    ·rw [if_pos hl] at ht hta
     have hd : aL (a.getD 0 0) = false := by
      cases hx : aL (a.getD 0 0) with
      | false => rfl
      | true => simp [aN, bN, upperB, aL] at hl hx; omega
     have h61 : a ≠ [61] := fun e => by rw [e] at hl; exact absurd hl (by decide)
     rcases hgr with (⟨_, hw⟩ | ⟨hd', _⟩) | ⟨e, _⟩
     ·have l1 := mt ht
      have l2 := mt hta
      have hle := ee aw a
      by_cases hcond : aU a = true
      ·rw [if_pos hcond] at l2
       obtain ⟨c1, c2, c3, c4, c5⟩ := iI hcond
       generalize hn : spanN aw a = n at *
       generalize hm' : spanN aw (a.drop (n + 1)) = m' at *
       have e1 : spanN aw (a ++ c :: b') = n := by rw [mm _ _ _ (by omega), hn]
       have e2 : (a ++ c :: b').take n = a.take n := List.take_append_of_le_length (by omega)
       have hc' : aU (a ++ c :: b') = true := nw e1 (by rw [de _ _ _ ha0]; exact c1) (by rw [e2]; exact c2) (by simp; omega) (by rw [de _ _ _ (by omega)]; exact c4) (by rw [de _ _ _ (by omega)]; exact c5)
       rw [if_pos hc', e1, List.drop_append_of_le_length (by omega), eb _ _ _ (by rw [hm', List.length_drop]; omega), List.length_drop] at l1
       have := kU (r := b') hw
       omega
      ·rw [if_neg hcond] at l2
       have e1 := eb aw a (c :: b') l2.symm
       have := kU (r := b') hw
       split at l1 <;> omega
     ·rw [hd] at hd'; simp at hd'
     ·exact h61 e
    ·rw [if_neg hl] at ht hta
     by_cases hd : aL (a.getD 0 0) = true
     ·rw [if_pos hd] at ht hta
      have h61 : a ≠ [61] := fun e => by rw [e] at hd; exact absurd hd (by decide)
      have hn : ∀ l n, bF l = (n, 0) → spanN aL l = n := fun l n h2 => by
       unfold bF at h2
       simp only at h2
       split at h2
       ·simp at h2
       ·split at h2
        ·simp at h2
        ·simp at h2; exact h2
      rcases hgr with (⟨hl', _⟩ | ⟨_, hw⟩) | ⟨e, _⟩
      ·exact hl hl'
      ·simp only [Prod.mk.injEq] at ht hta
       have l1 := hn _ _ ht.2
       have l2 := hn _ _ hta.2
       have e1 := eb aL a (c :: b') l2
       have := kU (r := b') hw
       omega
      ·exact h61 e
     ·rcases hgr with (⟨hl', _⟩ | ⟨hd', _⟩) | ⟨e, hc61⟩
      ·exact hl hl'
      ·exact hd hd'
      ·subst e
       rw [if_neg hd, if_neg (by decide), if_pos ⟨by decide, by simp, by simpa using hc61⟩] at ht
       simp at ht
 ·rw [if_neg hcond] at h; simp at h
def Apart : List TokZ → Prop
 | [] => True
 | [_] => True
 | a :: b :: r => (b.lead = [] → fusesT a.text b.text = false) ∧ Apart (b :: r)
theorem qp : ∀ (ts : List TokZ) (tail : List UInt8) (f pos : Nat) (acc : List TokZ), (∀ t ∈ ts, pU t) → Apart ts → aM false tail true = true → (bL ts tail).length < f →
  scanT f (bL ts tail) pos acc = ⟨acc ++ ts, tail, 0, 0⟩
 | ts, tail, 0, pos, acc, _, _, _, hf => by omega
 | [], tail, f + 1, pos, acc, hg, hap, ht, hf => by
  rw [lX] at ht
  simp only [fv, Bool.and_eq_true, Option.isNone_iff_eq_none, beq_iff_eq] at ht
  have : al false tail 0 = (tail.length, none) := by rw [← ht.1.1, ← ht.1.2]
  simp only [bL, List.append_nil]
  rw [lH this rfl]
 | t :: ts, tail, f + 1, pos, acc, hg, hap, ht, hf => by
  obtain ⟨g1, g2, g3⟩ := hg t (List.mem_cons_self ..)
  obtain ⟨h0, htk⟩ := lm (a := t.text) (k := ar t.text) rfl (by omega)
  have hhead := oX h0 htk
  have hJ : bL (t :: ts) tail = t.lead ++ (t.text ++ bL ts tail) := by simp [bL]
  have hg0 : (t.text ++ bL ts tail).getD 0 0 = t.text.getD 0 0 := de _ _ _ h0
  have hld : al false (t.lead ++ (t.text ++ bL ts tail)) 0 = (t.lead.length, none) := by
   rw [um _ _ _ _ g3, tB (by simp; omega) (by rw [hg0]; exact hhead.1) (by rw [hg0]; exact hhead.2.1), Nat.zero_add]
  have hnext : ix t.text ((bL ts tail).getD 0 0) = false ∧ ((bL ts tail).getD 0 0).toNat ≠ 46 ∨ bL ts tail = [] := by
   cases ts with
   | nil =>
    by_cases he : tail = []
    ·exact .inr he
    ·exact .inl (qI (qq ht he))
   | cons t2 ts =>
    left
    obtain ⟨k1, k2, k3⟩ := hg t2 (List.mem_cons_of_mem _ (List.mem_cons_self ..))
    obtain ⟨h02, htk2⟩ := lm (a := t2.text) (k := ar t2.text) rfl (by omega)
    by_cases he : t2.lead = []
    ·have : (bL (t2 :: ts) tail).getD 0 0 = t2.text.getD 0 0 := by
      simp only [bL, he, List.nil_append]; exact de _ _ _ h02
     rw [this]
     exact vC rfl (by omega) rfl (by omega) (hap.1 he)
    ·have hpos : 0 < t2.lead.length := List.length_pos_iff.2 he
     have : (bL (t2 :: ts) tail).getD 0 0 = t2.lead.getD 0 0 := by
      simp only [bL, List.append_assoc]; exact de _ _ _ hpos
     rw [this]
     exact qI (qq k3 he)
  have htok : tokenT ((t.lead ++ (t.text ++ bL ts tail)).drop t.lead.length) = (ar t.text, t.text.length, 0) := by
   rw [List.drop_left]; exact wU h0 htk hnext
  have hap2 : Apart ts := by
   cases ts with
   | nil => trivial
   | cons t2 ts => exact hap.2
  rw [hJ] at hf ⊢
  simp only [List.length_append] at hf
  rw [lE hld (by simp only [List.length_append]; omega) htok]
  have e1 : (t.lead ++ (t.text ++ bL ts tail)).drop (t.lead.length + t.text.length) = bL ts tail := by
   rw [← List.drop_drop, List.drop_left, List.drop_left]
  have e2 : (t.lead ++ (t.text ++ bL ts tail)).take t.lead.length = t.lead := List.take_left
  have e3 : ((t.lead ++ (t.text ++ bL ts tail)).drop t.lead.length).take t.text.length = t.text := by rw [List.drop_left, List.take_left]
  rw [e1, e2, e3, qp ts tail f _ _ (fun x hx => hg x (List.mem_cons_of_mem _ hx)) hap2 ht (by omega)]
  congr 1
  rw [List.append_assoc]
  congr 1
  rw [List.singleton_append]
  congr 1
  cases t
  simp only at g1
  rw [g1]
theorem xq {ts : List TokZ} {tail : List UInt8} (hg : ∀ t ∈ ts, pU t) (hap : Apart ts) (ht : aM false tail true = true) (hl : (bL ts tail).length ≤ 4096) : scan (bL ts tail) = ⟨ts, tail, 0, 0⟩ := by
 unfold scan
 rw [if_neg (by omega), qp ts tail _ 0 [] hg hap ht (Nat.lt_succ_self _)]
 rfl
end Go.Proofs.YtgpcdfbmbcognaaGreat
namespace Go.Proofs.YtgpcdfbmbcognaaGreat
open Go.RowKit Lx Sx
section
variable {S : Nat → Prop} {w : World} {ρ : Nat → Option Value}
theorem uT : ∀ ls : List (List UInt8), CRel S w ρ 1 (ls.map .str) (ls.map aQ)
 | [] => by simp [CRel]
 | s :: r => by
  simp only [List.map_cons, CRel]
  exact ⟨aQ s, r.map aQ, by simp [Value.cells, aQ], ⟨rfl, rfl⟩, by unfold VRel; rfl, uT r⟩
theorem uF : ∀ ls : List Int, CRel S w ρ 1 (ls.map (V.int .i64)) (ls.map fun z => .int .i64 z)
 | [] => by simp [CRel]
 | s :: r => by
  simp only [List.map_cons, CRel]
  exact ⟨.int .i64 s, _, by simp [Value.cells], ⟨rfl, rfl⟩, by unfold VRel; rfl, uF r⟩
mutual
theorem TreeIs.vrel : ∀ {ρ : Nat → Option Value} {t : Tree} {c : List Value}, TreeIs S w t c → LRel S w ρ (ak t) c
 | ρ, .node k s ls ks, c, h => by
  simp only [TreeIs] at h
  obtain ⟨A, m, B, n, rfl, h1, h2, h3, h4, h5, cs, h6, h7⟩ := h
  simp only [ak, Tree.kind, Tree.text, Tree.leads, Tree.kids, LRel, VRel]
  exact ⟨_, _, rfl, rfl, _, _, rfl, rfl, _, _, rfl, ⟨A, m, _, by simp, by simpa using h1, h2, uT ls, by simpa using h5⟩, _, _, rfl, ⟨B, n, cs, by simp [lN], by simpa [lN] using h3, h4, KidsAre.crel h6, by simpa [lN] using h7⟩, rfl⟩
theorem KidsAre.crel : ∀ {ρ : Nat → Option Value} {ts : List Tree} {cs : List Value}, KidsAre S w ts cs → CRel S w ρ 4 (kidsV ts) cs
 | ρ, [], cs, h => by simp only [KidsAre] at h; simp only [kidsV, CRel]; exact h
 | ρ, t :: r, cs, h => by
  simp only [KidsAre] at h
  obtain ⟨c, d, rfl, h1, h2⟩ := h
  simp only [kidsV, CRel, fL]
  exact ⟨.agg c.toArray, d, by simp [Value.cells], ⟨by simp [Value.cells, h1.four], by simpa [Value.cells] using h1.one⟩, by simp only [VRel]; exact ⟨c, rfl, h1.vrel⟩, KidsAre.crel h2⟩
end
end
theorem BI {k : Nat} {l : List UInt8} {t : Tree} (h : qg t (vv xl k 10 [.str l]) = true) : nu Tryz.prog 10 [.str l] (.tup [.agg (ak t), .int .i64 0, .int .i64 0]) := by
 refine ⟨rfl, rfl, fun S w ρ xs hr hx => ?_⟩
 simp only [LRel, VRel] at hx
 obtain ⟨x, ys, rfl, rfl, rfl⟩ := hx
 refine (yO h (w := w)).mono ?_
 rintro e w' ⟨c0, c1, c2, c3, rfl, hT, hc⟩
 have hT' := hT.bound
 have g := hr.chg0 hc
 refine ⟨_, fun b => S b ∨ (w.heap.size ≤ b ∧ b < w'.heap.size), ρ, _, ⟨0, []⟩, rfl, rfl, ⟨fun i => ?_, fun i b hb => ?_, fun i j b hb _ => ?_, fun b hb => hb.elim (g.slt b) (·.2)⟩, ⟨ChgP.of0 hc, fun _ h => .inl h, fun b hb => hb.elim .inl fun h => .inr (.inr h.1), fun id b hb => .inl ⟨id, hb⟩, fun id x h => ?_⟩, ?_⟩
 ·have := g.ob i; rw [kr] at this ⊢; exact this
 ·rw [kr] at hb; exact hb.elim
 ·rw [kr] at hb; exact hb.elim
 ·simp only [pq] at h
  split at h
  ·exact h
  ·cases h
 ·have hk := TreeIs.vrel (ρ := ρ) (TreeIs.keep (S' := fun b => S b ∨ (w.heap.size ≤ b ∧ b < w'.heap.size)) (fun b hb => .inr hb) (fun _ _ _ => rfl) hT')
  simp only [VRel]
  exact ⟨[.agg #[c0, c1, c2, c3], .int .i64 0, .int .i64 0], rfl, .agg #[c0, c1, c2, c3], _, rfl, by simp only [VRel]; exact ⟨_, rfl, hk⟩, _, _, rfl, by simp only [VRel], _, _, rfl, by simp only [VRel], rfl⟩
theorem Ff {fid : FuncId} {l : List Int} {b : Bool} (h : nu Tryz.prog fid [.row 1 (l.map (V.int .i64))] (.bool b)) {W : World} {A : Option Addr} {cap : Nat} (hc : l.length ≤ cap) (hm : cap ≤ maxLen) (hr : RowIn Any W 1 A l.length (l.map fun z => .int .i64 z)) : Calls Tryz.prog fid #[.slice A l.length cap] W fun e W' => e = .returned (.bool b) ∧ Ext W W' := by
 have h0 := BA W
 have hr' : HRel (fun b => b < W.heap.size) W (fun _ => none) (⟨0, []⟩ : Hp).get := ⟨h0.ob, fun i b hb => by rw [kr] at hb; exact hb.elim, fun i j b hb _ => by rw [kr] at hb; exact hb.elim, fun _ h => h⟩
 have hrow : RowIn (fun b => b < W.heap.size) W 1 A l.length (l.map fun z => .int .i64 z) := ⟨hr.1, fun hp => by
  obtain ⟨b, off, h1, _, h3, h4⟩ := hr.2 hp
  exact ⟨b, off, h1, h3, h3, h4⟩⟩
 refine (h.2.2 _ W _ [.slice A l.length cap] hr' ?_).mono ?_
 ·simp only [LRel]
  exact ⟨_, _, rfl, by simp only [VRel]; exact ⟨A, cap, _, by simp, by simpa using hc, hm, uF l, by simpa using hrow⟩, rfl⟩
 ·rintro e W' ⟨x, S', ρ', v, H', rfl, rfl, h1, h2, h3⟩
  simp only [VRel] at h3
  subst h3
  have hno : ∀ b, ¬ ∃ id, own (fun _ => none) id ((⟨0, []⟩ : Hp).get id) b := fun b ⟨id, hb⟩ => by rw [kr] at hb; exact hb
  exact ⟨rfl, Chg.ext ⟨h2.chg.os, h2.chg.tape, h2.chg.output, h2.chg.size, fun b hb _ => h2.chg.block b hb (hno b)⟩⟩
end Go.Proofs.YtgpcdfbmbcognaaGreat
namespace Go.Proofs.YtgpcdfbmbcognaaGreat
open Go.RowKit Lx Sx
set_option maxRecDepth 100000
set_option maxHeartbeats 1000000
def gTk (t : TokZ) : GToken := ⟨t.kind, t.lead, t.text⟩
theorem uV {S : Nat → Prop} {w : World} {ρ : Nat → Option Value} : ∀ (l : List TokZ), CRel S w ρ 3 ((l.map gTk).map GToken.w) (bj l)
 | [] => by simp [bj, CRel]
 | t :: r => by
  rw [show bj (t :: r) = [.int .i64 t.kind, .string ⟨t.lead.toArray⟩, .string ⟨t.text.toArray⟩] ++ bj r from rfl]
  simp only [List.map_cons, CRel]
  exact ⟨.agg #[.int .i64 t.kind, .string ⟨t.lead.toArray⟩, .string ⟨t.text.toArray⟩], bj r, by simp [Value.cells], ⟨rfl, rfl⟩, by
   simp only [VRel, GToken.w, GToken.c, gTk]
   exact ⟨[.int .i64 t.kind, .string ⟨t.lead.toArray⟩, .string ⟨t.text.toArray⟩], rfl, by simp only [LRel, VRel]; exact ⟨_, _, rfl, rfl, _, _, rfl, rfl, _, _, rfl, rfl, rfl⟩⟩, uV r⟩
theorem yL (l : List UInt8) (hl : l.length ≤ 281474976710656) : oe l ((scan l).toks.map gTk) (scan l).tail ((scan l).place : Nat) ((scan l).err : Nat) := by
 refine ⟨rfl, ?_, fun S w ρ xs hr hx => ?_⟩
 ·simp only [V.pure, pureL, Bool.and_true]
  first | done | exact iJ _ (fun _ => rfl) _
 simp only [LRel, VRel] at hx
 obtain ⟨x, ys, rfl, rfl, rfl⟩ := hx
 refine (zB l w hl).mono ?_
 rintro e w' ⟨v, rfl, ⟨A, c, rfl, hc, hm, hrow, hnew⟩, he⟩
 have hch : Chg [] w w' := st he
 have g := hr.chg0 hch
 refine ⟨_, fun b => S b ∨ (w.heap.size ≤ b ∧ b < w'.heap.size), ρ, _, ⟨0, []⟩, rfl, rfl, ⟨fun i => ?_, fun i b hb => ?_, fun i j b hb _ => ?_, fun b hb => hb.elim (g.slt b) (·.2)⟩, ⟨ChgP.of0 hch, fun _ h => .inl h, fun b hb => hb.elim .inl (fun h => .inr (.inr h.1)), fun id b hb => by rw [kr] at hb; exact hb.elim, fun id x h => ?_⟩, ?_⟩
 ·have := g.ob i; rw [kr] at this ⊢; exact this
 ·rw [kr] at hb; exact hb.elim
 ·rw [kr] at hb; exact hb.elim
 ·simp only [pq] at h
  split at h
  ·exact h
  ·cases h
 ·simp only [VRel]
  refine ⟨[.slice A (scan l).toks.length c, .string ⟨(scan l).tail.toArray⟩, .int .i64 ((scan l).place : Nat), .int .i64 ((scan l).err : Nat)], rfl, _, _, rfl, ?_, _, _, rfl, by simp only [VRel], _, _, rfl, by simp only [VRel], _, _, rfl, by simp only [VRel], rfl⟩
  simp only [VRel]
  refine ⟨A, c, bj (scan l).toks, by simp, by simpa using hc, hm, uV _, by simpa using hrow.1, fun hn => ?_⟩
  obtain ⟨b, off, e1, h1, h2⟩ := hrow.2 (by simpa using hn)
  obtain ⟨b', off', e2, h3⟩ := hnew (by simpa using hn)
  rw [e1] at e2
  injection e2 with e2
  injection e2 with e3 e4 e5
  subst e3
  exact ⟨b, off, e1, .inr ⟨h3, h1⟩, h1, by simpa using h2⟩
def ea (l : List Pce) (s : WS) : WS := l.foldl (fun s p => ac p.Lead p.Text s) s
theorem eP (s : WS) : ea [] s = s := rfl
theorem cR (p : Pce) (l : List Pce) (s : WS) : ea (p :: l) s = ea l (ac p.Lead p.Text s) := rfl
theorem cj (a b : List Pce) (s : WS) : ea (a ++ b) s = ea b (ea a s) := by simp [ea]
theorem pT {ls : List (List UInt8)} {c : Nat} : ∀ (fs : List (WS → WS)) (gs : List (List Pce)) (i : Nat) (s : WS), fs.length = gs.length → (∀ (j : Nat) (s : WS), fs.getD j id s = ea (gs.getD j []) s) → aZ ls c fs i s = ea (gd ls c gs i) s
 | [], [], i, s, h, hk => rfl
 | f :: fs, g :: gs, i, s, h, hk => by
  rw [aZ, gd]
  have hr := fun s => pT (c := c) (ls := ls) fs gs (i + 1) s (by simpa using h) (fun j s => by have := hk (j + 1) s; simpa using this)
  have hf := fun s => hk 0 s
  simp only [List.getD_cons_zero] at hf
  by_cases h0 : 0 < i
  ·rw [if_pos h0, if_pos h0, cj, cj, hr, hf]; rfl
  ·rw [if_neg h0, if_neg h0, cj, cj, hr, hf]; rfl
 | [], g :: gs, i, s, h, hk => by simp at h
 | f :: fs, [], i, s, h, hk => by simp at h
theorem wm : ∀ (fs : List (WS → WS)) (gs : List (List Pce)) (s : WS), fs.length = gs.length → (∀ (j : Nat) (s : WS), fs.getD j id s = ea (gs.getD j []) s) → fs.foldl (fun s f => f s) s = ea gs.flatten s
 | [], [], s, h, hk => rfl
 | f :: fs, g :: gs, s, h, hk => by
  have hr := fun s => wm fs gs s (by simpa using h) (fun j s => by have := hk (j + 1) s; simpa using this)
  have hf := fun s => hk 0 s
  simp only [List.getD_cons_zero] at hf
  rw [List.foldl_cons, List.flatten_cons, cj, hr, hf]
 | [], g :: gs, s, h, hk => by simp at h
 | f :: fs, [], s, h, hk => by simp at h
theorem sn {α : Type} (l : List α) (n j : Nat) (d : α) : (l.take n).getD j d = if j < n then l.getD j d else d := by
 simp only [List.getD_eq_getElem?_getD, List.getElem?_take]
 split <;> rfl
theorem BK {k : Int} {x : List UInt8} {ls : List (List UInt8)} {fs : List (WS → WS)} {gs : List (List Pce)} (hk1 : k ≠ 1) (hfg : fs.length = gs.length) (hk : ∀ (j : Nat) (s : WS), fs.getD j id s = ea (gs.getD j []) s) (s : WS) : dH k x ls fs s = ea (bo k x ls gs) s := by
 have T : ∀ n (j : Nat) (s : WS), (fs.take n).getD j id s = ea ((gs.take n).getD j []) s := fun n j s => by
  rw [sn, sn]
  split
  ·exact hk j s
  ·rfl
 by_cases h2 : k = 2
 ·subst h2
  have e1 : dH 2 x ls fs s = (fs.getD (fs.length - 1) id (ac (ls.getD 5 []) [61] (fs.getD (fs.length - 2) id (ac (ls.getD 4 []) [58] (ac (ls.getD 3 []) [41] (aZ ls 6 (fs.take (fs.length - 2)) 0 (ac (ls.getD 2 []) [40] (ac (ls.getD 1 []) x (ac (ls.getD 0 []) [100, 101, 102] s))))))))) := rfl
  have e2 : bo 2 x ls gs = ((⟨(ls.getD 0 []), [100, 101, 102]⟩ : Pce) :: ((⟨(ls.getD 1 []), x⟩ : Pce) :: ((⟨(ls.getD 2 []), [40]⟩ : Pce) :: (gd ls 6 (gs.take (gs.length - 2)) 0 ++ ((⟨(ls.getD 3 []), [41]⟩ : Pce) :: ((⟨(ls.getD 4 []), [58]⟩ : Pce) :: (gs.getD (gs.length - 2) [] ++ ((⟨(ls.getD 5 []), [61]⟩ : Pce) :: gs.getD (gs.length - 1) [])))))))) := rfl
  rw [e1, e2]
  have q := fun s => pT (ls := ls) (c := 6) (fs.take (fs.length - 2)) (gs.take (gs.length - 2)) 0 s (by rw [List.length_take, List.length_take, hfg]) (fun j s => by rw [hfg]; exact T _ j s)
  rw [hfg] at q
  simp only [cR, cj, eP, q, hk, hfg]
 by_cases h3 : k = 3
 ·subst h3
  have e1 : dH 3 x ls fs s = (fs.getD (0) id (ac (ls.getD 2 []) [61] (ac (ls.getD 1 []) x (ac (ls.getD 0 []) [116, 121, 112, 101] s)))) := rfl
  have e2 : bo 3 x ls gs = ((⟨(ls.getD 0 []), [116, 121, 112, 101]⟩ : Pce) :: ((⟨(ls.getD 1 []), x⟩ : Pce) :: ((⟨(ls.getD 2 []), [61]⟩ : Pce) :: gs.getD (0) []))) := rfl
  rw [e1, e2]
  simp only [cR, cj, eP, hk]
 by_cases h4 : k = 4
 ·subst h4
  have e1 : dH 4 x ls fs s = (fs.getD (0) id (ac (ls.getD 1 []) [58] (ac (ls.getD 0 []) x s))) := rfl
  have e2 : bo 4 x ls gs = ((⟨(ls.getD 0 []), x⟩ : Pce) :: ((⟨(ls.getD 1 []), [58]⟩ : Pce) :: gs.getD (0) [])) := rfl
  rw [e1, e2]
  simp only [cR, cj, eP, hk]
 by_cases h17 : k = 17
 ·subst h17
  have e1 : dH 17 x ls fs s = (fs.getD (0) id s) := rfl
  have e2 : bo 17 x ls gs = gs.getD (0) [] := rfl
  rw [e1, e2]
  simp only [cR, cj, eP, hk]
 by_cases h8 : k = 8
 ·subst h8
  have e1 : dH 8 x ls fs s = (ac (ls.getD 1 []) [93] (fs.getD (0) id (ac (ls.getD 0 []) [91] s))) := rfl
  have e2 : bo 8 x ls gs = ((⟨(ls.getD 0 []), [91]⟩ : Pce) :: (gs.getD (0) [] ++ [(⟨(ls.getD 1 []), [93]⟩ : Pce)])) := rfl
  rw [e1, e2]
  simp only [cR, cj, eP, hk]
 by_cases h16 : k = 16
 ·subst h16
  have e1 : dH 16 x ls fs s = (ac (ls.getD 2 []) [41] (aZ ls 3 fs 0 (ac (ls.getD 1 []) [40] (ac (ls.getD 0 []) x s)))) := rfl
  have e2 : bo 16 x ls gs = ((⟨(ls.getD 0 []), x⟩ : Pce) :: ((⟨(ls.getD 1 []), [40]⟩ : Pce) :: (gd ls 3 gs 0 ++ [(⟨(ls.getD 2 []), [41]⟩ : Pce)]))) := rfl
  rw [e1, e2]
  have q := fun s => pT (ls := ls) (c := 3) fs gs 0 s hfg hk
  simp only [cR, cj, eP, q]
 by_cases h18 : k = 18
 ·subst h18
  have e1 : dH 18 x ls fs s = (ac (ls.getD 1 []) [93] (aZ ls 2 fs 0 (ac (ls.getD 0 []) [91] s))) := rfl
  have e2 : bo 18 x ls gs = ((⟨(ls.getD 0 []), [91]⟩ : Pce) :: (gd ls 2 gs 0 ++ [(⟨(ls.getD 1 []), [93]⟩ : Pce)])) := rfl
  rw [e1, e2]
  have q := fun s => pT (ls := ls) (c := 2) fs gs 0 s hfg hk
  simp only [cR, cj, eP, q]
 by_cases h19 : k = 19
 ·subst h19
  have e1 : dH 19 x ls fs s = (fs.getD (2) id (ac (ls.getD 2 []) [101, 108, 115, 101] (fs.getD (1) id (ac (ls.getD 1 []) [116, 104, 101, 110] (fs.getD (0) id (ac (ls.getD 0 []) [105, 102] s)))))) := rfl
  have e2 : bo 19 x ls gs = ((⟨(ls.getD 0 []), [105, 102]⟩ : Pce) :: (gs.getD (0) [] ++ ((⟨(ls.getD 1 []), [116, 104, 101, 110]⟩ : Pce) :: (gs.getD (1) [] ++ ((⟨(ls.getD 2 []), [101, 108, 115, 101]⟩ : Pce) :: gs.getD (2) []))))) := rfl
  rw [e1, e2]
  simp only [cR, cj, eP, hk]
 by_cases h20 : k = 20
 ·subst h20
  have e1 : dH 20 x ls fs s = (fs.getD (1) id (ac (ls.getD 3 []) [105, 110] (fs.getD (0) id (ac (ls.getD 2 []) [61] (ac (ls.getD 1 []) x (ac (ls.getD 0 []) [108, 101, 116] s)))))) := rfl
  have e2 : bo 20 x ls gs = ((⟨(ls.getD 0 []), [108, 101, 116]⟩ : Pce) :: ((⟨(ls.getD 1 []), x⟩ : Pce) :: ((⟨(ls.getD 2 []), [61]⟩ : Pce) :: (gs.getD (0) [] ++ ((⟨(ls.getD 3 []), [105, 110]⟩ : Pce) :: gs.getD (1) []))))) := rfl
  rw [e1, e2]
  simp only [cR, cj, eP, hk]
 by_cases h21 : k = 21
 ·subst h21
  have e1 : dH 21 x ls fs s = (fs.getD (1) id (ac (ls.getD 0 []) x (fs.getD (0) id s))) := rfl
  have e2 : bo 21 x ls gs = (gs.getD (0) [] ++ ((⟨(ls.getD 0 []), x⟩ : Pce) :: gs.getD (1) [])) := rfl
  rw [e1, e2]
  simp only [cR, cj, eP, hk]
 by_cases h22 : k = 22
 ·subst h22
  have e1 : dH 22 x ls fs s = (ac (ls.getD 1 []) [41] (fs.getD (0) id (ac (ls.getD 0 []) [40] s))) := rfl
  have e2 : bo 22 x ls gs = ((⟨(ls.getD 0 []), [40]⟩ : Pce) :: (gs.getD (0) [] ++ [(⟨(ls.getD 1 []), [41]⟩ : Pce)])) := rfl
  rw [e1, e2]
  simp only [cR, cj, eP, hk]
 have e1 : dH k x ls fs s = ac (ls.getD 0 []) (cz k x) s := by simp only [dH, hk1, h2, h3, h4, h17, h8, h16, h18, h19, h20, h21, h22, or_self, if_false]
 have e2 : bo k x ls gs = [⟨ls.getD 0 [], cz k x⟩] := by simp only [bo, hk1, h2, h3, h4, h17, h8, h16, h18, h19, h20, h21, h22, if_false]; rfl
 rw [e1, e2]; rfl
theorem xX {ks : List Tree} {i : Nat} {u : Tree} (h : ks[i]? = some u) : (treesP ks).getD i id = treeP u := by
 obtain ⟨hl, rfl⟩ := List.getElem?_eq_some_iff.1 h
 exact pw hl
theorem vm (t : Tree) : treeP t = dH t.kind t.text t.leads (treesP t.kids) := by cases t; simp only [treeP]; rfl
theorem we {ks : List Tree} (h : ∀ (i : Nat) (u : Tree), ks[i]? = some u → ∀ s, treeP u s = ea (pcT u) s) (j : Nat) (s : WS) : (treesP ks).getD j id s = ea ((pcTs ks).getD j []) s := by
 rcases bd ks j with ⟨u, hu, _⟩ | hj
 ·rw [xX hu, List.getD_eq_getElem?_getD, cP hu]
  exact h j u hu s
 ·rw [List.getD_eq_getElem?_getD, List.getD_eq_getElem?_getD, List.getElem?_eq_none (by rw [ej]; omega), List.getElem?_eq_none (by rw [oT]; omega)]
  rfl
theorem qc {k : Int} {n i : Int} {kk : Int} (h : kx k n i kk = true) : kk ≠ 1 := by
 intro e
 subst e
 unfold kx at h
 repeat' split at h
 all_goals (revert h; simp [ip, kz, lT])
theorem vZ : ∀ t : Tree, t.kind ≠ 1 → shapeK t = true → ∀ s, treeP t s = ea (pcT t) s := ec fun t ih hk hs s => by
 rw [vm, cr]
 exact BK hk (by rw [ej, oT]) (we fun i u hu s => ih i u hu (qc (dq hs hu).2) (dq hs hu).1 s) s
def pcM (t : Tree) : List Pce := ⟨t.leads.getD 0 [], [109, 111, 100, 117, 108, 101]⟩ :: ⟨t.leads.getD 1 [], t.text⟩ :: (pcTs t.kids).flatten
theorem vY {t : Tree} (hk : t.kind = 1) (hs : shapeK t = true) : eD t = (ea (pcM t) ([], [])).2 ++ t.leads.getD 2 [] := by
 have h := we fun i u hu s => vZ u (qc (dq hs hu).2) (dq hs hu).1 s
 have e := wm (treesP t.kids) (pcTs t.kids) (ac (t.leads.getD 1 []) t.text (ac (t.leads.getD 0 []) [109, 111, 100, 117, 108, 101] ([], []))) (by rw [ej, oT]) h
 unfold eD
 rw [vm, hk]
 show (List.foldl (fun (s : WS) (f : WS → WS) => f s) _ _).2 ++ _ = _
 rw [e]; rfl
def tkA : List UInt8 → List Pce → List TokZ
 | _, [] => []
 | last, p :: r => ⟨ar p.Text, ca last p.Lead p.Text, p.Text⟩ :: tkA p.Text r
theorem sW : ∀ (l : List TokZ) (x y : List UInt8), bL l (x ++ y) = bL l x ++ y
 | [], x, y => rfl
 | t :: r, x, y => by simp only [bL, sW r, List.append_assoc]
theorem sT : ∀ (l : List Pce) (last out : List UInt8), (ea l (last, out)).2 = out ++ bL (tkA last l) []
 | [], last, out => by simp [ea, tkA, bL]
 | p :: r, last, out => by
  rw [cR]
  show (ea r (p.Text, out ++ ca last p.Lead p.Text ++ p.Text)).2 = _
  rw [sT r]
  simp only [tkA, bL, List.append_assoc]
def GdP (l : List Pce) : Prop := ∀ p ∈ l, ar p.Text ≠ 0 ∧ aM false p.Lead false = true
theorem uB : ∀ (l : List Pce) (last : List UInt8), GdP l → ∀ t ∈ tkA last l, pU t
 | [], last, h, t, ht => by simp [tkA] at ht
 | p :: r, last, h, t, ht => by
  rw [tkA] at ht
  rcases List.mem_cons.1 ht with rfl | ht
  ·have hp := h p (by simp)
   refine ⟨rfl, by simp only; have := hp.1; omega, ?_⟩
   simp only [ca]
   split
   ·rfl
   ·exact hp.2
  ·exact uB r _ (fun q hq => h q (by simp [hq])) t ht
theorem Ak {x : List UInt8} (h : ar x ≠ 0) : x ≠ [] := by
 rintro rfl
 exact h rfl
theorem tC : ∀ (l : List Pce) (last : List UInt8), GdP l → Apart (tkA last l)
 | [], last, h => trivial
 | [p], last, h => trivial
 | p :: q :: r, last, h => by
  refine ⟨fun e => ?_, tC (q :: r) p.Text fun x hx => h x (by simp [List.mem_cons.1 hx])⟩
  simp only [ca] at e
  split at e
  ·cases e
  ·rename_i hn
   have hp := Ak (h p (by simp)).1
   cases hf : fusesT p.Text q.Text with
   | false => rfl
   | true => exact absurd ⟨e, hp, hf⟩ hn
theorem gdn : GdP [] := fun p h => by cases h
theorem gdc {p : Pce} {l : List Pce} (h : ar p.Text ≠ 0 ∧ aM false p.Lead false = true) (hl : GdP l) : GdP (p :: l) := fun q hq => by rcases List.mem_cons.1 hq with rfl | hq; exact h; exact hl q hq
theorem gdw {lead tok : List UInt8} {l : List Pce} (h : ar tok ≠ 0) (ht : aM false lead false = true) (hl : GdP l) : GdP (⟨lead, tok⟩ :: l) := gdc ⟨h, ht⟩ hl
theorem gda {a b : List Pce} (h : GdP a) (hl : GdP b) : GdP (a ++ b) := fun q hq => by rcases List.mem_append.1 hq with hq | hq; exact h q hq; exact hl q hq
theorem gdd {gs : List (List Pce)} (h : ∀ g ∈ gs, GdP g) (i : Nat) : GdP (gs.getD i []) := by
 rw [List.getD_eq_getElem?_getD]
 cases e : gs[i]? with
 | none => exact gdn
 | some g => exact h g (List.mem_of_getElem? e)
theorem gdf : ∀ {gs : List (List Pce)}, (∀ g ∈ gs, GdP g) → GdP gs.flatten
 | [], h => gdn
 | g :: r, h => gda (h g (by simp)) (gdf fun x hx => h x (by simp [hx]))
theorem gdr {ls : List (List UInt8)} (hl : ∀ i, aM false (ls.getD i []) false = true) (c : Nat) : ∀ {gs : List (List Pce)} (i : Nat), (∀ g ∈ gs, GdP g) → GdP (gd ls c gs i)
 | [], i, h => gdn
 | g :: r, i, h => by
  rw [gd]
  refine gda ?_ (gda (h g (by simp)) (gdr hl c (i + 1) fun x hx => h x (by simp [hx])))
  split
  ·exact gdw (by decide) (hl _) gdn
  ·exact gdn
theorem vO {x : List UInt8} (h : nk x = true) : ar x ≠ 0 := by
 simp [nk] at h
 rcases h with (((h | h) | h) | h) | h <;> (subst h; decide)
theorem BC {k : Int} {x : List UInt8} {ls : List (List UInt8)} {gs : List (List Pce)} {n : Int} (hn : 0 ≤ co k n) (hk : k ≠ 1) (hx : jy k x = true) (hl : ∀ i, aM false (ls.getD i []) false = true) (hg : ∀ g ∈ gs, GdP g) : GdP (bo k x ls gs) := by
 have hw : (k = 2 ∨ k = 3 ∨ k = 4 ∨ k = 16 ∨ k = 20 ∨ k = 21 ∨ k = 9 ∨ k = 10 ∨ k = 11 ∨ k = 12) → ar x ≠ 0 := by
  intro hc e
  unfold jy at hx
  rw [e] at hx
  repeat' split at hx
  all_goals first | (revert hx; decide) | exact vO hx e | omega
 have hleaf : k = 5 ∨ k = 6 ∨ k = 7 ∨ k = 13 ∨ k = 14 ∨ k = 15 ∨ k = 9 ∨ k = 10 ∨ k = 11 ∨ k = 12 ∨ k = 1 ∨ k = 2 ∨ k = 3 ∨ k = 4 ∨ k = 17 ∨ k = 8 ∨ k = 16 ∨ k = 18 ∨ k = 19 ∨ k = 20 ∨ k = 21 ∨ k = 22 := by
  revert hn
  unfold co
  repeat' split
  all_goals (intro _; first | omega | contradiction)
 unfold bo
 rw [if_neg hk]
 by_cases h2 : k = 2
 ·rw [if_pos h2]; repeat first | exact gdn | exact gdd hg _ | exact gdf hg | exact gdr hl _ _ (fun g h => hg g (List.mem_of_mem_take h)) | refine gdw (by decide) (hl _) ?_ | refine gdw (hw (by omega)) (hl _) ?_ | refine gda ?_ ?_
 rw [if_neg h2]
 by_cases h3 : k = 3
 ·rw [if_pos h3]; repeat first | exact gdn | exact gdd hg _ | refine gdw (by decide) (hl _) ?_ | refine gdw (hw (by omega)) (hl _) ?_ | refine gda ?_ ?_
 rw [if_neg h3]
 by_cases h4 : k = 4
 ·rw [if_pos h4]; repeat first | exact gdn | exact gdd hg _ | refine gdw (by decide) (hl _) ?_ | refine gdw (hw (by omega)) (hl _) ?_ | refine gda ?_ ?_
 rw [if_neg h4]
 by_cases h17 : k = 17
 ·rw [if_pos h17]; exact gdd hg _
 rw [if_neg h17]
 by_cases h8 : k = 8
 ·rw [if_pos h8]; repeat first | exact gdn | exact gdd hg _ | refine gdw (by decide) (hl _) ?_ | refine gda ?_ ?_
 rw [if_neg h8]
 by_cases h16 : k = 16
 ·rw [if_pos h16]; repeat first | exact gdn | exact gdd hg _ | exact gdr hl _ _ hg | refine gdw (by decide) (hl _) ?_ | refine gdw (hw (by omega)) (hl _) ?_ | refine gda ?_ ?_
 rw [if_neg h16]
 by_cases h18 : k = 18
 ·rw [if_pos h18]; repeat first | exact gdn | exact gdd hg _ | exact gdr hl _ _ hg | refine gdw (by decide) (hl _) ?_ | refine gda ?_ ?_
 rw [if_neg h18]
 by_cases h19 : k = 19
 ·rw [if_pos h19]; repeat first | exact gdn | exact gdd hg _ | refine gdw (by decide) (hl _) ?_ | refine gda ?_ ?_
 rw [if_neg h19]
 by_cases h20 : k = 20
 ·rw [if_pos h20]; repeat first | exact gdn | exact gdd hg _ | refine gdw (by decide) (hl _) ?_ | refine gdw (hw (by omega)) (hl _) ?_ | refine gda ?_ ?_
 rw [if_neg h20]
 by_cases h21 : k = 21
 ·rw [if_pos h21]; repeat first | exact gdn | exact gdd hg _ | refine gdw (hw (by omega)) (hl _) ?_ | refine gda ?_ ?_
 rw [if_neg h21]
 by_cases h22 : k = 22
 ·rw [if_pos h22]; repeat first | exact gdn | exact gdd hg _ | refine gdw (by decide) (hl _) ?_ | refine gda ?_ ?_
 rw [if_neg h22]
 refine gdw ?_ (hl _) gdn
 repeat' split
 all_goals first | decide | exact hw (by omega)
end Go.Proofs.YtgpcdfbmbcognaaGreat
namespace Go.Proofs.YtgpcdfbmbcognaaGreat
open Go.RowKit Lx Sx
set_option maxRecDepth 100000
set_option maxHeartbeats 1000000
def kf : List UInt8 → List Pce → List UInt8
 | _, [] => []
 | last, p :: r => ca last p.Lead p.Text ++ (p.Text ++ kf p.Text r)
theorem uK : ∀ (l : List Pce) (last out : List UInt8), (ea l (last, out)).2 = out ++ kf last l
 | [], last, out => by simp [ea, kf]
 | p :: r, last, out => by
  rw [cR]
  show (ea r (p.Text, out ++ ca last p.Lead p.Text ++ p.Text)).2 = _
  rw [uK r]
  simp only [kf, List.append_assoc]
theorem Af (a : List UInt8) : fusesT a [] = false := by simp [fusesT, ar]
theorem Cz {t : Tree} (hk : t.kind = 1) : pcT t = pcM t ++ [⟨t.leads.getD 2 [], []⟩] := by
 rw [cr, hk]; simp [bo, pcM]
theorem DR {t : Tree} (hs : shapeK t = true) : eD t = kf [] (pcT t) := by
 by_cases hk : t.kind = 1
 ·rw [vY hk hs]
  have h := uK (pcT t) [] []
  rw [List.nil_append] at h
  rw [← h, Cz hk, cj]
  show _ = (ac (t.leads.getD 2 []) [] (ea (pcM t) ([], []))).2
  simp only [ac, ca, Af, List.append_nil]
  rw [if_neg (fun h => absurd h.2.2 (by decide))]
 ·have h := uK (pcT t) [] []
  rw [List.nil_append] at h
  unfold eD
  rw [vZ t hk hs, h]
def lv (l : List Pce) (i : Nat) : List UInt8 := if i = 0 then [] else ((l[i - 1]?).map (·.Text)).getD []
theorem xY {l : List Pce} {i : Nat} {x : Pce} (h : l[i]? = some x) : lv l (i + 1) = x.Text := by
 unfold lv; rw [if_neg (by omega), Nat.add_sub_cancel, h]; rfl
theorem Au {l : List Pce} {i : Nat} {y : Pce} (h0 : 0 < i) (h : l[i - 1]? = some y) : lv l i = y.Text := by
 unfold lv; rw [if_neg (by omega), h]; rfl
theorem Ba (t : Tree) (ht : tbulk t ≤ 2000000) : ie t (if (shapeK t && leadedT t) = true then eD t else []) := by
 have hp := pa t (by omega)
 cases h : (shapeK t && leadedT t) with
 | false =>
  rw [h] at hp
  exact kc 0 _ _ ⟨_, hp, fun _ => rfl, fun h => (by cases h)⟩
 | true =>
  rw [h] at hp
  simp only [Bool.and_eq_true] at h
  obtain ⟨l, e, z, q, el⟩ := AU t ht h.1 [] (by simp; omega)
  have hq := q bG
  simp only [List.length_nil] at z
  rw [List.nil_append] at el
  have loop : ∀ k i (s : List UInt8), l.length - i ≤ k → s.length ≤ i * 4000020 → i ≤ l.length → bz (k + 1) l s i (s ++ kf (lv l i) (l.drop i)) := fun k => by
   induction k with
   | zero => intro i s hi hsl hil; exact cd 0 _ _ _ _ ⟨fun h => by omega, fun _ => by rw [List.drop_of_length_le (by omega)]; simp [kf]⟩
   | succ k ihk =>
    intro i s hi hsl hil
    obtain ⟨x, hx, hxl⟩ | h' := bd l i
    ·obtain ⟨hx1, hx2⟩ := hq x (List.mem_of_getElem? hx)
     have hmul : (i + 1) * 4000020 = i * 4000020 + 4000020 := Nat.succ_mul _ _
     have hr1 := ihk (i + 1) (((s ++ [32]) ++ x.Lead) ++ x.Text) (by omega) (by simp only [List.length_append, List.length_cons, List.length_nil]; omega) (by omega)
     have hr2 := ihk (i + 1) ((s ++ x.Lead) ++ x.Text) (by omega) (by simp only [List.length_append]; omega) (by omega)
     rw [xY hx] at hr1 hr2
     rw [dD hx, kf]
     have plain (hg : ca (lv l i) x.Lead x.Text = x.Lead) : s.length + x.Lead.length ≤ 9223372036854775807 ∧ ∃ y : Pce, l[i]? = some y ∧ (s ++ x.Lead).length + y.Text.length ≤ 9223372036854775807 ∧ bz (k + 1) l ((s ++ x.Lead) ++ y.Text) (i + 1) (s ++ (ca (lv l i) x.Lead x.Text ++ (x.Text ++ kf x.Text (l.drop (i + 1))))) := ⟨by omega, x, hx, by simp only [List.length_append]; omega, by rw [hg]; simpa [List.append_assoc] using hr2⟩
     by_cases h0 : (0 : Int) < ((i : Nat) : Int)
     ·by_cases hle : x.Lead = []
      ·obtain ⟨y, hy, hyl⟩ | h' := bd l (i - 1)
       rotate_left
       ·omega
       obtain ⟨hy1, hy2⟩ := hq y (List.mem_of_getElem? hy)
       have hf := Ao y.Text x.Text (by omega) (by omega)
       have hly : lv l i = y.Text := Au (by omega) hy
       cases hb2 : fusesT y.Text x.Text with
       | true =>
        rw [hb2] at hf
        have hg : ca (lv l i) x.Lead x.Text = [32] := by
         rw [hly, ca, if_pos ⟨hle, fun e => (by rw [e] at hb2; cases hb2), hb2⟩]
        rw [hg]
        have hr1' : bz (k + 1) l (((s ++ [32]) ++ x.Lead) ++ x.Text) (i + 1) (s ++ ([32] ++ (x.Text ++ kf x.Text (l.drop (i + 1))))) := by simpa [hle, List.append_assoc] using hr1
        exact (cd (k + 1) _ _ _ _ ⟨fun _ => ⟨fun _ => ⟨x, hx, fun _ => ⟨by omega, i - 1, by omega, y, hy, x, hx, _, hf, fun _ => ⟨by simp only [List.length_cons, List.length_nil]; omega, x, hx, by simp only [List.length_append, List.length_cons, List.length_nil]; omega, x, hx, by simp only [List.length_append, List.length_cons, List.length_nil]; omega, hr1'⟩, fun h => by (cases h)⟩, fun h => absurd hle h⟩, fun h => absurd h0 h⟩, fun h => absurd hxl h⟩)
       | false =>
        rw [hb2] at hf
        exact (cd (k + 1) _ _ _ _ ⟨fun _ => ⟨fun _ => ⟨x, hx, fun _ => ⟨by omega, i - 1, by omega, y, hy, x, hx, _, hf, fun h => by (cases h), fun _ => ⟨x, hx, plain (by rw [hly, ca, if_neg (fun h => by rw [hb2] at h; exact absurd h.2.2 (by decide))])⟩⟩, fun h => absurd hle h⟩, fun h => absurd h0 h⟩, fun h => absurd hxl h⟩)
      ·exact (cd (k + 1) _ _ _ _ ⟨fun _ => ⟨fun _ => ⟨x, hx, fun h => absurd h hle, fun _ => ⟨x, hx, plain (by rw [ca, if_neg (fun h => hle h.1)])⟩⟩, fun h => absurd h0 h⟩, fun h => absurd hxl h⟩)
     ·exact (cd (k + 1) _ _ _ _ ⟨fun _ => ⟨fun h => absurd h h0, fun _ => ⟨x, hx, plain (by rw [ca, if_neg (fun h => h.2.1 (by rw [show i = 0 by omega]; rfl))])⟩⟩, fun h => absurd hxl h⟩)
    ·exact cd (k + 1) _ _ _ _ ⟨fun h => absurd h h', fun _ => by rw [List.drop_of_length_le (by omega)]; simp [kf]⟩
  have hr := loop l.length 0 [] (by omega) (by simp) (by omega)
  rw [show lv l 0 = [] from rfl, List.drop_zero, List.nil_append, el, ← DR h.1, ← el] at hr
  exact kc (l.length + 1) _ _ ⟨_, hp, fun h => (by cases h), fun _ => ⟨l, nD 0 _ _ ⟨_, e, rfl⟩, hr⟩⟩
theorem Bf (t : Tree) (ht : tbulk t ≤ 2000000) : ∃ b, dA t b ∧ (b = true → shapeK t = true ∧ leadedT t = true ∧ (eD t).length ≤ 4096) := by
 have hp := pa t (by omega)
 cases h : (shapeK t && leadedT t) with
 | false =>
  rw [h] at hp
  exact ⟨false, eF 0 _ _ ⟨_, hp, fun h => (by cases h), fun _ => rfl⟩, fun h => (by cases h)⟩
 | true =>
  rw [h] at hp
  have hpr := Ba t ht
  rw [h, if_pos rfl] at hpr
  simp only [Bool.and_eq_true] at h
  obtain ⟨b2, hb2⟩ := zh t ht
  cases b2 with
  | false => exact ⟨false, eF 0 _ _ ⟨_, hp, fun _ => ⟨_, hb2, fun h => (by cases h), fun _ => rfl⟩, fun h => (by cases h)⟩, fun h => (by cases h)⟩
  | true =>
   obtain ⟨n, hn, _, _⟩ := AK t ht
   by_cases h40 : n ≤ 40
   ·exact ⟨_, eF 0 _ _ ⟨_, hp, fun _ => ⟨_, hb2, fun _ => ⟨n, hn, fun _ => ⟨_, hpr, rfl⟩, fun h => absurd h40 h⟩, fun h => (by cases h)⟩, fun h => (by cases h)⟩, fun hd => ⟨h.1, h.2, by have := of_decide_eq_true hd; omega⟩⟩
   ·exact ⟨false, eF 0 _ _ ⟨_, hp, fun _ => ⟨_, hb2, fun _ => ⟨n, hn, fun h => absurd h h40, fun _ => rfl⟩, fun h => (by cases h)⟩, fun h => (by cases h)⟩, fun h => (by cases h)⟩
end Go.Proofs.YtgpcdfbmbcognaaGreat
