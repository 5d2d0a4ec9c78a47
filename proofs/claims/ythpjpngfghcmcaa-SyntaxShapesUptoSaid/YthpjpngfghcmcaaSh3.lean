/- Contracts of the functions that the law reaches, part 3. -/
import Derived.Test.YthpjpngfghcmcaaSh2
set_option linter.unusedVariables false
set_option linter.unusedSimpArgs false
namespace Go.Proofs.Ythpjpngfghcmcaa
open Go.RowKit Lx Sx
set_option maxRecDepth 100000
set_option maxHeartbeats 4000000
theorem tree_len {t : Tree} (h : leadedT t = true) (s : WS) : (treeP t s).2.length ≤ s.2.length + 100 * tbulk t ∧ (treeP t s).1.length ≤ s.1.length + 100 * tbulk t := Gw.tree _ t (Nat.le_refl _) h s
theorem list_len {ls : List (List UInt8)} {c : Nat} (hc : 1 ≤ c) {ks : List Tree} (h : ∀ t, t ∈ ks → ∀ s, Gw (100 * tbulk t) s (treeP t s)) (s : WS) : (listP ls c (treesP ks) 0 s).2.length ≤ s.2.length + (lsum ls + 2 * ks.length + 100 * kbulk ks) ∧ (listP ls c (treesP ks) 0 s).1.length ≤ s.1.length + (lsum ls + 2 * ks.length + 100 * kbulk ks) := by
  have h1 := Gw.list (ls := ls) hc ks 0 h s
  have h2 := lsum_drop ls (c + 0 - 1)
  exact ⟨by have := h1.1; omega, by have := h1.2; omega⟩
theorem t17 {N : Nat} (ih : TreeOk N) {w : World} {Bs b : Nat} {s : WS} {x : List UInt8} {k0 : Tree} {cs : List Value} {A B : Option Addr} {m n : Nat} (hks : ∀ t, t ∈ [k0] → tsize t ≤ N ∧ shapedT t = true ∧ leadedT t = true)
    (hl1 : s.2.length + 100 * (x.length + lsum ([] : List (List UInt8)) + kbulk [k0] + 1) ≤ 1000000000000) (hl2 : s.1.length + 100 * (x.length + lsum ([] : List (List UInt8)) + kbulk [k0] + 1) ≤ 1000000000000) (hP : Pr Bs b s.1 s.2 w) (hL : RowIn (fun b => b < Bs) w 1 A ([] : List (List UInt8)).length (([] : List (List UInt8)).map strV)) (hn : [k0].length ≤ n) (hn2 : n ≤ maxLen) (hK : KidsAre (fun b => b < Bs) w [k0] cs) (hR : RowIn (fun b => b < Bs) w 4 B [k0].length cs) (hBw : Bs ≤ w.heap.size) :
    Calls Try.prog 61 [.pointer (some ⟨b, 0, none⟩), .agg #[.int .i64 17, strV x, .slice A ([] : List (List UInt8)).length m, .slice B [k0].length n]].toArray w fun e w' => e = .returned (.tuple #[]) ∧ Pr Bs b (treeP (.node 17 x ([] : List (List UInt8)) [k0]) s).1 (treeP (.node 17 x ([] : List (List UInt8)) [k0]) s).2 w' ∧ Prn Bs b w w' := by
  simp only [lsum, kbulk] at hl1 hl2
  have hE := Prn.refl (b := b) hBw
  have hG : s.2.length ≤ s.2.length := Nat.le_refl _
  have hG' : s.1.length ≤ s.1.length := Nat.le_refl _
  obtain ⟨kb, ko, rfl, _, hkb, _⟩ := hR.2 (by simp)
  refine rE 216 Try.func61 rfl rfl rfl ?_
  intro a hf
  refine rR 2 hf rfl fun a hf => ?_
  obtain ⟨w1, b2, he, hB3, hx4, eb5, lb6⟩ := ef_box (P := Try.prog) (t := 26) (x := (.tmp 1)) hf rfl rfl w 0
  refine rV hf rfl he fun a hf => ?_
  have ge_b2 := Prn.ge_new hE eb5
  have ne_b_b2 : b ≠ b2 := ne_new hP.lt eb5
  replace hP := hP.chg0 hx4
  replace hE := hE.t0 hx4
  clear eb5 lb6
  refine rR 5 hf rfl fun a hf => rV hf rfl (ex_loadB hf rfl (by kernel_rfl) hB3 rfl) fun a hf => rR 41 hf rfl fun a hf => rV hf rfl (ex_loadB hf rfl (by kernel_rfl) hB3 rfl) fun a hf => rV hf rfl (ex_index (sz := 4) (k := 0) (r := ko) hf Try.underlying24 (by kernel_rfl) rfl rfl rfl (by simp) rfl) fun a hf => ?_
  obtain ⟨d0, d1, d2, d3, hT, hK4⟩ := kid_now hK hR hE (i := 0) (t := k0) rfl
  have on_T := hT.one
  refine rV hf rfl (ex_loadN (cs := [d0, d1, d2, d3]) (m := 4) hf rfl (by kernel_rfl) rfl hK4) fun a hf => rC hf rfl rfl (by kernel_rfl) (ih k0 _ Bs b s d0 d1 d2 d3 (hks _ (by simp)).1 (hks _ (by simp)).2.1 (hks _ (by simp)).2.2 (by (try simp only [putP, List.length_append, List.length_cons, List.length_nil]); omega) (by (try simp only [putP, List.length_append, List.length_cons, List.length_nil]); omega) hP hT hE.now) ?_
  rintro _ w9 ⟨rfl, hPn, hEn⟩
  refine ⟨_, rfl, fun a hf => ?_⟩
  have hx8 := hEn.chg
  replace hB3 := hB3.chg hx8 (nm_blk hB3 rfl (Ne.symm ne_b_b2))
  replace hE := hE.trans hx8 (fun _ h => .inl h)
  obtain ⟨s7, es7⟩ : ∃ z, z = treeP k0 s := ⟨_, rfl⟩
  replace hPn : Pr Bs b (treeP k0 s).1 (treeP k0 s).2 w9 := hPn
  rw [← es7] at hPn
  have gs7 := tree_len (t := k0) (hks _ (by simp)).2.2 s
  rw [← es7] at gs7
  obtain ⟨gs7, gs7'⟩ := gs7
  (try simp only [List.length_cons, List.length_nil, lsum] at gs7 gs7')
  replace hG := nlt gs7 (Nat.add_le_add_right hG _)
  replace hG' := nlt gs7' (Nat.add_le_add_right hG' _)
  clear gs7 gs7'
  clear hP; have hP := hPn; clear hPn hEn
  refine rR 2 hf rfl fun a hf => ?_
  have eq : treeP (.node 17 x ([] : List (List UInt8)) [k0]) s = s7 := by subst es7; rfl
  rw [eq]
  exact rF (rs := []) hf rfl rfl ⟨rfl, hP, hE⟩
theorem t8 {N : Nat} (ih : TreeOk N) {w : World} {Bs b : Nat} {s : WS} {x : List UInt8} {l0 l1 : List UInt8} {k0 : Tree} {cs : List Value} {A B : Option Addr} {m n : Nat} (hks : ∀ t, t ∈ [k0] → tsize t ≤ N ∧ shapedT t = true ∧ leadedT t = true)
    (hl1 : s.2.length + 100 * (x.length + lsum [l0, l1] + kbulk [k0] + 1) ≤ 1000000000000) (hl2 : s.1.length + 100 * (x.length + lsum [l0, l1] + kbulk [k0] + 1) ≤ 1000000000000) (hP : Pr Bs b s.1 s.2 w) (hL : RowIn (fun b => b < Bs) w 1 A [l0, l1].length ([l0, l1].map strV)) (hn : [k0].length ≤ n) (hn2 : n ≤ maxLen) (hK : KidsAre (fun b => b < Bs) w [k0] cs) (hR : RowIn (fun b => b < Bs) w 4 B [k0].length cs) (hBw : Bs ≤ w.heap.size) :
    Calls Try.prog 61 [.pointer (some ⟨b, 0, none⟩), .agg #[.int .i64 8, strV x, .slice A [l0, l1].length m, .slice B [k0].length n]].toArray w fun e w' => e = .returned (.tuple #[]) ∧ Pr Bs b (treeP (.node 8 x [l0, l1] [k0]) s).1 (treeP (.node 8 x [l0, l1] [k0]) s).2 w' ∧ Prn Bs b w w' := by
  simp only [lsum, kbulk] at hl1 hl2
  have hE := Prn.refl (b := b) hBw
  have hG : s.2.length ≤ s.2.length := Nat.le_refl _
  have hG' : s.1.length ≤ s.1.length := Nat.le_refl _
  obtain ⟨lb, lo, rfl, _, hlb, _⟩ := hL.2 (by simp)
  obtain ⟨kb, ko, rfl, _, hkb, _⟩ := hR.2 (by simp)
  refine rE 216 Try.func61 rfl rfl rfl ?_
  intro a hf
  refine rR 2 hf rfl fun a hf => ?_
  obtain ⟨w1, b2, he, hB3, hx4, eb5, lb6⟩ := ef_box (P := Try.prog) (t := 26) (x := (.tmp 1)) hf rfl rfl w 0
  refine rV hf rfl he fun a hf => ?_
  have ge_b2 := Prn.ge_new hE eb5
  have ne_b_b2 : b ≠ b2 := ne_new hP.lt eb5
  replace hP := hP.chg0 hx4
  replace hE := hE.t0 hx4
  clear eb5 lb6
  refine rR 5 hf rfl fun a hf => rV hf rfl (ex_loadB hf rfl (by kernel_rfl) hB3 rfl) fun a hf => rR 49 hf rfl fun a hf => rV hf rfl (ex_loadB hf rfl (by kernel_rfl) hB3 rfl) fun a hf => rV hf rfl (ex_index (sz := 1) (k := 0) (r := lo) hf Try.underlying23 (by kernel_rfl) rfl rfl rfl (by simp) rfl) fun a hf => rV hf rfl (ex_load hf rfl (by kernel_rfl) (lead_now hL hE (j := 0) rfl)) fun a hf => rC hf rfl rfl (by kernel_rfl) (putL (lead := l0) (tok := [91]) hP (by (try simp only [putP, List.length_append, List.length_cons, List.length_nil]); omega) (by (try simp only [putP, List.length_append, List.length_cons, List.length_nil]); omega) hE.now) ?_
  rintro _ w9 ⟨rfl, hPn, hEn⟩
  refine ⟨_, rfl, fun a hf => ?_⟩
  have hx8 := hEn.chg
  replace hB3 := hB3.chg hx8 (nm_blk hB3 rfl (Ne.symm ne_b_b2))
  replace hE := hE.trans hx8 (fun _ h => .inl h)
  obtain ⟨s7, es7⟩ : ∃ z, z = putP l0 [91] s := ⟨_, rfl⟩
  replace hPn : Pr Bs b (putP l0 [91] s).1 (putP l0 [91] s).2 w9 := hPn
  rw [← es7] at hPn
  have gs7 := put_len l0 [91] s
  rw [← es7] at gs7
  obtain ⟨gs7, gs7'⟩ := gs7
  (try simp only [List.length_cons, List.length_nil, lsum] at gs7 gs7')
  replace hG := nlt gs7 (Nat.add_le_add_right hG _)
  replace hG' := nlt gs7' (Nat.add_le_add_right hG' _)
  clear gs7 gs7'
  clear hP; have hP := hPn; clear hPn hEn
  refine rR 6 hf rfl fun a hf => rV hf rfl (ex_loadB hf rfl (by kernel_rfl) hB3 rfl) fun a hf => rV hf rfl (ex_index (sz := 4) (k := 0) (r := ko) hf Try.underlying24 (by kernel_rfl) rfl rfl rfl (by simp) rfl) fun a hf => ?_
  obtain ⟨d0, d1, d2, d3, hT, hK4⟩ := kid_now hK hR hE (i := 0) (t := k0) rfl
  have on_T := hT.one
  refine rV hf rfl (ex_loadN (cs := [d0, d1, d2, d3]) (m := 4) hf rfl (by kernel_rfl) rfl hK4) fun a hf => rC hf rfl rfl (by kernel_rfl) (ih k0 _ Bs b s7 d0 d1 d2 d3 (hks _ (by simp)).1 (hks _ (by simp)).2.1 (hks _ (by simp)).2.2 (by (try simp only [putP, List.length_append, List.length_cons, List.length_nil]); omega) (by (try simp only [putP, List.length_append, List.length_cons, List.length_nil]); omega) hP hT hE.now) ?_
  rintro _ w12 ⟨rfl, hPn, hEn⟩
  refine ⟨_, rfl, fun a hf => ?_⟩
  have hx11 := hEn.chg
  replace hB3 := hB3.chg hx11 (nm_blk hB3 rfl (Ne.symm ne_b_b2))
  replace hE := hE.trans hx11 (fun _ h => .inl h)
  obtain ⟨s10, es10⟩ : ∃ z, z = treeP k0 s7 := ⟨_, rfl⟩
  replace hPn : Pr Bs b (treeP k0 s7).1 (treeP k0 s7).2 w12 := hPn
  rw [← es10] at hPn
  have gs10 := tree_len (t := k0) (hks _ (by simp)).2.2 s7
  rw [← es10] at gs10
  obtain ⟨gs10, gs10'⟩ := gs10
  (try simp only [List.length_cons, List.length_nil, lsum] at gs10 gs10')
  replace hG := nlt gs10 (Nat.add_le_add_right hG _)
  replace hG' := nlt gs10' (Nat.add_le_add_right hG' _)
  clear gs10 gs10'
  clear hP; have hP := hPn; clear hPn hEn
  refine rR 5 hf rfl fun a hf => rV hf rfl (ex_loadB hf rfl (by kernel_rfl) hB3 rfl) fun a hf => rV hf rfl (ex_index (sz := 1) (k := 1) (r := lo + 1) hf Try.underlying23 (by kernel_rfl) rfl rfl rfl (by simp) rfl) fun a hf => rV hf rfl (ex_load hf rfl (by kernel_rfl) (lead_now hL hE (j := 1) rfl)) fun a hf => rC hf rfl rfl (by kernel_rfl) (putL (lead := l1) (tok := [93]) hP (by (try simp only [putP, List.length_append, List.length_cons, List.length_nil]); omega) (by (try simp only [putP, List.length_append, List.length_cons, List.length_nil]); omega) hE.now) ?_
  rintro _ w15 ⟨rfl, hPn, hEn⟩
  refine ⟨_, rfl, fun a hf => ?_⟩
  have hx14 := hEn.chg
  replace hB3 := hB3.chg hx14 (nm_blk hB3 rfl (Ne.symm ne_b_b2))
  replace hE := hE.trans hx14 (fun _ h => .inl h)
  obtain ⟨s13, es13⟩ : ∃ z, z = putP l1 [93] s10 := ⟨_, rfl⟩
  replace hPn : Pr Bs b (putP l1 [93] s10).1 (putP l1 [93] s10).2 w15 := hPn
  rw [← es13] at hPn
  have gs13 := put_len l1 [93] s10
  rw [← es13] at gs13
  obtain ⟨gs13, gs13'⟩ := gs13
  (try simp only [List.length_cons, List.length_nil, lsum] at gs13 gs13')
  replace hG := nlt gs13 (Nat.add_le_add_right hG _)
  replace hG' := nlt gs13' (Nat.add_le_add_right hG' _)
  clear gs13 gs13'
  clear hP; have hP := hPn; clear hPn hEn
  refine rR 2 hf rfl fun a hf => ?_
  have eq : treeP (.node 8 x [l0, l1] [k0]) s = s13 := by subst es13; subst es10; subst es7; rfl
  rw [eq]
  exact rF (rs := []) hf rfl rfl ⟨rfl, hP, hE⟩
theorem t19 {N : Nat} (ih : TreeOk N) {w : World} {Bs b : Nat} {s : WS} {x : List UInt8} {l0 l1 l2 : List UInt8} {k0 k1 k2 : Tree} {cs : List Value} {A B : Option Addr} {m n : Nat} (hks : ∀ t, t ∈ [k0, k1, k2] → tsize t ≤ N ∧ shapedT t = true ∧ leadedT t = true)
    (hl1 : s.2.length + 100 * (x.length + lsum [l0, l1, l2] + kbulk [k0, k1, k2] + 1) ≤ 1000000000000) (hl2 : s.1.length + 100 * (x.length + lsum [l0, l1, l2] + kbulk [k0, k1, k2] + 1) ≤ 1000000000000) (hP : Pr Bs b s.1 s.2 w) (hL : RowIn (fun b => b < Bs) w 1 A [l0, l1, l2].length ([l0, l1, l2].map strV)) (hn : [k0, k1, k2].length ≤ n) (hn2 : n ≤ maxLen) (hK : KidsAre (fun b => b < Bs) w [k0, k1, k2] cs) (hR : RowIn (fun b => b < Bs) w 4 B [k0, k1, k2].length cs) (hBw : Bs ≤ w.heap.size) :
    Calls Try.prog 61 [.pointer (some ⟨b, 0, none⟩), .agg #[.int .i64 19, strV x, .slice A [l0, l1, l2].length m, .slice B [k0, k1, k2].length n]].toArray w fun e w' => e = .returned (.tuple #[]) ∧ Pr Bs b (treeP (.node 19 x [l0, l1, l2] [k0, k1, k2]) s).1 (treeP (.node 19 x [l0, l1, l2] [k0, k1, k2]) s).2 w' ∧ Prn Bs b w w' := by
  simp only [lsum, kbulk] at hl1 hl2
  have hE := Prn.refl (b := b) hBw
  have hG : s.2.length ≤ s.2.length := Nat.le_refl _
  have hG' : s.1.length ≤ s.1.length := Nat.le_refl _
  obtain ⟨lb, lo, rfl, _, hlb, _⟩ := hL.2 (by simp)
  obtain ⟨kb, ko, rfl, _, hkb, _⟩ := hR.2 (by simp)
  refine rE 216 Try.func61 rfl rfl rfl ?_
  intro a hf
  refine rR 2 hf rfl fun a hf => ?_
  obtain ⟨w1, b2, he, hB3, hx4, eb5, lb6⟩ := ef_box (P := Try.prog) (t := 26) (x := (.tmp 1)) hf rfl rfl w 0
  refine rV hf rfl he fun a hf => ?_
  have ge_b2 := Prn.ge_new hE eb5
  have ne_b_b2 : b ≠ b2 := ne_new hP.lt eb5
  replace hP := hP.chg0 hx4
  replace hE := hE.t0 hx4
  clear eb5 lb6
  refine rR 5 hf rfl fun a hf => rV hf rfl (ex_loadB hf rfl (by kernel_rfl) hB3 rfl) fun a hf => rR 70 hf rfl fun a hf => rV hf rfl (ex_loadB hf rfl (by kernel_rfl) hB3 rfl) fun a hf => rV hf rfl (ex_index (sz := 1) (k := 0) (r := lo) hf Try.underlying23 (by kernel_rfl) rfl rfl rfl (by simp) rfl) fun a hf => rV hf rfl (ex_load hf rfl (by kernel_rfl) (lead_now hL hE (j := 0) rfl)) fun a hf => rC hf rfl rfl (by kernel_rfl) (putL (lead := l0) (tok := [105, 102]) hP (by (try simp only [putP, List.length_append, List.length_cons, List.length_nil]); omega) (by (try simp only [putP, List.length_append, List.length_cons, List.length_nil]); omega) hE.now) ?_
  rintro _ w9 ⟨rfl, hPn, hEn⟩
  refine ⟨_, rfl, fun a hf => ?_⟩
  have hx8 := hEn.chg
  replace hB3 := hB3.chg hx8 (nm_blk hB3 rfl (Ne.symm ne_b_b2))
  replace hE := hE.trans hx8 (fun _ h => .inl h)
  obtain ⟨s7, es7⟩ : ∃ z, z = putP l0 [105, 102] s := ⟨_, rfl⟩
  replace hPn : Pr Bs b (putP l0 [105, 102] s).1 (putP l0 [105, 102] s).2 w9 := hPn
  rw [← es7] at hPn
  have gs7 := put_len l0 [105, 102] s
  rw [← es7] at gs7
  obtain ⟨gs7, gs7'⟩ := gs7
  (try simp only [List.length_cons, List.length_nil, lsum] at gs7 gs7')
  replace hG := nlt gs7 (Nat.add_le_add_right hG _)
  replace hG' := nlt gs7' (Nat.add_le_add_right hG' _)
  clear gs7 gs7'
  clear hP; have hP := hPn; clear hPn hEn
  refine rR 6 hf rfl fun a hf => rV hf rfl (ex_loadB hf rfl (by kernel_rfl) hB3 rfl) fun a hf => rV hf rfl (ex_index (sz := 4) (k := 0) (r := ko) hf Try.underlying24 (by kernel_rfl) rfl rfl rfl (by simp) rfl) fun a hf => ?_
  obtain ⟨d0, d1, d2, d3, hT, hK4⟩ := kid_now hK hR hE (i := 0) (t := k0) rfl
  have on_T := hT.one
  refine rV hf rfl (ex_loadN (cs := [d0, d1, d2, d3]) (m := 4) hf rfl (by kernel_rfl) rfl hK4) fun a hf => rC hf rfl rfl (by kernel_rfl) (ih k0 _ Bs b s7 d0 d1 d2 d3 (hks _ (by simp)).1 (hks _ (by simp)).2.1 (hks _ (by simp)).2.2 (by (try simp only [putP, List.length_append, List.length_cons, List.length_nil]); omega) (by (try simp only [putP, List.length_append, List.length_cons, List.length_nil]); omega) hP hT hE.now) ?_
  rintro _ w12 ⟨rfl, hPn, hEn⟩
  refine ⟨_, rfl, fun a hf => ?_⟩
  have hx11 := hEn.chg
  replace hB3 := hB3.chg hx11 (nm_blk hB3 rfl (Ne.symm ne_b_b2))
  replace hE := hE.trans hx11 (fun _ h => .inl h)
  obtain ⟨s10, es10⟩ : ∃ z, z = treeP k0 s7 := ⟨_, rfl⟩
  replace hPn : Pr Bs b (treeP k0 s7).1 (treeP k0 s7).2 w12 := hPn
  rw [← es10] at hPn
  have gs10 := tree_len (t := k0) (hks _ (by simp)).2.2 s7
  rw [← es10] at gs10
  obtain ⟨gs10, gs10'⟩ := gs10
  (try simp only [List.length_cons, List.length_nil, lsum] at gs10 gs10')
  replace hG := nlt gs10 (Nat.add_le_add_right hG _)
  replace hG' := nlt gs10' (Nat.add_le_add_right hG' _)
  clear gs10 gs10'
  clear hP; have hP := hPn; clear hPn hEn
  refine rR 6 hf rfl fun a hf => rV hf rfl (ex_loadB hf rfl (by kernel_rfl) hB3 rfl) fun a hf => rV hf rfl (ex_index (sz := 1) (k := 1) (r := lo + 1) hf Try.underlying23 (by kernel_rfl) rfl rfl rfl (by simp) rfl) fun a hf => rV hf rfl (ex_load hf rfl (by kernel_rfl) (lead_now hL hE (j := 1) rfl)) fun a hf => rC hf rfl rfl (by kernel_rfl) (putL (lead := l1) (tok := [116, 104, 101, 110]) hP (by (try simp only [putP, List.length_append, List.length_cons, List.length_nil]); omega) (by (try simp only [putP, List.length_append, List.length_cons, List.length_nil]); omega) hE.now) ?_
  rintro _ w15 ⟨rfl, hPn, hEn⟩
  refine ⟨_, rfl, fun a hf => ?_⟩
  have hx14 := hEn.chg
  replace hB3 := hB3.chg hx14 (nm_blk hB3 rfl (Ne.symm ne_b_b2))
  replace hE := hE.trans hx14 (fun _ h => .inl h)
  obtain ⟨s13, es13⟩ : ∃ z, z = putP l1 [116, 104, 101, 110] s10 := ⟨_, rfl⟩
  replace hPn : Pr Bs b (putP l1 [116, 104, 101, 110] s10).1 (putP l1 [116, 104, 101, 110] s10).2 w15 := hPn
  rw [← es13] at hPn
  have gs13 := put_len l1 [116, 104, 101, 110] s10
  rw [← es13] at gs13
  obtain ⟨gs13, gs13'⟩ := gs13
  (try simp only [List.length_cons, List.length_nil, lsum] at gs13 gs13')
  replace hG := nlt gs13 (Nat.add_le_add_right hG _)
  replace hG' := nlt gs13' (Nat.add_le_add_right hG' _)
  clear gs13 gs13'
  clear hP; have hP := hPn; clear hPn hEn
  refine rR 6 hf rfl fun a hf => rV hf rfl (ex_loadB hf rfl (by kernel_rfl) hB3 rfl) fun a hf => rV hf rfl (ex_index (sz := 4) (k := 1) (r := ko + 4) hf Try.underlying24 (by kernel_rfl) rfl rfl rfl (by simp) rfl) fun a hf => ?_
  obtain ⟨d0, d1, d2, d3, hT, hK4⟩ := kid_now hK hR hE (i := 1) (t := k1) rfl
  have on_T := hT.one
  refine rV hf rfl (ex_loadN (cs := [d0, d1, d2, d3]) (m := 4) hf rfl (by kernel_rfl) rfl hK4) fun a hf => rC hf rfl rfl (by kernel_rfl) (ih k1 _ Bs b s13 d0 d1 d2 d3 (hks _ (by simp)).1 (hks _ (by simp)).2.1 (hks _ (by simp)).2.2 (by (try simp only [putP, List.length_append, List.length_cons, List.length_nil]); omega) (by (try simp only [putP, List.length_append, List.length_cons, List.length_nil]); omega) hP hT hE.now) ?_
  rintro _ w18 ⟨rfl, hPn, hEn⟩
  refine ⟨_, rfl, fun a hf => ?_⟩
  have hx17 := hEn.chg
  replace hB3 := hB3.chg hx17 (nm_blk hB3 rfl (Ne.symm ne_b_b2))
  replace hE := hE.trans hx17 (fun _ h => .inl h)
  obtain ⟨s16, es16⟩ : ∃ z, z = treeP k1 s13 := ⟨_, rfl⟩
  replace hPn : Pr Bs b (treeP k1 s13).1 (treeP k1 s13).2 w18 := hPn
  rw [← es16] at hPn
  have gs16 := tree_len (t := k1) (hks _ (by simp)).2.2 s13
  rw [← es16] at gs16
  obtain ⟨gs16, gs16'⟩ := gs16
  (try simp only [List.length_cons, List.length_nil, lsum] at gs16 gs16')
  replace hG := nlt gs16 (Nat.add_le_add_right hG _)
  replace hG' := nlt gs16' (Nat.add_le_add_right hG' _)
  clear gs16 gs16'
  clear hP; have hP := hPn; clear hPn hEn
  refine rR 6 hf rfl fun a hf => rV hf rfl (ex_loadB hf rfl (by kernel_rfl) hB3 rfl) fun a hf => rV hf rfl (ex_index (sz := 1) (k := 2) (r := lo + 2) hf Try.underlying23 (by kernel_rfl) rfl rfl rfl (by simp) rfl) fun a hf => rV hf rfl (ex_load hf rfl (by kernel_rfl) (lead_now hL hE (j := 2) rfl)) fun a hf => rC hf rfl rfl (by kernel_rfl) (putL (lead := l2) (tok := [101, 108, 115, 101]) hP (by (try simp only [putP, List.length_append, List.length_cons, List.length_nil]); omega) (by (try simp only [putP, List.length_append, List.length_cons, List.length_nil]); omega) hE.now) ?_
  rintro _ w21 ⟨rfl, hPn, hEn⟩
  refine ⟨_, rfl, fun a hf => ?_⟩
  have hx20 := hEn.chg
  replace hB3 := hB3.chg hx20 (nm_blk hB3 rfl (Ne.symm ne_b_b2))
  replace hE := hE.trans hx20 (fun _ h => .inl h)
  obtain ⟨s19, es19⟩ : ∃ z, z = putP l2 [101, 108, 115, 101] s16 := ⟨_, rfl⟩
  replace hPn : Pr Bs b (putP l2 [101, 108, 115, 101] s16).1 (putP l2 [101, 108, 115, 101] s16).2 w21 := hPn
  rw [← es19] at hPn
  have gs19 := put_len l2 [101, 108, 115, 101] s16
  rw [← es19] at gs19
  obtain ⟨gs19, gs19'⟩ := gs19
  (try simp only [List.length_cons, List.length_nil, lsum] at gs19 gs19')
  replace hG := nlt gs19 (Nat.add_le_add_right hG _)
  replace hG' := nlt gs19' (Nat.add_le_add_right hG' _)
  clear gs19 gs19'
  clear hP; have hP := hPn; clear hPn hEn
  refine rR 5 hf rfl fun a hf => rV hf rfl (ex_loadB hf rfl (by kernel_rfl) hB3 rfl) fun a hf => rV hf rfl (ex_index (sz := 4) (k := 2) (r := ko + 8) hf Try.underlying24 (by kernel_rfl) rfl rfl rfl (by simp) rfl) fun a hf => ?_
  obtain ⟨d0, d1, d2, d3, hT, hK4⟩ := kid_now hK hR hE (i := 2) (t := k2) rfl
  have on_T := hT.one
  refine rV hf rfl (ex_loadN (cs := [d0, d1, d2, d3]) (m := 4) hf rfl (by kernel_rfl) rfl hK4) fun a hf => rC hf rfl rfl (by kernel_rfl) (ih k2 _ Bs b s19 d0 d1 d2 d3 (hks _ (by simp)).1 (hks _ (by simp)).2.1 (hks _ (by simp)).2.2 (by (try simp only [putP, List.length_append, List.length_cons, List.length_nil]); omega) (by (try simp only [putP, List.length_append, List.length_cons, List.length_nil]); omega) hP hT hE.now) ?_
  rintro _ w24 ⟨rfl, hPn, hEn⟩
  refine ⟨_, rfl, fun a hf => ?_⟩
  have hx23 := hEn.chg
  replace hB3 := hB3.chg hx23 (nm_blk hB3 rfl (Ne.symm ne_b_b2))
  replace hE := hE.trans hx23 (fun _ h => .inl h)
  obtain ⟨s22, es22⟩ : ∃ z, z = treeP k2 s19 := ⟨_, rfl⟩
  replace hPn : Pr Bs b (treeP k2 s19).1 (treeP k2 s19).2 w24 := hPn
  rw [← es22] at hPn
  have gs22 := tree_len (t := k2) (hks _ (by simp)).2.2 s19
  rw [← es22] at gs22
  obtain ⟨gs22, gs22'⟩ := gs22
  (try simp only [List.length_cons, List.length_nil, lsum] at gs22 gs22')
  replace hG := nlt gs22 (Nat.add_le_add_right hG _)
  replace hG' := nlt gs22' (Nat.add_le_add_right hG' _)
  clear gs22 gs22'
  clear hP; have hP := hPn; clear hPn hEn
  refine rR 2 hf rfl fun a hf => ?_
  have eq : treeP (.node 19 x [l0, l1, l2] [k0, k1, k2]) s = s22 := by subst es22; subst es19; subst es16; subst es13; subst es10; subst es7; rfl
  rw [eq]
  exact rF (rs := []) hf rfl rfl ⟨rfl, hP, hE⟩
theorem t20 {N : Nat} (ih : TreeOk N) {w : World} {Bs b : Nat} {s : WS} {x : List UInt8} {l0 l1 l2 l3 : List UInt8} {k0 k1 : Tree} {cs : List Value} {A B : Option Addr} {m n : Nat} (hks : ∀ t, t ∈ [k0, k1] → tsize t ≤ N ∧ shapedT t = true ∧ leadedT t = true)
    (hl1 : s.2.length + 100 * (x.length + lsum [l0, l1, l2, l3] + kbulk [k0, k1] + 1) ≤ 1000000000000) (hl2 : s.1.length + 100 * (x.length + lsum [l0, l1, l2, l3] + kbulk [k0, k1] + 1) ≤ 1000000000000) (hP : Pr Bs b s.1 s.2 w) (hL : RowIn (fun b => b < Bs) w 1 A [l0, l1, l2, l3].length ([l0, l1, l2, l3].map strV)) (hn : [k0, k1].length ≤ n) (hn2 : n ≤ maxLen) (hK : KidsAre (fun b => b < Bs) w [k0, k1] cs) (hR : RowIn (fun b => b < Bs) w 4 B [k0, k1].length cs) (hBw : Bs ≤ w.heap.size) :
    Calls Try.prog 61 [.pointer (some ⟨b, 0, none⟩), .agg #[.int .i64 20, strV x, .slice A [l0, l1, l2, l3].length m, .slice B [k0, k1].length n]].toArray w fun e w' => e = .returned (.tuple #[]) ∧ Pr Bs b (treeP (.node 20 x [l0, l1, l2, l3] [k0, k1]) s).1 (treeP (.node 20 x [l0, l1, l2, l3] [k0, k1]) s).2 w' ∧ Prn Bs b w w' := by
  simp only [lsum, kbulk] at hl1 hl2
  have hE := Prn.refl (b := b) hBw
  have hG : s.2.length ≤ s.2.length := Nat.le_refl _
  have hG' : s.1.length ≤ s.1.length := Nat.le_refl _
  obtain ⟨lb, lo, rfl, _, hlb, _⟩ := hL.2 (by simp)
  obtain ⟨kb, ko, rfl, _, hkb, _⟩ := hR.2 (by simp)
  refine rE 216 Try.func61 rfl rfl rfl ?_
  intro a hf
  refine rR 2 hf rfl fun a hf => ?_
  obtain ⟨w1, b2, he, hB3, hx4, eb5, lb6⟩ := ef_box (P := Try.prog) (t := 26) (x := (.tmp 1)) hf rfl rfl w 0
  refine rV hf rfl he fun a hf => ?_
  have ge_b2 := Prn.ge_new hE eb5
  have ne_b_b2 : b ≠ b2 := ne_new hP.lt eb5
  replace hP := hP.chg0 hx4
  replace hE := hE.t0 hx4
  clear eb5 lb6
  refine rR 5 hf rfl fun a hf => rV hf rfl (ex_loadB hf rfl (by kernel_rfl) hB3 rfl) fun a hf => rR 77 hf rfl fun a hf => rV hf rfl (ex_loadB hf rfl (by kernel_rfl) hB3 rfl) fun a hf => rV hf rfl (ex_index (sz := 1) (k := 0) (r := lo) hf Try.underlying23 (by kernel_rfl) rfl rfl rfl (by simp) rfl) fun a hf => rV hf rfl (ex_load hf rfl (by kernel_rfl) (lead_now hL hE (j := 0) rfl)) fun a hf => rC hf rfl rfl (by kernel_rfl) (putL (lead := l0) (tok := [108, 101, 116]) hP (by (try simp only [putP, List.length_append, List.length_cons, List.length_nil]); omega) (by (try simp only [putP, List.length_append, List.length_cons, List.length_nil]); omega) hE.now) ?_
  rintro _ w9 ⟨rfl, hPn, hEn⟩
  refine ⟨_, rfl, fun a hf => ?_⟩
  have hx8 := hEn.chg
  replace hB3 := hB3.chg hx8 (nm_blk hB3 rfl (Ne.symm ne_b_b2))
  replace hE := hE.trans hx8 (fun _ h => .inl h)
  obtain ⟨s7, es7⟩ : ∃ z, z = putP l0 [108, 101, 116] s := ⟨_, rfl⟩
  replace hPn : Pr Bs b (putP l0 [108, 101, 116] s).1 (putP l0 [108, 101, 116] s).2 w9 := hPn
  rw [← es7] at hPn
  have gs7 := put_len l0 [108, 101, 116] s
  rw [← es7] at gs7
  obtain ⟨gs7, gs7'⟩ := gs7
  (try simp only [List.length_cons, List.length_nil, lsum] at gs7 gs7')
  replace hG := nlt gs7 (Nat.add_le_add_right hG _)
  replace hG' := nlt gs7' (Nat.add_le_add_right hG' _)
  clear gs7 gs7'
  clear hP; have hP := hPn; clear hPn hEn
  refine rR 3 hf rfl fun a hf => ?_
  have s_lb := lead_now hL hE (j := 1) rfl
  have s_hB3 := hB3
  refine rD (fun x => x.cell? ⟨b2, 2, none⟩ = w9.cell? ⟨b2, 2, none⟩ ∧ x.cell? ⟨lb, lo + 1, none⟩ = w9.cell? ⟨lb, lo + 1, none⟩ ∧ x.cell? ⟨b2, 1, none⟩ = w9.cell? ⟨b2, 1, none⟩) 8 8 rfl (by kernel_rfl) (by kernel_rfl) ?_
  intro w10 hx11 hsel
  replace hB3 := hB3.c0 hx11
  replace hP := hP.chg0 hx11
  replace hE := hE.t0 hx11
  have hS0 : w10.cell? ⟨b2, 2, none⟩ = w9.cell? ⟨b2, 2, none⟩ ∧ w10.cell? ⟨lb, lo + 1, none⟩ = w9.cell? ⟨lb, lo + 1, none⟩ ∧ w10.cell? ⟨b2, 1, none⟩ = w9.cell? ⟨b2, 1, none⟩ := ⟨(hB3.cell 2).trans (s_hB3.cell 2).symm, ((lead_now hL hE (j := 1) rfl).trans s_lb.symm), (hB3.cell 1).trans (s_hB3.cell 1).symm⟩
  refine dR [0, 1] hsel (by kernel_rfl) hf rfl rfl (.inl hS0) fun a hf => dL 2 rfl rfl hsel (by kernel_rfl) hf rfl hS0 (fun x hS => ex_load hf rfl (by kernel_rfl) (hS.1.trans ((s_hB3.cell 2).trans rfl))) fun a hf => dV 3 rfl rfl hsel (by kernel_rfl) hf rfl (.inl hS0) (fun x => ex_index (sz := 1) (k := 1) (r := lo + 1) hf Try.underlying23 (by kernel_rfl) rfl rfl rfl (by simp) rfl) fun a hf => dL 4 rfl rfl hsel (by kernel_rfl) hf rfl hS0 (fun x hS => ex_load hf rfl (by kernel_rfl) (hS.2.1.trans s_lb)) fun a hf => dR [5] hsel (by kernel_rfl) hf rfl rfl (.inl hS0) fun a hf => dL 6 rfl rfl hsel (by kernel_rfl) hf rfl hS0 (fun x hS => ex_load hf rfl (by kernel_rfl) (hS.2.2.trans ((s_hB3.cell 1).trans rfl))) fun a hf => dl_c 7 (by kernel_rfl) rfl hf rfl rfl rfl (by kernel_rfl) (putL (lead := l1) (tok := x) hP (by (try simp only [putP, List.length_append, List.length_cons, List.length_nil]); omega) (by (try simp only [putP, List.length_append, List.length_cons, List.length_nil]); omega) hE.now) ?_
  rintro _ w14 ⟨rfl, hPn, hEn⟩
  refine ⟨_, rfl, fun a hf => ?_⟩
  have hx13 := hEn.chg
  replace hB3 := hB3.chg hx13 (nm_blk hB3 rfl (Ne.symm ne_b_b2))
  replace hE := hE.trans hx13 (fun _ h => .inl h)
  obtain ⟨s12, es12⟩ : ∃ z, z = putP l1 x s7 := ⟨_, rfl⟩
  replace hPn : Pr Bs b (putP l1 x s7).1 (putP l1 x s7).2 w14 := hPn
  rw [← es12] at hPn
  have gs12 := put_len l1 x s7
  rw [← es12] at gs12
  obtain ⟨gs12, gs12'⟩ := gs12
  (try simp only [List.length_cons, List.length_nil, lsum] at gs12 gs12')
  replace hG := nlt gs12 (Nat.add_le_add_right hG _)
  replace hG' := nlt gs12' (Nat.add_le_add_right hG' _)
  clear gs12 gs12'
  clear hP; have hP := hPn; clear hPn hEn
  clear hS0
  have hS0 : w14.cell? ⟨b2, 2, none⟩ = w9.cell? ⟨b2, 2, none⟩ ∧ w14.cell? ⟨lb, lo + 1, none⟩ = w9.cell? ⟨lb, lo + 1, none⟩ ∧ w14.cell? ⟨b2, 1, none⟩ = w9.cell? ⟨b2, 1, none⟩ := ⟨(hB3.cell 2).trans (s_hB3.cell 2).symm, ((lead_now hL hE (j := 1) rfl).trans s_lb.symm), (hB3.cell 1).trans (s_hB3.cell 1).symm⟩
  refine ⟨.inl hS0, ?_⟩
  refine rN (by kernel_rfl) ?_
  clear hS0 hsel
  refine rR 5 hf rfl fun a hf => rV hf rfl (ex_loadB hf rfl (by kernel_rfl) hB3 rfl) fun a hf => rV hf rfl (ex_index (sz := 1) (k := 2) (r := lo + 2) hf Try.underlying23 (by kernel_rfl) rfl rfl rfl (by simp) rfl) fun a hf => rV hf rfl (ex_load hf rfl (by kernel_rfl) (lead_now hL hE (j := 2) rfl)) fun a hf => rC hf rfl rfl (by kernel_rfl) (putL (lead := l2) (tok := [61]) hP (by (try simp only [putP, List.length_append, List.length_cons, List.length_nil]); omega) (by (try simp only [putP, List.length_append, List.length_cons, List.length_nil]); omega) hE.now) ?_
  rintro _ w17 ⟨rfl, hPn, hEn⟩
  refine ⟨_, rfl, fun a hf => ?_⟩
  have hx16 := hEn.chg
  replace hB3 := hB3.chg hx16 (nm_blk hB3 rfl (Ne.symm ne_b_b2))
  replace hE := hE.trans hx16 (fun _ h => .inl h)
  obtain ⟨s15, es15⟩ : ∃ z, z = putP l2 [61] s12 := ⟨_, rfl⟩
  replace hPn : Pr Bs b (putP l2 [61] s12).1 (putP l2 [61] s12).2 w17 := hPn
  rw [← es15] at hPn
  have gs15 := put_len l2 [61] s12
  rw [← es15] at gs15
  obtain ⟨gs15, gs15'⟩ := gs15
  (try simp only [List.length_cons, List.length_nil, lsum] at gs15 gs15')
  replace hG := nlt gs15 (Nat.add_le_add_right hG _)
  replace hG' := nlt gs15' (Nat.add_le_add_right hG' _)
  clear gs15 gs15'
  clear hP; have hP := hPn; clear hPn hEn
  refine rR 6 hf rfl fun a hf => rV hf rfl (ex_loadB hf rfl (by kernel_rfl) hB3 rfl) fun a hf => rV hf rfl (ex_index (sz := 4) (k := 0) (r := ko) hf Try.underlying24 (by kernel_rfl) rfl rfl rfl (by simp) rfl) fun a hf => ?_
  obtain ⟨d0, d1, d2, d3, hT, hK4⟩ := kid_now hK hR hE (i := 0) (t := k0) rfl
  have on_T := hT.one
  refine rV hf rfl (ex_loadN (cs := [d0, d1, d2, d3]) (m := 4) hf rfl (by kernel_rfl) rfl hK4) fun a hf => rC hf rfl rfl (by kernel_rfl) (ih k0 _ Bs b s15 d0 d1 d2 d3 (hks _ (by simp)).1 (hks _ (by simp)).2.1 (hks _ (by simp)).2.2 (by (try simp only [putP, List.length_append, List.length_cons, List.length_nil]); omega) (by (try simp only [putP, List.length_append, List.length_cons, List.length_nil]); omega) hP hT hE.now) ?_
  rintro _ w20 ⟨rfl, hPn, hEn⟩
  refine ⟨_, rfl, fun a hf => ?_⟩
  have hx19 := hEn.chg
  replace hB3 := hB3.chg hx19 (nm_blk hB3 rfl (Ne.symm ne_b_b2))
  replace hE := hE.trans hx19 (fun _ h => .inl h)
  obtain ⟨s18, es18⟩ : ∃ z, z = treeP k0 s15 := ⟨_, rfl⟩
  replace hPn : Pr Bs b (treeP k0 s15).1 (treeP k0 s15).2 w20 := hPn
  rw [← es18] at hPn
  have gs18 := tree_len (t := k0) (hks _ (by simp)).2.2 s15
  rw [← es18] at gs18
  obtain ⟨gs18, gs18'⟩ := gs18
  (try simp only [List.length_cons, List.length_nil, lsum] at gs18 gs18')
  replace hG := nlt gs18 (Nat.add_le_add_right hG _)
  replace hG' := nlt gs18' (Nat.add_le_add_right hG' _)
  clear gs18 gs18'
  clear hP; have hP := hPn; clear hPn hEn
  refine rR 6 hf rfl fun a hf => rV hf rfl (ex_loadB hf rfl (by kernel_rfl) hB3 rfl) fun a hf => rV hf rfl (ex_index (sz := 1) (k := 3) (r := lo + 3) hf Try.underlying23 (by kernel_rfl) rfl rfl rfl (by simp) rfl) fun a hf => rV hf rfl (ex_load hf rfl (by kernel_rfl) (lead_now hL hE (j := 3) rfl)) fun a hf => rC hf rfl rfl (by kernel_rfl) (putL (lead := l3) (tok := [105, 110]) hP (by (try simp only [putP, List.length_append, List.length_cons, List.length_nil]); omega) (by (try simp only [putP, List.length_append, List.length_cons, List.length_nil]); omega) hE.now) ?_
  rintro _ w23 ⟨rfl, hPn, hEn⟩
  refine ⟨_, rfl, fun a hf => ?_⟩
  have hx22 := hEn.chg
  replace hB3 := hB3.chg hx22 (nm_blk hB3 rfl (Ne.symm ne_b_b2))
  replace hE := hE.trans hx22 (fun _ h => .inl h)
  obtain ⟨s21, es21⟩ : ∃ z, z = putP l3 [105, 110] s18 := ⟨_, rfl⟩
  replace hPn : Pr Bs b (putP l3 [105, 110] s18).1 (putP l3 [105, 110] s18).2 w23 := hPn
  rw [← es21] at hPn
  have gs21 := put_len l3 [105, 110] s18
  rw [← es21] at gs21
  obtain ⟨gs21, gs21'⟩ := gs21
  (try simp only [List.length_cons, List.length_nil, lsum] at gs21 gs21')
  replace hG := nlt gs21 (Nat.add_le_add_right hG _)
  replace hG' := nlt gs21' (Nat.add_le_add_right hG' _)
  clear gs21 gs21'
  clear hP; have hP := hPn; clear hPn hEn
  refine rR 5 hf rfl fun a hf => rV hf rfl (ex_loadB hf rfl (by kernel_rfl) hB3 rfl) fun a hf => rV hf rfl (ex_index (sz := 4) (k := 1) (r := ko + 4) hf Try.underlying24 (by kernel_rfl) rfl rfl rfl (by simp) rfl) fun a hf => ?_
  obtain ⟨d0, d1, d2, d3, hT, hK4⟩ := kid_now hK hR hE (i := 1) (t := k1) rfl
  have on_T := hT.one
  refine rV hf rfl (ex_loadN (cs := [d0, d1, d2, d3]) (m := 4) hf rfl (by kernel_rfl) rfl hK4) fun a hf => rC hf rfl rfl (by kernel_rfl) (ih k1 _ Bs b s21 d0 d1 d2 d3 (hks _ (by simp)).1 (hks _ (by simp)).2.1 (hks _ (by simp)).2.2 (by (try simp only [putP, List.length_append, List.length_cons, List.length_nil]); omega) (by (try simp only [putP, List.length_append, List.length_cons, List.length_nil]); omega) hP hT hE.now) ?_
  rintro _ w26 ⟨rfl, hPn, hEn⟩
  refine ⟨_, rfl, fun a hf => ?_⟩
  have hx25 := hEn.chg
  replace hB3 := hB3.chg hx25 (nm_blk hB3 rfl (Ne.symm ne_b_b2))
  replace hE := hE.trans hx25 (fun _ h => .inl h)
  obtain ⟨s24, es24⟩ : ∃ z, z = treeP k1 s21 := ⟨_, rfl⟩
  replace hPn : Pr Bs b (treeP k1 s21).1 (treeP k1 s21).2 w26 := hPn
  rw [← es24] at hPn
  have gs24 := tree_len (t := k1) (hks _ (by simp)).2.2 s21
  rw [← es24] at gs24
  obtain ⟨gs24, gs24'⟩ := gs24
  (try simp only [List.length_cons, List.length_nil, lsum] at gs24 gs24')
  replace hG := nlt gs24 (Nat.add_le_add_right hG _)
  replace hG' := nlt gs24' (Nat.add_le_add_right hG' _)
  clear gs24 gs24'
  clear hP; have hP := hPn; clear hPn hEn
  refine rR 2 hf rfl fun a hf => ?_
  have eq : treeP (.node 20 x [l0, l1, l2, l3] [k0, k1]) s = s24 := by subst es24; subst es21; subst es18; subst es15; subst es12; subst es7; rfl
  rw [eq]
  exact rF (rs := []) hf rfl rfl ⟨rfl, hP, hE⟩
theorem t21 {N : Nat} (ih : TreeOk N) {w : World} {Bs b : Nat} {s : WS} {x : List UInt8} {l0 : List UInt8} {k0 k1 : Tree} {cs : List Value} {A B : Option Addr} {m n : Nat} (hks : ∀ t, t ∈ [k0, k1] → tsize t ≤ N ∧ shapedT t = true ∧ leadedT t = true)
    (hl1 : s.2.length + 100 * (x.length + lsum [l0] + kbulk [k0, k1] + 1) ≤ 1000000000000) (hl2 : s.1.length + 100 * (x.length + lsum [l0] + kbulk [k0, k1] + 1) ≤ 1000000000000) (hP : Pr Bs b s.1 s.2 w) (hL : RowIn (fun b => b < Bs) w 1 A [l0].length ([l0].map strV)) (hn : [k0, k1].length ≤ n) (hn2 : n ≤ maxLen) (hK : KidsAre (fun b => b < Bs) w [k0, k1] cs) (hR : RowIn (fun b => b < Bs) w 4 B [k0, k1].length cs) (hBw : Bs ≤ w.heap.size) :
    Calls Try.prog 61 [.pointer (some ⟨b, 0, none⟩), .agg #[.int .i64 21, strV x, .slice A [l0].length m, .slice B [k0, k1].length n]].toArray w fun e w' => e = .returned (.tuple #[]) ∧ Pr Bs b (treeP (.node 21 x [l0] [k0, k1]) s).1 (treeP (.node 21 x [l0] [k0, k1]) s).2 w' ∧ Prn Bs b w w' := by
  simp only [lsum, kbulk] at hl1 hl2
  have hE := Prn.refl (b := b) hBw
  have hG : s.2.length ≤ s.2.length := Nat.le_refl _
  have hG' : s.1.length ≤ s.1.length := Nat.le_refl _
  obtain ⟨lb, lo, rfl, _, hlb, _⟩ := hL.2 (by simp)
  obtain ⟨kb, ko, rfl, _, hkb, _⟩ := hR.2 (by simp)
  refine rE 216 Try.func61 rfl rfl rfl ?_
  intro a hf
  refine rR 2 hf rfl fun a hf => ?_
  obtain ⟨w1, b2, he, hB3, hx4, eb5, lb6⟩ := ef_box (P := Try.prog) (t := 26) (x := (.tmp 1)) hf rfl rfl w 0
  refine rV hf rfl he fun a hf => ?_
  have ge_b2 := Prn.ge_new hE eb5
  have ne_b_b2 : b ≠ b2 := ne_new hP.lt eb5
  replace hP := hP.chg0 hx4
  replace hE := hE.t0 hx4
  clear eb5 lb6
  refine rR 5 hf rfl fun a hf => rV hf rfl (ex_loadB hf rfl (by kernel_rfl) hB3 rfl) fun a hf => rR 84 hf rfl fun a hf => rV hf rfl (ex_loadB hf rfl (by kernel_rfl) hB3 rfl) fun a hf => rV hf rfl (ex_index (sz := 4) (k := 0) (r := ko) hf Try.underlying24 (by kernel_rfl) rfl rfl rfl (by simp) rfl) fun a hf => ?_
  obtain ⟨d0, d1, d2, d3, hT, hK4⟩ := kid_now hK hR hE (i := 0) (t := k0) rfl
  have on_T := hT.one
  refine rV hf rfl (ex_loadN (cs := [d0, d1, d2, d3]) (m := 4) hf rfl (by kernel_rfl) rfl hK4) fun a hf => rC hf rfl rfl (by kernel_rfl) (ih k0 _ Bs b s d0 d1 d2 d3 (hks _ (by simp)).1 (hks _ (by simp)).2.1 (hks _ (by simp)).2.2 (by (try simp only [putP, List.length_append, List.length_cons, List.length_nil]); omega) (by (try simp only [putP, List.length_append, List.length_cons, List.length_nil]); omega) hP hT hE.now) ?_
  rintro _ w9 ⟨rfl, hPn, hEn⟩
  refine ⟨_, rfl, fun a hf => ?_⟩
  have hx8 := hEn.chg
  replace hB3 := hB3.chg hx8 (nm_blk hB3 rfl (Ne.symm ne_b_b2))
  replace hE := hE.trans hx8 (fun _ h => .inl h)
  obtain ⟨s7, es7⟩ : ∃ z, z = treeP k0 s := ⟨_, rfl⟩
  replace hPn : Pr Bs b (treeP k0 s).1 (treeP k0 s).2 w9 := hPn
  rw [← es7] at hPn
  have gs7 := tree_len (t := k0) (hks _ (by simp)).2.2 s
  rw [← es7] at gs7
  obtain ⟨gs7, gs7'⟩ := gs7
  (try simp only [List.length_cons, List.length_nil, lsum] at gs7 gs7')
  replace hG := nlt gs7 (Nat.add_le_add_right hG _)
  replace hG' := nlt gs7' (Nat.add_le_add_right hG' _)
  clear gs7 gs7'
  clear hP; have hP := hPn; clear hPn hEn
  refine rR 3 hf rfl fun a hf => ?_
  have s_lb := lead_now hL hE (j := 0) rfl
  have s_hB3 := hB3
  refine rD (fun x => x.cell? ⟨b2, 2, none⟩ = w9.cell? ⟨b2, 2, none⟩ ∧ x.cell? ⟨lb, lo, none⟩ = w9.cell? ⟨lb, lo, none⟩ ∧ x.cell? ⟨b2, 1, none⟩ = w9.cell? ⟨b2, 1, none⟩) 8 8 rfl (by kernel_rfl) (by kernel_rfl) ?_
  intro w10 hx11 hsel
  replace hB3 := hB3.c0 hx11
  replace hP := hP.chg0 hx11
  replace hE := hE.t0 hx11
  have hS0 : w10.cell? ⟨b2, 2, none⟩ = w9.cell? ⟨b2, 2, none⟩ ∧ w10.cell? ⟨lb, lo, none⟩ = w9.cell? ⟨lb, lo, none⟩ ∧ w10.cell? ⟨b2, 1, none⟩ = w9.cell? ⟨b2, 1, none⟩ := ⟨(hB3.cell 2).trans (s_hB3.cell 2).symm, ((lead_now hL hE (j := 0) rfl).trans s_lb.symm), (hB3.cell 1).trans (s_hB3.cell 1).symm⟩
  refine dR [0, 1] hsel (by kernel_rfl) hf rfl rfl (.inl hS0) fun a hf => dL 2 rfl rfl hsel (by kernel_rfl) hf rfl hS0 (fun x hS => ex_load hf rfl (by kernel_rfl) (hS.1.trans ((s_hB3.cell 2).trans rfl))) fun a hf => dV 3 rfl rfl hsel (by kernel_rfl) hf rfl (.inl hS0) (fun x => ex_index (sz := 1) (k := 0) (r := lo) hf Try.underlying23 (by kernel_rfl) rfl rfl rfl (by simp) rfl) fun a hf => dL 4 rfl rfl hsel (by kernel_rfl) hf rfl hS0 (fun x hS => ex_load hf rfl (by kernel_rfl) (hS.2.1.trans s_lb)) fun a hf => dR [5] hsel (by kernel_rfl) hf rfl rfl (.inl hS0) fun a hf => dL 6 rfl rfl hsel (by kernel_rfl) hf rfl hS0 (fun x hS => ex_load hf rfl (by kernel_rfl) (hS.2.2.trans ((s_hB3.cell 1).trans rfl))) fun a hf => dl_c 7 (by kernel_rfl) rfl hf rfl rfl rfl (by kernel_rfl) (putL (lead := l0) (tok := x) hP (by (try simp only [putP, List.length_append, List.length_cons, List.length_nil]); omega) (by (try simp only [putP, List.length_append, List.length_cons, List.length_nil]); omega) hE.now) ?_
  rintro _ w14 ⟨rfl, hPn, hEn⟩
  refine ⟨_, rfl, fun a hf => ?_⟩
  have hx13 := hEn.chg
  replace hB3 := hB3.chg hx13 (nm_blk hB3 rfl (Ne.symm ne_b_b2))
  replace hE := hE.trans hx13 (fun _ h => .inl h)
  obtain ⟨s12, es12⟩ : ∃ z, z = putP l0 x s7 := ⟨_, rfl⟩
  replace hPn : Pr Bs b (putP l0 x s7).1 (putP l0 x s7).2 w14 := hPn
  rw [← es12] at hPn
  have gs12 := put_len l0 x s7
  rw [← es12] at gs12
  obtain ⟨gs12, gs12'⟩ := gs12
  (try simp only [List.length_cons, List.length_nil, lsum] at gs12 gs12')
  replace hG := nlt gs12 (Nat.add_le_add_right hG _)
  replace hG' := nlt gs12' (Nat.add_le_add_right hG' _)
  clear gs12 gs12'
  clear hP; have hP := hPn; clear hPn hEn
  clear hS0
  have hS0 : w14.cell? ⟨b2, 2, none⟩ = w9.cell? ⟨b2, 2, none⟩ ∧ w14.cell? ⟨lb, lo, none⟩ = w9.cell? ⟨lb, lo, none⟩ ∧ w14.cell? ⟨b2, 1, none⟩ = w9.cell? ⟨b2, 1, none⟩ := ⟨(hB3.cell 2).trans (s_hB3.cell 2).symm, ((lead_now hL hE (j := 0) rfl).trans s_lb.symm), (hB3.cell 1).trans (s_hB3.cell 1).symm⟩
  refine ⟨.inl hS0, ?_⟩
  refine rN (by kernel_rfl) ?_
  clear hS0 hsel
  refine rR 4 hf rfl fun a hf => rV hf rfl (ex_loadB hf rfl (by kernel_rfl) hB3 rfl) fun a hf => rV hf rfl (ex_index (sz := 4) (k := 1) (r := ko + 4) hf Try.underlying24 (by kernel_rfl) rfl rfl rfl (by simp) rfl) fun a hf => ?_
  obtain ⟨d0, d1, d2, d3, hT, hK4⟩ := kid_now hK hR hE (i := 1) (t := k1) rfl
  have on_T := hT.one
  refine rV hf rfl (ex_loadN (cs := [d0, d1, d2, d3]) (m := 4) hf rfl (by kernel_rfl) rfl hK4) fun a hf => rC hf rfl rfl (by kernel_rfl) (ih k1 _ Bs b s12 d0 d1 d2 d3 (hks _ (by simp)).1 (hks _ (by simp)).2.1 (hks _ (by simp)).2.2 (by (try simp only [putP, List.length_append, List.length_cons, List.length_nil]); omega) (by (try simp only [putP, List.length_append, List.length_cons, List.length_nil]); omega) hP hT hE.now) ?_
  rintro _ w17 ⟨rfl, hPn, hEn⟩
  refine ⟨_, rfl, fun a hf => ?_⟩
  have hx16 := hEn.chg
  replace hB3 := hB3.chg hx16 (nm_blk hB3 rfl (Ne.symm ne_b_b2))
  replace hE := hE.trans hx16 (fun _ h => .inl h)
  obtain ⟨s15, es15⟩ : ∃ z, z = treeP k1 s12 := ⟨_, rfl⟩
  replace hPn : Pr Bs b (treeP k1 s12).1 (treeP k1 s12).2 w17 := hPn
  rw [← es15] at hPn
  have gs15 := tree_len (t := k1) (hks _ (by simp)).2.2 s12
  rw [← es15] at gs15
  obtain ⟨gs15, gs15'⟩ := gs15
  (try simp only [List.length_cons, List.length_nil, lsum] at gs15 gs15')
  replace hG := nlt gs15 (Nat.add_le_add_right hG _)
  replace hG' := nlt gs15' (Nat.add_le_add_right hG' _)
  clear gs15 gs15'
  clear hP; have hP := hPn; clear hPn hEn
  refine rR 2 hf rfl fun a hf => ?_
  have eq : treeP (.node 21 x [l0] [k0, k1]) s = s15 := by subst es15; subst es12; subst es7; rfl
  rw [eq]
  exact rF (rs := []) hf rfl rfl ⟨rfl, hP, hE⟩
theorem t22 {N : Nat} (ih : TreeOk N) {w : World} {Bs b : Nat} {s : WS} {x : List UInt8} {l0 l1 : List UInt8} {k0 : Tree} {cs : List Value} {A B : Option Addr} {m n : Nat} (hks : ∀ t, t ∈ [k0] → tsize t ≤ N ∧ shapedT t = true ∧ leadedT t = true)
    (hl1 : s.2.length + 100 * (x.length + lsum [l0, l1] + kbulk [k0] + 1) ≤ 1000000000000) (hl2 : s.1.length + 100 * (x.length + lsum [l0, l1] + kbulk [k0] + 1) ≤ 1000000000000) (hP : Pr Bs b s.1 s.2 w) (hL : RowIn (fun b => b < Bs) w 1 A [l0, l1].length ([l0, l1].map strV)) (hn : [k0].length ≤ n) (hn2 : n ≤ maxLen) (hK : KidsAre (fun b => b < Bs) w [k0] cs) (hR : RowIn (fun b => b < Bs) w 4 B [k0].length cs) (hBw : Bs ≤ w.heap.size) :
    Calls Try.prog 61 [.pointer (some ⟨b, 0, none⟩), .agg #[.int .i64 22, strV x, .slice A [l0, l1].length m, .slice B [k0].length n]].toArray w fun e w' => e = .returned (.tuple #[]) ∧ Pr Bs b (treeP (.node 22 x [l0, l1] [k0]) s).1 (treeP (.node 22 x [l0, l1] [k0]) s).2 w' ∧ Prn Bs b w w' := by
  simp only [lsum, kbulk] at hl1 hl2
  have hE := Prn.refl (b := b) hBw
  have hG : s.2.length ≤ s.2.length := Nat.le_refl _
  have hG' : s.1.length ≤ s.1.length := Nat.le_refl _
  obtain ⟨lb, lo, rfl, _, hlb, _⟩ := hL.2 (by simp)
  obtain ⟨kb, ko, rfl, _, hkb, _⟩ := hR.2 (by simp)
  refine rE 216 Try.func61 rfl rfl rfl ?_
  intro a hf
  refine rR 2 hf rfl fun a hf => ?_
  obtain ⟨w1, b2, he, hB3, hx4, eb5, lb6⟩ := ef_box (P := Try.prog) (t := 26) (x := (.tmp 1)) hf rfl rfl w 0
  refine rV hf rfl he fun a hf => ?_
  have ge_b2 := Prn.ge_new hE eb5
  have ne_b_b2 : b ≠ b2 := ne_new hP.lt eb5
  replace hP := hP.chg0 hx4
  replace hE := hE.t0 hx4
  clear eb5 lb6
  refine rR 5 hf rfl fun a hf => rV hf rfl (ex_loadB hf rfl (by kernel_rfl) hB3 rfl) fun a hf => rR 91 hf rfl fun a hf => rV hf rfl (ex_loadB hf rfl (by kernel_rfl) hB3 rfl) fun a hf => rV hf rfl (ex_index (sz := 1) (k := 0) (r := lo) hf Try.underlying23 (by kernel_rfl) rfl rfl rfl (by simp) rfl) fun a hf => rV hf rfl (ex_load hf rfl (by kernel_rfl) (lead_now hL hE (j := 0) rfl)) fun a hf => rC hf rfl rfl (by kernel_rfl) (putL (lead := l0) (tok := [40]) hP (by (try simp only [putP, List.length_append, List.length_cons, List.length_nil]); omega) (by (try simp only [putP, List.length_append, List.length_cons, List.length_nil]); omega) hE.now) ?_
  rintro _ w9 ⟨rfl, hPn, hEn⟩
  refine ⟨_, rfl, fun a hf => ?_⟩
  have hx8 := hEn.chg
  replace hB3 := hB3.chg hx8 (nm_blk hB3 rfl (Ne.symm ne_b_b2))
  replace hE := hE.trans hx8 (fun _ h => .inl h)
  obtain ⟨s7, es7⟩ : ∃ z, z = putP l0 [40] s := ⟨_, rfl⟩
  replace hPn : Pr Bs b (putP l0 [40] s).1 (putP l0 [40] s).2 w9 := hPn
  rw [← es7] at hPn
  have gs7 := put_len l0 [40] s
  rw [← es7] at gs7
  obtain ⟨gs7, gs7'⟩ := gs7
  (try simp only [List.length_cons, List.length_nil, lsum] at gs7 gs7')
  replace hG := nlt gs7 (Nat.add_le_add_right hG _)
  replace hG' := nlt gs7' (Nat.add_le_add_right hG' _)
  clear gs7 gs7'
  clear hP; have hP := hPn; clear hPn hEn
  refine rR 6 hf rfl fun a hf => rV hf rfl (ex_loadB hf rfl (by kernel_rfl) hB3 rfl) fun a hf => rV hf rfl (ex_index (sz := 4) (k := 0) (r := ko) hf Try.underlying24 (by kernel_rfl) rfl rfl rfl (by simp) rfl) fun a hf => ?_
  obtain ⟨d0, d1, d2, d3, hT, hK4⟩ := kid_now hK hR hE (i := 0) (t := k0) rfl
  have on_T := hT.one
  refine rV hf rfl (ex_loadN (cs := [d0, d1, d2, d3]) (m := 4) hf rfl (by kernel_rfl) rfl hK4) fun a hf => rC hf rfl rfl (by kernel_rfl) (ih k0 _ Bs b s7 d0 d1 d2 d3 (hks _ (by simp)).1 (hks _ (by simp)).2.1 (hks _ (by simp)).2.2 (by (try simp only [putP, List.length_append, List.length_cons, List.length_nil]); omega) (by (try simp only [putP, List.length_append, List.length_cons, List.length_nil]); omega) hP hT hE.now) ?_
  rintro _ w12 ⟨rfl, hPn, hEn⟩
  refine ⟨_, rfl, fun a hf => ?_⟩
  have hx11 := hEn.chg
  replace hB3 := hB3.chg hx11 (nm_blk hB3 rfl (Ne.symm ne_b_b2))
  replace hE := hE.trans hx11 (fun _ h => .inl h)
  obtain ⟨s10, es10⟩ : ∃ z, z = treeP k0 s7 := ⟨_, rfl⟩
  replace hPn : Pr Bs b (treeP k0 s7).1 (treeP k0 s7).2 w12 := hPn
  rw [← es10] at hPn
  have gs10 := tree_len (t := k0) (hks _ (by simp)).2.2 s7
  rw [← es10] at gs10
  obtain ⟨gs10, gs10'⟩ := gs10
  (try simp only [List.length_cons, List.length_nil, lsum] at gs10 gs10')
  replace hG := nlt gs10 (Nat.add_le_add_right hG _)
  replace hG' := nlt gs10' (Nat.add_le_add_right hG' _)
  clear gs10 gs10'
  clear hP; have hP := hPn; clear hPn hEn
  refine rR 5 hf rfl fun a hf => rV hf rfl (ex_loadB hf rfl (by kernel_rfl) hB3 rfl) fun a hf => rV hf rfl (ex_index (sz := 1) (k := 1) (r := lo + 1) hf Try.underlying23 (by kernel_rfl) rfl rfl rfl (by simp) rfl) fun a hf => rV hf rfl (ex_load hf rfl (by kernel_rfl) (lead_now hL hE (j := 1) rfl)) fun a hf => rC hf rfl rfl (by kernel_rfl) (putL (lead := l1) (tok := [41]) hP (by (try simp only [putP, List.length_append, List.length_cons, List.length_nil]); omega) (by (try simp only [putP, List.length_append, List.length_cons, List.length_nil]); omega) hE.now) ?_
  rintro _ w15 ⟨rfl, hPn, hEn⟩
  refine ⟨_, rfl, fun a hf => ?_⟩
  have hx14 := hEn.chg
  replace hB3 := hB3.chg hx14 (nm_blk hB3 rfl (Ne.symm ne_b_b2))
  replace hE := hE.trans hx14 (fun _ h => .inl h)
  obtain ⟨s13, es13⟩ : ∃ z, z = putP l1 [41] s10 := ⟨_, rfl⟩
  replace hPn : Pr Bs b (putP l1 [41] s10).1 (putP l1 [41] s10).2 w15 := hPn
  rw [← es13] at hPn
  have gs13 := put_len l1 [41] s10
  rw [← es13] at gs13
  obtain ⟨gs13, gs13'⟩ := gs13
  (try simp only [List.length_cons, List.length_nil, lsum] at gs13 gs13')
  replace hG := nlt gs13 (Nat.add_le_add_right hG _)
  replace hG' := nlt gs13' (Nat.add_le_add_right hG' _)
  clear gs13 gs13'
  clear hP; have hP := hPn; clear hPn hEn
  refine rR 2 hf rfl fun a hf => ?_
  have eq : treeP (.node 22 x [l0, l1] [k0]) s = s13 := by subst es13; subst es10; subst es7; rfl
  rw [eq]
  exact rF (rs := []) hf rfl rfl ⟨rfl, hP, hE⟩
theorem d3 {N : Nat} (ih : TreeOk N) {w : World} {Bs b : Nat} {s : WS} {x : List UInt8} {l0 l1 l2 : List UInt8} {k0 : Tree} {cs : List Value} {A B : Option Addr} {m n : Nat} (hks : ∀ t, t ∈ [k0] → tsize t ≤ N ∧ shapedT t = true ∧ leadedT t = true)
    (hl1 : s.2.length + 100 * (x.length + lsum [l0, l1, l2] + kbulk [k0] + 1) ≤ 1000000000000) (hl2 : s.1.length + 100 * (x.length + lsum [l0, l1, l2] + kbulk [k0] + 1) ≤ 1000000000000) (hP : Pr Bs b s.1 s.2 w) (hL : RowIn (fun b => b < Bs) w 1 A [l0, l1, l2].length ([l0, l1, l2].map strV)) (hn : [k0].length ≤ n) (hn2 : n ≤ maxLen) (hK : KidsAre (fun b => b < Bs) w [k0] cs) (hR : RowIn (fun b => b < Bs) w 4 B [k0].length cs) (hBw : Bs ≤ w.heap.size) :
    Calls Try.prog 91 [.pointer (some ⟨b, 0, none⟩), .agg #[.int .i64 3, strV x, .slice A [l0, l1, l2].length m, .slice B [k0].length n]].toArray w fun e w' => e = .returned (.tuple #[]) ∧ Pr Bs b (treeP (.node 3 x [l0, l1, l2] [k0]) s).1 (treeP (.node 3 x [l0, l1, l2] [k0]) s).2 w' ∧ Prn Bs b w w' := by
  simp only [lsum, kbulk] at hl1 hl2
  have hE := Prn.refl (b := b) hBw
  have hG : s.2.length ≤ s.2.length := Nat.le_refl _
  have hG' : s.1.length ≤ s.1.length := Nat.le_refl _
  obtain ⟨lb, lo, rfl, _, hlb, _⟩ := hL.2 (by simp)
  obtain ⟨kb, ko, rfl, _, hkb, _⟩ := hR.2 (by simp)
  refine rE 161 Try.func91 rfl rfl rfl ?_
  intro a hf
  refine rR 2 hf rfl fun a hf => ?_
  obtain ⟨w1, b2, he, hB3, hx4, eb5, lb6⟩ := ef_box (P := Try.prog) (t := 26) (x := (.tmp 1)) hf rfl rfl w 0
  refine rV hf rfl he fun a hf => ?_
  have ge_b2 := Prn.ge_new hE eb5
  have ne_b_b2 : b ≠ b2 := ne_new hP.lt eb5
  replace hP := hP.chg0 hx4
  replace hE := hE.t0 hx4
  clear eb5 lb6
  refine rR 5 hf rfl fun a hf => rV hf rfl (ex_loadB hf rfl (by kernel_rfl) hB3 rfl) fun a hf => rR 28 hf rfl fun a hf => rV hf rfl (ex_loadB hf rfl (by kernel_rfl) hB3 rfl) fun a hf => rV hf rfl (ex_index (sz := 1) (k := 0) (r := lo) hf Try.underlying23 (by kernel_rfl) rfl rfl rfl (by simp) rfl) fun a hf => rV hf rfl (ex_load hf rfl (by kernel_rfl) (lead_now hL hE (j := 0) rfl)) fun a hf => rC hf rfl rfl (by kernel_rfl) (putL (lead := l0) (tok := [116, 121, 112, 101]) hP (by (try simp only [putP, List.length_append, List.length_cons, List.length_nil]); omega) (by (try simp only [putP, List.length_append, List.length_cons, List.length_nil]); omega) hE.now) ?_
  rintro _ w9 ⟨rfl, hPn, hEn⟩
  refine ⟨_, rfl, fun a hf => ?_⟩
  have hx8 := hEn.chg
  replace hB3 := hB3.chg hx8 (nm_blk hB3 rfl (Ne.symm ne_b_b2))
  replace hE := hE.trans hx8 (fun _ h => .inl h)
  obtain ⟨s7, es7⟩ : ∃ z, z = putP l0 [116, 121, 112, 101] s := ⟨_, rfl⟩
  replace hPn : Pr Bs b (putP l0 [116, 121, 112, 101] s).1 (putP l0 [116, 121, 112, 101] s).2 w9 := hPn
  rw [← es7] at hPn
  have gs7 := put_len l0 [116, 121, 112, 101] s
  rw [← es7] at gs7
  obtain ⟨gs7, gs7'⟩ := gs7
  (try simp only [List.length_cons, List.length_nil, lsum] at gs7 gs7')
  replace hG := nlt gs7 (Nat.add_le_add_right hG _)
  replace hG' := nlt gs7' (Nat.add_le_add_right hG' _)
  clear gs7 gs7'
  clear hP; have hP := hPn; clear hPn hEn
  refine rR 3 hf rfl fun a hf => ?_
  have s_lb := lead_now hL hE (j := 1) rfl
  have s_hB3 := hB3
  refine rD (fun x => x.cell? ⟨b2, 2, none⟩ = w9.cell? ⟨b2, 2, none⟩ ∧ x.cell? ⟨lb, lo + 1, none⟩ = w9.cell? ⟨lb, lo + 1, none⟩ ∧ x.cell? ⟨b2, 1, none⟩ = w9.cell? ⟨b2, 1, none⟩) 8 8 rfl (by kernel_rfl) (by kernel_rfl) ?_
  intro w10 hx11 hsel
  replace hB3 := hB3.c0 hx11
  replace hP := hP.chg0 hx11
  replace hE := hE.t0 hx11
  have hS0 : w10.cell? ⟨b2, 2, none⟩ = w9.cell? ⟨b2, 2, none⟩ ∧ w10.cell? ⟨lb, lo + 1, none⟩ = w9.cell? ⟨lb, lo + 1, none⟩ ∧ w10.cell? ⟨b2, 1, none⟩ = w9.cell? ⟨b2, 1, none⟩ := ⟨(hB3.cell 2).trans (s_hB3.cell 2).symm, ((lead_now hL hE (j := 1) rfl).trans s_lb.symm), (hB3.cell 1).trans (s_hB3.cell 1).symm⟩
  refine dR [0, 1] hsel (by kernel_rfl) hf rfl rfl (.inl hS0) fun a hf => dL 2 rfl rfl hsel (by kernel_rfl) hf rfl hS0 (fun x hS => ex_load hf rfl (by kernel_rfl) (hS.1.trans ((s_hB3.cell 2).trans rfl))) fun a hf => dV 3 rfl rfl hsel (by kernel_rfl) hf rfl (.inl hS0) (fun x => ex_index (sz := 1) (k := 1) (r := lo + 1) hf Try.underlying23 (by kernel_rfl) rfl rfl rfl (by simp) rfl) fun a hf => dL 4 rfl rfl hsel (by kernel_rfl) hf rfl hS0 (fun x hS => ex_load hf rfl (by kernel_rfl) (hS.2.1.trans s_lb)) fun a hf => dR [5] hsel (by kernel_rfl) hf rfl rfl (.inl hS0) fun a hf => dL 6 rfl rfl hsel (by kernel_rfl) hf rfl hS0 (fun x hS => ex_load hf rfl (by kernel_rfl) (hS.2.2.trans ((s_hB3.cell 1).trans rfl))) fun a hf => dl_c 7 (by kernel_rfl) rfl hf rfl rfl rfl (by kernel_rfl) (putL (lead := l1) (tok := x) hP (by (try simp only [putP, List.length_append, List.length_cons, List.length_nil]); omega) (by (try simp only [putP, List.length_append, List.length_cons, List.length_nil]); omega) hE.now) ?_
  rintro _ w14 ⟨rfl, hPn, hEn⟩
  refine ⟨_, rfl, fun a hf => ?_⟩
  have hx13 := hEn.chg
  replace hB3 := hB3.chg hx13 (nm_blk hB3 rfl (Ne.symm ne_b_b2))
  replace hE := hE.trans hx13 (fun _ h => .inl h)
  obtain ⟨s12, es12⟩ : ∃ z, z = putP l1 x s7 := ⟨_, rfl⟩
  replace hPn : Pr Bs b (putP l1 x s7).1 (putP l1 x s7).2 w14 := hPn
  rw [← es12] at hPn
  have gs12 := put_len l1 x s7
  rw [← es12] at gs12
  obtain ⟨gs12, gs12'⟩ := gs12
  (try simp only [List.length_cons, List.length_nil, lsum] at gs12 gs12')
  replace hG := nlt gs12 (Nat.add_le_add_right hG _)
  replace hG' := nlt gs12' (Nat.add_le_add_right hG' _)
  clear gs12 gs12'
  clear hP; have hP := hPn; clear hPn hEn
  clear hS0
  have hS0 : w14.cell? ⟨b2, 2, none⟩ = w9.cell? ⟨b2, 2, none⟩ ∧ w14.cell? ⟨lb, lo + 1, none⟩ = w9.cell? ⟨lb, lo + 1, none⟩ ∧ w14.cell? ⟨b2, 1, none⟩ = w9.cell? ⟨b2, 1, none⟩ := ⟨(hB3.cell 2).trans (s_hB3.cell 2).symm, ((lead_now hL hE (j := 1) rfl).trans s_lb.symm), (hB3.cell 1).trans (s_hB3.cell 1).symm⟩
  refine ⟨.inl hS0, ?_⟩
  refine rN (by kernel_rfl) ?_
  clear hS0 hsel
  refine rR 5 hf rfl fun a hf => rV hf rfl (ex_loadB hf rfl (by kernel_rfl) hB3 rfl) fun a hf => rV hf rfl (ex_index (sz := 1) (k := 2) (r := lo + 2) hf Try.underlying23 (by kernel_rfl) rfl rfl rfl (by simp) rfl) fun a hf => rV hf rfl (ex_load hf rfl (by kernel_rfl) (lead_now hL hE (j := 2) rfl)) fun a hf => rC hf rfl rfl (by kernel_rfl) (putL (lead := l2) (tok := [61]) hP (by (try simp only [putP, List.length_append, List.length_cons, List.length_nil]); omega) (by (try simp only [putP, List.length_append, List.length_cons, List.length_nil]); omega) hE.now) ?_
  rintro _ w17 ⟨rfl, hPn, hEn⟩
  refine ⟨_, rfl, fun a hf => ?_⟩
  have hx16 := hEn.chg
  replace hB3 := hB3.chg hx16 (nm_blk hB3 rfl (Ne.symm ne_b_b2))
  replace hE := hE.trans hx16 (fun _ h => .inl h)
  obtain ⟨s15, es15⟩ : ∃ z, z = putP l2 [61] s12 := ⟨_, rfl⟩
  replace hPn : Pr Bs b (putP l2 [61] s12).1 (putP l2 [61] s12).2 w17 := hPn
  rw [← es15] at hPn
  have gs15 := put_len l2 [61] s12
  rw [← es15] at gs15
  obtain ⟨gs15, gs15'⟩ := gs15
  (try simp only [List.length_cons, List.length_nil, lsum] at gs15 gs15')
  replace hG := nlt gs15 (Nat.add_le_add_right hG _)
  replace hG' := nlt gs15' (Nat.add_le_add_right hG' _)
  clear gs15 gs15'
  clear hP; have hP := hPn; clear hPn hEn
  refine rR 5 hf rfl fun a hf => rV hf rfl (ex_loadB hf rfl (by kernel_rfl) hB3 rfl) fun a hf => rV hf rfl (ex_index (sz := 4) (k := 0) (r := ko) hf Try.underlying24 (by kernel_rfl) rfl rfl rfl (by simp) rfl) fun a hf => ?_
  obtain ⟨d0, d1, d2, d3, hT, hK4⟩ := kid_now hK hR hE (i := 0) (t := k0) rfl
  have on_T := hT.one
  refine rV hf rfl (ex_loadN (cs := [d0, d1, d2, d3]) (m := 4) hf rfl (by kernel_rfl) rfl hK4) fun a hf => rC hf rfl rfl (by kernel_rfl) (ih k0 _ Bs b s15 d0 d1 d2 d3 (hks _ (by simp)).1 (hks _ (by simp)).2.1 (hks _ (by simp)).2.2 (by (try simp only [putP, List.length_append, List.length_cons, List.length_nil]); omega) (by (try simp only [putP, List.length_append, List.length_cons, List.length_nil]); omega) hP hT hE.now) ?_
  rintro _ w20 ⟨rfl, hPn, hEn⟩
  refine ⟨_, rfl, fun a hf => ?_⟩
  have hx19 := hEn.chg
  replace hB3 := hB3.chg hx19 (nm_blk hB3 rfl (Ne.symm ne_b_b2))
  replace hE := hE.trans hx19 (fun _ h => .inl h)
  obtain ⟨s18, es18⟩ : ∃ z, z = treeP k0 s15 := ⟨_, rfl⟩
  replace hPn : Pr Bs b (treeP k0 s15).1 (treeP k0 s15).2 w20 := hPn
  rw [← es18] at hPn
  have gs18 := tree_len (t := k0) (hks _ (by simp)).2.2 s15
  rw [← es18] at gs18
  obtain ⟨gs18, gs18'⟩ := gs18
  (try simp only [List.length_cons, List.length_nil, lsum] at gs18 gs18')
  replace hG := nlt gs18 (Nat.add_le_add_right hG _)
  replace hG' := nlt gs18' (Nat.add_le_add_right hG' _)
  clear gs18 gs18'
  clear hP; have hP := hPn; clear hPn hEn
  refine rR 2 hf rfl fun a hf => ?_
  have eq : treeP (.node 3 x [l0, l1, l2] [k0]) s = s18 := by subst es18; subst es15; subst es12; subst es7; rfl
  rw [eq]
  exact rF (rs := []) hf rfl rfl ⟨rfl, hP, hE⟩
theorem d4 {N : Nat} (ih : TreeOk N) {w : World} {Bs b : Nat} {s : WS} {x : List UInt8} {l0 l1 : List UInt8} {k0 : Tree} {cs : List Value} {A B : Option Addr} {m n : Nat} (hks : ∀ t, t ∈ [k0] → tsize t ≤ N ∧ shapedT t = true ∧ leadedT t = true)
    (hl1 : s.2.length + 100 * (x.length + lsum [l0, l1] + kbulk [k0] + 1) ≤ 1000000000000) (hl2 : s.1.length + 100 * (x.length + lsum [l0, l1] + kbulk [k0] + 1) ≤ 1000000000000) (hP : Pr Bs b s.1 s.2 w) (hL : RowIn (fun b => b < Bs) w 1 A [l0, l1].length ([l0, l1].map strV)) (hn : [k0].length ≤ n) (hn2 : n ≤ maxLen) (hK : KidsAre (fun b => b < Bs) w [k0] cs) (hR : RowIn (fun b => b < Bs) w 4 B [k0].length cs) (hBw : Bs ≤ w.heap.size) :
    Calls Try.prog 91 [.pointer (some ⟨b, 0, none⟩), .agg #[.int .i64 4, strV x, .slice A [l0, l1].length m, .slice B [k0].length n]].toArray w fun e w' => e = .returned (.tuple #[]) ∧ Pr Bs b (treeP (.node 4 x [l0, l1] [k0]) s).1 (treeP (.node 4 x [l0, l1] [k0]) s).2 w' ∧ Prn Bs b w w' := by
  simp only [lsum, kbulk] at hl1 hl2
  have hE := Prn.refl (b := b) hBw
  have hG : s.2.length ≤ s.2.length := Nat.le_refl _
  have hG' : s.1.length ≤ s.1.length := Nat.le_refl _
  obtain ⟨lb, lo, rfl, _, hlb, _⟩ := hL.2 (by simp)
  obtain ⟨kb, ko, rfl, _, hkb, _⟩ := hR.2 (by simp)
  refine rE 161 Try.func91 rfl rfl rfl ?_
  intro a hf
  refine rR 2 hf rfl fun a hf => ?_
  obtain ⟨w1, b2, he, hB3, hx4, eb5, lb6⟩ := ef_box (P := Try.prog) (t := 26) (x := (.tmp 1)) hf rfl rfl w 0
  refine rV hf rfl he fun a hf => ?_
  have ge_b2 := Prn.ge_new hE eb5
  have ne_b_b2 : b ≠ b2 := ne_new hP.lt eb5
  replace hP := hP.chg0 hx4
  replace hE := hE.t0 hx4
  clear eb5 lb6
  refine rR 5 hf rfl fun a hf => rV hf rfl (ex_loadB hf rfl (by kernel_rfl) hB3 rfl) fun a hf => rR 32 hf rfl fun a hf => ?_
  have s_lb := lead_now hL hE (j := 0) rfl
  have s_hB3 := hB3
  refine rD (fun x => x.cell? ⟨b2, 2, none⟩ = w1.cell? ⟨b2, 2, none⟩ ∧ x.cell? ⟨lb, lo, none⟩ = w1.cell? ⟨lb, lo, none⟩ ∧ x.cell? ⟨b2, 1, none⟩ = w1.cell? ⟨b2, 1, none⟩) 8 8 rfl (by kernel_rfl) (by kernel_rfl) ?_
  intro w7 hx8 hsel
  replace hB3 := hB3.c0 hx8
  replace hP := hP.chg0 hx8
  replace hE := hE.t0 hx8
  have hS0 : w7.cell? ⟨b2, 2, none⟩ = w1.cell? ⟨b2, 2, none⟩ ∧ w7.cell? ⟨lb, lo, none⟩ = w1.cell? ⟨lb, lo, none⟩ ∧ w7.cell? ⟨b2, 1, none⟩ = w1.cell? ⟨b2, 1, none⟩ := ⟨(hB3.cell 2).trans (s_hB3.cell 2).symm, ((lead_now hL hE (j := 0) rfl).trans s_lb.symm), (hB3.cell 1).trans (s_hB3.cell 1).symm⟩
  refine dR [0, 1] hsel (by kernel_rfl) hf rfl rfl (.inl hS0) fun a hf => dL 2 rfl rfl hsel (by kernel_rfl) hf rfl hS0 (fun x hS => ex_load hf rfl (by kernel_rfl) (hS.1.trans ((s_hB3.cell 2).trans rfl))) fun a hf => dV 3 rfl rfl hsel (by kernel_rfl) hf rfl (.inl hS0) (fun x => ex_index (sz := 1) (k := 0) (r := lo) hf Try.underlying23 (by kernel_rfl) rfl rfl rfl (by simp) rfl) fun a hf => dL 4 rfl rfl hsel (by kernel_rfl) hf rfl hS0 (fun x hS => ex_load hf rfl (by kernel_rfl) (hS.2.1.trans s_lb)) fun a hf => dR [5] hsel (by kernel_rfl) hf rfl rfl (.inl hS0) fun a hf => dL 6 rfl rfl hsel (by kernel_rfl) hf rfl hS0 (fun x hS => ex_load hf rfl (by kernel_rfl) (hS.2.2.trans ((s_hB3.cell 1).trans rfl))) fun a hf => dl_c 7 (by kernel_rfl) rfl hf rfl rfl rfl (by kernel_rfl) (putL (lead := l0) (tok := x) hP (by (try simp only [putP, List.length_append, List.length_cons, List.length_nil]); omega) (by (try simp only [putP, List.length_append, List.length_cons, List.length_nil]); omega) hE.now) ?_
  rintro _ w11 ⟨rfl, hPn, hEn⟩
  refine ⟨_, rfl, fun a hf => ?_⟩
  have hx10 := hEn.chg
  replace hB3 := hB3.chg hx10 (nm_blk hB3 rfl (Ne.symm ne_b_b2))
  replace hE := hE.trans hx10 (fun _ h => .inl h)
  obtain ⟨s9, es9⟩ : ∃ z, z = putP l0 x s := ⟨_, rfl⟩
  replace hPn : Pr Bs b (putP l0 x s).1 (putP l0 x s).2 w11 := hPn
  rw [← es9] at hPn
  have gs9 := put_len l0 x s
  rw [← es9] at gs9
  obtain ⟨gs9, gs9'⟩ := gs9
  (try simp only [List.length_cons, List.length_nil, lsum] at gs9 gs9')
  replace hG := nlt gs9 (Nat.add_le_add_right hG _)
  replace hG' := nlt gs9' (Nat.add_le_add_right hG' _)
  clear gs9 gs9'
  clear hP; have hP := hPn; clear hPn hEn
  clear hS0
  have hS0 : w11.cell? ⟨b2, 2, none⟩ = w1.cell? ⟨b2, 2, none⟩ ∧ w11.cell? ⟨lb, lo, none⟩ = w1.cell? ⟨lb, lo, none⟩ ∧ w11.cell? ⟨b2, 1, none⟩ = w1.cell? ⟨b2, 1, none⟩ := ⟨(hB3.cell 2).trans (s_hB3.cell 2).symm, ((lead_now hL hE (j := 0) rfl).trans s_lb.symm), (hB3.cell 1).trans (s_hB3.cell 1).symm⟩
  refine ⟨.inl hS0, ?_⟩
  refine rN (by kernel_rfl) ?_
  clear hS0 hsel
  refine rR 5 hf rfl fun a hf => rV hf rfl (ex_loadB hf rfl (by kernel_rfl) hB3 rfl) fun a hf => rV hf rfl (ex_index (sz := 1) (k := 1) (r := lo + 1) hf Try.underlying23 (by kernel_rfl) rfl rfl rfl (by simp) rfl) fun a hf => rV hf rfl (ex_load hf rfl (by kernel_rfl) (lead_now hL hE (j := 1) rfl)) fun a hf => rC hf rfl rfl (by kernel_rfl) (putL (lead := l1) (tok := [58]) hP (by (try simp only [putP, List.length_append, List.length_cons, List.length_nil]); omega) (by (try simp only [putP, List.length_append, List.length_cons, List.length_nil]); omega) hE.now) ?_
  rintro _ w14 ⟨rfl, hPn, hEn⟩
  refine ⟨_, rfl, fun a hf => ?_⟩
  have hx13 := hEn.chg
  replace hB3 := hB3.chg hx13 (nm_blk hB3 rfl (Ne.symm ne_b_b2))
  replace hE := hE.trans hx13 (fun _ h => .inl h)
  obtain ⟨s12, es12⟩ : ∃ z, z = putP l1 [58] s9 := ⟨_, rfl⟩
  replace hPn : Pr Bs b (putP l1 [58] s9).1 (putP l1 [58] s9).2 w14 := hPn
  rw [← es12] at hPn
  have gs12 := put_len l1 [58] s9
  rw [← es12] at gs12
  obtain ⟨gs12, gs12'⟩ := gs12
  (try simp only [List.length_cons, List.length_nil, lsum] at gs12 gs12')
  replace hG := nlt gs12 (Nat.add_le_add_right hG _)
  replace hG' := nlt gs12' (Nat.add_le_add_right hG' _)
  clear gs12 gs12'
  clear hP; have hP := hPn; clear hPn hEn
  refine rR 5 hf rfl fun a hf => rV hf rfl (ex_loadB hf rfl (by kernel_rfl) hB3 rfl) fun a hf => rV hf rfl (ex_index (sz := 4) (k := 0) (r := ko) hf Try.underlying24 (by kernel_rfl) rfl rfl rfl (by simp) rfl) fun a hf => ?_
  obtain ⟨d0, d1, d2, d3, hT, hK4⟩ := kid_now hK hR hE (i := 0) (t := k0) rfl
  have on_T := hT.one
  refine rV hf rfl (ex_loadN (cs := [d0, d1, d2, d3]) (m := 4) hf rfl (by kernel_rfl) rfl hK4) fun a hf => rC hf rfl rfl (by kernel_rfl) (ih k0 _ Bs b s12 d0 d1 d2 d3 (hks _ (by simp)).1 (hks _ (by simp)).2.1 (hks _ (by simp)).2.2 (by (try simp only [putP, List.length_append, List.length_cons, List.length_nil]); omega) (by (try simp only [putP, List.length_append, List.length_cons, List.length_nil]); omega) hP hT hE.now) ?_
  rintro _ w17 ⟨rfl, hPn, hEn⟩
  refine ⟨_, rfl, fun a hf => ?_⟩
  have hx16 := hEn.chg
  replace hB3 := hB3.chg hx16 (nm_blk hB3 rfl (Ne.symm ne_b_b2))
  replace hE := hE.trans hx16 (fun _ h => .inl h)
  obtain ⟨s15, es15⟩ : ∃ z, z = treeP k0 s12 := ⟨_, rfl⟩
  replace hPn : Pr Bs b (treeP k0 s12).1 (treeP k0 s12).2 w17 := hPn
  rw [← es15] at hPn
  have gs15 := tree_len (t := k0) (hks _ (by simp)).2.2 s12
  rw [← es15] at gs15
  obtain ⟨gs15, gs15'⟩ := gs15
  (try simp only [List.length_cons, List.length_nil, lsum] at gs15 gs15')
  replace hG := nlt gs15 (Nat.add_le_add_right hG _)
  replace hG' := nlt gs15' (Nat.add_le_add_right hG' _)
  clear gs15 gs15'
  clear hP; have hP := hPn; clear hPn hEn
  refine rR 2 hf rfl fun a hf => ?_
  have eq : treeP (.node 4 x [l0, l1] [k0]) s = s15 := by subst es15; subst es12; subst es9; rfl
  rw [eq]
  exact rF (rs := []) hf rfl rfl ⟨rfl, hP, hE⟩
theorem tLeaf {N : Nat} {w : World} {Bs b : Nat} {s : WS} {k : Int} {x : List UInt8} {l0 : List UInt8} {cs : List Value} {A B : Option Addr} {m n : Nat} (hk : k = 5 ∨ k = 6 ∨ k = 7 ∨ k = 9 ∨ k = 10 ∨ k = 11 ∨ k = 12 ∨ k = 13 ∨ k = 14 ∨ k = 15) (hks : ∀ t, t ∈ ([] : List Tree) → tsize t ≤ N ∧ shapedT t = true ∧ leadedT t = true)
    (hl1 : s.2.length + 100 * (x.length + lsum [l0] + kbulk ([] : List Tree) + 1) ≤ 1000000000000) (hl2 : s.1.length + 100 * (x.length + lsum [l0] + kbulk ([] : List Tree) + 1) ≤ 1000000000000) (hP : Pr Bs b s.1 s.2 w) (hL : RowIn (fun b => b < Bs) w 1 A [l0].length ([l0].map strV)) (hn : ([] : List Tree).length ≤ n) (hn2 : n ≤ maxLen) (hK : KidsAre (fun b => b < Bs) w ([] : List Tree) cs) (hR : RowIn (fun b => b < Bs) w 4 B ([] : List Tree).length cs) (hBw : Bs ≤ w.heap.size) :
    Calls Try.prog 61 [.pointer (some ⟨b, 0, none⟩), .agg #[.int .i64 k, strV x, .slice A [l0].length m, .slice B ([] : List Tree).length n]].toArray w fun e w' => e = .returned (.tuple #[]) ∧ Pr Bs b (treeP (.node k x [l0] ([] : List Tree)) s).1 (treeP (.node k x [l0] ([] : List Tree)) s).2 w' ∧ Prn Bs b w w' := by
  simp only [lsum, kbulk] at hl1 hl2
  have sl := singleT_len k x
  have hE := Prn.refl (b := b) hBw
  have hG : s.2.length ≤ s.2.length := Nat.le_refl _
  have hG' : s.1.length ≤ s.1.length := Nat.le_refl _
  obtain ⟨lb, lo, rfl, _, hlb, _⟩ := hL.2 (by simp)
  refine rE 216 Try.func61 rfl rfl rfl ?_
  intro a hf
  refine rR 2 hf rfl fun a hf => ?_
  obtain ⟨w1, b2, he, hB3, hx4, eb5, lb6⟩ := ef_box (P := Try.prog) (t := 26) (x := (.tmp 1)) hf rfl rfl w 0
  refine rV hf rfl he fun a hf => ?_
  have ge_b2 := Prn.ge_new hE eb5
  have ne_b_b2 : b ≠ b2 := ne_new hP.lt eb5
  replace hP := hP.chg0 hx4
  replace hE := hE.t0 hx4
  clear eb5 lb6
  refine rR 5 hf rfl fun a hf => rV hf rfl (ex_loadB hf rfl (by kernel_rfl) hB3 rfl) fun a hf => rR 6 hf rfl fun a hf => rV hf rfl (ex_eqI (c := false) hf rfl rfl (by simp; omega)) fun a hf => rR 6 hf rfl fun a hf => rV hf rfl (ex_eqI (c := false) hf rfl rfl (by simp; omega)) fun a hf => rR 6 hf rfl fun a hf => rV hf rfl (ex_eqI (c := false) hf rfl rfl (by simp; omega)) fun a hf => rR 5 hf rfl fun a hf => rV hf rfl (ex_eqI (c := false) hf rfl rfl (by simp; omega)) fun a hf => rR 6 hf rfl fun a hf => rV hf rfl (ex_eqI (c := false) hf rfl rfl (by simp; omega)) fun a hf => rR 6 hf rfl fun a hf => rV hf rfl (ex_eqI (c := false) hf rfl rfl (by simp; omega)) fun a hf => rR 6 hf rfl fun a hf => rV hf rfl (ex_eqI (c := false) hf rfl rfl (by simp; omega)) fun a hf => rR 6 hf rfl fun a hf => rV hf rfl (ex_eqI (c := false) hf rfl rfl (by simp; omega)) fun a hf => rR 6 hf rfl fun a hf => rV hf rfl (ex_eqI (c := false) hf rfl rfl (by simp; omega)) fun a hf => rR 6 hf rfl fun a hf => rV hf rfl (ex_eqI (c := false) hf rfl rfl (by simp; omega)) fun a hf => rR 6 hf rfl fun a hf => rV hf rfl (ex_eqI (c := false) hf rfl rfl (by simp; omega)) fun a hf => rR 6 hf rfl fun a hf => rV hf rfl (ex_eqI (c := false) hf rfl rfl (by simp; omega)) fun a hf => rR 4 hf rfl fun a hf => ?_
  have s_lb := lead_now hL hE (j := 0) rfl
  have s_hB3 := hB3
  refine rD (fun x => x.cell? ⟨b2, 2, none⟩ = w1.cell? ⟨b2, 2, none⟩ ∧ x.cell? ⟨lb, lo, none⟩ = w1.cell? ⟨lb, lo, none⟩ ∧ x.cell? ⟨b2, 0, none⟩ = w1.cell? ⟨b2, 0, none⟩ ∧ x.cell? ⟨b2, 1, none⟩ = w1.cell? ⟨b2, 1, none⟩ ∧ x.cell? ⟨b2, 3, none⟩ = w1.cell? ⟨b2, 3, none⟩) 8 8 rfl (by kernel_rfl) (by kernel_rfl) ?_
  intro w7 hx8 hsel
  replace hB3 := hB3.c0 hx8
  replace hP := hP.chg0 hx8
  replace hE := hE.t0 hx8
  have hS0 : w7.cell? ⟨b2, 2, none⟩ = w1.cell? ⟨b2, 2, none⟩ ∧ w7.cell? ⟨lb, lo, none⟩ = w1.cell? ⟨lb, lo, none⟩ ∧ w7.cell? ⟨b2, 0, none⟩ = w1.cell? ⟨b2, 0, none⟩ ∧ w7.cell? ⟨b2, 1, none⟩ = w1.cell? ⟨b2, 1, none⟩ ∧ w7.cell? ⟨b2, 3, none⟩ = w1.cell? ⟨b2, 3, none⟩ := ⟨(hB3.cell 2).trans (s_hB3.cell 2).symm, ((lead_now hL hE (j := 0) rfl).trans s_lb.symm), (hB3.cell 0).trans (s_hB3.cell 0).symm, (hB3.cell 1).trans (s_hB3.cell 1).symm, (hB3.cell 3).trans (s_hB3.cell 3).symm⟩
  refine dR [0, 1] hsel (by kernel_rfl) hf rfl rfl (.inl hS0) fun a hf => dL 2 rfl rfl hsel (by kernel_rfl) hf rfl hS0 (fun x hS => ex_load hf rfl (by kernel_rfl) (hS.1.trans ((s_hB3.cell 2).trans rfl))) fun a hf => dV 3 rfl rfl hsel (by kernel_rfl) hf rfl (.inl hS0) (fun x => ex_index (sz := 1) (k := 0) (r := lo) hf Try.underlying23 (by kernel_rfl) rfl rfl rfl (by simp) rfl) fun a hf => dL 4 rfl rfl hsel (by kernel_rfl) hf rfl hS0 (fun x hS => ex_load hf rfl (by kernel_rfl) (hS.2.1.trans s_lb)) fun a hf => dL 5 rfl rfl hsel (by kernel_rfl) hf rfl hS0 (fun x hS => ex_loadX4 hf rfl (by kernel_rfl) s_hB3 rfl hS.2.2.1 hS.2.2.2.1 hS.1 hS.2.2.2.2) fun a hf => dl_c 6 (by kernel_rfl) rfl hf rfl rfl rfl (by kernel_rfl) (singleL (k := k) (tx := x)) ?_
  rintro _ w10 ⟨rfl, hx9⟩
  refine ⟨_, rfl, fun a hf => ?_⟩
  replace hB3 := hB3.c0 hx9
  replace hP := hP.chg0 hx9
  replace hE := hE.t0 hx9
  clear hS0
  have hS0 : w10.cell? ⟨b2, 2, none⟩ = w1.cell? ⟨b2, 2, none⟩ ∧ w10.cell? ⟨lb, lo, none⟩ = w1.cell? ⟨lb, lo, none⟩ ∧ w10.cell? ⟨b2, 0, none⟩ = w1.cell? ⟨b2, 0, none⟩ ∧ w10.cell? ⟨b2, 1, none⟩ = w1.cell? ⟨b2, 1, none⟩ ∧ w10.cell? ⟨b2, 3, none⟩ = w1.cell? ⟨b2, 3, none⟩ := ⟨(hB3.cell 2).trans (s_hB3.cell 2).symm, ((lead_now hL hE (j := 0) rfl).trans s_lb.symm), (hB3.cell 0).trans (s_hB3.cell 0).symm, (hB3.cell 1).trans (s_hB3.cell 1).symm, (hB3.cell 3).trans (s_hB3.cell 3).symm⟩
  refine ⟨.inl hS0, ?_⟩
  refine dl_c 7 (by kernel_rfl) rfl hf rfl rfl rfl (by kernel_rfl) (putL (lead := l0) (tok := (singleT k x)) hP (by (try simp only [putP, List.length_append, List.length_cons, List.length_nil]); omega) (by (try simp only [putP, List.length_append, List.length_cons, List.length_nil]); omega) hE.now) ?_
  rintro _ w13 ⟨rfl, hPn, hEn⟩
  refine ⟨_, rfl, fun a hf => ?_⟩
  have hx12 := hEn.chg
  replace hB3 := hB3.chg hx12 (nm_blk hB3 rfl (Ne.symm ne_b_b2))
  replace hE := hE.trans hx12 (fun _ h => .inl h)
  obtain ⟨s11, es11⟩ : ∃ z, z = putP l0 (singleT k x) s := ⟨_, rfl⟩
  replace hPn : Pr Bs b (putP l0 (singleT k x) s).1 (putP l0 (singleT k x) s).2 w13 := hPn
  rw [← es11] at hPn
  have gs11 := put_len l0 (singleT k x) s
  rw [← es11] at gs11
  obtain ⟨gs11, gs11'⟩ := gs11
  (try simp only [List.length_cons, List.length_nil, lsum] at gs11 gs11')
  replace hG := nlt gs11 (Nat.add_le_add_right hG _)
  replace hG' := nlt gs11' (Nat.add_le_add_right hG' _)
  clear gs11 gs11'
  clear hP; have hP := hPn; clear hPn hEn
  clear hS0
  have hS0 : w13.cell? ⟨b2, 2, none⟩ = w1.cell? ⟨b2, 2, none⟩ ∧ w13.cell? ⟨lb, lo, none⟩ = w1.cell? ⟨lb, lo, none⟩ ∧ w13.cell? ⟨b2, 0, none⟩ = w1.cell? ⟨b2, 0, none⟩ ∧ w13.cell? ⟨b2, 1, none⟩ = w1.cell? ⟨b2, 1, none⟩ ∧ w13.cell? ⟨b2, 3, none⟩ = w1.cell? ⟨b2, 3, none⟩ := ⟨(hB3.cell 2).trans (s_hB3.cell 2).symm, ((lead_now hL hE (j := 0) rfl).trans s_lb.symm), (hB3.cell 0).trans (s_hB3.cell 0).symm, (hB3.cell 1).trans (s_hB3.cell 1).symm, (hB3.cell 3).trans (s_hB3.cell 3).symm⟩
  refine ⟨.inl hS0, ?_⟩
  refine rN (by kernel_rfl) ?_
  clear hS0 hsel
  refine rR 1 hf rfl fun a hf => ?_
  have eq : treeP (.node k x [l0] ([] : List Tree)) s = s11 := by subst es11; rw [treeP, treesP]; simp only [nodeP]; rw [if_neg (by omega), if_neg (by omega), if_neg (by omega), if_neg (by omega), if_neg (by omega), if_neg (by omega), if_neg (by omega), if_neg (by omega), if_neg (by omega)]; rfl
  rw [eq]
  exact rF (rs := []) hf rfl rfl ⟨rfl, hP, hE⟩
end Go.Proofs.Ythpjpngfghcmcaa
namespace Go.Proofs.Ythpjpngfghcmcaa
open Go.RowKit Lx Sx
set_option maxRecDepth 100000
set_option maxHeartbeats 4000000
theorem KidsAre.part {S : Nat → Prop} {w : World} : ∀ {a b : List Tree} {cs : List Value}, KidsAre S w (a ++ b) cs → ∃ c d, cs = c ++ d ∧ KidsAre S w a c ∧ KidsAre S w b d
  | [], b, cs, h => ⟨[], cs, rfl, rfl, h⟩
  | t :: r, b, cs, h => by
    simp only [List.cons_append, KidsAre] at h
    obtain ⟨c, d, e, h1, h2⟩ := h
    obtain ⟨c', d', e', h3, h4⟩ := KidsAre.part h2
    exact ⟨c ++ c', d', by rw [e, e', List.append_assoc], by simp only [KidsAre]; exact ⟨c, c', rfl, h1, h3⟩, h4⟩
theorem RowIn.now {Bs b : Nat} {w w' : World} {A : Option Addr} {sz n : Nat} {cs : List Value} (h : RowIn (fun b => b < Bs) w sz A n cs) (hE : Prn Bs b w w') : RowIn (fun b => b < Bs) w' sz A n cs := h.keepB (fun _ h _ => h) (fun _ hb _ => hE.below.block _ hb)
theorem KidsAre.now {Bs b : Nat} {w w' : World} {ks : List Tree} {cs : List Value} (h : KidsAre (fun b => b < Bs) w ks cs) (hE : Prn Bs b w w') : KidsAre (fun b => b < Bs) w' ks cs := h.keepB (fun _ h _ => h) (fun _ hb _ => hE.below.block _ hb)
theorem RowIn.part {S : Nat → Prop} {w : World} {A : Option Addr} {n n1 : Nat} {c d : List Value} (h : RowIn S w 4 A n (c ++ d)) (hc : c.length = n1 * 4) (hn : n1 ≤ n) : RowIn S w 4 A n1 c := by
  refine ⟨hc, fun h0 => ?_⟩
  obtain ⟨b, off, e, hS, hb, hcell⟩ := h.2 (by omega)
  refine ⟨b, off, e, hS, hb, fun j hj => ?_⟩
  rw [hcell j (by omega), List.getElem?_append_left (by omega)]
theorem kbulk_app : ∀ (a b : List Tree), kbulk (a ++ b) = kbulk a + kbulk b
  | [], b => by simp [kbulk]
  | t :: r, b => by simp only [List.cons_append, kbulk, kbulk_app r b]; omega
theorem ex_slH {P : Program} {a : Act} {w : World} {n : Nat} {f : Nat → Option Value} {ty : TypeId} {t e : TypeId} {x y : Operand} {A : Option Addr} {m c sz k : Nat} {i : Int} (h : Fr a n f) (ht : P.underlying t = some (.slice e)) (hz : sizeT P e = some sz) (hx : valF f x = some (.slice A m c)) (hy : valF f y = some (.int .i64 i)) (hi : i = (k : Int)) (hk : k ≤ c) :
    Runs P a ty (.slice t x none (some y) none) w (.value (.slice A k c)) w := fun _ _ _ _ => by
  subst hi
  obtain ⟨inf, hinf, hs⟩ := Option.map_eq_some_iff.1 (show (P.info? e).map (·.size) = some sz from hz)
  simp only [execOp, h.eval hx, Option.map_some, Option.map_none, h.eval hy]
  simp [Instr.sliceAt, Instr.slice, run_underlying ht, Instr.sliceBounds, run_sliceBound w .i64 (k : Int) c .sliceAcap (by omega) (by omega), sizeOf, typeInfo, hinf, hs]
  try (split <;> simp_all)
  try (cases A <;> simp)
  all_goals (intro _; unfold Addr.add; split <;> simp_all)
theorem t16 {N : Nat} (ih : TreeOk N) {w : World} {Bs b : Nat} {s : WS} {x : List UInt8} {l0 l1 l2 : List UInt8} {ms : List (List UInt8)} {ks : List Tree} {cs : List Value} {A B : Option Addr} {m n : Nat} (hcl : 3 + ks.length ≤ (l0 :: l1 :: l2 :: ms).length + 1) (hks : ∀ t, t ∈ ks → tsize t ≤ N ∧ shapedT t = true ∧ leadedT t = true)
    (hl1 : s.2.length + 100 * (x.length + lsum (l0 :: l1 :: l2 :: ms) + kbulk ks + 1) ≤ 1000000000000) (hl2 : s.1.length + 100 * (x.length + lsum (l0 :: l1 :: l2 :: ms) + kbulk ks + 1) ≤ 1000000000000) (hP : Pr Bs b s.1 s.2 w) (hL : RowIn (fun b => b < Bs) w 1 A (l0 :: l1 :: l2 :: ms).length ((l0 :: l1 :: l2 :: ms).map strV)) (hn : ks.length ≤ n) (hn2 : n ≤ maxLen) (hK : KidsAre (fun b => b < Bs) w ks cs) (hR : RowIn (fun b => b < Bs) w 4 B ks.length cs) (hBw : Bs ≤ w.heap.size) :
    Calls Try.prog 61 [.pointer (some ⟨b, 0, none⟩), .agg #[.int .i64 16, strV x, .slice A (l0 :: l1 :: l2 :: ms).length m, .slice B ks.length n]].toArray w fun e w' => e = .returned (.tuple #[]) ∧ Pr Bs b (treeP (.node 16 x (l0 :: l1 :: l2 :: ms) ks) s).1 (treeP (.node 16 x (l0 :: l1 :: l2 :: ms) ks) s).2 w' ∧ Prn Bs b w w' := by
  simp only [lsum, kbulk] at hl1 hl2
  have hgk : ∀ t, t ∈ ks → ∀ s, Gw (100 * tbulk t) s (treeP t s) := fun t ht s => Gw.tree _ t (Nat.le_refl _) (hks t ht).2.2 s
  have hKL := kbulk_len ks
  have hll := lsum_len ms
  have hcl' := hcl
  simp only [List.length_cons] at hcl'
  have hE := Prn.refl (b := b) hBw
  have hG : s.2.length ≤ s.2.length := Nat.le_refl _
  have hG' : s.1.length ≤ s.1.length := Nat.le_refl _
  obtain ⟨lb, lo, rfl, _, hlb, _⟩ := hL.2 (by simp)
  refine rE 216 Try.func61 rfl rfl rfl ?_
  intro a hf
  refine rR 2 hf rfl fun a hf => ?_
  obtain ⟨w1, b2, he, hB3, hx4, eb5, lb6⟩ := ef_box (P := Try.prog) (t := 26) (x := (.tmp 1)) hf rfl rfl w 0
  refine rV hf rfl he fun a hf => ?_
  have ge_b2 := Prn.ge_new hE eb5
  have ne_b_b2 : b ≠ b2 := ne_new hP.lt eb5
  replace hP := hP.chg0 hx4
  replace hE := hE.t0 hx4
  clear eb5 lb6
  refine rR 5 hf rfl fun a hf => rV hf rfl (ex_loadB hf rfl (by kernel_rfl) hB3 rfl) fun a hf => rR 53 hf rfl fun a hf => ?_
  have s_lb := lead_now hL hE (j := 0) rfl
  have s_hB3 := hB3
  refine rD (fun x => x.cell? ⟨b2, 2, none⟩ = w1.cell? ⟨b2, 2, none⟩ ∧ x.cell? ⟨lb, lo, none⟩ = w1.cell? ⟨lb, lo, none⟩ ∧ x.cell? ⟨b2, 1, none⟩ = w1.cell? ⟨b2, 1, none⟩) 8 8 rfl (by kernel_rfl) (by kernel_rfl) ?_
  intro w7 hx8 hsel
  replace hB3 := hB3.c0 hx8
  replace hP := hP.chg0 hx8
  replace hE := hE.t0 hx8
  have hS0 : w7.cell? ⟨b2, 2, none⟩ = w1.cell? ⟨b2, 2, none⟩ ∧ w7.cell? ⟨lb, lo, none⟩ = w1.cell? ⟨lb, lo, none⟩ ∧ w7.cell? ⟨b2, 1, none⟩ = w1.cell? ⟨b2, 1, none⟩ := ⟨(hB3.cell 2).trans (s_hB3.cell 2).symm, ((lead_now hL hE (j := 0) rfl).trans s_lb.symm), (hB3.cell 1).trans (s_hB3.cell 1).symm⟩
  refine dR [0, 1] hsel (by kernel_rfl) hf rfl rfl (.inl hS0) fun a hf => dL 2 rfl rfl hsel (by kernel_rfl) hf rfl hS0 (fun x hS => ex_load hf rfl (by kernel_rfl) (hS.1.trans ((s_hB3.cell 2).trans rfl))) fun a hf => dV 3 rfl rfl hsel (by kernel_rfl) hf rfl (.inl hS0) (fun x => ex_index (sz := 1) (k := 0) (r := lo) hf Try.underlying23 (by kernel_rfl) rfl rfl rfl (by simp) rfl) fun a hf => dL 4 rfl rfl hsel (by kernel_rfl) hf rfl hS0 (fun x hS => ex_load hf rfl (by kernel_rfl) (hS.2.1.trans s_lb)) fun a hf => dR [5] hsel (by kernel_rfl) hf rfl rfl (.inl hS0) fun a hf => dL 6 rfl rfl hsel (by kernel_rfl) hf rfl hS0 (fun x hS => ex_load hf rfl (by kernel_rfl) (hS.2.2.trans ((s_hB3.cell 1).trans rfl))) fun a hf => dl_c 7 (by kernel_rfl) rfl hf rfl rfl rfl (by kernel_rfl) (putL (lead := l0) (tok := x) hP (by (try simp only [putP, List.length_append, List.length_cons, List.length_nil]); omega) (by (try simp only [putP, List.length_append, List.length_cons, List.length_nil]); omega) hE.now) ?_
  rintro _ w11 ⟨rfl, hPn, hEn⟩
  refine ⟨_, rfl, fun a hf => ?_⟩
  have hx10 := hEn.chg
  replace hB3 := hB3.chg hx10 (nm_blk hB3 rfl (Ne.symm ne_b_b2))
  replace hE := hE.trans hx10 (fun _ h => .inl h)
  obtain ⟨s9, es9⟩ : ∃ z, z = putP l0 x s := ⟨_, rfl⟩
  replace hPn : Pr Bs b (putP l0 x s).1 (putP l0 x s).2 w11 := hPn
  rw [← es9] at hPn
  have gs9 := put_len l0 x s
  rw [← es9] at gs9
  obtain ⟨gs9, gs9'⟩ := gs9
  (try simp only [List.length_cons, List.length_nil, lsum] at gs9 gs9')
  replace hG := nlt gs9 (Nat.add_le_add_right hG _)
  replace hG' := nlt gs9' (Nat.add_le_add_right hG' _)
  clear gs9 gs9'
  clear hP; have hP := hPn; clear hPn hEn
  clear hS0
  have hS0 : w11.cell? ⟨b2, 2, none⟩ = w1.cell? ⟨b2, 2, none⟩ ∧ w11.cell? ⟨lb, lo, none⟩ = w1.cell? ⟨lb, lo, none⟩ ∧ w11.cell? ⟨b2, 1, none⟩ = w1.cell? ⟨b2, 1, none⟩ := ⟨(hB3.cell 2).trans (s_hB3.cell 2).symm, ((lead_now hL hE (j := 0) rfl).trans s_lb.symm), (hB3.cell 1).trans (s_hB3.cell 1).symm⟩
  refine ⟨.inl hS0, ?_⟩
  refine rN (by kernel_rfl) ?_
  clear hS0 hsel
  refine rR 5 hf rfl fun a hf => rV hf rfl (ex_loadB hf rfl (by kernel_rfl) hB3 rfl) fun a hf => rV hf rfl (ex_index (sz := 1) (k := 1) (r := lo + 1) hf Try.underlying23 (by kernel_rfl) rfl rfl rfl (by simp) rfl) fun a hf => rV hf rfl (ex_load hf rfl (by kernel_rfl) (lead_now hL hE (j := 1) rfl)) fun a hf => rC hf rfl rfl (by kernel_rfl) (putL (lead := l1) (tok := [40]) hP (by (try simp only [putP, List.length_append, List.length_cons, List.length_nil]); omega) (by (try simp only [putP, List.length_append, List.length_cons, List.length_nil]); omega) hE.now) ?_
  rintro _ w14 ⟨rfl, hPn, hEn⟩
  refine ⟨_, rfl, fun a hf => ?_⟩
  have hx13 := hEn.chg
  replace hB3 := hB3.chg hx13 (nm_blk hB3 rfl (Ne.symm ne_b_b2))
  replace hE := hE.trans hx13 (fun _ h => .inl h)
  obtain ⟨s12, es12⟩ : ∃ z, z = putP l1 [40] s9 := ⟨_, rfl⟩
  replace hPn : Pr Bs b (putP l1 [40] s9).1 (putP l1 [40] s9).2 w14 := hPn
  rw [← es12] at hPn
  have gs12 := put_len l1 [40] s9
  rw [← es12] at gs12
  obtain ⟨gs12, gs12'⟩ := gs12
  (try simp only [List.length_cons, List.length_nil, lsum] at gs12 gs12')
  replace hG := nlt gs12 (Nat.add_le_add_right hG _)
  replace hG' := nlt gs12' (Nat.add_le_add_right hG' _)
  clear gs12 gs12'
  clear hP; have hP := hPn; clear hPn hEn
  refine rR 5 hf rfl fun a hf => rV hf rfl (ex_loadBN (m := 4) hf rfl (by kernel_rfl) hB3 rfl) fun a hf => rR 1 hf rfl fun a hf => rV hf rfl (ex_loadB hf rfl (by kernel_rfl) hB3 rfl) fun a hf => ?_
  have hLn := hL.now hE
  have hKn := hK.now hE
  have hRn := hR.now hE
  refine rC hf rfl rfl (by kernel_rfl) (plistI ih (s := s12) (ls := (l0 :: l1 :: l2 :: ms)) (ks := ks) (c := 3) (ci := 3) (by decide) (by decide) (by decide) hcl hks (by simp only [lsum]; omega) (by simp only [lsum]; omega) hP hLn hKn hRn hE.now) ?_
  rintro _ w17 ⟨rfl, hPn, hEn⟩
  refine ⟨_, rfl, fun a hf => ?_⟩
  have hx16 := hEn.chg
  replace hB3 := hB3.chg hx16 (nm_blk hB3 rfl (Ne.symm ne_b_b2))
  replace hE := hE.trans hx16 (fun _ h => .inl h)
  obtain ⟨s15, es15⟩ : ∃ z, z = listP (l0 :: l1 :: l2 :: ms) 3 (treesP ks) 0 s12 := ⟨_, rfl⟩
  replace hPn : Pr Bs b (listP (l0 :: l1 :: l2 :: ms) 3 (treesP ks) 0 s12).1 (listP (l0 :: l1 :: l2 :: ms) 3 (treesP ks) 0 s12).2 w17 := hPn
  rw [← es15] at hPn
  have gs15 := list_len (ls := (l0 :: l1 :: l2 :: ms)) (c := 3) (by decide) hgk s12
  rw [← es15] at gs15
  obtain ⟨gs15, gs15'⟩ := gs15
  (try simp only [List.length_cons, List.length_nil, lsum] at gs15 gs15')
  replace hG := nlt gs15 (Nat.add_le_add_right hG _)
  replace hG' := nlt gs15' (Nat.add_le_add_right hG' _)
  clear gs15 gs15'
  clear hP; have hP := hPn; clear hPn hEn
  refine rR 5 hf rfl fun a hf => rV hf rfl (ex_loadB hf rfl (by kernel_rfl) hB3 rfl) fun a hf => rV hf rfl (ex_index (sz := 1) (k := 2) (r := lo + 2) hf Try.underlying23 (by kernel_rfl) rfl rfl rfl (by simp) rfl) fun a hf => rV hf rfl (ex_load hf rfl (by kernel_rfl) (lead_now hL hE (j := 2) rfl)) fun a hf => rC hf rfl rfl (by kernel_rfl) (putL (lead := l2) (tok := [41]) hP (by (try simp only [putP, List.length_append, List.length_cons, List.length_nil]); omega) (by (try simp only [putP, List.length_append, List.length_cons, List.length_nil]); omega) hE.now) ?_
  rintro _ w20 ⟨rfl, hPn, hEn⟩
  refine ⟨_, rfl, fun a hf => ?_⟩
  have hx19 := hEn.chg
  replace hB3 := hB3.chg hx19 (nm_blk hB3 rfl (Ne.symm ne_b_b2))
  replace hE := hE.trans hx19 (fun _ h => .inl h)
  obtain ⟨s18, es18⟩ : ∃ z, z = putP l2 [41] s15 := ⟨_, rfl⟩
  replace hPn : Pr Bs b (putP l2 [41] s15).1 (putP l2 [41] s15).2 w20 := hPn
  rw [← es18] at hPn
  have gs18 := put_len l2 [41] s15
  rw [← es18] at gs18
  obtain ⟨gs18, gs18'⟩ := gs18
  (try simp only [List.length_cons, List.length_nil, lsum] at gs18 gs18')
  replace hG := nlt gs18 (Nat.add_le_add_right hG _)
  replace hG' := nlt gs18' (Nat.add_le_add_right hG' _)
  clear gs18 gs18'
  clear hP; have hP := hPn; clear hPn hEn
  refine rR 2 hf rfl fun a hf => ?_
  have eq : treeP (.node 16 x (l0 :: l1 :: l2 :: ms) ks) s = s18 := by subst es18; subst es15; subst es12; subst es9; rw [treeP]; rfl
  rw [eq]
  exact rF (rs := []) hf rfl rfl ⟨rfl, hP, hE⟩
theorem t18 {N : Nat} (ih : TreeOk N) {w : World} {Bs b : Nat} {s : WS} {x : List UInt8} {l0 l1 : List UInt8} {ms : List (List UInt8)} {ks : List Tree} {cs : List Value} {A B : Option Addr} {m n : Nat} (hcl : 2 + ks.length ≤ (l0 :: l1 :: ms).length + 1) (hks : ∀ t, t ∈ ks → tsize t ≤ N ∧ shapedT t = true ∧ leadedT t = true)
    (hl1 : s.2.length + 100 * (x.length + lsum (l0 :: l1 :: ms) + kbulk ks + 1) ≤ 1000000000000) (hl2 : s.1.length + 100 * (x.length + lsum (l0 :: l1 :: ms) + kbulk ks + 1) ≤ 1000000000000) (hP : Pr Bs b s.1 s.2 w) (hL : RowIn (fun b => b < Bs) w 1 A (l0 :: l1 :: ms).length ((l0 :: l1 :: ms).map strV)) (hn : ks.length ≤ n) (hn2 : n ≤ maxLen) (hK : KidsAre (fun b => b < Bs) w ks cs) (hR : RowIn (fun b => b < Bs) w 4 B ks.length cs) (hBw : Bs ≤ w.heap.size) :
    Calls Try.prog 61 [.pointer (some ⟨b, 0, none⟩), .agg #[.int .i64 18, strV x, .slice A (l0 :: l1 :: ms).length m, .slice B ks.length n]].toArray w fun e w' => e = .returned (.tuple #[]) ∧ Pr Bs b (treeP (.node 18 x (l0 :: l1 :: ms) ks) s).1 (treeP (.node 18 x (l0 :: l1 :: ms) ks) s).2 w' ∧ Prn Bs b w w' := by
  simp only [lsum, kbulk] at hl1 hl2
  have hgk : ∀ t, t ∈ ks → ∀ s, Gw (100 * tbulk t) s (treeP t s) := fun t ht s => Gw.tree _ t (Nat.le_refl _) (hks t ht).2.2 s
  have hKL := kbulk_len ks
  have hll := lsum_len ms
  have hcl' := hcl
  simp only [List.length_cons] at hcl'
  have hE := Prn.refl (b := b) hBw
  have hG : s.2.length ≤ s.2.length := Nat.le_refl _
  have hG' : s.1.length ≤ s.1.length := Nat.le_refl _
  obtain ⟨lb, lo, rfl, _, hlb, _⟩ := hL.2 (by simp)
  refine rE 216 Try.func61 rfl rfl rfl ?_
  intro a hf
  refine rR 2 hf rfl fun a hf => ?_
  obtain ⟨w1, b2, he, hB3, hx4, eb5, lb6⟩ := ef_box (P := Try.prog) (t := 26) (x := (.tmp 1)) hf rfl rfl w 0
  refine rV hf rfl he fun a hf => ?_
  have ge_b2 := Prn.ge_new hE eb5
  have ne_b_b2 : b ≠ b2 := ne_new hP.lt eb5
  replace hP := hP.chg0 hx4
  replace hE := hE.t0 hx4
  clear eb5 lb6
  refine rR 5 hf rfl fun a hf => rV hf rfl (ex_loadB hf rfl (by kernel_rfl) hB3 rfl) fun a hf => rR 63 hf rfl fun a hf => rV hf rfl (ex_loadB hf rfl (by kernel_rfl) hB3 rfl) fun a hf => rV hf rfl (ex_index (sz := 1) (k := 0) (r := lo) hf Try.underlying23 (by kernel_rfl) rfl rfl rfl (by simp) rfl) fun a hf => rV hf rfl (ex_load hf rfl (by kernel_rfl) (lead_now hL hE (j := 0) rfl)) fun a hf => rC hf rfl rfl (by kernel_rfl) (putL (lead := l0) (tok := [91]) hP (by (try simp only [putP, List.length_append, List.length_cons, List.length_nil]); omega) (by (try simp only [putP, List.length_append, List.length_cons, List.length_nil]); omega) hE.now) ?_
  rintro _ w9 ⟨rfl, hPn, hEn⟩
  refine ⟨_, rfl, fun a hf => ?_⟩
  have hx8 := hEn.chg
  replace hB3 := hB3.chg hx8 (nm_blk hB3 rfl (Ne.symm ne_b_b2))
  replace hE := hE.trans hx8 (fun _ h => .inl h)
  obtain ⟨s7, es7⟩ : ∃ z, z = putP l0 [91] s := ⟨_, rfl⟩
  replace hPn : Pr Bs b (putP l0 [91] s).1 (putP l0 [91] s).2 w9 := hPn
  rw [← es7] at hPn
  have gs7 := put_len l0 [91] s
  rw [← es7] at gs7
  obtain ⟨gs7, gs7'⟩ := gs7
  (try simp only [List.length_cons, List.length_nil, lsum] at gs7 gs7')
  replace hG := nlt gs7 (Nat.add_le_add_right hG _)
  replace hG' := nlt gs7' (Nat.add_le_add_right hG' _)
  clear gs7 gs7'
  clear hP; have hP := hPn; clear hPn hEn
  refine rR 5 hf rfl fun a hf => rV hf rfl (ex_loadBN (m := 4) hf rfl (by kernel_rfl) hB3 rfl) fun a hf => rR 1 hf rfl fun a hf => rV hf rfl (ex_loadB hf rfl (by kernel_rfl) hB3 rfl) fun a hf => ?_
  have hLn := hL.now hE
  have hKn := hK.now hE
  have hRn := hR.now hE
  refine rC hf rfl rfl (by kernel_rfl) (plistI ih (s := s7) (ls := (l0 :: l1 :: ms)) (ks := ks) (c := 2) (ci := 2) (by decide) (by decide) (by decide) hcl hks (by simp only [lsum]; omega) (by simp only [lsum]; omega) hP hLn hKn hRn hE.now) ?_
  rintro _ w12 ⟨rfl, hPn, hEn⟩
  refine ⟨_, rfl, fun a hf => ?_⟩
  have hx11 := hEn.chg
  replace hB3 := hB3.chg hx11 (nm_blk hB3 rfl (Ne.symm ne_b_b2))
  replace hE := hE.trans hx11 (fun _ h => .inl h)
  obtain ⟨s10, es10⟩ : ∃ z, z = listP (l0 :: l1 :: ms) 2 (treesP ks) 0 s7 := ⟨_, rfl⟩
  replace hPn : Pr Bs b (listP (l0 :: l1 :: ms) 2 (treesP ks) 0 s7).1 (listP (l0 :: l1 :: ms) 2 (treesP ks) 0 s7).2 w12 := hPn
  rw [← es10] at hPn
  have gs10 := list_len (ls := (l0 :: l1 :: ms)) (c := 2) (by decide) hgk s7
  rw [← es10] at gs10
  obtain ⟨gs10, gs10'⟩ := gs10
  (try simp only [List.length_cons, List.length_nil, lsum] at gs10 gs10')
  replace hG := nlt gs10 (Nat.add_le_add_right hG _)
  replace hG' := nlt gs10' (Nat.add_le_add_right hG' _)
  clear gs10 gs10'
  clear hP; have hP := hPn; clear hPn hEn
  refine rR 5 hf rfl fun a hf => rV hf rfl (ex_loadB hf rfl (by kernel_rfl) hB3 rfl) fun a hf => rV hf rfl (ex_index (sz := 1) (k := 1) (r := lo + 1) hf Try.underlying23 (by kernel_rfl) rfl rfl rfl (by simp) rfl) fun a hf => rV hf rfl (ex_load hf rfl (by kernel_rfl) (lead_now hL hE (j := 1) rfl)) fun a hf => rC hf rfl rfl (by kernel_rfl) (putL (lead := l1) (tok := [93]) hP (by (try simp only [putP, List.length_append, List.length_cons, List.length_nil]); omega) (by (try simp only [putP, List.length_append, List.length_cons, List.length_nil]); omega) hE.now) ?_
  rintro _ w15 ⟨rfl, hPn, hEn⟩
  refine ⟨_, rfl, fun a hf => ?_⟩
  have hx14 := hEn.chg
  replace hB3 := hB3.chg hx14 (nm_blk hB3 rfl (Ne.symm ne_b_b2))
  replace hE := hE.trans hx14 (fun _ h => .inl h)
  obtain ⟨s13, es13⟩ : ∃ z, z = putP l1 [93] s10 := ⟨_, rfl⟩
  replace hPn : Pr Bs b (putP l1 [93] s10).1 (putP l1 [93] s10).2 w15 := hPn
  rw [← es13] at hPn
  have gs13 := put_len l1 [93] s10
  rw [← es13] at gs13
  obtain ⟨gs13, gs13'⟩ := gs13
  (try simp only [List.length_cons, List.length_nil, lsum] at gs13 gs13')
  replace hG := nlt gs13 (Nat.add_le_add_right hG _)
  replace hG' := nlt gs13' (Nat.add_le_add_right hG' _)
  clear gs13 gs13'
  clear hP; have hP := hPn; clear hPn hEn
  refine rR 2 hf rfl fun a hf => ?_
  have eq : treeP (.node 18 x (l0 :: l1 :: ms) ks) s = s13 := by subst es13; subst es10; subst es7; rw [treeP]; rfl
  rw [eq]
  exact rF (rs := []) hf rfl rfl ⟨rfl, hP, hE⟩
theorem node2 (x : List UInt8) (ls : List (List UInt8)) (fs : List (WS → WS)) (f g : WS → WS) (s : WS) : nodeP 2 x ls (fs ++ [f, g]) s = g (putP (ls.getD 5 []) [61] (f (putP (ls.getD 4 []) [58] (putP (ls.getD 3 []) [41] (listP ls 6 fs 0 (putP (ls.getD 2 []) [40] (putP (ls.getD 1 []) x (putP (ls.getD 0 []) [100, 101, 102] s)))))))) := by
  unfold nodeP
  rw [if_pos (by decide)]
  unfold defnP
  dsimp only
  rw [if_neg (by decide), if_pos rfl]
  have k1 : (fs ++ [f, g]).length - 2 = fs.length := by simp
  have k2 : (fs ++ [f, g]).length - 1 = fs.length + 1 := by simp
  rw [k1, k2]
  have t1 : (fs ++ [f, g]).take fs.length = fs := by rw [List.take_append_of_le_length (Nat.le_refl _), List.take_length]
  have t2 : (fs ++ [f, g]).getD fs.length id = f := by rw [List.getD_eq_getElem?_getD, List.getElem?_append_right (Nat.le_refl _), Nat.sub_self]; rfl
  have t3 : (fs ++ [f, g]).getD (fs.length + 1) id = g := by rw [List.getD_eq_getElem?_getD, List.getElem?_append_right (by omega), show fs.length + 1 - fs.length = 1 from by omega]; rfl
  rw [t1, t2, t3]
theorem d2 {N : Nat} (ih : TreeOk N) {w : World} {Bs b : Nat} {s : WS} {x : List UInt8} {l0 l1 l2 l3 l4 l5 : List UInt8} {ms : List (List UInt8)} {k0 k1 : Tree} {ps : List Tree} {cs : List Value} {A B : Option Addr} {m n : Nat} (hcl : 6 + ps.length ≤ (l0 :: l1 :: l2 :: l3 :: l4 :: l5 :: ms).length + 1) (hks : ∀ t, t ∈ (ps ++ [k0, k1]) → tsize t ≤ N ∧ shapedT t = true ∧ leadedT t = true)
    (hl1 : s.2.length + 100 * (x.length + lsum (l0 :: l1 :: l2 :: l3 :: l4 :: l5 :: ms) + kbulk (ps ++ [k0, k1]) + 1) ≤ 1000000000000) (hl2 : s.1.length + 100 * (x.length + lsum (l0 :: l1 :: l2 :: l3 :: l4 :: l5 :: ms) + kbulk (ps ++ [k0, k1]) + 1) ≤ 1000000000000) (hP : Pr Bs b s.1 s.2 w) (hL : RowIn (fun b => b < Bs) w 1 A (l0 :: l1 :: l2 :: l3 :: l4 :: l5 :: ms).length ((l0 :: l1 :: l2 :: l3 :: l4 :: l5 :: ms).map strV)) (hn : (ps ++ [k0, k1]).length ≤ n) (hn2 : n ≤ maxLen) (hK : KidsAre (fun b => b < Bs) w (ps ++ [k0, k1]) cs) (hR : RowIn (fun b => b < Bs) w 4 B (ps ++ [k0, k1]).length cs) (hBw : Bs ≤ w.heap.size) :
    Calls Try.prog 91 [.pointer (some ⟨b, 0, none⟩), .agg #[.int .i64 2, strV x, .slice A (l0 :: l1 :: l2 :: l3 :: l4 :: l5 :: ms).length m, .slice B (ps ++ [k0, k1]).length n]].toArray w fun e w' => e = .returned (.tuple #[]) ∧ Pr Bs b (treeP (.node 2 x (l0 :: l1 :: l2 :: l3 :: l4 :: l5 :: ms) (ps ++ [k0, k1])) s).1 (treeP (.node 2 x (l0 :: l1 :: l2 :: l3 :: l4 :: l5 :: ms) (ps ++ [k0, k1])) s).2 w' ∧ Prn Bs b w w' := by
  simp only [lsum, kbulk] at hl1 hl2
  have hgk : ∀ t, t ∈ ps → ∀ s, Gw (100 * tbulk t) s (treeP t s) := fun t ht s => Gw.tree _ t (Nat.le_refl _) (hks t (by simp [ht])).2.2 s
  have hKL := kbulk_len ps
  simp only [kbulk_app, kbulk] at hl1 hl2
  have hll := lsum_len ms
  have hcl' := hcl
  simp only [List.length_cons] at hcl'
  obtain ⟨cs1, cs2, rfl, hKp, hKq⟩ := hK.part
  have hRp := hR.part hKp.length (by simp)
  have hE := Prn.refl (b := b) hBw
  have hG : s.2.length ≤ s.2.length := Nat.le_refl _
  have hG' : s.1.length ≤ s.1.length := Nat.le_refl _
  obtain ⟨lb, lo, rfl, _, hlb, _⟩ := hL.2 (by simp)
  obtain ⟨kb, ko, rfl, _, hkb, _⟩ := hR.2 (by simp)
  refine rE 161 Try.func91 rfl rfl rfl ?_
  intro a hf
  refine rR 2 hf rfl fun a hf => ?_
  obtain ⟨w1, b2, he, hB3, hx4, eb5, lb6⟩ := ef_box (P := Try.prog) (t := 26) (x := (.tmp 1)) hf rfl rfl w 0
  refine rV hf rfl he fun a hf => ?_
  have ge_b2 := Prn.ge_new hE eb5
  have ne_b_b2 : b ≠ b2 := ne_new hP.lt eb5
  replace hP := hP.chg0 hx4
  replace hE := hE.t0 hx4
  clear eb5 lb6
  refine rR 5 hf rfl fun a hf => rV hf rfl (ex_loadB hf rfl (by kernel_rfl) hB3 rfl) fun a hf => rR 20 hf rfl fun a hf => rV hf rfl (ex_loadB hf rfl (by kernel_rfl) hB3 rfl) fun a hf => rV hf rfl (ex_len hf Try.underlying24 rfl) fun a hf => rR 7 hf rfl fun a hf => rV hf rfl (ex_loadB hf rfl (by kernel_rfl) hB3 rfl) fun a hf => rV hf rfl (ex_index (sz := 1) (k := 0) (r := lo) hf Try.underlying23 (by kernel_rfl) rfl rfl rfl (by simp) rfl) fun a hf => rV hf rfl (ex_load hf rfl (by kernel_rfl) (lead_now hL hE (j := 0) rfl)) fun a hf => rC hf rfl rfl (by kernel_rfl) (putL (lead := l0) (tok := [100, 101, 102]) hP (by (try simp only [putP, List.length_append, List.length_cons, List.length_nil]); omega) (by (try simp only [putP, List.length_append, List.length_cons, List.length_nil]); omega) hE.now) ?_
  rintro _ w9 ⟨rfl, hPn, hEn⟩
  refine ⟨_, rfl, fun a hf => ?_⟩
  have hx8 := hEn.chg
  replace hB3 := hB3.chg hx8 (nm_blk hB3 rfl (Ne.symm ne_b_b2))
  replace hE := hE.trans hx8 (fun _ h => .inl h)
  obtain ⟨s7, es7⟩ : ∃ z, z = putP l0 [100, 101, 102] s := ⟨_, rfl⟩
  replace hPn : Pr Bs b (putP l0 [100, 101, 102] s).1 (putP l0 [100, 101, 102] s).2 w9 := hPn
  rw [← es7] at hPn
  have gs7 := put_len l0 [100, 101, 102] s
  rw [← es7] at gs7
  obtain ⟨gs7, gs7'⟩ := gs7
  (try simp only [List.length_cons, List.length_nil, lsum] at gs7 gs7')
  replace hG := nlt gs7 (Nat.add_le_add_right hG _)
  replace hG' := nlt gs7' (Nat.add_le_add_right hG' _)
  clear gs7 gs7'
  clear hP; have hP := hPn; clear hPn hEn
  refine rR 3 hf rfl fun a hf => ?_
  have s_lb := lead_now hL hE (j := 1) rfl
  have s_hB3 := hB3
  refine rD (fun x => x.cell? ⟨b2, 2, none⟩ = w9.cell? ⟨b2, 2, none⟩ ∧ x.cell? ⟨lb, lo + 1, none⟩ = w9.cell? ⟨lb, lo + 1, none⟩ ∧ x.cell? ⟨b2, 1, none⟩ = w9.cell? ⟨b2, 1, none⟩) 8 8 rfl (by kernel_rfl) (by kernel_rfl) ?_
  intro w10 hx11 hsel
  replace hB3 := hB3.c0 hx11
  replace hP := hP.chg0 hx11
  replace hE := hE.t0 hx11
  have hS0 : w10.cell? ⟨b2, 2, none⟩ = w9.cell? ⟨b2, 2, none⟩ ∧ w10.cell? ⟨lb, lo + 1, none⟩ = w9.cell? ⟨lb, lo + 1, none⟩ ∧ w10.cell? ⟨b2, 1, none⟩ = w9.cell? ⟨b2, 1, none⟩ := ⟨(hB3.cell 2).trans (s_hB3.cell 2).symm, ((lead_now hL hE (j := 1) rfl).trans s_lb.symm), (hB3.cell 1).trans (s_hB3.cell 1).symm⟩
  refine dR [0, 1] hsel (by kernel_rfl) hf rfl rfl (.inl hS0) fun a hf => dL 2 rfl rfl hsel (by kernel_rfl) hf rfl hS0 (fun x hS => ex_load hf rfl (by kernel_rfl) (hS.1.trans ((s_hB3.cell 2).trans rfl))) fun a hf => dV 3 rfl rfl hsel (by kernel_rfl) hf rfl (.inl hS0) (fun x => ex_index (sz := 1) (k := 1) (r := lo + 1) hf Try.underlying23 (by kernel_rfl) rfl rfl rfl (by simp) rfl) fun a hf => dL 4 rfl rfl hsel (by kernel_rfl) hf rfl hS0 (fun x hS => ex_load hf rfl (by kernel_rfl) (hS.2.1.trans s_lb)) fun a hf => dR [5] hsel (by kernel_rfl) hf rfl rfl (.inl hS0) fun a hf => dL 6 rfl rfl hsel (by kernel_rfl) hf rfl hS0 (fun x hS => ex_load hf rfl (by kernel_rfl) (hS.2.2.trans ((s_hB3.cell 1).trans rfl))) fun a hf => dl_c 7 (by kernel_rfl) rfl hf rfl rfl rfl (by kernel_rfl) (putL (lead := l1) (tok := x) hP (by (try simp only [putP, List.length_append, List.length_cons, List.length_nil]); omega) (by (try simp only [putP, List.length_append, List.length_cons, List.length_nil]); omega) hE.now) ?_
  rintro _ w14 ⟨rfl, hPn, hEn⟩
  refine ⟨_, rfl, fun a hf => ?_⟩
  have hx13 := hEn.chg
  replace hB3 := hB3.chg hx13 (nm_blk hB3 rfl (Ne.symm ne_b_b2))
  replace hE := hE.trans hx13 (fun _ h => .inl h)
  obtain ⟨s12, es12⟩ : ∃ z, z = putP l1 x s7 := ⟨_, rfl⟩
  replace hPn : Pr Bs b (putP l1 x s7).1 (putP l1 x s7).2 w14 := hPn
  rw [← es12] at hPn
  have gs12 := put_len l1 x s7
  rw [← es12] at gs12
  obtain ⟨gs12, gs12'⟩ := gs12
  (try simp only [List.length_cons, List.length_nil, lsum] at gs12 gs12')
  replace hG := nlt gs12 (Nat.add_le_add_right hG _)
  replace hG' := nlt gs12' (Nat.add_le_add_right hG' _)
  clear gs12 gs12'
  clear hP; have hP := hPn; clear hPn hEn
  clear hS0
  have hS0 : w14.cell? ⟨b2, 2, none⟩ = w9.cell? ⟨b2, 2, none⟩ ∧ w14.cell? ⟨lb, lo + 1, none⟩ = w9.cell? ⟨lb, lo + 1, none⟩ ∧ w14.cell? ⟨b2, 1, none⟩ = w9.cell? ⟨b2, 1, none⟩ := ⟨(hB3.cell 2).trans (s_hB3.cell 2).symm, ((lead_now hL hE (j := 1) rfl).trans s_lb.symm), (hB3.cell 1).trans (s_hB3.cell 1).symm⟩
  refine ⟨.inl hS0, ?_⟩
  refine rN (by kernel_rfl) ?_
  clear hS0 hsel
  refine rR 5 hf rfl fun a hf => rV hf rfl (ex_loadB hf rfl (by kernel_rfl) hB3 rfl) fun a hf => rV hf rfl (ex_index (sz := 1) (k := 2) (r := lo + 2) hf Try.underlying23 (by kernel_rfl) rfl rfl rfl (by simp) rfl) fun a hf => rV hf rfl (ex_load hf rfl (by kernel_rfl) (lead_now hL hE (j := 2) rfl)) fun a hf => rC hf rfl rfl (by kernel_rfl) (putL (lead := l2) (tok := [40]) hP (by (try simp only [putP, List.length_append, List.length_cons, List.length_nil]); omega) (by (try simp only [putP, List.length_append, List.length_cons, List.length_nil]); omega) hE.now) ?_
  rintro _ w17 ⟨rfl, hPn, hEn⟩
  refine ⟨_, rfl, fun a hf => ?_⟩
  have hx16 := hEn.chg
  replace hB3 := hB3.chg hx16 (nm_blk hB3 rfl (Ne.symm ne_b_b2))
  replace hE := hE.trans hx16 (fun _ h => .inl h)
  obtain ⟨s15, es15⟩ : ∃ z, z = putP l2 [40] s12 := ⟨_, rfl⟩
  replace hPn : Pr Bs b (putP l2 [40] s12).1 (putP l2 [40] s12).2 w17 := hPn
  rw [← es15] at hPn
  have gs15 := put_len l2 [40] s12
  rw [← es15] at gs15
  obtain ⟨gs15, gs15'⟩ := gs15
  (try simp only [List.length_cons, List.length_nil, lsum] at gs15 gs15')
  replace hG := nlt gs15 (Nat.add_le_add_right hG _)
  replace hG' := nlt gs15' (Nat.add_le_add_right hG' _)
  clear gs15 gs15'
  clear hP; have hP := hPn; clear hPn hEn
  refine rR 3 hf rfl fun a hf => ?_
  have s_hB3 := hB3
  refine rD (fun x => x.cell? ⟨b2, 0, none⟩ = w17.cell? ⟨b2, 0, none⟩ ∧ x.cell? ⟨b2, 1, none⟩ = w17.cell? ⟨b2, 1, none⟩ ∧ x.cell? ⟨b2, 2, none⟩ = w17.cell? ⟨b2, 2, none⟩ ∧ x.cell? ⟨b2, 3, none⟩ = w17.cell? ⟨b2, 3, none⟩) 8 8 rfl (by kernel_rfl) (by kernel_rfl) ?_
  intro w18 hx19 hsel
  replace hB3 := hB3.c0 hx19
  replace hP := hP.chg0 hx19
  replace hE := hE.t0 hx19
  have hS0 : w18.cell? ⟨b2, 0, none⟩ = w17.cell? ⟨b2, 0, none⟩ ∧ w18.cell? ⟨b2, 1, none⟩ = w17.cell? ⟨b2, 1, none⟩ ∧ w18.cell? ⟨b2, 2, none⟩ = w17.cell? ⟨b2, 2, none⟩ ∧ w18.cell? ⟨b2, 3, none⟩ = w17.cell? ⟨b2, 3, none⟩ := ⟨(hB3.cell 0).trans (s_hB3.cell 0).symm, (hB3.cell 1).trans (s_hB3.cell 1).symm, (hB3.cell 2).trans (s_hB3.cell 2).symm, (hB3.cell 3).trans (s_hB3.cell 3).symm⟩
  refine dR [0] hsel (by kernel_rfl) hf rfl rfl (.inl hS0) fun a hf => dL 1 rfl rfl hsel (by kernel_rfl) hf rfl hS0 (fun x hS => ex_loadX4 hf rfl (by kernel_rfl) s_hB3 rfl hS.1 hS.2.1 hS.2.2.1 hS.2.2.2) fun a hf => dR [2] hsel (by kernel_rfl) hf rfl rfl (.inl hS0) fun a hf => dL 3 rfl rfl hsel (by kernel_rfl) hf rfl hS0 (fun x hS => ex_load hf rfl (by kernel_rfl) (hS.2.2.2.trans ((s_hB3.cell 3).trans rfl))) fun a hf => dR [4] hsel (by kernel_rfl) hf rfl rfl (.inl hS0) fun a hf => dV 5 rfl rfl hsel (by kernel_rfl) hf rfl (.inl hS0) (fun x => ex_subI hf rfl rfl rfl (by simp only [List.length_append, List.length_cons, List.length_nil]; omega)) fun a hf => dV 6 rfl rfl hsel (by kernel_rfl) hf rfl (.inl hS0) (fun x => ex_slH (sz := 4) (k := ps.length) hf Try.underlying24 (by kernel_rfl) rfl rfl (by simp only [List.length_append, List.length_cons, List.length_nil]; omega) (by simp only [List.length_append, List.length_cons, List.length_nil] at hn; omega)) fun a hf => ?_
  have hLn := hL.now hE
  have hKn := hKp.now hE
  have hRn := hRp.now hE
  refine dl_c 7 (by kernel_rfl) rfl hf rfl rfl rfl (by kernel_rfl) (plistI ih (s := s15) (ls := (l0 :: l1 :: l2 :: l3 :: l4 :: l5 :: ms)) (ks := ps) (c := 6) (ci := 6) (by decide) (by decide) (by decide) hcl (fun t ht => hks t (by simp [ht])) (by simp only [lsum]; omega) (by simp only [lsum]; omega) hP hLn hKn hRn hE.now) ?_
  rintro _ w22 ⟨rfl, hPn, hEn⟩
  refine ⟨_, rfl, fun a hf => ?_⟩
  have hx21 := hEn.chg
  replace hB3 := hB3.chg hx21 (nm_blk hB3 rfl (Ne.symm ne_b_b2))
  replace hE := hE.trans hx21 (fun _ h => .inl h)
  obtain ⟨s20, es20⟩ : ∃ z, z = listP (l0 :: l1 :: l2 :: l3 :: l4 :: l5 :: ms) 6 (treesP ps) 0 s15 := ⟨_, rfl⟩
  replace hPn : Pr Bs b (listP (l0 :: l1 :: l2 :: l3 :: l4 :: l5 :: ms) 6 (treesP ps) 0 s15).1 (listP (l0 :: l1 :: l2 :: l3 :: l4 :: l5 :: ms) 6 (treesP ps) 0 s15).2 w22 := hPn
  rw [← es20] at hPn
  have gs20 := list_len (ls := (l0 :: l1 :: l2 :: l3 :: l4 :: l5 :: ms)) (c := 6) (by decide) hgk s15
  rw [← es20] at gs20
  obtain ⟨gs20, gs20'⟩ := gs20
  (try simp only [List.length_cons, List.length_nil, lsum] at gs20 gs20')
  replace hG := nlt gs20 (Nat.add_le_add_right hG _)
  replace hG' := nlt gs20' (Nat.add_le_add_right hG' _)
  clear gs20 gs20'
  clear hP; have hP := hPn; clear hPn hEn
  clear hS0
  have hS0 : w22.cell? ⟨b2, 0, none⟩ = w17.cell? ⟨b2, 0, none⟩ ∧ w22.cell? ⟨b2, 1, none⟩ = w17.cell? ⟨b2, 1, none⟩ ∧ w22.cell? ⟨b2, 2, none⟩ = w17.cell? ⟨b2, 2, none⟩ ∧ w22.cell? ⟨b2, 3, none⟩ = w17.cell? ⟨b2, 3, none⟩ := ⟨(hB3.cell 0).trans (s_hB3.cell 0).symm, (hB3.cell 1).trans (s_hB3.cell 1).symm, (hB3.cell 2).trans (s_hB3.cell 2).symm, (hB3.cell 3).trans (s_hB3.cell 3).symm⟩
  refine ⟨.inl hS0, ?_⟩
  refine rN (by kernel_rfl) ?_
  clear hS0 hsel
  refine rR 5 hf rfl fun a hf => rV hf rfl (ex_loadB hf rfl (by kernel_rfl) hB3 rfl) fun a hf => rV hf rfl (ex_index (sz := 1) (k := 3) (r := lo + 3) hf Try.underlying23 (by kernel_rfl) rfl rfl rfl (by simp) rfl) fun a hf => rV hf rfl (ex_load hf rfl (by kernel_rfl) (lead_now hL hE (j := 3) rfl)) fun a hf => rC hf rfl rfl (by kernel_rfl) (putL (lead := l3) (tok := [41]) hP (by (try simp only [putP, List.length_append, List.length_cons, List.length_nil]); omega) (by (try simp only [putP, List.length_append, List.length_cons, List.length_nil]); omega) hE.now) ?_
  rintro _ w25 ⟨rfl, hPn, hEn⟩
  refine ⟨_, rfl, fun a hf => ?_⟩
  have hx24 := hEn.chg
  replace hB3 := hB3.chg hx24 (nm_blk hB3 rfl (Ne.symm ne_b_b2))
  replace hE := hE.trans hx24 (fun _ h => .inl h)
  obtain ⟨s23, es23⟩ : ∃ z, z = putP l3 [41] s20 := ⟨_, rfl⟩
  replace hPn : Pr Bs b (putP l3 [41] s20).1 (putP l3 [41] s20).2 w25 := hPn
  rw [← es23] at hPn
  have gs23 := put_len l3 [41] s20
  rw [← es23] at gs23
  obtain ⟨gs23, gs23'⟩ := gs23
  (try simp only [List.length_cons, List.length_nil, lsum] at gs23 gs23')
  replace hG := nlt gs23 (Nat.add_le_add_right hG _)
  replace hG' := nlt gs23' (Nat.add_le_add_right hG' _)
  clear gs23 gs23'
  clear hP; have hP := hPn; clear hPn hEn
  refine rR 6 hf rfl fun a hf => rV hf rfl (ex_loadB hf rfl (by kernel_rfl) hB3 rfl) fun a hf => rV hf rfl (ex_index (sz := 1) (k := 4) (r := lo + 4) hf Try.underlying23 (by kernel_rfl) rfl rfl rfl (by simp) rfl) fun a hf => rV hf rfl (ex_load hf rfl (by kernel_rfl) (lead_now hL hE (j := 4) rfl)) fun a hf => rC hf rfl rfl (by kernel_rfl) (putL (lead := l4) (tok := [58]) hP (by (try simp only [putP, List.length_append, List.length_cons, List.length_nil]); omega) (by (try simp only [putP, List.length_append, List.length_cons, List.length_nil]); omega) hE.now) ?_
  rintro _ w28 ⟨rfl, hPn, hEn⟩
  refine ⟨_, rfl, fun a hf => ?_⟩
  have hx27 := hEn.chg
  replace hB3 := hB3.chg hx27 (nm_blk hB3 rfl (Ne.symm ne_b_b2))
  replace hE := hE.trans hx27 (fun _ h => .inl h)
  obtain ⟨s26, es26⟩ : ∃ z, z = putP l4 [58] s23 := ⟨_, rfl⟩
  replace hPn : Pr Bs b (putP l4 [58] s23).1 (putP l4 [58] s23).2 w28 := hPn
  rw [← es26] at hPn
  have gs26 := put_len l4 [58] s23
  rw [← es26] at gs26
  obtain ⟨gs26, gs26'⟩ := gs26
  (try simp only [List.length_cons, List.length_nil, lsum] at gs26 gs26')
  replace hG := nlt gs26 (Nat.add_le_add_right hG _)
  replace hG' := nlt gs26' (Nat.add_le_add_right hG' _)
  clear gs26 gs26'
  clear hP; have hP := hPn; clear hPn hEn
  refine rR 6 hf rfl fun a hf => rV hf rfl (ex_loadB hf rfl (by kernel_rfl) hB3 rfl) fun a hf => rR 1 hf rfl fun a hf => rV hf rfl (ex_subI hf rfl rfl rfl (by simp only [List.length_append, List.length_cons, List.length_nil]; omega)) fun a hf => rV hf rfl (ex_index (sz := 4) (k := ps.length) (r := ko + ps.length * 4) hf Try.underlying24 (by kernel_rfl) rfl rfl (by simp only [List.length_append, List.length_cons, List.length_nil]; omega) (by simp only [List.length_append, List.length_cons, List.length_nil]; omega) rfl) fun a hf => ?_
  obtain ⟨d0, d1, d2, d3, hT, hK4⟩ := kid_now hK hR hE (i := ps.length) (t := k0) (by simp)
  have on_T := hT.one
  refine rV hf rfl (ex_loadN (cs := [d0, d1, d2, d3]) (m := 4) hf rfl (by kernel_rfl) rfl hK4) fun a hf => rC hf rfl rfl (by kernel_rfl) (ih k0 _ Bs b s26 d0 d1 d2 d3 (hks _ (by simp)).1 (hks _ (by simp)).2.1 (hks _ (by simp)).2.2 (by (try simp only [putP, List.length_append, List.length_cons, List.length_nil]); omega) (by (try simp only [putP, List.length_append, List.length_cons, List.length_nil]); omega) hP hT hE.now) ?_
  rintro _ w31 ⟨rfl, hPn, hEn⟩
  refine ⟨_, rfl, fun a hf => ?_⟩
  have hx30 := hEn.chg
  replace hB3 := hB3.chg hx30 (nm_blk hB3 rfl (Ne.symm ne_b_b2))
  replace hE := hE.trans hx30 (fun _ h => .inl h)
  obtain ⟨s29, es29⟩ : ∃ z, z = treeP k0 s26 := ⟨_, rfl⟩
  replace hPn : Pr Bs b (treeP k0 s26).1 (treeP k0 s26).2 w31 := hPn
  rw [← es29] at hPn
  have gs29 := tree_len (t := k0) (hks _ (by simp)).2.2 s26
  rw [← es29] at gs29
  obtain ⟨gs29, gs29'⟩ := gs29
  (try simp only [List.length_cons, List.length_nil, lsum] at gs29 gs29')
  replace hG := nlt gs29 (Nat.add_le_add_right hG _)
  replace hG' := nlt gs29' (Nat.add_le_add_right hG' _)
  clear gs29 gs29'
  clear hP; have hP := hPn; clear hPn hEn
  refine rR 6 hf rfl fun a hf => rV hf rfl (ex_loadB hf rfl (by kernel_rfl) hB3 rfl) fun a hf => rV hf rfl (ex_index (sz := 1) (k := 5) (r := lo + 5) hf Try.underlying23 (by kernel_rfl) rfl rfl rfl (by simp) rfl) fun a hf => rV hf rfl (ex_load hf rfl (by kernel_rfl) (lead_now hL hE (j := 5) rfl)) fun a hf => rC hf rfl rfl (by kernel_rfl) (putL (lead := l5) (tok := [61]) hP (by (try simp only [putP, List.length_append, List.length_cons, List.length_nil]); omega) (by (try simp only [putP, List.length_append, List.length_cons, List.length_nil]); omega) hE.now) ?_
  rintro _ w34 ⟨rfl, hPn, hEn⟩
  refine ⟨_, rfl, fun a hf => ?_⟩
  have hx33 := hEn.chg
  replace hB3 := hB3.chg hx33 (nm_blk hB3 rfl (Ne.symm ne_b_b2))
  replace hE := hE.trans hx33 (fun _ h => .inl h)
  obtain ⟨s32, es32⟩ : ∃ z, z = putP l5 [61] s29 := ⟨_, rfl⟩
  replace hPn : Pr Bs b (putP l5 [61] s29).1 (putP l5 [61] s29).2 w34 := hPn
  rw [← es32] at hPn
  have gs32 := put_len l5 [61] s29
  rw [← es32] at gs32
  obtain ⟨gs32, gs32'⟩ := gs32
  (try simp only [List.length_cons, List.length_nil, lsum] at gs32 gs32')
  replace hG := nlt gs32 (Nat.add_le_add_right hG _)
  replace hG' := nlt gs32' (Nat.add_le_add_right hG' _)
  clear gs32 gs32'
  clear hP; have hP := hPn; clear hPn hEn
  refine rR 5 hf rfl fun a hf => rV hf rfl (ex_loadB hf rfl (by kernel_rfl) hB3 rfl) fun a hf => rR 1 hf rfl fun a hf => rV hf rfl (ex_subI hf rfl rfl rfl (by simp only [List.length_append, List.length_cons, List.length_nil]; omega)) fun a hf => rV hf rfl (ex_index (sz := 4) (k := (ps.length + 1)) (r := ko + (ps.length + 1) * 4) hf Try.underlying24 (by kernel_rfl) rfl rfl (by simp only [List.length_append, List.length_cons, List.length_nil]; omega) (by simp only [List.length_append, List.length_cons, List.length_nil]; omega) rfl) fun a hf => ?_
  obtain ⟨d0, d1, d2, d3, hT, hK4⟩ := kid_now hK hR hE (i := (ps.length + 1)) (t := k1) (by simp)
  have on_T := hT.one
  refine rV hf rfl (ex_loadN (cs := [d0, d1, d2, d3]) (m := 4) hf rfl (by kernel_rfl) rfl hK4) fun a hf => rC hf rfl rfl (by kernel_rfl) (ih k1 _ Bs b s32 d0 d1 d2 d3 (hks _ (by simp)).1 (hks _ (by simp)).2.1 (hks _ (by simp)).2.2 (by (try simp only [putP, List.length_append, List.length_cons, List.length_nil]); omega) (by (try simp only [putP, List.length_append, List.length_cons, List.length_nil]); omega) hP hT hE.now) ?_
  rintro _ w37 ⟨rfl, hPn, hEn⟩
  refine ⟨_, rfl, fun a hf => ?_⟩
  have hx36 := hEn.chg
  replace hB3 := hB3.chg hx36 (nm_blk hB3 rfl (Ne.symm ne_b_b2))
  replace hE := hE.trans hx36 (fun _ h => .inl h)
  obtain ⟨s35, es35⟩ : ∃ z, z = treeP k1 s32 := ⟨_, rfl⟩
  replace hPn : Pr Bs b (treeP k1 s32).1 (treeP k1 s32).2 w37 := hPn
  rw [← es35] at hPn
  have gs35 := tree_len (t := k1) (hks _ (by simp)).2.2 s32
  rw [← es35] at gs35
  obtain ⟨gs35, gs35'⟩ := gs35
  (try simp only [List.length_cons, List.length_nil, lsum] at gs35 gs35')
  replace hG := nlt gs35 (Nat.add_le_add_right hG _)
  replace hG' := nlt gs35' (Nat.add_le_add_right hG' _)
  clear gs35 gs35'
  clear hP; have hP := hPn; clear hPn hEn
  refine rR 2 hf rfl fun a hf => ?_
  have eq : treeP (.node 2 x (l0 :: l1 :: l2 :: l3 :: l4 :: l5 :: ms) (ps ++ [k0, k1])) s = s35 := by subst es35; subst es32; subst es29; subst es26; subst es23; subst es20; subst es15; subst es12; subst es7; rw [treeP, treesP_app, treesP, treesP, treesP, node2]; rfl
  rw [eq]
  exact rF (rs := []) hf rfl rfl ⟨rfl, hP, hE⟩
end Go.Proofs.Ythpjpngfghcmcaa
namespace Go.Proofs.Ythpjpngfghcmcaa
open Go.RowKit Lx Sx
set_option maxRecDepth 100000
set_option maxHeartbeats 4000000
def foldP (ks : List Tree) (s : WS) : WS := (treesP ks).foldl (fun s f => f s) s
theorem fold_step {ks : List Tree} {i : Nat} (s : WS) (h : i < ks.length) : foldP (ks.take (i + 1)) s = treeP ks[i] (foldP (ks.take i) s) := by
  unfold foldP
  rw [List.take_succ_eq_append_getElem h, treesP_app, treesP, treesP, List.foldl_append]; rfl
theorem d1 {N : Nat} (ih : TreeOk N) {w : World} {Bs b : Nat} {s : WS} {x : List UInt8} {l0 l1 l2 : List UInt8} {ks : List Tree} {cs : List Value} {A B : Option Addr} {m n : Nat} (hks : ∀ t, t ∈ ks → tsize t ≤ N ∧ shapedT t = true ∧ leadedT t = true)
    (hl1 : s.2.length + 100 * (x.length + lsum [l0, l1, l2] + kbulk ks + 1) ≤ 1000000000000) (hl2 : s.1.length + 100 * (x.length + lsum [l0, l1, l2] + kbulk ks + 1) ≤ 1000000000000) (hP : Pr Bs b s.1 s.2 w) (hL : RowIn (fun b => b < Bs) w 1 A [l0, l1, l2].length ([l0, l1, l2].map strV)) (hn : ks.length ≤ n) (hn2 : n ≤ maxLen) (hK : KidsAre (fun b => b < Bs) w ks cs) (hR : RowIn (fun b => b < Bs) w 4 B ks.length cs) (hBw : Bs ≤ w.heap.size) :
    Calls Try.prog 91 [.pointer (some ⟨b, 0, none⟩), .agg #[.int .i64 1, strV x, .slice A [l0, l1, l2].length m, .slice B ks.length n]].toArray w fun e w' => e = .returned (.tuple #[]) ∧ Pr Bs b (treeP (.node 1 x [l0, l1, l2] ks) s).1 (treeP (.node 1 x [l0, l1, l2] ks) s).2 w' ∧ Prn Bs b w w' := by
  simp only [lsum, kbulk] at hl1 hl2
  have hgk : ∀ t, t ∈ ks → ∀ s, Gw (100 * tbulk t) s (treeP t s) := fun t ht s => Gw.tree _ t (Nat.le_refl _) (hks t ht).2.2 s
  have hKL := kbulk_len ks
  have hE := Prn.refl (b := b) hBw
  have hG : s.2.length ≤ s.2.length := Nat.le_refl _
  have hG' : s.1.length ≤ s.1.length := Nat.le_refl _
  obtain ⟨lb, lo, rfl, _, hlb, _⟩ := hL.2 (by simp)
  refine rE 161 Try.func91 rfl rfl rfl ?_
  intro a hf
  refine rR 2 hf rfl ?_
  clear hf a; intro a hf
  obtain ⟨w1, b2, he, hB3, hx4, eb5, lb6⟩ := ef_box (P := Try.prog) (t := 26) (x := (.tmp 1)) hf rfl rfl w 0
  refine rV hf rfl he ?_
  clear he hf a; intro a hf
  have ge_b2 := Prn.ge_new hE eb5
  have ne_b_b2 : b ≠ b2 := ne_new hP.lt eb5
  replace hP := hP.chg0 hx4
  replace hE := hE.t0 hx4
  clear eb5 lb6
  refine rR 5 hf rfl ?_
  clear hf a; intro a hf
  refine rV hf rfl (ex_loadB hf rfl (by kernel_rfl) hB3 rfl) ?_
  clear hf a; intro a hf
  refine rR 14 hf rfl ?_
  clear hf a; intro a hf
  refine rV hf rfl (ex_loadB hf rfl (by kernel_rfl) hB3 rfl) ?_
  clear hf a; intro a hf
  refine rV hf rfl (ex_index (sz := 1) (k := 0) (r := lo) hf Try.underlying23 (by kernel_rfl) rfl rfl rfl (by simp) rfl) ?_
  clear hf a; intro a hf
  refine rV hf rfl (ex_load hf rfl (by kernel_rfl) (lead_now hL hE (j := 0) rfl)) ?_
  clear hf a; intro a hf
  refine rC hf rfl rfl (by kernel_rfl) (putL (lead := l0) (tok := [109, 111, 100, 117, 108, 101]) hP (by (try simp only [putP, List.length_append, List.length_cons, List.length_nil]); omega) (by (try simp only [putP, List.length_append, List.length_cons, List.length_nil]); omega) hE.now) ?_
  rintro _ w9 ⟨rfl, hPn, hEn⟩
  refine ⟨_, rfl, ?_⟩
  clear hf a; intro a hf
  have hx8 := hEn.chg
  replace hB3 := hB3.chg hx8 (nm_blk hB3 rfl (Ne.symm ne_b_b2))
  replace hE := hE.trans hx8 (fun _ h => .inl h)
  obtain ⟨s7, es7⟩ : ∃ z, z = putP l0 [109, 111, 100, 117, 108, 101] s := ⟨_, rfl⟩
  replace hPn : Pr Bs b (putP l0 [109, 111, 100, 117, 108, 101] s).1 (putP l0 [109, 111, 100, 117, 108, 101] s).2 w9 := hPn
  rw [← es7] at hPn
  have gs7 := put_len l0 [109, 111, 100, 117, 108, 101] s
  rw [← es7] at gs7
  obtain ⟨gs7, gs7'⟩ := gs7
  (try simp only [List.length_cons, List.length_nil, lsum] at gs7 gs7')
  replace hG := nlt gs7 (Nat.add_le_add_right hG _)
  replace hG' := nlt gs7' (Nat.add_le_add_right hG' _)
  clear gs7 gs7'
  clear hP; have hP := hPn; clear hPn hEn
  refine rR 3 hf rfl ?_
  clear hf a; intro a hf
  have s_lb := lead_now hL hE (j := 1) rfl
  have s_hB3 := hB3
  refine rD (fun x => x.cell? ⟨b2, 2, none⟩ = w9.cell? ⟨b2, 2, none⟩ ∧ x.cell? ⟨lb, lo + 1, none⟩ = w9.cell? ⟨lb, lo + 1, none⟩ ∧ x.cell? ⟨b2, 1, none⟩ = w9.cell? ⟨b2, 1, none⟩) 8 8 rfl (by kernel_rfl) (by kernel_rfl) ?_
  intro w10 hx11 hsel
  replace hB3 := hB3.c0 hx11
  replace hP := hP.chg0 hx11
  replace hE := hE.t0 hx11
  have hS0 : w10.cell? ⟨b2, 2, none⟩ = w9.cell? ⟨b2, 2, none⟩ ∧ w10.cell? ⟨lb, lo + 1, none⟩ = w9.cell? ⟨lb, lo + 1, none⟩ ∧ w10.cell? ⟨b2, 1, none⟩ = w9.cell? ⟨b2, 1, none⟩ := ⟨(hB3.cell 2).trans (s_hB3.cell 2).symm, ((lead_now hL hE (j := 1) rfl).trans s_lb.symm), (hB3.cell 1).trans (s_hB3.cell 1).symm⟩
  refine dR [0, 1] hsel (by kernel_rfl) hf rfl rfl (.inl hS0) ?_
  clear hf a; intro a hf
  refine dL 2 rfl rfl hsel (by kernel_rfl) hf rfl hS0 (fun x hS => ex_load hf rfl (by kernel_rfl) (hS.1.trans ((s_hB3.cell 2).trans rfl))) ?_
  clear hf a; intro a hf
  refine dV 3 rfl rfl hsel (by kernel_rfl) hf rfl (.inl hS0) (fun x => ex_index (sz := 1) (k := 1) (r := lo + 1) hf Try.underlying23 (by kernel_rfl) rfl rfl rfl (by simp) rfl) ?_
  clear hf a; intro a hf
  refine dL 4 rfl rfl hsel (by kernel_rfl) hf rfl hS0 (fun x hS => ex_load hf rfl (by kernel_rfl) (hS.2.1.trans s_lb)) ?_
  clear hf a; intro a hf
  refine dR [5] hsel (by kernel_rfl) hf rfl rfl (.inl hS0) ?_
  clear hf a; intro a hf
  refine dL 6 rfl rfl hsel (by kernel_rfl) hf rfl hS0 (fun x hS => ex_load hf rfl (by kernel_rfl) (hS.2.2.trans ((s_hB3.cell 1).trans rfl))) ?_
  clear hf a; intro a hf
  refine dl_c 7 (by kernel_rfl) rfl hf rfl rfl rfl (by kernel_rfl) (putL (lead := l1) (tok := x) hP (by (try simp only [putP, List.length_append, List.length_cons, List.length_nil]); omega) (by (try simp only [putP, List.length_append, List.length_cons, List.length_nil]); omega) hE.now) ?_
  rintro _ w14 ⟨rfl, hPn, hEn⟩
  refine ⟨_, rfl, ?_⟩
  clear hf a; intro a hf
  have hx13 := hEn.chg
  replace hB3 := hB3.chg hx13 (nm_blk hB3 rfl (Ne.symm ne_b_b2))
  replace hE := hE.trans hx13 (fun _ h => .inl h)
  obtain ⟨s12, es12⟩ : ∃ z, z = putP l1 x s7 := ⟨_, rfl⟩
  replace hPn : Pr Bs b (putP l1 x s7).1 (putP l1 x s7).2 w14 := hPn
  rw [← es12] at hPn
  have gs12 := put_len l1 x s7
  rw [← es12] at gs12
  obtain ⟨gs12, gs12'⟩ := gs12
  (try simp only [List.length_cons, List.length_nil, lsum] at gs12 gs12')
  replace hG := nlt gs12 (Nat.add_le_add_right hG _)
  replace hG' := nlt gs12' (Nat.add_le_add_right hG' _)
  clear gs12 gs12'
  clear hP; have hP := hPn; clear hPn hEn
  clear hS0
  have hS0 : w14.cell? ⟨b2, 2, none⟩ = w9.cell? ⟨b2, 2, none⟩ ∧ w14.cell? ⟨lb, lo + 1, none⟩ = w9.cell? ⟨lb, lo + 1, none⟩ ∧ w14.cell? ⟨b2, 1, none⟩ = w9.cell? ⟨b2, 1, none⟩ := ⟨(hB3.cell 2).trans (s_hB3.cell 2).symm, ((lead_now hL hE (j := 1) rfl).trans s_lb.symm), (hB3.cell 1).trans (s_hB3.cell 1).symm⟩
  refine ⟨.inl hS0, ?_⟩
  refine rN (by kernel_rfl) ?_
  clear hS0 hsel
  refine rR 5 hf rfl ?_
  clear hf a; intro a hf
  refine rV hf rfl (ex_loadB hf rfl (by kernel_rfl) hB3 rfl) ?_
  clear hf a; intro a hf
  refine rV hf rfl (ex_len hf Try.underlying24 rfl) ?_
  clear hf a; intro a hf
  refine rR 4 hf rfl ?_
  clear hf a; intro a hf
  refine rL (fun g a w' => ∃ i, Fr a 161 (fm [(0, .pointer (some ⟨b, 0, none⟩)), (3, .pointer (some ⟨b2, 0, none⟩)), (26, .slice B ks.length n), (27, .int .i64 (ks.length : Nat)), (28, .int .i64 (i : Nat))]) ∧ Prn Bs b w w' ∧ Blk w' b2 26 [.int .i64 1, strV x, .slice (some ⟨lb, lo, none⟩) [l0, l1, l2].length m, .slice B ks.length n] ∧ Pr Bs b (foldP (ks.take i) s12).1 (foldP (ks.take i) s12).2 w' ∧ i ≤ ks.length ∧ g = ks.length - i) _ ⟨0, hf.pick ⟨rfl, rfl, rfl, rfl, rfl, trivial⟩, hE, hB3, by simpa [foldP, treesP] using hP, Nat.zero_le _, rfl⟩ ?_
  obtain ⟨b5, eb5⟩ : ∃ x, b2 = x := ⟨_, rfl⟩
  rw [eb5]
  have ge_b5 : w.heap.size ≤ b5 := eb5 ▸ ge_b2
  have ne_b_b5 : b ≠ b5 := eb5 ▸ ne_b_b2
  clear eb5 hf a hP
  intro g0 a w' hI
  obtain ⟨i, hf, hE, hB5, hP, hi, rfl⟩ := hI
  by_cases hlt : i < ks.length
  obtain ⟨kb, ko, rfl, _, hkb, _⟩ := hR.2 (by omega)
  have hki : ks[i]? = some ks[i] := List.getElem?_eq_getElem hlt
  obtain ⟨d0, d1, d2, d3, hT, hK4⟩ := kid_now hK hR hE hki
  have on_T := hT.one
  have hmem : ks[i] ∈ ks := List.getElem_mem hlt
  have htt := kbulk_step hlt
  have hst := fold_step s12 hlt
  have hF := Gw.fold (ks.take i) (fun t ht => hgk t (List.mem_of_mem_take ht)) s12
  have hF1 : (foldP (ks.take i) s12).2.length ≤ _ := hF.1
  have hF2 : (foldP (ks.take i) s12).1.length ≤ _ := hF.2
  clear hF
  refine rR 2 hf rfl ?_
  clear hf a; intro a hf
  refine rV hf rfl (ex_ltI (c := true) hf rfl rfl (by simp; omega)) ?_
  clear hf a; intro a hf
  refine rR 10 hf rfl ?_
  clear hf a; intro a hf
  refine rV hf rfl (ex_index (sz := 4) (k := i) (r := ko + i * 4) hf Try.underlying24 (by kernel_rfl) rfl rfl rfl hlt rfl) ?_
  clear hf a; intro a hf
  refine rV hf rfl (ex_loadN (cs := [d0, d1, d2, d3]) (m := 4) hf rfl (by kernel_rfl) rfl hK4) ?_
  clear hf a; intro a hf
  obtain ⟨w15, b16, he, hB17, hx18, eb19, lb20⟩ := eT a w' 0
  refine rV hf rfl he ?_
  clear he hf a; intro a hf
  have ne_b5_b16 : b5 ≠ b16 := ne_new hB5.lt eb19
  have ge_b16 := Prn.ge_new hE eb19
  have ne_b_b16 : b ≠ b16 := ne_new hP.lt eb19
  replace hB5 := hB5.c0 hx18
  replace hP := hP.chg0 hx18
  replace hT := hT.t0 hx18
  replace hE := hE.t0 hx18
  clear eb19 lb20
  obtain ⟨w21, he, hB22, hx23⟩ := eN (.tmp 5) (.tmp 31) hf rfl rfl rfl on_T hB17 rfl 0
  refine rS hf rfl he ?_
  clear he hf a; intro a hf
  replace hB5 := hB5.c1 hx23 ne_b5_b16
  replace hP := hP.chgN hB17 (by decide) ne_b_b16 hx23
  replace hT := hT.chg hx23 (fun k hb hlt2 => (nmc (by have := hE.base; omega) nm0))
  replace hE := hE.n1 hx23 ge_b16
  clear hB17
  refine rR 4 hf rfl ?_
  clear hf a; intro a hf
  refine rV hf rfl (ex_loadBN (m := 4) hf rfl (by kernel_rfl) hB22 rfl) ?_
  clear hf a; intro a hf
  refine rC hf rfl rfl (by kernel_rfl) (ih ks[i] _ Bs b (foldP (ks.take i) s12) d0 d1 d2 d3 (hks _ hmem).1 (hks _ hmem).2.1 (hks _ hmem).2.2 (by omega) (by omega) hP hT hE.now) ?_
  rintro _ w25 ⟨rfl, hPn, hEn⟩
  refine ⟨_, rfl, ?_⟩
  clear hf a; intro a hf
  have hx24 := hEn.chg
  replace hB5 := hB5.chg hx24 (nm_blk hB5 rfl (Ne.symm ne_b_b5))
  replace hB22 := hB22.chg hx24 (nm_blk hB22 rfl (Ne.symm ne_b_b16))
  replace hT := hT.chg hx24 (fun k hb hlt2 => (nm_low hb))
  replace hE := hE.trans hx24 (fun _ h => .inl h)
  clear hP; have hP : Pr Bs b (treeP ks[i] (foldP (ks.take i) s12)).1 (treeP ks[i] (foldP (ks.take i) s12)).2 w25 := hPn; clear hPn hEn
  refine rR 4 hf rfl ?_
  clear hf a; intro a hf
  refine rV hf rfl (ex_addI hf rfl rfl rfl (by omega)) ?_
  clear hf a; intro a hf
  refine rR 2 hf rfl ?_
  clear hf a; intro a hf
  rw [← hst] at hP
  exact rX ⟨_, (by omega : ks.length - (i + 1) < ks.length - i), i + 1, hf.pick ⟨rfl, rfl, rfl, rfl, rfl, trivial⟩, hE, hB5, hP, by omega, rfl⟩
  have hz : ks.take i = ks := List.take_of_length_le (by omega)
  rw [hz] at hP
  obtain ⟨sF, esF⟩ : ∃ z, z = foldP ks s12 := ⟨_, rfl⟩
  rw [← esF] at hP
  have hF := Gw.fold ks hgk s12
  have hF1 : (foldP ks s12).2.length ≤ _ := hF.1
  have hF2 : (foldP ks s12).1.length ≤ _ := hF.2
  rw [← esF] at hF1 hF2
  clear hF
  replace hG := nlt hF1 (Nat.add_le_add_right hG _)
  replace hG' := nlt hF2 (Nat.add_le_add_right hG' _)
  clear hF1 hF2
  refine rR 2 hf rfl ?_
  clear hf a; intro a hf
  refine rV hf rfl (ex_ltI (c := false) hf rfl rfl (by simp; omega)) ?_
  clear hf a; intro a hf
  refine rR 6 hf rfl ?_
  clear hf a; intro a hf
  refine rO ?_
  refine rR 2 hf rfl ?_
  clear hf a; intro a hf
  have s_lb := lead_now hL hE (j := 2) rfl
  have s_hB5 := hB5
  refine rD (fun x => x.cell? ⟨b5, 2, none⟩ = w'.cell? ⟨b5, 2, none⟩ ∧ x.cell? ⟨lb, lo + 2, none⟩ = w'.cell? ⟨lb, lo + 2, none⟩) 8 8 rfl (by kernel_rfl) (by kernel_rfl) ?_
  intro w26 hx27 hsel
  replace hB5 := hB5.c0 hx27
  replace hP := hP.chg0 hx27
  replace hE := hE.t0 hx27
  have hS0 : w26.cell? ⟨b5, 2, none⟩ = w'.cell? ⟨b5, 2, none⟩ ∧ w26.cell? ⟨lb, lo + 2, none⟩ = w'.cell? ⟨lb, lo + 2, none⟩ := ⟨(hB5.cell 2).trans (s_hB5.cell 2).symm, ((lead_now hL hE (j := 2) rfl).trans s_lb.symm)⟩
  refine dR [0, 1, 2, 3] hsel (by kernel_rfl) hf rfl rfl (.inl hS0) ?_
  clear hf a; intro a hf
  refine dL 4 rfl rfl hsel (by kernel_rfl) hf rfl hS0 (fun x hS => ex_load hf rfl (by kernel_rfl) (hS.1.trans ((s_hB5.cell 2).trans rfl))) ?_
  clear hf a; intro a hf
  refine dV 5 rfl rfl hsel (by kernel_rfl) hf rfl (.inl hS0) (fun x => ex_index (sz := 1) (k := 2) (r := lo + 2) hf Try.underlying23 (by kernel_rfl) rfl rfl rfl (by simp) rfl) ?_
  clear hf a; intro a hf
  refine dL 6 rfl rfl hsel (by kernel_rfl) hf rfl hS0 (fun x hS => ex_load hf rfl (by kernel_rfl) (hS.2.trans s_lb)) ?_
  clear hf a; intro a hf
  refine dl_c 7 (by kernel_rfl) rfl hf rfl rfl rfl (by kernel_rfl) (wsL (s := l2) hP (by omega) hE.now) ?_
  rintro _ w29 ⟨rfl, hPn, hx28, _⟩
  refine ⟨_, rfl, ?_⟩
  clear hf a; intro a hf
  replace hB5 := hB5.chg hx28 (nm_blk hB5 rfl (Ne.symm ne_b_b5))
  replace hE := hE.trans hx28 (fun _ h => .inl h)
  clear hP; have hP := hPn; clear hPn
  clear hS0
  have hS0 : w29.cell? ⟨b5, 2, none⟩ = w'.cell? ⟨b5, 2, none⟩ ∧ w29.cell? ⟨lb, lo + 2, none⟩ = w'.cell? ⟨lb, lo + 2, none⟩ := ⟨(hB5.cell 2).trans (s_hB5.cell 2).symm, ((lead_now hL hE (j := 2) rfl).trans s_lb.symm)⟩
  refine ⟨.inl hS0, ?_⟩
  refine rN (by kernel_rfl) ?_
  clear hS0 hsel
  refine rR 1 hf rfl ?_
  clear hf a; intro a hf
  have eq : treeP (.node 1 x [l0, l1, l2] ks) s = (sF.1, sF.2 ++ l2) := by subst esF; subst es12; subst es7; rw [treeP]; rfl
  rw [eq]
  exact rF (rs := []) hf rfl rfl ⟨rfl, hP, hE⟩
theorem t1 {N : Nat} (ih : TreeOk N) {w : World} {Bs b : Nat} {s : WS} {x : List UInt8} {l0 l1 l2 : List UInt8} {ks : List Tree} {cs : List Value} {A B : Option Addr} {m n : Nat} (hks : ∀ t, t ∈ ks → tsize t ≤ N ∧ shapedT t = true ∧ leadedT t = true)
    (hl1 : s.2.length + 100 * (x.length + lsum [l0, l1, l2] + kbulk ks + 1) ≤ 1000000000000) (hl2 : s.1.length + 100 * (x.length + lsum [l0, l1, l2] + kbulk ks + 1) ≤ 1000000000000) (hP : Pr Bs b s.1 s.2 w) (hL : RowIn (fun b => b < Bs) w 1 A [l0, l1, l2].length ([l0, l1, l2].map strV)) (hn : ks.length ≤ n) (hn2 : n ≤ maxLen) (hK : KidsAre (fun b => b < Bs) w ks cs) (hR : RowIn (fun b => b < Bs) w 4 B ks.length cs) (hBw : Bs ≤ w.heap.size) :
    Calls Try.prog 61 [.pointer (some ⟨b, 0, none⟩), .agg #[.int .i64 1, strV x, .slice A [l0, l1, l2].length m, .slice B ks.length n]].toArray w fun e w' => e = .returned (.tuple #[]) ∧ Pr Bs b (treeP (.node 1 x [l0, l1, l2] ks) s).1 (treeP (.node 1 x [l0, l1, l2] ks) s).2 w' ∧ Prn Bs b w w' := by
  have hE := Prn.refl (b := b) hBw
  have hG : s.2.length ≤ s.2.length := Nat.le_refl _
  have hG' : s.1.length ≤ s.1.length := Nat.le_refl _
  obtain ⟨lb, lo, rfl, _, hlb, _⟩ := hL.2 (by simp)
  refine rE 216 Try.func61 rfl rfl rfl ?_
  intro a hf
  refine rR 2 hf rfl fun a hf => ?_
  obtain ⟨w1, b2, he, hB3, hx4, eb5, lb6⟩ := ef_box (P := Try.prog) (t := 26) (x := (.tmp 1)) hf rfl rfl w 0
  refine rV hf rfl he fun a hf => ?_
  have ge_b2 := Prn.ge_new hE eb5
  have ne_b_b2 : b ≠ b2 := ne_new hP.lt eb5
  replace hP := hP.chg0 hx4
  replace hE := hE.t0 hx4
  clear eb5 lb6
  refine rR 5 hf rfl fun a hf => rV hf rfl (ex_loadB hf rfl (by kernel_rfl) hB3 rfl) fun a hf => rR 16 hf rfl fun a hf => rV hf rfl (ex_loadBN (m := 4) hf rfl (by kernel_rfl) hB3 rfl) fun a hf => ?_
  have hLn := hL.now hE
  have hKn := hK.now hE
  have hRn := hR.now hE
  refine rC hf rfl rfl (by kernel_rfl) (d1 ih  hks hl1 hl2 hP hLn hn hn2 hKn hRn hE.now) ?_
  rintro _ w9 ⟨rfl, hPn, hEn⟩
  refine ⟨_, rfl, fun a hf => ?_⟩
  have hx8 := hEn.chg
  replace hB3 := hB3.chg hx8 (nm_blk hB3 rfl (Ne.symm ne_b_b2))
  replace hE := hE.trans hx8 (fun _ h => .inl h)
  clear hP; have hP := hPn; clear hPn hEn
  refine rR 2 hf rfl fun a hf => ?_
  have eq : treeP (.node 1 x [l0, l1, l2] ks) s = treeP (.node 1 x [l0, l1, l2] ks) s := by rfl
  rw [eq]
  exact rF (rs := []) hf rfl rfl ⟨rfl, hP, hE⟩
theorem t2 {N : Nat} (ih : TreeOk N) {w : World} {Bs b : Nat} {s : WS} {x : List UInt8} {l0 l1 l2 l3 l4 l5 : List UInt8} {ms : List (List UInt8)} {k0 k1 : Tree} {ps : List Tree} {cs : List Value} {A B : Option Addr} {m n : Nat} (hcl : 6 + ps.length ≤ (l0 :: l1 :: l2 :: l3 :: l4 :: l5 :: ms).length + 1) (hks : ∀ t, t ∈ (ps ++ [k0, k1]) → tsize t ≤ N ∧ shapedT t = true ∧ leadedT t = true)
    (hl1 : s.2.length + 100 * (x.length + lsum (l0 :: l1 :: l2 :: l3 :: l4 :: l5 :: ms) + kbulk (ps ++ [k0, k1]) + 1) ≤ 1000000000000) (hl2 : s.1.length + 100 * (x.length + lsum (l0 :: l1 :: l2 :: l3 :: l4 :: l5 :: ms) + kbulk (ps ++ [k0, k1]) + 1) ≤ 1000000000000) (hP : Pr Bs b s.1 s.2 w) (hL : RowIn (fun b => b < Bs) w 1 A (l0 :: l1 :: l2 :: l3 :: l4 :: l5 :: ms).length ((l0 :: l1 :: l2 :: l3 :: l4 :: l5 :: ms).map strV)) (hn : (ps ++ [k0, k1]).length ≤ n) (hn2 : n ≤ maxLen) (hK : KidsAre (fun b => b < Bs) w (ps ++ [k0, k1]) cs) (hR : RowIn (fun b => b < Bs) w 4 B (ps ++ [k0, k1]).length cs) (hBw : Bs ≤ w.heap.size) :
    Calls Try.prog 61 [.pointer (some ⟨b, 0, none⟩), .agg #[.int .i64 2, strV x, .slice A (l0 :: l1 :: l2 :: l3 :: l4 :: l5 :: ms).length m, .slice B (ps ++ [k0, k1]).length n]].toArray w fun e w' => e = .returned (.tuple #[]) ∧ Pr Bs b (treeP (.node 2 x (l0 :: l1 :: l2 :: l3 :: l4 :: l5 :: ms) (ps ++ [k0, k1])) s).1 (treeP (.node 2 x (l0 :: l1 :: l2 :: l3 :: l4 :: l5 :: ms) (ps ++ [k0, k1])) s).2 w' ∧ Prn Bs b w w' := by
  have hE := Prn.refl (b := b) hBw
  have hG : s.2.length ≤ s.2.length := Nat.le_refl _
  have hG' : s.1.length ≤ s.1.length := Nat.le_refl _
  obtain ⟨lb, lo, rfl, _, hlb, _⟩ := hL.2 (by simp)
  obtain ⟨kb, ko, rfl, _, hkb, _⟩ := hR.2 (by simp)
  refine rE 216 Try.func61 rfl rfl rfl ?_
  intro a hf
  refine rR 2 hf rfl fun a hf => ?_
  obtain ⟨w1, b2, he, hB3, hx4, eb5, lb6⟩ := ef_box (P := Try.prog) (t := 26) (x := (.tmp 1)) hf rfl rfl w 0
  refine rV hf rfl he fun a hf => ?_
  have ge_b2 := Prn.ge_new hE eb5
  have ne_b_b2 : b ≠ b2 := ne_new hP.lt eb5
  replace hP := hP.chg0 hx4
  replace hE := hE.t0 hx4
  clear eb5 lb6
  refine rR 5 hf rfl fun a hf => rV hf rfl (ex_loadB hf rfl (by kernel_rfl) hB3 rfl) fun a hf => rR 23 hf rfl fun a hf => rV hf rfl (ex_loadBN (m := 4) hf rfl (by kernel_rfl) hB3 rfl) fun a hf => ?_
  have hLn := hL.now hE
  have hKn := hK.now hE
  have hRn := hR.now hE
  refine rC hf rfl rfl (by kernel_rfl) (d2 ih hcl hks hl1 hl2 hP hLn hn hn2 hKn hRn hE.now) ?_
  rintro _ w9 ⟨rfl, hPn, hEn⟩
  refine ⟨_, rfl, fun a hf => ?_⟩
  have hx8 := hEn.chg
  replace hB3 := hB3.chg hx8 (nm_blk hB3 rfl (Ne.symm ne_b_b2))
  replace hE := hE.trans hx8 (fun _ h => .inl h)
  clear hP; have hP := hPn; clear hPn hEn
  refine rR 2 hf rfl fun a hf => ?_
  have eq : treeP (.node 2 x (l0 :: l1 :: l2 :: l3 :: l4 :: l5 :: ms) (ps ++ [k0, k1])) s = treeP (.node 2 x (l0 :: l1 :: l2 :: l3 :: l4 :: l5 :: ms) (ps ++ [k0, k1])) s := by rfl
  rw [eq]
  exact rF (rs := []) hf rfl rfl ⟨rfl, hP, hE⟩
theorem t3 {N : Nat} (ih : TreeOk N) {w : World} {Bs b : Nat} {s : WS} {x : List UInt8} {l0 l1 l2 : List UInt8} {k0 : Tree} {cs : List Value} {A B : Option Addr} {m n : Nat} (hks : ∀ t, t ∈ [k0] → tsize t ≤ N ∧ shapedT t = true ∧ leadedT t = true)
    (hl1 : s.2.length + 100 * (x.length + lsum [l0, l1, l2] + kbulk [k0] + 1) ≤ 1000000000000) (hl2 : s.1.length + 100 * (x.length + lsum [l0, l1, l2] + kbulk [k0] + 1) ≤ 1000000000000) (hP : Pr Bs b s.1 s.2 w) (hL : RowIn (fun b => b < Bs) w 1 A [l0, l1, l2].length ([l0, l1, l2].map strV)) (hn : [k0].length ≤ n) (hn2 : n ≤ maxLen) (hK : KidsAre (fun b => b < Bs) w [k0] cs) (hR : RowIn (fun b => b < Bs) w 4 B [k0].length cs) (hBw : Bs ≤ w.heap.size) :
    Calls Try.prog 61 [.pointer (some ⟨b, 0, none⟩), .agg #[.int .i64 3, strV x, .slice A [l0, l1, l2].length m, .slice B [k0].length n]].toArray w fun e w' => e = .returned (.tuple #[]) ∧ Pr Bs b (treeP (.node 3 x [l0, l1, l2] [k0]) s).1 (treeP (.node 3 x [l0, l1, l2] [k0]) s).2 w' ∧ Prn Bs b w w' := by
  have hE := Prn.refl (b := b) hBw
  have hG : s.2.length ≤ s.2.length := Nat.le_refl _
  have hG' : s.1.length ≤ s.1.length := Nat.le_refl _
  obtain ⟨lb, lo, rfl, _, hlb, _⟩ := hL.2 (by simp)
  obtain ⟨kb, ko, rfl, _, hkb, _⟩ := hR.2 (by simp)
  refine rE 216 Try.func61 rfl rfl rfl ?_
  intro a hf
  refine rR 2 hf rfl fun a hf => ?_
  obtain ⟨w1, b2, he, hB3, hx4, eb5, lb6⟩ := ef_box (P := Try.prog) (t := 26) (x := (.tmp 1)) hf rfl rfl w 0
  refine rV hf rfl he fun a hf => ?_
  have ge_b2 := Prn.ge_new hE eb5
  have ne_b_b2 : b ≠ b2 := ne_new hP.lt eb5
  replace hP := hP.chg0 hx4
  replace hE := hE.t0 hx4
  clear eb5 lb6
  refine rR 5 hf rfl fun a hf => rV hf rfl (ex_loadB hf rfl (by kernel_rfl) hB3 rfl) fun a hf => rR 30 hf rfl fun a hf => rV hf rfl (ex_loadBN (m := 4) hf rfl (by kernel_rfl) hB3 rfl) fun a hf => ?_
  have hLn := hL.now hE
  have hKn := hK.now hE
  have hRn := hR.now hE
  refine rC hf rfl rfl (by kernel_rfl) (d3 ih  hks hl1 hl2 hP hLn hn hn2 hKn hRn hE.now) ?_
  rintro _ w9 ⟨rfl, hPn, hEn⟩
  refine ⟨_, rfl, fun a hf => ?_⟩
  have hx8 := hEn.chg
  replace hB3 := hB3.chg hx8 (nm_blk hB3 rfl (Ne.symm ne_b_b2))
  replace hE := hE.trans hx8 (fun _ h => .inl h)
  clear hP; have hP := hPn; clear hPn hEn
  refine rR 2 hf rfl fun a hf => ?_
  have eq : treeP (.node 3 x [l0, l1, l2] [k0]) s = treeP (.node 3 x [l0, l1, l2] [k0]) s := by rfl
  rw [eq]
  exact rF (rs := []) hf rfl rfl ⟨rfl, hP, hE⟩
theorem t4 {N : Nat} (ih : TreeOk N) {w : World} {Bs b : Nat} {s : WS} {x : List UInt8} {l0 l1 : List UInt8} {k0 : Tree} {cs : List Value} {A B : Option Addr} {m n : Nat} (hks : ∀ t, t ∈ [k0] → tsize t ≤ N ∧ shapedT t = true ∧ leadedT t = true)
    (hl1 : s.2.length + 100 * (x.length + lsum [l0, l1] + kbulk [k0] + 1) ≤ 1000000000000) (hl2 : s.1.length + 100 * (x.length + lsum [l0, l1] + kbulk [k0] + 1) ≤ 1000000000000) (hP : Pr Bs b s.1 s.2 w) (hL : RowIn (fun b => b < Bs) w 1 A [l0, l1].length ([l0, l1].map strV)) (hn : [k0].length ≤ n) (hn2 : n ≤ maxLen) (hK : KidsAre (fun b => b < Bs) w [k0] cs) (hR : RowIn (fun b => b < Bs) w 4 B [k0].length cs) (hBw : Bs ≤ w.heap.size) :
    Calls Try.prog 61 [.pointer (some ⟨b, 0, none⟩), .agg #[.int .i64 4, strV x, .slice A [l0, l1].length m, .slice B [k0].length n]].toArray w fun e w' => e = .returned (.tuple #[]) ∧ Pr Bs b (treeP (.node 4 x [l0, l1] [k0]) s).1 (treeP (.node 4 x [l0, l1] [k0]) s).2 w' ∧ Prn Bs b w w' := by
  have hE := Prn.refl (b := b) hBw
  have hG : s.2.length ≤ s.2.length := Nat.le_refl _
  have hG' : s.1.length ≤ s.1.length := Nat.le_refl _
  obtain ⟨lb, lo, rfl, _, hlb, _⟩ := hL.2 (by simp)
  obtain ⟨kb, ko, rfl, _, hkb, _⟩ := hR.2 (by simp)
  refine rE 216 Try.func61 rfl rfl rfl ?_
  intro a hf
  refine rR 2 hf rfl fun a hf => ?_
  obtain ⟨w1, b2, he, hB3, hx4, eb5, lb6⟩ := ef_box (P := Try.prog) (t := 26) (x := (.tmp 1)) hf rfl rfl w 0
  refine rV hf rfl he fun a hf => ?_
  have ge_b2 := Prn.ge_new hE eb5
  have ne_b_b2 : b ≠ b2 := ne_new hP.lt eb5
  replace hP := hP.chg0 hx4
  replace hE := hE.t0 hx4
  clear eb5 lb6
  refine rR 5 hf rfl fun a hf => rV hf rfl (ex_loadB hf rfl (by kernel_rfl) hB3 rfl) fun a hf => rR 33 hf rfl fun a hf => rV hf rfl (ex_loadBN (m := 4) hf rfl (by kernel_rfl) hB3 rfl) fun a hf => ?_
  have hLn := hL.now hE
  have hKn := hK.now hE
  have hRn := hR.now hE
  refine rC hf rfl rfl (by kernel_rfl) (d4 ih  hks hl1 hl2 hP hLn hn hn2 hKn hRn hE.now) ?_
  rintro _ w9 ⟨rfl, hPn, hEn⟩
  refine ⟨_, rfl, fun a hf => ?_⟩
  have hx8 := hEn.chg
  replace hB3 := hB3.chg hx8 (nm_blk hB3 rfl (Ne.symm ne_b_b2))
  replace hE := hE.trans hx8 (fun _ h => .inl h)
  clear hP; have hP := hPn; clear hPn hEn
  refine rR 2 hf rfl fun a hf => ?_
  have eq : treeP (.node 4 x [l0, l1] [k0]) s = treeP (.node 4 x [l0, l1] [k0]) s := by rfl
  rw [eq]
  exact rF (rs := []) hf rfl rfl ⟨rfl, hP, hE⟩
theorem len0 {α : Type} {l : List α} (h : l.length = 0) : l = [] := List.length_eq_zero_iff.1 h
theorem lenS {α : Type} {l : List α} {n : Nat} (h : l.length = n + 1) : ∃ a r, l = a :: r ∧ r.length = n := by
  cases l with
  | nil => simp at h
  | cons a r => exact ⟨a, r, rfl, by simpa using h⟩
theorem kids_all {k : Int} {n : Nat} : ∀ {ks : List Tree} {i : Nat}, kidsT k n ks i = true → ∀ t, t ∈ ks → shapedT t = true
  | u :: r, i, h, t, ht => by
    simp only [kidsT, Bool.and_eq_true] at h
    rcases List.mem_cons.1 ht with e | e
    · exact e ▸ h.1.2
    · exact kids_all h.2 t e
theorem leads_kind {k n : Int} (h : 0 ≤ leadsT k n) : (k = 1 ∧ leadsT k n = 3) ∨ (k = 2 ∧ 2 ≤ n ∧ (2 < n ∧ leadsT k n = 6 + (n - 3) ∨ n = 2 ∧ leadsT k n = 6)) ∨ (k = 16 ∧ (n = 0 ∧ leadsT k n = 3 ∨ 0 < n ∧ leadsT k n = 3 + (n - 1))) ∨ (k = 18 ∧ 1 ≤ n ∧ leadsT k n = 2 + (n - 1)) ∨ (k = 3 ∧ n = 1 ∧ leadsT k n = 3) ∨ (k = 4 ∧ n = 1 ∧ leadsT k n = 2) ∨ (k = 8 ∧ n = 1 ∧ leadsT k n = 2) ∨ (k = 22 ∧ n = 1 ∧ leadsT k n = 2) ∨ (k = 17 ∧ n = 1 ∧ leadsT k n = 0) ∨ (k = 19 ∧ n = 3 ∧ leadsT k n = 3) ∨ (k = 20 ∧ n = 2 ∧ leadsT k n = 4) ∨ (k = 21 ∧ n = 2 ∧ leadsT k n = 1) ∨ ((k = 5 ∨ k = 6 ∨ k = 7 ∨ k = 9 ∨ k = 10 ∨ k = 11 ∨ k = 12 ∨ k = 13 ∨ k = 14 ∨ k = 15) ∧ n = 0 ∧ leadsT k n = 1) := by
  obtain ⟨L, hL⟩ : ∃ L, L = leadsT k n := ⟨_, rfl⟩
  rw [← hL] at h ⊢
  unfold leadsT at hL
  by_cases hk1 : k = 1
  · rw [if_pos hk1] at hL
    split at hL
    · exact absurd h (by omega)
    · exact .inl (⟨hk1, hL⟩)
  rw [if_neg hk1] at hL
  by_cases hk2 : k = 2
  · rw [if_pos hk2] at hL
    split at hL
    · exact absurd h (by omega)
    · split at hL
      · exact .inr (.inl (⟨hk2, by omega, .inl ⟨by omega, hL⟩⟩))
      · exact .inr (.inl (⟨hk2, by omega, .inr ⟨by omega, hL⟩⟩))
  rw [if_neg hk2] at hL
  by_cases hk3 : k = 16
  · rw [if_pos hk3] at hL
    split at hL
    · exact absurd h (by omega)
    · split at hL
      · exact .inr (.inr (.inl (⟨hk3, .inr ⟨by omega, hL⟩⟩)))
      · exact .inr (.inr (.inl (⟨hk3, .inl ⟨by omega, hL⟩⟩)))
  rw [if_neg hk3] at hL
  by_cases hk4 : k = 18
  · rw [if_pos hk4] at hL
    split at hL
    · exact absurd h (by omega)
    · exact .inr (.inr (.inr (.inl (⟨hk4, by omega, hL⟩))))
  rw [if_neg hk4] at hL
  by_cases hk5 : k = 3
  · rw [if_pos hk5] at hL
    split at hL
    · exact .inr (.inr (.inr (.inr (.inl (⟨hk5, by omega, hL⟩)))))
    · exact absurd h (by omega)
  rw [if_neg hk5] at hL
  by_cases hk6 : k = 4 ∨ k = 8 ∨ k = 22
  · rw [if_pos hk6] at hL
    split at hL
    · rcases hk6 with hq | hq | hq
      · exact .inr (.inr (.inr (.inr (.inr (.inl (⟨hq, by omega, hL⟩))))))
      · exact .inr (.inr (.inr (.inr (.inr (.inr (.inl (⟨hq, by omega, hL⟩)))))))
      · exact .inr (.inr (.inr (.inr (.inr (.inr (.inr (.inl (⟨hq, by omega, hL⟩))))))))
    · exact absurd h (by omega)
  rw [if_neg hk6] at hL
  by_cases hk7 : k = 17
  · rw [if_pos hk7] at hL
    split at hL
    · exact .inr (.inr (.inr (.inr (.inr (.inr (.inr (.inr (.inl (⟨hk7, by omega, hL⟩)))))))))
    · exact absurd h (by omega)
  rw [if_neg hk7] at hL
  by_cases hk8 : k = 19
  · rw [if_pos hk8] at hL
    split at hL
    · exact .inr (.inr (.inr (.inr (.inr (.inr (.inr (.inr (.inr (.inl (⟨hk8, by omega, hL⟩))))))))))
    · exact absurd h (by omega)
  rw [if_neg hk8] at hL
  by_cases hk9 : k = 20
  · rw [if_pos hk9] at hL
    split at hL
    · exact .inr (.inr (.inr (.inr (.inr (.inr (.inr (.inr (.inr (.inr (.inl (⟨hk9, by omega, hL⟩)))))))))))
    · exact absurd h (by omega)
  rw [if_neg hk9] at hL
  by_cases hk10 : k = 21
  · rw [if_pos hk10] at hL
    split at hL
    · exact .inr (.inr (.inr (.inr (.inr (.inr (.inr (.inr (.inr (.inr (.inr (.inl (⟨hk10, by omega, hL⟩))))))))))))
    · exact absurd h (by omega)
  rw [if_neg hk10] at hL
  by_cases hk11 : k = 5 ∨ k = 6 ∨ k = 7 ∨ k = 9 ∨ k = 10 ∨ k = 11 ∨ k = 12 ∨ k = 13 ∨ k = 14 ∨ k = 15
  · rw [if_pos hk11] at hL
    split at hL
    · exact .inr (.inr (.inr (.inr (.inr (.inr (.inr (.inr (.inr (.inr (.inr (.inr ((⟨hk11, by omega, hL⟩)))))))))))))
    · exact absurd h (by omega)
  rw [if_neg hk11] at hL
  exact absurd h (by omega)
theorem tree_step {N : Nat} (ih : TreeOk N) : TreeOk (N + 1) := by
  intro t w Bs b s c0 c1 c2 c3 hN hs hl h1 h2 hP hT hBw
  obtain ⟨k, x, ls, ks⟩ := t
  simp only [TreeIs] at hT
  obtain ⟨A, m, B, n, hc, _, _, hn, hn2, hL, cs, hK, hR⟩ := hT
  simp only [List.cons.injEq, and_true] at hc
  obtain ⟨rfl, rfl, rfl, rfl⟩ := hc
  simp only [tsize] at hN
  simp only [tbulk] at h1 h2
  simp only [shapedT, leadedT, Bool.and_eq_true, decide_eq_true_eq] at hs hl
  have hks : ∀ t, t ∈ ks → tsize t ≤ N ∧ shapedT t = true ∧ leadedT t = true := fun t ht => ⟨by have := tsize_mem ht; omega, kids_all hs.2 t ht, leaded_of hl.2 ht⟩
  have hkk := leads_kind hs.1.1
  have hll := hl.1.1
  clear hs hl hN
  rcases hkk with ⟨rfl, e⟩ | ⟨rfl, h0, e⟩ | ⟨rfl, e⟩ | ⟨rfl, h0, e⟩ | ⟨rfl, h0, e⟩ | ⟨rfl, h0, e⟩ | ⟨rfl, h0, e⟩ | ⟨rfl, h0, e⟩ | ⟨rfl, h0, e⟩ | ⟨rfl, h0, e⟩ | ⟨rfl, h0, e⟩ | ⟨rfl, h0, e⟩ | ⟨hk, h0, e⟩
  · obtain ⟨l0, ls0r, rfl, qls0⟩ := lenS (n := 2) (l := ls) (by omega)
    obtain ⟨l1, ls1r, rfl, qls1⟩ := lenS (n := 1) (l := ls0r) qls0
    obtain ⟨l2, ls2r, rfl, qls2⟩ := lenS (n := 0) (l := ls1r) qls1
    obtain rfl := len0 (l := ls2r) qls2
    exact t1 ih hks h1 h2 hP hL hn hn2 hK hR hBw
  · obtain ⟨ps, k0, k1, rfl⟩ : ∃ ps k0 k1, ks = ps ++ [k0, k1] := by
      refine ⟨ks.take (ks.length - 2), ks[ks.length - 2]'(by omega), ks[ks.length - 1]'(by omega), ?_⟩
      have e1 : ks = ks.take (ks.length - 2) ++ ks.drop (ks.length - 2) := (List.take_append_drop _ _).symm
      have e2 : ks.drop (ks.length - 2) = [ks[ks.length - 2]'(by omega), ks[ks.length - 1]'(by omega)] := by
        rw [List.drop_eq_getElem_cons (by omega : ks.length - 2 < ks.length)]
        congr 1
        have e3 : ks.length - 2 + 1 = ks.length - 1 := by omega
        rw [e3, List.drop_eq_getElem_cons (by omega : ks.length - 1 < ks.length), List.drop_of_length_le (by omega)]
      rw [← e2]; exact e1
    have hpl : (ps ++ [k0, k1]).length = ps.length + 2 := by simp
    obtain ⟨q, hq⟩ : ∃ q, ls.length = q + 6 := ⟨ls.length - 6, by omega⟩
    obtain ⟨l0, ls0r, rfl, qls0⟩ := lenS (n := q + 5) (l := ls) hq
    obtain ⟨l1, ls1r, rfl, qls1⟩ := lenS (n := q + 4) (l := ls0r) qls0
    obtain ⟨l2, ls2r, rfl, qls2⟩ := lenS (n := q + 3) (l := ls1r) qls1
    obtain ⟨l3, ls3r, rfl, qls3⟩ := lenS (n := q + 2) (l := ls2r) qls2
    obtain ⟨l4, ls4r, rfl, qls4⟩ := lenS (n := q + 1) (l := ls3r) qls3
    obtain ⟨l5, ls5r, rfl, qls5⟩ := lenS (n := q + 0) (l := ls4r) qls4
    exact t2 ih (by simp only [List.length_cons]; omega) hks h1 h2 hP hL hn hn2 hK hR hBw
  · obtain ⟨q, hq⟩ : ∃ q, ls.length = q + 3 := ⟨ls.length - 3, by omega⟩
    obtain ⟨l0, ls0r, rfl, qls0⟩ := lenS (n := q + 2) (l := ls) hq
    obtain ⟨l1, ls1r, rfl, qls1⟩ := lenS (n := q + 1) (l := ls0r) qls0
    obtain ⟨l2, ls2r, rfl, qls2⟩ := lenS (n := q + 0) (l := ls1r) qls1
    exact t16 ih (by simp only [List.length_cons]; omega) hks h1 h2 hP hL hn hn2 hK hR hBw
  · obtain ⟨q, hq⟩ : ∃ q, ls.length = q + 2 := ⟨ls.length - 2, by omega⟩
    obtain ⟨l0, ls0r, rfl, qls0⟩ := lenS (n := q + 1) (l := ls) hq
    obtain ⟨l1, ls1r, rfl, qls1⟩ := lenS (n := q + 0) (l := ls0r) qls0
    exact t18 ih (by simp only [List.length_cons]; omega) hks h1 h2 hP hL hn hn2 hK hR hBw
  · obtain ⟨l0, ls0r, rfl, qls0⟩ := lenS (n := 2) (l := ls) (by omega)
    obtain ⟨l1, ls1r, rfl, qls1⟩ := lenS (n := 1) (l := ls0r) qls0
    obtain ⟨l2, ls2r, rfl, qls2⟩ := lenS (n := 0) (l := ls1r) qls1
    obtain rfl := len0 (l := ls2r) qls2
    obtain ⟨k0, ks0r, rfl, qks0⟩ := lenS (n := 0) (l := ks) (by omega)
    obtain rfl := len0 (l := ks0r) qks0
    exact t3 ih hks h1 h2 hP hL hn hn2 hK hR hBw
  · obtain ⟨l0, ls0r, rfl, qls0⟩ := lenS (n := 1) (l := ls) (by omega)
    obtain ⟨l1, ls1r, rfl, qls1⟩ := lenS (n := 0) (l := ls0r) qls0
    obtain rfl := len0 (l := ls1r) qls1
    obtain ⟨k0, ks0r, rfl, qks0⟩ := lenS (n := 0) (l := ks) (by omega)
    obtain rfl := len0 (l := ks0r) qks0
    exact t4 ih hks h1 h2 hP hL hn hn2 hK hR hBw
  · obtain ⟨l0, ls0r, rfl, qls0⟩ := lenS (n := 1) (l := ls) (by omega)
    obtain ⟨l1, ls1r, rfl, qls1⟩ := lenS (n := 0) (l := ls0r) qls0
    obtain rfl := len0 (l := ls1r) qls1
    obtain ⟨k0, ks0r, rfl, qks0⟩ := lenS (n := 0) (l := ks) (by omega)
    obtain rfl := len0 (l := ks0r) qks0
    exact t8 ih hks h1 h2 hP hL hn hn2 hK hR hBw
  · obtain ⟨l0, ls0r, rfl, qls0⟩ := lenS (n := 1) (l := ls) (by omega)
    obtain ⟨l1, ls1r, rfl, qls1⟩ := lenS (n := 0) (l := ls0r) qls0
    obtain rfl := len0 (l := ls1r) qls1
    obtain ⟨k0, ks0r, rfl, qks0⟩ := lenS (n := 0) (l := ks) (by omega)
    obtain rfl := len0 (l := ks0r) qks0
    exact t22 ih hks h1 h2 hP hL hn hn2 hK hR hBw
  · obtain rfl := len0 (l := ls) (by omega)
    obtain ⟨k0, ks0r, rfl, qks0⟩ := lenS (n := 0) (l := ks) (by omega)
    obtain rfl := len0 (l := ks0r) qks0
    exact t17 ih hks h1 h2 hP hL hn hn2 hK hR hBw
  · obtain ⟨l0, ls0r, rfl, qls0⟩ := lenS (n := 2) (l := ls) (by omega)
    obtain ⟨l1, ls1r, rfl, qls1⟩ := lenS (n := 1) (l := ls0r) qls0
    obtain ⟨l2, ls2r, rfl, qls2⟩ := lenS (n := 0) (l := ls1r) qls1
    obtain rfl := len0 (l := ls2r) qls2
    obtain ⟨k0, ks0r, rfl, qks0⟩ := lenS (n := 2) (l := ks) (by omega)
    obtain ⟨k1, ks1r, rfl, qks1⟩ := lenS (n := 1) (l := ks0r) qks0
    obtain ⟨k2, ks2r, rfl, qks2⟩ := lenS (n := 0) (l := ks1r) qks1
    obtain rfl := len0 (l := ks2r) qks2
    exact t19 ih hks h1 h2 hP hL hn hn2 hK hR hBw
  · obtain ⟨l0, ls0r, rfl, qls0⟩ := lenS (n := 3) (l := ls) (by omega)
    obtain ⟨l1, ls1r, rfl, qls1⟩ := lenS (n := 2) (l := ls0r) qls0
    obtain ⟨l2, ls2r, rfl, qls2⟩ := lenS (n := 1) (l := ls1r) qls1
    obtain ⟨l3, ls3r, rfl, qls3⟩ := lenS (n := 0) (l := ls2r) qls2
    obtain rfl := len0 (l := ls3r) qls3
    obtain ⟨k0, ks0r, rfl, qks0⟩ := lenS (n := 1) (l := ks) (by omega)
    obtain ⟨k1, ks1r, rfl, qks1⟩ := lenS (n := 0) (l := ks0r) qks0
    obtain rfl := len0 (l := ks1r) qks1
    exact t20 ih hks h1 h2 hP hL hn hn2 hK hR hBw
  · obtain ⟨l0, ls0r, rfl, qls0⟩ := lenS (n := 0) (l := ls) (by omega)
    obtain rfl := len0 (l := ls0r) qls0
    obtain ⟨k0, ks0r, rfl, qks0⟩ := lenS (n := 1) (l := ks) (by omega)
    obtain ⟨k1, ks1r, rfl, qks1⟩ := lenS (n := 0) (l := ks0r) qks0
    obtain rfl := len0 (l := ks1r) qks1
    exact t21 ih hks h1 h2 hP hL hn hn2 hK hR hBw
  · obtain ⟨l0, ls0r, rfl, qls0⟩ := lenS (n := 0) (l := ls) (by omega)
    obtain rfl := len0 (l := ls0r) qls0
    obtain rfl := len0 (l := ks) (by omega)
    exact tLeaf (N := N) hk hks h1 h2 hP hL hn hn2 hK hR hBw
theorem treeL : ∀ N, TreeOk N
  | 0 => fun t _ _ _ _ _ _ _ _ hN => by cases t; simp only [tsize] at hN; omega
  | N + 1 => tree_step (treeL N)
end Go.Proofs.Ythpjpngfghcmcaa
namespace Go.Proofs.Ythpjpngfghcmcaa
open Go.RowKit Lx Sx
set_option maxRecDepth 100000
set_option maxHeartbeats 4000000
theorem TreeIs.cells {S : Nat → Prop} {w : World} {t : Tree} {c0 c1 c2 c3 : Value} (h : TreeIs S w t [c0, c1, c2, c3]) : ∃ A m B n, [c0, c1, c2, c3] = [.int .i64 t.kind, strV t.text, .slice A t.leads.length m, .slice B t.kids.length n] := by
  obtain ⟨k, x, ls, ks⟩ := t
  simp only [TreeIs] at h
  obtain ⟨A, m, B, n, e, _⟩ := h
  exact ⟨A, m, B, n, e⟩
theorem Pr.new {Bs b : Nat} {w : World} (h : Blk w b 80 [.pointer none, .slice none 0 0, strV []]) (hb : Bs ≤ b) : Pr Bs b [] [] w :=
  ⟨.pointer none, .slice none 0 0, .inl rfl, hb, h, World.ownsRow_nil w Bs 5 1⟩
def upX (Bs : Nat) (w : World) : List Nat := (List.range w.heap.size).filter fun k => decide (Bs ≤ k)
theorem mem_upX {Bs : Nat} {w : World} {k : Nat} (h : k ∈ upX Bs w) : Bs ≤ k := by simp [upX] at h; exact h.2
theorem chg_up {Bs : Nat} {w w' : World} (h : Below Bs w w') (hb : Bs ≤ w.heap.size) : Chg (upX Bs w) w w' :=
  ⟨h.os, h.tape, h.output, h.size, fun k hk hX => h.block k (by
    rcases Nat.lt_or_ge k Bs with h1 | h1
    · exact h1
    · exact absurd (by simp [upX]; exact ⟨hk, h1⟩) hX)⟩
theorem strL {Bs b : Nat} {x l : List UInt8} {w : World} (h : Pr Bs b x l w) (hBw : Bs ≤ w.heap.size) : Calls Try.prog 62 [.pointer (some ⟨b, 0, none⟩)].toArray w fun e w' => e = .returned (strV l) ∧ Chg (upX Bs w) w w' :=
  (builderString _ Bs b [strV x] l w h hBw).mono fun _ _ ⟨e, h1⟩ => ⟨e, chg_up h1 hBw⟩
theorem textL {t : Tree} {S : Nat → Prop} {w : World} {c0 c1 c2 c3 : Value} (hs : shapedT t = true) (hl : leadedT t = true) (hb : tbulk t ≤ 1000000000) (hT : TreeIs S w t [c0, c1, c2, c3]) : Calls Try.prog 33 [.agg #[c0, c1, c2, c3]].toArray w fun e w' => e = .returned (strV (textT t)) ∧ Chg [] w w' := by
  obtain ⟨hi0, ehi0⟩ : ∃ x, x = w.heap.size := ⟨_, rfl⟩
  replace hT := hT.keepB (S' := fun b => b < hi0) (fun b _ hb => by omega) (fun _ _ _ => rfl)
  obtain ⟨A, m1, B, m2, hc⟩ := hT.cells
  simp only [List.cons.injEq, and_true] at hc
  obtain ⟨rfl, rfl, rfl, rfl⟩ := hc
  refine rE 8 Try.func33 rfl rfl rfl ?_
  intro a hf
  have hE := Chg.refl [] w
  refine rR 2 hf rfl fun a hf => ?_
  obtain ⟨w1, b2, he, hB3, hx4, eb5, lb6⟩ := ef_box (P := Try.prog) (t := 26) (x := (.tmp 0)) hf rfl rfl w 0
  refine rV hf rfl he fun a hf => ?_
  have ge_b2 := ge_new hE eb5
  have tb_b2 : hi0 ≤ b2 := by have := hE.size; omega
  replace hT := hT.t0 hx4
  replace hE := hE.t0 hx4
  clear eb5 lb6
  refine rR 5 hf rfl fun a hf => ?_
  obtain ⟨w7, b8, he, hB9, hx10, eb11, lb12⟩ := ef_alloc (P := Try.prog) (t := 80) [.pointer none, .slice none 0 0, .string ⟨([] : List UInt8).toArray⟩] (by kernel_rfl) a w1 0
  refine rV hf rfl he fun a hf => ?_
  have ne_b2_b8 : b2 ≠ b8 := ne_new hB3.lt eb11
  have ge_b8 := ge_new hE eb11
  have tb_b8 : hi0 ≤ b8 := by have := hE.size; omega
  replace hB3 := hB3.c0 hx10
  replace hT := hT.t0 hx10
  replace hE := hE.t0 hx10
  clear eb11 lb12
  refine rR 4 hf rfl fun a hf => rV hf rfl (ex_loadBN (m := 4) hf rfl (by kernel_rfl) hB3 rfl) fun a hf => ?_
  have hPr := Pr.new hB9 (Nat.le_refl b8)
  have hTl : TreeIs (fun k => k < b8) w7 t _ := hT.mono (fun k hk => Nat.lt_of_lt_of_le hk tb_b8)
  have hBw : b8 ≤ w7.heap.size := Nat.le_of_lt hB9.lt
  refine rC hf rfl rfl (by kernel_rfl) (treeL _ t _ b8 b8 ([], []) _ _ _ _ (Nat.le_refl _) hs hl (by simp only [List.length_nil]; omega) (by simp only [List.length_nil]; omega) hPr hTl hBw) ?_
  rintro _ w14 ⟨rfl, hPn, hEn⟩
  refine ⟨_, rfl, fun a hf => ?_⟩
  have hx13 := hEn.chg
  clear hTl hPr
  replace hE := hE.trans hx13 (fun x hx => .inr (by have := (mem_prX.1 hx).2.1; omega))
  refine rR 5 hf rfl fun a hf => rC hf rfl rfl (by kernel_rfl) (strL hPn hEn.now) ?_
  rintro _ w16 ⟨rfl, hx15⟩
  refine ⟨_, rfl, fun a hf => ?_⟩
  replace hE := hE.trans hx15 (fun x hx => .inr (by have := mem_upX hx; omega))
  refine rR 4 hf rfl fun a hf => ?_
  exact rT (rs := [.tmp 2]) hf rfl ⟨_, _, rfl, rfl, rfl⟩ ⟨rfl, hE⟩
theorem printL {t : Tree} {S : Nat → Prop} {w : World} {c0 c1 c2 c3 : Value} (hb : tbulk t ≤ 1000000000) (hT : TreeIs S w t [c0, c1, c2, c3]) : Calls Try.prog 16 [.agg #[c0, c1, c2, c3]].toArray w fun e w' => e = .returned (strV (printT t)) ∧ Chg [] w w' := by
  obtain ⟨hi0, ehi0⟩ : ∃ x, x = w.heap.size := ⟨_, rfl⟩
  replace hT := hT.keepB (S' := fun b => b < hi0) (fun b _ hb => by omega) (fun _ _ _ => rfl)
  obtain ⟨A, m1, B, m2, hc⟩ := hT.cells
  simp only [List.cons.injEq, and_true] at hc
  obtain ⟨rfl, rfl, rfl, rfl⟩ := hc
  refine rE 13 Try.func16 rfl rfl rfl ?_
  intro a hf
  have hE := Chg.refl [] w
  refine rR 2 hf rfl fun a hf => ?_
  obtain ⟨w1, b2, he, hB3, hx4, eb5, lb6⟩ := ef_box (P := Try.prog) (t := 26) (x := (.tmp 0)) hf rfl rfl w 0
  refine rV hf rfl he fun a hf => ?_
  have ge_b2 := ge_new hE eb5
  have tb_b2 : hi0 ≤ b2 := by have := hE.size; omega
  replace hT := hT.t0 hx4
  replace hE := hE.t0 hx4
  clear eb5 lb6
  refine rR 6 hf rfl fun a hf => rV hf rfl (ex_loadBN (m := 4) hf rfl (by kernel_rfl) hB3 rfl) fun a hf => ?_
  rcases Bool.eq_false_or_eq_true (shapedT t) with hbs | hbs
  refine rC hf rfl rfl (by kernel_rfl) (bool_is (shapedL _ t _ _ _ _ _ _ (Nat.le_refl _) (by omega) hT) hbs) ?_
  rintro _ w8 ⟨rfl, hx7⟩
  refine ⟨_, rfl, fun a hf => ?_⟩
  replace hB3 := hB3.c0 hx7
  replace hT := hT.t0 hx7
  replace hE := hE.t0 hx7
  refine rR 2 hf rfl fun a hf => rV hf rfl (ex_loadBN (m := 4) hf rfl (by kernel_rfl) hB3 rfl) fun a hf => ?_
  rcases Bool.eq_false_or_eq_true (leadedT t) with hbl | hbl
  refine rC hf rfl rfl (by kernel_rfl) (bool_is (leadedL _ t _ _ _ _ _ _ (Nat.le_refl _) (by omega) hT) hbl) ?_
  rintro _ w10 ⟨rfl, hx9⟩
  refine ⟨_, rfl, fun a hf => ?_⟩
  replace hB3 := hB3.c0 hx9
  replace hT := hT.t0 hx9
  replace hE := hE.t0 hx9
  refine rR 9 hf rfl fun a hf => rV hf rfl (ex_loadBN (m := 4) hf rfl (by kernel_rfl) hB3 rfl) fun a hf => rC hf rfl rfl (by kernel_rfl) (textL hbs hbl hb hT) ?_
  rintro _ w12 ⟨rfl, hx11⟩
  refine ⟨_, rfl, fun a hf => ?_⟩
  replace hB3 := hB3.c0 hx11
  replace hT := hT.t0 hx11
  replace hE := hE.t0 hx11
  refine rR 4 hf rfl fun a hf => ?_
  exact rT (rs := [.tmp 2]) hf rfl ⟨_, _, rfl, rfl, rfl⟩ ⟨ret_s (by unfold printT; simp [hbs, hbl]), hE⟩
  refine rC hf rfl rfl (by kernel_rfl) (bool_is (leadedL _ t _ _ _ _ _ _ (Nat.le_refl _) (by omega) hT) hbl) ?_
  rintro _ w13 ⟨rfl, hx9⟩
  refine ⟨_, rfl, fun a hf => ?_⟩
  replace hB3 := hB3.c0 hx9
  replace hT := hT.t0 hx9
  replace hE := hE.t0 hx9
  refine rR 12 hf rfl fun a hf => ?_
  exact rT (rs := [.tmp 2]) hf rfl ⟨_, _, rfl, rfl, rfl⟩ ⟨ret_s (by unfold printT; simp [hbs, hbl]), hE⟩
  refine rC hf rfl rfl (by kernel_rfl) (bool_is (shapedL _ t _ _ _ _ _ _ (Nat.le_refl _) (by omega) hT) hbs) ?_
  rintro _ w14 ⟨rfl, hx7⟩
  refine ⟨_, rfl, fun a hf => ?_⟩
  replace hB3 := hB3.c0 hx7
  replace hT := hT.t0 hx7
  replace hE := hE.t0 hx7
  refine rR 16 hf rfl fun a hf => ?_
  exact rT (rs := [.tmp 2]) hf rfl ⟨_, _, rfl, rfl, rfl⟩ ⟨ret_s (by unfold printT; simp [hbs]), hE⟩
mutual
theorem depth_bulk : ∀ t : Tree, depthT t ≤ tbulk t
  | .node k x ls ks => by have := depths_bulk ks; simp only [depthT, tbulk]; omega
theorem depths_bulk : ∀ ks : List Tree, depthsT ks ≤ kbulk ks
  | [] => Nat.le_refl _
  | t :: r => by have := depth_bulk t; have := depths_bulk r; simp only [depthsT, kbulk]; omega
end
theorem validL {t : Tree} {S : Nat → Prop} {w : World} {c0 c1 c2 c3 : Value} (hb : tbulk t ≤ 1000000000) (hT : TreeIs S w t [c0, c1, c2, c3]) : Calls Try.prog 24 [.agg #[c0, c1, c2, c3]].toArray w fun e w' => e = .returned (.bool (validT t)) ∧ Chg [] w w' := by
  obtain ⟨hi0, ehi0⟩ : ∃ x, x = w.heap.size := ⟨_, rfl⟩
  replace hT := hT.keepB (S' := fun b => b < hi0) (fun b _ hb => by omega) (fun _ _ _ => rfl)
  obtain ⟨A, m1, B, m2, hc⟩ := hT.cells
  simp only [List.cons.injEq, and_true] at hc
  obtain ⟨rfl, rfl, rfl, rfl⟩ := hc
  refine rE 25 Try.func24 rfl rfl rfl ?_
  intro a hf
  have hE := Chg.refl [] w
  refine rR 2 hf rfl fun a hf => ?_
  obtain ⟨w1, b2, he, hB3, hx4, eb5, lb6⟩ := ef_box (P := Try.prog) (t := 26) (x := (.tmp 0)) hf rfl rfl w 0
  refine rV hf rfl he fun a hf => ?_
  have ge_b2 := ge_new hE eb5
  have tb_b2 : hi0 ≤ b2 := by have := hE.size; omega
  replace hT := hT.t0 hx4
  replace hE := hE.t0 hx4
  clear eb5 lb6
  refine rR 6 hf rfl fun a hf => rV hf rfl (ex_loadBN (m := 4) hf rfl (by kernel_rfl) hB3 rfl) fun a hf => ?_
  rcases Bool.eq_false_or_eq_true (shapedT t) with hbs | hbs
  refine rC hf rfl rfl (by kernel_rfl) (bool_is (shapedL _ t _ _ _ _ _ _ (Nat.le_refl _) (by omega) hT) hbs) ?_
  rintro _ w8 ⟨rfl, hx7⟩
  refine ⟨_, rfl, fun a hf => ?_⟩
  replace hB3 := hB3.c0 hx7
  replace hT := hT.t0 hx7
  replace hE := hE.t0 hx7
  refine rR 2 hf rfl fun a hf => rV hf rfl (ex_loadBN (m := 4) hf rfl (by kernel_rfl) hB3 rfl) fun a hf => ?_
  rcases Bool.eq_false_or_eq_true (leadedT t) with hbl | hbl
  refine rC hf rfl rfl (by kernel_rfl) (bool_is (leadedL _ t _ _ _ _ _ _ (Nat.le_refl _) (by omega) hT) hbl) ?_
  rintro _ w10 ⟨rfl, hx9⟩
  refine ⟨_, rfl, fun a hf => ?_⟩
  replace hB3 := hB3.c0 hx9
  replace hT := hT.t0 hx9
  replace hE := hE.t0 hx9
  refine rR 3 hf rfl fun a hf => rV hf rfl (ex_loadBN (m := 4) hf rfl (by kernel_rfl) hB3 rfl) fun a hf => ?_
  rcases Bool.eq_false_or_eq_true (smallT t) with hbm | hbm
  refine rC hf rfl rfl (by kernel_rfl) (bool_is (smallL _ t _ _ _ _ _ _ (Nat.le_refl _) (by omega) hT) hbm) ?_
  rintro _ w12 ⟨rfl, hx11⟩
  refine ⟨_, rfl, fun a hf => ?_⟩
  replace hB3 := hB3.c0 hx11
  replace hT := hT.t0 hx11
  replace hE := hE.t0 hx11
  refine rR 3 hf rfl fun a hf => rV hf rfl (ex_loadBN (m := 4) hf rfl (by kernel_rfl) hB3 rfl) fun a hf => rC hf rfl rfl (by kernel_rfl) (depthL _ t _ _ _ _ _ _ (Nat.le_refl _) (by have := depth_bulk t; omega) hT) ?_
  rintro _ w14 ⟨rfl, hx13⟩
  refine ⟨_, rfl, fun a hf => ?_⟩
  replace hB3 := hB3.c0 hx13
  replace hT := hT.t0 hx13
  replace hE := hE.t0 hx13
  refine rB hf rfl (fun c hc => ex_gtI hf rfl rfl hc) ?_ ?_
  clear hf a; intro h19 a hf
  refine rR 11 hf rfl fun a hf => ?_
  simp only [decide_eq_true_eq, decide_eq_false_iff_not] at h19
  exact rT (rs := [.tmp 2]) hf rfl ⟨_, _, rfl, rfl, rfl⟩ ⟨ret_b (by unfold validT; simp [hbs, hbl, hbm]; omega), hE⟩
  clear hf a; intro h19 a hf
  refine rR 8 hf rfl fun a hf => rV hf rfl (ex_loadBN (m := 4) hf rfl (by kernel_rfl) hB3 rfl) fun a hf => rC hf rfl rfl (by kernel_rfl) (textL hbs hbl hb hT) ?_
  rintro _ w16 ⟨rfl, hx15⟩
  refine ⟨_, rfl, fun a hf => ?_⟩
  replace hB3 := hB3.c0 hx15
  replace hT := hT.t0 hx15
  replace hE := hE.t0 hx15
  refine rV hf rfl (ex_lenS hf Try.underlying9 rfl) fun a hf => rB hf rfl (fun c hc => ex_leI hf rfl rfl hc) ?_ ?_
  clear hf a; intro h24 a hf
  refine rR 4 hf rfl fun a hf => ?_
  simp only [decide_eq_true_eq, decide_eq_false_iff_not] at h19 h24
  exact rT (rs := [.tmp 2]) hf rfl ⟨_, _, rfl, rfl, rfl⟩ ⟨ret_b (by unfold validT; simp [hbs, hbl, hbm]; omega), hE⟩
  clear hf a; intro h24 a hf
  refine rR 4 hf rfl fun a hf => ?_
  simp only [decide_eq_true_eq, decide_eq_false_iff_not] at h19 h24
  exact rT (rs := [.tmp 2]) hf rfl ⟨_, _, rfl, rfl, rfl⟩ ⟨ret_b (by unfold validT; simp [hbs, hbl, hbm]; omega), hE⟩
  refine rC hf rfl rfl (by kernel_rfl) (bool_is (smallL _ t _ _ _ _ _ _ (Nat.le_refl _) (by omega) hT) hbm) ?_
  rintro _ w17 ⟨rfl, hx11⟩
  refine ⟨_, rfl, fun a hf => ?_⟩
  replace hB3 := hB3.c0 hx11
  replace hT := hT.t0 hx11
  replace hE := hE.t0 hx11
  refine rR 17 hf rfl fun a hf => ?_
  exact rT (rs := [.tmp 2]) hf rfl ⟨_, _, rfl, rfl, rfl⟩ ⟨ret_b (by unfold validT; simp [hbs, hbl, hbm]), hE⟩
  refine rC hf rfl rfl (by kernel_rfl) (bool_is (leadedL _ t _ _ _ _ _ _ (Nat.le_refl _) (by omega) hT) hbl) ?_
  rintro _ w18 ⟨rfl, hx9⟩
  refine ⟨_, rfl, fun a hf => ?_⟩
  replace hB3 := hB3.c0 hx9
  replace hT := hT.t0 hx9
  replace hE := hE.t0 hx9
  refine rR 22 hf rfl fun a hf => ?_
  exact rT (rs := [.tmp 2]) hf rfl ⟨_, _, rfl, rfl, rfl⟩ ⟨ret_b (by unfold validT; simp [hbs, hbl]), hE⟩
  refine rC hf rfl rfl (by kernel_rfl) (bool_is (shapedL _ t _ _ _ _ _ _ (Nat.le_refl _) (by omega) hT) hbs) ?_
  rintro _ w19 ⟨rfl, hx7⟩
  refine ⟨_, rfl, fun a hf => ?_⟩
  replace hB3 := hB3.c0 hx7
  replace hT := hT.t0 hx7
  replace hE := hE.t0 hx7
  refine rR 26 hf rfl fun a hf => ?_
  exact rT (rs := [.tmp 2]) hf rfl ⟨_, _, rfl, rfl, rfl⟩ ⟨ret_b (by unfold validT; simp [hbs]), hE⟩
end Go.Proofs.Ythpjpngfghcmcaa
namespace Go.Proofs.Ythpjpngfghcmcaa
open Go.RowKit
inductive V where
  | int (k : IntKind) (n : Int)
  | bool (b : Bool)
  | str (l : List UInt8)
  | nilp
  | nils
  | raw (x : Value)
  | ptr (id off : Nat)
  | el (id sz i off : Nat)
  | sl (id : Nat)
  | box (cs : List V) (off : Nat)
  | row (sz : Nat) (els : List V)
  | agg (cs : List V)
  | tup (vs : List V)
inductive Ob where
  | free
  | gone
  | var (t : TypeId) (cs : List V)
  | row (e : TypeId) (sz : Nat) (els : List V)
  | ext (bs : List Nat) (Φ : World → Prop)
def Value.blk : Value → Option Nat
  | .pointer (some a) => some a.block
  | _ => none
abbrev ρ0 : Nat → Option Value := fun _ => none
section
variable (S : Nat → Prop) (w : World)
mutual
def VRel (ρ : Nat → Option Value) : V → Value → Prop
  | .int k n, x => x = .int k n
  | .bool b, x => x = .bool b
  | .str l, x => x = .string ⟨l.toArray⟩
  | .nilp, x => x = .pointer none
  | .nils, x => x = .slice none 0 0
  | .raw y, x => x = y ∧ y.oneCell' = true
  | .ptr id o, x => ∃ b, ρ id = some (.pointer (some ⟨b, 0, none⟩)) ∧ x = .pointer (some ⟨b, o, none⟩)
  | .el id sz i o, x => ∃ b n c, ρ id = some (.slice (some ⟨b, 0, none⟩) n c) ∧ x = .pointer (some ⟨b, i * sz + o, none⟩)
  | .sl id, x => ρ id = some x ∧ x.oneCell' = true
  | .box cs o, x => ∃ b off xs, x = .pointer (some ⟨b, off + o, none⟩) ∧ S b ∧ b < w.heap.size ∧ LRel ρ0 cs xs ∧ ∀ j, j < xs.length → w.cell? ⟨b, off + j, none⟩ = xs[j]?
  | .row sz els, x => ∃ A c xs, x = .slice A els.length c ∧ els.length ≤ c ∧ c ≤ maxLen ∧ CRel ρ0 sz els xs ∧ RowIn S w sz A els.length xs
  | .agg cs, x => ∃ xs, x = .agg xs.toArray ∧ LRel ρ cs xs
  | .tup cs, x => ∃ xs, x = .tuple xs.toArray ∧ LRel ρ cs xs
def LRel (ρ : Nat → Option Value) : List V → List Value → Prop
  | [], xs => xs = []
  | v :: r, xs => ∃ x ys, xs = x :: ys ∧ VRel ρ v x ∧ LRel ρ r ys
def CRel (ρ : Nat → Option Value) (sz : Nat) : List V → List Value → Prop
  | [], xs => xs = []
  | v :: r, xs => ∃ x ys, xs = x.cells.toList ++ ys ∧ (x.cells.size = sz ∧ x.cells.toList.all (·.oneCell') = true) ∧ VRel ρ v x ∧ CRel ρ sz r ys
end
end
structure Up (S S' : Nat → Prop) (w w' : World) (ρ ρ' : Nat → Option Value) : Prop where
  s : ∀ b, S b → S' b
  blk : ∀ b, S b → b < w.heap.size → w'.heap[b]? = w.heap[b]?
  r : ∀ i x, ρ i = some x → ρ' i = some x
section
variable {S S' : Nat → Prop} {w w' : World}
section
variable {ρ ρ' : Nat → Option Value}
theorem Up.refl : Up S S w w ρ ρ := ⟨fun _ h => h, fun _ _ _ => rfl, fun _ _ h => h⟩
theorem Up.lt (u : Up S S' w w' ρ ρ') {b : Nat} (hs : S b) (hb : b < w.heap.size) : b < w'.heap.size := by
  have hh := u.blk b hs hb
  rcases Nat.lt_or_ge b w'.heap.size with h1 | h1
  · exact h1
  · rw [Array.getElem?_eq_none h1, Array.getElem?_eq_getElem hb] at hh; cases hh
theorem Up.cell (u : Up S S' w w' ρ ρ') {b i : Nat} (hs : S b) (hb : b < w.heap.size) : w'.cell? ⟨b, i, none⟩ = w.cell? ⟨b, i, none⟩ :=
  World.cell?_of_block (a := ⟨b, i, none⟩) (u.blk b hs hb)
end
theorem Up.z {ρ ρ' : Nat → Option Value} (u : Up S S' w w' ρ ρ') : Up S S' w w' ρ0 ρ0 := ⟨u.s, u.blk, fun _ _ h => h⟩
mutual
theorem VRel.up {ρ ρ' : Nat → Option Value} (u : Up S S' w w' ρ ρ') : ∀ {v : V} {x : Value}, VRel S w ρ v x → VRel S' w' ρ' v x
  | .int _ _, x, h => by simp only [VRel] at h ⊢; exact h
  | .bool _, x, h => by simp only [VRel] at h ⊢; exact h
  | .str _, x, h => by simp only [VRel] at h ⊢; exact h
  | .nilp, x, h => by simp only [VRel] at h ⊢; exact h
  | .nils, x, h => by simp only [VRel] at h ⊢; exact h
  | .raw _, x, h => by simp only [VRel] at h ⊢; exact h
  | .ptr id o, x, h => by
    simp only [VRel] at h ⊢
    obtain ⟨b, h1, h2⟩ := h
    exact ⟨b, u.r _ _ h1, h2⟩
  | .el id sz i o, x, h => by
    simp only [VRel] at h ⊢
    obtain ⟨b, n, c, h1, h2⟩ := h
    exact ⟨b, n, c, u.r _ _ h1, h2⟩
  | .sl id, x, h => by simp only [VRel] at h ⊢; exact ⟨u.r _ _ h.1, h.2⟩
  | .box cs o, x, h => by
    simp only [VRel] at h ⊢
    obtain ⟨b, off, xs, h1, h2, h3, h4, h5⟩ := h
    exact ⟨b, off, xs, h1, u.s b h2, u.lt h2 h3, LRel.up u.z h4, fun j hj => (u.cell h2 h3).trans (h5 j hj)⟩
  | .row sz els, x, h => by
    simp only [VRel] at h ⊢
    obtain ⟨A, c, xs, h1, h2, h3, h4, h5⟩ := h
    exact ⟨A, c, xs, h1, h2, h3, CRel.up u.z h4, h5.keep u.s u.blk⟩
  | .agg cs, x, h => by
    simp only [VRel] at h ⊢
    obtain ⟨xs, h1, h2⟩ := h
    exact ⟨xs, h1, LRel.up u h2⟩
  | .tup cs, x, h => by
    simp only [VRel] at h ⊢
    obtain ⟨xs, h1, h2⟩ := h
    exact ⟨xs, h1, LRel.up u h2⟩
theorem LRel.up {ρ ρ' : Nat → Option Value} (u : Up S S' w w' ρ ρ') : ∀ {v : List V} {x : List Value}, LRel S w ρ v x → LRel S' w' ρ' v x
  | [], x, h => by simp only [LRel] at h ⊢; exact h
  | v :: r, x, h => by
    simp only [LRel] at h ⊢
    obtain ⟨y, ys, h1, h2, h3⟩ := h
    exact ⟨y, ys, h1, VRel.up u h2, LRel.up u h3⟩
theorem CRel.up {ρ ρ' : Nat → Option Value} (u : Up S S' w w' ρ ρ') {sz : Nat} : ∀ {v : List V} {x : List Value}, CRel S w ρ sz v x → CRel S' w' ρ' sz v x
  | [], x, h => by simp only [CRel] at h ⊢; exact h
  | v :: r, x, h => by
    simp only [CRel] at h ⊢
    obtain ⟨y, ys, h1, h2, h3, h4⟩ := h
    exact ⟨y, ys, h1, h2, VRel.up u h3, CRel.up u h4⟩
end
end
section
variable (S : Nat → Prop) (w : World) (ρ : Nat → Option Value)
def own (id : Nat) : Ob → Nat → Prop
  | .free, _ => False
  | .gone, _ => False
  | .var _ _, b => ρ id = some (.pointer (some ⟨b, 0, none⟩))
  | .row _ _ _, b => ∃ v, ρ id = some v ∧ v.ownBlock = some b
  | .ext bs _, b => b ∈ bs
def ObRel (id : Nat) : Ob → Prop
  | .free => ρ id = none
  | .gone => True
  | .var t cs => ∃ b xs, ρ id = some (.pointer (some ⟨b, 0, none⟩)) ∧ Blk w b t xs ∧ LRel S w ρ cs xs
  | .row e sz els => ∃ v xs, ρ id = some v ∧ w.ownsRow 0 e sz v els.length xs ∧ CRel S w ρ sz els xs
  | .ext bs Φ => Φ w ∧ (∀ b, b ∈ bs → b < w.heap.size) ∧ ∀ w', (∀ b, b ∈ bs → w'.heap[b]? = w.heap[b]?) → Φ w'
structure HRel (h : Nat → Ob) : Prop where
  ob : ∀ id, ObRel S w ρ id (h id)
  sep : ∀ id b, own ρ id (h id) b → ¬ S b
  dis : ∀ i j b, own ρ i (h i) b → own ρ j (h j) b → i = j
  slt : ∀ b, S b → b < w.heap.size
end
section
variable {S S' : Nat → Prop} {w w' : World} {ρ ρ' : Nat → Option Value} {h h' : Nat → Ob}
theorem ownsRow_keep {base e sz n : Nat} {v : Value} {xs : List Value} (ho : w.ownsRow base e sz v n xs) (hk : ∀ b, v.ownBlock = some b → w'.heap[b]? = w.heap[b]?) : w'.ownsRow base e sz v n xs := by
  refine ⟨ho.1, ?_⟩
  rcases ho.2 with h0 | ⟨g, cap, cur, rfl, hb, hg, h4⟩
  · exact .inl h0
  · exact .inr ⟨g, cap, cur, rfl, hb, (hk g rfl).trans hg, h4⟩
theorem own_lt {id : Nat} {o : Ob} {b : Nat} (ho : ObRel S w ρ id o) (hb : own ρ id o b) : b < w.heap.size := by
  cases o with
  | free => exact hb.elim
  | gone => exact hb.elim
  | var t cs =>
    obtain ⟨b', xs, h1, h2, _⟩ := ho
    simp only [own] at hb
    rw [h1] at hb
    simp only [Option.some.injEq, Value.pointer.injEq, Addr.mk.injEq, and_true] at hb
    subst hb; exact h2.lt
  | row e sz els =>
    obtain ⟨v, xs, h1, h2, _⟩ := ho
    obtain ⟨v', h3, h4⟩ := hb
    rw [h1] at h3
    simp only [Option.some.injEq] at h3
    subst h3
    exact (h2.lt b h4).2
  | ext bs Φ => exact ho.2.1 b hb
theorem ObRel.up {id : Nat} {o : Ob} (u : Up S S' w w' ρ ρ') (hf : o = .free → ρ' id = none) (ho : ObRel S w ρ id o) (hk : ∀ b, own ρ id o b → w'.heap[b]? = w.heap[b]?) : ObRel S' w' ρ' id o := by
  cases o with
  | free => exact hf rfl
  | gone => trivial
  | var t cs =>
    obtain ⟨b', xs, h1, h2, h3⟩ := ho
    exact ⟨b', xs, u.r _ _ h1, (hk b' h1).trans h2, LRel.up u h3⟩
  | row e sz els =>
    obtain ⟨v, xs, h1, h2, h3⟩ := ho
    exact ⟨v, xs, u.r _ _ h1, ownsRow_keep h2 (fun b hb => hk b ⟨v, h1, hb⟩), CRel.up u h3⟩
  | ext bs Φ =>
    obtain ⟨h1, h2, h3⟩ := ho
    refine ⟨h3 _ hk, fun b hb => ?_, fun w'' h' => h3 w'' (fun b hb => (h' b hb).trans (hk b hb))⟩
    have hh := hk b hb
    rcases Nat.lt_or_ge b w'.heap.size with h4 | h4
    · exact h4
    · rw [Array.getElem?_eq_none h4, Array.getElem?_eq_getElem (h2 b hb)] at hh; cases hh
theorem own_up {id : Nat} {o : Ob} {b : Nat} (hr : ∀ i x, ρ i = some x → ρ' i = some x) (ho : ObRel S w ρ id o) (hb : own ρ' id o b) : own ρ id o b := by
  cases o with
  | free => exact hb
  | gone => exact hb
  | var t cs =>
    obtain ⟨b', xs, h1, h2, h3⟩ := ho
    have := hr _ _ h1
    simp only [own] at hb ⊢
    rw [this] at hb; rw [h1]; exact hb
  | row e sz els =>
    obtain ⟨v, xs, h1, h2, h3⟩ := ho
    obtain ⟨v', h4, h5⟩ := hb
    rw [hr _ _ h1] at h4
    simp only [Option.some.injEq] at h4
    subst h4
    exact ⟨v, h1, h5⟩
  | ext bs Φ => exact hb
theorem LRel.length : ∀ {vs : List V} {xs : List Value}, LRel S w ρ vs xs → xs.length = vs.length
  | [], xs, h => by simp only [LRel] at h; simp [h]
  | v :: r, xs, h => by
    simp only [LRel] at h
    obtain ⟨x, ys, rfl, _, h3⟩ := h
    simp [LRel.length h3]
theorem LRel.get : ∀ {vs : List V} {xs : List Value} {i : Nat} {v : V}, LRel S w ρ vs xs → vs[i]? = some v → ∃ x, xs[i]? = some x ∧ VRel S w ρ v x
  | [], xs, i, v, h, hi => by simp at hi
  | u :: r, xs, 0, v, h, hi => by
    simp only [LRel] at h
    obtain ⟨x, ys, rfl, h2, h3⟩ := h
    simp only [List.getElem?_cons_zero, Option.some.injEq] at hi
    subst hi
    exact ⟨x, by simp, h2⟩
  | u :: r, xs, i + 1, v, h, hi => by
    simp only [LRel] at h
    obtain ⟨x, ys, rfl, h2, h3⟩ := h
    simp only [List.getElem?_cons_succ] at hi ⊢
    exact LRel.get h3 hi
theorem LRel.set : ∀ {vs : List V} {xs : List Value} {i : Nat} {v : V} {x : Value}, LRel S w ρ vs xs → VRel S w ρ v x → LRel S w ρ (vs.set i v) (xs.set i x)
  | [], xs, i, v, x, h, hx => by simp only [LRel] at h; subst h; simp [LRel]
  | u :: r, xs, 0, v, x, h, hx => by
    simp only [LRel] at h
    obtain ⟨y, ys, rfl, h2, h3⟩ := h
    exact ⟨x, ys, by simp, hx, h3⟩
  | u :: r, xs, i + 1, v, x, h, hx => by
    simp only [LRel] at h
    obtain ⟨y, ys, rfl, h2, h3⟩ := h
    exact ⟨y, ys.set i x, by simp, h2, LRel.set h3 hx⟩
theorem LRel.append : ∀ {vs us : List V} {xs ys : List Value}, LRel S w ρ vs xs → LRel S w ρ us ys → LRel S w ρ (vs ++ us) (xs ++ ys)
  | [], us, xs, ys, h, hu => by simp only [LRel] at h; subst h; simpa using hu
  | v :: r, us, xs, ys, h, hu => by
    simp only [LRel] at h
    obtain ⟨y, zs, rfl, h2, h3⟩ := h
    exact ⟨y, zs ++ ys, by simp, h2, LRel.append h3 hu⟩
theorem LRel.drop : ∀ {vs : List V} {xs : List Value} (n : Nat), LRel S w ρ vs xs → LRel S w ρ (vs.drop n) (xs.drop n)
  | vs, xs, 0, h => by simpa using h
  | [], xs, n + 1, h => by simp only [LRel] at h; subst h; simp [LRel]
  | v :: r, xs, n + 1, h => by
    simp only [LRel] at h
    obtain ⟨y, zs, rfl, h2, h3⟩ := h
    simpa using LRel.drop n h3
theorem LRel.take : ∀ {vs : List V} {xs : List Value} (n : Nat), LRel S w ρ vs xs → LRel S w ρ (vs.take n) (xs.take n)
  | vs, xs, 0, h => by simp [LRel]
  | [], xs, n + 1, h => by simp only [LRel] at h; subst h; simp [LRel]
  | v :: r, xs, n + 1, h => by
    simp only [LRel] at h
    obtain ⟨y, zs, rfl, h2, h3⟩ := h
    exact ⟨y, zs.take n, by simp, h2, LRel.take n h3⟩
theorem CRel.length {sz : Nat} : ∀ {vs : List V} {xs : List Value}, CRel S w ρ sz vs xs → xs.length = vs.length * sz
  | [], xs, h => by simp only [CRel] at h; simp [h]
  | v :: r, xs, h => by
    simp only [CRel] at h
    obtain ⟨x, ys, rfl, ⟨h2, _⟩, h3, h4⟩ := h
    have := CRel.length h4
    simp [this, h2, Nat.add_mul]; omega
theorem CRel.get {sz : Nat} : ∀ {vs : List V} {xs : List Value} {i : Nat} {v : V}, CRel S w ρ sz vs xs → vs[i]? = some v → ∃ x, VRel S w ρ v x ∧ x.cells.size = sz ∧ ∀ j, j < sz → xs[i * sz + j]? = x.cells.toList[j]?
  | [], xs, i, v, h, hi => by simp at hi
  | u :: r, xs, 0, v, h, hi => by
    simp only [CRel] at h
    obtain ⟨x, ys, rfl, ⟨h2, _⟩, h3, h4⟩ := h
    simp only [List.getElem?_cons_zero, Option.some.injEq] at hi
    subst hi
    exact ⟨x, h3, h2, fun j hj => by rw [List.getElem?_append_left (by simp; omega)]; simp⟩
  | u :: r, xs, i + 1, v, h, hi => by
    simp only [CRel] at h
    obtain ⟨x, ys, rfl, ⟨h2, _⟩, h3, h4⟩ := h
    simp only [List.getElem?_cons_succ] at hi
    obtain ⟨y, g1, g2, g3⟩ := CRel.get h4 hi
    refine ⟨y, g1, g2, fun j hj => ?_⟩
    rw [List.getElem?_append_right (by simp [h2, Nat.add_mul]; omega), ← g3 j hj]
    congr 1
    simp [h2, Nat.add_mul]; omega
theorem CRel.append {sz : Nat} : ∀ {vs us : List V} {xs ys : List Value}, CRel S w ρ sz vs xs → CRel S w ρ sz us ys → CRel S w ρ sz (vs ++ us) (xs ++ ys)
  | [], us, xs, ys, h, hu => by simp only [CRel] at h; subst h; simpa using hu
  | v :: r, us, xs, ys, h, hu => by
    simp only [CRel] at h
    obtain ⟨y, zs, rfl, h2, h3, h4⟩ := h
    exact ⟨y, zs ++ ys, by simp, h2, h3, CRel.append h4 hu⟩
theorem CRel.drop {sz : Nat} : ∀ {vs : List V} {xs : List Value} (n : Nat), CRel S w ρ sz vs xs → CRel S w ρ sz (vs.drop n) (xs.drop (n * sz))
  | vs, xs, 0, h => by simpa using h
  | [], xs, n + 1, h => by simp only [CRel] at h; subst h; simp [CRel]
  | v :: r, xs, n + 1, h => by
    simp only [CRel] at h
    obtain ⟨y, zs, rfl, ⟨h2, _⟩, h3, h4⟩ := h
    have := CRel.drop n h4
    have e : (y.cells.toList ++ zs).drop ((n + 1) * sz) = zs.drop (n * sz) := by
      rw [List.drop_append, List.drop_of_length_le (by simp [h2, Nat.add_mul])]
      simp [h2, Nat.add_mul]
    rw [e]; simpa using this
theorem CRel.take {sz : Nat} : ∀ {vs : List V} {xs : List Value} (n : Nat), CRel S w ρ sz vs xs → CRel S w ρ sz (vs.take n) (xs.take (n * sz))
  | vs, xs, 0, h => by simp [CRel]
  | [], xs, n + 1, h => by simp only [CRel] at h; subst h; simp [CRel]
  | v :: r, xs, n + 1, h => by
    simp only [CRel] at h
    obtain ⟨y, zs, rfl, ⟨h2, h1⟩, h3, h4⟩ := h
    have := CRel.take n h4
    have e : (y.cells.toList ++ zs).take ((n + 1) * sz) = y.cells.toList ++ zs.take (n * sz) := by
      rw [List.take_append, List.take_of_length_le (by simp [h2, Nat.add_mul])]
      congr 2
      simp [h2, Nat.add_mul]
    rw [e]
    exact ⟨y, _, rfl, ⟨h2, h1⟩, h3, this⟩
theorem CRel.ones {sz : Nat} : ∀ {vs : List V} {xs : List Value}, CRel S w ρ sz vs xs → ∀ u ∈ xs, u.oneCell' = true
  | [], xs, h => by simp only [CRel] at h; subst h; simp
  | v :: r, xs, h => by
    simp only [CRel] at h
    obtain ⟨x, ys, rfl, ⟨h2, h1⟩, h3, h4⟩ := h
    intro u hu
    rcases List.mem_append.1 hu with h | h
    · exact List.all_eq_true.1 h1 u h
    · exact CRel.ones h4 u h
def V.one : V → Bool
  | .agg _ => false
  | .tup _ => false
  | _ => true
theorem VRel.one {v : V} {x : Value} (hv : VRel S w ρ v x) (h1 : v.one = true) : x.oneCell' = true := by
  cases v with
  | int _ _ => simp only [VRel] at hv; subst hv; rfl
  | bool _ => simp only [VRel] at hv; subst hv; rfl
  | str _ => simp only [VRel] at hv; subst hv; rfl
  | nilp => simp only [VRel] at hv; subst hv; rfl
  | nils => simp only [VRel] at hv; subst hv; rfl
  | raw y => simp only [VRel] at hv; obtain ⟨rfl, h⟩ := hv; exact h
  | ptr id o => simp only [VRel] at hv; obtain ⟨b, _, rfl⟩ := hv; rfl
  | el id sz i o => simp only [VRel] at hv; obtain ⟨b, n, c, _, rfl⟩ := hv; rfl
  | sl id => simp only [VRel] at hv; exact hv.2
  | box cs o => simp only [VRel] at hv; obtain ⟨b, off, xs, rfl, _⟩ := hv; rfl
  | row sz els => simp only [VRel] at hv; obtain ⟨A, c, xs, rfl, _⟩ := hv; rfl
  | agg cs => cases h1
  | tup cs => cases h1
theorem up0 : Up S S w w ρ0 ρ := ⟨fun _ h => h, fun _ _ _ => rfl, fun _ _ h => by cases h⟩
def V.cells : V → List V
  | .agg cs => cs
  | v => [v]
theorem VRel.cells {v : V} {x : Value} (hv : VRel S w ρ v x) : LRel S w ρ v.cells x.cells.toList := by
  have one : ∀ {u : V}, u.cells = [u] → VRel S w ρ u x → x.cells = #[x] → LRel S w ρ u.cells x.cells.toList := fun h1 h2 h3 => by rw [h1, h3]; exact ⟨x, [], rfl, h2, rfl⟩
  cases v with
  | agg cs =>
    simp only [VRel] at hv
    obtain ⟨xs, rfl, h⟩ := hv
    exact h
  | tup cs =>
    refine one rfl hv ?_
    simp only [VRel] at hv
    obtain ⟨xs, rfl, h⟩ := hv
    rfl
  | _ => exact one rfl hv (one_cells (hv.one rfl))
end
mutual
def V.pure : V → Bool
  | .ptr _ _ => false
  | .el _ _ _ _ => false
  | .sl _ => false
  | .agg cs => pureL cs
  | .tup cs => pureL cs
  | .int _ _ => true
  | .bool _ => true
  | .str _ => true
  | .nilp => true
  | .nils => true
  | .raw _ => true
  | .box _ _ => true
  | .row _ _ => true
def pureL : List V → Bool
  | [] => true
  | v :: r => match v.pure with
    | true => pureL r
    | false => false
end
section
variable {S : Nat → Prop} {w : World} {ρ ρ' : Nat → Option Value}
theorem pureL_cons {v : V} {r : List V} (h : pureL (v :: r) = true) : v.pure = true ∧ pureL r = true := by
  simp only [pureL] at h
  split at h
  · exact ⟨‹_›, h⟩
  · cases h
mutual
theorem VRel.pure : ∀ {v : V} {x : Value}, v.pure = true → VRel S w ρ v x → VRel S w ρ' v x
  | .int _ _, x, _, h => by simp only [VRel] at h ⊢; exact h
  | .bool _, x, _, h => by simp only [VRel] at h ⊢; exact h
  | .str _, x, _, h => by simp only [VRel] at h ⊢; exact h
  | .nilp, x, _, h => by simp only [VRel] at h ⊢; exact h
  | .nils, x, _, h => by simp only [VRel] at h ⊢; exact h
  | .raw _, x, _, h => by simp only [VRel] at h ⊢; exact h
  | .ptr id o, x, hp, h => by cases hp
  | .el id sz i o, x, hp, h => by cases hp
  | .sl id, x, hp, h => by cases hp
  | .box cs o, x, _, h => by simp only [VRel] at h ⊢; exact h
  | .row sz els, x, _, h => by simp only [VRel] at h ⊢; exact h
  | .agg cs, x, hp, h => by
    simp only [VRel] at h ⊢
    obtain ⟨xs, h1, h2⟩ := h
    exact ⟨xs, h1, LRel.pure (by simpa only [V.pure] using hp) h2⟩
  | .tup cs, x, hp, h => by
    simp only [VRel] at h ⊢
    obtain ⟨xs, h1, h2⟩ := h
    exact ⟨xs, h1, LRel.pure (by simpa only [V.pure] using hp) h2⟩
theorem LRel.pure : ∀ {v : List V} {x : List Value}, pureL v = true → LRel S w ρ v x → LRel S w ρ' v x
  | [], x, _, h => by simp only [LRel] at h ⊢; exact h
  | v :: r, x, hp, h => by
    simp only [LRel] at h ⊢
    obtain ⟨y, ys, h1, h2, h3⟩ := h
    have hp' := pureL_cons hp
    exact ⟨y, ys, h1, VRel.pure hp'.1 h2, LRel.pure hp'.2 h3⟩
end
theorem CRel.pure {sz : Nat} : ∀ {v : List V} {x : List Value}, pureL v = true → CRel S w ρ sz v x → CRel S w ρ' sz v x
  | [], x, _, h => by simp only [CRel] at h ⊢; exact h
  | v :: r, x, hp, h => by
    simp only [CRel] at h ⊢
    obtain ⟨y, ys, h1, h2, h3, h4⟩ := h
    have hp' := pureL_cons hp
    exact ⟨y, ys, h1, h2, VRel.pure hp'.1 h3, CRel.pure hp'.2 h4⟩
end
end Go.Proofs.Ythpjpngfghcmcaa
namespace Go.Proofs.Ythpjpngfghcmcaa
open Go.RowKit
theorem ext_list' (l : List UInt8) (a b : Nat) : (ByteArray.mk l.toArray).extract a b = ⟨((l.drop a).take (b - a)).toArray⟩ := Lx.ext_list l a b
def Agree (S : Nat → Prop) (w w' : World) : Prop := ∀ b, S b → w'.heap[b]? = w.heap[b]?
abbrev fA (a : Act) : Nat → Option Value := fun i => a.tmps[i]?
def Opd (S : Nat → Prop) (w : World) (ρ : Nat → Option Value) (a : Act) (x : Operand) (v : V) : Prop := ∃ y, valF (fA a) x = some y ∧ VRel S w ρ v y
def Yld (P : Program) (S : Nat → Prop) (w : World) (ρ : Nat → Option Value) (a : Act) (ty : TypeId) (op : Op) (v : V) : Prop := ∃ x, VRel S w ρ v x ∧ ∀ w', Agree S w w' → Runs P a ty op w' (.value x) w'
section
variable {P : Program} {S : Nat → Prop} {w : World} {ρ : Nat → Option Value} {a : Act} {n : Nat} {ty : TypeId}
theorem p_move {x : Operand} {v : V} (fr : Fr a n (fA a)) (hx : Opd S w ρ a x v) : Yld P S w ρ a ty (.move x) v := by
  obtain ⟨y, h1, h2⟩ := hx; exact ⟨y, h2, fun w' _ => ex_move fr h1⟩
theorem p_assign {x : Operand} {v : V} (fr : Fr a n (fA a)) (hx : Opd S w ρ a x v) : Yld P S w ρ a ty (.assign x) v := by
  obtain ⟨y, h1, h2⟩ := hx; exact ⟨y, h2, fun w' _ => ex_assign fr h1⟩
theorem p_pickT {c x y : Operand} {v : V} (fr : Fr a n (fA a)) (hc : Opd S w ρ a c (.bool true)) (hx : Opd S w ρ a x v) : Yld P S w ρ a ty (.pick c x y) v := by
  obtain ⟨b, h1, h2⟩ := hc; obtain ⟨z, h3, h4⟩ := hx
  simp only [VRel] at h2; subst h2
  exact ⟨z, h4, fun w' _ => ex_pickT fr h1 h3⟩
theorem p_pickF {c x y : Operand} {v : V} (fr : Fr a n (fA a)) (hc : Opd S w ρ a c (.bool false)) (hx : Opd S w ρ a y v) : Yld P S w ρ a ty (.pick c x y) v := by
  obtain ⟨b, h1, h2⟩ := hc; obtain ⟨z, h3, h4⟩ := hx
  simp only [VRel] at h2; subst h2
  exact ⟨z, h4, fun w' _ => ex_pickF fr h1 h3⟩
theorem p_nilP {x : Operand} {id o : Nat} (fr : Fr a n (fA a)) (hx : Opd S w ρ a x (.ptr id o)) : Yld P S w ρ a ty (.nilCheck x) (.ptr id o) := by
  obtain ⟨y, h1, h2⟩ := hx
  refine ⟨y, h2, fun w' _ => ?_⟩
  simp only [VRel] at h2; obtain ⟨b, _, rfl⟩ := h2
  exact ex_nil fr h1
theorem p_nilE {x : Operand} {id sz i o : Nat} (fr : Fr a n (fA a)) (hx : Opd S w ρ a x (.el id sz i o)) : Yld P S w ρ a ty (.nilCheck x) (.el id sz i o) := by
  obtain ⟨y, h1, h2⟩ := hx
  refine ⟨y, h2, fun w' _ => ?_⟩
  simp only [VRel] at h2; obtain ⟨b, _, _, _, rfl⟩ := h2
  exact ex_nil fr h1
theorem p_nilB {x : Operand} {cs : List V} {o : Nat} (fr : Fr a n (fA a)) (hx : Opd S w ρ a x (.box cs o)) : Yld P S w ρ a ty (.nilCheck x) (.box cs o) := by
  obtain ⟨y, h1, h2⟩ := hx
  refine ⟨y, h2, fun w' _ => ?_⟩
  simp only [VRel] at h2; obtain ⟨b, off, xs, rfl, _⟩ := h2
  exact ex_nil fr h1
theorem p_ext {x : Operand} {i : Nat} {vs : List V} {v : V} (fr : Fr a n (fA a)) (hx : Opd S w ρ a x (.tup vs)) (hi : vs[i]? = some v) : Yld P S w ρ a ty (.extract x i) v := by
  obtain ⟨y, h1, h2⟩ := hx
  simp only [VRel] at h2; obtain ⟨xs, rfl, h3⟩ := h2
  obtain ⟨z, h4, h5⟩ := h3.get hi
  exact ⟨z, h5, fun w' _ => ex_extract fr h1 (by simpa using h4)⟩
theorem p_not {t : TypeId} {x : Operand} {b : Bool} (fr : Fr a n (fA a)) (hx : Opd S w ρ a x (.bool b)) : Yld P S w ρ a ty (.unOp .not t x) (.bool !b) := by
  obtain ⟨y, h1, h2⟩ := hx
  simp only [VRel] at h2; subst h2
  exact ⟨_, by simp only [VRel], fun w' _ => ex_not fr h1 rfl⟩
theorem p_faP {t : TypeId} {x : Operand} {i id o k : Nat} (fr : Fr a n (fA a)) (hx : Opd S w ρ a x (.ptr id o)) (hk : fieldO P t i = some k) : Yld P S w ρ a ty (.fieldAddr t x i) (.ptr id (o + k)) := by
  obtain ⟨y, h1, h2⟩ := hx
  simp only [VRel] at h2; obtain ⟨b, h3, rfl⟩ := h2
  exact ⟨_, by simp only [VRel]; exact ⟨b, h3, rfl⟩, fun w' _ => ex_fa fr h1 hk rfl⟩
theorem p_faE {t : TypeId} {x : Operand} {i id sz j o k : Nat} (fr : Fr a n (fA a)) (hx : Opd S w ρ a x (.el id sz j o)) (hk : fieldO P t i = some k) : Yld P S w ρ a ty (.fieldAddr t x i) (.el id sz j (o + k)) := by
  obtain ⟨y, h1, h2⟩ := hx
  simp only [VRel] at h2; obtain ⟨b, m, c, h3, rfl⟩ := h2
  exact ⟨_, by simp only [VRel]; exact ⟨b, m, c, h3, rfl⟩, fun w' _ => ex_fa fr h1 hk (Nat.add_assoc _ _ _)⟩
theorem p_faB {t : TypeId} {x : Operand} {i : Nat} {cs : List V} {o k : Nat} (fr : Fr a n (fA a)) (hx : Opd S w ρ a x (.box cs o)) (hk : fieldO P t i = some k) : Yld P S w ρ a ty (.fieldAddr t x i) (.box cs (o + k)) := by
  obtain ⟨y, h1, h2⟩ := hx
  simp only [VRel] at h2; obtain ⟨b, off, xs, rfl, h3⟩ := h2
  exact ⟨_, by simp only [VRel]; exact ⟨b, off, xs, rfl, h3⟩, fun w' _ => ex_fa fr h1 hk (Nat.add_assoc _ _ _)⟩
theorem p_fd {t : TypeId} {x : Operand} {i k : Nat} {cs : List V} {v : V} (fr : Fr a n (fA a)) (hx : Opd S w ρ a x (.agg cs)) (hk : fieldS P t i = some k) (hv : cs[k]? = some v) : Yld P S w ρ a ty (.field t x i) v := by
  obtain ⟨y, h1, h2⟩ := hx
  simp only [VRel] at h2; obtain ⟨xs, rfl, h3⟩ := h2
  obtain ⟨z, h4, h5⟩ := h3.get hv
  exact ⟨z, h5, fun w' _ => ex_fd fr h1 hk h4⟩
def fieldN (P : Program) (t : TypeId) (i : Nat) : Option (Nat × Nat) := match P.underlying t with
  | some (.struct fs) => match fs[i]? with
    | some fl => match aggT P fl.type with
      | some m => some (fl.offset, m)
      | none => none
    | none => none
  | _ => none
theorem ex_fdN {t : TypeId} {f : Nat → Option Value} {x : Operand} {i k m : Nat} {cs : List Value} (h : Fr a n f) (hx : valF f x = some (.agg cs.toArray)) (ho : fieldN P t i = some (k, m)) : Runs P a ty (.field t x i) w (.value (.agg ((cs.drop k).take m).toArray)) w := by
  refine ex_field h hx fun w => ?_
  unfold fieldN at ho
  split at ho
  · rename_i fs hu
    split at ho
    · rename_i fl hfl
      split at ho
      · rename_i m' hs
        simp only [Option.some.injEq, Prod.mk.injEq] at ho
        obtain ⟨rfl, rfl⟩ := ho
        have hA : (isAgg fl.type).run P w = .ok true w ∧ (sizeOf fl.type).run P w = .ok m' w := by
          unfold aggT at hs
          cases hu : P.underlying fl.type with
          | none => rw [hu] at hs; cases hs
          | some d =>
            rw [hu] at hs
            cases d <;> first | cases hs | (obtain ⟨i, hi, hs⟩ := Option.map_eq_some_iff.1 hs; simp [isAgg, run_underlying hu, sizeOf, typeInfo, hi, hs])
        simp [Instr.field, run_underlying hu, hfl, part, hA.1, hA.2, asAgg]
      · cases ho
    · cases ho
  · cases ho
theorem p_fdN {t : TypeId} {x : Operand} {i k m : Nat} {cs : List V} (fr : Fr a n (fA a)) (hx : Opd S w ρ a x (.agg cs)) (hk : fieldN P t i = some (k, m)) : Yld P S w ρ a ty (.field t x i) (.agg ((cs.drop k).take m)) := by
  obtain ⟨y, h1, h2⟩ := hx
  simp only [VRel] at h2; obtain ⟨xs, rfl, h3⟩ := h2
  exact ⟨_, by simp only [VRel]; exact ⟨_, rfl, (h3.drop k).take m⟩, fun w' _ => ex_fdN fr h1 hk⟩
section
variable {t u : TypeId} {x y : Operand} {k : IntKind} {m l : Int}
theorem opd_int (h : Opd S w ρ a x (.int k m)) : valF (fA a) x = some (.int k m) := by
  obtain ⟨y, h1, h2⟩ := h; simp only [VRel] at h2; subst h2; exact h1
theorem opd_bool {b : Bool} (h : Opd S w ρ a x (.bool b)) : valF (fA a) x = some (.bool b) := by
  obtain ⟨y, h1, h2⟩ := h; simp only [VRel] at h2; subst h2; exact h1
theorem opd_str {s : List UInt8} (h : Opd S w ρ a x (.str s)) : valF (fA a) x = some (.string ⟨s.toArray⟩) := by
  obtain ⟨y, h1, h2⟩ := h; simp only [VRel] at h2; subst h2; exact h1
variable (fr : Fr a n (fA a)) (hx : Opd S w ρ a x (.int k m)) (hy : Opd S w ρ a y (.int k l))
include fr hx hy
theorem p_eqI : Yld P S w ρ a ty (.binOp .eql t x y u) (.bool (m == l)) := ⟨_, by simp only [VRel], fun w' _ => ex_eqI fr (opd_int hx) (opd_int hy) rfl⟩
theorem p_neI : Yld P S w ρ a ty (.binOp .neq t x y u) (.bool (m != l)) := ⟨_, by simp only [VRel], fun w' _ => ex_neI fr (opd_int hx) (opd_int hy) rfl⟩
theorem p_ltI : Yld P S w ρ a ty (.binOp .lss t x y u) (.bool (decide (m < l))) := ⟨_, by simp only [VRel], fun w' _ => ex_ltI fr (opd_int hx) (opd_int hy) rfl⟩
theorem p_leI : Yld P S w ρ a ty (.binOp .leq t x y u) (.bool (decide (m ≤ l))) := ⟨_, by simp only [VRel], fun w' _ => ex_leI fr (opd_int hx) (opd_int hy) rfl⟩
theorem p_gtI : Yld P S w ρ a ty (.binOp .gtr t x y u) (.bool (decide (l < m))) := ⟨_, by simp only [VRel], fun w' _ => ex_gtI fr (opd_int hx) (opd_int hy) rfl⟩
theorem p_geI : Yld P S w ρ a ty (.binOp .geq t x y u) (.bool (decide (l ≤ m))) := ⟨_, by simp only [VRel], fun w' _ => ex_geI fr (opd_int hx) (opd_int hy) rfl⟩
end
section
variable {t u : TypeId} {x y : Operand} {m l : Int} (fr : Fr a n (fA a)) (hx : Opd S w ρ a x (.int .i64 m)) (hy : Opd S w ρ a y (.int .i64 l))
include fr hx hy
theorem p_maxI : Yld P S w ρ a ty (.call { callee := .builtin .max, args := #[x, y], argTypes := #[t, u] }) (.int .i64 (max m l)) := ⟨_, by simp only [VRel], fun w' _ => ex_maxI fr (opd_int hx) (opd_int hy)⟩
end
theorem p_eqB {t u : TypeId} {x y : Operand} {m l : Bool} (fr : Fr a n (fA a)) (ht : P.underlying t = some .bool) (hx : Opd S w ρ a x (.bool m)) (hy : Opd S w ρ a y (.bool l)) : Yld P S w ρ a ty (.binOp .eql t x y u) (.bool (m == l)) :=
  ⟨_, by simp only [VRel], fun w' _ => ex_eqB ht fr (opd_bool hx) (opd_bool hy) rfl⟩
theorem ex_neB {f : Nat → Option Value} {t u : TypeId} {x y : Operand} {m l c : Bool} (ht : P.underlying t = some .bool) (h : Fr a n f) (hx : valF f x = some (.bool m)) (hy : valF f y = some (.bool l)) (hc : (m != l) = c) : Runs P a ty (.binOp .neq t x y u) w (.value (.bool c)) w := fun _ _ _ _ => by subst hc; simp only [execOp, h.eval hx, h.eval hy]; simp [go_sem, eqGuard, ht, bne]
theorem p_neB {t u : TypeId} {x y : Operand} {m l : Bool} (fr : Fr a n (fA a)) (ht : P.underlying t = some .bool) (hx : Opd S w ρ a x (.bool m)) (hy : Opd S w ρ a y (.bool l)) : Yld P S w ρ a ty (.binOp .neq t x y u) (.bool (m != l)) :=
  ⟨_, by simp only [VRel], fun w' _ => ex_neB ht fr (opd_bool hx) (opd_bool hy) rfl⟩
section
variable {t u : TypeId} {x y : Operand} {m l : List UInt8} (fr : Fr a n (fA a)) (hx : Opd S w ρ a x (.str m)) (hy : Opd S w ρ a y (.str l))
include fr hx hy
theorem p_eqS : Yld P S w ρ a ty (.binOp .eql t x y u) (.bool (m == l)) := ⟨_, by simp only [VRel], fun w' _ => ex_eqS fr (opd_str hx) (opd_str hy) rfl⟩
theorem p_neS : Yld P S w ρ a ty (.binOp .neq t x y u) (.bool (m != l)) := ⟨_, by simp only [VRel], fun w' _ => ex_neS fr (opd_str hx) (opd_str hy) rfl⟩
end
theorem p_lenS {t : TypeId} {x : Operand} {m : List UInt8} (fr : Fr a n (fA a)) (ht : P.underlying t = some .string) (hx : Opd S w ρ a x (.str m)) : Yld P S w ρ a ty (.call { callee := .builtin .len, args := #[x], argTypes := #[t] }) (.int .i64 m.length) :=
  ⟨_, by simp only [VRel], fun w' _ => ex_lenS fr ht (opd_str hx)⟩
theorem p_lenN {t e : TypeId} {x : Operand} (fr : Fr a n (fA a)) (ht : P.underlying t = some (.slice e)) (hx : Opd S w ρ a x .nils) : Yld P S w ρ a ty (.call { callee := .builtin .len, args := #[x], argTypes := #[t] }) (.int .i64 0) := by
  obtain ⟨y, h1, h2⟩ := hx
  simp only [VRel] at h2; subst h2
  exact ⟨.int .i64 (0 : Nat), by simp only [VRel]; rfl, fun w' _ => ex_len fr ht h1⟩
theorem p_lenR {t e : TypeId} {x : Operand} {sz : Nat} {els : List V} (fr : Fr a n (fA a)) (ht : P.underlying t = some (.slice e)) (hx : Opd S w ρ a x (.row sz els)) : Yld P S w ρ a ty (.call { callee := .builtin .len, args := #[x], argTypes := #[t] }) (.int .i64 els.length) := by
  obtain ⟨y, h1, h2⟩ := hx
  simp only [VRel] at h2; obtain ⟨A, c, xs, rfl, _⟩ := h2
  exact ⟨_, by simp only [VRel], fun w' _ => ex_len fr ht h1⟩
theorem ownsRow_slice {base e sz k : Nat} {v : Value} {xs : List Value} (h : w.ownsRow base e sz v k xs) : ∃ A c, v = .slice A k c ∧ k ≤ c ∧ c ≤ maxLen := by
  rcases h.2 with ⟨rfl, rfl⟩ | ⟨g, cap, cur, rfl, _, _, h4, h5, _⟩
  · exact ⟨none, 0, rfl, Nat.le_refl _, by decide⟩
  · exact ⟨_, cap, rfl, h4, h5⟩
theorem p_lenO {h : Nat → Ob} {t e e' : TypeId} {x : Operand} {id sz : Nat} {els : List V} (hr : HRel S w ρ h) (ho : h id = .row e' sz els) (fr : Fr a n (fA a)) (ht : P.underlying t = some (.slice e)) (hx : Opd S w ρ a x (.sl id)) : Yld P S w ρ a ty (.call { callee := .builtin .len, args := #[x], argTypes := #[t] }) (.int .i64 els.length) := by
  obtain ⟨y, h1, h2⟩ := hx
  simp only [VRel] at h2
  have h3 := hr.ob id
  rw [ho] at h3
  obtain ⟨v, xs, h4, h5, h6⟩ := h3
  rw [h2.1] at h4
  cases h4
  obtain ⟨A, c, rfl, _⟩ := ownsRow_slice h5
  exact ⟨_, by simp only [VRel], fun w' _ => ex_len fr ht h1⟩
theorem p_idxR {t e : TypeId} {x y : Operand} {sz i : Nat} {els : List V} {v : V} (fr : Fr a n (fA a)) (ht : P.underlying t = some (.slice e)) (hz : sizeT P e = some sz) (hx : Opd S w ρ a x (.row sz els)) (hy : Opd S w ρ a y (.int .i64 (i : Int))) (hi : els[i]? = some v) :
    Yld P S w ρ a ty (.indexAddr t x y) (.box v.cells 0) := by
  obtain ⟨y', h1, h2⟩ := hx
  simp only [VRel] at h2; obtain ⟨A, c, xs, rfl, h3, h4, h5, h6⟩ := h2
  have hlt : i < els.length := by
    rcases Nat.lt_or_ge i els.length with h | h
    · exact h
    · rw [List.getElem?_eq_none h] at hi; cases hi
  obtain ⟨b, off, rfl, hS, hb, hc⟩ := h6.2 (by omega)
  obtain ⟨z, g1, g2, g3⟩ := h5.get hi
  have hcell : ∀ j, j < sz → w.cell? ⟨b, off + i * sz + j, none⟩ = z.cells.toList[j]? := fun j hj => by
    rw [← g3 j hj, Nat.add_assoc]
    refine hc _ ?_
    have : (i + 1) * sz ≤ els.length * sz := Nat.mul_le_mul_right _ hlt
    rw [Nat.add_mul, Nat.one_mul] at this
    omega
  refine ⟨_, ?_, fun w' _ => ex_index fr ht hz h1 (opd_int hy) rfl hlt rfl⟩
  simp only [VRel]
  refine ⟨b, off + i * sz, _, by simp, hS, hb, g1.cells, fun j hj => ?_⟩
  exact hcell j (by simp at hj; omega)
theorem p_idxO {h : Nat → Ob} {t e e' : TypeId} {x y : Operand} {id sz i : Nat} {els : List V} (hr : HRel S w ρ h) (ho : h id = .row e' sz els) (fr : Fr a n (fA a)) (ht : P.underlying t = some (.slice e)) (hz : sizeT P e = some sz) (hx : Opd S w ρ a x (.sl id)) (hy : Opd S w ρ a y (.int .i64 (i : Int))) (hi : i < els.length) :
    Yld P S w ρ a ty (.indexAddr t x y) (.el id sz i 0) := by
  obtain ⟨y', h1, h2⟩ := hx
  simp only [VRel] at h2
  have h3 := hr.ob id
  rw [ho] at h3
  obtain ⟨v, xs, h4, h5, h6⟩ := h3
  rw [h2.1] at h4
  cases h4
  obtain ⟨g, cap, rfl, _⟩ := h5.form (by omega)
  exact ⟨_, by simp only [VRel]; exact ⟨g, _, _, h2.1, rfl⟩, fun w' _ => ex_index fr ht hz h1 (opd_int hy) rfl hi (by simp)⟩
theorem ex_idxS {f : Nat → Option Value} {t : TypeId} {x y : Operand} {l : List UInt8} {i : Nat} {c : UInt8} (h : Fr a n f) (ht : P.underlying t = some .string) (hx : valF f x = some (.string ⟨l.toArray⟩)) (hy : valF f y = some (.int .i64 (i : Int))) (hi : l[i]? = some c) : Runs P a ty (.index t x y) w (.value (.int .u8 c.toNat)) w := fun _ _ _ _ => by
  simp only [execOp, h.eval hx, h.eval hy]
  have hb : (ByteArray.mk l.toArray)[i]? = some c := by
    obtain ⟨hlt, hc⟩ := List.getElem?_eq_some_iff.1 hi
    have : i < (ByteArray.mk l.toArray).size := by simpa [ByteArray.size] using hlt
    rw [getElem?_pos (ByteArray.mk l.toArray) i this]
    simpa [ByteArray.getElem_eq_getElem_data] using hc
  simp [Instr.index, asIntOf, run_underlying ht, hb]
theorem p_idxS {t : TypeId} {x y : Operand} {l : List UInt8} {i : Nat} {c : UInt8} (fr : Fr a n (fA a)) (ht : P.underlying t = some .string) (hx : Opd S w ρ a x (.str l)) (hy : Opd S w ρ a y (.int .i64 (i : Int))) (hi : l[i]? = some c) : Yld P S w ρ a ty (.index t x y) (.int .u8 c.toNat) :=
  ⟨_, by simp only [VRel], fun w' _ => ex_idxS fr ht (opd_str hx) (opd_int hy) hi⟩
theorem ex_slS {f : Nat → Option Value} {t : TypeId} {x : Operand} {lo hi : Option Operand} {l : List UInt8} {i j : Nat} (h : Fr a n f) (ht : P.underlying t = some .string) (hx : valF f x = some (.string ⟨l.toArray⟩))
    (hlo : (lo = none ∧ i = 0) ∨ ∃ y, lo = some y ∧ valF f y = some (.int .i64 (i : Int))) (hhi : (hi = none ∧ j = l.length) ∨ ∃ y, hi = some y ∧ valF f y = some (.int .i64 (j : Int))) (hij : i ≤ j) (hj : j ≤ l.length) :
    Runs P a ty (.slice t x lo hi none) w (.value (.string ⟨((l.drop i).take (j - i)).toArray⟩)) w := fun _ _ _ _ => by
  have hs : (ByteArray.mk l.toArray).size = l.length := by simp [ByteArray.size]
  rw [← ext_list']
  rcases hlo with ⟨rfl, rfl⟩ | ⟨y, rfl, hy⟩ <;> rcases hhi with ⟨rfl, rfl⟩ | ⟨z, rfl, hz⟩
  · simp only [execOp, h.eval hx, Option.map_none]
    simp [Instr.sliceAt, Instr.slice, run_underlying ht, Instr.sliceBounds, hs]
    rw [ext_list']; simp
  · simp only [execOp, h.eval hx, h.eval hz, Option.map_none, Option.map_some]
    simp [Instr.sliceAt, Instr.slice, run_underlying ht, Instr.sliceBounds, hs, run_sliceBound _ .i64 (j : Int) l.length _ (by omega) (by omega)]
  · simp only [execOp, h.eval hx, h.eval hy, Option.map_none, Option.map_some]
    simp [Instr.sliceAt, Instr.slice, run_underlying ht, Instr.sliceBounds, hs, run_sliceBound _ .i64 (i : Int) l.length _ (by omega) (by omega)]
  · simp only [execOp, h.eval hx, h.eval hy, h.eval hz, Option.map_some]
    simp [Instr.sliceAt, Instr.slice, run_underlying ht, Instr.sliceBounds, hs, run_sliceBound _ .i64 (j : Int) l.length _ (by omega) (by omega), run_sliceBound _ .i64 (i : Int) j _ (by omega) (by omega)]
theorem p_slS {t : TypeId} {x : Operand} {lo hi : Option Operand} {l : List UInt8} {i j : Nat} (fr : Fr a n (fA a)) (ht : P.underlying t = some .string) (hx : Opd S w ρ a x (.str l))
    (hlo : (lo = none ∧ i = 0) ∨ ∃ y, lo = some y ∧ Opd S w ρ a y (.int .i64 (i : Int))) (hhi : (hi = none ∧ j = l.length) ∨ ∃ y, hi = some y ∧ Opd S w ρ a y (.int .i64 (j : Int))) (hij : i ≤ j) (hj : j ≤ l.length) :
    Yld P S w ρ a ty (.slice t x lo hi none) (.str ((l.drop i).take (j - i))) :=
  ⟨_, by simp only [VRel], fun w' _ => ex_slS fr ht (opd_str hx) (hlo.imp id fun ⟨y, e, h⟩ => ⟨y, e, opd_int h⟩) (hhi.imp id fun ⟨y, e, h⟩ => ⟨y, e, opd_int h⟩) hij hj⟩
theorem ex_slR {f : Nat → Option Value} {t e : TypeId} {x : Operand} {lo hi : Option Operand} {A : Option Addr} {m c sz i j : Nat} (h : Fr a n f) (ht : P.underlying t = some (.slice e)) (hz : sizeT P e = some sz) (hx : valF f x = some (.slice A m c))
    (hlo : (lo = none ∧ i = 0) ∨ ∃ y, lo = some y ∧ valF f y = some (.int .i64 (i : Int))) (hhi : (hi = none ∧ j = m) ∨ ∃ y, hi = some y ∧ valF f y = some (.int .i64 (j : Int))) (hij : i ≤ j) (hj : j ≤ m) (hm : m ≤ c) :
    Runs P a ty (.slice t x lo hi none) w (.value (.slice (if c = i then A else A.map (·.add (i * sz))) (j - i) (c - i))) w := fun _ _ _ _ => by
  obtain ⟨inf, hi1, hs⟩ := Option.map_eq_some_iff.1 (show (P.info? e).map (·.size) = some sz from hz)
  have hso : (sizeOf e).run P w = .ok sz w := by simp [sizeOf, typeInfo, hi1, hs]
  rcases hlo with ⟨rfl, rfl⟩ | ⟨y, rfl, hy⟩ <;> rcases hhi with ⟨rfl, rfl⟩ | ⟨z, rfl, hz'⟩
  · simp only [execOp, h.eval hx, Option.map_none]
    simp [Instr.sliceAt, Instr.slice, run_underlying ht, Instr.sliceBounds, hso]
  · simp only [execOp, h.eval hx, h.eval hz', Option.map_none, Option.map_some]
    simp [Instr.sliceAt, Instr.slice, run_underlying ht, Instr.sliceBounds, hso, run_sliceBound _ .i64 (j : Int) c _ (by omega) (by omega)]
  · simp only [execOp, h.eval hx, h.eval hy, Option.map_none, Option.map_some]
    simp [Instr.sliceAt, Instr.slice, run_underlying ht, Instr.sliceBounds, hso, run_sliceBound _ .i64 (i : Int) j _ (by omega) (by omega)]
  · simp only [execOp, h.eval hx, h.eval hy, h.eval hz', Option.map_some]
    simp [Instr.sliceAt, Instr.slice, run_underlying ht, Instr.sliceBounds, hso, run_sliceBound _ .i64 (j : Int) c _ (by omega) (by omega), run_sliceBound _ .i64 (i : Int) j _ (by omega) (by omega)]
theorem rowIn_sub {sz m c i j : Nat} {A : Option Addr} {xs : List Value} (hr : RowIn S w sz A m xs) (hij : i ≤ j) (hj : j ≤ m) (hm : m ≤ c) : RowIn S w sz (if c = i then A else A.map (·.add (i * sz))) (j - i) ((xs.drop (i * sz)).take ((j - i) * sz)) := by
  have h1 : (j - i) * sz + i * sz = j * sz := by rw [← Nat.add_mul]; congr 1; omega
  have h2 : j * sz ≤ m * sz := Nat.mul_le_mul_right _ hj
  refine ⟨by simp [hr.1]; omega, fun hn => ?_⟩
  obtain ⟨b, off, rfl, hS, hb, hc⟩ := hr.2 (by omega)
  rw [if_neg (by omega)]
  refine ⟨b, off + i * sz, by simp [addr_add], hS, hb, fun k hk => ?_⟩
  rw [Nat.add_assoc, hc _ (by omega), List.getElem?_take, if_pos hk, List.getElem?_drop]
theorem p_slR {t e : TypeId} {x : Operand} {lo hi : Option Operand} {sz i j : Nat} {els : List V} (fr : Fr a n (fA a)) (ht : P.underlying t = some (.slice e)) (hz : sizeT P e = some sz) (hx : Opd S w ρ a x (.row sz els))
    (hlo : (lo = none ∧ i = 0) ∨ ∃ y, lo = some y ∧ Opd S w ρ a y (.int .i64 (i : Int))) (hhi : (hi = none ∧ j = els.length) ∨ ∃ y, hi = some y ∧ Opd S w ρ a y (.int .i64 (j : Int))) (hij : i ≤ j) (hj : j ≤ els.length) :
    Yld P S w ρ a ty (.slice t x lo hi none) (.row sz ((els.drop i).take (j - i))) := by
  obtain ⟨y, h1, h2⟩ := hx
  simp only [VRel] at h2; obtain ⟨A, c, xs, rfl, h3, h4, h5, h6⟩ := h2
  refine ⟨_, ?_, fun w' _ => ex_slR fr ht hz h1 (hlo.imp id fun ⟨y, e, h⟩ => ⟨y, e, opd_int h⟩) (hhi.imp id fun ⟨y, e, h⟩ => ⟨y, e, opd_int h⟩) hij hj h3⟩
  simp only [VRel]
  have e : ((els.drop i).take (j - i)).length = j - i := by simp; omega
  rw [e]
  exact ⟨_, _, _, rfl, by omega, by omega, (h5.drop i).take (j - i), rowIn_sub h6 hij hj h3⟩
theorem p_loadB {t : TypeId} {x : Operand} {cs : List V} {o : Nat} {v : V} (fr : Fr a n (fA a)) (ht : scalarT P t = true) (hx : Opd S w ρ a x (.box cs o)) (hv : cs[o]? = some v) : Yld P S w ρ a ty (.load t x) v := by
  obtain ⟨y, h1, h2⟩ := hx
  simp only [VRel] at h2; obtain ⟨b, off, xs, rfl, hS, hb, h3, h4⟩ := h2
  obtain ⟨z, h5, h6⟩ := h3.get hv
  have hlt : o < xs.length := by
    rcases Nat.lt_or_ge o xs.length with h | h
    · exact h
    · rw [List.getElem?_eq_none h] at h5; cases h5
  exact ⟨z, h6.up up0, fun w' hA => ex_load fr h1 ht ((World.cell?_of_block (a := ⟨b, off + o, none⟩) (hA b hS)).trans ((h4 o hlt).trans h5))⟩
theorem p_loadBN {t : TypeId} {x : Operand} {cs : List V} {o m : Nat} (fr : Fr a n (fA a)) (ht : aggT P t = some m) (hx : Opd S w ρ a x (.box cs o)) (hl : o + m ≤ cs.length) : Yld P S w ρ a ty (.load t x) (.agg ((cs.drop o).take m)) := by
  obtain ⟨y, h1, h2⟩ := hx
  simp only [VRel] at h2; obtain ⟨b, off, xs, rfl, hS, hb, h3, h4⟩ := h2
  have hlen := h3.length
  refine ⟨.agg ((xs.drop o).take m).toArray, by simp only [VRel]; exact ⟨_, rfl, ((h3.drop o).take m).up up0⟩, fun w' hA => ex_loadN fr h1 ht (by simp; omega) fun j hj => ?_⟩
  rw [World.cell?_of_block (a := ⟨b, off + o + j, none⟩) (hA b hS), Nat.add_assoc, h4 _ (by omega), List.getElem?_take, if_pos hj, List.getElem?_drop]
def overV (cs : List V) (o : Nat) (ps : List V) : List V := cs.take o ++ ps ++ cs.drop (o + ps.length)
def fillV (place : Nat → Option (Nat × Nat)) : List V → List (Nat × V) → Option (List V)
  | cs, [] => some cs
  | cs, (i, v) :: r => match place i with
    | some (o, sz) => match Nat.beq v.cells.length sz && Nat.ble (o + sz) cs.length with
      | true => fillV place (overV cs o v.cells) r
      | false => none
    | none => none
def PRel (S : Nat → Prop) (w : World) (ρ : Nat → Option Value) : List (Nat × V) → List (Nat × Value) → Prop
  | [], ys => ys = []
  | (i, v) :: r, ys => ∃ x zs, ys = (i, x) :: zs ∧ VRel S w ρ v x ∧ PRel S w ρ r zs
theorem fill_ok {place pl : Nat → Option (Nat × Nat)} (hpl : ∀ i p, place i = some p → pl i = some p) : ∀ {vs : List (Nat × V)} {ys : List (Nat × Value)} {cs cs' : List V} {xs : List Value}, PRel S w ρ vs ys → LRel S w ρ cs xs → fillV place cs vs = some cs' → ∃ xs', Instr.fill pl xs.toArray ys = some xs'.toArray ∧ LRel S w ρ cs' xs'
  | [], ys, cs, cs', xs, hp, hl, hf => by
    simp only [PRel] at hp; subst hp
    simp only [fillV, Option.some.injEq] at hf; subst hf
    exact ⟨xs, rfl, hl⟩
  | (i, v) :: r, ys, cs, cs', xs, hp, hl, hf => by
    simp only [PRel] at hp
    obtain ⟨x, zs, rfl, hx, hr⟩ := hp
    simp only [fillV] at hf
    split at hf
    · rename_i o sz hpi
      split at hf
      · rename_i hc
        simp only [Bool.and_eq_true, Nat.beq_eq, Nat.ble_eq] at hc
        have hcl := hx.cells.length
        simp only [Array.length_toList] at hcl
        have hlen := hl.length
        have hl' : LRel S w ρ (overV cs o v.cells) (xs.take o ++ x.cells.toList ++ xs.drop (o + x.cells.size)) := by
          unfold overV
          rw [hcl]
          exact ((hl.take o).append hx.cells).append (hl.drop _)
        obtain ⟨xs', h1, h2⟩ := fill_ok hpl hr hl' hf
        refine ⟨xs', ?_, h2⟩
        simp only [Instr.fill, hpl i _ hpi]
        rw [if_neg (by simp; omega), ← h1]
        congr 1
        have hfs := foldl_set o x.cells.toList 0 xs (by simp; omega)
        simp only [Nat.add_zero, Array.length_toList] at hfs
        rw [← hfs, ← Array.foldl_toList, Array.toList_zipIdx]
      · cases hf
    · cases hf
def placesT (P : Program) (t : TypeId) : Option (List (Nat × Nat)) := match P.underlying t with
  | some (.struct fs) => fs.toList.mapM fun fl => (sizeT P fl.type).map fun s => (fl.offset, s)
  | _ => none
theorem mapM_sizes : ∀ {fs : List Field} {ps : List (Nat × Nat)}, (fs.mapM fun fl => (sizeT P fl.type).map fun s => (fl.offset, s)) = some ps → (fs.mapM (m := Sem) fun fl => do pure (fl.offset, ← sizeOf fl.type)).run P w = .ok ps w
  | [], ps, h => by simp at h; subst h; simp
  | fl :: r, ps, h => by
    simp only [List.mapM_cons] at h
    obtain ⟨p, h1, h⟩ := Option.bind_eq_some_iff.1 h
    obtain ⟨qs, h2, h⟩ := Option.bind_eq_some_iff.1 h
    simp only [Option.pure_def, Option.some.injEq] at h
    subst h
    obtain ⟨s, h3, h4⟩ := Option.map_eq_some_iff.1 h1
    obtain ⟨inf, h5, h6⟩ := Option.map_eq_some_iff.1 (show (P.info? fl.type).map (·.size) = some s from h3)
    have ih := mapM_sizes h2
    have h7 : (sizeOf fl.type).run P w = .ok s w := by simp [sizeOf, typeInfo, h5, h6]
    subst h4
    simp only [List.mapM_cons]
    simp [h7]
    simp at ih
    simp [ih]
theorem p_build {t : TypeId} {ps : List (Nat × Operand)} {vs : List (Nat × V)} {ys : List (Nat × Value)} {pl : List (Nat × Nat)} {z : List Value} {zv cs : List V} {place : Nat → Option (Nat × Nat)} (fr : Fr a n (fA a)) (hps : partsF (fA a) ps = some ys) (hpr : PRel S w ρ vs ys) (hz : zeroT P t = some z) (hzv : LRel S w ρ zv z)
    (hpl : placesT P t = some pl) (hplace : ∀ i p, place i = some p → pl[i]? = some p) (hf : fillV place zv vs = some cs) : Yld P S w ρ a ty (.build t ps.toArray) (.agg cs) := by
  obtain ⟨xs, h1, h2⟩ := fill_ok (pl := fun i => pl.toArray[i]?) (fun i p h => by simpa using hplace i p h) hpr hzv hf
  refine ⟨.agg xs.toArray, by simp only [VRel]; exact ⟨xs, rfl, h2⟩, fun w' _ => ex_build fr hps fun w => ?_⟩
  unfold zeroT at hz
  obtain ⟨z0, hz1, hz2⟩ := Option.map_eq_some_iff.1 hz
  obtain ⟨inf, hi, hiz⟩ := Option.bind_eq_some_iff.1 hz1
  have ez : z0.cells = z.toArray := by rw [← hz2]
  unfold placesT at hpl
  cases hu : P.underlying t with
  | none => rw [hu] at hpl; cases hpl
  | some d =>
    rw [hu] at hpl
    cases d with
    | struct fs =>
      have hm := mapM_sizes (w := w) hpl
      have hm' : (fs.mapM (m := Sem) fun fl => do pure (fl.offset, ← sizeOf fl.type)).run P w = .ok pl.toArray w := by
        have e : fs.mapM (m := Sem) (fun fl => do pure (fl.offset, ← sizeOf fl.type)) = List.toArray <$> fs.toList.mapM (m := Sem) (fun fl => do pure (fl.offset, ← sizeOf fl.type)) := by
          rw [← List.mapM_toArray]
        rw [e]; simp at hm; simp [hm]
      simp only [Instr.build]
      simp at hm'
      simp [zeroValue, typeInfo, hi, hiz, run_underlying hu, hm', ez]
      simp at h1
      rw [h1]; simp
    | _ => cases hpl
theorem p_buildA {t : TypeId} {ps : List (Nat × Operand)} {vs : List (Nat × V)} {ys : List (Nat × Value)} {sz len : Nat} {e : TypeId} {z : List Value} {zv cs : List V} (fr : Fr a n (fA a)) (hps : partsF (fA a) ps = some ys) (hpr : PRel S w ρ vs ys) (hz : zeroT P t = some z) (hzv : LRel S w ρ zv z)
    (ht : P.underlying t = some (.array len e)) (he : sizeT P e = some sz) (hf : fillV (fun i => some (i * sz, sz)) zv vs = some cs) : Yld P S w ρ a ty (.build t ps.toArray) (.agg cs) := by
  obtain ⟨xs, h1, h2⟩ := fill_ok (pl := fun i => some (i * sz, sz)) (fun i p h => h) hpr hzv hf
  refine ⟨.agg xs.toArray, by simp only [VRel]; exact ⟨xs, rfl, h2⟩, fun w' _ => ex_build fr hps fun w => ?_⟩
  unfold zeroT at hz
  obtain ⟨z0, hz1, hz2⟩ := Option.map_eq_some_iff.1 hz
  obtain ⟨inf, hi, hiz⟩ := Option.bind_eq_some_iff.1 hz1
  have ez : z0.cells = z.toArray := by rw [← hz2]
  obtain ⟨inf', h5, h6⟩ := Option.map_eq_some_iff.1 (show (P.info? e).map (·.size) = some sz from he)
  have h7 : (sizeOf e).run P w = .ok sz w := by simp [sizeOf, typeInfo, h5, h6]
  simp only [Instr.build]
  simp [zeroValue, typeInfo, hi, hiz, run_underlying ht, h7, ez]
  rw [h1]; simp
end
end Go.Proofs.Ythpjpngfghcmcaa
namespace Go.Proofs.Ythpjpngfghcmcaa
open Go.RowKit
structure ChgP (X : Nat → Prop) (w w' : World) : Prop where
  os : w'.os = w.os
  tape : w'.tape = w.tape
  output : w'.output = w.output
  size : w.heap.size ≤ w'.heap.size
  block : ∀ k, k < w.heap.size → ¬ X k → w'.heap[k]? = w.heap[k]?
theorem ChgP.refl (X : Nat → Prop) (w : World) : ChgP X w w := ⟨rfl, rfl, rfl, Nat.le_refl _, fun _ _ _ => rfl⟩
theorem ChgP.trans {X Y : Nat → Prop} {w w1 w2 : World} (h : ChgP X w w1) (k : ChgP Y w1 w2) (hY : ∀ b, Y b → X b ∨ w.heap.size ≤ b) : ChgP X w w2 :=
  ⟨k.os.trans h.os, k.tape.trans h.tape, k.output.trans h.output, Nat.le_trans h.size k.size, fun b hb hX => by
    rw [k.block b (Nat.lt_of_lt_of_le hb h.size) (fun hc => by rcases hY b hc with h1 | h1; exact hX h1; omega), h.block b hb hX]⟩
theorem ChgP.mono {X Y : Nat → Prop} {w w1 : World} (h : ChgP X w w1) (hY : ∀ b, X b → Y b) : ChgP Y w w1 := ⟨h.os, h.tape, h.output, h.size, fun b hb hX => h.block b hb (fun hc => hX (hY b hc))⟩
theorem ChgP.of {X : List Nat} {w w1 : World} (h : Chg X w w1) : ChgP (· ∈ X) w w1 := ⟨h.os, h.tape, h.output, h.size, h.block⟩
theorem ChgP.of0 {X : Nat → Prop} {w w1 : World} (h : Chg [] w w1) : ChgP X w w1 := (ChgP.of h).mono (fun b hb => by simp at hb)
def updH (h : Nat → Ob) (id : Nat) (o : Ob) : Nat → Ob := fun i => match Nat.beq i id with | true => o | false => h i
def updR (ρ : Nat → Option Value) (id : Nat) (x : Value) : Nat → Option Value := fun i => match Nat.beq i id with | true => some x | false => ρ i
theorem updH_same (h : Nat → Ob) (id : Nat) (o : Ob) : updH h id o id = o := by simp [updH]
theorem updH_ne (h : Nat → Ob) {id i : Nat} (o : Ob) (hi : i ≠ id) : updH h id o i = h i := by
  unfold updH; split
  · rename_i hb; exact absurd (Nat.eq_of_beq_eq_true hb) hi
  · rfl
theorem updR_same (ρ : Nat → Option Value) (id : Nat) (x : Value) : updR ρ id x id = some x := by simp [updR]
theorem updR_ne (ρ : Nat → Option Value) {id i : Nat} (x : Value) (hi : i ≠ id) : updR ρ id x i = ρ i := by
  unfold updR; split
  · rename_i hb; exact absurd (Nat.eq_of_beq_eq_true hb) hi
  · rfl
structure Eff (S : Nat → Prop) (w w' : World) (ρ ρ' : Nat → Option Value) (h h' : Nat → Ob) (X : Nat → Prop) : Prop where
  hr : HRel S w' ρ' h'
  up : Up S S w w' ρ ρ'
  chg : ChgP (fun b => ∃ id, X id ∧ own ρ id (h id) b) w w'
  new : ∀ id b, own ρ' id (h' id) b → (∃ j, own ρ j (h j) b) ∨ w.heap.size ≤ b
def Does (P : Program) (S : Nat → Prop) (w : World) (ρ : Nat → Option Value) (h : Nat → Ob) (a : Act) (ty : TypeId) (op : Op) (v : Option V) (h' : Nat → Ob) (X : Nat → Prop) : Prop :=
  ∃ nx w' ρ', Runs P a ty op w nx w' ∧ Eff S w w' ρ ρ' h h' X ∧ match v with
    | some v => ∃ x, nx = .value x ∧ VRel S w' ρ' v x
    | none => nx = .skip
section
variable {P : Program} {S : Nat → Prop} {w w' : World} {ρ ρ' : Nat → Option Value} {h h' : Nat → Ob} {a : Act} {n : Nat} {ty : TypeId}
theorem Eff.refl {X : Nat → Prop} (hr : HRel S w ρ h) : Eff S w w ρ ρ h h X := ⟨hr, Up.refl, ChgP.refl _ _, fun id b hb => .inl ⟨id, hb⟩⟩
theorem eff_mk {X Y : Nat → Prop} (k src : Nat) (hr : HRel S w ρ h) (hc : ChgP X w w') (hρ : ∀ i x, ρ i = some x → ρ' i = some x) (hX : ∀ b, X b → ∃ id, Y id ∧ own ρ id (h id) b)
    (hk : ObRel S w' ρ' k (h' k)) (hkb : ∀ b, own ρ' k (h' k) b → w.heap.size ≤ b ∨ own ρ src (h src) b) (hsrc : src ≠ k → h' src = .gone)
    (hi : ∀ i, i ≠ k → h' i = .gone ∨ (h' i = h i ∧ (h i = .free → ρ' i = none) ∧ ∀ b, own ρ i (h i) b → ¬ X b)) : Eff S w w' ρ ρ' h h' Y := by
  have hnS : ∀ b, S b → ¬ X b := fun b hb hx => by obtain ⟨id, _, ho⟩ := hX b hx; exact hr.sep id b ho hb
  have up : Up S S w w' ρ ρ' := ⟨fun _ h => h, fun b hb hlt => hc.block b hlt (hnS b hb), hρ⟩
  have back : ∀ i b, i ≠ k → own ρ' i (h' i) b → own ρ i (h i) b := fun i b hik hb => by
    rcases hi i hik with e | ⟨e, _, _⟩
    · rw [e] at hb; exact hb.elim
    · rw [e] at hb; exact own_up hρ (hr.ob i) hb
  refine ⟨⟨fun i => ?_, fun i b hb => ?_, fun i j b hbi hbj => ?_, fun b hb => Nat.lt_of_lt_of_le (hr.slt b hb) hc.size⟩, up, hc.mono hX, fun i b hb => ?_⟩
  · by_cases hik : i = k
    · subst hik; exact hk
    · rcases hi i hik with e | ⟨e, hf, hb⟩
      · rw [e]; trivial
      · rw [e]; exact (hr.ob i).up up hf (fun b hob => hc.block b (own_lt (hr.ob i) hob) (hb b hob))
  · by_cases hik : i = k
    · subst hik
      rcases hkb b hb with h1 | h1
      · intro hS; have := hr.slt b hS; omega
      · exact hr.sep src b h1
    · exact hr.sep i b (back i b hik hb)
  · by_cases hik : i = k
    · by_cases hjk : j = k
      · rw [hik, hjk]
      · subst hik
        have h1 := back j b hjk hbj
        rcases hkb b hbi with h2 | h2
        · have := own_lt (hr.ob j) h1; omega
        · have h3 := hr.dis src j b h2 h1
          subst h3
          rw [hsrc hjk] at hbj; exact hbj.elim
    · by_cases hjk : j = k
      · subst hjk
        have h1 := back i b hik hbi
        rcases hkb b hbj with h2 | h2
        · have := own_lt (hr.ob i) h1; omega
        · have h3 := hr.dis src i b h2 h1
          subst h3
          rw [hsrc hik] at hbi; exact hbi.elim
      · exact hr.dis i j b (back i b hik hbi) (back j b hjk hbj)
  · by_cases hik : i = k
    · subst hik
      rcases hkb b hb with h1 | h1
      · exact .inr h1
      · exact .inl ⟨src, h1⟩
    · exact .inl ⟨i, back i b hik hb⟩
theorem eff_new {nid : Nat} {x : Value} {o : Ob} (hr : HRel S w ρ h) (hf : h nid = .free) (hc : Chg [] w w') (hk : ObRel S w' (updR ρ nid x) nid o) (hb : ∀ b, own (updR ρ nid x) nid o b → w.heap.size ≤ b) : Eff S w w' ρ (updR ρ nid x) h (updH h nid o) (fun _ => False) := by
  have hn : ρ nid = none := by have := hr.ob nid; rw [hf] at this; exact this
  refine eff_mk (X := fun _ => False) nid nid hr (ChgP.of0 hc) (fun i y hy => ?_) (fun b hb => hb.elim) (by rw [updH_same]; exact hk) (fun b hob => by rw [updH_same] at hob; exact .inl (hb b hob)) (fun h => absurd rfl h)
    (fun i hi => .inr ⟨updH_ne _ _ hi, fun hfi => ?_, fun b _ hx => hx⟩)
  · have : i ≠ nid := fun e => by subst e; rw [hn] at hy; cases hy
    rw [updR_ne _ _ this]; exact hy
  · rw [updR_ne _ _ hi]; have := hr.ob i; rw [hfi] at this; exact this
theorem eff_set {id : Nat} {o : Ob} {X : List Nat} (hr : HRel S w ρ h) (hc : Chg X w w') (hX : ∀ b, b ∈ X → own ρ id (h id) b) (hk : ObRel S w' ρ id o) (hb : ∀ b, own ρ id o b → own ρ id (h id) b) : Eff S w w' ρ ρ h (updH h id o) (· = id) := by
  refine eff_mk (X := (· ∈ X)) id id hr (ChgP.of hc) (fun i y hy => hy) (fun b hb => ⟨id, rfl, hX b hb⟩) (by rw [updH_same]; exact hk) (fun b hob => by rw [updH_same] at hob; exact .inr (hb b hob)) (fun h => absurd rfl h)
    (fun i hi => .inr ⟨updH_ne _ _ hi, fun hfi => ?_, fun b hob hx => hi (hr.dis i id b hob (hX b hx))⟩)
  have := hr.ob i; rw [hfi] at this; exact this
theorem eff_repl {id nid : Nat} {x : Value} {o : Ob} {X : List Nat} (hr : HRel S w ρ h) (hf : h nid = .free) (hid : h id ≠ .free) (hc : Chg X w w') (hX : ∀ b, b ∈ X → own ρ id (h id) b) (hk : ObRel S w' (updR ρ nid x) nid o) (hb : ∀ b, own (updR ρ nid x) nid o b → own ρ id (h id) b ∨ w.heap.size ≤ b) :
    Eff S w w' ρ (updR ρ nid x) h (updH (updH h id .gone) nid o) (· = id) := by
  have hn : ρ nid = none := by have := hr.ob nid; rw [hf] at this; exact this
  have hne : id ≠ nid := fun e => by subst e; exact hid hf
  refine eff_mk (X := (· ∈ X)) nid id hr (ChgP.of hc) (fun i y hy => ?_) (fun b hb => ⟨id, rfl, hX b hb⟩) (by rw [updH_same]; exact hk) (fun b hob => by rw [updH_same] at hob; exact (hb b hob).symm) (fun _ => by rw [updH_ne _ _ hne, updH_same])
    (fun i hi => ?_)
  · have : i ≠ nid := fun e => by subst e; rw [hn] at hy; cases hy
    rw [updR_ne _ _ this]; exact hy
  · rw [updH_ne _ _ hi]
    by_cases hii : i = id
    · subst hii; exact .inl (updH_same _ _ _)
    · refine .inr ⟨updH_ne _ _ hii, fun hfi => ?_, fun b hob hx => hii (hr.dis i id b hob (hX b hx))⟩
      rw [updR_ne _ _ hi]; have := hr.ob i; rw [hfi] at this; exact this
theorem up_new {nid : Nat} {x : Value} (hr : HRel S w ρ h) (hf : h nid = .free) (hc : Chg [] w w') : Up S S w w' ρ (updR ρ nid x) := by
  have hn : ρ nid = none := by have := hr.ob nid; rw [hf] at this; exact this
  refine ⟨fun _ h => h, fun b hb hlt => hc.block b hlt (by simp), fun i y hy => ?_⟩
  have : i ≠ nid := fun e => by subst e; rw [hn] at hy; cases hy
  rw [updR_ne _ _ this]; exact hy
theorem var_of {id : Nat} {t : TypeId} {cs : List V} (hr : HRel S w ρ h) (ho : h id = .var t cs) : ∃ b xs, ρ id = some (.pointer (some ⟨b, 0, none⟩)) ∧ Blk w b t xs ∧ LRel S w ρ cs xs := by
  have := hr.ob id; rw [ho] at this; exact this
theorem row_of {id : Nat} {e : TypeId} {sz : Nat} {els : List V} (hr : HRel S w ρ h) (ho : h id = .row e sz els) : ∃ v xs, ρ id = some v ∧ w.ownsRow 0 e sz v els.length xs ∧ CRel S w ρ sz els xs := by
  have := hr.ob id; rw [ho] at this; exact this
theorem opd_ptr {x : Operand} {id o b : Nat} (hx : Opd S w ρ a x (.ptr id o)) (hb : ρ id = some (.pointer (some ⟨b, 0, none⟩))) : valF (fA a) x = some (.pointer (some ⟨b, o, none⟩)) := by
  obtain ⟨y, h1, h2⟩ := hx
  simp only [VRel] at h2
  obtain ⟨b', h3, rfl⟩ := h2
  rw [hb] at h3
  simp only [Option.some.injEq, Value.pointer.injEq, Addr.mk.injEq, and_true] at h3
  subst h3; exact h1
theorem e_load' {t tb : TypeId} {x : Operand} {id o : Nat} {cs : List V} {v : V} (hr : HRel S w ρ h) (fr : Fr a n (fA a)) (hx : Opd S w ρ a x (.ptr id o)) (ho : h id = .var tb cs) (ht : scalarT P t = true) (hv : cs[o]? = some v) :
    ∃ b y, ρ id = some (.pointer (some ⟨b, 0, none⟩)) ∧ w.cell? ⟨b, o, none⟩ = some y ∧ VRel S w ρ v y ∧ ∀ w', w'.cell? ⟨b, o, none⟩ = some y → Runs P a ty (.load t x) w' (.value y) w' := by
  obtain ⟨b, xs, h1, h2, h3⟩ := var_of hr ho
  obtain ⟨y, h4, h5⟩ := h3.get hv
  exact ⟨b, y, h1, by rw [h2.cell, h4], h5, fun w' hc => ex_load fr (opd_ptr hx h1) ht hc⟩
theorem e_load {t tb : TypeId} {x : Operand} {id o : Nat} {cs : List V} {v : V} (hr : HRel S w ρ h) (fr : Fr a n (fA a)) (hx : Opd S w ρ a x (.ptr id o)) (ho : h id = .var tb cs) (ht : scalarT P t = true) (hv : cs[o]? = some v) : Does P S w ρ h a ty (.load t x) (some v) h (fun _ => False) := by
  obtain ⟨b, y, h1, h2, h3, h4⟩ := e_load' (P := P) (ty := ty) hr fr hx ho ht hv
  exact ⟨_, w, ρ, h4 w h2, Eff.refl hr, y, rfl, h3⟩
theorem e_loadN' {t tb : TypeId} {x : Operand} {id o m : Nat} {cs : List V} (hr : HRel S w ρ h) (fr : Fr a n (fA a)) (hx : Opd S w ρ a x (.ptr id o)) (ho : h id = .var tb cs) (ht : aggT P t = some m) (hl : o + m ≤ cs.length) :
    ∃ b ys, ρ id = some (.pointer (some ⟨b, 0, none⟩)) ∧ (∀ j, j < m → w.cell? ⟨b, o + j, none⟩ = ys[j]?) ∧ LRel S w ρ ((cs.drop o).take m) ys ∧ ∀ w', (∀ j, j < m → w'.cell? ⟨b, o + j, none⟩ = ys[j]?) → Runs P a ty (.load t x) w' (.value (.agg ys.toArray)) w' := by
  obtain ⟨b, xs, h1, h2, h3⟩ := var_of hr ho
  have hlen := h3.length
  refine ⟨b, (xs.drop o).take m, h1, fun j hj => ?_, (h3.drop o).take m, fun w' hc => ex_loadN fr (opd_ptr hx h1) ht (by simp; omega) hc⟩
  rw [h2.cell, List.getElem?_take, if_pos hj, List.getElem?_drop]
theorem e_loadN {t tb : TypeId} {x : Operand} {id o m : Nat} {cs : List V} (hr : HRel S w ρ h) (fr : Fr a n (fA a)) (hx : Opd S w ρ a x (.ptr id o)) (ho : h id = .var tb cs) (ht : aggT P t = some m) (hl : o + m ≤ cs.length) : Does P S w ρ h a ty (.load t x) (some (.agg ((cs.drop o).take m))) h (fun _ => False) := by
  obtain ⟨b, ys, h1, h2, h3, h4⟩ := e_loadN' (P := P) (ty := ty) hr fr hx ho ht hl
  exact ⟨_, w, ρ, h4 w h2, Eff.refl hr, _, rfl, by simp only [VRel]; exact ⟨ys, rfl, h3⟩⟩
theorem opd_el {x : Operand} {id sz i o : Nat} {v : Value} (hx : Opd S w ρ a x (.el id sz i o)) (hb : ρ id = some v) : ∃ b m c, v = .slice (some ⟨b, 0, none⟩) m c ∧ valF (fA a) x = some (.pointer (some ⟨b, i * sz + o, none⟩)) := by
  obtain ⟨y, h1, h2⟩ := hx
  simp only [VRel] at h2
  obtain ⟨b', m, c, h3, rfl⟩ := h2
  rw [hb] at h3
  cases h3
  exact ⟨b', m, c, rfl, h1⟩
theorem own_cell {base e sz k m c b : Nat} {xs : List Value} (ho : w.ownsRow base e sz (.slice (some ⟨b, 0, none⟩) m c) k xs) {j : Nat} (hj : j < k * sz) : w.cell? ⟨b, j, none⟩ = xs[j]? := by
  rcases ho.2 with ⟨hc, _⟩ | ⟨g, cap, cur, hv, hb, hg, h4, h5, h6, h7⟩
  · cases hc
  · injection hv with hv1 _ hv2
    injection hv1 with hv1
    injection hv1 with hv1
    subst hv1
    rw [← h7]
    simp [World.cell?, hg, List.getElem?_take, hj]
theorem e_loadE' {t e : TypeId} {x : Operand} {id sz i o : Nat} {els : List V} {v0 v : V} (hr : HRel S w ρ h) (fr : Fr a n (fA a)) (hx : Opd S w ρ a x (.el id sz i o)) (ho : h id = .row e sz els) (ht : scalarT P t = true) (hi : els[i]? = some v0) (hv : v0.cells[o]? = some v) :
    ∃ b u y, ρ id = some u ∧ u.ownBlock = some b ∧ w.cell? ⟨b, i * sz + o, none⟩ = some y ∧ VRel S w ρ v y ∧ ∀ w', w'.cell? ⟨b, i * sz + o, none⟩ = some y → Runs P a ty (.load t x) w' (.value y) w' := by
  obtain ⟨u, xs, h1, h2, h3⟩ := row_of hr ho
  obtain ⟨b, m, c, rfl, hx'⟩ := opd_el hx h1
  obtain ⟨z, g1, g2, g3⟩ := h3.get hi
  obtain ⟨y, h4, h5⟩ := g1.cells.get hv
  have hlt : o < sz := by
    have := (List.getElem?_eq_some_iff.1 h4).1
    simp at this; omega
  have hle : i < els.length := (List.getElem?_eq_some_iff.1 hi).1
  have : (i + 1) * sz ≤ els.length * sz := Nat.mul_le_mul_right _ hle
  rw [Nat.add_mul, Nat.one_mul] at this
  exact ⟨b, _, y, h1, rfl, by rw [own_cell h2 (by omega), g3 o hlt, h4], h5, fun w' hc => ex_load fr hx' ht hc⟩
theorem e_loadE {t e : TypeId} {x : Operand} {id sz i o : Nat} {els : List V} {v0 v : V} (hr : HRel S w ρ h) (fr : Fr a n (fA a)) (hx : Opd S w ρ a x (.el id sz i o)) (ho : h id = .row e sz els) (ht : scalarT P t = true) (hi : els[i]? = some v0) (hv : v0.cells[o]? = some v) : Does P S w ρ h a ty (.load t x) (some v) h (fun _ => False) := by
  obtain ⟨b, u, y, h1, _, h2, h3, h4⟩ := e_loadE' (P := P) (ty := ty) hr fr hx ho ht hi hv
  exact ⟨_, w, ρ, h4 w h2, Eff.refl hr, y, rfl, h3⟩
theorem e_loadEN' {t e : TypeId} {x : Operand} {id sz i o m : Nat} {els : List V} {v0 : V} (hr : HRel S w ρ h) (fr : Fr a n (fA a)) (hx : Opd S w ρ a x (.el id sz i o)) (ho : h id = .row e sz els) (ht : aggT P t = some m) (hi : els[i]? = some v0) (hl : o + m ≤ v0.cells.length) :
    ∃ b u ys, ρ id = some u ∧ u.ownBlock = some b ∧ (∀ j, j < m → w.cell? ⟨b, i * sz + o + j, none⟩ = ys[j]?) ∧ LRel S w ρ ((v0.cells.drop o).take m) ys ∧ ∀ w', (∀ j, j < m → w'.cell? ⟨b, i * sz + o + j, none⟩ = ys[j]?) → Runs P a ty (.load t x) w' (.value (.agg ys.toArray)) w' := by
  obtain ⟨u, xs, h1, h2, h3⟩ := row_of hr ho
  obtain ⟨b, k, c, rfl, hx'⟩ := opd_el hx h1
  obtain ⟨z, g1, g2, g3⟩ := h3.get hi
  have hlen := g1.cells.length
  simp only [Array.length_toList] at hlen
  have hle : i < els.length := (List.getElem?_eq_some_iff.1 hi).1
  have : (i + 1) * sz ≤ els.length * sz := Nat.mul_le_mul_right _ hle
  rw [Nat.add_mul, Nat.one_mul] at this
  refine ⟨b, _, (z.cells.toList.drop o).take m, h1, rfl, fun j hj => ?_, (g1.cells.drop o).take m, fun w' hc => ex_loadN fr hx' ht (by simp; omega) hc⟩
  rw [own_cell h2 (by omega), Nat.add_assoc, g3 _ (by omega), List.getElem?_take, if_pos hj, List.getElem?_drop]
theorem e_loadEN {t e : TypeId} {x : Operand} {id sz i o m : Nat} {els : List V} {v0 : V} (hr : HRel S w ρ h) (fr : Fr a n (fA a)) (hx : Opd S w ρ a x (.el id sz i o)) (ho : h id = .row e sz els) (ht : aggT P t = some m) (hi : els[i]? = some v0) (hl : o + m ≤ v0.cells.length) : Does P S w ρ h a ty (.load t x) (some (.agg ((v0.cells.drop o).take m))) h (fun _ => False) := by
  obtain ⟨b, u, ys, h1, _, h2, h3, h4⟩ := e_loadEN' (P := P) (ty := ty) hr fr hx ho ht hi hl
  exact ⟨_, w, ρ, h4 w h2, Eff.refl hr, _, rfl, by simp only [VRel]; exact ⟨ys, rfl, h3⟩⟩
theorem e_alloc {t : TypeId} {nid : Nat} {z : List Value} {zv : List V} (hr : HRel S w ρ h) (hf : h nid = .free) (hz : zeroT P t = some z) (hzv : ∀ S w ρ, LRel S w ρ zv z) : Does P S w ρ h a ty (.alloc t) (some (.ptr nid 0)) (updH h nid (.var t zv)) (fun _ => False) := by
  obtain ⟨w', b, h1, h2, h3, h4, h5⟩ := ef_alloc (P := P) z hz a w ty
  refine ⟨_, w', updR ρ nid (.pointer (some ⟨b, 0, none⟩)), h1, eff_new hr hf h3 ⟨b, z, updR_same _ _ _, h2, hzv _ _ _⟩ (fun b' hb' => ?_), _, rfl, ?_⟩
  · simp only [own, updR_same, Option.some.injEq, Value.pointer.injEq, Addr.mk.injEq, and_true] at hb'; omega
  · simp only [VRel]; exact ⟨b, updR_same _ _ _, rfl⟩
theorem e_box {t : TypeId} {x : Operand} {nid : Nat} {v : V} (hr : HRel S w ρ h) (fr : Fr a n (fA a)) (hf : h nid = .free) (hx : Opd S w ρ a x v) : Does P S w ρ h a ty (.box t x) (some (.ptr nid 0)) (updH h nid (.var t v.cells)) (fun _ => False) := by
  obtain ⟨y, g1, g2⟩ := hx
  obtain ⟨w', b, h1, h2, h3, h4, h5⟩ := ef_box (P := P) (t := t) (cs := y.cells.toList) fr g1 (by simp) w ty
  refine ⟨_, w', updR ρ nid (.pointer (some ⟨b, 0, none⟩)), h1, eff_new hr hf h3 ⟨b, _, updR_same _ _ _, h2, g2.cells.up (up_new hr hf h3)⟩ (fun b' hb' => ?_), _, rfl, ?_⟩
  · simp only [own, updR_same, Option.some.injEq, Value.pointer.injEq, Addr.mk.injEq, and_true] at hb'; omega
  · simp only [VRel]; exact ⟨b, updR_same _ _ _, rfl⟩
theorem ef_storeG {t tb : TypeId} {f : Nat → Option Value} {x y : Operand} {b o m : Nat} {v : Value} {cs : List Value} (h : Fr a n f) (hx : valF f x = some (.pointer (some ⟨b, o, none⟩))) (hy : valF f y = some v) (hz : sizeT P t = some m) (hv : v.cells.size = m) (hone : v.cells.toList.all (·.oneCell') = true) (hb : Blk w b tb cs) (hm : o + m ≤ cs.length) (ty : TypeId) :
    ∃ w', Runs P a ty (.store t x y) w .skip w' ∧ Blk w' b tb (cs.take o ++ v.cells.toList ++ cs.drop (o + m)) ∧ Chg [b] w w' := by
  obtain ⟨i, hi, hs⟩ := Option.map_eq_some_iff.1 (show (P.info? t).map (·.size) = some m from hz)
  have key : ∀ (l : List Value) (j : Nat) (w : World) (cs : List Value), Blk w b tb cs → o + j + l.length ≤ cs.length → l.all (·.oneCell') = true → ∃ w', (storeCells ⟨b, o, none⟩ l j).run P w = .ok () w' ∧ Blk w' b tb (cs.take (o + j) ++ l ++ cs.drop (o + j + l.length)) ∧ Chg [b] w w' := by
    intro l
    induction l with
    | nil => intro j w cs hb hj _; exact ⟨w, by simp [storeCells], by simpa using hb, Chg.refl _ _⟩
    | cons c r ih =>
      intro j w cs hb hj hone
      simp only [List.all_cons, Bool.and_eq_true] at hone
      simp only [List.length_cons] at hj
      have ho : o + j < cs.length := by omega
      have hc : w.cell? ⟨b, o + j, none⟩ = some cs[o + j] := by rw [hb.cell]; simp [ho]
      have hfz := hb.frozen (o + j)
      have ha : (⟨b, o, none⟩ : Addr).add j = ⟨b, o + j, none⟩ := addr_add b o j
      obtain ⟨w2, h1, h2, h3⟩ := ih (j + 1) (w.setCell ⟨b, o + j, none⟩ c) (cs.set (o + j) c) (hb.set (o + j) c) (by simp; omega) hone.2
      refine ⟨w2, ?_, ?_, (Chg.set w b (o + j) c).trans h3 (fun x hx => .inl hx)⟩
      · simp only [storeCells, ha]
        have hst := run_store P w ⟨b, o + j, none⟩ c .plain hone.1
        simp [hst, stored, hc, hfz]
        exact h1
      · have e1 : (cs.set (o + j) c).take (o + (j + 1)) = cs.take (o + j) ++ [c] := by
          rw [← Nat.add_assoc, List.take_succ_eq_append_getElem (by simpa using ho), List.take_set_of_le (Nat.le_refl _)]
          simp
        have e2 : (cs.set (o + j) c).drop (o + (j + 1) + r.length) = cs.drop (o + j + (r.length + 1)) := by
          rw [List.drop_set_of_lt (by omega)]; congr 1; omega
        rw [e1, e2] at h2
        simpa using h2
  obtain ⟨w1, h1, h2, h3⟩ := key v.cells.toList 0 w cs hb (by simp; omega) hone
  refine ⟨w1, fun _ _ _ _ => ?_, by simpa [hv] using h2, h3⟩
  simp only [execOp, h.eval hx, h.eval hy]
  simp [Instr.storeAt, Instr.sureAddr, storeVar, sizeOf, typeInfo, hi, hs, hv, h1]
theorem ones_of : ∀ {vs : List V} {xs : List Value}, LRel S w ρ vs xs → vs.all V.one = true → xs.all (·.oneCell') = true
  | [], xs, hl, h1 => by simp only [LRel] at hl; subst hl; rfl
  | v :: r, xs, hl, h1 => by
    simp only [LRel] at hl
    obtain ⟨x, ys, rfl, h2, h3⟩ := hl
    simp only [List.all_cons, Bool.and_eq_true] at h1 ⊢
    exact ⟨h2.one h1.1, ones_of h3 h1.2⟩
theorem up_set {X : List Nat} {id : Nat} (hr : HRel S w ρ h) (hc : Chg X w w') (hX : ∀ b, b ∈ X → own ρ id (h id) b) : Up S S w w' ρ ρ :=
  ⟨fun _ h => h, fun b hb hlt => hc.block b hlt (fun hx => hr.sep id b (hX b hx) hb), fun _ _ h => h⟩
theorem e_store {t tb : TypeId} {x y : Operand} {id o m : Nat} {cs : List V} {v : V} (hr : HRel S w ρ h) (fr : Fr a n (fA a)) (hx : Opd S w ρ a x (.ptr id o)) (hy : Opd S w ρ a y v) (ho : h id = .var tb cs) (hz : sizeT P t = some m) (hv : v.cells.length = m) (h1 : v.cells.all V.one = true) (hm : o + m ≤ cs.length) :
    Does P S w ρ h a ty (.store t x y) none (updH h id (.var tb (overV cs o v.cells))) (· = id) := by
  obtain ⟨b, xs, g1, g2, g3⟩ := var_of hr ho
  obtain ⟨z, k1, k2⟩ := hy
  have hlen := k2.cells.length
  simp only [Array.length_toList] at hlen
  obtain ⟨w', r1, r2, r3⟩ := ef_storeG (P := P) (t := t) (m := m) fr (opd_ptr hx g1) k1 hz (by omega) (ones_of k2.cells h1) g2 (by have := g3.length; omega) ty
  have hX : ∀ c, c ∈ [b] → own ρ id (h id) c := fun c hc => by simp at hc; subst hc; rw [ho]; exact g1
  have u := up_set hr r3 hX
  refine ⟨_, w', ρ, r1, eff_set hr r3 hX ⟨b, _, g1, r2, ?_⟩ (fun c hc => by rw [ho]; exact hc), rfl⟩
  unfold overV
  rw [hv]
  exact (((g3.take o).append k2.cells).append (g3.drop _)).up u
theorem CRel.set {sz : Nat} : ∀ {vs : List V} {xs : List Value} {i : Nat} {v : V} {x : Value}, CRel S w ρ sz vs xs → i < vs.length → VRel S w ρ v x → x.cells.size = sz → x.cells.toList.all (·.oneCell') = true → CRel S w ρ sz (vs.set i v) (xs.take (i * sz) ++ x.cells.toList ++ xs.drop (i * sz + sz))
  | [], xs, i, v, x, hc, hi, hx, hs, h1 => by simp at hi
  | u :: r, xs, 0, v, x, hc, hi, hx, hs, h1 => by
    simp only [CRel] at hc
    obtain ⟨y, ys, rfl, ⟨h2, h2'⟩, h3, h4⟩ := hc
    refine ⟨x, ys, ?_, ⟨hs, h1⟩, hx, h4⟩
    simp [h2, List.drop_append]
  | u :: r, xs, i + 1, v, x, hc, hi, hx, hs, h1 => by
    simp only [CRel] at hc
    obtain ⟨y, ys, rfl, ⟨h2, h2'⟩, h3, h4⟩ := hc
    have ih := CRel.set (i := i) h4 (by simpa using hi) hx hs h1
    refine ⟨y, _, ?_, ⟨h2, h2'⟩, h3, ih⟩
    have e1 : (y.cells.toList ++ ys).take ((i + 1) * sz) = y.cells.toList ++ ys.take (i * sz) := by
      rw [List.take_append, List.take_of_length_le (by simp [h2, Nat.add_mul])]
      congr 2
      simp [h2, Nat.add_mul]
    have e2 : (y.cells.toList ++ ys).drop ((i + 1) * sz + sz) = ys.drop (i * sz + sz) := by
      rw [List.drop_append, List.drop_of_length_le (by simp [h2, Nat.add_mul])]
      simp [h2, Nat.add_mul]
    rw [e1, e2]; simp
def V.over (v0 : V) (o : Nat) (ps : List V) : V := match v0 with
  | .agg cs => .agg (overV cs o ps)
  | v0 => match ps with
    | [p] => p
    | _ => v0
theorem e_storeE {t e : TypeId} {x y : Operand} {id sz i o m : Nat} {els : List V} {v0 v : V} (hr : HRel S w ρ h) (fr : Fr a n (fA a)) (hx : Opd S w ρ a x (.el id sz i o)) (hy : Opd S w ρ a y v) (ho : h id = .row e sz els) (hz : sizeT P t = some m) (hi : els[i]? = some v0) (hv : v.cells.length = m) (h1 : v.cells.all V.one = true) (hm : o + m ≤ v0.cells.length)
    (hv0 : (∃ cs, v0 = .agg cs) ∨ (v0.cells = [v0] ∧ v.cells = [v])) : Does P S w ρ h a ty (.store t x y) none (updH h id (.row e sz (els.set i (v0.over o v.cells)))) (· = id) := by
  obtain ⟨u, xs, g1, g2, g3⟩ := row_of hr ho
  obtain ⟨b, k, c, rfl, hx'⟩ := opd_el hx g1
  obtain ⟨z, k1, k2⟩ := hy
  have hlen := k2.cells.length
  simp only [Array.length_toList] at hlen
  obtain ⟨z0, q1, q2, q3⟩ := g3.get hi
  have hle : i < els.length := (List.getElem?_eq_some_iff.1 hi).1
  have hmul : (i + 1) * sz ≤ els.length * sz := Nat.mul_le_mul_right _ hle
  rw [Nat.add_mul, Nat.one_mul] at hmul
  have hl0 := q1.cells.length
  simp only [Array.length_toList] at hl0
  have hxl := g3.length
  rcases g2.2 with ⟨hc, _⟩ | ⟨g, cap, cur, hv1, hb, hg, h4, h5, h6, h7⟩
  · cases hc
  · injection hv1 with hv2 hv3 hv4
    injection hv2 with hv2
    injection hv2 with hv2
    subst hv2 hv3 hv4
    have hcap : els.length * sz ≤ c * sz := Nat.mul_le_mul_right _ h4
    have hB : Blk w b e cur.toList := by unfold Blk; rw [hg]
    obtain ⟨w', r1, r2, r3⟩ := ef_storeG (P := P) (t := t) (m := m) fr hx' k1 hz (by omega) (ones_of k2.cells h1) hB (by simp; omega) ty
    have hX : ∀ d, d ∈ [b] → own ρ id (h id) d := fun d hd => by simp at hd; subst hd; rw [ho]; exact ⟨_, g1, rfl⟩
    have up := up_set hr r3 hX
    have hnew : ∃ q, VRel S w ρ (v0.over o v.cells) q ∧ q.cells.toList = z0.cells.toList.take o ++ z.cells.toList ++ z0.cells.toList.drop (o + m) := by
      rcases hv0 with ⟨cs, rfl⟩ | ⟨e1, e2⟩
      · refine ⟨.agg (z0.cells.toList.take o ++ z.cells.toList ++ z0.cells.toList.drop (o + m)).toArray, ?_, by simp [Value.cells]⟩
        simp only [V.over, VRel]
        refine ⟨_, rfl, ?_⟩
        unfold overV
        rw [hv]
        exact ((q1.cells.take o).append k2.cells).append (q1.cells.drop _)
      · have : v0.over o v.cells = v := by
          rw [e2]
          cases v0 with
          | agg cs =>
            simp only [V.cells] at e1
            have hs := congrArg SizeOf.sizeOf e1
            simp at hs; omega
          | _ => rfl
        rw [this]
        refine ⟨z, k2, ?_⟩
        rw [e1] at hm hl0
        rw [e2] at hv
        simp at hm hl0 hv
        subst hv
        obtain rfl : o = 0 := by omega
        rw [List.drop_of_length_le (l := z0.cells.toList) (by simp [hl0])]
        simp
    obtain ⟨q, hn1, hn2⟩ := hnew
    have hsz' : q.cells.size = sz := by
      have := congrArg List.length hn2
      simp only [Array.length_toList, List.length_append, List.length_take, List.length_drop] at this
      rw [this]; omega
    have hones : (z0.cells.toList.take o ++ z.cells.toList ++ z0.cells.toList.drop (o + m)).all (·.oneCell') = true := by
      have hall : z0.cells.toList.all (·.oneCell') = true := by
        have h0 : ∀ j, j < sz → ∃ u, z0.cells.toList[j]? = some u ∧ u.oneCell' = true := fun j hj => by
          have hq := q3 j hj
          have : i * sz + j < xs.length := by omega
          refine ⟨xs[i * sz + j], ?_, g3.ones _ (List.getElem_mem _)⟩
          rw [← hq]; simp [this]
        rw [List.all_eq_true]
        intro u hu
        obtain ⟨j, hj, rfl⟩ := List.getElem_of_mem hu
        obtain ⟨u', e1, e2⟩ := h0 j (by simp at hj; omega)
        rw [List.getElem?_eq_getElem hj] at e1
        cases e1; exact e2
      have hall2 := ones_of k2.cells h1
      rw [List.all_eq_true] at hall hall2 ⊢
      intro u hu
      simp only [List.mem_append] at hu
      rcases hu with (hu | hu) | hu
      · exact hall u (List.mem_of_mem_take hu)
      · exact hall2 u hu
      · exact hall u (List.mem_of_mem_drop hu)
    have hset := CRel.set (i := i) g3 hle hn1 hsz' (by rw [hn2]; exact hones)
    rw [hn2] at hset
    have hcur : cur.toList.take (els.length * sz) = xs := h7
    have e9 : xs.take (i * sz) ++ (z0.cells.toList.take o ++ z.cells.toList ++ z0.cells.toList.drop (o + m)) ++ xs.drop (i * sz + sz) = xs.take (i * sz + o) ++ z.cells.toList ++ xs.drop (i * sz + o + m) := by
      apply List.ext_getElem?
      intro j
      have hz0 : ∀ j, j < sz → z0.cells.toList[j]? = xs[i * sz + j]? := fun j hj => (q3 j hj).symm
      have L1 : (xs.take (i * sz)).length = i * sz := by simp; omega
      have L2 : (z0.cells.toList.take o).length = o := by simp; omega
      have L3 : z.cells.toList.length = m := by simp; omega
      have L4 : (z0.cells.toList.drop (o + m)).length = sz - (o + m) := by simp; omega
      have L5 : (xs.take (i * sz + o)).length = i * sz + o := by simp; omega
      simp only [List.getElem?_append, L1, L2, L3, L4, L5, List.length_append, List.getElem?_take, List.getElem?_drop]
      by_cases c1 : j < i * sz
      · simp [c1, show j < i * sz + (o + m + (sz - (o + m))) by omega, show j < i * sz + o + m by omega, show j < i * sz + o by omega]
      · by_cases c2 : j < i * sz + o
        · simp [c1, c2, show j < i * sz + (o + m + (sz - (o + m))) by omega, show j < i * sz + o + m by omega, show j - i * sz < o + m by omega, show j - i * sz < o by omega]
          have := hz0 (j - i * sz) (by omega)
          simp at this
          rw [this]; congr 1; omega
        · by_cases c3 : j < i * sz + o + m
          · simp [c1, c2, c3, show j < i * sz + (o + m + (sz - (o + m))) by omega, show j - i * sz < o + m by omega, show ¬ j - i * sz < o by omega]
            congr 1; omega
          · by_cases c4 : j < i * sz + sz
            · simp [c1, c2, c3, show j < i * sz + (o + m + (sz - (o + m))) by omega, show ¬ j - i * sz < o + m by omega]
              rw [show o + m + (j - i * sz - (o + m)) = j - i * sz by omega]
              have := hz0 (j - i * sz) (by omega)
              simp at this
              rw [this]; congr 1; omega
            · simp [c1, c2, c3, show ¬ j < i * sz + (o + m + (sz - (o + m))) by omega]
              congr 1; omega
    rw [e9] at hset
    refine ⟨_, w', ρ, r1, eff_set hr r3 hX ⟨_, _, g1, ⟨?_, .inr ⟨b, c, (cur.toList.take (i * sz + o) ++ z.cells.toList ++ cur.toList.drop (i * sz + o + m)).toArray, ?_, hb, r2, by simpa using h4, h5, ?_, rfl⟩⟩, ?_⟩ (fun d hd => by rw [ho]; exact hd), rfl⟩
    · simp; omega
    · simp
    · simp; omega
    · have e10 : List.take ((els.set i (v0.over o v.cells)).length * sz) (cur.toList.take (i * sz + o) ++ z.cells.toList ++ cur.toList.drop (i * sz + o + m)).toArray.toList = xs.take (i * sz + o) ++ z.cells.toList ++ xs.drop (i * sz + o + m) := by
        simp only [List.length_set]
        rw [← hcur]
        apply List.ext_getElem?
        intro j
        have K1 : (cur.toList.take (i * sz + o)).length = i * sz + o := by simp; omega
        have K2 : (List.take (i * sz + o) (List.take (els.length * sz) cur.toList)).length = i * sz + o := by simp; omega
        simp only [List.getElem?_take, List.getElem?_append, K1, K2, List.length_append, Array.length_toList, List.getElem?_drop]
        by_cases c0 : j < els.length * sz
        · by_cases c1 : j < i * sz + o
          · simp [c0, c1, show j < i * sz + o + z.cells.size by omega]
          · by_cases c2 : j < i * sz + o + z.cells.size
            · simp [c0, c1, c2]
            · simp [c0, c1, c2, show i * sz + o + m + (j - (i * sz + o + z.cells.size)) < els.length * sz by omega]
        · simp [c0, show ¬ j < i * sz + o + z.cells.size by omega, show ¬ i * sz + o + m + (j - (i * sz + o + z.cells.size)) < els.length * sz by omega]
      rw [e10]
      exact hset.up up
end
end Go.Proofs.Ythpjpngfghcmcaa
namespace Go.Proofs.Ythpjpngfghcmcaa
open Go.RowKit
section
variable {P : Program} {S : Nat → Prop} {w w' : World} {ρ ρ' : Nat → Option Value} {h h' : Nat → Ob} {a : Act} {n : Nat} {ty : TypeId}
def rowParts (sz : Nat) : Nat → List (Nat × V) → Option (List V)
  | _, [] => some []
  | i, (j, v) :: r => match Nat.beq i j && Nat.beq v.cells.length sz && v.cells.all V.one with
    | true => match rowParts sz (i + 1) r with
      | some vs => some (v :: vs)
      | none => none
    | false => none
theorem rowParts_ok {sz : Nat} : ∀ {vs : List (Nat × V)} {ys : List (Nat × Value)} {i : Nat} {els : List V}, PRel S w ρ vs ys → rowParts sz i vs = some els →
    ys.map (·.1) = (List.range' i els.length) ∧ (ys.all fun p => p.2.cells.size == sz) = true ∧ CRel S w ρ sz els (ys.flatMap fun p => p.2.cells.toList)
  | [], ys, i, els, hp, hr => by
    simp only [PRel] at hp; subst hp
    simp only [rowParts, Option.some.injEq] at hr; subst hr
    simp [CRel]
  | (j, v) :: r, ys, i, els, hp, hr => by
    simp only [PRel] at hp
    obtain ⟨x, zs, rfl, hx, hq⟩ := hp
    simp only [rowParts] at hr
    split at hr
    · rename_i hc
      simp only [Bool.and_eq_true, Nat.beq_eq] at hc
      split at hr
      · rename_i vs hvs
        simp only [Option.some.injEq] at hr; subst hr
        obtain ⟨h1, h2, h3⟩ := rowParts_ok hq hvs
        have hl := hx.cells.length
        simp only [Array.length_toList] at hl
        refine ⟨?_, ?_, ?_⟩
        · simp [h1, hc.1.1, List.range'_succ]
        · simp only [List.all_cons, h2, Bool.and_true, beq_iff_eq]; rw [hl, hc.1.2]
        · simp only [List.flatMap_cons]
          exact ⟨x, _, rfl, ⟨by rw [hl, hc.1.2], ones_of hx.cells hc.2⟩, hx, h3⟩
      · cases hr
    · cases hr
theorem e_bslice {t e : TypeId} {ps : List (Nat × Operand)} {vs : List (Nat × V)} {ys : List (Nat × Value)} {sz m nid : Nat} {z : List Value} {els : List V} (hr : HRel S w ρ h) (fr : Fr a n (fA a)) (hf : h nid = .free) (hps : partsF (fA a) ps = some ys) (hpr : PRel S w ρ vs ys) (ht : P.underlying t = some (.slice e)) (hz : sizeT P e = some sz) (hzero : zeroT P e = some z)
    (hp : rowParts sz 0 vs = some els) (hl : els.length = m) (hsm : Nat.ble (m * sz) 16777216 = true) (hm : Nat.ble m 16777216 = true) : Does P S w ρ h a ty (.buildSlice t m ps.toArray) (some (.sl nid)) (updH h nid (.row e sz els)) (fun _ => False) := by
  obtain ⟨h1, h2, h3⟩ := rowParts_ok hpr hp
  have hidx : ps.map (·.1) = List.range m := by
    have : ps.map (·.1) = ys.map (·.1) := by rw [← fr.parts hps]; simp
    rw [this, h1, hl, List.range_eq_range']
  obtain ⟨w', b, g1, g2, g3, g4, g5⟩ := ef_bslice (P := P) (t := t) (m := m) fr hps ht hz hzero hidx h2 hsm rfl w ty
  have hlen := h3.length
  have hmm : m ≤ 16777216 := Nat.le_of_ble_eq_true hm
  have own := own_of_blk (base := 0) g2 (Nat.zero_le _) (m := m) (size := sz) (by rw [hlen, hl]) (by simp only [Nat.ble_eq, maxLen]; omega)
  refine ⟨_, w', updR ρ nid (.slice (some ⟨b, 0, none⟩) m m), g1, eff_new hr hf g3 ⟨_, _, updR_same _ _ _, by rw [hl]; exact own, h3.up (up_new hr hf g3)⟩ (fun b' hb' => ?_), _, rfl, ?_⟩
  · obtain ⟨v, e1, e2⟩ := hb'
    rw [updR_same] at e1
    cases e1
    simp [Value.ownBlock] at e2; omega
  · simp only [VRel]; exact ⟨updR_same _ _ _, rfl⟩
theorem madeCells_rep {z : List Value} (hz : 0 < z.length) : ∀ m, (madeCells z.toArray (m * z.length)).toList = (List.replicate m z).flatten := by
  intro m
  apply List.ext_getElem?
  intro j
  have hl : ((List.replicate m z).flatten).length = m * z.length := by simp
  by_cases hj : j < m * z.length
  · have hlt : j % z.length < z.length := Nat.mod_lt _ hz
    have h1 : (madeCells z.toArray (m * z.length)).toList[j]? = some z[j % z.length] := by
      simp [madeCells, hj, hlt]
    rw [h1]
    have key : ∀ (m j : Nat), j < m * z.length → ((List.replicate m z).flatten)[j]? = some (z[j % z.length]'(Nat.mod_lt _ hz)) := by
      intro m
      induction m with
      | zero => intro j hj; simp at hj
      | succ m ih =>
        intro j hj
        simp only [List.replicate_succ, List.flatten_cons]
        by_cases hc : j < z.length
        · rw [List.getElem?_append_left hc]
          simp [Nat.mod_eq_of_lt hc, hc]
        · rw [List.getElem?_append_right (by omega), ih (j - z.length) (by rw [Nat.add_mul] at hj; omega)]
          congr 1
          have : (j - z.length) % z.length = j % z.length := by
            conv => rhs; rw [show j = (j - z.length) + z.length by omega]
            simp
          simp [this]
    exact (key m j hj).symm
  · rw [List.getElem?_eq_none (by simp [madeCells]; omega), List.getElem?_eq_none (by rw [hl]; omega)]
theorem crel_rep {sz : Nat} {zv : V} {z : Value} (hz : z.cells.size = sz) (h1 : z.cells.toList.all (·.oneCell') = true) (hv : VRel S w ρ zv z) : ∀ m, CRel S w ρ sz (List.replicate m zv) ((List.replicate m z.cells.toList).flatten)
  | 0 => by simp [CRel]
  | m + 1 => by
    simp only [List.replicate_succ, List.flatten_cons]
    exact ⟨z, _, rfl, ⟨hz, h1⟩, hv, crel_rep hz h1 hv m⟩
theorem e_make {t e : TypeId} {x y : Operand} {m nid sz by_ : Nat} {z : Value} {zv : V} (hr : HRel S w ρ h) (fr : Fr a n (fA a)) (hf : h nid = .free) (hx : Opd S w ρ a x (.int .i64 (m : Int))) (hy : Opd S w ρ a y (.int .i64 (m : Int))) (ht : P.underlying t = some (.slice e))
    (hi : (P.info? e).map (fun i => (i.zero, i.size, i.bytes)) = some (some z, sz, by_)) (hzs : z.cells.size = sz) (hsz : 0 < sz) (h1 : z.cells.toList.all (·.oneCell') = true) (hzv : ∀ S w ρ, VRel S w ρ zv z) (hb : by_ * m ≤ 281474976710656) (hm : m ≤ maxLen) :
    Does P S w ρ h a ty (.makeSlice t x y) (some (.sl nid)) (updH h nid (.row e sz (List.replicate m zv))) (fun _ => False) := by
  have hmm : m ≤ 9223372036854775807 := by simp only [maxLen] at hm; omega
  have hcs : madeCells z.cells (m * sz) = (List.replicate m z.cells.toList).flatten.toArray := by
    rw [← madeCells_rep (by simp; omega)]; simp [hzs]
  obtain ⟨w', b, g1, g2, g3, g4, g5⟩ := ef_make (P := P) fr (opd_int hx) (opd_int hy) ht hi (by simpa using hb) (by simpa using hmm) hcs w ty
  have hcr := crel_rep (S := S) (w := w) (ρ := ρ) hzs h1 (hzv _ _ _) m
  have hlen := hcr.length
  simp only [List.length_replicate] at hlen
  have own := own_of_blk (base := 0) g2 (Nat.zero_le _) (m := m) (size := sz) hlen (by simpa using hm)
  refine ⟨_, w', updR ρ nid (.slice (some ⟨b, 0, none⟩) m m), g1, eff_new hr hf g3 ⟨_, _, updR_same _ _ _, by simpa using own, hcr.up (up_new hr hf g3)⟩ (fun b' hb' => ?_), _, rfl, ?_⟩
  · obtain ⟨v, e1, e2⟩ := hb'
    rw [updR_same] at e1
    cases e1
    simp [Value.ownBlock] at e2; omega
  · simp only [VRel]; exact ⟨updR_same _ _ _, rfl⟩
theorem run_append_none {t e : TypeId} {sz k c d : Nat} {A B : Option Addr} (ht : P.underlying t = some (.slice e)) (hz : sizeT P e = some sz) (hk : k ≤ c) : (Builtin.append_ #[t, t] ty #[.slice A k c, .slice B 0 d]).run P w = .ok (.slice A k c) w := by
  obtain ⟨inf, hi, hs⟩ := Option.map_eq_some_iff.1 (show (P.info? e).map (·.size) = some sz from hz)
  have hso : (sizeOf e).run P w = .ok sz w := by simp [sizeOf, typeInfo, hi, hs]
  cases A <;> cases B <;> simp [Builtin.append_, run_underlying ht, hso, Builtin.lenOf, Builtin.firstCells, hk, loadCells, loadCellsFrom, storeCells]
def SrcRow (S : Nat → Prop) (w : World) (ρ : Nat → Option Value) (sz : Nat) (els : List V) (y : Value) : Prop :=
  ∃ A c xs, y = .slice A els.length c ∧ CRel S w ρ sz els xs ∧ (0 < els.length → ∃ b off, A = some ⟨b, off, none⟩ ∧ ∀ j, j < els.length * sz → w.cell? ⟨b, off + j, none⟩ = xs[j]?)
theorem src_row {sz : Nat} {els : List V} {y : Value} (hy : VRel S w ρ (.row sz els) y) : SrcRow S w ρ sz els y := by
  simp only [VRel] at hy
  obtain ⟨A, c, xs, rfl, h3, h4, h5, h6⟩ := hy
  exact ⟨A, c, xs, rfl, h5.up up0, fun hn => by obtain ⟨b, off, e, _, _, hc⟩ := h6.2 hn; exact ⟨b, off, e, hc⟩⟩
theorem src_nils {sz : Nat} {y : Value} (hy : VRel S w ρ .nils y) : SrcRow S w ρ sz [] y := by
  simp only [VRel] at hy; subst hy
  exact ⟨none, 0, [], rfl, by simp [CRel], fun hn => by simp at hn⟩
theorem src_own {id sz : Nat} {e : TypeId} {els : List V} {y : Value} (hr : HRel S w ρ h) (ho : h id = .row e sz els) (hy : VRel S w ρ (.sl id) y) : SrcRow S w ρ sz els y := by
  simp only [VRel] at hy
  obtain ⟨v, xs, h1, h2, h3⟩ := row_of hr ho
  rw [hy.1] at h1
  cases h1
  obtain ⟨A, c, rfl, _⟩ := ownsRow_slice h2
  refine ⟨A, c, xs, rfl, h3, fun hn => ?_⟩
  obtain ⟨g, cap, hv, _⟩ := h2.form hn
  injection hv with hv1 _ hv2
  subst hv1
  exact ⟨g, 0, rfl, fun j hj => by rw [Nat.zero_add]; exact own_cell h2 hj⟩
theorem append_run {t e : TypeId} {x y : Operand} {sz by_ : Nat} {z u v : Value} {els news : List V} {xs : List Value} (fr : Fr a n (fA a)) (hx : valF (fA a) x = some u) (hy : valF (fA a) y = some v) (hu : w.ownsRow 0 e sz u els.length xs) (hcx : CRel S w ρ sz els xs) (hv : SrcRow S w ρ sz news v) (ht : P.underlying t = some (.slice e))
    (hi : (P.info? e).map (fun i => (i.zero, i.size, i.bytes)) = some (some z, sz, by_)) (hzs : z.cells.size = sz) (hsz : 0 < sz) (h63 : els.length + news.length ≤ maxLen) (hby : (els.length + news.length) * by_ ≤ 140737488355328) :
    ∃ v' w' ys, Runs P a ty (.call { callee := .builtin .append, args := #[x, y], argTypes := #[t, t] }) w (.value v') w' ∧ w'.ownsRow 0 e sz v' (els.length + news.length) ys ∧ CRel S w ρ sz (els ++ news) ys ∧ Chg u.ownBlock.toList w w' ∧ (v'.ownBlock = u.ownBlock ∨ v'.ownBlock = some w.heap.size) := by
  obtain ⟨A, c, ns, rfl, hcr, hcell⟩ := hv
  have hsize : sizeT P e = some sz := by
    obtain ⟨i0, hi0, hx0⟩ := Option.map_eq_some_iff.1 hi
    simp only [Prod.mk.injEq] at hx0
    simp [sizeT, hi0, hx0.2.1]
  by_cases hn : news = []
  · subst hn
    simp only [CRel] at hcr; subst hcr
    obtain ⟨B, d, rfl, hd, _⟩ := ownsRow_slice hu
    refine ⟨.slice B els.length d, w, xs, fun _ _ _ _ => ?_, by simpa using hu, by simpa using hcx, Chg.refl _ _, .inl rfl⟩
    simp only [execOp, resolve, invoke, builtin, List.map_toArray, List.map_cons, List.map_nil, fr.eval hx, fr.eval hy]
    have := run_append_none (P := P) (w := w) (ty := ty) (A := B) (B := A) (d := c) ht hsize hd
    simp only [List.length_nil]
    simp [this]
  · have hpos : 0 < news.length := List.length_pos_iff.2 hn
    obtain ⟨b, off, rfl, hc⟩ := hcell hpos
    obtain ⟨i0, hi0, hx0⟩ := Option.map_eq_some_iff.1 hi
    simp only [Prod.mk.injEq] at hx0
    obtain ⟨hz, hs, hbb⟩ := hx0
    obtain ⟨v', w', hrun, h2, h3, _, h5⟩ := run_append_own_at (P := P) w 0 t ty e i0 z sz by_ ht hi0 hz hs hbb hzs hsz u els.length xs hu ⟨b, off, none⟩ news.length c ns hcr.length
      (fun j q hq => by
        have hj : j < ns.length := (List.getElem?_eq_some_iff.1 hq).1
        rw [addr_add, hc j (by rw [← hcr.length]; exact hj)]; exact hq) hcr.ones h63 hby (Nat.zero_le _)
    refine ⟨v', w', xs ++ ns, fun _ _ _ _ => ?_, h2, hcx.append hcr, Chg.grown h3, h5⟩
    simp only [execOp, resolve, invoke, builtin, List.map_toArray, List.map_cons, List.map_nil, fr.eval hx, fr.eval hy]
    simp [hrun]
theorem own_one {base e sz k : Nat} {v : Value} {xs : List Value} (hv : w.ownsRow base e sz v k xs) : v.oneCell' = true := by
  obtain ⟨A, c, rfl, _⟩ := ownsRow_slice hv; rfl
section
variable {t e : TypeId} {x y : Operand} {sz by_ nid : Nat} {z v : Value} {els news : List V} (hr : HRel S w ρ h) (fr : Fr a n (fA a)) (hf : h nid = .free) (hy : valF (fA a) y = some v) (hv : SrcRow S w ρ sz news v) (ht : P.underlying t = some (.slice e))
    (hi : (P.info? e).map (fun i => (i.zero, i.size, i.bytes)) = some (some z, sz, by_)) (hzs : z.cells.size = sz) (hsz : 0 < sz)
include hr fr hf hy hv ht hi hzs hsz
theorem e_append {id : Nat} (hx : Opd S w ρ a x (.sl id)) (ho : h id = .row e sz els) (h63 : els.length + news.length ≤ maxLen) (hby : (els.length + news.length) * by_ ≤ 140737488355328) :
    Does P S w ρ h a ty (.call { callee := .builtin .append, args := #[x, y], argTypes := #[t, t] }) (some (.sl nid)) (updH (updH h id .gone) nid (.row e sz (els ++ news))) (· = id) := by
  obtain ⟨u, k1, k2⟩ := hx
  simp only [VRel] at k2
  obtain ⟨u', xs, h1, h2, h3⟩ := row_of hr ho
  rw [k2.1] at h1
  cases h1
  obtain ⟨v', w', ys, g1, g2, g3, g4, g5⟩ := append_run (P := P) (ty := ty) fr k1 hy h2 h3 hv ht hi hzs hsz h63 hby
  have hX : ∀ b, b ∈ u.ownBlock.toList → own ρ id (h id) b := fun b hb => by simp at hb; rw [ho]; exact ⟨u, k2.1, hb⟩
  have hn : ρ nid = none := by have := hr.ob nid; rw [hf] at this; exact this
  have up : Up S S w w' ρ (updR ρ nid v') := by
    refine ⟨fun _ h => h, fun b hb hlt => g4.block b hlt (fun hc => hr.sep id b (hX b hc) hb), fun i q hq => ?_⟩
    have : i ≠ nid := fun e => by subst e; rw [hn] at hq; cases hq
    rw [updR_ne _ _ this]; exact hq
  refine ⟨_, w', updR ρ nid v', g1, eff_repl hr hf (by rw [ho]; simp) g4 hX ⟨v', ys, updR_same _ _ _, by simpa using g2, g3.up up⟩ (fun b hb => ?_), _, rfl, ?_⟩
  · obtain ⟨q, e1, e2⟩ := hb
    rw [updR_same] at e1
    cases e1
    rcases g5 with g5 | g5
    · exact .inl (by rw [ho]; exact ⟨u, k2.1, by rw [← g5]; exact e2⟩)
    · rw [g5] at e2; simp at e2; exact .inr (by omega)
  · simp only [VRel]; exact ⟨updR_same _ _ _, own_one g2⟩
theorem e_append0 (hx : Opd S w ρ a x .nils) (h63 : news.length ≤ maxLen) (hby : news.length * by_ ≤ 140737488355328) :
    Does P S w ρ h a ty (.call { callee := .builtin .append, args := #[x, y], argTypes := #[t, t] }) (some (.sl nid)) (updH h nid (.row e sz news)) (fun _ => False) := by
  obtain ⟨u, k1, k2⟩ := hx
  simp only [VRel] at k2
  subst k2
  obtain ⟨v', w', ys, g1, g2, g3, g4, g5⟩ := append_run (P := P) (ty := ty) (els := []) (xs := []) fr k1 hy (World.ownsRow_nil w 0 e sz) (by simp [CRel]) hv ht hi hzs hsz (by simpa using h63) (by simpa using hby)
  have up := up_new (x := v') hr hf g4
  simp only [List.length_nil, Nat.zero_add, List.nil_append] at g2 g3
  refine ⟨_, w', updR ρ nid v', g1, eff_new hr hf g4 ⟨v', ys, updR_same _ _ _, g2, g3.up up⟩ (fun b hb => ?_), _, rfl, ?_⟩
  · obtain ⟨q, e1, e2⟩ := hb
    rw [updR_same] at e1
    cases e1
    rcases g5 with g5 | g5
    · rw [g5] at e2; cases e2
    · rw [g5] at e2; simp at e2; omega
  · simp only [VRel]; exact ⟨updR_same _ _ _, own_one g2⟩
end
theorem e_trunc {t e : TypeId} {x y : Operand} {sz nid id k : Nat} {els : List V} (hr : HRel S w ρ h) (fr : Fr a n (fA a)) (hf : h nid = .free) (hx : Opd S w ρ a x (.sl id)) (hy : Opd S w ρ a y (.int .i64 (k : Int))) (ho : h id = .row e sz els) (ht : P.underlying t = some (.slice e)) (hz : sizeT P e = some sz) (hk : k ≤ els.length) :
    Does P S w ρ h a ty (.slice t x none (some y) none) (some (.sl nid)) (updH (updH h id .gone) nid (.row e sz (els.take k))) (· = id) := by
  obtain ⟨u, k1, k2⟩ := hx
  simp only [VRel] at k2
  obtain ⟨u', xs, h1, h2, h3⟩ := row_of hr ho
  rw [k2.1] at h1
  cases h1
  obtain ⟨A, c, rfl, hc, hcm⟩ := ownsRow_slice h2
  have hrun := ex_slR (P := P) (w := w) (ty := ty) (lo := none) (hi := some y) (i := 0) (j := k) fr ht hz k1 (.inl ⟨rfl, rfl⟩) (.inr ⟨y, rfl, opd_int hy⟩) (Nat.zero_le _) hk hc
  have eA : (if c = 0 then A else A.map (·.add (0 * sz))) = A := by
    split
    · rfl
    · cases A with
      | none => rfl
      | some ad => simp [Addr.add]
  rw [eA] at hrun
  simp only [Nat.sub_zero] at hrun
  have hn : ρ nid = none := by have := hr.ob nid; rw [hf] at this; exact this
  have up : Up S S w w ρ (updR ρ nid (.slice A k c)) := by
    refine ⟨fun _ h => h, fun b hb hlt => rfl, fun i q hq => ?_⟩
    have : i ≠ nid := fun e => by subst e; rw [hn] at hq; cases hq
    rw [updR_ne _ _ this]; exact hq
  have hlen : (els.take k).length = k := by simp; omega
  have own' : w.ownsRow 0 e sz (.slice A k c) k (xs.take (k * sz)) := by
    have hmul : k * sz ≤ els.length * sz := Nat.mul_le_mul_right _ hk
    refine ⟨by rw [List.length_take, h2.1, Nat.min_eq_left hmul], ?_⟩
    rcases h2.2 with ⟨h0, h0'⟩ | ⟨g, cap, cur, hv, q1, q2, q3, q4, q5, q6⟩
    · injection h0 with e1 e2 e3
      subst e1 e3
      exact .inl ⟨by rw [show k = 0 by omega], by omega⟩
    · injection hv with e1 e2 e3
      subst e1 e3
      refine .inr ⟨g, c, cur, rfl, q1, q2, by omega, q4, q5, ?_⟩
      rw [← q6, List.take_take, Nat.min_eq_left hmul]
  refine ⟨_, w, updR ρ nid (.slice A k c), hrun, eff_repl (X := []) hr hf (by rw [ho]; simp) (Chg.refl _ _) (by simp) ⟨_, _, updR_same _ _ _, by rw [hlen]; exact own', (h3.take k).up up⟩ (fun b hb => ?_), _, rfl, ?_⟩
  · obtain ⟨q, e1, e2⟩ := hb
    rw [updR_same] at e1
    cases e1
    exact .inl (by rw [ho]; exact ⟨_, k2.1, by cases A <;> simp [Value.ownBlock] at e2 ⊢; exact e2⟩)
  · simp only [VRel]; exact ⟨updR_same _ _ _, rfl⟩
theorem freeze_up {id : Nat} (hr : HRel S w ρ h) : HRel (fun b => S b ∨ own ρ id (h id) b) w ρ (updH h id .gone) ∧ Up S (fun b => S b ∨ own ρ id (h id) b) w w ρ ρ := by
  have up : Up S (fun b => S b ∨ own ρ id (h id) b) w w ρ ρ := ⟨fun _ h => .inl h, fun _ _ _ => rfl, fun _ _ h => h⟩
  have back : ∀ i b, own ρ i (updH h id .gone i) b → i ≠ id ∧ own ρ i (h i) b := fun i b hb => by
    by_cases hi : i = id
    · subst hi; rw [updH_same] at hb; exact hb.elim
    · rw [updH_ne _ _ hi] at hb; exact ⟨hi, hb⟩
  refine ⟨⟨fun i => ?_, fun i b hb => ?_, fun i j b hbi hbj => hr.dis i j b (back i b hbi).2 (back j b hbj).2, fun b hb => ?_⟩, up⟩
  · by_cases hi : i = id
    · subst hi; rw [updH_same]; trivial
    · rw [updH_ne _ _ hi]
      refine (hr.ob i).up up (fun hf => ?_) (fun _ _ => rfl)
      have := hr.ob i; rw [hf] at this; exact this
  · obtain ⟨h1, h2⟩ := back i b hb
    rintro (h3 | h3)
    · exact hr.sep i b h2 h3
    · exact h1 (hr.dis i id b h2 h3)
  · rcases hb with hb | hb
    · exact hr.slt b hb
    · exact own_lt (hr.ob id) hb
theorem freeze_row {id sz : Nat} {e : TypeId} {els : List V} {x : Value} (hr : HRel S w ρ h) (ho : h id = .row e sz els) (hp : pureL els = true) (hx : VRel S w ρ (.sl id) x) : VRel (fun b => S b ∨ own ρ id (h id) b) w ρ (.row sz els) x := by
  simp only [VRel] at hx
  obtain ⟨v, xs, h1, h2, h3⟩ := row_of hr ho
  rw [hx.1] at h1
  cases h1
  obtain ⟨A, c, rfl, hc, hcm⟩ := ownsRow_slice h2
  simp only [VRel]
  refine ⟨A, c, xs, rfl, hc, hcm, (h3.up (freeze_up hr).2).pure hp, h3.length, fun hn => ?_⟩
  obtain ⟨g, cap, hv, _, hlt⟩ := h2.form hn
  injection hv with e1 e2 e3
  subst e1 e3
  exact ⟨g, 0, rfl, .inr (by rw [ho]; exact ⟨_, hx.1, rfl⟩), hlt, fun j hj => by rw [Nat.zero_add]; exact own_cell h2 hj⟩
end
end Go.Proofs.Ythpjpngfghcmcaa
