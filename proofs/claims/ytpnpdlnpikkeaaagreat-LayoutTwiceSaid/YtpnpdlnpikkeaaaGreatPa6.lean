/- Contracts of the functions that the law reaches, part 6. -/
import Derived.Test.YtpnpdlnpikkeaaaGreatPa5
set_option linter.unusedVariables false
set_option linter.unusedSimpArgs false
namespace Go.Proofs.YtpnpdlnpikkeaaaGreat
open Go.RowKit Lx Sx
set_option maxRecDepth 100000
set_option maxHeartbeats 4000000
def iV (ks : List Tree) (s : WS) : WS := (treesP ks).foldl (fun s f => f s) s
theorem zI {ks : List Tree} {i : Nat} (s : WS) (h : i < ks.length) : iV (ks.take (i + 1)) s = treeP ks[i] (iV (ks.take i) s) := by
 unfold iV
 rw [List.take_succ_eq_append_getElem h, mV, treesP, treesP, List.foldl_append]; rfl
theorem d1 {N : Nat} (ih : dk N) {w : World} {Bs b : Nat} {s : WS} {x : List UInt8} {l0 l1 l2 : List UInt8} {ks : List Tree} {cs : List Value} {A B : Option Addr} {m n : Nat} (hks : ∀ t, t ∈ ks → tsize t ≤ N ∧ shapedT t = true ∧ leadedT t = true)
    (hl1 : s.2.length + 100 * (x.length + lsum [l0, l1, l2] + kbulk ks + 1) ≤ 1000000000000) (hl2 : s.1.length + 100 * (x.length + lsum [l0, l1, l2] + kbulk ks + 1) ≤ 1000000000000) (hP : Pr Bs b s.1 s.2 w) (hL : RowIn (fun b => b < Bs) w 1 A [l0, l1, l2].length ([l0, l1, l2].map aS)) (hn : ks.length ≤ n) (hn2 : n ≤ maxLen) (hK : KidsAre (fun b => b < Bs) w ks cs) (hR : RowIn (fun b => b < Bs) w 4 B ks.length cs) (hBw : Bs ≤ w.heap.size) :
    Calls Tryz.prog 93 [.pointer (some ⟨b, 0, none⟩), .agg #[.int .i64 1, aS x, .slice A [l0, l1, l2].length m, .slice B ks.length n]].toArray w fun e w' => e = .returned (.tuple #[]) ∧ Pr Bs b (treeP (.node 1 x [l0, l1, l2] ks) s).1 (treeP (.node 1 x [l0, l1, l2] ks) s).2 w' ∧ Prn Bs b w w' := by
  simp only [lsum, kbulk] at hl1 hl2
  have hgk : ∀ t, t ∈ ks → ∀ s, Gw (100 * tbulk t) s (treeP t s) := fun t ht s => Gw.tree _ t (Nat.le_refl _) (hks t ht).2.2 s
  have hKL := io ks
  have hE := Prn.refl (b := b) hBw
  have hG : s.2.length ≤ s.2.length := Nat.le_refl _
  have hG' : s.1.length ≤ s.1.length := Nat.le_refl _
  obtain ⟨lb, lo, rfl, _, hlb, _⟩ := hL.2 (by simp)
  refine rE 161 Tryz.func93 rfl rfl rfl ?_
  intro a hf
  refine rR 2 hf rfl ?_
  clear hf a; intro a hf
  obtain ⟨w1, b2, he, hB3, hx4, eb5, lb6⟩ := di (P := Tryz.prog) (t := 30) (x := (.tmp 1)) hf rfl rfl w 0
  refine rV hf rfl he ?_
  clear he hf a; intro a hf
  have ge_b2 := Prn.ge_new hE eb5
  have ne_b_b2 : b ≠ b2 := cP hP.lt eb5
  replace hP := hP.chg0 hx4
  replace hE := hE.t0 hx4
  clear eb5 lb6
  refine rR 5 hf rfl ?_
  clear hf a; intro a hf
  refine rV hf rfl (aq hf rfl (by kernel_rfl) hB3 rfl) ?_
  clear hf a; intro a hf
  refine rR 14 hf rfl ?_
  clear hf a; intro a hf
  refine rV hf rfl (aq hf rfl (by kernel_rfl) hB3 rfl) ?_
  clear hf a; intro a hf
  refine rV hf rfl (az (sz := 1) (k := 0) (r := lo) hf Tryz.underlying28 (by kernel_rfl) rfl rfl rfl (by simp) rfl) ?_
  clear hf a; intro a hf
  refine rV hf rfl (ex_load hf rfl (by kernel_rfl) (ax hL hE (j := 0) rfl)) ?_
  clear hf a; intro a hf
  refine rC hf rfl rfl (by kernel_rfl) (dj (lead := l0) (tok := [109, 111, 100, 117, 108, 101]) hP (by (try simp only [ae, List.length_append, List.length_cons, List.length_nil]); omega) (by (try simp only [ae, List.length_append, List.length_cons, List.length_nil]); omega) hE.now) ?_
  rintro _ w9 ⟨rfl, hPn, hEn⟩
  refine ⟨_, rfl, ?_⟩
  clear hf a; intro a hf
  have hx8 := hEn.chg
  replace hB3 := hB3.chg hx8 (aF hB3 rfl (Ne.symm ne_b_b2))
  replace hE := hE.trans hx8 (fun _ h => .inl h)
  obtain ⟨s7, es7⟩ : ∃ z, z = ae l0 [109, 111, 100, 117, 108, 101] s := ⟨_, rfl⟩
  replace hPn : Pr Bs b (ae l0 [109, 111, 100, 117, 108, 101] s).1 (ae l0 [109, 111, 100, 117, 108, 101] s).2 w9 := hPn
  rw [← es7] at hPn
  have gs7 := bm l0 [109, 111, 100, 117, 108, 101] s
  rw [← es7] at gs7
  obtain ⟨gs7, gs7'⟩ := gs7
  (try simp only [List.length_cons, List.length_nil, lsum] at gs7 gs7')
  replace hG := nlt gs7 (Nat.add_le_add_right hG _)
  replace hG' := nlt gs7' (Nat.add_le_add_right hG' _)
  clear gs7 gs7'
  clear hP; have hP := hPn; clear hPn hEn
  refine rR 3 hf rfl ?_
  clear hf a; intro a hf
  have s_lb := ax hL hE (j := 1) rfl
  have s_hB3 := hB3
  refine rD (fun x => x.cell? ⟨b2, 2, none⟩ = w9.cell? ⟨b2, 2, none⟩ ∧ x.cell? ⟨lb, lo + 1, none⟩ = w9.cell? ⟨lb, lo + 1, none⟩ ∧ x.cell? ⟨b2, 1, none⟩ = w9.cell? ⟨b2, 1, none⟩) 8 8 rfl (by kernel_rfl) (by kernel_rfl) ?_
  intro w10 hx11 hsel
  replace hB3 := hB3.c0 hx11
  replace hP := hP.chg0 hx11
  replace hE := hE.t0 hx11
  have hS0 : w10.cell? ⟨b2, 2, none⟩ = w9.cell? ⟨b2, 2, none⟩ ∧ w10.cell? ⟨lb, lo + 1, none⟩ = w9.cell? ⟨lb, lo + 1, none⟩ ∧ w10.cell? ⟨b2, 1, none⟩ = w9.cell? ⟨b2, 1, none⟩ := ⟨(hB3.cell 2).trans (s_hB3.cell 2).symm, ((ax hL hE (j := 1) rfl).trans s_lb.symm), (hB3.cell 1).trans (s_hB3.cell 1).symm⟩
  refine dR [0, 1] hsel (by kernel_rfl) hf rfl rfl (.inl hS0) ?_
  clear hf a; intro a hf
  refine dL 2 rfl rfl hsel (by kernel_rfl) hf rfl hS0 (fun x hS => ex_load hf rfl (by kernel_rfl) (hS.1.trans ((s_hB3.cell 2).trans rfl))) ?_
  clear hf a; intro a hf
  refine dV 3 rfl rfl hsel (by kernel_rfl) hf rfl (.inl hS0) (fun x => az (sz := 1) (k := 1) (r := lo + 1) hf Tryz.underlying28 (by kernel_rfl) rfl rfl rfl (by simp) rfl) ?_
  clear hf a; intro a hf
  refine dL 4 rfl rfl hsel (by kernel_rfl) hf rfl hS0 (fun x hS => ex_load hf rfl (by kernel_rfl) (hS.2.1.trans s_lb)) ?_
  clear hf a; intro a hf
  refine dR [5] hsel (by kernel_rfl) hf rfl rfl (.inl hS0) ?_
  clear hf a; intro a hf
  refine dL 6 rfl rfl hsel (by kernel_rfl) hf rfl hS0 (fun x hS => ex_load hf rfl (by kernel_rfl) (hS.2.2.trans ((s_hB3.cell 1).trans rfl))) ?_
  clear hf a; intro a hf
  refine nB 7 (by kernel_rfl) rfl hf rfl rfl rfl (by kernel_rfl) (dj (lead := l1) (tok := x) hP (by (try simp only [ae, List.length_append, List.length_cons, List.length_nil]); omega) (by (try simp only [ae, List.length_append, List.length_cons, List.length_nil]); omega) hE.now) ?_
  rintro _ w14 ⟨rfl, hPn, hEn⟩
  refine ⟨_, rfl, ?_⟩
  clear hf a; intro a hf
  have hx13 := hEn.chg
  replace hB3 := hB3.chg hx13 (aF hB3 rfl (Ne.symm ne_b_b2))
  replace hE := hE.trans hx13 (fun _ h => .inl h)
  obtain ⟨s12, es12⟩ : ∃ z, z = ae l1 x s7 := ⟨_, rfl⟩
  replace hPn : Pr Bs b (ae l1 x s7).1 (ae l1 x s7).2 w14 := hPn
  rw [← es12] at hPn
  have gs12 := bm l1 x s7
  rw [← es12] at gs12
  obtain ⟨gs12, gs12'⟩ := gs12
  (try simp only [List.length_cons, List.length_nil, lsum] at gs12 gs12')
  replace hG := nlt gs12 (Nat.add_le_add_right hG _)
  replace hG' := nlt gs12' (Nat.add_le_add_right hG' _)
  clear gs12 gs12'
  clear hP; have hP := hPn; clear hPn hEn
  clear hS0
  have hS0 : w14.cell? ⟨b2, 2, none⟩ = w9.cell? ⟨b2, 2, none⟩ ∧ w14.cell? ⟨lb, lo + 1, none⟩ = w9.cell? ⟨lb, lo + 1, none⟩ ∧ w14.cell? ⟨b2, 1, none⟩ = w9.cell? ⟨b2, 1, none⟩ := ⟨(hB3.cell 2).trans (s_hB3.cell 2).symm, ((ax hL hE (j := 1) rfl).trans s_lb.symm), (hB3.cell 1).trans (s_hB3.cell 1).symm⟩
  refine ⟨.inl hS0, ?_⟩
  refine rN (by kernel_rfl) ?_
  clear hS0 hsel
  refine rR 5 hf rfl ?_
  clear hf a; intro a hf
  refine rV hf rfl (aq hf rfl (by kernel_rfl) hB3 rfl) ?_
  clear hf a; intro a hf
  refine rV hf rfl (oQ hf Tryz.underlying25 rfl) ?_
  clear hf a; intro a hf
  refine rR 4 hf rfl ?_
  clear hf a; intro a hf
  refine rL (fun g a w' => ∃ i, Fr a 161 (fm [(0, .pointer (some ⟨b, 0, none⟩)), (3, .pointer (some ⟨b2, 0, none⟩)), (26, .slice B ks.length n), (27, .int .i64 (ks.length : Nat)), (28, .int .i64 (i : Nat))]) ∧ Prn Bs b w w' ∧ Blk w' b2 30 [.int .i64 1, aS x, .slice (some ⟨lb, lo, none⟩) [l0, l1, l2].length m, .slice B ks.length n] ∧ Pr Bs b (iV (ks.take i) s12).1 (iV (ks.take i) s12).2 w' ∧ i ≤ ks.length ∧ g = ks.length - i) _ ⟨0, hf.pick ⟨rfl, rfl, rfl, rfl, rfl, trivial⟩, hE, hB3, by simpa [iV, treesP] using hP, Nat.zero_le _, rfl⟩ ?_
  obtain ⟨b5, eb5⟩ : ∃ x, b2 = x := ⟨_, rfl⟩
  rw [eb5]
  have ge_b5 : w.heap.size ≤ b5 := eb5 ▸ ge_b2
  have ne_b_b5 : b ≠ b5 := eb5 ▸ ne_b_b2
  clear eb5 hf a hP
  intro g0 a w' hI
  obtain ⟨i, hf, hE, hB5, hP, hi, rfl⟩ := hI
  by_cases hlt : i < ks.length
  obtain ⟨kb, ko, rfl, _, hkb, _⟩ := hR.2 (by omega)
  have hki : ks[i]? = some ks[i] := List.getElem?_eq_getElem hlt
  obtain ⟨d0, d1, d2, d3, hT, hK4⟩ := dQ hK hR hE hki
  have on_T := hT.one
  have hmem : ks[i] ∈ ks := List.getElem_mem hlt
  have htt := sP hlt
  have hst := zI s12 hlt
  have hF := Gw.fold (ks.take i) (fun t ht => hgk t (List.mem_of_mem_take ht)) s12
  have hF1 : (iV (ks.take i) s12).2.length ≤ _ := hF.1
  have hF2 : (iV (ks.take i) s12).1.length ≤ _ := hF.2
  clear hF
  refine rR 2 hf rfl ?_
  clear hf a; intro a hf
  refine rV hf rfl (ql (c := true) hf rfl rfl (by simp; omega)) ?_
  clear hf a; intro a hf
  refine rR 10 hf rfl ?_
  clear hf a; intro a hf
  refine rV hf rfl (az (sz := 4) (k := i) (r := ko + i * 4) hf Tryz.underlying25 (by kernel_rfl) rfl rfl rfl hlt rfl) ?_
  clear hf a; intro a hf
  refine rV hf rfl (ex_loadN (cs := [d0, d1, d2, d3]) (m := 4) hf rfl (by kernel_rfl) rfl hK4) ?_
  clear hf a; intro a hf
  obtain ⟨w15, b16, he, hB17, hx18, eb19, lb20⟩ := eT a w' 0
  refine rV hf rfl he ?_
  clear he hf a; intro a hf
  have ne_b5_b16 : b5 ≠ b16 := cP hB5.lt eb19
  have ge_b16 := Prn.ge_new hE eb19
  have ne_b_b16 : b ≠ b16 := cP hP.lt eb19
  replace hB5 := hB5.c0 hx18
  replace hP := hP.chg0 hx18
  replace hT := hT.t0 hx18
  replace hE := hE.t0 hx18
  clear eb19 lb20
  obtain ⟨w21, he, hB22, hx23⟩ := eN (.tmp 5) (.tmp 31) hf rfl rfl rfl on_T hB17 rfl 0
  refine rS hf rfl he ?_
  clear he hf a; intro a hf
  replace hB5 := hB5.c1 hx23 ne_b5_b16
  replace hP := hP.chgN hB17 (by decide) ne_b_b16 hx23
  replace hT := hT.chg hx23 (fun k hb hlt2 => (nmc (by have := hE.base; omega) nm0))
  replace hE := hE.n1 hx23 ge_b16
  clear hB17
  refine rR 4 hf rfl ?_
  clear hf a; intro a hf
  refine rV hf rfl (fy (m := 4) hf rfl (by kernel_rfl) hB22 rfl) ?_
  clear hf a; intro a hf
  refine rC hf rfl rfl (by kernel_rfl) (ih ks[i] _ Bs b (iV (ks.take i) s12) d0 d1 d2 d3 (hks _ hmem).1 (hks _ hmem).2.1 (hks _ hmem).2.2 (by omega) (by omega) hP hT hE.now) ?_
  rintro _ w25 ⟨rfl, hPn, hEn⟩
  refine ⟨_, rfl, ?_⟩
  clear hf a; intro a hf
  have hx24 := hEn.chg
  replace hB5 := hB5.chg hx24 (aF hB5 rfl (Ne.symm ne_b_b5))
  replace hB22 := hB22.chg hx24 (aF hB22 rfl (Ne.symm ne_b_b16))
  replace hT := hT.chg hx24 (fun k hb hlt2 => (nl hb))
  replace hE := hE.trans hx24 (fun _ h => .inl h)
  clear hP; have hP : Pr Bs b (treeP ks[i] (iV (ks.take i) s12)).1 (treeP ks[i] (iV (ks.take i) s12)).2 w25 := hPn; clear hPn hEn
  refine rR 4 hf rfl ?_
  clear hf a; intro a hf
  refine rV hf rfl (rg hf rfl rfl rfl (by omega)) ?_
  clear hf a; intro a hf
  refine rR 2 hf rfl ?_
  clear hf a; intro a hf
  rw [← hst] at hP
  exact rX ⟨_, (by omega : ks.length - (i + 1) < ks.length - i), i + 1, hf.pick ⟨rfl, rfl, rfl, rfl, rfl, trivial⟩, hE, hB5, hP, by omega, rfl⟩
  have hz : ks.take i = ks := List.take_of_length_le (by omega)
  rw [hz] at hP
  obtain ⟨sF, esF⟩ : ∃ z, z = iV ks s12 := ⟨_, rfl⟩
  rw [← esF] at hP
  have hF := Gw.fold ks hgk s12
  have hF1 : (iV ks s12).2.length ≤ _ := hF.1
  have hF2 : (iV ks s12).1.length ≤ _ := hF.2
  rw [← esF] at hF1 hF2
  clear hF
  replace hG := nlt hF1 (Nat.add_le_add_right hG _)
  replace hG' := nlt hF2 (Nat.add_le_add_right hG' _)
  clear hF1 hF2
  refine rR 2 hf rfl ?_
  clear hf a; intro a hf
  refine rV hf rfl (ql (c := false) hf rfl rfl (by simp; omega)) ?_
  clear hf a; intro a hf
  refine rR 6 hf rfl ?_
  clear hf a; intro a hf
  refine rO ?_
  refine rR 2 hf rfl ?_
  clear hf a; intro a hf
  have s_lb := ax hL hE (j := 2) rfl
  have s_hB5 := hB5
  refine rD (fun x => x.cell? ⟨b5, 2, none⟩ = w'.cell? ⟨b5, 2, none⟩ ∧ x.cell? ⟨lb, lo + 2, none⟩ = w'.cell? ⟨lb, lo + 2, none⟩) 8 8 rfl (by kernel_rfl) (by kernel_rfl) ?_
  intro w26 hx27 hsel
  replace hB5 := hB5.c0 hx27
  replace hP := hP.chg0 hx27
  replace hE := hE.t0 hx27
  have hS0 : w26.cell? ⟨b5, 2, none⟩ = w'.cell? ⟨b5, 2, none⟩ ∧ w26.cell? ⟨lb, lo + 2, none⟩ = w'.cell? ⟨lb, lo + 2, none⟩ := ⟨(hB5.cell 2).trans (s_hB5.cell 2).symm, ((ax hL hE (j := 2) rfl).trans s_lb.symm)⟩
  refine dR [0, 1, 2, 3] hsel (by kernel_rfl) hf rfl rfl (.inl hS0) ?_
  clear hf a; intro a hf
  refine dL 4 rfl rfl hsel (by kernel_rfl) hf rfl hS0 (fun x hS => ex_load hf rfl (by kernel_rfl) (hS.1.trans ((s_hB5.cell 2).trans rfl))) ?_
  clear hf a; intro a hf
  refine dV 5 rfl rfl hsel (by kernel_rfl) hf rfl (.inl hS0) (fun x => az (sz := 1) (k := 2) (r := lo + 2) hf Tryz.underlying28 (by kernel_rfl) rfl rfl rfl (by simp) rfl) ?_
  clear hf a; intro a hf
  refine dL 6 rfl rfl hsel (by kernel_rfl) hf rfl hS0 (fun x hS => ex_load hf rfl (by kernel_rfl) (hS.2.trans s_lb)) ?_
  clear hf a; intro a hf
  refine nB 7 (by kernel_rfl) rfl hf rfl rfl rfl (by kernel_rfl) (wsL (s := l2) hP (by omega) hE.now) ?_
  rintro _ w29 ⟨rfl, hPn, hx28, _⟩
  refine ⟨_, rfl, ?_⟩
  clear hf a; intro a hf
  replace hB5 := hB5.chg hx28 (aF hB5 rfl (Ne.symm ne_b_b5))
  replace hE := hE.trans hx28 (fun _ h => .inl h)
  clear hP; have hP := hPn; clear hPn
  clear hS0
  have hS0 : w29.cell? ⟨b5, 2, none⟩ = w'.cell? ⟨b5, 2, none⟩ ∧ w29.cell? ⟨lb, lo + 2, none⟩ = w'.cell? ⟨lb, lo + 2, none⟩ := ⟨(hB5.cell 2).trans (s_hB5.cell 2).symm, ((ax hL hE (j := 2) rfl).trans s_lb.symm)⟩
  refine ⟨.inl hS0, ?_⟩
  refine rN (by kernel_rfl) ?_
  clear hS0 hsel
  refine rR 1 hf rfl ?_
  clear hf a; intro a hf
  have eq : treeP (.node 1 x [l0, l1, l2] ks) s = (sF.1, sF.2 ++ l2) := by subst esF; subst es12; subst es7; rw [treeP]; rfl
  rw [eq]
  exact rF (rs := []) hf rfl rfl ⟨rfl, hP, hE⟩
theorem t1 {N : Nat} (ih : dk N) {w : World} {Bs b : Nat} {s : WS} {x : List UInt8} {l0 l1 l2 : List UInt8} {ks : List Tree} {cs : List Value} {A B : Option Addr} {m n : Nat} (hks : ∀ t, t ∈ ks → tsize t ≤ N ∧ shapedT t = true ∧ leadedT t = true)
    (hl1 : s.2.length + 100 * (x.length + lsum [l0, l1, l2] + kbulk ks + 1) ≤ 1000000000000) (hl2 : s.1.length + 100 * (x.length + lsum [l0, l1, l2] + kbulk ks + 1) ≤ 1000000000000) (hP : Pr Bs b s.1 s.2 w) (hL : RowIn (fun b => b < Bs) w 1 A [l0, l1, l2].length ([l0, l1, l2].map aS)) (hn : ks.length ≤ n) (hn2 : n ≤ maxLen) (hK : KidsAre (fun b => b < Bs) w ks cs) (hR : RowIn (fun b => b < Bs) w 4 B ks.length cs) (hBw : Bs ≤ w.heap.size) :
    Calls Tryz.prog 62 [.pointer (some ⟨b, 0, none⟩), .agg #[.int .i64 1, aS x, .slice A [l0, l1, l2].length m, .slice B ks.length n]].toArray w fun e w' => e = .returned (.tuple #[]) ∧ Pr Bs b (treeP (.node 1 x [l0, l1, l2] ks) s).1 (treeP (.node 1 x [l0, l1, l2] ks) s).2 w' ∧ Prn Bs b w w' := by
  have hE := Prn.refl (b := b) hBw
  have hG : s.2.length ≤ s.2.length := Nat.le_refl _
  have hG' : s.1.length ≤ s.1.length := Nat.le_refl _
  obtain ⟨lb, lo, rfl, _, hlb, _⟩ := hL.2 (by simp)
  refine rE 216 Tryz.func62 rfl rfl rfl ?_
  intro a hf
  refine rR 2 hf rfl fun a hf => ?_
  obtain ⟨w1, b2, he, hB3, hx4, eb5, lb6⟩ := di (P := Tryz.prog) (t := 30) (x := (.tmp 1)) hf rfl rfl w 0
  refine rV hf rfl he fun a hf => ?_
  have ge_b2 := Prn.ge_new hE eb5
  have ne_b_b2 : b ≠ b2 := cP hP.lt eb5
  replace hP := hP.chg0 hx4
  replace hE := hE.t0 hx4
  clear eb5 lb6
  refine rR 5 hf rfl fun a hf => rV hf rfl (aq hf rfl (by kernel_rfl) hB3 rfl) fun a hf => rR 16 hf rfl fun a hf => rV hf rfl (fy (m := 4) hf rfl (by kernel_rfl) hB3 rfl) fun a hf => ?_
  have hLn := hL.now hE
  have hKn := hK.now hE
  have hRn := hR.now hE
  refine rC hf rfl rfl (by kernel_rfl) (d1 ih  hks hl1 hl2 hP hLn hn hn2 hKn hRn hE.now) ?_
  rintro _ w9 ⟨rfl, hPn, hEn⟩
  refine ⟨_, rfl, fun a hf => ?_⟩
  have hx8 := hEn.chg
  replace hB3 := hB3.chg hx8 (aF hB3 rfl (Ne.symm ne_b_b2))
  replace hE := hE.trans hx8 (fun _ h => .inl h)
  clear hP; have hP := hPn; clear hPn hEn
  refine rR 2 hf rfl fun a hf => ?_
  have eq : treeP (.node 1 x [l0, l1, l2] ks) s = treeP (.node 1 x [l0, l1, l2] ks) s := by rfl
  rw [eq]
  exact rF (rs := []) hf rfl rfl ⟨rfl, hP, hE⟩
theorem t2 {N : Nat} (ih : dk N) {w : World} {Bs b : Nat} {s : WS} {x : List UInt8} {l0 l1 l2 l3 l4 l5 : List UInt8} {ms : List (List UInt8)} {k0 k1 : Tree} {ps : List Tree} {cs : List Value} {A B : Option Addr} {m n : Nat} (hcl : 6 + ps.length ≤ (l0 :: l1 :: l2 :: l3 :: l4 :: l5 :: ms).length + 1) (hks : ∀ t, t ∈ (ps ++ [k0, k1]) → tsize t ≤ N ∧ shapedT t = true ∧ leadedT t = true)
    (hl1 : s.2.length + 100 * (x.length + lsum (l0 :: l1 :: l2 :: l3 :: l4 :: l5 :: ms) + kbulk (ps ++ [k0, k1]) + 1) ≤ 1000000000000) (hl2 : s.1.length + 100 * (x.length + lsum (l0 :: l1 :: l2 :: l3 :: l4 :: l5 :: ms) + kbulk (ps ++ [k0, k1]) + 1) ≤ 1000000000000) (hP : Pr Bs b s.1 s.2 w) (hL : RowIn (fun b => b < Bs) w 1 A (l0 :: l1 :: l2 :: l3 :: l4 :: l5 :: ms).length ((l0 :: l1 :: l2 :: l3 :: l4 :: l5 :: ms).map aS)) (hn : (ps ++ [k0, k1]).length ≤ n) (hn2 : n ≤ maxLen) (hK : KidsAre (fun b => b < Bs) w (ps ++ [k0, k1]) cs) (hR : RowIn (fun b => b < Bs) w 4 B (ps ++ [k0, k1]).length cs) (hBw : Bs ≤ w.heap.size) :
    Calls Tryz.prog 62 [.pointer (some ⟨b, 0, none⟩), .agg #[.int .i64 2, aS x, .slice A (l0 :: l1 :: l2 :: l3 :: l4 :: l5 :: ms).length m, .slice B (ps ++ [k0, k1]).length n]].toArray w fun e w' => e = .returned (.tuple #[]) ∧ Pr Bs b (treeP (.node 2 x (l0 :: l1 :: l2 :: l3 :: l4 :: l5 :: ms) (ps ++ [k0, k1])) s).1 (treeP (.node 2 x (l0 :: l1 :: l2 :: l3 :: l4 :: l5 :: ms) (ps ++ [k0, k1])) s).2 w' ∧ Prn Bs b w w' := by
  have hE := Prn.refl (b := b) hBw
  have hG : s.2.length ≤ s.2.length := Nat.le_refl _
  have hG' : s.1.length ≤ s.1.length := Nat.le_refl _
  obtain ⟨lb, lo, rfl, _, hlb, _⟩ := hL.2 (by simp)
  obtain ⟨kb, ko, rfl, _, hkb, _⟩ := hR.2 (by simp)
  refine rE 216 Tryz.func62 rfl rfl rfl ?_
  intro a hf
  refine rR 2 hf rfl fun a hf => ?_
  obtain ⟨w1, b2, he, hB3, hx4, eb5, lb6⟩ := di (P := Tryz.prog) (t := 30) (x := (.tmp 1)) hf rfl rfl w 0
  refine rV hf rfl he fun a hf => ?_
  have ge_b2 := Prn.ge_new hE eb5
  have ne_b_b2 : b ≠ b2 := cP hP.lt eb5
  replace hP := hP.chg0 hx4
  replace hE := hE.t0 hx4
  clear eb5 lb6
  refine rR 5 hf rfl fun a hf => rV hf rfl (aq hf rfl (by kernel_rfl) hB3 rfl) fun a hf => rR 23 hf rfl fun a hf => rV hf rfl (fy (m := 4) hf rfl (by kernel_rfl) hB3 rfl) fun a hf => ?_
  have hLn := hL.now hE
  have hKn := hK.now hE
  have hRn := hR.now hE
  refine rC hf rfl rfl (by kernel_rfl) (d2 ih hcl hks hl1 hl2 hP hLn hn hn2 hKn hRn hE.now) ?_
  rintro _ w9 ⟨rfl, hPn, hEn⟩
  refine ⟨_, rfl, fun a hf => ?_⟩
  have hx8 := hEn.chg
  replace hB3 := hB3.chg hx8 (aF hB3 rfl (Ne.symm ne_b_b2))
  replace hE := hE.trans hx8 (fun _ h => .inl h)
  clear hP; have hP := hPn; clear hPn hEn
  refine rR 2 hf rfl fun a hf => ?_
  have eq : treeP (.node 2 x (l0 :: l1 :: l2 :: l3 :: l4 :: l5 :: ms) (ps ++ [k0, k1])) s = treeP (.node 2 x (l0 :: l1 :: l2 :: l3 :: l4 :: l5 :: ms) (ps ++ [k0, k1])) s := by rfl
  rw [eq]
  exact rF (rs := []) hf rfl rfl ⟨rfl, hP, hE⟩
theorem t3 {N : Nat} (ih : dk N) {w : World} {Bs b : Nat} {s : WS} {x : List UInt8} {l0 l1 l2 : List UInt8} {k0 : Tree} {cs : List Value} {A B : Option Addr} {m n : Nat} (hks : ∀ t, t ∈ [k0] → tsize t ≤ N ∧ shapedT t = true ∧ leadedT t = true)
    (hl1 : s.2.length + 100 * (x.length + lsum [l0, l1, l2] + kbulk [k0] + 1) ≤ 1000000000000) (hl2 : s.1.length + 100 * (x.length + lsum [l0, l1, l2] + kbulk [k0] + 1) ≤ 1000000000000) (hP : Pr Bs b s.1 s.2 w) (hL : RowIn (fun b => b < Bs) w 1 A [l0, l1, l2].length ([l0, l1, l2].map aS)) (hn : [k0].length ≤ n) (hn2 : n ≤ maxLen) (hK : KidsAre (fun b => b < Bs) w [k0] cs) (hR : RowIn (fun b => b < Bs) w 4 B [k0].length cs) (hBw : Bs ≤ w.heap.size) :
    Calls Tryz.prog 62 [.pointer (some ⟨b, 0, none⟩), .agg #[.int .i64 3, aS x, .slice A [l0, l1, l2].length m, .slice B [k0].length n]].toArray w fun e w' => e = .returned (.tuple #[]) ∧ Pr Bs b (treeP (.node 3 x [l0, l1, l2] [k0]) s).1 (treeP (.node 3 x [l0, l1, l2] [k0]) s).2 w' ∧ Prn Bs b w w' := by
  have hE := Prn.refl (b := b) hBw
  have hG : s.2.length ≤ s.2.length := Nat.le_refl _
  have hG' : s.1.length ≤ s.1.length := Nat.le_refl _
  obtain ⟨lb, lo, rfl, _, hlb, _⟩ := hL.2 (by simp)
  obtain ⟨kb, ko, rfl, _, hkb, _⟩ := hR.2 (by simp)
  refine rE 216 Tryz.func62 rfl rfl rfl ?_
  intro a hf
  refine rR 2 hf rfl fun a hf => ?_
  obtain ⟨w1, b2, he, hB3, hx4, eb5, lb6⟩ := di (P := Tryz.prog) (t := 30) (x := (.tmp 1)) hf rfl rfl w 0
  refine rV hf rfl he fun a hf => ?_
  have ge_b2 := Prn.ge_new hE eb5
  have ne_b_b2 : b ≠ b2 := cP hP.lt eb5
  replace hP := hP.chg0 hx4
  replace hE := hE.t0 hx4
  clear eb5 lb6
  refine rR 5 hf rfl fun a hf => rV hf rfl (aq hf rfl (by kernel_rfl) hB3 rfl) fun a hf => rR 30 hf rfl fun a hf => rV hf rfl (fy (m := 4) hf rfl (by kernel_rfl) hB3 rfl) fun a hf => ?_
  have hLn := hL.now hE
  have hKn := hK.now hE
  have hRn := hR.now hE
  refine rC hf rfl rfl (by kernel_rfl) (d3 ih  hks hl1 hl2 hP hLn hn hn2 hKn hRn hE.now) ?_
  rintro _ w9 ⟨rfl, hPn, hEn⟩
  refine ⟨_, rfl, fun a hf => ?_⟩
  have hx8 := hEn.chg
  replace hB3 := hB3.chg hx8 (aF hB3 rfl (Ne.symm ne_b_b2))
  replace hE := hE.trans hx8 (fun _ h => .inl h)
  clear hP; have hP := hPn; clear hPn hEn
  refine rR 2 hf rfl fun a hf => ?_
  have eq : treeP (.node 3 x [l0, l1, l2] [k0]) s = treeP (.node 3 x [l0, l1, l2] [k0]) s := by rfl
  rw [eq]
  exact rF (rs := []) hf rfl rfl ⟨rfl, hP, hE⟩
theorem t4 {N : Nat} (ih : dk N) {w : World} {Bs b : Nat} {s : WS} {x : List UInt8} {l0 l1 : List UInt8} {k0 : Tree} {cs : List Value} {A B : Option Addr} {m n : Nat} (hks : ∀ t, t ∈ [k0] → tsize t ≤ N ∧ shapedT t = true ∧ leadedT t = true)
    (hl1 : s.2.length + 100 * (x.length + lsum [l0, l1] + kbulk [k0] + 1) ≤ 1000000000000) (hl2 : s.1.length + 100 * (x.length + lsum [l0, l1] + kbulk [k0] + 1) ≤ 1000000000000) (hP : Pr Bs b s.1 s.2 w) (hL : RowIn (fun b => b < Bs) w 1 A [l0, l1].length ([l0, l1].map aS)) (hn : [k0].length ≤ n) (hn2 : n ≤ maxLen) (hK : KidsAre (fun b => b < Bs) w [k0] cs) (hR : RowIn (fun b => b < Bs) w 4 B [k0].length cs) (hBw : Bs ≤ w.heap.size) :
    Calls Tryz.prog 62 [.pointer (some ⟨b, 0, none⟩), .agg #[.int .i64 4, aS x, .slice A [l0, l1].length m, .slice B [k0].length n]].toArray w fun e w' => e = .returned (.tuple #[]) ∧ Pr Bs b (treeP (.node 4 x [l0, l1] [k0]) s).1 (treeP (.node 4 x [l0, l1] [k0]) s).2 w' ∧ Prn Bs b w w' := by
  have hE := Prn.refl (b := b) hBw
  have hG : s.2.length ≤ s.2.length := Nat.le_refl _
  have hG' : s.1.length ≤ s.1.length := Nat.le_refl _
  obtain ⟨lb, lo, rfl, _, hlb, _⟩ := hL.2 (by simp)
  obtain ⟨kb, ko, rfl, _, hkb, _⟩ := hR.2 (by simp)
  refine rE 216 Tryz.func62 rfl rfl rfl ?_
  intro a hf
  refine rR 2 hf rfl fun a hf => ?_
  obtain ⟨w1, b2, he, hB3, hx4, eb5, lb6⟩ := di (P := Tryz.prog) (t := 30) (x := (.tmp 1)) hf rfl rfl w 0
  refine rV hf rfl he fun a hf => ?_
  have ge_b2 := Prn.ge_new hE eb5
  have ne_b_b2 : b ≠ b2 := cP hP.lt eb5
  replace hP := hP.chg0 hx4
  replace hE := hE.t0 hx4
  clear eb5 lb6
  refine rR 5 hf rfl fun a hf => rV hf rfl (aq hf rfl (by kernel_rfl) hB3 rfl) fun a hf => rR 33 hf rfl fun a hf => rV hf rfl (fy (m := 4) hf rfl (by kernel_rfl) hB3 rfl) fun a hf => ?_
  have hLn := hL.now hE
  have hKn := hK.now hE
  have hRn := hR.now hE
  refine rC hf rfl rfl (by kernel_rfl) (d4 ih  hks hl1 hl2 hP hLn hn hn2 hKn hRn hE.now) ?_
  rintro _ w9 ⟨rfl, hPn, hEn⟩
  refine ⟨_, rfl, fun a hf => ?_⟩
  have hx8 := hEn.chg
  replace hB3 := hB3.chg hx8 (aF hB3 rfl (Ne.symm ne_b_b2))
  replace hE := hE.trans hx8 (fun _ h => .inl h)
  clear hP; have hP := hPn; clear hPn hEn
  refine rR 2 hf rfl fun a hf => ?_
  have eq : treeP (.node 4 x [l0, l1] [k0]) s = treeP (.node 4 x [l0, l1] [k0]) s := by rfl
  rw [eq]
  exact rF (rs := []) hf rfl rfl ⟨rfl, hP, hE⟩
theorem iu {α : Type} {l : List α} (h : l.length = 0) : l = [] := List.length_eq_zero_iff.1 h
theorem bU {α : Type} {l : List α} {n : Nat} (h : l.length = n + 1) : ∃ a r, l = a :: r ∧ r.length = n := by
 cases l with
 | nil => simp at h
 | cons a r => exact ⟨a, r, rfl, by simpa using h⟩
theorem vf {k : Int} {n : Nat} : ∀ {ks : List Tree} {i : Nat}, kidsT k n ks i = true → ∀ t, t ∈ ks → shapedT t = true
 | u :: r, i, h, t, ht => by
  simp only [kidsT, Bool.and_eq_true] at h
  rcases List.mem_cons.1 ht with e | e
  ·exact e ▸ h.1.2
  ·exact vf h.2 t e
theorem yy {k n : Int} (h : 0 ≤ bH k n) : (k = 1 ∧ bH k n = 3) ∨ (k = 2 ∧ 2 ≤ n ∧ (2 < n ∧ bH k n = 6 + (n - 3) ∨ n = 2 ∧ bH k n = 6)) ∨ (k = 16 ∧ (n = 0 ∧ bH k n = 3 ∨ 0 < n ∧ bH k n = 3 + (n - 1))) ∨ (k = 18 ∧ 1 ≤ n ∧ bH k n = 2 + (n - 1)) ∨ (k = 3 ∧ n = 1 ∧ bH k n = 3) ∨ (k = 4 ∧ n = 1 ∧ bH k n = 2) ∨ (k = 8 ∧ n = 1 ∧ bH k n = 2) ∨ (k = 22 ∧ n = 1 ∧ bH k n = 2) ∨ (k = 17 ∧ n = 1 ∧ bH k n = 0) ∨ (k = 19 ∧ n = 3 ∧ bH k n = 3) ∨ (k = 20 ∧ n = 2 ∧ bH k n = 4) ∨ (k = 21 ∧ n = 2 ∧ bH k n = 1) ∨ ((k = 5 ∨ k = 6 ∨ k = 7 ∨ k = 9 ∨ k = 10 ∨ k = 11 ∨ k = 12 ∨ k = 13 ∨ k = 14 ∨ k = 15) ∧ n = 0 ∧ bH k n = 1) := by
 obtain ⟨L, hL⟩ : ∃ L, L = bH k n := ⟨_, rfl⟩
 rw [← hL] at h ⊢
 unfold bH at hL
 by_cases hk1 : k = 1
 ·rw [if_pos hk1] at hL
  split at hL
  ·exact absurd h (by omega)
  ·exact .inl (⟨hk1, hL⟩)
 rw [if_neg hk1] at hL
 by_cases hk2 : k = 2
 ·rw [if_pos hk2] at hL
  split at hL
  ·exact absurd h (by omega)
  ·split at hL
   ·exact .inr (.inl (⟨hk2, by omega, .inl ⟨by omega, hL⟩⟩))
   ·exact .inr (.inl (⟨hk2, by omega, .inr ⟨by omega, hL⟩⟩))
 rw [if_neg hk2] at hL
 by_cases hk3 : k = 16
 ·rw [if_pos hk3] at hL
  split at hL
  ·exact absurd h (by omega)
  ·split at hL
   ·exact .inr (.inr (.inl (⟨hk3, .inr ⟨by omega, hL⟩⟩)))
   ·exact .inr (.inr (.inl (⟨hk3, .inl ⟨by omega, hL⟩⟩)))
 rw [if_neg hk3] at hL
 by_cases hk4 : k = 18
 ·rw [if_pos hk4] at hL
  split at hL
  ·exact absurd h (by omega)
  ·exact .inr (.inr (.inr (.inl (⟨hk4, by omega, hL⟩))))
 rw [if_neg hk4] at hL
 by_cases hk5 : k = 3
 ·rw [if_pos hk5] at hL
  split at hL
  ·exact .inr (.inr (.inr (.inr (.inl (⟨hk5, by omega, hL⟩)))))
  ·exact absurd h (by omega)
 rw [if_neg hk5] at hL
 by_cases hk6 : k = 4 ∨ k = 8 ∨ k = 22
 ·rw [if_pos hk6] at hL
  split at hL
  ·rcases hk6 with hq | hq | hq
   ·exact .inr (.inr (.inr (.inr (.inr (.inl (⟨hq, by omega, hL⟩))))))
   ·exact .inr (.inr (.inr (.inr (.inr (.inr (.inl (⟨hq, by omega, hL⟩)))))))
   ·exact .inr (.inr (.inr (.inr (.inr (.inr (.inr (.inl (⟨hq, by omega, hL⟩))))))))
  ·exact absurd h (by omega)
 rw [if_neg hk6] at hL
 by_cases hk7 : k = 17
 ·rw [if_pos hk7] at hL
  split at hL
  ·exact .inr (.inr (.inr (.inr (.inr (.inr (.inr (.inr (.inl (⟨hk7, by omega, hL⟩)))))))))
  ·exact absurd h (by omega)
 rw [if_neg hk7] at hL
 by_cases hk8 : k = 19
 ·rw [if_pos hk8] at hL
  split at hL
  ·exact .inr (.inr (.inr (.inr (.inr (.inr (.inr (.inr (.inr (.inl (⟨hk8, by omega, hL⟩))))))))))
  ·exact absurd h (by omega)
 rw [if_neg hk8] at hL
 by_cases hk9 : k = 20
 ·rw [if_pos hk9] at hL
  split at hL
  ·exact .inr (.inr (.inr (.inr (.inr (.inr (.inr (.inr (.inr (.inr (.inl (⟨hk9, by omega, hL⟩)))))))))))
  ·exact absurd h (by omega)
 rw [if_neg hk9] at hL
 by_cases hk10 : k = 21
 ·rw [if_pos hk10] at hL
  split at hL
  ·exact .inr (.inr (.inr (.inr (.inr (.inr (.inr (.inr (.inr (.inr (.inr (.inl (⟨hk10, by omega, hL⟩))))))))))))
  ·exact absurd h (by omega)
 rw [if_neg hk10] at hL
 by_cases hk11 : k = 5 ∨ k = 6 ∨ k = 7 ∨ k = 9 ∨ k = 10 ∨ k = 11 ∨ k = 12 ∨ k = 13 ∨ k = 14 ∨ k = 15
 ·rw [if_pos hk11] at hL
  split at hL
  ·exact .inr (.inr (.inr (.inr (.inr (.inr (.inr (.inr (.inr (.inr (.inr (.inr ((⟨hk11, by omega, hL⟩)))))))))))))
  ·exact absurd h (by omega)
 rw [if_neg hk11] at hL
 exact absurd h (by omega)
theorem Ad {N : Nat} (ih : dk N) : dk (N + 1) := by
 intro t w Bs b s c0 c1 c2 c3 hN hs hl h1 h2 hP hT hBw
 obtain ⟨k, x, ls, ks⟩ := t
 simp only [TreeIs] at hT
 obtain ⟨A, m, B, n, hc, _, _, hn, hn2, hL, cs, hK, hR⟩ := hT
 simp only [List.cons.injEq, and_true] at hc
 obtain ⟨rfl, rfl, rfl, rfl⟩ := hc
 simp only [tsize] at hN
 simp only [tbulk] at h1 h2
 simp only [shapedT, leadedT, Bool.and_eq_true, decide_eq_true_eq] at hs hl
 have hks : ∀ t, t ∈ ks → tsize t ≤ N ∧ shapedT t = true ∧ leadedT t = true := fun t ht => ⟨by have := qw ht; omega, vf hs.2 t ht, qe hl.2 ht⟩
 have hkk := yy hs.1.1
 have hll := hl.1.1
 clear hs hl hN
 rcases hkk with ⟨rfl, e⟩ | ⟨rfl, h0, e⟩ | ⟨rfl, e⟩ | ⟨rfl, h0, e⟩ | ⟨rfl, h0, e⟩ | ⟨rfl, h0, e⟩ | ⟨rfl, h0, e⟩ | ⟨rfl, h0, e⟩ | ⟨rfl, h0, e⟩ | ⟨rfl, h0, e⟩ | ⟨rfl, h0, e⟩ | ⟨rfl, h0, e⟩ | ⟨hk, h0, e⟩
 ·obtain ⟨l0, ls0r, rfl, qls0⟩ := bU (n := 2) (l := ls) (by omega)
  obtain ⟨l1, ls1r, rfl, qls1⟩ := bU (n := 1) (l := ls0r) qls0
  obtain ⟨l2, ls2r, rfl, qls2⟩ := bU (n := 0) (l := ls1r) qls1
  obtain rfl := iu (l := ls2r) qls2
  exact t1 ih hks h1 h2 hP hL hn hn2 hK hR hBw
 ·obtain ⟨ps, k0, k1, rfl⟩ : ∃ ps k0 k1, ks = ps ++ [k0, k1] := by
   refine ⟨ks.take (ks.length - 2), ks[ks.length - 2]'(by omega), ks[ks.length - 1]'(by omega), ?_⟩
   have e1 : ks = ks.take (ks.length - 2) ++ ks.drop (ks.length - 2) := (List.take_append_drop _ _).symm
   have e2 : ks.drop (ks.length - 2) = [ks[ks.length - 2]'(by omega), ks[ks.length - 1]'(by omega)] := by
    rw [List.drop_eq_getElem_cons (by omega : ks.length - 2 < ks.length)]
    congr 1
    have e3 : ks.length - 2 + 1 = ks.length - 1 := by omega
    rw [e3, List.drop_eq_getElem_cons (by omega : ks.length - 1 < ks.length), List.drop_of_length_le (by omega)]
   rw [← e2]; exact e1
  have hpl : (ps ++ [k0, k1]).length = ps.length + 2 := by simp
  obtain ⟨q, hq⟩ : ∃ q, ls.length = q + 6 := ⟨ls.length - 6, by omega⟩
  obtain ⟨l0, ls0r, rfl, qls0⟩ := bU (n := q + 5) (l := ls) hq
  obtain ⟨l1, ls1r, rfl, qls1⟩ := bU (n := q + 4) (l := ls0r) qls0
  obtain ⟨l2, ls2r, rfl, qls2⟩ := bU (n := q + 3) (l := ls1r) qls1
  obtain ⟨l3, ls3r, rfl, qls3⟩ := bU (n := q + 2) (l := ls2r) qls2
  obtain ⟨l4, ls4r, rfl, qls4⟩ := bU (n := q + 1) (l := ls3r) qls3
  obtain ⟨l5, ls5r, rfl, qls5⟩ := bU (n := q + 0) (l := ls4r) qls4
  exact t2 ih (by simp only [List.length_cons]; omega) hks h1 h2 hP hL hn hn2 hK hR hBw
 ·obtain ⟨q, hq⟩ : ∃ q, ls.length = q + 3 := ⟨ls.length - 3, by omega⟩
  obtain ⟨l0, ls0r, rfl, qls0⟩ := bU (n := q + 2) (l := ls) hq
  obtain ⟨l1, ls1r, rfl, qls1⟩ := bU (n := q + 1) (l := ls0r) qls0
  obtain ⟨l2, ls2r, rfl, qls2⟩ := bU (n := q + 0) (l := ls1r) qls1
  exact t16 ih (by simp only [List.length_cons]; omega) hks h1 h2 hP hL hn hn2 hK hR hBw
 ·obtain ⟨q, hq⟩ : ∃ q, ls.length = q + 2 := ⟨ls.length - 2, by omega⟩
  obtain ⟨l0, ls0r, rfl, qls0⟩ := bU (n := q + 1) (l := ls) hq
  obtain ⟨l1, ls1r, rfl, qls1⟩ := bU (n := q + 0) (l := ls0r) qls0
  exact t18 ih (by simp only [List.length_cons]; omega) hks h1 h2 hP hL hn hn2 hK hR hBw
 ·obtain ⟨l0, ls0r, rfl, qls0⟩ := bU (n := 2) (l := ls) (by omega)
  obtain ⟨l1, ls1r, rfl, qls1⟩ := bU (n := 1) (l := ls0r) qls0
  obtain ⟨l2, ls2r, rfl, qls2⟩ := bU (n := 0) (l := ls1r) qls1
  obtain rfl := iu (l := ls2r) qls2
  obtain ⟨k0, ks0r, rfl, qks0⟩ := bU (n := 0) (l := ks) (by omega)
  obtain rfl := iu (l := ks0r) qks0
  exact t3 ih hks h1 h2 hP hL hn hn2 hK hR hBw
 ·obtain ⟨l0, ls0r, rfl, qls0⟩ := bU (n := 1) (l := ls) (by omega)
  obtain ⟨l1, ls1r, rfl, qls1⟩ := bU (n := 0) (l := ls0r) qls0
  obtain rfl := iu (l := ls1r) qls1
  obtain ⟨k0, ks0r, rfl, qks0⟩ := bU (n := 0) (l := ks) (by omega)
  obtain rfl := iu (l := ks0r) qks0
  exact t4 ih hks h1 h2 hP hL hn hn2 hK hR hBw
 ·obtain ⟨l0, ls0r, rfl, qls0⟩ := bU (n := 1) (l := ls) (by omega)
  obtain ⟨l1, ls1r, rfl, qls1⟩ := bU (n := 0) (l := ls0r) qls0
  obtain rfl := iu (l := ls1r) qls1
  obtain ⟨k0, ks0r, rfl, qks0⟩ := bU (n := 0) (l := ks) (by omega)
  obtain rfl := iu (l := ks0r) qks0
  exact t8 ih hks h1 h2 hP hL hn hn2 hK hR hBw
 ·obtain ⟨l0, ls0r, rfl, qls0⟩ := bU (n := 1) (l := ls) (by omega)
  obtain ⟨l1, ls1r, rfl, qls1⟩ := bU (n := 0) (l := ls0r) qls0
  obtain rfl := iu (l := ls1r) qls1
  obtain ⟨k0, ks0r, rfl, qks0⟩ := bU (n := 0) (l := ks) (by omega)
  obtain rfl := iu (l := ks0r) qks0
  exact t22 ih hks h1 h2 hP hL hn hn2 hK hR hBw
 ·obtain rfl := iu (l := ls) (by omega)
  obtain ⟨k0, ks0r, rfl, qks0⟩ := bU (n := 0) (l := ks) (by omega)
  obtain rfl := iu (l := ks0r) qks0
  exact t17 ih hks h1 h2 hP hL hn hn2 hK hR hBw
 ·obtain ⟨l0, ls0r, rfl, qls0⟩ := bU (n := 2) (l := ls) (by omega)
  obtain ⟨l1, ls1r, rfl, qls1⟩ := bU (n := 1) (l := ls0r) qls0
  obtain ⟨l2, ls2r, rfl, qls2⟩ := bU (n := 0) (l := ls1r) qls1
  obtain rfl := iu (l := ls2r) qls2
  obtain ⟨k0, ks0r, rfl, qks0⟩ := bU (n := 2) (l := ks) (by omega)
  obtain ⟨k1, ks1r, rfl, qks1⟩ := bU (n := 1) (l := ks0r) qks0
  obtain ⟨k2, ks2r, rfl, qks2⟩ := bU (n := 0) (l := ks1r) qks1
  obtain rfl := iu (l := ks2r) qks2
  exact t19 ih hks h1 h2 hP hL hn hn2 hK hR hBw
 ·obtain ⟨l0, ls0r, rfl, qls0⟩ := bU (n := 3) (l := ls) (by omega)
  obtain ⟨l1, ls1r, rfl, qls1⟩ := bU (n := 2) (l := ls0r) qls0
  obtain ⟨l2, ls2r, rfl, qls2⟩ := bU (n := 1) (l := ls1r) qls1
  obtain ⟨l3, ls3r, rfl, qls3⟩ := bU (n := 0) (l := ls2r) qls2
  obtain rfl := iu (l := ls3r) qls3
  obtain ⟨k0, ks0r, rfl, qks0⟩ := bU (n := 1) (l := ks) (by omega)
  obtain ⟨k1, ks1r, rfl, qks1⟩ := bU (n := 0) (l := ks0r) qks0
  obtain rfl := iu (l := ks1r) qks1
  exact t20 ih hks h1 h2 hP hL hn hn2 hK hR hBw
 ·obtain ⟨l0, ls0r, rfl, qls0⟩ := bU (n := 0) (l := ls) (by omega)
  obtain rfl := iu (l := ls0r) qls0
  obtain ⟨k0, ks0r, rfl, qks0⟩ := bU (n := 1) (l := ks) (by omega)
  obtain ⟨k1, ks1r, rfl, qks1⟩ := bU (n := 0) (l := ks0r) qks0
  obtain rfl := iu (l := ks1r) qks1
  exact t21 ih hks h1 h2 hP hL hn hn2 hK hR hBw
 ·obtain ⟨l0, ls0r, rfl, qls0⟩ := bU (n := 0) (l := ls) (by omega)
  obtain rfl := iu (l := ls0r) qls0
  obtain rfl := iu (l := ks) (by omega)
  exact FF (N := N) hk hks h1 h2 hP hL hn hn2 hK hR hBw
theorem Cm : ∀ N, dk N
 | 0 => fun t _ _ _ _ _ _ _ _ hN => by cases t; simp only [tsize] at hN; omega
 | N + 1 => Ad (Cm N)
end Go.Proofs.YtpnpdlnpikkeaaaGreat
namespace Go.Proofs.YtpnpdlnpikkeaaaGreat
open Go.RowKit Lx Sx
set_option maxRecDepth 100000
set_option maxHeartbeats 4000000
theorem TreeIs.cells {S : Nat → Prop} {w : World} {t : Tree} {c0 c1 c2 c3 : Value} (h : TreeIs S w t [c0, c1, c2, c3]) : ∃ A m B n, [c0, c1, c2, c3] = [.int .i64 t.kind, aS t.text, .slice A t.leads.length m, .slice B t.kids.length n] := by
 obtain ⟨k, x, ls, ks⟩ := t
 simp only [TreeIs] at h
 obtain ⟨A, m, B, n, e, _⟩ := h
 exact ⟨A, m, B, n, e⟩
theorem Pr.new {Bs b : Nat} {w : World} (h : Blk w b 83 [.pointer none, .slice none 0 0, aS []]) (hb : Bs ≤ b) : Pr Bs b [] [] w :=
 ⟨.pointer none, .slice none 0 0, .inl rfl, hb, h, World.ownsRow_nil w Bs 5 1⟩
def upX (Bs : Nat) (w : World) : List Nat := (List.range w.heap.size).filter fun k => decide (Bs ≤ k)
theorem CO {Bs : Nat} {w : World} {k : Nat} (h : k ∈ upX Bs w) : Bs ≤ k := by simp [upX] at h; exact h.2
theorem EO {Bs : Nat} {w w' : World} (h : Below Bs w w') (hb : Bs ≤ w.heap.size) : Chg (upX Bs w) w w' :=
 ⟨h.os, h.tape, h.output, h.size, fun k hk hX => h.block k (by
  rcases Nat.lt_or_ge k Bs with h1 | h1
  ·exact h1
  ·exact absurd (by simp [upX]; exact ⟨hk, h1⟩) hX)⟩
theorem FK {Bs b : Nat} {x l : List UInt8} {w : World} (h : Pr Bs b x l w) (hBw : Bs ≤ w.heap.size) : Calls Tryz.prog 63 [.pointer (some ⟨b, 0, none⟩)].toArray w fun e w' => e = .returned (aS l) ∧ Chg (upX Bs w) w w' :=
 (uy _ Bs b [aS x] l w h hBw).mono fun _ _ ⟨e, h1⟩ => ⟨e, EO h1 hBw⟩
theorem EZ {t : Tree} {S : Nat → Prop} {w : World} {c0 c1 c2 c3 : Value} (hs : shapedT t = true) (hl : leadedT t = true) (hb : tbulk t ≤ 1000000000) (hT : TreeIs S w t [c0, c1, c2, c3]) : Calls Tryz.prog 35 [.agg #[c0, c1, c2, c3]].toArray w fun e w' => e = .returned (aS (ja t)) ∧ Chg [] w w' := by
  obtain ⟨hi0, ehi0⟩ : ∃ x, x = w.heap.size := ⟨_, rfl⟩
  replace hT := hT.keepB (S' := fun b => b < hi0) (fun b _ hb => by omega) (fun _ _ _ => rfl)
  obtain ⟨A, m1, B, m2, hc⟩ := hT.cells
  simp only [List.cons.injEq, and_true] at hc
  obtain ⟨rfl, rfl, rfl, rfl⟩ := hc
  refine rE 8 Tryz.func35 rfl rfl rfl ?_
  intro a hf
  have hE := Chg.refl [] w
  refine rR 2 hf rfl fun a hf => ?_
  obtain ⟨w1, b2, he, hB3, hx4, eb5, lb6⟩ := di (P := Tryz.prog) (t := 30) (x := (.tmp 0)) hf rfl rfl w 0
  refine rV hf rfl he fun a hf => ?_
  have ge_b2 := vm hE eb5
  have tb_b2 : hi0 ≤ b2 := by have := hE.size; omega
  replace hT := hT.t0 hx4
  replace hE := hE.t0 hx4
  clear eb5 lb6
  refine rR 5 hf rfl fun a hf => ?_
  obtain ⟨w7, b8, he, hB9, hx10, eb11, lb12⟩ := rG (P := Tryz.prog) (t := 83) [.pointer none, .slice none 0 0, .string ⟨([] : List UInt8).toArray⟩] (by kernel_rfl) a w1 0
  refine rV hf rfl he fun a hf => ?_
  have ne_b2_b8 : b2 ≠ b8 := cP hB3.lt eb11
  have ge_b8 := vm hE eb11
  have tb_b8 : hi0 ≤ b8 := by have := hE.size; omega
  replace hB3 := hB3.c0 hx10
  replace hT := hT.t0 hx10
  replace hE := hE.t0 hx10
  clear eb11 lb12
  refine rR 4 hf rfl fun a hf => rV hf rfl (fy (m := 4) hf rfl (by kernel_rfl) hB3 rfl) fun a hf => ?_
  have hPr := Pr.new hB9 (Nat.le_refl b8)
  have hTl : TreeIs (fun k => k < b8) w7 t _ := hT.mono (fun k hk => Nat.lt_of_lt_of_le hk tb_b8)
  have hBw : b8 ≤ w7.heap.size := Nat.le_of_lt hB9.lt
  refine rC hf rfl rfl (by kernel_rfl) (Cm _ t _ b8 b8 ([], []) _ _ _ _ (Nat.le_refl _) hs hl (by simp only [List.length_nil]; omega) (by simp only [List.length_nil]; omega) hPr hTl hBw) ?_
  rintro _ w14 ⟨rfl, hPn, hEn⟩
  refine ⟨_, rfl, fun a hf => ?_⟩
  have hx13 := hEn.chg
  clear hTl hPr
  replace hE := hE.trans hx13 (fun x hx => .inr (by have := (eR.1 hx).2.1; omega))
  refine rR 5 hf rfl fun a hf => rC hf rfl rfl (by kernel_rfl) (FK hPn hEn.now) ?_
  rintro _ w16 ⟨rfl, hx15⟩
  refine ⟨_, rfl, fun a hf => ?_⟩
  replace hE := hE.trans hx15 (fun x hx => .inr (by have := CO hx; omega))
  refine rR 4 hf rfl fun a hf => ?_
  exact rT (rs := [.tmp 2]) hf rfl ⟨_, _, rfl, rfl, rfl⟩ ⟨rfl, hE⟩
end Go.Proofs.YtpnpdlnpikkeaaaGreat
namespace Go.Proofs.YtpnpdlnpikkeaaaGreat
open Go.RowKit Lx
set_option maxRecDepth 100000
set_option maxHeartbeats 1000000 in
theorem CM (l : List UInt8) (fin : Bool) (w : World) (hl : l.length ≤ 281474976710656) : Calls Tryz.prog 61 #[.string ⟨l.toArray⟩, .bool fin] w fun e w' => e = .returned (.bool (aU false l fin)) ∧ w = w' := by
 obtain ⟨r, hr⟩ : ∃ r, aU false l fin = r := ⟨_, rfl⟩
 rw [hr]
 have HR := Lib.hid hr; clear hr
 go_enter Tryz.func61, Tryz.ntmps61
 go_wp2_with fail
 go_loopg [5, 6] l.length (fun g s5 s6 wx => ∃ (i : Nat) (c : Bool), g = l.length - i ∧ wx = w ∧ i ≤ l.length ∧ s5 = .bool c ∧ s6 = .int .i64 i ∧ Hid (aU c (l.drop i) fin = r))
 case atStart => exact ⟨0, false, rfl, rfl, Nat.zero_le _, rfl, rfl, Lib.hid (by simpa using HR.out)⟩
 case round =>
  obtain ⟨i, c, rfl, rfl, hil, rfl, rfl, HT⟩ := hrel
  by_cases hit : i < l.length
  rotate_left
  ·have HF := Lib.hid (show (!c || fin) = r from by rw [← HT.out, wD (by omega)])
   cases c <;> (go_wp2_with fail; go_ret; exact ⟨aO (by rw [← HF.out]; rfl), rfl⟩)
  obtain ⟨x, hx⟩ : ∃ c, ({ data := l.toArray } : ByteArray)[i]'hit = c := ⟨_, rfl⟩
  have HXi := Lib.hid (show l[i] = x from hx)
  have HS := Lib.hid (HT.out.symm.trans (vD hit HXi.out))
  clear HT
  cases ha : aN x
  ·go_wp2_with (first | (go_at_call 52; refine qmm (fb _ _) ?_) | (go_at_call 53; refine qmm (aX _ _) ?_))
   go_ret
   exact ⟨aO (by rw [HS.out, if_pos ha]), rfl⟩
  cases c with
  | true =>
   go_wp2_with (first | (go_at_call 52; refine qmm (fb _ _) ?_) | (go_at_call 53; refine qmm (aX _ _) ?_))
   go_roundg (l.length - (i + 1))
   case measure => omega
   case rel => exact ⟨i + 1, !(x.toNat == 10), rfl, rfl, by omega, by rw [Fo], by go_num, Lib.hid (by rw [HS.out, if_neg (by simp [ha]), if_pos (by trivial)])⟩
  | false =>
   cases h35 : ((x.toNat : Int) == 35)
   rotate_left
   ·go_wp2_with (first | (go_at_call 52; refine qmm (fb _ _) ?_) | (go_at_call 53; refine qmm (aX _ _) ?_))
    go_roundg (l.length - (i + 1))
    case measure => omega
    case rel => exact ⟨i + 1, true, rfl, rfl, by omega, rfl, by go_num, Lib.hid (by rw [HS.out, if_neg (by simp [ha]), if_neg (by simp), if_pos (co (m := 35) h35)])⟩
   cases hw : bn x
   ·go_wp2_with (first | (go_at_call 52; refine qmm (fb _ _) ?_) | (go_at_call 53; refine qmm (aX _ _) ?_))
    go_ret
    exact ⟨aO (by rw [HS.out, if_neg (by simp [ha]), if_neg (by simp), if_neg (bB (m := 35) h35), if_pos hw]), rfl⟩
   ·go_wp2_with (first | (go_at_call 52; refine qmm (fb _ _) ?_) | (go_at_call 53; refine qmm (aX _ _) ?_))
    go_roundg (l.length - (i + 1))
    case measure => omega
    case rel => exact ⟨i + 1, false, rfl, rfl, by omega, rfl, by go_num, Lib.hid (by rw [HS.out, if_neg (by simp [ha]), if_neg (by simp), if_neg (bB (m := 35) h35), if_neg (by simp [hw])])⟩
end Go.Proofs.YtpnpdlnpikkeaaaGreat
namespace Go.Proofs.YtpnpdlnpikkeaaaGreat
open Go.RowKit
def dw (R : List Nat) (l : List (Nat × Ob)) : List (Nat × Ob) := l.filter fun p => iC p.1 R
def ung : Ob → Ob
 | .free => .gone
 | o => o
def ei (nx : Nat) (R : List Nat) (l : List (Nat × Ob)) : List (Nat × Ob) := (l.filter fun p => !iC p.1 R && Nat.blt p.1 nx).map fun p => (p.1, ung p.2)
theorem pf {α : Type} {R : List Nat} : ∀ (l : List (Nat × Ob)) (c : List (Nat × Ob) → α), rf R l c = c (dw R l)
 | [], c => rfl
 | (i, o) :: r, c => by
  simp only [rf]
  cases h : iC i R
  ·simp only; rw [pf r]; simp [dw, h]
  ·simp only; rw [pf r]; simp [dw, h]
theorem py {α : Type} {nx : Nat} {R : List Nat} : ∀ (l : List (Nat × Ob)) (c : List (Nat × Ob) → α), pu nx R l c = c (ei nx R l)
 | [], c => rfl
 | (i, o) :: r, c => by
  simp only [pu]
  cases h : (!iC i R && Nat.blt i nx)
  ·simp only; rw [py r]; simp only [ei, List.filter_cons, h]; rfl
  ·cases o <;> (simp only; rw [py r]; simp only [ei, List.filter_cons, h]; rfl)
theorem ol {R : List Nat} {i : Nat} : ∀ {l : List (Nat × Ob)}, an (dw R l) i = an l i ∨ (iC i R = false ∧ an (dw R l) i = .gone)
 | [] => .inl rfl
 | (j, o) :: r => by
  by_cases hj : j = i
  ·subst hj
   cases h : iC j R
   ·right
    refine ⟨rfl, ?_⟩
    have ih := ol (R := R) (i := j) (l := r)
    simp only [dw, List.filter_cons, h] at ih ⊢
    simp only [Bool.false_eq_true, if_false]
    clear ih
    have key : ∀ (l : List (Nat × Ob)), an (l.filter fun p => iC p.1 R) j = .gone := by
     intro l
     induction l with
     | nil => rfl
     | cons q t ih =>
      obtain ⟨k, o'⟩ := q
      simp only [List.filter_cons]
      split
      ·rename_i hk
       have : k ≠ j := fun e => by subst e; simp [h] at hk
       simp only [an, nbF this]; exact ih
      ·exact ih
    exact key r
   ·left
    simp only [dw, List.filter_cons, h, if_true, an, nbT]
  ·have ih := ol (R := R) (i := i) (l := r)
   simp only [dw, List.filter_cons]
   split
   ·simp only [an, nbF hj]; exact ih
   ·simp only [an, nbF hj]; exact ih
theorem uz {R : List Nat} {i : Nat} (h : iC i R = false) (l : List (Nat × Ob)) : an (dw R l) i = .gone := by
 induction l with
 | nil => rfl
 | cons q t ih =>
  obtain ⟨k, o'⟩ := q
  simp only [dw, List.filter_cons]
  split
  ·rename_i hk
   have : k ≠ i := fun e => by subst e; simp [h] at hk
   simp only [an, nbF this]; exact ih
  ·exact ih
theorem An {nx : Nat} {R : List Nat} {i : Nat} (l : List (Nat × Ob)) : an (ei nx R l) i = if (!iC i R && Nat.blt i nx) = true then ung (an l i) else .gone := by
 induction l with
 | nil => simp [ei, an, ung]
 | cons q t ih =>
  obtain ⟨k, o⟩ := q
  by_cases hk : k = i
  ·subst hk
   cases h : (!iC k R && Nat.blt k nx)
   ·rw [h] at ih
    simp only [ei, List.filter_cons, h, Bool.false_eq_true, if_false] at ih ⊢
    exact ih
   ·simp only [ei, List.filter_cons, h, if_true, List.map_cons, an, nbT]
  ·have e : an ((k, o) :: t) i = an t i := by simp only [an, nbF hk]
   rw [e, ← ih]
   simp only [ei, List.filter_cons]
   split
   ·simp only [List.map_cons, an, nbF hk]
   ·rfl
section
variable {P : Program} {T : Tab} {K : Ctx} {Q : Exit → Act → World → Prop} {s : List EI} {n : Nat} {F : Fm} {H : Hp}
theorem xt (lo : Nat) (H : Hp) (v : V) : ∃ v' H', (∀ (α : Type) (c : V → Hp → α), yD lo H v c = c v' H') ∧ H'.nx = H.nx ∧ (∀ K S w ρ x, HRel S w ρ H.get → Inv K S w ρ H.get → VRel S w ρ v x → ∃ S', HRel S' w ρ H'.get ∧ Inv K S' w ρ H'.get ∧ Up S S' w w ρ ρ ∧ VRel S' w ρ v' x) := by
 have triv : ∃ v' H', (∀ (α : Type) (c : V → Hp → α), c v H = c v' H') ∧ H'.nx = H.nx ∧ (∀ K S w ρ x, HRel S w ρ H.get → Inv K S w ρ H.get → VRel S w ρ v x → ∃ S', HRel S' w ρ H'.get ∧ Inv K S' w ρ H'.get ∧ Up S S' w w ρ ρ ∧ VRel S' w ρ v' x) := ⟨v, H, fun _ _ => rfl, rfl, fun K S w ρ x h1 h2 h3 => ⟨S, h1, h2, Up.refl, h3⟩⟩
 cases v with
 | sl id =>
  simp only [yD]
  split
  ·split
   ·rename_i e sz els ho
    split
    ·rename_i hpu
     refine ⟨.row sz els, ⟨H.nx, mq id H.es⟩, fun α c => by rw [qZ], rfl, fun K S w ρ x hr hi hx => ?_⟩
     have hg : (⟨H.nx, mq id H.es⟩ : Hp).get = cy H.get id .gone := by
      funext i
      unfold Hp.get
      by_cases hii : i = id
      ·subst hii
       rw [bK]
       simp only []
       have hlt : Nat.blt i H.nx = true := by
        unfold Hp.get at ho
        split at ho
        ·assumption
        ·cases ho
       rw [hlt]
       simp only [lW, if_true]
      ·rw [cq _ _ hii]
       simp only [lW, if_neg hii]
     refine ⟨_, by rw [hg]; exact (gh hr).1, by rw [hg]; exact hi.frz hr id, (gh hr).2, sC hr ho hpu hx⟩
    ·exact triv
   ·exact triv
  ·exact triv
 | _ => exact triv
theorem wY (lo : Nat) : ∀ (vs : List V) (H : Hp), ∃ vs' H', (∀ (α : Type) (c : List V → Hp → α), yB lo H vs c = c vs' H') ∧ H'.nx = H.nx ∧ (∀ K S w ρ xs, HRel S w ρ H.get → Inv K S w ρ H.get → LRel S w ρ vs xs → ∃ S', HRel S' w ρ H'.get ∧ Inv K S' w ρ H'.get ∧ Up S S' w w ρ ρ ∧ LRel S' w ρ vs' xs)
 | [], H => ⟨[], H, fun _ _ => rfl, rfl, fun K S w ρ x h1 h2 h3 => ⟨S, h1, h2, Up.refl, h3⟩⟩
 | v :: r, H => by
  obtain ⟨v', H1, e1, n1, k1⟩ := xt lo H v
  obtain ⟨r', H2, e2, n2, k2⟩ := wY lo r H1
  refine ⟨v' :: r', H2, fun α c => by simp only [yB, e1, e2], n2.trans n1, fun K S w ρ xs hr hi hx => ?_⟩
  simp only [LRel] at hx
  obtain ⟨x, ys, rfl, h1, h2⟩ := hx
  obtain ⟨S1, a1, a2, a3, a4⟩ := k1 K S w ρ x hr hi h1
  obtain ⟨S2, b1, b2, b3, b4⟩ := k2 K S1 w ρ ys a1 a2 (h2.up a3)
  exact ⟨S2, b1, b2, ⟨fun b hb => b3.s b (a3.s b hb), fun _ _ _ => rfl, fun _ _ h => h⟩, x, ys, rfl, a4.up b3, b4⟩
theorem Db (lo : Nat) (H : Hp) (v : V) : ∃ v' H', (∀ (α : Type) (c : V → Hp → α), Cd lo H v c = c v' H') ∧ H'.nx = H.nx ∧ (∀ K S w ρ x, HRel S w ρ H.get → Inv K S w ρ H.get → VRel S w ρ v x → ∃ S', HRel S' w ρ H'.get ∧ Inv K S' w ρ H'.get ∧ Up S S' w w ρ ρ ∧ VRel S' w ρ v' x) := by
 have h0 := xt lo H v
 cases v
 case agg cs =>
  obtain ⟨vs', H', e, hn, k⟩ := wY lo cs H
  refine ⟨.agg vs', H', fun α c => by simp only [Cd, e], hn, fun K S w ρ x hr hi hx => ?_⟩
  simp only [VRel] at hx
  obtain ⟨xs, rfl, h1⟩ := hx
  obtain ⟨S', a1, a2, a3, a4⟩ := k K S w ρ xs hr hi h1
  exact ⟨S', a1, a2, a3, by simp only [VRel]; exact ⟨xs, rfl, a4⟩⟩
 all_goals exact h0
theorem tK (lo : Nat) : ∀ (vs : List V) (H : Hp), ∃ vs' H', (∀ (α : Type) (c : List V → Hp → α), vu lo H vs c = c vs' H') ∧ H'.nx = H.nx ∧ (∀ K S w ρ xs, HRel S w ρ H.get → Inv K S w ρ H.get → LRel S w ρ vs xs → ∃ S', HRel S' w ρ H'.get ∧ Inv K S' w ρ H'.get ∧ Up S S' w w ρ ρ ∧ LRel S' w ρ vs' xs)
 | [], H => ⟨[], H, fun _ _ => rfl, rfl, fun K S w ρ x h1 h2 h3 => ⟨S, h1, h2, Up.refl, h3⟩⟩
 | v :: r, H => by
  obtain ⟨v', H1, e1, n1, k1⟩ := Db lo H v
  obtain ⟨r', H2, e2, n2, k2⟩ := tK lo r H1
  refine ⟨v' :: r', H2, fun α c => by simp only [vu, e1, e2], n2.trans n1, fun K S w ρ xs hr hi hx => ?_⟩
  simp only [LRel] at hx
  obtain ⟨x, ys, rfl, h1, h2⟩ := hx
  obtain ⟨S1, a1, a2, a3, a4⟩ := k1 K S w ρ x hr hi h1
  obtain ⟨S2, b1, b2, b3, b4⟩ := k2 K S1 w ρ ys a1 a2 (h2.up a3)
  exact ⟨S2, b1, b2, ⟨fun b hb => b3.s b (a3.s b hb), fun _ _ _ => rfl, fun _ _ h => h⟩, x, ys, rfl, a4.up b3, b4⟩
variable {all : Array Oper} {rest : List Oper} {o : Oper} {u : V} {H' : Hp}
theorem Ej {ok : Bool} (hw : bA F all o.guard = some true) (hx : mR P K o [] ok n F H u H') (k : Go P K Q (.ops all rest) s n (F.seto o.dst (some u)) H') : Go P K Q (.ops all (o :: rest)) s n F H := fun S w ρ a hr hi hF => by
 show wpList P all (dF P Q s) (o :: rest) a w
 unfold wpList
 rw [if_pos (cM hF hw)]
 exact .inl (hx S w ρ a hr hi hF _ _ fun x S' w' ρ' hr' hi' hu _ _ hv => k S' w' ρ' _ hr' hi' (dr (hF.up hu) o.dst hv))
variable {L : List Nat} {m left i : Nat} {listed : Array Bool}
theorem EG (hrd : Region.ready .any all listed = [i]) (hi : all[i]? = some o) (hw : bA F all o.guard = some true) (hx : mR P K o L ((listed.setIfInBounds i true).getD m false) n F H u H') (k : Go P K Q (.drw all L m left (listed.setIfInBounds i true)) s n (F.seto o.dst (some u)) H') : Go P K Q (.drw all L m (left + 1) listed) s n F H := fun S w ρ a hr hiv hF hs => by
 refine lT (S := S) hrd ?_
 unfold wpOp
 simp only [hi]
 rw [if_pos (cM hF hw)]
 exact .inl (hx S w ρ a hr hiv hF _ _ fun x S' w' ρ' hr' hi' hu hA hL hv => lj hu hA hL (k S' w' ρ' _ hr' hi' (dr (hF.up hu) o.dst hv) hs))
def iO (P : Program) (K : Ctx) (Q : Exit → Act → World → Prop) (n : Nat) : Rs → Prop
 | .ok e F H => ∀ S w ρ a, HRel S w ρ H.get → Inv K S w ρ H.get → FRel S w ρ a n F → Q (match e with | true => .ret | false => .normal) a w
 | .pt p s F H => Go P K Q p s n F H
 | .er _ _ => False
variable {ih : EP → List EI → Fm → Hp → Rs}
theorem xq {S : Nat → Prop} {w : World} {ρ : Nat → Option Value} {x : Value} : ∀ {rs : List V}, VRel S w ρ (me rs) x → ∃ ys, LRel S w ρ rs ys ∧ x = lx ys
 | [], hvx => by simp only [me, VRel] at hvx; obtain ⟨ys, rfl, h1⟩ := hvx; exact ⟨ys, h1, by simp only [LRel] at h1; subst h1; rfl⟩
 | [v], hvx => ⟨[x], ⟨x, [], rfl, hvx, rfl⟩, rfl⟩
 | v :: u :: r, hvx => by
  simp only [me, VRel] at hvx; obtain ⟨ys, rfl, h1⟩ := hvx
  refine ⟨ys, h1, ?_⟩
  simp only [LRel] at h1
  obtain ⟨_, _, rfl, _, _, _, rfl, _⟩ := h1
  rfl
theorem BF (hT : TabOk P T) (IH : ∀ p s F H K Q n, iO P K Q n (ih p s F H) → Go P K Q p s n F H) {X : Rs → Prop} (hX : ∀ n m, ¬ X (.er n m)) {keep ok : Bool} {vs : List V} {fid : FuncId} {fn : Func} {b : Code} {c : V → Hp → Rs} (hf : P.funcs[fid]? = some fn) (hb : fn.body = some b) (hl : Nat.ble vs.length fn.ntmps = true)
  (h : X (za T ih keep vs fn b H L ok c)) : ∃ u H' L', (L' = L ∨ ok = true) ∧ CallR P K fid vs H L' (fun u' H'' => u' = u ∧ H'' = H') ∧ X (c u H') := by
 unfold za at h
 simp only [] at h
 generalize hR : mB H 40 (pJ vs []) [] = R at h
 split at h
 ·rename_i hok
  rw [pf] at h
  split at h
  ·rename_i e F1 H1 hrun
   split at h
   ·rename_i rs hres
    split at h
    ·rename_i hnx
     have hnx' : H.nx ≤ H1.nx := Nat.le_of_ble_eq_true hnx
     -- the objects that the call gets
     have hin : ∀ i, (⟨H.nx, dw R H.es⟩ : Hp).get i = H.get i ∨ (⟨H.nx, dw R H.es⟩ : Hp).get i = .gone := fun i => by
      unfold Hp.get
      simp only []
      split
      ·rcases ol (R := R) (i := i) (l := H.es) with e | ⟨_, e⟩
       ·exact .inl e
       ·exact .inr e
      ·exact .inl rfl
     have hout : ∀ i, iC i R = false → Nat.blt i H.nx = true → (⟨H.nx, dw R H.es⟩ : Hp).get i = .gone := fun i hi hlt => by
      unfold Hp.get
      simp only [hlt]
      exact uz hi _
     -- the objects behind the call
     have key : ∀ (H2 : Hp) (es3 : List (Nat × Ob)), H2.nx = H1.nx → (∀ i, an es3 i = an H2.es i ∨ an es3 i = .gone) → ∀ i, ((⟨H2.nx, es3 ++ ei H.nx R H.es⟩ : Hp).get i = H2.get i ∨ (⟨H2.nx, es3 ++ ei H.nx R H.es⟩ : Hp).get i = .gone) ∨ ((⟨H2.nx, es3 ++ ei H.nx R H.es⟩ : Hp).get i = H.get i ∧ (⟨H.nx, dw R H.es⟩ : Hp).get i = .gone ∧ H.get i ≠ .free) := fun H2 es3 hn h3 i => by
      by_cases hlt2 : Nat.blt i H2.nx = true
      ·have e0 : (⟨H2.nx, es3 ++ ei H.nx R H.es⟩ : Hp).get i = an (es3 ++ ei H.nx R H.es) i := by unfold Hp.get; simp only [hlt2]
       have e2 : H2.get i = an H2.es i := by unfold Hp.get; rw [hlt2]
       rw [e0, e2]
       rcases vY es3 (ei H.nx R H.es) i with e | ⟨e', e⟩
       ·rw [e]
        rcases h3 i with h3 | h3
        ·exact .inl (.inl h3)
        ·exact .inl (.inr h3)
       ·rw [e]
        rw [An]
        cases hm : (!iC i R && Nat.blt i H.nx)
        ·exact .inl (.inr (by simp))
        ·have hm' := hm
         simp only [Bool.and_eq_true, Bool.not_eq_true'] at hm'
         have eH : H.get i = an H.es i := by unfold Hp.get; rw [hm'.2]
         rw [if_pos rfl]
         cases hf : an H.es i
         case free => exact .inl (.inr rfl)
         all_goals exact .inr ⟨by rw [eH, hf]; rfl, hout i hm'.1 hm'.2, by rw [eH, hf]; simp⟩
      ·have e0 : (⟨H2.nx, es3 ++ ei H.nx R H.es⟩ : Hp).get i = .free := by
        unfold Hp.get; simp only [Bool.not_eq_true] at hlt2; simp only [hlt2]
       have e2 : H2.get i = .free := by unfold Hp.get; simp only [Bool.not_eq_true] at hlt2; rw [hlt2]
       exact .inl (.inl (by rw [e0, e2]))
     -- what holds behind the call
     have fin : ∀ (H2 : Hp) (es3 : List (Nat × Ob)) (rs2 : List V), H2.nx = H1.nx → (∀ i, an es3 i = an H2.es i ∨ an es3 i = .gone) →
       (∀ K S w ρ xs, HRel S w ρ H1.get → Inv K S w ρ H1.get → LRel S w ρ rs xs → ∃ S', HRel S' w ρ H2.get ∧ Inv K S' w ρ H2.get ∧ Up S S' w w ρ ρ ∧ LRel S' w ρ rs2 xs) →
       ∃ L', (L' = L ∨ ok = true) ∧ CallR P K fid vs H L' (fun u' H'' => u' = me rs2 ∧ H'' = ⟨H2.nx, es3 ++ ei H.nx R H.es⟩) := fun H2 es3 rs2 hn h3 hfz => by
      have main : ∀ L', (∀ (S : Nat → Prop) (w : World) (ρ : Nat → Option Value), HRel S w ρ H.get → L' = [] ∨ (cG H.get L' = true ∧ ∀ id, id ∈ L' → (⟨H.nx, dw R H.es⟩ : Hp).get id = .gone)) → CallR P K fid vs H L' (fun u' H'' => u' = me rs2 ∧ H'' = ⟨H2.nx, es3 ++ ei H.nx R H.es⟩) := fun L' hL' S w ρ xs hr hi hx => by
       have hr1 := hr.drop (h' := (⟨H.nx, dw R H.es⟩ : Hp).get) hin
       have hi1 : Inv ⟨w, S, fun b => ∃ id, own ρ id ((⟨H.nx, dw R H.es⟩ : Hp).get id) b, ρ⟩ S w ρ (⟨H.nx, dw R H.es⟩ : Hp).get := ⟨ChgP.refl _ _, fun _ h => h, fun _ h => .inl h, fun id b hb => .inl ⟨id, hb⟩, fun _ _ h => h⟩
       refine ss hf hb hl hr1 hi1 hx (IH _ _ _ _ _ _ _ ?_)
       rw [hrun]
       intro S' w' ρ' a' hr' hi' hF'
       obtain ⟨rl, hrl⟩ : ∃ l : List ResultVar, fn.results = l.toArray := ⟨fn.results.toList, by simp⟩
       rw [hrl] at hres
       refine ret_go hT (rs := rl) (by cases e <;> simp) hrl hr' hF' (by simpa using hres) fun x hvx => ?_
       have hLR := xq hvx
       obtain ⟨ys, hys, rfl⟩ := hLR
       obtain ⟨S2, a1, a2, a3, a4⟩ := hfz _ S' w' ρ' ys hr' hi' hys
       obtain ⟨m1, m2, m3, m4⟩ := wg (h1 := (⟨H.nx, dw R H.es⟩ : Hp).get) (h2 := (⟨H2.nx, es3 ++ ei H.nx R H.es⟩ : Hp).get) hr hi hin a1 a2 (key H2 es3 hn h3)
       refine ⟨_, S2, ρ', _, _, rfl, ⟨rfl, rfl⟩, m1, m2, m3, xg a4, ?_⟩
       rcases hL' S w ρ hr with rfl | ⟨g1, g2⟩
       ·intro id hid; simp at hid
       ·exact m4 L' g1 g2
      rcases qQ hok with hok | hok
      ·simp only [Bool.and_eq_true] at hok
       refine ⟨L, .inl rfl, main L fun S w ρ hr => .inr ⟨hok.1, fun id hid => ?_⟩⟩
       have hmem := List.all_eq_true.1 hok.2 id hid
       simp only [Bool.not_eq_true'] at hmem
       by_cases hlt : Nat.blt id H.nx = true
       ·exact hout id hmem hlt
       ·exfalso
        have hfree : H.get id = .free := by unfold Hp.get; simp only [Bool.not_eq_true] at hlt; rw [hlt]
        have hnl : ∀ (l : List Nat), id ∈ l → cG H.get l = true → False := by
         intro l
         induction l with
         | nil => intro h; simp at h
         | cons j t ih =>
          intro hm hl
          simp only [cG] at hl
          rcases List.mem_cons.1 hm with e | e
          ·subst e; rw [hfree] at hl; cases hl
          ·split at hl
           ·exact ih e hl
           ·exact ih e hl
           ·cases hl
        exact hnl L hid hok.1
      ·exact ⟨[], .inr hok, main [] fun _ _ _ _ => .inl rfl⟩
     split at h
     ·rw [py] at h
      obtain ⟨L', g1, g2⟩ := fin H1 H1.es rs rfl (fun i => .inl rfl) (fun K S w ρ xs h1 h2 h3 => ⟨S, h1, h2, Up.refl, h3⟩)
      exact ⟨_, _, L', g1, g2, h⟩
     ·obtain ⟨rs2, H2, e1, e2, e3⟩ := tK H.nx rs H1
      rw [e1] at h
      rw [pf, py] at h
      obtain ⟨L', g1, g2⟩ := fin H2 (dw _ H2.es) rs2 e2 (fun i => by
       rcases ol (R := mB H2 60 (pJ rs2 R) []) (i := i) (l := H2.es) with e | ⟨_, e⟩
       ·exact .inl e
       ·exact .inr e) e3
      exact ⟨_, _, L', g1, g2, h⟩
    ·exact absurd h (hX _ _)
   ·exact absurd h (hX _ _)
  ·exact absurd h (hX _ _)
  ·exact absurd h (hX _ _)
 ·exact absurd h (hX _ _)
theorem ng (hT : TabOk P T) (IH : ∀ p s F H K Q n, iO P K Q n (ih p s F H) → Go P K Q p s n F H) {X : Rs → Prop} (hX : ∀ n m, ¬ X (.er n m)) {ok : Bool} {c : Option V → Hp → Rs} (h : X (pw T ih F H L ok o c)) : ∃ u H', mR P K o L ok n F H u H' ∧ X (c (some u) H') := by
 unfold pw at h
 split at h
 ·rename_i v hv
  exact ⟨v, H, AI hT hv, h⟩
 ·rw [dg] at h
  split at h
  ·rename_i v ed hv
   split at h
   ·rename_i hc
    rw [Hp.ap_eq] at h
    refine ⟨_, _, nr hT hv hc, ?_⟩
    cases v with
    | none => exact h
    | some v => exact h
   ·exact absurd h (hX _ _)
  ·split at h
   ·rename_i fid args tys hop
    split at h
    ·rename_i vs hvs
     split at h
     ·rename_i v hn
      obtain ⟨he, hnat⟩ := hT.nat _ _ _ hn
      refine ⟨v, H, my (L' := L) he (by rw [hop]) hvs (fun S w ρ xs hr hi hx => ?_) (.inl rfl), h⟩
      obtain ⟨x, h1, h2⟩ := hnat S w ρ xs hx
      refine h2.mono fun e w' hR => ?_
      obtain ⟨rfl, rfl⟩ := hR
      exact ⟨x, S, ρ, v, H, rfl, ⟨rfl, rfl⟩, hr, hi, Up.refl, h1, mb⟩
     ·split at h
      ·rename_i fn hfn
       obtain ⟨hf, he⟩ := hT.fn _ _ hfn
       split at h
       ·rename_i b hb
        split at h
        ·rename_i hl
         obtain ⟨u, H', L', g1, g2, g3⟩ := BF (K := K) hT IH hX hf hb hl h
         exact ⟨u, H', my he (by rw [hop]) hvs g2 g1, g3⟩
        ·exact absurd h (hX _ _)
       ·exact absurd h (hX _ _)
      ·exact absurd h (hX _ _)
    ·exact absurd h (hX _ _)
   ·exact absurd h (hX _ _)
theorem zy {l : List Nat} {j : Nat} (h : vO l j = true) : l = [j] := by
 unfold vO at h
 split at h
 ·rw [Nat.eq_of_beq_eq_true h]
 ·cases h
theorem uZ (hT : TabOk P T) (IH : ∀ p s F H K Q n, iO P K Q n (ih p s F H) → Go P K Q p s n F H) {i : Nat} {ps : List (Nat × Operand)} {vs : List (Nat × V)} {v : V} (hp : om T all i vs = some (o, ps, v)) : ∀ (left : Nat) (listed : Array Bool) (F : Fm) (H : Hp), iO P K Q n (uP T ih all L m i o ps v s left listed F H) → GoP P K Q all L m left listed s n F H i o ps vs v
 | left, listed, F, H, h => by
  unfold uP at h
  split at h
  ·rename_i hl
   split at h
   ·rename_i x hrd
    split at h
    ·rename_i hb
     have := Nat.eq_of_beq_eq_true hb
     subst this
     rw [Fm.puto_eq] at h
     exact DA hT hp hrd hl (IH _ _ _ _ _ _ _ h)
    ·exact h.elim
   ·rename_i x y hrd
    cases left with
    | zero => exact h.elim
    | succ left =>
     simp only [dg] at h
     generalize hj : yU x y i = j at h
     unfold yU at hj
     split at h
     ·exact h.elim
     ·rename_i hji
      have hne : j ≠ i := Nat.ne_of_beq_eq_false hji
      split at h
      ·rename_i oj hoj
       split at h
       ·rename_i hc
        simp only [Bool.and_eq_true] at hc
        obtain ⟨⟨⟨hc1, hc2⟩, hc3⟩, hc4⟩ := hc
        split at h
        ·rename_i hw
         obtain ⟨u, H', hx, hk⟩ := ng (K := K) (n := n) hT IH (X := iO P K Q n) (fun _ _ h => h) h
         rw [Fm.puto_eq] at hk
         have ih2 := uZ hT IH hp left _ _ _ hk
         have hpair : (match Region.ready .any all listed with | [x, y] => (Nat.beq x i && Nat.beq y j) || (Nat.beq x j && Nat.beq y i) | _ => false) = true := by
          rw [hrd]
          simp only []
          cases hx1 : Nat.beq x i
          ·rw [hx1] at hj
           cases hy1 : Nat.beq y i
           ·rw [hy1] at hj; exact absurd hj.symm hne
           ·rw [hy1] at hj; simp only at hj; subst hj; simp
          ·rw [hx1] at hj; simp only at hj; subst hj; simp
         refine Bl hT hp hoj hpair (zy hc1) hl (fun t ht => ?_) hc2 hc3 (Array.setIfInBounds_comm _ _ (Ne.symm hne)) (Post := fun u' H'' => u' = u ∧ H'' = H') (fun S w ρ a hr hi hF K2 hK2 => ?_) (fun u' H'' hP => by obtain ⟨rfl, rfl⟩ := hP; exact ih2)
         ·rw [ht] at hc4
          simp only [Option.isNone_iff_eq_none] at hc4
          exact hc4
         ·unfold wpOp
          simp only [hoj]
          rw [if_pos (cM hF hw)]
          refine .inl (hx S w ρ a hr hi hF _ _ fun x S' w' ρ' hr' hi' hu hA hL hv => hK2 x S' w' ρ' u H' ⟨rfl, rfl⟩ hr' hi' hu hA (hL.imp id fun h => ?_) hv)
          simpa only [Bool.and_eq_true] using h
        ·exact h.elim
       ·exact h.elim
      ·exact h.elim
   ·exact h.elim
  ·exact h.elim
theorem CY (hT : TabOk P T) (IH : ∀ p s F H K Q n, iO P K Q n (ih p s F H) → Go P K Q p s n F H) {i j : Nat} {left : Nat} {listed : Array Bool} (hrd : Region.ready .any all listed = [i, j]) (h : iO P K Q n (Bw T ih all L m left i j listed s F H)) : Go P K Q (.drw all L m (left + 1) listed) s n F H := by
 unfold Bw at h
 split at h
 ·rename_i oi hoi
  split at h
  ·rename_i oj hoj
   split at h
   ·rename_i hwi
    split at h
    ·rename_i hwj
     obtain ⟨ui, Hi, xi, hk⟩ := ng (K := K) (n := n) hT IH (X := iO P K Q n) (fun _ _ h => h) h
     rw [Fm.puto_eq] at hk
     split at hk
     ·rename_i F1 H1 e1
      obtain ⟨uj, Hj, xj, hk2⟩ := ng (K := K) (n := n) hT IH (X := iO P K Q n) (fun _ _ h => h) hk
      rw [Fm.puto_eq] at hk2
      split at hk2
      ·rename_i F2 H2 e2
       split at hk2
       ·rename_i hal
        have c : Go P K Q (.ex .normal) s n F1 H1 := IH _ _ _ _ _ _ _ hk2
        intro S w ρ a hr hi hF
        have hpin : ∀ id x, K.pin id = some x → id < H.nx := fun id x hx => Decidable.byContradiction fun hn => by
         have h1 := hi.pin id x hx
         have h2 := hr.ob id
         have h3 : H.get id = .free := by
          unfold Hp.get
          have : Nat.blt id H.nx = false := by
           cases hb : Nat.blt id H.nx
           ·rfl
           ·exact absurd (by simpa [Nat.blt_eq] using hb) hn
          simp only [this]
         rw [h3] at h2
         have h4 : ρ id = none := h2
         rw [h4] at h1; cases h1
        have g1 : Go P K (dF P Q s) (.drw all L m left (listed.setIfInBounds i true)) [] n (F.seto oi.dst (some ui)) Hi := IH _ _ _ _ _ _ _ (by rw [e1]; exact fun S w ρ a hr hi hF => c S w ρ a hr hi hF)
        have g2 : Go P K (dF P Q s) (.drw all L m left (listed.setIfInBounds j true)) [] n (F.seto oj.dst (some uj)) Hj := IH _ _ _ _ _ _ _ (by rw [e2]; exact fun S w ρ a hr hi hF => go_alike hal hpin c S w ρ a hr hi hF)
        exact nC (by rw [hrd]; simp) hoi hoj hwi hwj xi xj g1 g2 S w ρ a hr hi hF
       ·exact hk2.elim
      ·exact hk2.elim
      ·exact hk2.elim
     ·exact hk.elim
     ·exact hk.elim
    ·exact h.elim
   ·exact h.elim
  ·exact h.elim
 ·exact h.elim
theorem oh : ∀ {R : List Nat} {i : Nat} {ps : List (Nat × Operand)} {v : V}, oL T F all R = some (i, o, ps, v) → ∃ vs, kC F ps = some vs ∧ om T all i vs = some (o, ps, v)
 | [], _, _, _, h => by cases h
 | j :: r, i, ps, v, h => by
  unfold oL at h
  split at h
  ·rename_i hj
   split at h
   ·rename_i vs hvs
    split at h
    ·rename_i o' ps' v' hpb
     simp only [Option.some.injEq, Prod.mk.injEq] at h
     obtain ⟨rfl, rfl, rfl, rfl⟩ := h
     refine ⟨vs, ?_, hpb⟩
     have := hpb
     unfold om at this
     rw [hj] at this
     simp only at this
     repeat' (split at this)
     all_goals first
      | (cases this; done)
      | (simp only [dg, Option.some.injEq, Prod.mk.injEq] at this; obtain ⟨_, rfl, _⟩ := this; exact hvs)
    ·exact oh h
   ·exact oh h
  ·exact oh h
theorem De (hT : TabOk P T) (hm : P.follows .mixedOrders = true) (IH : ∀ p s F H K Q n, iO P K Q n (ih p s F H) → Go P K Q p s n F H) : ∀ (p : EP) (s : List EI) (F : Fm) (H : Hp), iO P K Q n (step T ih p s F H) → Go P K Q p s n F H
 | .code c, s, F, H, h => by
  replace h : iO P K Q n (yj T ih c s F H) := h
  unfold yj at h
  split at h
  ·exact Ar (IH _ _ _ _ _ _ _ h)
  ·exact wa (IH _ _ _ _ _ _ _ h)
  ·exact xz (IH _ _ _ _ _ _ _ h)
  ·exact go_ret (IH _ _ _ _ _ _ _ h)
  ·exact xx (IH _ _ _ _ _ _ _ h)
  ·exact Bm (IH _ _ _ _ _ _ _ h)
  ·exact BI (IH _ _ _ _ _ _ _ h)
  ·exact go_loop 1000000 (IH _ _ _ _ _ _ _ h)
  ·split at h
   ·exact vT ‹_› (IH _ _ _ _ _ _ _ h)
   ·exact wm ‹_› (IH _ _ _ _ _ _ _ h)
   ·exact h.elim
  ·exact go_region (IH _ _ _ _ _ _ _ h)
  ·split at h
   ·rename_i hs
    simp only [cw, dg] at h
    exact xl _ _ _ rfl hm hs (IH _ _ _ _ _ _ _ h)
   ·exact h.elim
  ·exact h.elim
 | .ops all rest, s, F, H, h => by
  replace h : iO P K Q n (uW T ih all rest s F H) := h
  unfold uW at h
  split at h
  ·exact AA (IH _ _ _ _ _ _ _ h)
  ·split at h
   ·rw [Fm.puto_eq] at h
    exact Am ‹_› (IH _ _ _ _ _ _ _ h)
   ·obtain ⟨u, H', hx, hk⟩ := ng (K := K) (n := n) hT IH (X := iO P K Q n) (fun _ _ h => h) h
    rw [Fm.puto_eq] at hk
    exact Ej ‹_› hx (IH _ _ _ _ _ _ _ hk)
   ·exact h.elim
 | .ex e, s, F, H, h => by
  replace h : iO P K Q n (yC ih e s F H) := h
  unfold yC at h
  split at h
  ·split at h
   ·exact fun S w ρ a hr hi hF => h S w ρ a hr hi hF
   ·exact fun S w ρ a hr hi hF => h S w ρ a hr hi hF
   ·exact h.elim
  ·split at h
   ·exact xO (IH _ _ _ _ _ _ _ h)
   ·exact vp (IH _ _ _ _ _ _ _ h)
   ·exact vy (IH _ _ _ _ _ _ _ h)
   ·exact h.elim
  ·split at h
   ·split at h
    ·exact h.elim
    ·exact go_xloop (IH _ _ _ _ _ _ _ h)
   ·exact go_xloopE (IH _ _ _ _ _ _ _ h)
   ·exact go_xloopR (IH _ _ _ _ _ _ _ h)
   ·exact h.elim
  ·split at h
   ·exact Bo (IH _ _ _ _ _ _ _ h)
   ·exact Bt (IH _ _ _ _ _ _ _ h)
   ·exact Bn (IH _ _ _ _ _ _ _ h)
   ·exact h.elim
  ·split at h
   ·exact wn (IH _ _ _ _ _ _ _ h)
   ·split at h
    ·exact vW ‹_› (IH _ _ _ _ _ _ _ h)
    ·exact vo ‹_› (IH _ _ _ _ _ _ _ h)
   ·exact wj (IH _ _ _ _ _ _ _ h)
   ·exact h.elim
 | .drw all L m left listed, s, F, H, h => by
  replace h : iO P K Q n (yO T ih all L m left listed s F H) := h
  unfold yO at h
  split at h
  ·exact vR ‹_› (IH _ _ _ _ _ _ _ h)
  ·rename_i i R hrd
   cases left with
   | zero => exact h.elim
   | succ left =>
    simp only [] at h
    split at h
    ·split at h
     ·rename_i o ho
      split at h
      ·rw [Fm.puto_eq] at h
       exact go_d1S hrd ho ‹_› (IH _ _ _ _ _ _ _ h)
      ·obtain ⟨u, H', hx, hk⟩ := ng (K := K) (n := n) hT IH (X := iO P K Q n) (fun _ _ h => h) h
       rw [Fm.puto_eq] at hk
       exact EG hrd ho ‹_› hx (IH _ _ _ _ _ _ _ hk)
      ·exact h.elim
     ·exact h.elim
    ·split at h
     ·split at h
      ·rename_i o ho
       split at h
       ·rename_i hc
        simp only [Bool.and_eq_true, Bool.not_eq_true'] at hc
        obtain ⟨⟨hc1, hc2⟩, hc3⟩ := hc
        split at h
        ·rw [Fm.puto_eq] at h
         exact yV hc3 ho hc2 hc1 ‹_› (IH _ _ _ _ _ _ _ h)
        ·rename_i hw
         split at h
         ·rename_i v hv
          rw [Fm.puto_eq] at h
          exact Cz hT hc3 ho hc2 hc1 hw hv (IH _ _ _ _ _ _ _ h)
         ·split at h
          ·rename_i id hid
           split at h
           ·rename_i hL
            simp only [Bool.and_eq_true, Bool.not_eq_true'] at hL
            obtain ⟨⟨hL1, hL2⟩, hL3⟩ := hL
            split at h
            ·rename_i v ed hv
             rw [Fm.puto_eq] at h
             exact Cu hT hc3 hL2 hL3 ho hc2 hc1 hw hid hL1 hv (IH _ _ _ _ _ _ _ h)
            ·exact h.elim
           ·exact h.elim
          ·exact h.elim
        ·exact h.elim
       ·exact h.elim
      ·exact h.elim
     ·split at h
      ·rename_i i' o ps v hpo
       rw [Fm.puto_eq] at h
       obtain ⟨vs, g1, g2⟩ := oh hpo
       exact AE g1 (uZ hT IH g2 left listed _ _ h)
      ·split at h
       ·exact CY hT IH hrd h
       ·exact h.elim
theorem zq (hT : TabOk P T) (hm : P.follows .mixedOrders = true) : ∀ (k : Nat) (p : EP) (s : List EI) (F : Fm) (H : Hp) (K : Ctx) (Q : Exit → Act → World → Prop) (n : Nat), iO P K Q n (run T k p s F H) → Go P K Q p s n F H
 | 0, p, s, F, H, K, Q, n, h => h
 | k + 1, p, s, F, H, K, Q, n, h => De hT hm (fun p s F H K Q n h => zq hT hm k p s F H K Q n h) p s F H h
def BP (T : Tab) (k : Nat) (fid : FuncId) (vs : List V) (H : Hp) : Option (List V × Hp) := match T.fn fid with
 |some fn => match fn.body with
  |some b => match Nat.ble vs.length fn.ntmps with
   |true => match run T k (.code b) [] (kL fn.ntmps vs) H with
    |.ok _ F1 H1 => match pB T H1.get F1 fn.results.toList with
     | some rs => some (rs, H1)
     | none => none
    | _ => none
   | false => none
  | none => none
 | none => none
theorem Di (hT : TabOk P T) (hm : P.follows .mixedOrders = true) {k : Nat} {fid : FuncId} {vs rs : List V} {H H1 : Hp} (h : BP T k fid vs H = some (rs, H1)) {S : Nat → Prop} {w : World} {ρ : Nat → Option Value} {xs : List Value} (hr : HRel S w ρ H.get) (hx : LRel S w ρ vs xs) : cF P fid = true ∧
  Calls P fid xs.toArray w fun e w' => ∃ S' ρ' ys, e = .returned (lx ys) ∧ HRel S' w' ρ' H1.get ∧ Inv ⟨w, S, fun b => ∃ id, own ρ id (H.get id) b, ρ⟩ S' w' ρ' H1.get ∧ LRel S' w' ρ' rs ys := by
 unfold BP at h
 split at h
 ·rename_i fn hfn
  obtain ⟨hf, he⟩ := hT.fn _ _ hfn
  split at h
  ·rename_i b hb
   split at h
   ·rename_i hl
    split at h
    ·rename_i e F1 H1' hrun
     split at h
     ·rename_i rs' hres
      simp only [Option.some.injEq, Prod.mk.injEq] at h
      obtain ⟨rfl, rfl⟩ := h
      refine ⟨he, ?_⟩
      have hi1 : Inv ⟨w, S, fun b => ∃ id, own ρ id (H.get id) b, ρ⟩ S w ρ H.get := ⟨ChgP.refl _ _, fun _ h => h, fun _ h => .inl h, fun id b hb => .inl ⟨id, hb⟩, fun _ _ h => h⟩
      refine ss hf hb hl hr hi1 hx (zq hT hm k _ _ _ _ _ _ _ ?_)
      rw [hrun]
      intro S' w' ρ' a' hr' hi' hF'
      obtain ⟨rl, hrl⟩ : ∃ l : List ResultVar, fn.results = l.toArray := ⟨fn.results.toList, by simp⟩
      rw [hrl] at hres
      refine ret_go hT (rs := rl) (by cases e <;> simp) hrl hr' hF' (by simpa using hres) fun x hvx => ?_
      have hLR := xq hvx
      obtain ⟨ys, hys, rfl⟩ := hLR
      exact ⟨S', ρ', ys, rfl, hr', hi', hys⟩
     ·cases h
    ·cases h
   ·cases h
  ·cases h
 ·cases h
end
end Go.Proofs.YtpnpdlnpikkeaaaGreat
namespace Go.Proofs.YtpnpdlnpikkeaaaGreat
open Go.RowKit
set_option maxRecDepth 100000
set_option maxHeartbeats 1000000 in
theorem Df (s : ByteArray) (c : Int) (w : World) : Calls Tryz.prog 106 #[.string s, .int .u8 c] w fun e w' => e = .returned (.int .i64 (Lib.indexByte s.data.toList c.toNat.toUInt8)) ∧ w = w' := by
 go_enter Tryz.func106, Tryz.ntmps106
 go_wp2
 rw [run_callFunc_extern Tryz.func118 (by kernel_rfl) (by kernel_rfl) (by kernel_rfl) (e := Extern.BytealgIndexByte.indexByte) (by kernel_rfl), Lib.run_indexByteString]
 simp only [Result.andThen]
 rw [Oper.upon_value]
 go_wp2
 go_ret
 exact ⟨rfl, rfl⟩
theorem yT (s : ByteArray) (c : Int) (w : World) : Calls Tryz.prog 88 #[.string s, .int .u8 c] w fun e w' => e = .returned (.int .i64 (Lib.indexByte s.data.toList c.toNat.toUInt8)) ∧ w = w' := by
 go_enter Tryz.func88, Tryz.ntmps88
 go_wp2_with (go_at_call 106; refine qmm (Df _ _ _) ?_)
 go_ret
 exact ⟨rfl, rfl⟩
end Go.Proofs.YtpnpdlnpikkeaaaGreat
namespace Go.Proofs.YtpnpdlnpikkeaaaGreat
open Go.RowKit Lx Sx
set_option maxRecDepth 100000
def qW : List (List UInt8) → List V → Bool
 | [], [] => true
 | s :: r, .str l :: q => lEq s l && qW r q
 | _, _ => false
def sK (ls : List (List UInt8)) : V → Bool
 | .nils => ls.isEmpty
 | .row sz els => Nat.beq sz 1 && qW ls els
 | _ => false
mutual
def treeB : Tree → V → Bool
 |.node k s ls ks, v => match v with
  |.agg [.int .i64 k', .str s', l, r] => iEq k k' && lEq s s' && sK ls l && (match r with
   | .nils => ks.isEmpty
   | .row sz els => Nat.beq sz 4 && kidsB ks els
   | _ => false)
  | _ => false
def kidsB : List Tree → List V → Bool
 |[], vs => match vs with
  | [] => true
  | _ => false
 |t :: r, vs => match vs with
  | v :: q => treeB t v && kidsB r q
  | [] => false
end
section
variable {S : Nat → Prop} {w : World}
theorem vr {ρ : Nat → Option Value} : ∀ {ls : List (List UInt8)} {els : List V} {xs : List Value}, qW ls els = true → CRel S w ρ 1 els xs → els.length = ls.length ∧ xs = ls.map aS
 | [], [], xs, _, hc => by simp only [CRel] at hc; subst hc; exact ⟨rfl, rfl⟩
 | s :: r, v :: q, xs, hb, hc => by
  cases v <;> simp only [qW] at hb <;> first | (cases hb; done) | skip
  rename_i l
  simp only [Bool.and_eq_true] at hb
  have hl := hb.1
  rw [mw] at hl
  simp only [beq_iff_eq] at hl
  subst hl
  simp only [CRel] at hc
  obtain ⟨x, ys, rfl, _, h3, h4⟩ := hc
  simp only [VRel] at h3
  subst h3
  obtain ⟨h5, h6⟩ := vr hb.2 h4
  exact ⟨by simp [h5], by simp [h6, Value.cells]⟩
 | [], _ :: _, _, hb, _ => by cases hb
 | _ :: _, [], _, hb, _ => by cases hb
theorem zA {ρ : Nat → Option Value} {ls : List (List UInt8)} {v : V} {x : Value} (hb : sK ls v = true) (hx : VRel S w ρ v x) : ∃ A m, x = .slice A ls.length m ∧ ls.length ≤ m ∧ m ≤ maxLen ∧ RowIn S w 1 A ls.length (ls.map aS) := by
 cases v <;> simp only [sK] at hb <;> first | (cases hb; done) | skip
 ·simp only [List.isEmpty_iff] at hb
  subst hb
  simp only [VRel] at hx; subst hx
  exact ⟨none, 0, rfl, Nat.le_refl _, by decide, RowIn.none_⟩
 ·rename_i sz els
  simp only [Bool.and_eq_true, Nat.beq_eq] at hb
  obtain ⟨rfl, hb⟩ := hb
  simp only [VRel] at hx
  obtain ⟨A, c, xs, rfl, h3, h4, h5, h6⟩ := hx
  obtain ⟨h7, rfl⟩ := vr hb h5
  rw [h7] at h3 h6 ⊢
  exact ⟨A, c, rfl, h3, h4, h6⟩
mutual
theorem treeB_ok {ρ : Nat → Option Value} : ∀ {t : Tree} {v : V} {x : Value}, treeB t v = true → VRel S w ρ v x → ∃ c, x = .agg c.toArray ∧ TreeIs S w t c
 | .node k s ls ks, v, x, hb, hx => by
  unfold treeB at hb
  split at hb
  ·rename_i k' s' l r
   simp only [Bool.and_eq_true] at hb
   obtain ⟨⟨⟨hb1, hb2⟩, hb3⟩, hb4⟩ := hb
   rw [oV] at hb1
   rw [mw] at hb2
   simp only [beq_iff_eq] at hb1 hb2
   subst hb1 hb2
   simp only [VRel] at hx
   obtain ⟨xs, rfl, hl⟩ := hx
   simp only [LRel] at hl
   obtain ⟨x0, _, rfl, h0, x1, _, rfl, h1, x2, _, rfl, h2, x3, _, rfl, h3, rfl⟩ := hl
   simp only [VRel] at h0 h1
   subst h0 h1
   obtain ⟨A, m, rfl, g1, g2, g3⟩ := zA hb3 h2
   have kk : ∃ B n, x3 = .slice B ks.length n ∧ ks.length ≤ n ∧ n ≤ maxLen ∧ ∃ cs, KidsAre S w ks cs ∧ RowIn S w 4 B ks.length cs := by
    split at hb4
    ·simp only [List.isEmpty_iff] at hb4
     subst hb4
     simp only [VRel] at h3; subst h3
     exact ⟨none, 0, rfl, Nat.le_refl _, by decide, [], by simp only [KidsAre], RowIn.none_⟩
    ·rename_i sz els
     simp only [Bool.and_eq_true, Nat.beq_eq] at hb4
     obtain ⟨rfl, hb4⟩ := hb4
     simp only [VRel] at h3
     obtain ⟨B, c, ys, rfl, q3, q4, q5, q6⟩ := h3
     obtain ⟨q7, q8⟩ := kidsB_ok hb4 q5
     rw [q7] at q3 q6 ⊢
     exact ⟨B, c, rfl, q3, q4, ys, q8, q6⟩
    ·cases hb4
   obtain ⟨B, n, rfl, k1, k2, cs, k3, k4⟩ := kk
   exact ⟨_, rfl, CH g1 g2 k1 k2 g3 k3 k4⟩
  ·cases hb
theorem kidsB_ok {ρ : Nat → Option Value} : ∀ {ts : List Tree} {vs : List V} {xs : List Value}, kidsB ts vs = true → CRel S w ρ 4 vs xs → vs.length = ts.length ∧ KidsAre S w ts xs
 | [], vs, xs, hb, hc => by
  unfold kidsB at hb
  split at hb
  ·simp only [CRel] at hc; subst hc; exact ⟨rfl, by simp only [KidsAre]⟩
  ·cases hb
 | t :: r, vs, xs, hb, hc => by
  unfold kidsB at hb
  split at hb
  ·rename_i v q
   simp only [Bool.and_eq_true] at hb
   simp only [CRel] at hc
   obtain ⟨x, ys, rfl, _, h3, h4⟩ := hc
   obtain ⟨c, rfl, hT⟩ := treeB_ok hb.1 h3
   obtain ⟨h5, h6⟩ := kidsB_ok hb.2 h4
   exact ⟨by simp [h5], by simp only [KidsAre]; exact ⟨c, ys, by simp [Value.cells], hT, h6⟩⟩
  ·cases hb
end
end
def vP (T : Tab) (k : Nat) (fid : FuncId) (vs : List V) : Option (List V) := match BP T k fid vs ⟨0, []⟩ with
 | some (rs, H1) => vu 0 H1 rs fun rs' _ => some rs'
 | none => none
theorem oz (i : Nat) : (⟨0, []⟩ : Hp).get i = .free := by
 unfold Hp.get
 have : Nat.blt i 0 = false := by cases i <;> rfl
 simp only [this]
theorem Cj (w : World) : HRel (fun _ => False) w (fun _ => none) (⟨0, []⟩ : Hp).get :=
 ⟨fun i => by rw [oz]; rfl, fun i b hb => by rw [oz] at hb; exact hb.elim, fun i j b hb _ => by rw [oz] at hb; exact hb.elim, fun _ h => h.elim⟩
theorem CZ {P : Program} {T : Tab} (hT : TabOk P T) (hm : P.follows .mixedOrders = true) {k : Nat} {fid : FuncId} {vs rs : List V} (h : vP T k fid vs = some rs) {w : World} {xs : List Value} (hx : LRel (fun _ => False) w (fun _ => none) vs xs) :
  Calls P fid xs.toArray w fun e w' => ∃ S' ρ' ys, e = .returned (lx ys) ∧ (∀ b, S' b → w.heap.size ≤ b) ∧ Chg [] w w' ∧ LRel S' w' ρ' rs ys := by
 unfold vP at h
 split at h
 ·rename_i rs1 H1 hrun
  obtain ⟨rs2, H2, e1, _, e3⟩ := tK 0 rs1 H1
  rw [e1] at h
  injection h with h; subst h
  have hr0 := Cj w
  refine (Di hT hm hrun hr0 hx).2.mono fun e w' hR => ?_
  obtain ⟨S', ρ', ys, rfl, hr, hi, hl⟩ := hR
  obtain ⟨S2, a1, a2, a3, a4⟩ := e3 _ S' w' ρ' ys hr hi hl
  have hno : ∀ b, ¬ ∃ id, own (fun _ => none) id ((⟨0, []⟩ : Hp).get id) b := fun b ⟨id, hb⟩ => by rw [oz] at hb; exact hb
  refine ⟨S2, ρ', ys, rfl, fun b hb => ?_, ⟨hi.chg.os, hi.chg.tape, hi.chg.output, hi.chg.size, fun b hb _ => hi.chg.block b hb (hno b)⟩, a4⟩
  rcases a2.s1 b hb with h | h | h
  ·exact h.elim
  ·exact absurd h (hno b)
  ·exact h
 ·cases h
def BO (fid : FuncId) (vs : List V) : Option V := match Nat.beq fid 88 with
 |true => match vs with
  | [.str s, .int .u8 (.ofNat c)] => yl (Lib.indexByte s c.toUInt8) fun n => some (.int .i64 n)
  | _ => none
 | false => none
noncomputable def yZ : Tab := ⟨true, mm tyL, mm fnL, BO, fun f => Nat.beq f 32⟩
theorem Dz : TabOk Tryz.prog yZ := by
 refine ⟨zO, Ea, fun i vs v hv => ?_⟩
 replace hv : BO i vs = some v := hv
 unfold BO at hv
 split at hv
 ·rename_i hb
  have := Nat.eq_of_beq_eq_true hb
  subst this
  split at hv
  ·rename_i s c
   rw [wU] at hv
   injection hv with hv; subst hv
   refine ⟨by kernel_rfl, fun S w ρ xs hx => ?_⟩
   simp only [LRel] at hx
   obtain ⟨x0, _, rfl, h0, x1, _, rfl, h1, rfl⟩ := hx
   simp only [VRel] at h0 h1
   subst h0 h1
   exact ⟨_, by simp only [VRel]; rfl, yT _ _ _⟩
  ·cases hv
 ·cases hv
def qU (t : Tree) : Option (List V) → Bool
 | some [v, .int .i64 a, .int .i64 e] => treeB t v && iEq a 0 && iEq e 0
 | _ => false
theorem zx {k : Nat} {l : List UInt8} {t : Tree} (h : qU t (vP yZ k 18 [.str l]) = true) {w : World} : Calls Tryz.prog 18 [aS l].toArray w fun e w' => ∃ c0 c1 c2 c3, e = .returned (.tuple #[.agg #[c0, c1, c2, c3], .int .i64 0, .int .i64 0]) ∧ TreeIs (fun b => w.heap.size ≤ b) w' t [c0, c1, c2, c3] ∧ Chg [] w w' := by
 unfold qU at h
 split at h
 ·rename_i v a e hr
  simp only [Bool.and_eq_true, oV, beq_iff_eq] at h
  obtain ⟨⟨h1, rfl⟩, rfl⟩ := h
  refine (CZ Dz (by kernel_rfl) hr (xs := [aS l]) ⟨_, [], rfl, by simp only [VRel], rfl⟩).mono fun e w' hR => ?_
  obtain ⟨S', ρ', ys, rfl, g1, g2, g3⟩ := hR
  simp only [LRel] at g3
  obtain ⟨x0, _, rfl, h0, x1, _, rfl, h2, x2, _, rfl, h3, rfl⟩ := g3
  simp only [VRel] at h2 h3
  subst h2 h3
  obtain ⟨c, rfl, hT⟩ := treeB_ok h1 h0
  have h4 := hT.four
  match c, h4, hT with
  | [c0, c1, c2, c3], _, hT => exact ⟨c0, c1, c2, c3, rfl, hT.keep g1 (fun _ _ _ => rfl), g2⟩
 ·cases h
end Go.Proofs.YtpnpdlnpikkeaaaGreat
namespace Go.Proofs.YtpnpdlnpikkeaaaGreat
open Go.RowKit Lx Sx
set_option maxRecDepth 100000
set_option maxHeartbeats 1000000
theorem tV (a : List UInt8) (f : Bool) (ha : a.length ≤ 140737488351232) : nn a f (aU false a f) := sum0_calls rfl rfl fun S w ρ xs hx => by
 simp only [LRel] at hx
 obtain ⟨x, ys, rfl, h1, y, zs, rfl, h2, rfl⟩ := hx
 simp only [VRel] at h1 h2; subst h1 h2
 exact (CM a f w (by omega)).mono fun e w' ⟨h1, h2⟩ => ⟨_, h1, by simp only [VRel], h2 ▸ Chg.refl _ _⟩
theorem ou (k n : Int) : bH k n = bb k n := by
 unfold bH bb f0
 repeat' split
 all_goals first | rfl | omega
theorem As (k : Int) (x : List UInt8) : mX k x = mQ k x := by
 have c : ∀ n : Nat, ((aJ x : Int) == (n : Int)) = (aJ x == n) := fun n => by
  rw [Bool.eq_iff_iff]; simp only [beq_iff_eq]; omega
 have c1 : ((aJ x : Int) == 1) = (aJ x == 1) := c 1
 have c2 : ((aJ x : Int) == 2) = (aJ x == 2) := c 2
 have c3 : ((aJ x : Int) == 3) = (aJ x == 3) := c 3
 have c4 : ((aJ x : Int) == 4) = (aJ x == 4) := c 4
 have c5 : ((aJ x : Int) == 5) = (aJ x == 5) := c 5
 have c6 : ((aJ x : Int) == 6) = (aJ x == 6) := c 6
 unfold mX mQ uG qT
 simp only [c1, c2, c3, c4, c5, c6]
theorem Br (k : Int) (n i : Nat) (kk : Int) : oO k n i kk = mT k n i kk := by
 have e1 : nb kk = jv kk := by simp only [nb, jv, mZ, Bool.and_assoc, Bool.decide_and]
 have e2 : pa kk = mr kk := by simp only [pa, mr, Bool.decide_and]
 have e3 : qP kk = nR kk := by simp only [qP, nR, e1, mZ, Bool.and_assoc, Bool.decide_and]
 unfold oO mT
 rw [e1, e2, e3]
mutual
theorem shapedT_K : ∀ t : Tree, shapedT t = shapeK t
 | .node k s ls ks => by simp only [shapedT, shapeK, ou, As, kidsT_K k ks.length ks 0]
theorem kidsT_K (k : Int) (n : Nat) : ∀ (l : List Tree) (i : Nat), kidsT k n l i = shapeKs k n i l
 | [], i => by simp only [kidsT, shapeKs]
 | t :: r, i => by simp only [kidsT, shapeKs, Br, shapedT_K t, kidsT_K k n r (i + 1)]
end
theorem zG : ∀ t : Tree, tbulk t ≤ 40000000 → shapeK t = true → je t (leadedT t) := dc fun t ih ht hs => by
 have hk := da t
 have hl := mA t
 have hbt := bu t
 have kids : ∀ k i, t.kids.length - i ≤ k → ∃ M, fF M t i (leadedsT (t.kids.drop i)) := fun k => by
  have last : ∀ i, ¬ i < t.kids.length → ∃ M, fF M t i (leadedsT (t.kids.drop i)) := fun i hi => by
   rw [List.drop_of_length_le (by omega)]
   exact ⟨1, mO 0 _ _ _ ⟨fun h => absurd h hi, fun _ => rfl⟩⟩
  induction k with
  | zero => intro i hi; exact last i (by omega)
  | succ k ihk =>
   intro i hi
   obtain ⟨u, hu, hul⟩ | h' := aH t.kids i
   ·have := cJ hu
    have hb := ih i u hu (by omega) (kQ hs hu).1
    obtain ⟨M, hM⟩ := ihk (i + 1) (by omega)
    rw [bE hu, leadedsT]
    refine ⟨M + 1, mO M _ _ _ ⟨fun _ => ⟨u, hu, _, hb, fun e => ?_, fun e => ?_⟩, fun h => absurd hul h⟩⟩
    ·rw [e]; rfl
    ·rw [e]; exact ⟨by omega, hM⟩
   ·exact last i h'
 obtain ⟨M0, h0⟩ := kids t.kids.length 0 (by omega)
 rw [List.drop_zero] at h0
 have lead : ∀ k i, t.leads.length - i ≤ k → ∃ M, ep M t i (dx t.kind (t.leads.drop i) i && leadedsT t.kids) := fun k => by
  have last : ∀ i, ¬ i < t.leads.length → ∃ M, ep M t i (dx t.kind (t.leads.drop i) i && leadedsT t.kids) := fun i hi => by
   rw [List.drop_of_length_le (by omega)]
   exact ⟨_, jX _ _ _ _ ⟨fun h => absurd h hi, fun _ => h0⟩⟩
  induction k with
  | zero => intro i hi; exact last i (by omega)
  | succ k ihk =>
   intro i hi
   obtain ⟨s, hs, hsl⟩ | h' := aH t.leads i
   ·have hsl2 := np hs
    obtain ⟨M, hM⟩ := ihk (i + 1) (by omega)
    rw [bE hs, dx]
    by_cases h1 : t.kind = 1
    ·have ht1 := tV s (((i : Nat) : Int) == 2) (by omega)
     have e1 : (t.kind == 1 && (i : Int) == 2) = ((i : Int) == 2) := by simp [h1]
     rw [e1]
     refine ⟨M + 1, jX M _ _ _ ⟨fun _ => ⟨s, hs, fun _ => ⟨_, ht1, fun e => ?_, fun e => ?_⟩, fun h => absurd h1 h⟩, fun h => absurd hsl h⟩⟩
     ·rw [e]; rfl
     ·rw [e]; exact ⟨by omega, hM⟩
    ·have ht1 := tV s false (by omega)
     have e1 : (t.kind == 1 && (i : Int) == 2) = false := by simp [h1]
     rw [e1]
     refine ⟨M + 1, jX M _ _ _ ⟨fun _ => ⟨s, hs, fun h => absurd h h1, fun _ => ⟨_, ht1, fun e => ?_, fun e => ?_⟩⟩, fun h => absurd hsl h⟩⟩
     ·rw [e]; rfl
     ·rw [e]; exact ⟨by omega, hM⟩
   ·exact last i h'
 have e : leadedT t = (decide ((t.leads.length : Int) = bH t.kind t.kids.length) && (dx t.kind t.leads 0 && leadedsT t.kids)) := by cases t; simp only [leadedT, Bool.and_assoc]; rfl
 rw [ou] at e
 by_cases h : ((t.leads.length : Nat) : Int) = bb t.kind t.kids.length
 ·obtain ⟨M, hM⟩ := lead t.leads.length 0 (by omega)
  rw [List.drop_zero] at hM
  refine nj M _ _ ⟨_, qX (by omega) (by omega), fun h' => absurd h h', fun _ => ?_⟩
  rw [e, decide_eq_true h]; exact hM
 ·refine nj 0 _ _ ⟨_, qX (by omega) (by omega), fun _ => ?_, fun h' => absurd h' h⟩
  rw [e, decide_eq_false h]; rfl
theorem zl : ∀ t : Tree, tbulk t ≤ 40000000 → shapeK t = true → ek t (leadedT t) := dc fun t ih ht hs => by
 have hk := da t
 have hl := mA t
 have hbt := bu t
 have kids : ∀ k i, t.kids.length - i ≤ k → ∃ M, cW M t i (leadedsT (t.kids.drop i)) := fun k => by
  have last : ∀ i, ¬ i < t.kids.length → ∃ M, cW M t i (leadedsT (t.kids.drop i)) := fun i hi => by
   rw [List.drop_of_length_le (by omega)]
   exact ⟨1, cC 0 _ _ _ ⟨fun h => absurd h hi, fun _ => rfl⟩⟩
  induction k with
  | zero => intro i hi; exact last i (by omega)
  | succ k ihk =>
   intro i hi
   obtain ⟨u, hu, hul⟩ | h' := aH t.kids i
   ·have := cJ hu
    have hb := ih i u hu (by omega) (kQ hs hu).1
    obtain ⟨M, hM⟩ := ihk (i + 1) (by omega)
    rw [bE hu, leadedsT]
    refine ⟨M + 1, cC M _ _ _ ⟨fun _ => ⟨u, hu, _, hb, fun e => ?_, fun e => ?_⟩, fun h => absurd hul h⟩⟩
    ·rw [e]; rfl
    ·rw [e]; exact hM
   ·exact last i h'
 obtain ⟨M0, h0⟩ := kids t.kids.length 0 (by omega)
 rw [List.drop_zero] at h0
 have lead : ∀ k i, t.leads.length - i ≤ k → ∃ M, bS M t i (dx t.kind (t.leads.drop i) i && leadedsT t.kids) := fun k => by
  have last : ∀ i, ¬ i < t.leads.length → ∃ M, bS M t i (dx t.kind (t.leads.drop i) i && leadedsT t.kids) := fun i hi => by
   rw [List.drop_of_length_le (by omega)]
   exact ⟨_, bO _ _ _ _ ⟨fun h => absurd h hi, fun _ => h0⟩⟩
  induction k with
  | zero => intro i hi; exact last i (by omega)
  | succ k ihk =>
   intro i hi
   obtain ⟨s, hs, hsl⟩ | h' := aH t.leads i
   ·have hsl2 := np hs
    obtain ⟨M, hM⟩ := ihk (i + 1) (by omega)
    rw [bE hs, dx]
    by_cases h1 : t.kind = 1
    ·have ht1 := nT s (((i : Nat) : Int) == 2) (by omega)
     have e1 : (t.kind == 1 && (i : Int) == 2) = ((i : Int) == 2) := by simp [h1]
     rw [e1]
     refine ⟨M + 1, bO M _ _ _ ⟨fun _ => ⟨s, hs, fun _ => ⟨_, ht1, fun e => ?_, fun e => ?_⟩, fun h => absurd h1 h⟩, fun h => absurd hsl h⟩⟩
     ·rw [e]; rfl
     ·rw [e]; exact hM
    ·have ht1 := nT s false (by omega)
     have e1 : (t.kind == 1 && (i : Int) == 2) = false := by simp [h1]
     rw [e1]
     refine ⟨M + 1, bO M _ _ _ ⟨fun _ => ⟨s, hs, fun h => absurd h h1, fun _ => ⟨_, ht1, fun e => ?_, fun e => ?_⟩⟩, fun h => absurd hsl h⟩⟩
     ·rw [e]; rfl
     ·rw [e]; exact hM
   ·exact last i h'
 have e : leadedT t = (decide ((t.leads.length : Int) = bH t.kind t.kids.length) && (dx t.kind t.leads 0 && leadedsT t.kids)) := by cases t; simp only [leadedT, Bool.and_assoc]; rfl
 rw [ou] at e
 by_cases h : ((t.leads.length : Nat) : Int) = bb t.kind t.kids.length
 ·obtain ⟨M, hM⟩ := lead t.leads.length 0 (by omega)
  rw [List.drop_zero] at hM
  refine fg M _ _ ⟨_, kJ (by omega) (by omega), fun h' => absurd h h', fun _ => ?_⟩
  rw [e, decide_eq_true h]; exact hM
 ·refine fg 0 _ _ ⟨_, kJ (by omega) (by omega), fun _ => ?_, fun h' => absurd h' h⟩
  rw [e, decide_eq_false h]; rfl
theorem uC (t : Tree) (ht : tbulk t ≤ 40000000) : cj t (shapeK t && leadedT t) := by
 refine fH 0 _ _ ⟨_, mF t (by omega), fun h => ?_, fun h => ?_⟩
 ·exact ⟨_, zl t ht h, by rw [h]; rfl⟩
 ·rw [h]; rfl
theorem sS : ∀ ls : List (List UInt8), qW ls (ls.map V.str) = true
 | [] => rfl
 | s :: r => by
  show (lEq s s && qW r (r.map V.str)) = true
  rw [sS r, mw]; simp
mutual
theorem treeB_self : ∀ t : Tree, treeB t (treeV t) = true
 | .node k s ls ks => by
  rw [gD]
  unfold treeB
  simp only [oc, aj, Tree.kind, Tree.text, Tree.leads, Tree.kids, sK, sS, kidsB_self ks, oV, mw, Nat.beq_eq_true_eq, Bool.and_true, beq_self_eq_true, Nat.beq_refl]
theorem kidsB_self : ∀ ks : List Tree, kidsB ks (kidsV ks) = true
 | [] => rfl
 | t :: r => by simp only [kidsV, kidsB, treeB_self t, kidsB_self r, Bool.and_true]
end
theorem zd {S : Nat → Prop} {w : World} {t : Tree} {c : List Value} (h : TreeIs S w t c) : ∃ c0 c1 c2 c3, c = [c0, c1, c2, c3] := by
 cases t
 simp only [TreeIs] at h
 obtain ⟨a, b, w, n, rfl, _⟩ := h
 exact ⟨_, _, _, _, rfl⟩
theorem DS (t : Tree) (ht : tbulk t ≤ 1000000000) (hs : shapedT t = true) (hl : leadedT t = true) : pU t (ja t) := sum0_calls rfl rfl fun S w ρ xs hx => by
 simp only [LRel] at hx
 obtain ⟨x, ys, rfl, h1, rfl⟩ := hx
 have hb := treeB_self t
 rw [gD] at hb
 obtain ⟨c, rfl, hT⟩ := treeB_ok hb h1
 obtain ⟨c0, c1, c2, c3, rfl⟩ := zd hT
 exact (EZ hs hl ht hT).mono fun e w' ⟨h1, h2⟩ => ⟨_, h1, by simp only [VRel], h2⟩
theorem vb (t : Tree) (ht : tbulk t ≤ 40000000) : jD t (if shapeK t && leadedT t then ja t else []) := by
 refine sB 0 _ _ ⟨_, sp t (by omega), fun h => by rw [h]; rfl, fun h => ⟨_, zG t ht h, fun h2 => by rw [h, h2]; rfl, fun h2 => ⟨_, DS t (by omega) (by rw [shapedT_K]; exact h) h2, by rw [h, h2]; rfl⟩⟩⟩
theorem rJ : ∀ (l : List UInt8) (m : Nat) (acc : List UInt8), (aL m acc l).length ≤ l.length + 1
 | [], m, acc => by simp only [aL]; split <;> simp
 | c :: r, m, acc => by
  have h := fun m acc => rJ r m acc
  simp only [aL]
  repeat' split
  all_goals simp only [List.length_cons]
  all_goals first | exact Nat.le_succ_of_le (h _ _) | exact Nat.succ_le_succ (h _ _)
theorem jA {l : List UInt8} {i : Nat} (h : ¬ i < l.length) : l.drop i = [] := List.drop_of_length_le (by omega)
theorem uh {l : List UInt8} {a i : Nat} {c : UInt8} (hc : l[i]? = some c) (h : a ≤ i) : (l.drop a).take (i - a) ++ [c] = (l.drop a).take (i + 1 - a) := by
 rw [show i + 1 - a = (i - a) + 1 by omega, List.take_add_one, List.getElem?_drop, show a + (i - a) = i by omega, hc]; rfl
theorem sT (c : UInt8) : ((c.toNat : Int) = 34) = (c.toNat = 34) := by simp; omega
theorem uN (c : UInt8) : ((c.toNat : Int) = 35) = (c.toNat = 35) := by simp; omega
theorem uM (c : UInt8) : ((c.toNat : Int) = 10) = (c.toNat = 10) := by simp; omega
theorem uo (s : List UInt8) (hs : s.length ≤ 9000000000) : ∀ (k i : Nat) (l : List (List UInt8)), s.length + 2 - i ≤ k → ((l ++ aL 0 [] (s.drop i)).length ≤ 1000000000 → ∃ M, bI M s i l (l ++ aL 0 [] (s.drop i))) ∧ (i ≤ s.length → (l ++ aL 1 [] (s.drop i)).length ≤ 1000000000 → ∃ M, gi M s i l (l ++ aL 1 [] (s.drop i))) ∧ (∀ a, a ≤ i → i ≤ s.length → (l ++ aL 2 ((s.drop a).take (i - a)) (s.drop i)).length ≤ 1000000000 → ∃ M, eF M s i l a (l ++ aL 2 ((s.drop a).take (i - a)) (s.drop i))) := fun k => by
 induction k with
 | zero =>
  intro i l hk
  have hd := jA (l := s) (i := i) (by omega)
  have z : ∃ M, bI M s i l (l ++ aL 0 [] (s.drop i)) := ⟨1, eo 0 _ _ _ _ ⟨fun h => by omega, fun _ => by rw [hd]; simp [aL]⟩⟩
  exact ⟨fun _ => z, fun h => by omega, fun a ha h => by omega⟩
 | succ k ih =>
  intro i l hk
  have e2 : ∀ a, a ≤ i → i ≤ s.length → (l ++ aL 2 ((s.drop a).take (i - a)) (s.drop i)).length ≤ 1000000000 → ∃ M, eF M s i l a (l ++ aL 2 ((s.drop a).take (i - a)) (s.drop i)) := fun a ha hi hB => by
   have app : ∀ acc : List UInt8, (l ++ acc :: aL 0 [] (s.drop (i + 1))).length ≤ 1000000000 → ∃ M, bI M s (i + 1) (l ++ [acc]) (l ++ acc :: aL 0 [] (s.drop (i + 1))) := fun acc hB => by
    obtain ⟨M, hM⟩ := (ih (i + 1) (l ++ [acc]) (by omega)).1 (by simpa using hB)
    exact ⟨M, by simpa using hM⟩
   obtain ⟨c, hc, hlt⟩ | hge := aH s i
   ·rw [bE hc] at hB ⊢
    by_cases h10 : c.toNat = 10
    ·have e : aL 2 ((s.drop a).take (i - a)) (c :: s.drop (i + 1)) = (s.drop a).take (i - a) :: aL 0 [] (s.drop (i + 1)) := by simp [aL, h10]
     rw [e] at hB ⊢
     obtain ⟨M, hM⟩ := app ((s.drop a).take (i - a)) hB
     have hB' : (l ++ [(s.drop a).take (i - a)]).length ≤ 1000000000 := by simp only [List.length_append, List.length_cons, List.length_nil] at hB ⊢; omega
     exact ⟨M + 1, iS M _ _ _ _ _ ⟨fun _ => ⟨c, hc, fun hn => absurd ((uM c).mpr h10) hn, fun _ => ⟨ha, by omega, hB', by omega, hM⟩⟩, fun h => absurd hlt h⟩⟩
    ·have e : aL 2 ((s.drop a).take (i - a)) (c :: s.drop (i + 1)) = aL 2 ((s.drop a).take (i + 1 - a)) (s.drop (i + 1)) := by rw [← uh hc ha]; simp [aL, h10]
     rw [e] at hB ⊢
     obtain ⟨M, hM⟩ := (ih (i + 1) l (by omega)).2.2 a (by omega) (by omega) hB
     exact ⟨M + 1, iS M _ _ _ _ _ ⟨fun _ => ⟨c, hc, fun _ => ⟨by omega, hM⟩, fun hn => absurd ((uM c).mp hn) h10⟩, fun h => absurd hlt h⟩⟩
   ·rw [jA hge] at hB ⊢
    have e : aL 2 ((s.drop a).take (i - a)) [] = (s.drop a).take (i - a) :: aL 0 [] [] := by simp [aL]
    rw [e] at hB ⊢
    obtain ⟨M, hM⟩ := app ((s.drop a).take (i - a)) (by rw [jA (i := i + 1) (by omega)]; exact hB)
    rw [jA (i := i + 1) (by omega)] at hM
    have hB' : (l ++ [(s.drop a).take (i - a)]).length ≤ 1000000000 := by simp only [List.length_append, List.length_cons, List.length_nil] at hB ⊢; omega
    exact ⟨M + 1, iS M _ _ _ _ _ ⟨fun h => absurd h hge, fun _ => ⟨ha, by omega, hB', by omega, hM⟩⟩⟩
  refine ⟨fun hB => ?_, fun hi hB => ?_, e2⟩
  ·obtain ⟨c, hc, hlt⟩ | hge := aH s i
   ·by_cases h34 : c.toNat = 34
    ·rw [bE hc] at hB ⊢
     have e : aL 0 [] (c :: s.drop (i + 1)) = aL 1 [] (s.drop (i + 1)) := by simp [aL, h34]
     rw [e] at hB ⊢
     obtain ⟨M, hM⟩ := (ih (i + 1) l (by omega)).2.1 (by omega) hB
     exact ⟨M + 1, eo M _ _ _ _ ⟨fun _ => ⟨c, hc, fun _ => ⟨by omega, hM⟩, fun h => absurd ((sT c).mpr h34) h⟩, fun h => absurd hlt h⟩⟩
    ·by_cases h35 : c.toNat = 35
     ·have e : aL 0 [] (s.drop i) = aL 2 ((s.drop i).take (i - i)) (s.drop i) := by rw [Nat.sub_self, List.take_zero, bE hc]; simp [aL, h35]
      rw [e] at hB ⊢
      obtain ⟨M, hM⟩ := e2 i (Nat.le_refl _) (by omega) hB
      exact ⟨M + 1, eo M _ _ _ _ ⟨fun _ => ⟨c, hc, fun h => absurd ((sT c).mp h) h34, fun _ => ⟨fun _ => hM, fun h => absurd ((uN c).mpr h35) h⟩⟩, fun h => absurd hlt h⟩⟩
     ·rw [bE hc] at hB ⊢
      have e : aL 0 [] (c :: s.drop (i + 1)) = aL 0 [] (s.drop (i + 1)) := by simp [aL, h34, h35]
      rw [e] at hB ⊢
      obtain ⟨M, hM⟩ := (ih (i + 1) l (by omega)).1 hB
      exact ⟨M + 1, eo M _ _ _ _ ⟨fun _ => ⟨c, hc, fun h => absurd ((sT c).mp h) h34, fun _ => ⟨fun h => absurd ((uN c).mp h) h35, fun _ => ⟨by omega, hM⟩⟩⟩, fun h => absurd hlt h⟩⟩
   ·rw [jA hge]
    exact ⟨1, eo 0 _ _ _ _ ⟨fun h => absurd h hge, fun _ => by simp [aL]⟩⟩
  ·obtain ⟨c, hc, hlt⟩ | hge := aH s i
   ·rw [bE hc] at hB ⊢
    by_cases h34 : c.toNat = 34
    ·have e : aL 1 [] (c :: s.drop (i + 1)) = aL 0 [] (s.drop (i + 1)) := by simp [aL, h34]
     rw [e] at hB ⊢
     obtain ⟨M, hM⟩ := (ih (i + 1) l (by omega)).1 hB
     exact ⟨M + 1, iM M _ _ _ _ ⟨fun _ => ⟨c, hc, fun h => absurd ((sT c).mpr h34) h, fun _ => ⟨by omega, hM⟩⟩, fun h => absurd hlt h⟩⟩
    ·have e : aL 1 [] (c :: s.drop (i + 1)) = aL 1 [] (s.drop (i + 1)) := by simp [aL, h34]
     rw [e] at hB ⊢
     obtain ⟨M, hM⟩ := (ih (i + 1) l (by omega)).2.1 (by omega) hB
     exact ⟨M + 1, iM M _ _ _ _ ⟨fun _ => ⟨c, hc, fun _ => ⟨by omega, hM⟩, fun h => absurd ((sT c).mp h) h34⟩, fun h => absurd hlt h⟩⟩
   ·rw [jA hge] at hB ⊢
    have e : aL 1 [] [] = aL 0 [] [] := by simp [aL]
    rw [e] at hB ⊢
    obtain ⟨M, hM⟩ := (ih (i + 1) l (by omega)).1 (by rw [jA (i := i + 1) (by omega)]; exact hB)
    rw [jA (i := i + 1) (by omega)] at hM
    exact ⟨M + 1, iM M _ _ _ _ ⟨fun h => absurd h hge, fun _ => ⟨by omega, hM⟩⟩⟩
theorem pI (t : Tree) (hl : leadedT t = true) : (ja t).length ≤ 100 * tbulk t := by
 have := (dp hl ([], [])).1
 unfold ja
 simp at this; omega
def jx (t : Tree) : List (List UInt8) := if shapeK t && leadedT t then cl (ldT t) else []
theorem qG (t : Tree) (ht : tbulk t ≤ 40000000) (hc : (jx t).length ≤ 1000000000) : dT t (jx t) := by
 have hp := vb t ht
 cases h : (shapeK t && leadedT t) with
 | false =>
  rw [h] at hp
  obtain ⟨M, hM⟩ := (uo [] (by simp) 2 0 [] (by simp)).1 (by simp [aL])
  refine mz M _ _ ⟨_, hp, ?_⟩
  unfold jx; rw [h]; simpa [aL] using hM
 | true =>
  rw [h] at hp
  unfold jx at hc ⊢
  rw [h] at hc ⊢
  simp only [Bool.and_eq_true] at h
  have hlen := pI t h.2
  have e := rH (by rw [shapedT_K]; exact h.1) h.2
  obtain ⟨M, hM⟩ := (uo (ja t) (by omega) ((ja t).length + 2) 0 [] (by omega)).1 (by rw [List.drop_zero, List.nil_append, e]; exact hc)
  refine mz M _ _ ⟨_, hp, ?_⟩
  rw [List.drop_zero, List.nil_append, e] at hM
  exact hM
theorem Cc (t : Tree) : (jx t).length ≤ 100 * tbulk t + 1 := by
 unfold jx
 split
 ·rename_i h
  simp only [Bool.and_eq_true] at h
  have hlen := pI t h.2
  have e := rH (by rw [shapedT_K]; exact h.1) h.2
  have := rJ (ja t) 0 []
  rw [e] at this
  omega
 ·simp
theorem ro (t : Tree) (ht : tbulk t ≤ 2000000) : dT t (jx t) := qG t (by omega) (by have := Cc t; omega)
theorem AM (p : List Pce) (x : Pce) (hx : x.Lead.length ≤ 3000000) (n : Nat) (hn : n ≤ 900000000) (R : List (List UInt8)) (hR : ∀ l : List (List UInt8), (l ++ R).length ≤ 1000000000 → ∃ M, bQ M p (n + 1) l (l ++ R)) : ∀ (j k : Nat) (l : List (List UInt8)), x.Lead.length - k ≤ j → ((l ++ (ldM false [] (x.Lead.drop k) ++ R)).length ≤ 1000000000 → ∃ M, ba M p x (-1) k n l (l ++ (ldM false [] (x.Lead.drop k) ++ R))) ∧ (∀ a, a ≤ k → k ≤ x.Lead.length → (l ++ (ldM true ((x.Lead.drop a).take (k - a)) (x.Lead.drop k) ++ R)).length ≤ 1000000000 → ∃ M, ba M p x ((a : Nat) : Int) k n l (l ++ (ldM true ((x.Lead.drop a).take (k - a)) (x.Lead.drop k) ++ R))) := fun j => by
 have last : ∀ (k : Nat) (l : List (List UInt8)), ¬ k < x.Lead.length → ((l ++ (ldM false [] (x.Lead.drop k) ++ R)).length ≤ 1000000000 → ∃ M, ba M p x (-1) k n l (l ++ (ldM false [] (x.Lead.drop k) ++ R))) ∧ (∀ a, a ≤ k → k ≤ x.Lead.length → (l ++ (ldM true ((x.Lead.drop a).take (k - a)) (x.Lead.drop k) ++ R)).length ≤ 1000000000 → ∃ M, ba M p x ((a : Nat) : Int) k n l (l ++ (ldM true ((x.Lead.drop a).take (k - a)) (x.Lead.drop k) ++ R))) := fun k l hk => by
  rw [jA hk]
  refine ⟨fun hB => ?_, fun a ha hkl hB => ?_⟩
  ·have e : ldM false [] [] = [] := by simp [ldM]
   rw [e, List.nil_append] at hB ⊢
   obtain ⟨M, hM⟩ := hR l hB
   exact ⟨M + 1, cd M _ _ _ _ _ _ _ ⟨fun h => absurd h hk, fun _ => ⟨fun h => absurd h (by decide), fun _ => ⟨by omega, hM⟩⟩⟩⟩
  ·have e : ldM true ((x.Lead.drop a).take (k - a)) [] = [x.Lead.drop a] := by rw [List.take_of_length_le (by rw [List.length_drop]; omega)]; simp [ldM]
   rw [e] at hB ⊢
   have e2 : l ++ ([x.Lead.drop a] ++ R) = (l ++ [x.Lead.drop a]) ++ R := by simp
   rw [e2] at hB ⊢
   obtain ⟨M, hM⟩ := hR _ hB
   exact ⟨M + 1, cd M _ _ _ _ _ _ _ ⟨fun h => absurd h hk, fun _ => ⟨fun _ => ⟨a, rfl, by omega, by rw [List.length_append] at hB; omega, by omega, hM⟩, fun h => absurd (Int.natCast_nonneg a) h⟩⟩⟩
 induction j with
 | zero => intro k l hk; exact last k l (by omega)
 | succ j ih =>
  intro k l hk
  obtain ⟨c, hc, hlt⟩ | hge := aH x.Lead k
  ·rw [bE hc]
   refine ⟨fun hB => ?_, fun a ha hkl hB => ?_⟩
   ·by_cases h35 : c.toNat = 35
    ·have e : ldM false [] (c :: x.Lead.drop (k + 1)) = ldM true ((x.Lead.drop k).take (k + 1 - k)) (x.Lead.drop (k + 1)) := by
      rw [show k + 1 - k = 1 by omega, bE hc]; simp [ldM, h35]
     rw [e] at hB ⊢
     obtain ⟨M, hM⟩ := (ih (k + 1) l (by omega)).2 k (by omega) (by omega) hB
     refine ⟨M + 2, cd (M + 1) _ _ _ _ _ _ _ ⟨fun _ => ⟨fun _ => ⟨c, hc, dJ M _ _ _ _ _ _ _ _ ⟨fun _ => ⟨by omega, hM⟩, fun h => ?_⟩⟩, fun h => absurd (by decide) h⟩, fun h => absurd hlt h⟩⟩
     exact absurd ((uN c).mpr h35) (by simpa using h)
    ·have e : ldM false [] (c :: x.Lead.drop (k + 1)) = ldM false [] (x.Lead.drop (k + 1)) := by simp [ldM, h35]
     rw [e] at hB ⊢
     obtain ⟨M, hM⟩ := (ih (k + 1) l (by omega)).1 hB
     refine ⟨M + 2, cd (M + 1) _ _ _ _ _ _ _ ⟨fun _ => ⟨fun _ => ⟨c, hc, dJ M _ _ _ _ _ _ _ _ ⟨fun h => ?_, fun _ => ⟨fun h => absurd h (by decide), fun _ => ⟨by omega, hM⟩⟩⟩⟩, fun h => absurd (by decide) h⟩, fun h => absurd hlt h⟩⟩
     exact absurd ((uN c).mp (by simpa using h)) h35
   ·have z : ¬ ((a : Nat) : Int) < 0 := by omega
    by_cases h10 : c.toNat = 10
    ·have e : ldM true ((x.Lead.drop a).take (k - a)) (c :: x.Lead.drop (k + 1)) = (x.Lead.drop a).take (k - a) :: ldM false [] (x.Lead.drop (k + 1)) := by simp [ldM, h10]
     have e2 : l ++ (((x.Lead.drop a).take (k - a) :: ldM false [] (x.Lead.drop (k + 1))) ++ R) = (l ++ [(x.Lead.drop a).take (k - a)]) ++ (ldM false [] (x.Lead.drop (k + 1)) ++ R) := by simp
     rw [e, e2] at hB ⊢
     obtain ⟨M, hM⟩ := (ih (k + 1) (l ++ [(x.Lead.drop a).take (k - a)]) (by omega)).1 hB
     refine ⟨M + 2, cd (M + 1) _ _ _ _ _ _ _ ⟨fun _ => ⟨fun h => absurd h z, fun _ => dJ M _ _ _ _ _ _ _ _ ⟨fun h => (by cases h), fun _ => ⟨fun _ => ⟨c, hc, fun _ => ⟨a, rfl, ha, by omega, by rw [List.length_append] at hB; omega, by omega, hM⟩, fun h => absurd ((uM c).mpr h10) h⟩, fun h => absurd (Int.natCast_nonneg a) h⟩⟩⟩, fun h => absurd hlt h⟩⟩
    ·have e : ldM true ((x.Lead.drop a).take (k - a)) (c :: x.Lead.drop (k + 1)) = ldM true ((x.Lead.drop a).take (k + 1 - a)) (x.Lead.drop (k + 1)) := by rw [← uh hc ha]; simp [ldM, h10]
     rw [e] at hB ⊢
     obtain ⟨M, hM⟩ := (ih (k + 1) l (by omega)).2 a (by omega) (by omega) hB
     refine ⟨M + 2, cd (M + 1) _ _ _ _ _ _ _ ⟨fun _ => ⟨fun h => absurd h z, fun _ => dJ M _ _ _ _ _ _ _ _ ⟨fun h => (by cases h), fun _ => ⟨fun _ => ⟨c, hc, fun h => absurd ((uM c).mp h) h10, fun _ => ⟨by omega, hM⟩⟩, fun h => absurd (Int.natCast_nonneg a) h⟩⟩⟩, fun h => absurd hlt h⟩⟩
  ·exact last k l hge
theorem zt (p : List Pce) (hp : p.length ≤ 900000000) (hq : ∀ x ∈ p, x.Lead.length ≤ 3000000) : ∀ (j n : Nat) (l : List (List UInt8)), p.length - n ≤ j → (l ++ cl ((p.drop n).map (·.Lead))).length ≤ 1000000000 → ∃ M, bQ M p n l (l ++ cl ((p.drop n).map (·.Lead))) := fun j => by
 have last : ∀ (n : Nat) (l : List (List UInt8)), ¬ n < p.length → ∃ M, bQ M p n l (l ++ cl ((p.drop n).map (·.Lead))) := fun n l hn => by
  rw [List.drop_of_length_le (by omega)]
  exact ⟨1, jh 0 _ _ _ _ ⟨fun h => absurd h hn, fun _ => by simp [cl]⟩⟩
 induction j with
 | zero => intro n l hn _; exact last n l (by omega)
 | succ j ih =>
  intro n l hn hB
  obtain ⟨x, hx, hlt⟩ | hge := aH p n
  ·rw [bE hx, List.map_cons, eQ] at hB ⊢
   have hxl := hq x (List.mem_of_getElem? hx)
   obtain ⟨M, hM⟩ := (AM p x hxl n (by omega) _ (fun l' hl' => ih (n + 1) l' (by omega) hl') x.Lead.length 0 l (by omega)).1 hB
   exact ⟨M + 1, jh M _ _ _ _ ⟨fun _ => ⟨x, hx, hM⟩, fun h => absurd hlt h⟩⟩
  ·exact last n l hge
theorem wB (t : Tree) (ht : tbulk t ≤ 2000000) : gH t (jx t) := by
 have hp := uC t (by omega)
 cases h : (shapeK t && leadedT t) with
 | false =>
  rw [h] at hp
  refine jL 0 _ _ ⟨_, hp, fun _ => ?_, fun h => (by cases h)⟩
  unfold jx; rw [h]; rfl
 | true =>
  rw [h] at hp
  have hh := h
  simp only [Bool.and_eq_true] at hh
  obtain ⟨r, e, z, q, m⟩ := vg t ht hh.1 [] (by simp; omega)
  rw [List.map_nil, List.nil_append] at m
  have hlen := pI t hh.2
  have hc := rH (by rw [shapedT_K]; exact hh.1) hh.2
  have hcl := rJ (ja t) 0 []
  rw [hc] at hcl
  obtain ⟨M, hM⟩ := zt r (by simp at z; omega) (fun x hx => by have := (q bL x hx).1; omega) r.length 0 [] (by omega) (by rw [List.drop_zero, m, List.nil_append]; omega)
  rw [List.drop_zero, m, List.nil_append] at hM
  refine jL M _ _ ⟨_, hp, fun h => (by cases h), fun _ => ⟨r, kW 0 _ _ ⟨r, e, rfl⟩, ?_⟩⟩
  unfold jx; rw [h]; exact hM
theorem rr : ∀ (a b : List (List UInt8)), eb a b (a == b) := fun a b => by
 have loop : a.length = b.length → ∀ k i, a.length - i ≤ k → a.take i = b.take i → ∃ M, cH M a b i (a == b) := fun hl k => by
  have last : ∀ i, ¬ i < a.length → a.take i = b.take i → ∃ M, cH M a b i (a == b) := fun i hi he => by
   rw [List.take_of_length_le (by omega), List.take_of_length_le (by omega)] at he
   exact ⟨1, fe 0 _ _ _ _ ⟨fun h => absurd h hi, fun _ => by simp [he]⟩⟩
  induction k with
  | zero => intro i hi he; exact last i (by omega) he
  | succ k ih =>
   intro i hi he
   obtain ⟨x, hx, hlt⟩ | hge := aH a i
   ·obtain ⟨y, hy, _⟩ | h' := aH b i
    ·by_cases hxy : x = y
     ·obtain ⟨M, hM⟩ := ih (i + 1) (by omega) (by rw [List.take_add_one, List.take_add_one, he, hx, hy, hxy])
      exact ⟨M + 1, fe M _ _ _ _ ⟨fun _ => ⟨x, hx, y, hy, fun h => absurd hxy h, fun _ => hM⟩, fun h => absurd hlt h⟩⟩
     ·exact ⟨1, fe 0 _ _ _ _ ⟨fun _ => ⟨x, hx, y, hy, fun _ => by
       have : ¬ a = b := fun e => hxy (by rw [e, hy] at hx; injection hx with hx; exact hx.symm)
       simp [this], fun h => absurd h hxy⟩, fun h => absurd hlt h⟩⟩
    ·omega
   ·exact last i hge he
 by_cases hl : a.length = b.length
 ·obtain ⟨M, hM⟩ := loop hl a.length 0 (by omega) (by simp)
  exact jt M _ _ _ ⟨fun h => absurd hl h, fun _ => hM⟩
 ·exact jt 0 _ _ _ ⟨fun _ => by
   have : ¬ a = b := fun e => hl (by rw [e])
   simp [this], fun h => absurd h hl⟩
end Go.Proofs.YtpnpdlnpikkeaaaGreat
namespace Go.Proofs.YtpnpdlnpikkeaaaGreat
open Go.RowKit Lx Sx
set_option maxRecDepth 100000
set_option maxHeartbeats 4000000
def fI (p0 : Tree) (p1 : List UInt8) (r0 : Tree) : Prop := qS 25 [.agg (aj p0), .str p1] (.agg (aj r0))
def dm (p0 r0 : Tree) : Prop := qS 9 [.agg (aj p0)] (.agg (aj r0))
def eG (p0 : Tree) (r0 : Bool) : Prop := qS 14 [.agg (aj p0)] (.bool r0)
def fU (p0 : Tree) (r0 : Bool) : Prop := qS 15 [.agg (aj p0)] (.bool r0)
def eJ (p0 p1 : Tree) (r0 : Bool) : Prop := qS 8 [.agg (aj p0), .agg (aj p1)] (.bool r0)
def iH (p0 p1 : Tree) (r0 : Bool) : Prop := qS 16 [.agg (aj p0), .agg (aj p1)] (.bool r0)
def kh (p0 r0 : Tree) : Prop := qS 17 [.agg (aj p0)] (.agg (aj r0))
def lR (p0 : (List (List UInt8))) (p1 : (List (List UInt8))) (r0 : Bool) : Prop := qS 30 [.row 1 (List.map V.str p0), .row 1 (List.map V.str p1)] (.bool r0)
def jY (m : Nat) (p0 : Tree) (p1 : List UInt8) (a : Nat) (r0 : Tree) : Prop := ∀ (K : Ctx), aB K [] → Go Tryz.prog K (bodyPost Tryz.prog Tryz.f25 (SP K (fun u _ => u = .agg (aj r0)))) (.ex .normal) [.seq (xA (ac Tryz.f25))] 113 (mkF 113 0 [(1, .str p1), (2, .box (aj p0) 0), (4, .ptr 0 0), (5, .ptr 1 0)]) ⟨3, [(2, .row 9 1 (List.map V.str (List.replicate a ([] : List UInt8)))), (1, .var 30 [.int .i64 p0.kind, .str p0.text, .sl 2, .nils]), (0, .var 30 [.int .i64 0, .str [], .nils, .nils])]⟩
def bC (m : Nat) (p0 : Tree) (p1 : List UInt8) (a : (List (List UInt8))) (b c : List UInt8) (r0 : Tree) : Prop := ∀ (K : Ctx), aB K [] → qLG K Tryz.f25 (fun u _ => u = .agg (aj r0)) (xJ (ac Tryz.f25)) [] 113 (mkF 113 0 [(1, .str p1), (2, .box (aj p0) 0), (4, .ptr 0 0), (5, .ptr 1 0), (6, .str b), (7, .str c)]) ⟨3, [(2, .row 9 1 (List.map V.str a)), (1, .var 30 [.int .i64 p0.kind, .str p0.text, .sl 2, .nils]), (0, .var 30 [.int .i64 0, .str [], .nils, .nils])]⟩
def jU (m : Nat) (p0 : Tree) (p1 : List UInt8) (a : Nat) (b : Bool) (r0 : Tree) : Prop := ∀ (K : Ctx), aB K [] → qLG K Tryz.f25 (fun u _ => u = .agg (aj r0)) (cB (xC (xF (cB (ac Tryz.f25))))) [.blk 0, .seq (xJ (ac Tryz.f25))] 113 (mkF 113 0 [(1, .str p1), (2, .box (aj p0) 0), (4, .ptr 0 0), (5, .ptr 1 0), (6, .str [32]), (7, .str [32]), (24, .int .i64 p0.kind), (45, .bool b)]) ⟨3, [(2, .row 9 1 (List.map V.str (List.replicate a ([] : List UInt8)))), (1, .var 30 [.int .i64 p0.kind, .str p0.text, .sl 2, .nils]), (0, .var 30 [.int .i64 0, .str [], .nils, .nils])]⟩
def cv (m : Nat) (p0 : Tree) (a b : List UInt8) (c : (List (List UInt8))) (d : List Tree) (e : Nat) (r0 : Tree) : Prop := ∀ (K : Ctx) (j1 : Nat), aB K [] → m ≤ j1 → qLG K Tryz.f25 (fun u _ => u = .agg (aj r0)) (xH (xI (ac Tryz.f25))) [.loop (xH (xI (ac Tryz.f25))) j1, .blk 1, .seq (xJ (xA (ac Tryz.f25)))] 113 (mkF 113 0 [(4, .ptr 0 0), (5, .ptr 1 0), (6, .str a), (7, .str b), (92, .row 4 (kidsV p0.kids)), (93, .int .i64 (p0.kids.length : Int)), (94, .int .i64 (e : Int))]) ⟨4, [(3, .row 30 4 (kidsV d)), (2, .row 9 1 (List.map V.str c)), (1, .var 30 [.int .i64 p0.kind, .str p0.text, .sl 2, .sl 3]), (0, .var 30 [.int .i64 0, .str [], .nils, .nils])]⟩
def fa (m : Nat) (p0 : Tree) (p1 : List UInt8) (a : Nat) (b : Bool) (r0 : Tree) : Prop := ∀ (K : Ctx), aB K [] → qLG K Tryz.f25 (fun u _ => u = .agg (aj r0)) (cB (xG (xF (cB (ac Tryz.f25))))) [.blk 0, .seq (xJ (ac Tryz.f25))] 113 (mkF 113 0 [(1, .str p1), (2, .box (aj p0) 0), (4, .ptr 0 0), (5, .ptr 1 0), (6, .str [32]), (7, .str [32]), (24, .int .i64 p0.kind), (65, .bool b)]) ⟨3, [(2, .row 9 1 (List.map V.str (List.replicate a ([] : List UInt8)))), (1, .var 30 [.int .i64 p0.kind, .str p0.text, .sl 2, .nils]), (0, .var 30 [.int .i64 0, .str [], .nils, .nils])]⟩
theorem ri (m : Nat) (p0 : Tree) (p1 : List UInt8) (r0 : Tree) (h : ∃ c, hV p0.kind (p0.kids.length : Int) c ∧ ∃ a, c = ((a : Nat) : Int) ∧ a ≤ 1000000000 ∧ jY m p0 p1 a r0) : fI p0 p1 r0 := by
 refine ⟨rfl, rfl, ?_⟩
 refine am 113 [] Tryz.func25 rfl rfl rfl (aQ rfl) fun K hK => ?_
 refine gR 3 rfl <| gFP 0 rfl rfl rfl rfl <| gR 4 rfl <| gDs [] 13 14 rfl (by kernel_rfl) (by kernel_rfl) <| gDr [(0, 2), (1, 2), (2, 2), (3, 2), (4, 2), (5, 2), (6, 2), (7, 2), (8, 2)] (by kernel_rfl) rfl rfl <| gV 19 (.int .i64 (p0.kids.length : Int)) rfl (bo (aR _)) rfl <| gLB 18 rfl (aR _) fun hl54 => ?_
 obtain ⟨c, hs55, h⟩ := h
 apply nC (i := 9) (j := 12) (by kernel_rfl) rfl rfl rfl rfl
 exact (my (L' := []) (by kernel_rfl) rfl rfl (uL hs55 .rfl [] rfl) (.inl rfl))
 exact (nr ab rfl rfl)
 obtain ⟨a, b, h⟩ := h
 refine gV 20 (.int .i64 ((a : Nat) : Int)) rfl (jz b) rfl ?_
 obtain ⟨hb, h⟩ := h
 have hb56 := hb
 apply nC (i := 10) (j := 12) (by kernel_rfl) rfl rfl rfl rfl
 exact (zp (.new (.row 9 1 (List.replicate a (.str [])))) (dMk ab rfl rfl rfl rfl rfl rfl rfl (by kernel_rfl) hb56) trivial (by kernel_rfl))
 exact (nr ab rfl rfl)
 exact gHR 2 (List.map V.str (List.replicate a ([] : List UInt8))) rfl (by first | (simp only [eE, List.map_replicate]; done) | (simp only [eE, List.map_replicate]; rfl)) rfl <| gDr [(11, 2), (12, 0), (13, 1)] (by kernel_rfl) rfl rfl <| gDe (by kernel_rfl) <| gJ (h K hK) [1, 3, 2] [] rfl hK pq4 ⟨⟨_, rfl, rfl, rfl, (ak _ V.str (fun _ => rfl) (List.replicate a ([] : List UInt8))).symm⟩, (pqo2 rfl rfl rfl rfl)⟩ rfl
 refine bY 10 (.new (.row 9 1 (List.replicate a (.str [])))) rfl (by kernel_rfl) (dMk ab rfl rfl rfl rfl rfl rfl rfl (by kernel_rfl) hb56) trivial rfl (by kernel_rfl) rfl rfl ?_
 exact gHR 3 (List.map V.str (List.replicate a ([] : List UInt8))) rfl (by first | (simp only [eE, List.map_replicate]; done) | (simp only [eE, List.map_replicate]; rfl)) rfl <| gDr [(11, 0), (13, 1)] (by kernel_rfl) rfl rfl <| gDe (by kernel_rfl) <| gJ (h K hK) [1, 2, 3] [] rfl hK pq4 ⟨⟨_, rfl, rfl, rfl, (ak _ V.str (fun _ => rfl) (List.replicate a ([] : List UInt8))).symm⟩, (pqo2 rfl rfl rfl rfl)⟩ rfl
 refine aW 9 hs55 (by kernel_rfl) rfl (by kernel_rfl) rfl rfl .rfl rfl rfl ?_
 obtain ⟨a, b, h⟩ := h
 refine gV 20 (.int .i64 ((a : Nat) : Int)) rfl (jz b) rfl ?_
 obtain ⟨hb, h⟩ := h
 refine bY 10 (.new (.row 9 1 (List.replicate a (.str [])))) rfl (by kernel_rfl) (dMk ab rfl rfl rfl rfl rfl rfl rfl (by kernel_rfl) hb) trivial rfl (by kernel_rfl) rfl rfl ?_
 exact gHR 3 (List.map V.str (List.replicate a ([] : List UInt8))) rfl (by first | (simp only [eE, List.map_replicate]; done) | (simp only [eE, List.map_replicate]; rfl)) rfl <| gDr [(11, 0), (13, 1)] (by kernel_rfl) rfl rfl <| gDe (by kernel_rfl) <| gJ (h K hK) [1, 2, 3] [] rfl hK pq4 ⟨⟨_, rfl, rfl, rfl, (ak _ V.str (fun _ => rfl) (List.replicate a ([] : List UInt8))).symm⟩, (pqo2 rfl rfl rfl rfl)⟩ rfl
theorem bd (m : Nat) (p0 : Tree) (p1 : List UInt8) (a : Nat) (r0 : Tree) (h : ((p0.kind = 1) → ∃ b, (List.replicate a ([] : List UInt8))[1]? = some b ∧ ∃ c, ((List.replicate a ([] : List UInt8)).set 1 [32])[2]? = some c ∧ bC m p0 p1 (((List.replicate a ([] : List UInt8)).set 1 [32]).set 2 [10]) [10, 10] [10, 10] r0) ∧ ((p0.kind ≠ 1) → ((p0.kind = 2) → ∃ d, (List.replicate a ([] : List UInt8))[1]? = some d ∧ ∃ e, ((List.replicate a ([] : List UInt8)).set 1 [32])[5]? = some e ∧ ((2 < (p0.kids.length : Int)) → bC m p0 p1 (((List.replicate a ([] : List UInt8)).set 1 [32]).set 5 [32]) [] [32] r0) ∧ ((¬ 2 < (p0.kids.length : Int)) → bC m p0 p1 (((List.replicate a ([] : List UInt8)).set 1 [32]).set 5 [32]) [32] [32] r0)) ∧ ((p0.kind ≠ 2) → ((p0.kind = 3) → jU m p0 p1 a true r0) ∧ ((p0.kind ≠ 3) → jU m p0 p1 a (p0.kind == 19) r0)))) : jY (m + 1) p0 p1 a r0 := by
 intro K hK
 refine gR 21 rfl <| qBeZ 25 26 rfl rfl rfl rfl h (fun h => ?_) fun h => ?_
 refine gR 2 rfl <| gDs [1] 7 8 rfl (by kernel_rfl) (by kernel_rfl) <| gDr [(0, 2), (1, 3), (2, 2), (3, 3)] (by kernel_rfl) rfl rfl ?_
 obtain ⟨b, hxs1_1, h⟩ := h
 refine db 4 rfl (by kernel_rfl) (yIO ab rfl rfl rfl rfl (by have := (mapget (f := V.str) hxs1_1); exact (List.getElem?_eq_some_iff.1 this).1)) rfl rfl ?_
 refine bY 5 (.set 2 (.row 9 1 (List.map V.str ((List.replicate a ([] : List UInt8)).set 1 [32])))) rfl (by kernel_rfl) (dSe ab rfl rfl rfl rfl (mapget (f := V.str) hxs1_1) rfl (fT V.str (List.replicate a ([] : List UInt8)) 1 [32])) (okS rfl) rfl (by kernel_rfl) rfl rfl ?_
 obtain ⟨c, hxs1_2, h⟩ := h
 refine db 6 rfl (by kernel_rfl) (yIO ab rfl rfl rfl rfl (by have := (mapget (f := V.str) hxs1_2); exact (List.getElem?_eq_some_iff.1 this).1)) rfl rfl ?_
 refine bY 7 (.set 2 (.row 9 1 (List.map V.str (((List.replicate a ([] : List UInt8)).set 1 [32]).set 2 [10])))) rfl (by kernel_rfl) (dSe ab rfl rfl rfl rfl (mapget (f := V.str) hxs1_2) rfl (fT V.str ((List.replicate a ([] : List UInt8)).set 1 [32]) 2 [10])) (okS rfl) rfl (by kernel_rfl) rfl rfl ?_
 exact gDe (by kernel_rfl) <| gR 7 rfl <| gJ (h K hK) [0, 1, 2] [] rfl hK pq6 ⟨⟨_, rfl, rfl, rfl, (ak _ V.str (fun _ => rfl) (((List.replicate a ([] : List UInt8)).set 1 [32]).set 2 [10])).symm⟩, (pqo2 rfl rfl rfl rfl)⟩ rfl
 refine gR 7 rfl <| qBeZ 33 34 rfl rfl rfl rfl h (fun h => ?_) fun h => ?_
 refine gR 2 rfl <| gDs [1] 7 8 rfl (by kernel_rfl) (by kernel_rfl) <| gDr [(0, 2), (1, 3), (2, 2), (3, 3)] (by kernel_rfl) rfl rfl ?_
 obtain ⟨d, hxs1_3, h⟩ := h
 refine db 4 rfl (by kernel_rfl) (yIO ab rfl rfl rfl rfl (by have := (mapget (f := V.str) hxs1_3); exact (List.getElem?_eq_some_iff.1 this).1)) rfl rfl ?_
 refine bY 5 (.set 2 (.row 9 1 (List.map V.str ((List.replicate a ([] : List UInt8)).set 1 [32])))) rfl (by kernel_rfl) (dSe ab rfl rfl rfl rfl (mapget (f := V.str) hxs1_3) rfl (fT V.str (List.replicate a ([] : List UInt8)) 1 [32])) (okS rfl) rfl (by kernel_rfl) rfl rfl ?_
 obtain ⟨e, hxs1_4, h⟩ := h
 refine db 6 rfl (by kernel_rfl) (yIO ab rfl rfl rfl rfl (by have := (mapget (f := V.str) hxs1_4); exact (List.getElem?_eq_some_iff.1 this).1)) rfl rfl ?_
 refine bY 7 (.set 2 (.row 9 1 (List.map V.str (((List.replicate a ([] : List UInt8)).set 1 [32]).set 5 [32])))) rfl (by kernel_rfl) (dSe ab rfl rfl rfl rfl (mapget (f := V.str) hxs1_4) rfl (fT V.str ((List.replicate a ([] : List UInt8)).set 1 [32]) 5 [32])) (okS rfl) rfl (by kernel_rfl) rfl rfl ?_
 refine gDe (by kernel_rfl) <| gR 6 rfl <| gV 43 (.int .i64 (p0.kids.length : Int)) rfl (bo (aR _)) rfl <| gLB 42 rfl (aR _) fun hl57 => gR 3 rfl <| qBd 44 rfl rfl rfl h (fun h => ?_) fun h => ?_
 exact gR 6 rfl <| gJ (h K hK) [0, 1, 2] [] rfl hK pq6 ⟨⟨_, rfl, rfl, rfl, (ak _ V.str (fun _ => rfl) (((List.replicate a ([] : List UInt8)).set 1 [32]).set 5 [32])).symm⟩, (pqo2 rfl rfl rfl rfl)⟩ rfl
 exact gR 4 rfl <| gJ (h K hK) [0, 1, 2] [] rfl hK pq6 ⟨⟨_, rfl, rfl, rfl, (ak _ V.str (fun _ => rfl) (((List.replicate a ([] : List UInt8)).set 1 [32]).set 5 [32])).symm⟩, (pqo2 rfl rfl rfl rfl)⟩ rfl
 refine gR 8 rfl <| qBeZ 45 46 rfl rfl rfl rfl h (fun h => ?_) fun h => ?_
 exact gR 3 rfl <| gJ (h K hK) [0, 1, 2] [] rfl hK pq8 ⟨⟨_, rfl, rfl, rfl, (ak _ V.str (fun _ => rfl) (List.replicate a ([] : List UInt8))).symm⟩, (pqo2 rfl rfl rfl rfl)⟩ rfl
 exact gR 6 rfl <| gJ (h K hK) [0, 1, 2] [] rfl hK pq8 ⟨⟨_, rfl, rfl, rfl, (ak _ V.str (fun _ => rfl) (List.replicate a ([] : List UInt8))).symm⟩, (pqo2 rfl rfl rfl rfl)⟩ rfl
theorem ju (m : Nat) (p0 : Tree) (p1 : List UInt8) (a : (List (List UInt8))) (b c : List UInt8) (r0 : Tree) (h : ((p0.kind ≠ 21) → ((p0.kind ≠ 17) → ∃ d, a[0]? = some d ∧ cv m p0 b c (a.set 0 p1) ([] : List Tree) 0 r0) ∧ ((p0.kind = 17) → cv m p0 b c a ([] : List Tree) 0 r0)) ∧ ((p0.kind = 21) → cv m p0 b c a ([] : List Tree) 0 r0)) : bC (m + 1) p0 p1 a b c r0 := by
 intro K hK
 refine gR 7 rfl <| gB 82 rfl rfl rfl ?_ ?_ <;> intro hd
 refine gT 81 rfl hd rfl ?_
 replace hd := (gw hd)
 replace h := h.1 hd
 refine gR 6 rfl <| gB 86 rfl rfl rfl ?_ ?_ <;> intro hd
 replace hd := (gw hd)
 replace h := h.1 hd
 refine gR 5 rfl ?_
 obtain ⟨d, hxs2_1, h⟩ := h
 refine gY (yIO ab rfl rfl rfl rfl (by have := (mapget (f := V.str) hxs2_1); exact (List.getElem?_eq_some_iff.1 this).1)) rfl rfl ?_
 exact gDo (.set 2 (.row 9 1 (List.map V.str (a.set 0 p1)))) (dSe ab rfl rfl rfl rfl (mapget (f := V.str) hxs2_1) rfl (fT V.str a 0 p1)) (okS rfl) rfl rfl rfl <| gR 8 rfl <| gV 93 (.int .i64 (p0.kids.length : Int)) rfl (bo (aR _)) rfl <| gLB 92 rfl (aR _) fun hl58 => gR 4 rfl <| go_loop m <| gNC 1 3 30 4 rfl rfl rfl rfl <| gJ (h K _ hK (by omega)) [0, 1, 2, 3] [] rfl hK pq7 ⟨⟨_, rfl, rfl, rfl, rfl⟩, ⟨_, rfl, rfl, rfl, (ak _ V.str (fun _ => rfl) (a.set 0 p1)).symm⟩, (pqo2 rfl rfl rfl rfl)⟩ rfl
 replace hd := (ey hd)
 replace h := h.2 hd
 exact gR 9 rfl <| gV 93 (.int .i64 (p0.kids.length : Int)) rfl (bo (aR _)) rfl <| gLB 92 rfl (aR _) fun hl59 => gR 4 rfl <| go_loop m <| gNC 1 3 30 4 rfl rfl rfl rfl <| gJ (h K _ hK (by omega)) [0, 1, 2, 3] [] rfl hK pq7 ⟨⟨_, rfl, rfl, rfl, rfl⟩, ⟨_, rfl, rfl, rfl, (ak _ V.str (fun _ => rfl) a).symm⟩, (pqo2 rfl rfl rfl rfl)⟩ rfl
 refine gF 81 rfl hd rfl ?_
 replace hd := (ey hd)
 replace h := h.2 hd
 exact gR 15 rfl <| gV 93 (.int .i64 (p0.kids.length : Int)) rfl (bo (aR _)) rfl <| gLB 92 rfl (aR _) fun hl60 => gR 4 rfl <| go_loop m <| gNC 1 3 30 4 rfl rfl rfl rfl <| gJ (h K _ hK (by omega)) [0, 1, 2, 3] [] rfl hK pq7 ⟨⟨_, rfl, rfl, rfl, rfl⟩, ⟨_, rfl, rfl, rfl, (ak _ V.str (fun _ => rfl) a).symm⟩, (pqo2 rfl rfl rfl rfl)⟩ rfl
theorem bJ (m : Nat) (p0 : Tree) (p1 : List UInt8) (a : Nat) (b : Bool) (r0 : Tree) (h : ((b = true) → ∃ c, (List.replicate a ([] : List UInt8))[1]? = some c ∧ ∃ d, ((List.replicate a ([] : List UInt8)).set 1 [32])[2]? = some d ∧ bC m p0 p1 (((List.replicate a ([] : List UInt8)).set 1 [32]).set 2 [32]) [32] [32] r0) ∧ ((b = false) → ((p0.kind = 20) → ∃ e, (List.replicate a ([] : List UInt8))[1]? = some e ∧ ∃ g, ((List.replicate a ([] : List UInt8)).set 1 [32])[2]? = some g ∧ ∃ i, (((List.replicate a ([] : List UInt8)).set 1 [32]).set 2 [32])[3]? = some i ∧ bC m p0 p1 ((((List.replicate a ([] : List UInt8)).set 1 [32]).set 2 [32]).set 3 [32]) [32] [32] r0) ∧ ((p0.kind ≠ 20) → ((p0.kind = 8) → fa m p0 p1 a true r0) ∧ ((p0.kind ≠ 8) → ((p0.kind = 16) → fa m p0 p1 a true r0) ∧ ((p0.kind ≠ 16) → ((p0.kind = 18) → fa m p0 p1 a true r0) ∧ ((p0.kind ≠ 18) → fa m p0 p1 a (p0.kind == 22) r0)))))) : jU (m + 1) p0 p1 a b r0 := by
 intro K hK
 refine qBi 45 rfl rfl rfl h (fun h => ?_) fun h => ?_
 refine gR 1 rfl <| gDs [1] 7 8 rfl (by kernel_rfl) (by kernel_rfl) <| gDr [(0, 2), (1, 3), (2, 2), (3, 3)] (by kernel_rfl) rfl rfl ?_
 obtain ⟨c, hxs3_1, h⟩ := h
 refine db 4 rfl (by kernel_rfl) (yIO ab rfl rfl rfl rfl (by have := (mapget (f := V.str) hxs3_1); exact (List.getElem?_eq_some_iff.1 this).1)) rfl rfl ?_
 refine bY 5 (.set 2 (.row 9 1 (List.map V.str ((List.replicate a ([] : List UInt8)).set 1 [32])))) rfl (by kernel_rfl) (dSe ab rfl rfl rfl rfl (mapget (f := V.str) hxs3_1) rfl (fT V.str (List.replicate a ([] : List UInt8)) 1 [32])) (okS rfl) rfl (by kernel_rfl) rfl rfl ?_
 obtain ⟨d, hxs3_2, h⟩ := h
 refine db 6 rfl (by kernel_rfl) (yIO ab rfl rfl rfl rfl (by have := (mapget (f := V.str) hxs3_2); exact (List.getElem?_eq_some_iff.1 this).1)) rfl rfl ?_
 refine bY 7 (.set 2 (.row 9 1 (List.map V.str (((List.replicate a ([] : List UInt8)).set 1 [32]).set 2 [32])))) rfl (by kernel_rfl) (dSe ab rfl rfl rfl rfl (mapget (f := V.str) hxs3_2) rfl (fT V.str ((List.replicate a ([] : List UInt8)).set 1 [32]) 2 [32])) (okS rfl) rfl (by kernel_rfl) rfl rfl ?_
 exact gDe (by kernel_rfl) <| gR 2 rfl <| gJ (h K hK) [0, 1, 2] [] rfl hK pq6 ⟨⟨_, rfl, rfl, rfl, (ak _ V.str (fun _ => rfl) (((List.replicate a ([] : List UInt8)).set 1 [32]).set 2 [32])).symm⟩, (pqo2 rfl rfl rfl rfl)⟩ rfl
 refine gR 7 rfl <| qBeZ 54 55 rfl rfl rfl rfl h (fun h => ?_) fun h => ?_
 refine gR 1 rfl <| gDs [1] 11 12 rfl (by kernel_rfl) (by kernel_rfl) <| gDr [(0, 2), (1, 3), (2, 2), (3, 3), (4, 2), (5, 3)] (by kernel_rfl) rfl rfl ?_
 obtain ⟨e, hxs3_3, h⟩ := h
 refine db 6 rfl (by kernel_rfl) (yIO ab rfl rfl rfl rfl (by have := (mapget (f := V.str) hxs3_3); exact (List.getElem?_eq_some_iff.1 this).1)) rfl rfl ?_
 refine bY 7 (.set 2 (.row 9 1 (List.map V.str ((List.replicate a ([] : List UInt8)).set 1 [32])))) rfl (by kernel_rfl) (dSe ab rfl rfl rfl rfl (mapget (f := V.str) hxs3_3) rfl (fT V.str (List.replicate a ([] : List UInt8)) 1 [32])) (okS rfl) rfl (by kernel_rfl) rfl rfl ?_
 obtain ⟨g, hxs3_4, h⟩ := h
 refine db 8 rfl (by kernel_rfl) (yIO ab rfl rfl rfl rfl (by have := (mapget (f := V.str) hxs3_4); exact (List.getElem?_eq_some_iff.1 this).1)) rfl rfl ?_
 refine bY 9 (.set 2 (.row 9 1 (List.map V.str (((List.replicate a ([] : List UInt8)).set 1 [32]).set 2 [32])))) rfl (by kernel_rfl) (dSe ab rfl rfl rfl rfl (mapget (f := V.str) hxs3_4) rfl (fT V.str ((List.replicate a ([] : List UInt8)).set 1 [32]) 2 [32])) (okS rfl) rfl (by kernel_rfl) rfl rfl ?_
 obtain ⟨i, hxs3_5, h⟩ := h
 refine db 10 rfl (by kernel_rfl) (yIO ab rfl rfl rfl rfl (by have := (mapget (f := V.str) hxs3_5); exact (List.getElem?_eq_some_iff.1 this).1)) rfl rfl ?_
 refine bY 11 (.set 2 (.row 9 1 (List.map V.str ((((List.replicate a ([] : List UInt8)).set 1 [32]).set 2 [32]).set 3 [32])))) rfl (by kernel_rfl) (dSe ab rfl rfl rfl rfl (mapget (f := V.str) hxs3_5) rfl (fT V.str (((List.replicate a ([] : List UInt8)).set 1 [32]).set 2 [32]) 3 [32])) (okS rfl) rfl (by kernel_rfl) rfl rfl ?_
 exact gDe (by kernel_rfl) <| gR 2 rfl <| gJ (h K hK) [0, 1, 2] [] rfl hK pq6 ⟨⟨_, rfl, rfl, rfl, (ak _ V.str (fun _ => rfl) ((((List.replicate a ([] : List UInt8)).set 1 [32]).set 2 [32]).set 3 [32])).symm⟩, (pqo2 rfl rfl rfl rfl)⟩ rfl
 refine gR 8 rfl <| qBeZ 65 66 rfl rfl rfl rfl h (fun h => ?_) fun h => ?_
 exact gR 3 rfl <| gJ (h K hK) [0, 1, 2] [] rfl hK pq8 ⟨⟨_, rfl, rfl, rfl, (ak _ V.str (fun _ => rfl) (List.replicate a ([] : List UInt8))).symm⟩, (pqo2 rfl rfl rfl rfl)⟩ rfl
 refine gR 7 rfl <| qBeZ 65 67 rfl rfl rfl rfl h (fun h => ?_) fun h => ?_
 exact gR 3 rfl <| gJ (h K hK) [0, 1, 2] [] rfl hK pq8 ⟨⟨_, rfl, rfl, rfl, (ak _ V.str (fun _ => rfl) (List.replicate a ([] : List UInt8))).symm⟩, (pqo2 rfl rfl rfl rfl)⟩ rfl
 refine gR 7 rfl <| qBeZ 65 68 rfl rfl rfl rfl h (fun h => ?_) fun h => ?_
 exact gR 3 rfl <| gJ (h K hK) [0, 1, 2] [] rfl hK pq8 ⟨⟨_, rfl, rfl, rfl, (ak _ V.str (fun _ => rfl) (List.replicate a ([] : List UInt8))).symm⟩, (pqo2 rfl rfl rfl rfl)⟩ rfl
 exact gR 6 rfl <| gJ (h K hK) [0, 1, 2] [] rfl hK pq8 ⟨⟨_, rfl, rfl, rfl, (ak _ V.str (fun _ => rfl) (List.replicate a ([] : List UInt8))).symm⟩, (pqo2 rfl rfl rfl rfl)⟩ rfl
theorem jo (m : Nat) (p0 : Tree) (f g : List UInt8) (c : (List (List UInt8))) (a : List Tree) (b : Nat) (r0 : Tree) (h : ((b < p0.kids.length) → ∃ i, p0.kids[b]? = some i ∧ (((b : Int) = 0) → ∃ d, fI i f d ∧ (a ++ [d]).length ≤ 1000000000 ∧ b + 1 ≤ 9223372036854775807 ∧ cv m p0 f g c (a ++ [d]) (b + 1) r0) ∧ (((b : Int) ≠ 0) → ∃ e, fI i g e ∧ (a ++ [e]).length ≤ 1000000000 ∧ b + 1 ≤ 9223372036854775807 ∧ cv m p0 f g c (a ++ [e]) (b + 1) r0)) ∧ ((¬ b < p0.kids.length) → (Tree.node p0.kind p0.text c a) = r0)) : cv (m + 1) p0 f g c a b r0 := by
 intro K j1 hK hj1
 obtain ⟨j1, rfl⟩ : ∃ j, j1 = j + 1 := ⟨j1 - 1, by omega⟩
 refine gR 6 rfl <| gB 95 rfl rfl rfl ?_ ?_ <;> intro hd
 replace hd := (dX hd)
 replace h := h.1 hd
 refine gR 8 rfl ?_
 obtain ⟨i, hxt4_1, h⟩ := h
 refine gY (bc (aw hxt4_1) ab rfl rfl rfl rfl) rfl rfl <| gR 19 rfl <| gB 101 rfl rfl rfl ?_ ?_ <;> intro hd
 replace hd := (eq_of_beq hd)
 replace h := h.1 hd
 refine gR 6 rfl <| gDs [1, 4] 8 9 rfl (by kernel_rfl) (by kernel_rfl) <| gDr [(0, 2), (1, 3), (2, 3), (3, 0)] (by kernel_rfl) rfl rfl ?_
 obtain ⟨d, hs61, h⟩ := h
 refine aW 4 hs61 (by kernel_rfl) rfl (by kernel_rfl) rfl rfl .rfl rfl rfl ?_
 refine gDr [(5, 0)] (by kernel_rfl) rfl rfl <| gHR 5 (kidsV [d]) rfl (lm d) rfl ?_
 obtain ⟨hb, h⟩ := h
 refine bY 6 (.repl 3 (.row 30 4 (kidsV (a ++ [d])))) rfl (by kernel_rfl) (bP ab rfl rfl rfl rfl rfl (fx a [d]).symm (by rw [aR]; exact hb)) (okR rfl) rfl (by kernel_rfl) rfl rfl ?_
 refine gDr [(7, 0), (8, 1)] (by kernel_rfl) rfl rfl <| gDe (by kernel_rfl) <| gR 3 rfl ?_
 obtain ⟨hb, h⟩ := h
 exact gR 1 rfl <| gV 111 (.int .i64 ((b + 1 : Nat) : Int)) rfl (au (by omega) (by omega)) rfl <| gR 2 rfl <| go_xloop <| gJ (h K _ hK (by omega)) [0, 1, 2, 6] [] rfl hK pq7 ⟨⟨_, rfl, rfl, rfl, (eY _ (a ++ [d])).symm⟩, ⟨_, rfl, rfl, rfl, (ak _ V.str (fun _ => rfl) c).symm⟩, (pqo2 rfl rfl rfl rfl)⟩ rfl
 replace hd := (ne_of_beq_false hd)
 replace h := h.2 hd
 refine gR 3 rfl <| gDs [1, 4] 8 9 rfl (by kernel_rfl) (by kernel_rfl) <| gDr [(0, 2), (1, 3), (2, 3), (3, 0)] (by kernel_rfl) rfl rfl ?_
 obtain ⟨e, hs62, h⟩ := h
 refine aW 4 hs62 (by kernel_rfl) rfl (by kernel_rfl) rfl rfl .rfl rfl rfl ?_
 refine gDr [(5, 0)] (by kernel_rfl) rfl rfl <| gHR 5 (kidsV [e]) rfl (lm e) rfl ?_
 obtain ⟨hb, h⟩ := h
 refine bY 6 (.repl 3 (.row 30 4 (kidsV (a ++ [e])))) rfl (by kernel_rfl) (bP ab rfl rfl rfl rfl rfl (fx a [e]).symm (by rw [aR]; exact hb)) (okR rfl) rfl (by kernel_rfl) rfl rfl ?_
 refine gDr [(7, 0), (8, 1)] (by kernel_rfl) rfl rfl <| gDe (by kernel_rfl) <| gR 3 rfl ?_
 obtain ⟨hb, h⟩ := h
 exact gR 1 rfl <| gV 111 (.int .i64 ((b + 1 : Nat) : Int)) rfl (au (by omega) (by omega)) rfl <| gR 2 rfl <| go_xloop <| gJ (h K _ hK (by omega)) [0, 1, 2, 6] [] rfl hK pq7 ⟨⟨_, rfl, rfl, rfl, (eY _ (a ++ [e])).symm⟩, ⟨_, rfl, rfl, rfl, (ak _ V.str (fun _ => rfl) c).symm⟩, (pqo2 rfl rfl rfl rfl)⟩ rfl
 replace hd := (dW hd)
 replace h := h.2 hd
 refine gR 3 rfl <| go_xloopE <| gR 9 rfl <| gFR 2 rfl (iX _ (fun _ => rfl) _) rfl rfl <| gFR 3 rfl (dd _) rfl rfl ?_
 subst h
 exact go_sub (F' := (mkF 113 0 [(4, .ptr 0 0)])) (H' := ⟨1, [(0, .var 30 [.int .i64 ((Tree.node p0.kind p0.text c a).kind), .str ((Tree.node p0.kind p0.text c a).text), .row 1 (List.map V.str ((Tree.node p0.kind p0.text c a).leads)), .row 4 (kidsV ((Tree.node p0.kind p0.text c a).kids))])]⟩) [0] [] rfl hK pq1 (pqo1 rfl rfl) rfl <| go_end ab (rs := [.cell 4 30]) rfl rfl rfl
theorem cI (m : Nat) (p0 : Tree) (p1 : List UInt8) (a : Nat) (b : Bool) (r0 : Tree) (h : ((b = true) → bC m p0 p1 (List.replicate a ([] : List UInt8)) [] [32] r0) ∧ ((b = false) → ((p0.kind = 17) → bC m p0 p1 (List.replicate a ([] : List UInt8)) p1 [32] r0) ∧ ((p0.kind ≠ 17) → ((p0.kind = 21) → ∃ c, (List.replicate a ([] : List UInt8))[0]? = some c ∧ bC m p0 p1 ((List.replicate a ([] : List UInt8)).set 0 [32]) p1 [32] r0) ∧ ((p0.kind ≠ 21) → bC m p0 p1 (List.replicate a ([] : List UInt8)) [32] [32] r0)))) : fa (m + 1) p0 p1 a b r0 := by
 intro K hK
 refine qBi 65 rfl rfl rfl h (fun h => ?_) fun h => ?_
 exact gR 6 rfl <| gJ (h K hK) [0, 1, 2] [] rfl hK pq6 ⟨⟨_, rfl, rfl, rfl, (ak _ V.str (fun _ => rfl) (List.replicate a ([] : List UInt8))).symm⟩, (pqo2 rfl rfl rfl rfl)⟩ rfl
 refine gR 7 rfl <| qBeZ 70 71 rfl rfl rfl rfl h (fun h => ?_) fun h => ?_
 exact gR 7 rfl <| gJ (h K hK) [0, 1, 2] [] rfl hK pq6 ⟨⟨_, rfl, rfl, rfl, (ak _ V.str (fun _ => rfl) (List.replicate a ([] : List UInt8))).symm⟩, (pqo2 rfl rfl rfl rfl)⟩ rfl
 refine gR 7 rfl <| qBeZ 73 74 rfl rfl rfl rfl h (fun h => ?_) fun h => ?_
 refine gR 5 rfl ?_
 obtain ⟨c, hxs5_1, h⟩ := h
 refine gY (yIO ab rfl rfl rfl rfl (by have := (mapget (f := V.str) hxs5_1); exact (List.getElem?_eq_some_iff.1 this).1)) rfl rfl ?_
 exact gDo (.set 2 (.row 9 1 (List.map V.str ((List.replicate a ([] : List UInt8)).set 0 [32])))) (dSe ab rfl rfl rfl rfl (mapget (f := V.str) hxs5_1) rfl (fT V.str (List.replicate a ([] : List UInt8)) 0 [32])) (okS rfl) rfl rfl rfl <| gR 8 rfl <| gJ (h K hK) [0, 1, 2] [] rfl hK pq6 ⟨⟨_, rfl, rfl, rfl, (ak _ V.str (fun _ => rfl) ((List.replicate a ([] : List UInt8)).set 0 [32])).symm⟩, (pqo2 rfl rfl rfl rfl)⟩ rfl
 exact gR 4 rfl <| gJ (h K hK) [0, 1, 2] [] rfl hK pq6 ⟨⟨_, rfl, rfl, rfl, (ak _ V.str (fun _ => rfl) (List.replicate a ([] : List UInt8))).symm⟩, (pqo2 rfl rfl rfl rfl)⟩ rfl
theorem rj (m : Nat) (p0 r0 : Tree) (h : ∃ b, eM p0 b ∧ ((b = false) → (Tree.node 0 [] [] []) = r0) ∧ ((b = true) → ∃ a, fI p0 [] a ∧ a = r0)) : dm p0 r0 := by
 refine ⟨rfl, rfl, ?_⟩
 refine am 9 [] Tryz.func9 rfl rfl rfl (aQ rfl) fun K hK => ?_
 refine gR 3 rfl <| gFP 0 rfl rfl rfl rfl <| gR 7 rfl ?_
 obtain ⟨b, hs3, h⟩ := h
 refine gC0 hs3 (by kernel_rfl) rfl rfl .rfl rfl <| gR 3 rfl <| qBh 5 rfl rfl rfl h cg cf (fun h => ?_) fun h => ?_
 refine gR 9 rfl ?_
 subst h
 exact go_sub (F' := (mkF 9 0 [(2, .ptr 0 0)])) (H' := ⟨1, [(0, .var 30 [.int .i64 ((Tree.node 0 [] [] []).kind), .str ((Tree.node 0 [] [] []).text), .row 1 (List.map V.str ((Tree.node 0 [] [] []).leads)), .row 4 (kidsV ((Tree.node 0 [] [] []).kids))])]⟩) [1] [] rfl hK pq1 ⟨⟨_, rfl, rfl, (.cons .rfl (.cons .rfl (.cons (.nil 1) (.cons (.nil 4) .nil))))⟩, trivial⟩ rfl <| go_end ab (rs := [.cell 2 30]) rfl rfl rfl
 refine gR 6 rfl ?_
 obtain ⟨a, hs4, h⟩ := h
 refine gC0 hs4 (by kernel_rfl) rfl rfl .rfl rfl <| gR 4 rfl ?_
 subst h
 exact go_sub (F' := (mkF 9 0 [(2, .ptr 0 0)])) (H' := ⟨1, [(0, .var 30 [.int .i64 a.kind, .str a.text, .row 1 (List.map V.str a.leads), .row 4 (kidsV a.kids)])]⟩) [1] [] rfl hK pq1 (pqo1 rfl rfl) rfl <| go_end ab (rs := [.cell 2 30]) rfl rfl rfl
theorem pX (m : Nat) (p0 : Tree) (r0 : Bool) (h : ∃ a, eM p0 a ∧ ((a = true) → ∃ b, dm p0 b ∧ ∃ c, iH p0 b c ∧ c = r0) ∧ ((a = false) → false = r0)) : eG p0 r0 := by
 refine ⟨rfl, rfl, ?_⟩
 refine am 11 [] Tryz.func14 rfl rfl rfl (aQ rfl) fun K hK => ?_
 refine gR 3 rfl <| gFP 0 rfl rfl rfl rfl <| gR 4 rfl <| gDs [] 9 9 rfl (by kernel_rfl) (by kernel_rfl) <| gDr [(0, 0)] (by kernel_rfl) rfl rfl ?_
 obtain ⟨a, hs4, h⟩ := h
 refine aW 1 hs4 (by kernel_rfl) rfl (by kernel_rfl) rfl rfl .rfl rfl rfl ?_
 refine gDr [(2, 0)] (by kernel_rfl) rfl rfl <| qBiZ 5 4 rfl rfl rfl rfl h (fun h => ?_) fun h => ?_
 refine gDr [(3, 2), (4, 0)] (by kernel_rfl) rfl rfl ?_
 obtain ⟨b, hs5, h⟩ := h
 refine aW 5 hs5 (by kernel_rfl) rfl (by kernel_rfl) rfl rfl .rfl rfl rfl ?_
 obtain ⟨c, hs6, h⟩ := h
 refine aW 6 hs6 (by kernel_rfl) rfl (by kernel_rfl) rfl rfl .rfl rfl rfl ?_
 refine gDr [(7, 0), (8, 0)] (by kernel_rfl) rfl rfl <| gDe (by kernel_rfl) <| gR 2 rfl ?_
 subst h
 exact go_end ab (rs := [.tmp 2]) rfl rfl rfl
 refine gDr [(3, 2), (4, 0), (5, 0), (6, 0), (7, 0), (8, 0)] (by kernel_rfl) rfl rfl <| gDe (by kernel_rfl) <| gR 2 rfl ?_
 subst h
 exact go_end ab (rs := [.tmp 2]) rfl rfl rfl
theorem nd (m : Nat) (p0 : Tree) (r0 : Bool) (h : ∃ a, cR p0 a ∧ ((a = true) → ∃ b, cz p0 b ∧ ∃ c, eJ p0 b c ∧ c = r0) ∧ ((a = false) → false = r0)) : fU p0 r0 := by
 refine ⟨rfl, rfl, ?_⟩
 refine am 11 [] Tryz.func15 rfl rfl rfl (aQ rfl) fun K hK => ?_
 refine gR 3 rfl <| gFP 0 rfl rfl rfl rfl <| gR 4 rfl <| gDs [] 9 9 rfl (by kernel_rfl) (by kernel_rfl) <| gDr [(0, 0)] (by kernel_rfl) rfl rfl ?_
 obtain ⟨a, hs4, h⟩ := h
 refine aW 1 hs4 (by kernel_rfl) rfl (by kernel_rfl) rfl rfl .rfl rfl rfl ?_
 refine gDr [(2, 0)] (by kernel_rfl) rfl rfl <| qBiZ 5 4 rfl rfl rfl rfl h (fun h => ?_) fun h => ?_
 refine gDr [(3, 2), (4, 0)] (by kernel_rfl) rfl rfl ?_
 obtain ⟨b, hs5, h⟩ := h
 refine aW 5 hs5 (by kernel_rfl) rfl (by kernel_rfl) rfl rfl .rfl rfl rfl ?_
 obtain ⟨c, hs6, h⟩ := h
 refine aW 6 hs6 (by kernel_rfl) rfl (by kernel_rfl) rfl rfl .rfl rfl rfl ?_
 refine gDr [(7, 0), (8, 0)] (by kernel_rfl) rfl rfl <| gDe (by kernel_rfl) <| gR 2 rfl ?_
 subst h
 exact go_end ab (rs := [.tmp 2]) rfl rfl rfl
 refine gDr [(3, 2), (4, 0), (5, 0), (6, 0), (7, 0), (8, 0)] (by kernel_rfl) rfl rfl <| gDe (by kernel_rfl) <| gR 2 rfl ?_
 subst h
 exact go_end ab (rs := [.tmp 2]) rfl rfl rfl
def em (m : Nat) (p0 p1 : Tree) (a : Nat) (r0 : Bool) : Prop := ∀ (K : Ctx) (j1 : Nat), aB K [] → m ≤ j1 → qLG K Tryz.f8 (fun u _ => u = .bool r0) (xH (ac Tryz.f8)) [.loop (xH (ac Tryz.f8)) j1, .blk 0, .seq (xI (ac Tryz.f8))] 54 (mkF 54 0 [(2, .box (aj p0) 0), (3, .box (aj p1) 0), (5, .int .i64 (a : Int))]) ⟨0, []⟩
theorem fN (m : Nat) (p0 p1 : Tree) (r0 : Bool) (h : ((p0.kind ≠ p1.kind) → false = r0) ∧ ((p0.kind = p1.kind) → ((p0.text ≠ p1.text) → false = r0) ∧ ((p0.text = p1.text) → ∃ a, eb p0.leads p1.leads a ∧ ((a = false) → false = r0) ∧ ((a = true) → ((p0.kids.length ≠ p1.kids.length) → false = r0) ∧ ((p0.kids.length = p1.kids.length) → em m p0 p1 0 r0))))) : eJ p0 p1 r0 := by
 refine ⟨rfl, rfl, ?_⟩
 refine am 54 [] Tryz.func8 rfl rfl rfl (aQ rfl) fun K hK => ?_
 refine gR 3 rfl <| gFP 0 rfl rfl rfl rfl <| gR 1 rfl <| gFP 1 rfl rfl rfl rfl <| gR 12 rfl <| gB 11 rfl rfl rfl ?_ ?_ <;> intro hd
 refine gT 10 rfl hd rfl ?_
 replace hd := (gw hd)
 replace h := h.1 hd
 refine gR 33 rfl ?_
 subst h
 exact go_end ab (rs := [.tmp 4]) rfl rfl rfl
 refine gF 10 rfl hd rfl ?_
 replace hd := (ey hd)
 replace h := h.2 hd
 refine gR 7 rfl <| gB 18 rfl rfl rfl ?_ ?_ <;> intro hd
 refine gT 17 rfl hd rfl ?_
 replace hd := (gw hd)
 replace h := h.1 hd
 refine gR 26 rfl ?_
 subst h
 exact go_end ab (rs := [.tmp 4]) rfl rfl rfl
 refine gF 17 rfl hd rfl ?_
 replace hd := (ey hd)
 replace h := h.2 hd
 refine gR 4 rfl ?_
 obtain ⟨a, hs11, h⟩ := h
 refine gC0 hs11 (by kernel_rfl) rfl rfl .rfl rfl <| gR 3 rfl <| gB 26 rfl rfl rfl ?_ ?_ <;> intro hd
 refine gT 25 rfl hd rfl ?_
 replace hd := (cg hd)
 replace h := h.1 hd
 refine gR 18 rfl ?_
 subst h
 exact go_end ab (rs := [.tmp 4]) rfl rfl rfl
 refine gF 25 rfl hd rfl ?_
 replace hd := (cf hd)
 replace h := h.2 hd
 refine gR 3 rfl <| gV 29 (.int .i64 (p0.kids.length : Int)) rfl (bo (aR _)) rfl <| gLB 28 rfl (aR _) fun hl12 => gR 3 rfl <| gV 32 (.int .i64 (p1.kids.length : Int)) rfl (bo (aR _)) rfl <| gLB 31 rfl (aR _) fun hl13 => gR 4 rfl <| gB 34 rfl rfl rfl ?_ ?_ <;> intro hd
 replace hd := (yH hd)
 replace h := h.1 hd
 refine gR 8 rfl ?_
 subst h
 exact go_end ab (rs := [.tmp 4]) rfl rfl rfl
 replace hd := (yn hd)
 replace h := h.2 hd
 exact gR 10 rfl <| go_loop m <| gJ (h K _ hK (by omega)) [] [] rfl hK pq3 trivial rfl
theorem lA (m : Nat) (p0 p1 : Tree) (a : Nat) (r0 : Bool) (h : ((a < p0.kids.length) → ∃ c, p0.kids[a]? = some c ∧ ∃ d, p1.kids[a]? = some d ∧ ∃ b, eJ c d b ∧ ((b = false) → false = r0) ∧ ((b = true) → em m p0 p1 (a + 1) r0)) ∧ ((¬ a < p0.kids.length) → true = r0)) : em (m + 1) p0 p1 a r0 := by
 intro K j1 hK hj1
 obtain ⟨j1, rfl⟩ : ∃ j, j1 = j + 1 := ⟨j1 - 1, by omega⟩
 refine gR 7 rfl <| gV 38 (.int .i64 (p0.kids.length : Int)) rfl (bo (aR _)) rfl <| gLB 37 rfl (aR _) fun hl14 => gR 3 rfl <| gB 39 rfl rfl rfl ?_ ?_ <;> intro hd
 replace hd := (dX hd)
 replace h := h.1 hd
 refine gR 6 rfl <| gDs [] 12 12 rfl (by kernel_rfl) (by kernel_rfl) <| gDr [(0, 2), (1, 2), (2, 2)] (by kernel_rfl) rfl rfl ?_
 obtain ⟨c, hxt1_1, h⟩ := h
 refine gYd 3 rfl (by kernel_rfl) (bc (aw hxt1_1) ab rfl rfl rfl rfl) rfl rfl <| gDr [(4, 2), (5, 2), (6, 2), (7, 0)] (by kernel_rfl) rfl rfl ?_
 obtain ⟨d, hxt1_2, h⟩ := h
 refine db 8 rfl (by kernel_rfl) (bc (aw hxt1_2) ab rfl rfl rfl rfl) rfl rfl ?_
 refine gDr [(9, 0)] (by kernel_rfl) rfl rfl ?_
 obtain ⟨b, hs15, h⟩ := h
 refine aW 10 hs15 (by kernel_rfl) rfl (by kernel_rfl) rfl rfl .rfl rfl rfl ?_
 refine gDr [(11, 0)] (by kernel_rfl) rfl rfl <| gDe (by kernel_rfl) <| gR 1 rfl <| gB 53 rfl rfl rfl ?_ ?_ <;> intro hd
 replace hd := (cg hd)
 replace h := h.1 hd
 refine gR 9 rfl <| go_xloopR <| gR 2 rfl ?_
 subst h
 exact go_end ab (rs := [.tmp 4]) rfl rfl rfl
 replace hd := (cf hd)
 replace h := h.2 hd
 exact gR 7 rfl <| gV 41 (.int .i64 ((a + 1 : Nat) : Int)) rfl (au (by have := hl14; omega) (by omega)) rfl <| gR 2 rfl <| go_xloop <| gJ (h K _ hK (by omega)) [] [] rfl hK pq3 trivial rfl
 replace hd := (dW hd)
 replace h := h.2 hd
 refine gR 3 rfl <| go_xloopE <| gR 8 rfl ?_
 subst h
 exact go_end ab (rs := [.tmp 4]) rfl rfl rfl
def jp (m : Nat) (p0 p1 : Tree) (a : Nat) (r0 : Bool) : Prop := ∀ (K : Ctx) (j1 : Nat), aB K [] → m ≤ j1 → qLG K Tryz.f16 (fun u _ => u = .bool r0) (xH (ac Tryz.f16)) [.loop (xH (ac Tryz.f16)) j1, .blk 0, .seq (xI (ac Tryz.f16))] 54 (mkF 54 0 [(2, .box (aj p0) 0), (3, .box (aj p1) 0), (37, .int .i64 (p0.kids.length : Int)), (38, .int .i64 (a : Int))]) ⟨0, []⟩
theorem lI (m : Nat) (p0 p1 : Tree) (r0 : Bool) (h : ((p0.kind ≠ p1.kind) → false = r0) ∧ ((p0.kind = p1.kind) → ((p0.text ≠ p1.text) → false = r0) ∧ ((p0.text = p1.text) → ((p0.kids.length ≠ p1.kids.length) → false = r0) ∧ ((p0.kids.length = p1.kids.length) → ∃ a, lR p0.leads p1.leads a ∧ ((a = false) → false = r0) ∧ ((a = true) → jp m p0 p1 0 r0))))) : iH p0 p1 r0 := by
 refine ⟨rfl, rfl, ?_⟩
 refine am 54 [] Tryz.func16 rfl rfl rfl (aQ rfl) fun K hK => ?_
 refine gR 3 rfl <| gFP 0 rfl rfl rfl rfl <| gR 1 rfl <| gFP 1 rfl rfl rfl rfl <| gR 12 rfl <| gB 11 rfl rfl rfl ?_ ?_ <;> intro hd
 refine gT 10 rfl hd rfl ?_
 replace hd := (gw hd)
 replace h := h.1 hd
 refine gR 33 rfl ?_
 subst h
 exact go_end ab (rs := [.tmp 4]) rfl rfl rfl
 refine gF 10 rfl hd rfl ?_
 replace hd := (ey hd)
 replace h := h.2 hd
 refine gR 7 rfl <| gB 18 rfl rfl rfl ?_ ?_ <;> intro hd
 refine gT 17 rfl hd rfl ?_
 replace hd := (gw hd)
 replace h := h.1 hd
 refine gR 26 rfl ?_
 subst h
 exact go_end ab (rs := [.tmp 4]) rfl rfl rfl
 refine gF 17 rfl hd rfl ?_
 replace hd := (ey hd)
 replace h := h.2 hd
 refine gR 3 rfl <| gV 21 (.int .i64 (p0.kids.length : Int)) rfl (bo (aR _)) rfl <| gLB 20 rfl (aR _) fun hl9 => gR 3 rfl <| gV 24 (.int .i64 (p1.kids.length : Int)) rfl (bo (aR _)) rfl <| gLB 23 rfl (aR _) fun hl10 => gR 3 rfl <| gB 27 rfl rfl rfl ?_ ?_ <;> intro hd
 refine gT 26 rfl hd rfl ?_
 replace hd := (yH hd)
 replace h := h.1 hd
 refine gR 17 rfl ?_
 subst h
 exact go_end ab (rs := [.tmp 4]) rfl rfl rfl
 refine gF 26 rfl hd rfl ?_
 replace hd := (yn hd)
 replace h := h.2 hd
 refine gR 4 rfl ?_
 obtain ⟨a, hs11, h⟩ := h
 refine gC0 hs11 (by kernel_rfl) rfl rfl .rfl rfl <| gR 4 rfl <| gB 34 rfl rfl rfl ?_ ?_ <;> intro hd
 replace hd := (cg hd)
 replace h := h.1 hd
 refine gR 8 rfl ?_
 subst h
 exact go_end ab (rs := [.tmp 4]) rfl rfl rfl
 replace hd := (cf hd)
 replace h := h.2 hd
 exact gR 9 rfl <| gV 37 (.int .i64 (p0.kids.length : Int)) rfl (bo (aR _)) rfl <| gR 4 rfl <| go_loop m <| gJ (h K _ hK (by omega)) [] [] rfl hK pq4 trivial rfl
theorem pS (m : Nat) (p0 p1 : Tree) (a : Nat) (r0 : Bool) (h : ((a < p0.kids.length) → ∃ c, p0.kids[a]? = some c ∧ ∃ d, p1.kids[a]? = some d ∧ ∃ b, iH c d b ∧ ((b = false) → false = r0) ∧ ((b = true) → a + 1 ≤ 9223372036854775807 ∧ jp m p0 p1 (a + 1) r0)) ∧ ((¬ a < p0.kids.length) → true = r0)) : jp (m + 1) p0 p1 a r0 := by
 intro K j1 hK hj1
 obtain ⟨j1, rfl⟩ : ∃ j, j1 = j + 1 := ⟨j1 - 1, by omega⟩
 refine gR 6 rfl <| gB 39 rfl rfl rfl ?_ ?_ <;> intro hd
 replace hd := (dX hd)
 replace h := h.1 hd
 refine gR 12 rfl <| gDs [] 12 12 rfl (by kernel_rfl) (by kernel_rfl) <| gDr [(0, 2), (1, 2), (2, 2)] (by kernel_rfl) rfl rfl ?_
 obtain ⟨c, hxt1_1, h⟩ := h
 refine gYd 3 rfl (by kernel_rfl) (bc (aw hxt1_1) ab rfl rfl rfl rfl) rfl rfl <| gDr [(4, 2), (5, 2), (6, 2), (7, 0)] (by kernel_rfl) rfl rfl ?_
 obtain ⟨d, hxt1_2, h⟩ := h
 refine db 8 rfl (by kernel_rfl) (bc (aw hxt1_2) ab rfl rfl rfl rfl) rfl rfl ?_
 refine gDr [(9, 0)] (by kernel_rfl) rfl rfl ?_
 obtain ⟨b, hs12, h⟩ := h
 refine aW 10 hs12 (by kernel_rfl) rfl (by kernel_rfl) rfl rfl .rfl rfl rfl ?_
 refine gDr [(11, 0)] (by kernel_rfl) rfl rfl <| gDe (by kernel_rfl) <| gR 1 rfl <| gB 52 rfl rfl rfl ?_ ?_ <;> intro hd
 replace hd := (cg hd)
 replace h := h.1 hd
 refine gR 9 rfl <| go_xloopR <| gR 2 rfl ?_
 subst h
 exact go_end ab (rs := [.tmp 4]) rfl rfl rfl
 replace hd := (cf hd)
 replace h := h.2 hd
 refine gR 5 rfl ?_
 obtain ⟨hb, h⟩ := h
 exact gR 1 rfl <| gV 53 (.int .i64 ((a + 1 : Nat) : Int)) rfl (au (by omega) (by omega)) rfl <| gR 2 rfl <| go_xloop <| gJ (h K _ hK (by omega)) [] [] rfl hK pq4 trivial rfl
 replace hd := (dW hd)
 replace h := h.2 hd
 refine gR 3 rfl <| go_xloopE <| gR 8 rfl ?_
 subst h
 exact go_end ab (rs := [.tmp 4]) rfl rfl rfl
def ia (m : Nat) (p0 : Tree) (a : List Tree) (b : Nat) (r0 : Tree) : Prop := ∀ (K : Ctx) (j1 : Nat), aB K [] → m ≤ j1 → qLG K Tryz.f17 (fun u _ => u = .agg (aj r0)) (xN (ac Tryz.f17)) [.loop (xN (ac Tryz.f17)) j1, .blk 0, .seq (xJ (ac Tryz.f17))] 36 (mkF 36 0 [(2, .ptr 0 0), (3, .ptr 1 0), (21, .row 4 (kidsV p0.kids)), (22, .int .i64 (p0.kids.length : Int)), (23, .int .i64 (b : Int))]) ⟨3, [(2, .row 30 4 (kidsV a)), (1, .var 30 [.int .i64 p0.kind, .str p0.text, .nils, .sl 2]), (0, .var 30 [.int .i64 0, .str [], .nils, .nils])]⟩
theorem qo (m : Nat) (p0 r0 : Tree) (h : ((0 < (p0.kids.length : Int)) → p0.kids.length ≤ 1000000000 ∧ ia m p0 (List.replicate p0.kids.length (Tree.node 0 [] [] [])) 0 r0) ∧ ((¬ 0 < (p0.kids.length : Int)) → ia m p0 ([] : List Tree) 0 r0)) : kh p0 r0 := by
 refine ⟨rfl, rfl, ?_⟩
 refine am 36 [] Tryz.func17 rfl rfl rfl (aQ rfl) fun K hK => ?_
 refine gR 3 rfl <| gFP 0 rfl rfl rfl rfl <| gR 20 rfl <| gV 13 (.int .i64 (p0.kids.length : Int)) rfl (bo (aR _)) rfl <| gLB 12 rfl (aR _) fun hl5 => gR 3 rfl <| gB 14 rfl rfl rfl ?_ ?_ <;> intro hd
 replace hd := (of_decide_eq_true hd)
 replace h := h.1 hd
 refine gR 5 rfl <| gV 17 (.int .i64 (p0.kids.length : Int)) rfl (bo (aR _)) rfl ?_
 obtain ⟨hb, h⟩ := h
 exact gDo (.new (.row 30 4 (List.replicate p0.kids.length (.agg [.int .i64 0, .str [], .nils, .nils])))) (dMk ab rfl rfl rfl rfl rfl rfl rfl (by kernel_rfl) hb) trivial rfl rfl rfl <| gHW 3 (List.replicate p0.kids.length (.agg [.int .i64 0, .str [], .row 1 [], .row 4 (kidsV [])])) rfl rfl (aD.rep (.agg (.cons .rfl (.cons .rfl (.cons (.nil 1) (.cons (.nil 4) .nil))))) _) rfl <| gHR 3 (kidsV (List.replicate p0.kids.length (Tree.node 0 [] [] []))) rfl (by first | (simp only [eE, List.map_replicate]; done) | (simp only [eE, List.map_replicate]; rfl)) rfl <| gR 10 rfl <| gV 22 (.int .i64 (p0.kids.length : Int)) rfl (bo (aR _)) rfl <| gR 4 rfl <| go_loop m <| gJ (h K _ hK (by omega)) [1, 2, 3] [] rfl hK pq5 ⟨⟨_, rfl, rfl, rfl, (eY _ (List.replicate p0.kids.length (Tree.node 0 [] [] []))).symm⟩, (pqo2 rfl rfl rfl rfl)⟩ rfl
 replace hd := (of_decide_eq_false hd)
 replace h := h.2 hd
 exact gR 9 rfl <| gV 22 (.int .i64 (p0.kids.length : Int)) rfl (bo (aR _)) rfl <| gR 4 rfl <| go_loop m <| gNC 2 3 30 4 rfl rfl rfl rfl <| gJ (h K _ hK (by omega)) [1, 2, 3] [] rfl hK pq5 ⟨⟨_, rfl, rfl, rfl, rfl⟩, (pqo2 rfl rfl rfl rfl)⟩ rfl
theorem pQ (m : Nat) (p0 : Tree) (b : List Tree) (a : Nat) (r0 : Tree) (h : ((a < p0.kids.length) → ∃ d, p0.kids[a]? = some d ∧ ∃ c, kh d c ∧ ∃ e, b[a]? = some e ∧ a + 1 ≤ 9223372036854775807 ∧ ia m p0 (b.set a c) (a + 1) r0) ∧ ((¬ a < p0.kids.length) → (Tree.node p0.kind p0.text [] b) = r0)) : ia (m + 1) p0 b a r0 := by
 intro K j1 hK hj1
 obtain ⟨j1, rfl⟩ : ∃ j, j1 = j + 1 := ⟨j1 - 1, by omega⟩
 refine gR 6 rfl <| gB 24 rfl rfl rfl ?_ ?_ <;> intro hd
 replace hd := (dX hd)
 replace h := h.1 hd
 refine gR 8 rfl ?_
 obtain ⟨d, hxt1_1, h⟩ := h
 refine gY (bc (aw hxt1_1) ab rfl rfl rfl rfl) rfl rfl <| gR 6 rfl <| gDs [1, 3] 6 7 rfl (by kernel_rfl) (by kernel_rfl) <| gDr [(0, 2), (1, 3), (2, 2), (3, 0)] (by kernel_rfl) rfl rfl ?_
 obtain ⟨c, hs6, h⟩ := h
 refine aW 4 hs6 (by kernel_rfl) rfl (by kernel_rfl) rfl rfl .rfl rfl rfl ?_
 obtain ⟨e, hxt1_3, h⟩ := h
 refine db 5 rfl (by kernel_rfl) (yIO ab rfl rfl rfl rfl (by have := (aw hxt1_3); exact (List.getElem?_eq_some_iff.1 this).1)) rfl rfl ?_
 refine bY 6 (.set 2 (.row 30 4 (kidsV (b.set a c)))) rfl (by kernel_rfl) (dSe ab rfl rfl rfl rfl (aw hxt1_3) rfl (yL b a c)) (okS rfl) rfl (by kernel_rfl) rfl rfl ?_
 refine gDe (by kernel_rfl) <| gR 3 rfl ?_
 obtain ⟨hb, h⟩ := h
 exact gR 1 rfl <| gV 34 (.int .i64 ((a + 1 : Nat) : Int)) rfl (au (by omega) (by omega)) rfl <| gR 2 rfl <| go_xloop <| gJ (h K _ hK (by omega)) [0, 1, 2] [] rfl hK pq5 ⟨⟨_, rfl, rfl, rfl, (eY _ (b.set a c)).symm⟩, (pqo2 rfl rfl rfl rfl)⟩ rfl
 replace hd := (dW hd)
 replace h := h.2 hd
 refine gR 3 rfl <| go_xloopE <| gR 9 rfl <| gFR 2 rfl (dd _) rfl rfl ?_
 subst h
 exact go_sub (F' := (mkF 36 0 [(2, .ptr 0 0)])) (H' := ⟨1, [(0, .var 30 [.int .i64 ((Tree.node p0.kind p0.text [] b).kind), .str ((Tree.node p0.kind p0.text [] b).text), .row 1 (List.map V.str ((Tree.node p0.kind p0.text [] b).leads)), .row 4 (kidsV ((Tree.node p0.kind p0.text [] b).kids))])]⟩) [0] [] rfl hK pq1 ⟨⟨_, rfl, rfl, (.cons .rfl (.cons .rfl (.cons (.nil 1) (.cons .rfl .nil))))⟩, trivial⟩ rfl <| go_end ab (rs := [.cell 2 30]) rfl rfl rfl
def gl (m : Nat) (p0 : (List (List UInt8))) (p1 : (List (List UInt8))) (a : Nat) (r0 : Bool) : Prop := ∀ (K : Ctx) (j1 : Nat), aB K [] → m ≤ j1 → qLG K Tryz.f30 (fun u _ => u = .bool r0) (xH (ac Tryz.f30)) [.loop (xH (ac Tryz.f30)) j1, .blk 0, .seq (xI (ac Tryz.f30))] 26 (mkF 26 0 [(0, .row 1 (List.map V.str p0)), (1, .row 1 (List.map V.str p1)), (12, .int .i64 (p0.length : Int)), (13, .int .i64 (a : Int))]) ⟨0, []⟩
theorem oa (m : Nat) (p0 : (List (List UInt8))) (p1 : (List (List UInt8))) (r0 : Bool) (h : ((p0.length ≠ p1.length) → false = r0) ∧ ((p0.length = p1.length) → gl m p0 p1 0 r0)) : lR p0 p1 r0 := by
 refine ⟨rfl, rfl, ?_⟩
 refine am 26 [] Tryz.func30 rfl rfl rfl (aQ rfl) fun K hK => ?_
 refine gR 10 rfl <| gV 7 (.int .i64 (p0.length : Int)) rfl (bo (aP V.str _)) rfl <| gLB 6 rfl (aP V.str _) fun hl5 => gR 2 rfl <| gV 9 (.int .i64 (p1.length : Int)) rfl (bo (aP V.str _)) rfl <| gLB 8 rfl (aP V.str _) fun hl6 => gR 3 rfl <| gB 10 rfl rfl rfl ?_ ?_ <;> intro hd
 replace hd := (yH hd)
 replace h := h.1 hd
 refine gR 8 rfl ?_
 subst h
 exact go_end ab (rs := [.tmp 4]) rfl rfl rfl
 replace hd := (yn hd)
 replace h := h.2 hd
 exact gR 8 rfl <| gV 12 (.int .i64 (p0.length : Int)) rfl (bo (aP V.str _)) rfl <| gR 4 rfl <| go_loop m <| gJ (h K _ hK (by omega)) [] [] rfl hK pq4 trivial rfl
theorem kK (m : Nat) (p0 : (List (List UInt8))) (p1 : (List (List UInt8))) (a : Nat) (r0 : Bool) (h : ((a < p0.length) → ∃ b, p0[a]? = some b ∧ ∃ c, p1[a]? = some c ∧ ((b ≠ c) → false = r0) ∧ ((b = c) → a + 1 ≤ 9223372036854775807 ∧ gl m p0 p1 (a + 1) r0)) ∧ ((¬ a < p0.length) → true = r0)) : gl (m + 1) p0 p1 a r0 := by
 intro K j1 hK hj1
 obtain ⟨j1, rfl⟩ : ∃ j, j1 = j + 1 := ⟨j1 - 1, by omega⟩
 refine gR 6 rfl <| gB 14 rfl rfl rfl ?_ ?_ <;> intro hd
 replace hd := (dX hd)
 replace h := h.1 hd
 refine gR 12 rfl <| gDs [] 9 9 rfl (by kernel_rfl) (by kernel_rfl) <| gDr [(0, 2), (1, 2)] (by kernel_rfl) rfl rfl ?_
 obtain ⟨b, hxs1_1, h⟩ := h
 refine gYd 2 rfl (by kernel_rfl) (bc (mapget (f := V.str) hxs1_1) ab rfl rfl rfl rfl) rfl rfl <| gDr [(3, 2), (4, 2), (5, 0)] (by kernel_rfl) rfl rfl ?_
 obtain ⟨c, hxs1_2, h⟩ := h
 refine db 6 rfl (by kernel_rfl) (bc (mapget (f := V.str) hxs1_2) ab rfl rfl rfl rfl) rfl rfl ?_
 refine gDr [(7, 0), (8, 0)] (by kernel_rfl) rfl rfl <| gDe (by kernel_rfl) <| gR 1 rfl <| gB 24 rfl rfl rfl ?_ ?_ <;> intro hd
 replace hd := (gw hd)
 replace h := h.1 hd
 refine gR 9 rfl <| go_xloopR <| gR 2 rfl ?_
 subst h
 exact go_end ab (rs := [.tmp 4]) rfl rfl rfl
 replace hd := (ey hd)
 replace h := h.2 hd
 refine gR 5 rfl ?_
 obtain ⟨hb, h⟩ := h
 exact gR 1 rfl <| gV 25 (.int .i64 ((a + 1 : Nat) : Int)) rfl (au (by omega) (by omega)) rfl <| gR 2 rfl <| go_xloop <| gJ (h K _ hK (by omega)) [] [] rfl hK pq4 trivial rfl
 replace hd := (dW hd)
 replace h := h.2 hd
 refine gR 3 rfl <| go_xloopE <| gR 8 rfl ?_
 subst h
 exact go_end ab (rs := [.tmp 4]) rfl rfl rfl
end Go.Proofs.YtpnpdlnpikkeaaaGreat
namespace Go.Proofs.YtpnpdlnpikkeaaaGreat
open Go.RowKit Lx Sx
set_option maxRecDepth 100000
set_option maxHeartbeats 1000000
def ld0 (k n : Int) : List (List UInt8) :=
 let z := List.replicate (bb k n).toNat ([] : List UInt8)
 if k = 1 then (z.set 1 [32]).set 2 [10] else if k = 2 then (z.set 1 [32]).set 5 [32] else if k = 3 ∨ k = 19 then (z.set 1 [32]).set 2 [32] else if k = 20 then ((z.set 1 [32]).set 2 [32]).set 3 [32] else if k = 21 then z.set 0 [32] else z
def bgK (k n : Int) (f : List UInt8) : List UInt8 := if k = 1 then [10, 10] else if k = 2 then (if 2 < n then [] else [32]) else if k = 8 ∨ k = 16 ∨ k = 18 ∨ k = 22 then [] else if k = 17 ∨ k = 21 then f else [32]
def rsK (k : Int) : List UInt8 := if k = 1 then [10, 10] else [32]
def ldA (k n : Int) (f : List UInt8) : List (List UInt8) := if k = 21 ∨ k = 17 then ld0 k n else (ld0 k n).set 0 f
mutual
def arrT : Tree → List UInt8 → Tree
 | .node k x _ ks, f => .node k x (ldA k ks.length f) (arrTs ks (bgK k ks.length f) (rsK k))
def arrTs : List Tree → List UInt8 → List UInt8 → List Tree
 | [], _, _ => []
 | t :: r, b, c => arrT t b :: arrTs r c c
end
theorem tu (t : Tree) (f : List UInt8) : arrT t f = .node t.kind t.text (ldA t.kind t.kids.length f) (arrTs t.kids (bgK t.kind t.kids.length f) (rsK t.kind)) := by cases t; simp only [arrT]; rfl
theorem CF {k n : Int} (h : 0 ≤ bb k n) : ((k = 1 ∨ k = 3 ∨ k = 19) → 3 ≤ bb k n) ∧ (k = 2 → 6 ≤ bb k n) ∧ (k = 20 → 4 ≤ bb k n) ∧ (k ≠ 17 → 1 ≤ bb k n) := by
 revert h
 unfold bb f0
 repeat' split
 all_goals (intro h; refine ⟨fun _ => ?_, fun _ => ?_, fun _ => ?_, fun _ => ?_⟩ <;> omega)
theorem tD (k : Int) {n : Int} (h : 0 ≤ n) : bb k n ≤ 6 + n := by
 unfold bb f0
 repeat' split
 all_goals omega
theorem nY : ∀ (ks : List Tree) (b c : List UInt8), (arrTs ks b c).length = ks.length
 | [], b, c => rfl
 | t :: r, b, c => by simp only [arrTs, List.length_cons, nY r c c]
theorem xV : ∀ t : Tree, tbulk t ≤ 40000000 → shapeK t = true → ∀ f, fI t f (arrT t f) := dc fun t ih ht hs f => by
 have hk := da t
 have hbt := bu t
 have hld := kR hs
 obtain ⟨hl1, hl2, hl3, hl4⟩ := CF hld
 have hmax : bb t.kind t.kids.length ≤ 1000000000 := by
  have := tD t.kind (n := t.kids.length) (by omega)
  omega
 obtain ⟨N, hN⟩ : ∃ N : Nat, bb t.kind t.kids.length = N := ⟨(bb t.kind t.kids.length).toNat, by omega⟩
 have hNt : (bb t.kind t.kids.length).toNat = N := by omega
 rw [hN] at hl1 hl2 hl3 hl4 hmax
 -- kids
 have kids : ∀ (b c : List UInt8) (l : List (List UInt8)), ∀ j i us, t.kids.length - i ≤ j → us.length = i → ∃ M, cv M t b c l us i (.node t.kind t.text l (us ++ arrTs (t.kids.drop i) (if i = 0 then b else c) c)) := fun b c l j => by
  have last : ∀ i (us : List Tree), ¬ i < t.kids.length → ∃ M, cv M t b c l us i (.node t.kind t.text l (us ++ arrTs (t.kids.drop i) (if i = 0 then b else c) c)) := fun i us hi => by
   rw [List.drop_of_length_le (by omega)]
   exact ⟨1, jo 0 _ _ _ _ _ _ _ ⟨fun h => absurd h hi, fun _ => by simp [arrTs]⟩⟩
  induction j with
  | zero => intro i us hi _; exact last i us (by omega)
  | succ j ihj =>
   intro i us hi hu
   obtain ⟨u, hu', hlt⟩ | hge := aH t.kids i
   ·have hub := cJ hu'
    have hc := ih i u hu' (by omega) (kQ hs hu').1
    rw [bE hu', arrTs]
    by_cases h0 : i = 0
    ·obtain ⟨M, hM⟩ := ihj (i + 1) (us ++ [arrT u b]) (by omega) (by simp [hu])
     rw [if_neg (by omega)] at hM
     rw [if_pos h0]
     refine ⟨M + 1, jo M _ _ _ _ _ _ _ ⟨fun _ => ⟨u, hu', fun _ => ⟨_, hc b, by simp; omega, by omega, ?_⟩, fun h => absurd (by omega) h⟩, fun h => absurd hlt h⟩⟩
     simpa using hM
    ·obtain ⟨M, hM⟩ := ihj (i + 1) (us ++ [arrT u c]) (by omega) (by simp [hu])
     rw [if_neg (by omega)] at hM
     rw [if_neg h0]
     refine ⟨M + 1, jo M _ _ _ _ _ _ _ ⟨fun _ => ⟨u, hu', fun h => absurd h (by omega), fun _ => ⟨_, hc c, by simp; omega, by omega, ?_⟩⟩, fun h => absurd hlt h⟩⟩
     simpa using hM
   ·exact last i us hge
 have h1 : ∀ (l : List (List UInt8)) (b c : List UInt8), (t.kind = 21 ∨ t.kind = 17 ∨ 0 < l.length) → ∃ M, bC M t f l b c (.node t.kind t.text (if t.kind = 21 ∨ t.kind = 17 then l else l.set 0 f) (arrTs t.kids b c)) := fun l b c hl => by
  by_cases h21 : t.kind = 21
  ·obtain ⟨M, hM⟩ := kids b c l t.kids.length 0 [] (by omega) rfl
   rw [if_pos (.inl h21)]
   exact ⟨M + 1, ju M _ _ _ _ _ _ ⟨fun h => absurd h21 h, fun _ => by simpa using hM⟩⟩
  ·by_cases h17 : t.kind = 17
   ·obtain ⟨M, hM⟩ := kids b c l t.kids.length 0 [] (by omega) rfl
    rw [if_pos (.inr h17)]
    exact ⟨M + 1, ju M _ _ _ _ _ _ ⟨fun _ => ⟨fun h => absurd h17 h, fun _ => by simpa using hM⟩, fun h => absurd h h21⟩⟩
   ·obtain ⟨M, hM⟩ := kids b c (l.set 0 f) t.kids.length 0 [] (by omega) rfl
    rw [if_neg (by omega)]
    obtain ⟨s, hs0, _⟩ | h' := aH l 0
    ·exact ⟨M + 1, ju M _ _ _ _ _ _ ⟨fun _ => ⟨fun _ => ⟨s, hs0, by simpa using hM⟩, fun h => absurd h h17⟩, fun h => absurd h h21⟩⟩
    ·omega
 -- the leads
 have z : ∀ i, i < N → (List.replicate N ([] : List UInt8))[i]? = some [] := fun i hi => by rw [List.getElem?_replicate, if_pos hi]
 have z2 : ∀ (i j : Nat) (x : List UInt8), i < N → j ≠ i → ((List.replicate N ([] : List UInt8)).set j x)[i]? = some [] := fun i j x hi hj => by rw [List.getElem?_set_ne hj, z i hi]
 have z3 : ∀ (i j k : Nat) (x y : List UInt8), i < N → j ≠ i → k ≠ i → (((List.replicate N ([] : List UInt8)).set j x).set k y)[i]? = some [] := fun i j k x y hi hj hk => by rw [List.getElem?_set_ne hk, z2 i j x hi hj]
 have len : ∀ l : List (List UInt8), l.length = N → t.kind = 21 ∨ t.kind = 17 ∨ 0 < l.length := fun l e => by omega
 rw [tu]
 suffices h0 : ∃ M, jY M t f N (.node t.kind t.text (ldA t.kind t.kids.length f) (arrTs t.kids (bgK t.kind t.kids.length f) (rsK t.kind))) by
  obtain ⟨M, hM⟩ := h0
  exact ri M _ _ _ ⟨_, qX (by omega) (by omega), N, hN, by omega, hM⟩
 by_cases h1x : t.kind = 1
 ·obtain ⟨M, hM⟩ := h1 (((List.replicate N ([] : List UInt8)).set 1 [32]).set 2 [10]) [10, 10] [10, 10] (len _ (by simp only [List.length_set, List.length_replicate]))
  have e1 : ldA t.kind t.kids.length f = if t.kind = 21 ∨ t.kind = 17 then (((List.replicate N ([] : List UInt8)).set 1 [32]).set 2 [10]) else List.set (((List.replicate N ([] : List UInt8)).set 1 [32]).set 2 [10]) 0 f := by unfold ldA ld0; rw [hNt, h1x]; rfl
  have e2 : rsK t.kind = [10, 10] := by rw [h1x]; rfl
  rw [e1, e2]
  rw [show bgK t.kind t.kids.length f = [10, 10] by rw [h1x]; rfl]
  exact ⟨M + 1, bd M _ _ _ _ ⟨fun _ => ⟨[], z 1 (by omega), [], z2 2 1 _ (by omega) (by decide), hM⟩, fun h => absurd h1x h⟩⟩
 by_cases h2x : t.kind = 2
 ·have e1 : ldA t.kind t.kids.length f = if t.kind = 21 ∨ t.kind = 17 then (((List.replicate N ([] : List UInt8)).set 1 [32]).set 5 [32]) else List.set (((List.replicate N ([] : List UInt8)).set 1 [32]).set 5 [32]) 0 f := by unfold ldA ld0; rw [hNt, h2x]; rfl
  have e2 : rsK t.kind = [32] := by rw [h2x]; rfl
  rw [e1, e2]
  by_cases h2n : 2 < ((t.kids.length : Nat) : Int)
  ·obtain ⟨M, hM⟩ := h1 (((List.replicate N ([] : List UInt8)).set 1 [32]).set 5 [32]) [] [32] (len _ (by simp only [List.length_set, List.length_replicate]))
   rw [show bgK t.kind t.kids.length f = [] by rw [h2x]; simp [bgK]; omega]
   exact ⟨M + 1, bd M _ _ _ _ ⟨fun h => absurd (h2x.symm.trans h) (by decide), fun _ => ⟨fun _ => ⟨[], z 1 (by omega), [], z2 5 1 _ (by omega) (by decide), ⟨fun _ => hM, fun h => absurd h2n h⟩⟩, fun h => absurd h2x h⟩⟩⟩
  ·obtain ⟨M, hM⟩ := h1 (((List.replicate N ([] : List UInt8)).set 1 [32]).set 5 [32]) [32] [32] (len _ (by simp only [List.length_set, List.length_replicate]))
   rw [show bgK t.kind t.kids.length f = [32] by rw [h2x]; simp [bgK]; omega]
   exact ⟨M + 1, bd M _ _ _ _ ⟨fun h => absurd (h2x.symm.trans h) (by decide), fun _ => ⟨fun _ => ⟨[], z 1 (by omega), [], z2 5 1 _ (by omega) (by decide), ⟨fun h => absurd h h2n, fun _ => hM⟩⟩, fun h => absurd h2x h⟩⟩⟩
 by_cases h3x : t.kind = 3
 ·obtain ⟨M, hM⟩ := h1 (((List.replicate N ([] : List UInt8)).set 1 [32]).set 2 [32]) [32] [32] (len _ (by simp only [List.length_set, List.length_replicate]))
  have e1 : ldA t.kind t.kids.length f = if t.kind = 21 ∨ t.kind = 17 then (((List.replicate N ([] : List UInt8)).set 1 [32]).set 2 [32]) else List.set (((List.replicate N ([] : List UInt8)).set 1 [32]).set 2 [32]) 0 f := by unfold ldA ld0; rw [hNt, h3x]; rfl
  have e2 : rsK t.kind = [32] := by rw [h3x]; rfl
  rw [e1, e2]
  rw [show bgK t.kind t.kids.length f = [32] by rw [h3x]; rfl]
  exact ⟨_, bd _ _ _ _ _ ⟨fun h => absurd (h3x.symm.trans h) (by decide), fun _ => ⟨fun h => absurd (h3x.symm.trans h) (by decide), fun _ => ⟨fun _ => bJ M _ _ _ _ _ ⟨fun _ => ⟨[], z 1 (by omega), [], z2 2 1 _ (by omega) (by decide), hM⟩, fun h => (by cases h)⟩, fun h => absurd h3x h⟩⟩⟩⟩
 by_cases h19x : t.kind = 19
 ·obtain ⟨M, hM⟩ := h1 (((List.replicate N ([] : List UInt8)).set 1 [32]).set 2 [32]) [32] [32] (len _ (by simp only [List.length_set, List.length_replicate]))
  have e1 : ldA t.kind t.kids.length f = if t.kind = 21 ∨ t.kind = 17 then (((List.replicate N ([] : List UInt8)).set 1 [32]).set 2 [32]) else List.set (((List.replicate N ([] : List UInt8)).set 1 [32]).set 2 [32]) 0 f := by unfold ldA ld0; rw [hNt, h19x]; rfl
  have e2 : rsK t.kind = [32] := by rw [h19x]; rfl
  rw [e1, e2]
  rw [show bgK t.kind t.kids.length f = [32] by rw [h19x]; rfl]
  exact ⟨_, bd _ _ _ _ _ ⟨fun h => absurd (h19x.symm.trans h) (by decide), fun _ => ⟨fun h => absurd (h19x.symm.trans h) (by decide), fun _ => ⟨fun h => absurd (h19x.symm.trans h) (by decide), fun _ => by rw [show (t.kind == 19) = true by rw [h19x]; rfl]; exact bJ M _ _ _ _ _ ⟨fun _ => ⟨[], z 1 (by omega), [], z2 2 1 _ (by omega) (by decide), hM⟩, fun h => (by cases h)⟩⟩⟩⟩⟩
 by_cases h20x : t.kind = 20
 ·obtain ⟨M, hM⟩ := h1 ((((List.replicate N ([] : List UInt8)).set 1 [32]).set 2 [32]).set 3 [32]) [32] [32] (len _ (by simp only [List.length_set, List.length_replicate]))
  have e1 : ldA t.kind t.kids.length f = if t.kind = 21 ∨ t.kind = 17 then ((((List.replicate N ([] : List UInt8)).set 1 [32]).set 2 [32]).set 3 [32]) else List.set ((((List.replicate N ([] : List UInt8)).set 1 [32]).set 2 [32]).set 3 [32]) 0 f := by unfold ldA ld0; rw [hNt, h20x]; rfl
  have e2 : rsK t.kind = [32] := by rw [h20x]; rfl
  rw [e1, e2]
  rw [show bgK t.kind t.kids.length f = [32] by rw [h20x]; rfl]
  exact ⟨_, bd _ _ _ _ _ ⟨fun h => absurd (h20x.symm.trans h) (by decide), fun _ => ⟨fun h => absurd (h20x.symm.trans h) (by decide), fun _ => ⟨fun h => absurd (h20x.symm.trans h) (by decide), fun _ => by rw [show (t.kind == 19) = false by rw [h20x]; rfl]; exact bJ M _ _ _ _ _ ⟨fun h => (by cases h), fun _ => ⟨fun _ => ⟨[], z 1 (by omega), [], z2 2 1 _ (by omega) (by decide), [], z3 3 1 2 _ _ (by omega) (by decide) (by decide), hM⟩, fun h => absurd h20x h⟩⟩⟩⟩⟩⟩
 by_cases h8x : t.kind = 8
 ·obtain ⟨M, hM⟩ := h1 (List.replicate N ([] : List UInt8)) [] [32] (len _ (by simp only [List.length_set, List.length_replicate]))
  have e1 : ldA t.kind t.kids.length f = if t.kind = 21 ∨ t.kind = 17 then (List.replicate N ([] : List UInt8)) else List.set (List.replicate N ([] : List UInt8)) 0 f := by unfold ldA ld0; rw [hNt, h8x]; rfl
  have e2 : rsK t.kind = [32] := by rw [h8x]; rfl
  rw [e1, e2]
  rw [show bgK t.kind t.kids.length f = [] by rw [h8x]; rfl]
  exact ⟨_, bd _ _ _ _ _ ⟨fun h => absurd (h8x.symm.trans h) (by decide), fun _ => ⟨fun h => absurd (h8x.symm.trans h) (by decide), fun _ => ⟨fun h => absurd (h8x.symm.trans h) (by decide), fun _ => by rw [show (t.kind == 19) = false by rw [h8x]; rfl]; exact bJ _ _ _ _ _ _ ⟨fun h => (by cases h), fun _ => ⟨fun h => absurd (h8x.symm.trans h) (by decide), fun _ => ⟨fun _ => cI M _ _ _ _ _ ⟨fun _ => hM, fun h => (by cases h)⟩, fun h => absurd h8x h⟩⟩⟩⟩⟩⟩⟩
 by_cases h16x : t.kind = 16
 ·obtain ⟨M, hM⟩ := h1 (List.replicate N ([] : List UInt8)) [] [32] (len _ (by simp only [List.length_set, List.length_replicate]))
  have e1 : ldA t.kind t.kids.length f = if t.kind = 21 ∨ t.kind = 17 then (List.replicate N ([] : List UInt8)) else List.set (List.replicate N ([] : List UInt8)) 0 f := by unfold ldA ld0; rw [hNt, h16x]; rfl
  have e2 : rsK t.kind = [32] := by rw [h16x]; rfl
  rw [e1, e2]
  rw [show bgK t.kind t.kids.length f = [] by rw [h16x]; rfl]
  exact ⟨_, bd _ _ _ _ _ ⟨fun h => absurd (h16x.symm.trans h) (by decide), fun _ => ⟨fun h => absurd (h16x.symm.trans h) (by decide), fun _ => ⟨fun h => absurd (h16x.symm.trans h) (by decide), fun _ => by rw [show (t.kind == 19) = false by rw [h16x]; rfl]; exact bJ _ _ _ _ _ _ ⟨fun h => (by cases h), fun _ => ⟨fun h => absurd (h16x.symm.trans h) (by decide), fun _ => ⟨fun h => absurd (h16x.symm.trans h) (by decide), fun _ => ⟨fun _ => cI M _ _ _ _ _ ⟨fun _ => hM, fun h => (by cases h)⟩, fun h => absurd h16x h⟩⟩⟩⟩⟩⟩⟩⟩
 by_cases h18x : t.kind = 18
 ·obtain ⟨M, hM⟩ := h1 (List.replicate N ([] : List UInt8)) [] [32] (len _ (by simp only [List.length_set, List.length_replicate]))
  have e1 : ldA t.kind t.kids.length f = if t.kind = 21 ∨ t.kind = 17 then (List.replicate N ([] : List UInt8)) else List.set (List.replicate N ([] : List UInt8)) 0 f := by unfold ldA ld0; rw [hNt, h18x]; rfl
  have e2 : rsK t.kind = [32] := by rw [h18x]; rfl
  rw [e1, e2]
  rw [show bgK t.kind t.kids.length f = [] by rw [h18x]; rfl]
  exact ⟨_, bd _ _ _ _ _ ⟨fun h => absurd (h18x.symm.trans h) (by decide), fun _ => ⟨fun h => absurd (h18x.symm.trans h) (by decide), fun _ => ⟨fun h => absurd (h18x.symm.trans h) (by decide), fun _ => by rw [show (t.kind == 19) = false by rw [h18x]; rfl]; exact bJ _ _ _ _ _ _ ⟨fun h => (by cases h), fun _ => ⟨fun h => absurd (h18x.symm.trans h) (by decide), fun _ => ⟨fun h => absurd (h18x.symm.trans h) (by decide), fun _ => ⟨fun h => absurd (h18x.symm.trans h) (by decide), fun _ => ⟨fun _ => cI M _ _ _ _ _ ⟨fun _ => hM, fun h => (by cases h)⟩, fun h => absurd h18x h⟩⟩⟩⟩⟩⟩⟩⟩⟩
 by_cases h22x : t.kind = 22
 ·obtain ⟨M, hM⟩ := h1 (List.replicate N ([] : List UInt8)) [] [32] (len _ (by simp only [List.length_set, List.length_replicate]))
  have e1 : ldA t.kind t.kids.length f = if t.kind = 21 ∨ t.kind = 17 then (List.replicate N ([] : List UInt8)) else List.set (List.replicate N ([] : List UInt8)) 0 f := by unfold ldA ld0; rw [hNt, h22x]; rfl
  have e2 : rsK t.kind = [32] := by rw [h22x]; rfl
  rw [e1, e2]
  rw [show bgK t.kind t.kids.length f = [] by rw [h22x]; rfl]
  exact ⟨_, bd _ _ _ _ _ ⟨fun h => absurd (h22x.symm.trans h) (by decide), fun _ => ⟨fun h => absurd (h22x.symm.trans h) (by decide), fun _ => ⟨fun h => absurd (h22x.symm.trans h) (by decide), fun _ => by rw [show (t.kind == 19) = false by rw [h22x]; rfl]; exact bJ _ _ _ _ _ _ ⟨fun h => (by cases h), fun _ => ⟨fun h => absurd (h22x.symm.trans h) (by decide), fun _ => ⟨fun h => absurd (h22x.symm.trans h) (by decide), fun _ => ⟨fun h => absurd (h22x.symm.trans h) (by decide), fun _ => ⟨fun h => absurd (h22x.symm.trans h) (by decide), fun _ => by rw [show (t.kind == 22) = true by rw [h22x]; rfl]; exact cI M _ _ _ _ _ ⟨fun _ => hM, fun h => (by cases h)⟩⟩⟩⟩⟩⟩⟩⟩⟩⟩
 by_cases h17x : t.kind = 17
 ·obtain ⟨M, hM⟩ := h1 (List.replicate N ([] : List UInt8)) f [32] (len _ (by simp only [List.length_set, List.length_replicate]))
  have e1 : ldA t.kind t.kids.length f = if t.kind = 21 ∨ t.kind = 17 then (List.replicate N ([] : List UInt8)) else List.set (List.replicate N ([] : List UInt8)) 0 f := by unfold ldA ld0; rw [hNt, h17x]; rfl
  have e2 : rsK t.kind = [32] := by rw [h17x]; rfl
  rw [e1, e2]
  rw [show bgK t.kind t.kids.length f = f by rw [h17x]; rfl]
  exact ⟨_, bd _ _ _ _ _ ⟨fun h => absurd (h17x.symm.trans h) (by decide), fun _ => ⟨fun h => absurd (h17x.symm.trans h) (by decide), fun _ => ⟨fun h => absurd (h17x.symm.trans h) (by decide), fun _ => by rw [show (t.kind == 19) = false by rw [h17x]; rfl]; exact bJ _ _ _ _ _ _ ⟨fun h => (by cases h), fun _ => ⟨fun h => absurd (h17x.symm.trans h) (by decide), fun _ => ⟨fun h => absurd (h17x.symm.trans h) (by decide), fun _ => ⟨fun h => absurd (h17x.symm.trans h) (by decide), fun _ => ⟨fun h => absurd (h17x.symm.trans h) (by decide), fun _ => by rw [show (t.kind == 22) = false by rw [h17x]; rfl]; exact cI M _ _ _ _ _ ⟨fun h => (by cases h), fun _ => ⟨fun _ => hM, fun h => absurd h17x h⟩⟩⟩⟩⟩⟩⟩⟩⟩⟩⟩
 by_cases h21x : t.kind = 21
 ·obtain ⟨M, hM⟩ := h1 ((List.replicate N ([] : List UInt8)).set 0 [32]) f [32] (len _ (by simp only [List.length_set, List.length_replicate]))
  have e1 : ldA t.kind t.kids.length f = if t.kind = 21 ∨ t.kind = 17 then ((List.replicate N ([] : List UInt8)).set 0 [32]) else List.set ((List.replicate N ([] : List UInt8)).set 0 [32]) 0 f := by unfold ldA ld0; rw [hNt, h21x]; rfl
  have e2 : rsK t.kind = [32] := by rw [h21x]; rfl
  rw [e1, e2]
  rw [show bgK t.kind t.kids.length f = f by rw [h21x]; rfl]
  exact ⟨_, bd _ _ _ _ _ ⟨fun h => absurd (h21x.symm.trans h) (by decide), fun _ => ⟨fun h => absurd (h21x.symm.trans h) (by decide), fun _ => ⟨fun h => absurd (h21x.symm.trans h) (by decide), fun _ => by rw [show (t.kind == 19) = false by rw [h21x]; rfl]; exact bJ _ _ _ _ _ _ ⟨fun h => (by cases h), fun _ => ⟨fun h => absurd (h21x.symm.trans h) (by decide), fun _ => ⟨fun h => absurd (h21x.symm.trans h) (by decide), fun _ => ⟨fun h => absurd (h21x.symm.trans h) (by decide), fun _ => ⟨fun h => absurd (h21x.symm.trans h) (by decide), fun _ => by rw [show (t.kind == 22) = false by rw [h21x]; rfl]; exact cI M _ _ _ _ _ ⟨fun h => (by cases h), fun _ => ⟨fun h => absurd (h21x.symm.trans h) (by decide), fun _ => ⟨fun _ => ⟨[], z 0 (by omega), hM⟩, fun h => absurd h21x h⟩⟩⟩⟩⟩⟩⟩⟩⟩⟩⟩⟩
 obtain ⟨M, hM⟩ := h1 (List.replicate N ([] : List UInt8)) [32] [32] (len _ (by simp only [List.length_set, List.length_replicate]))
 have e1 : ldA t.kind t.kids.length f = if t.kind = 21 ∨ t.kind = 17 then (List.replicate N ([] : List UInt8)) else List.set (List.replicate N ([] : List UInt8)) 0 f := by unfold ldA ld0; rw [hNt]; simp only [h1x, h2x, h3x, h19x, h20x, h8x, h16x, h18x, h22x, h17x, h21x, or_self, if_false]
 have e2 : rsK t.kind = [32] := by unfold rsK; rw [if_neg h1x]
 have e3 : bgK t.kind t.kids.length f = [32] := by unfold bgK; simp only [h1x, h2x, h3x, h19x, h20x, h8x, h16x, h18x, h22x, h17x, h21x, or_self, if_false]
 rw [e1, e2, e3]
 refine ⟨M + 3, bd (M + 2) _ _ _ _ ⟨fun h => absurd h h1x, fun _ => ⟨fun h => absurd h h2x, fun _ => ⟨fun h => absurd h h3x, fun _ => ?_⟩⟩⟩⟩
 rw [show (t.kind == 19) = false by simpa using h19x]
 refine bJ (M + 1) _ _ _ _ _ ⟨fun h => (by cases h), fun _ => ⟨fun h => absurd h h20x, fun _ => ⟨fun h => absurd h h8x, fun _ => ⟨fun h => absurd h h16x, fun _ => ⟨fun h => absurd h h18x, fun _ => ?_⟩⟩⟩⟩⟩
 rw [show (t.kind == 22) = false by simpa using h22x]
 exact cI M _ _ _ _ _ ⟨fun h => (by cases h), fun _ => ⟨fun h => absurd h h17x, fun _ => ⟨fun h => absurd h h21x, fun _ => hM⟩⟩⟩
def iK (t : Tree) : Tree := if shapeK t = true then arrT t [] else .node 0 [] [] []
theorem lq (t : Tree) (ht : tbulk t ≤ 40000000) : dm t (iK t) := by
 refine rj 0 _ _ ⟨_, sp t (by omega), fun h => ?_, fun h => ⟨_, xV t ht h [], ?_⟩⟩
 ·unfold iK; rw [if_neg (by rw [h]; decide)]
 ·unfold iK; rw [if_pos h]
theorem BN (a b : List (List UInt8)) (ha : a.length ≤ 900000000) : lR a b (a == b) := by
 have loop : a.length = b.length → ∀ k i, a.length - i ≤ k → a.take i = b.take i → ∃ M, gl M a b i (a == b) := fun hl k => by
  have last : ∀ i, ¬ i < a.length → a.take i = b.take i → ∃ M, gl M a b i (a == b) := fun i hi he => by
   rw [List.take_of_length_le (by omega), List.take_of_length_le (by omega)] at he
   exact ⟨1, kK 0 _ _ _ _ ⟨fun h => absurd h hi, fun _ => by simp [he]⟩⟩
  induction k with
  | zero => intro i hi he; exact last i (by omega) he
  | succ k ih =>
   intro i hi he
   obtain ⟨x, hx, hlt⟩ | hge := aH a i
   ·obtain ⟨y, hy, _⟩ | h' := aH b i
    ·by_cases hxy : x = y
     ·obtain ⟨M, hM⟩ := ih (i + 1) (by omega) (by rw [List.take_add_one, List.take_add_one, he, hx, hy, hxy])
      exact ⟨M + 1, kK M _ _ _ _ ⟨fun _ => ⟨x, hx, y, hy, fun h => absurd hxy h, fun _ => ⟨by omega, hM⟩⟩, fun h => absurd hlt h⟩⟩
     ·exact ⟨1, kK 0 _ _ _ _ ⟨fun _ => ⟨x, hx, y, hy, fun _ => by
       have : ¬ a = b := fun e => hxy (by rw [e, hy] at hx; injection hx with hx; exact hx.symm)
       simp [this], fun h => absurd h hxy⟩, fun h => absurd hlt h⟩⟩
    ·omega
   ·exact last i hge he
 by_cases hl : a.length = b.length
 ·obtain ⟨M, hM⟩ := loop hl a.length 0 (by omega) (by simp)
  exact oa M _ _ _ ⟨fun h => absurd hl h, fun _ => hM⟩
 ·exact oa 0 _ _ _ ⟨fun _ => by
   have : ¬ a = b := fun e => hl (by rw [e])
   simp [this], fun h => absurd h hl⟩
mutual
def eqT : Tree → Tree → Bool
 | .node k s ls ks, u => decide (k = u.kind) && (decide (s = u.text) && (decide (ks.length = u.kids.length) && ((ls == u.leads) && eqTs ks u.kids)))
def eqTs : List Tree → List Tree → Bool
 | [], _ => true
 | t :: r, [] => true
 | t :: r, u :: q => eqT t u && eqTs r q
end
theorem uU (t u : Tree) : eqT t u = (decide (t.kind = u.kind) && (decide (t.text = u.text) && (decide (t.kids.length = u.kids.length) && ((t.leads == u.leads) && eqTs t.kids u.kids)))) := by cases t; simp only [eqT]; rfl
mutual
theorem eqT_refl : ∀ t : Tree, eqT t t = true
 | .node k s ls ks => by rw [uU]; simp [eqTs_refl ks, Tree.kids]
theorem eqTs_refl : ∀ l : List Tree, eqTs l l = true
 | [] => rfl
 | t :: r => by simp only [eqTs, eqT_refl t, eqTs_refl r, Bool.and_true]
end
theorem pN : ∀ t : Tree, tbulk t ≤ 900000000 → ∀ u, iH t u (eqT t u) := dc fun t ih ht u => by
 have hk := da t
 have hl := mA t
 have kids : t.kids.length = u.kids.length → ∀ j i, t.kids.length - i ≤ j → ∃ M, jp M t u i (eqTs (t.kids.drop i) (u.kids.drop i)) := fun hlen j => by
  have last : ∀ i, ¬ i < t.kids.length → ∃ M, jp M t u i (eqTs (t.kids.drop i) (u.kids.drop i)) := fun i hi => by
   rw [List.drop_of_length_le (by omega)]
   exact ⟨1, pS 0 _ _ _ _ ⟨fun h => absurd h hi, fun _ => rfl⟩⟩
  induction j with
  | zero => intro i hi; exact last i (by omega)
  | succ j ihj =>
   intro i hi
   obtain ⟨x, hx, hlt⟩ | hge := aH t.kids i
   ·obtain ⟨y, hy, _⟩ | h' := aH u.kids i
    ·have := cJ hx
     have hc := ih i x hx (by omega) y
     obtain ⟨M, hM⟩ := ihj (i + 1) (by omega)
     rw [bE hx, bE hy, eqTs]
     refine ⟨M + 1, pS M _ _ _ _ ⟨fun _ => ⟨x, hx, y, hy, _, hc, fun e => by rw [e]; rfl, fun e => ⟨by omega, ?_⟩⟩, fun h => absurd hlt h⟩⟩
     rw [e]; exact hM
    ·omega
   ·exact last i hge
 rw [uU]
 by_cases h1 : t.kind = u.kind
 ·by_cases h2 : t.text = u.text
  ·by_cases h3 : t.kids.length = u.kids.length
   ·obtain ⟨M, hM⟩ := kids h3 t.kids.length 0 (by omega)
    refine lI M _ _ _ ⟨fun h => absurd h1 h, fun _ => ⟨fun h => absurd h2 h, fun _ => ⟨fun h => absurd h3 h, fun _ => ⟨_, BN _ _ (by omega), fun e => ?_, fun e => ?_⟩⟩⟩⟩
    ·rw [e]; simp
    ·rw [e, decide_eq_true h1, decide_eq_true h2, decide_eq_true h3]; exact hM
   ·exact lI 0 _ _ _ ⟨fun h => absurd h1 h, fun _ => ⟨fun h => absurd h2 h, fun _ => ⟨fun _ => by simp [h3], fun h => absurd h h3⟩⟩⟩
  ·exact lI 0 _ _ _ ⟨fun h => absurd h1 h, fun _ => ⟨fun _ => by simp [h2], fun h => absurd h h2⟩⟩
 ·exact lI 0 _ _ _ ⟨fun _ => by simp [h1], fun h => absurd h h1⟩
theorem ni (t : Tree) (ht : tbulk t ≤ 40000000) : eG t (shapeK t && eqT t (iK t)) := by
 refine pX 0 _ _ ⟨_, sp t (by omega), fun h => ⟨_, lq t ht, _, pN t (by omega) _, ?_⟩, fun h => ?_⟩
 ·rw [h]; rfl
 ·rw [h]; rfl
end Go.Proofs.YtpnpdlnpikkeaaaGreat
namespace Go.Proofs.YtpnpdlnpikkeaaaGreat
open Go.RowKit Lx Sx
set_option maxRecDepth 100000
set_option maxHeartbeats 4000000
def ee (r0 : Bool) : Prop := qS 6 [] (.bool r0)
def rK (p0 : List UInt8) (r0 : Tree) (r1 r2 : Int) : Prop := qS 18 [.str p0] (.tup [.agg (aj r0), .int .i64 r1, .int .i64 r2])
def gX (p0 : List Int) (r0 : Bool) : Prop := qS 3 [.row 1 (List.map (V.int .i64) p0)] (.bool r0)
def iU (p0 : List Int) (r0 : Bool) : Prop := qS 4 [.row 1 (List.map (V.int .i64) p0)] (.bool r0)
def kZ (r0 : Bool) : Prop := qS 6 [] (.bool r0)
def cb (m : Nat) (a : List Tree) (b : Nat) (r0 : Bool) : Prop := ∀ (K : Ctx) (j1 : Nat), aB K [] → m ≤ j1 → qLG K Tryz.f3 (fun u _ => u = .bool r0) (xN (ac Tryz.f3)) [.loop (xN (ac Tryz.f3)) j1, .blk 0, .seq (xJ (ac Tryz.f3))] 57 (mkF 57 0 [(3, .row 4 (kidsV a)), (4, .int .i64 (b : Int))]) ⟨0, []⟩
theorem gO (m : Nat) (p0 : List Int) (r0 : Bool) (h : ∃ a, gb p0 a ∧ ((a = false) → ∃ b, ee b ∧ b = r0) ∧ ((a = true) → ∃ c, fh p0 c ∧ cb m c 0 r0)) : gX p0 r0 := by
 refine ⟨rfl, rfl, ?_⟩
 refine am 57 [] Tryz.func3 rfl rfl rfl (aQ rfl) fun K hK => ?_
 refine gR 9 rfl ?_
 obtain ⟨a, hs27, h⟩ := h
 refine gC0 hs27 (by kernel_rfl) rfl rfl .rfl rfl <| gR 3 rfl <| gB 7 rfl rfl rfl ?_ ?_ <;> intro hd
 replace hd := (cg hd)
 replace h := h.1 hd
 refine gR 3 rfl ?_
 obtain ⟨b, hs28, h⟩ := h
 refine gC0 hs28 (by kernel_rfl) rfl rfl .rfl rfl <| gR 5 rfl ?_
 subst h
 exact go_end ab (rs := [.tmp 2]) rfl rfl rfl
 replace hd := (cf hd)
 replace h := h.2 hd
 refine gR 6 rfl ?_
 obtain ⟨c, hs29, h⟩ := h
 exact gC0 hs29 (by kernel_rfl) rfl rfl .rfl rfl <| gR 10 rfl <| go_loop m <| gJ (h K _ hK (by omega)) [] [] rfl hK pq2 trivial rfl
theorem ga (m : Nat) (a : List Tree) (b : Nat) (r0 : Bool) (h : ((b < a.length) → ∃ l, a[b]? = some l ∧ ∃ n, a[b]? = some n ∧ ∃ o, dm l o ∧ ∃ p, cz n p ∧ ∃ k, eJ o p k ∧ ((k = false) → false = r0) ∧ ((k = true) → ∃ q, a[b]? = some q ∧ ∃ r, a[b]? = some r ∧ ∃ s, dT q s ∧ ∃ t, gH r t ∧ ∃ c, eb s t c ∧ ((c = false) → false = r0) ∧ ((c = true) → ∃ f, a[b]? = some f ∧ ∃ g, a[b]? = some g ∧ ∃ d, eG f d ∧ ∃ e, fU g e ∧ ((d ≠ e) → false = r0) ∧ ((d = e) → cb m a (b + 1) r0)))) ∧ ((¬ b < a.length) → ∃ i, ee i ∧ i = r0)) : cb (m + 1) a b r0 := by
 intro K j1 hK hj1
 obtain ⟨j1, rfl⟩ : ∃ j, j1 = j + 1 := ⟨j1 - 1, by omega⟩
 refine gR 6 rfl <| gV 13 (.int .i64 (a.length : Int)) rfl (bo (aR _)) rfl <| gLB 12 rfl (aR _) fun hl30 => gR 3 rfl <| gB 14 rfl rfl rfl ?_ ?_ <;> intro hd
 replace hd := (dX hd)
 replace h := h.1 hd
 refine gR 6 rfl <| gDs [] 39 39 rfl (by kernel_rfl) (by kernel_rfl) <| gDr [(0, 2), (1, 2)] (by kernel_rfl) rfl rfl ?_
 obtain ⟨l, hxt1_1, h⟩ := h
 refine gYd 2 rfl (by kernel_rfl) (bc (aw hxt1_1) ab rfl rfl rfl rfl) rfl rfl <| gDr [(3, 2), (5, 2), (6, 2)] (by kernel_rfl) rfl rfl ?_
 obtain ⟨n, hxt1_2, h⟩ := h
 refine gYd 7 rfl (by kernel_rfl) (bc (aw hxt1_2) ab rfl rfl rfl rfl) rfl rfl <| gDr [(8, 2)] (by kernel_rfl) rfl rfl ?_
 obtain ⟨o, hs31, h⟩ := h
 refine aW 4 hs31 (by kernel_rfl) rfl (by kernel_rfl) rfl rfl .rfl rfl rfl ?_
 obtain ⟨p, hs32, h⟩ := h
 refine aW 9 hs32 (by kernel_rfl) rfl (by kernel_rfl) rfl rfl .rfl rfl rfl ?_
 obtain ⟨k, hs33, h⟩ := h
 refine aW 10 hs33 (by kernel_rfl) rfl (by kernel_rfl) rfl rfl .rfl rfl rfl ?_
 refine gDr [(11, 0), (12, 0)] (by kernel_rfl) rfl rfl <| gB 29 rfl rfl rfl ?_ ?_ <;> intro hd
 refine gT 28 rfl hd rfl ?_
 replace hd := (cg hd)
 replace h := h.1 hd
 refine gDr [(13, 2), (14, 2), (15, 2), (16, 2), (18, 2), (19, 2), (20, 2), (21, 2), (17, 0), (22, 0), (23, 0), (24, 0), (25, 0), (26, 0), (27, 2), (28, 2), (29, 2), (30, 2), (32, 2), (33, 2), (34, 2), (35, 2), (31, 0), (36, 0), (37, 0), (38, 0)] (by kernel_rfl) rfl rfl <| gDe (by kernel_rfl) <| gR 2 rfl <| go_sub (F' := (mkF 57 0 [])) (H' := ⟨0, []⟩) [] [] rfl hK trivial trivial rfl <| gR 8 rfl <| go_xloopR <| gR 2 rfl ?_
 subst h
 exact go_end ab (rs := [.tmp 2]) rfl rfl rfl
 refine gF 28 rfl hd rfl ?_
 replace hd := (cf hd)
 replace h := h.2 hd
 refine gDr [(13, 2), (14, 2)] (by kernel_rfl) rfl rfl ?_
 obtain ⟨q, hxt1_6, h⟩ := h
 refine gYd 15 rfl (by kernel_rfl) (bc (aw hxt1_6) ab rfl rfl rfl rfl) rfl rfl <| gDr [(16, 2), (18, 2), (19, 2)] (by kernel_rfl) rfl rfl ?_
 obtain ⟨r, hxt1_7, h⟩ := h
 refine gYd 20 rfl (by kernel_rfl) (bc (aw hxt1_7) ab rfl rfl rfl rfl) rfl rfl <| gDr [(21, 2)] (by kernel_rfl) rfl rfl ?_
 obtain ⟨s, hs34, h⟩ := h
 refine aW 17 hs34 (by kernel_rfl) rfl (by kernel_rfl) rfl rfl .rfl rfl rfl ?_
 obtain ⟨t, hs35, h⟩ := h
 refine aW 22 hs35 (by kernel_rfl) rfl (by kernel_rfl) rfl rfl .rfl rfl rfl ?_
 obtain ⟨c, hs36, h⟩ := h
 refine aW 23 hs36 (by kernel_rfl) rfl (by kernel_rfl) rfl rfl .rfl rfl rfl ?_
 refine gDr [(24, 0), (25, 0), (26, 0)] (by kernel_rfl) rfl rfl <| gB 43 rfl rfl rfl ?_ ?_ <;> intro hd
 refine gT 42 rfl hd rfl ?_
 replace hd := (cg hd)
 replace h := h.1 hd
 refine gDr [(27, 2), (28, 2), (29, 2), (30, 2), (32, 2), (33, 2), (34, 2), (35, 2), (31, 0), (36, 0), (37, 0), (38, 0)] (by kernel_rfl) rfl rfl <| gDe (by kernel_rfl) <| gR 2 rfl <| go_sub (F' := (mkF 57 0 [])) (H' := ⟨0, []⟩) [] [] rfl hK trivial trivial rfl <| gR 8 rfl <| go_xloopR <| gR 2 rfl ?_
 subst h
 exact go_end ab (rs := [.tmp 2]) rfl rfl rfl
 refine gF 42 rfl hd rfl ?_
 replace hd := (cf hd)
 replace h := h.2 hd
 refine gDr [(27, 2), (28, 2)] (by kernel_rfl) rfl rfl ?_
 obtain ⟨f, hxt1_11, h⟩ := h
 refine gYd 29 rfl (by kernel_rfl) (bc (aw hxt1_11) ab rfl rfl rfl rfl) rfl rfl <| gDr [(30, 2), (32, 2), (33, 2)] (by kernel_rfl) rfl rfl ?_
 obtain ⟨g, hxt1_12, h⟩ := h
 refine gYd 34 rfl (by kernel_rfl) (bc (aw hxt1_12) ab rfl rfl rfl rfl) rfl rfl <| gDr [(35, 2)] (by kernel_rfl) rfl rfl ?_
 obtain ⟨d, hs37, h⟩ := h
 refine aW 31 hs37 (by kernel_rfl) rfl (by kernel_rfl) rfl rfl .rfl rfl rfl ?_
 obtain ⟨e, hs38, h⟩ := h
 refine aW 36 hs38 (by kernel_rfl) rfl (by kernel_rfl) rfl rfl .rfl rfl rfl ?_
 refine gDr [(37, 0), (38, 0)] (by kernel_rfl) rfl rfl <| gDe (by kernel_rfl) <| gR 1 rfl <| gB 55 rfl rfl rfl ?_ ?_ <;> intro hd
 replace hd := (gw hd)
 replace h := h.1 hd
 refine gR 1 rfl <| go_sub (F' := (mkF 57 0 [])) (H' := ⟨0, []⟩) [] [] rfl hK trivial trivial rfl <| gR 8 rfl <| go_xloopR <| gR 2 rfl ?_
 subst h
 exact go_end ab (rs := [.tmp 2]) rfl rfl rfl
 replace hd := (ey hd)
 replace h := h.2 hd
 exact gR 7 rfl <| gV 16 (.int .i64 ((b + 1 : Nat) : Int)) rfl (au (by have := hl30; omega) (by omega)) rfl <| gR 2 rfl <| go_xloop <| gJ (h K _ hK (by omega)) [] [] rfl hK pq2 trivial rfl
 replace hd := (dW hd)
 replace h := h.2 hd
 refine gR 3 rfl <| go_xloopE <| gR 4 rfl ?_
 obtain ⟨i, hs39, h⟩ := h
 refine gC0 hs39 (by kernel_rfl) rfl rfl .rfl rfl <| gR 4 rfl ?_
 subst h
 exact go_end ab (rs := [.tmp 2]) rfl rfl rfl
def cp (m : Nat) (a : List Tree) (b : Nat) (r0 : Bool) : Prop := ∀ (K : Ctx) (j1 : Nat), aB K [] → m ≤ j1 → qLG K Tryz.f4 (fun u _ => u = .bool r0) (xN (ac Tryz.f4)) [.loop (xN (ac Tryz.f4)) j1, .blk 0, .seq (xJ (ac Tryz.f4))] 51 (mkF 51 0 [(3, .row 4 (kidsV a)), (4, .int .i64 (b : Int))]) ⟨0, []⟩
theorem iF (m : Nat) (p0 : List Int) (r0 : Bool) (h : ∃ a, gb p0 a ∧ ((a = false) → ∃ b, ee b ∧ b = r0) ∧ ((a = true) → ∃ c, fh p0 c ∧ cp m c 0 r0)) : iU p0 r0 := by
 refine ⟨rfl, rfl, ?_⟩
 refine am 51 [] Tryz.func4 rfl rfl rfl (aQ rfl) fun K hK => ?_
 refine gR 9 rfl ?_
 obtain ⟨a, hs29, h⟩ := h
 refine gC0 hs29 (by kernel_rfl) rfl rfl .rfl rfl <| gR 3 rfl <| gB 8 rfl rfl rfl ?_ ?_ <;> intro hd
 replace hd := (cg hd)
 replace h := h.1 hd
 refine gR 3 rfl ?_
 obtain ⟨b, hs30, h⟩ := h
 refine gC0 hs30 (by kernel_rfl) rfl rfl .rfl rfl <| gR 5 rfl ?_
 subst h
 exact go_end ab (rs := [.tmp 2]) rfl rfl rfl
 replace hd := (cf hd)
 replace h := h.2 hd
 refine gR 6 rfl ?_
 obtain ⟨c, hs31, h⟩ := h
 exact gC0 hs31 (by kernel_rfl) rfl rfl .rfl rfl <| gR 10 rfl <| go_loop m <| gJ (h K _ hK (by omega)) [] [] rfl hK pq2 trivial rfl
theorem im (m : Nat) (a : List Tree) (b : Nat) (r0 : Bool) (h : ((b < a.length) → ∃ k, a[b]? = some k ∧ ∃ c, dm k c ∧ ∃ l, a[b]? = some l ∧ ∃ n, kh c n ∧ ∃ o, kh l o ∧ ∃ f, iH n o f ∧ ((f = false) → false = r0) ∧ ((f = true) → ∃ p, dm c p ∧ ∃ g, iH p c g ∧ ((g = false) → false = r0) ∧ ((g = true) → ∃ i, eG c i ∧ ((i = false) → false = r0) ∧ ((i = true) → ∃ d, dT c d ∧ (((d.length : Int) ≠ 0) → false = r0) ∧ (((d.length : Int) = 0) → cp m a (b + 1) r0))))) ∧ ((¬ b < a.length) → ∃ e, ee e ∧ e = r0)) : cp (m + 1) a b r0 := by
 intro K j1 hK hj1
 obtain ⟨j1, rfl⟩ : ∃ j, j1 = j + 1 := ⟨j1 - 1, by omega⟩
 refine gR 6 rfl <| gV 14 (.int .i64 (a.length : Int)) rfl (bo (aR _)) rfl <| gLB 13 rfl (aR _) fun hl32 => gR 3 rfl <| gB 15 rfl rfl rfl ?_ ?_ <;> intro hd
 replace hd := (dX hd)
 replace h := h.1 hd
 refine gR 9 rfl ?_
 obtain ⟨k, hxt1_1, h⟩ := h
 refine gY (bc (aw hxt1_1) ab rfl rfl rfl rfl) rfl rfl <| gR 1 rfl ?_
 obtain ⟨c, hs33, h⟩ := h
 refine gC0 hs33 (by kernel_rfl) rfl rfl .rfl rfl <| gR 5 rfl <| gDs [0] 27 27 rfl (by kernel_rfl) (by kernel_rfl) <| gDr [(0, 3), (2, 2), (3, 2)] (by kernel_rfl) rfl rfl ?_
 obtain ⟨l, hxt1_3, h⟩ := h
 refine gYd 4 rfl (by kernel_rfl) (bc (aw hxt1_3) ab rfl rfl rfl rfl) rfl rfl <| gDr [(5, 2)] (by kernel_rfl) rfl rfl ?_
 obtain ⟨n, hs34, h⟩ := h
 refine aW 1 hs34 (by kernel_rfl) rfl (by kernel_rfl) rfl rfl .rfl rfl rfl ?_
 obtain ⟨o, hs35, h⟩ := h
 refine aW 6 hs35 (by kernel_rfl) rfl (by kernel_rfl) rfl rfl .rfl rfl rfl ?_
 obtain ⟨f, hs36, h⟩ := h
 refine aW 7 hs36 (by kernel_rfl) rfl (by kernel_rfl) rfl rfl .rfl rfl rfl ?_
 refine gDr [(8, 0), (9, 0)] (by kernel_rfl) rfl rfl <| gB 32 rfl rfl rfl ?_ ?_ <;> intro hd
 refine gT 31 rfl hd rfl ?_
 replace hd := (cg hd)
 replace h := h.1 hd
 refine gDr [(10, 2), (12, 2), (11, 0), (13, 0), (14, 0), (15, 0), (16, 0), (17, 0), (18, 0), (19, 0), (20, 0), (21, 0), (22, 0), (23, 0), (24, 0), (25, 0), (26, 0)] (by kernel_rfl) rfl rfl <| gDe (by kernel_rfl) <| gR 10 rfl <| go_xloopR <| gR 2 rfl ?_
 subst h
 exact go_end ab (rs := [.tmp 2]) rfl rfl rfl
 refine gF 31 rfl hd rfl ?_
 replace hd := (cf hd)
 replace h := h.2 hd
 refine gDr [(10, 3), (12, 3)] (by kernel_rfl) rfl rfl ?_
 obtain ⟨p, hs37, h⟩ := h
 refine aW 11 hs37 (by kernel_rfl) rfl (by kernel_rfl) rfl rfl .rfl rfl rfl ?_
 obtain ⟨g, hs38, h⟩ := h
 refine aW 13 hs38 (by kernel_rfl) rfl (by kernel_rfl) rfl rfl .rfl rfl rfl ?_
 refine gDr [(14, 0), (15, 0), (16, 0)] (by kernel_rfl) rfl rfl <| gB 39 rfl rfl rfl ?_ ?_ <;> intro hd
 refine gT 38 rfl hd rfl ?_
 replace hd := (cg hd)
 replace h := h.1 hd
 refine gDr [(17, 0), (18, 0), (19, 0), (20, 0), (21, 0), (22, 0), (23, 0), (24, 0), (25, 0), (26, 0)] (by kernel_rfl) rfl rfl <| gDe (by kernel_rfl) <| gR 10 rfl <| go_xloopR <| gR 2 rfl ?_
 subst h
 exact go_end ab (rs := [.tmp 2]) rfl rfl rfl
 refine gF 38 rfl hd rfl ?_
 replace hd := (cf hd)
 replace h := h.2 hd
 refine gDr [(17, 0)] (by kernel_rfl) rfl rfl ?_
 obtain ⟨i, hs39, h⟩ := h
 refine aW 18 hs39 (by kernel_rfl) rfl (by kernel_rfl) rfl rfl .rfl rfl rfl ?_
 refine gDr [(19, 0), (20, 0), (21, 0)] (by kernel_rfl) rfl rfl <| gB 44 rfl rfl rfl ?_ ?_ <;> intro hd
 refine gT 43 rfl hd rfl ?_
 replace hd := (cg hd)
 replace h := h.1 hd
 refine gDr [(22, 0), (23, 0), (24, 0), (25, 0), (26, 0)] (by kernel_rfl) rfl rfl <| gDe (by kernel_rfl) <| gR 10 rfl <| go_xloopR <| gR 2 rfl ?_
 subst h
 exact go_end ab (rs := [.tmp 2]) rfl rfl rfl
 refine gF 43 rfl hd rfl ?_
 replace hd := (cf hd)
 replace h := h.2 hd
 refine gDr [(22, 0)] (by kernel_rfl) rfl rfl ?_
 obtain ⟨d, hs40, h⟩ := h
 refine aW 23 hs40 (by kernel_rfl) rfl (by kernel_rfl) rfl rfl .rfl rfl rfl ?_
 refine gDr [(24, 0)] (by kernel_rfl) rfl rfl <| gV 47 (.int .i64 (d.length : Int)) rfl (bo (aP V.str _)) rfl <| gLB 46 rfl (aP V.str _) fun hl41 => gDr [(25, 0), (26, 0)] (by kernel_rfl) rfl rfl <| gDe (by kernel_rfl) <| gR 1 rfl <| gB 49 rfl rfl rfl ?_ ?_ <;> intro hd
 replace hd := (gw hd)
 replace h := h.1 hd
 refine gR 9 rfl <| go_xloopR <| gR 2 rfl ?_
 subst h
 exact go_end ab (rs := [.tmp 2]) rfl rfl rfl
 replace hd := (ey hd)
 replace h := h.2 hd
 exact gR 7 rfl <| gV 17 (.int .i64 ((b + 1 : Nat) : Int)) rfl (au (by have := hl32; omega) (by omega)) rfl <| gR 2 rfl <| go_xloop <| gJ (h K _ hK (by omega)) [] [] rfl hK pq2 trivial rfl
 replace hd := (dW hd)
 replace h := h.2 hd
 refine gR 3 rfl <| go_xloopE <| gR 4 rfl ?_
 obtain ⟨e, hs42, h⟩ := h
 refine gC0 hs42 (by kernel_rfl) rfl rfl .rfl rfl <| gR 4 rfl ?_
 subst h
 exact go_end ab (rs := [.tmp 2]) rfl rfl rfl
theorem oF (m : Nat) (r0 : Bool) (h : ∃ b j c, rK [109, 111, 100, 117, 108, 101, 32, 77, 32, 35, 32, 120, 10, 100, 101, 102, 32, 102, 32, 40, 32, 97, 58, 73, 110, 116, 32, 44, 32, 98, 32, 58, 73, 110, 116, 32, 41, 58, 73, 110, 116, 61, 103, 40, 97, 44, 91, 98, 93, 41] b j c ∧ ∃ a, dT b a ∧ ((c = 0) → (((a.length : Int) = 1) → ∃ d, a[0]? = some d ∧ ((d = [35, 32, 120]) → ∃ e, eG b e ∧ ((e = false) → ∃ g, dm b g ∧ ∃ i, jD g i ∧ (i == [109, 111, 100, 117, 108, 101, 32, 77, 10, 10, 100, 101, 102, 32, 102, 40, 97, 58, 32, 73, 110, 116, 44, 32, 98, 58, 32, 73, 110, 116, 41, 58, 32, 73, 110, 116, 32, 61, 32, 103, 40, 97, 44, 32, 91, 98, 93, 41, 10]) = r0) ∧ ((e = true) → false = r0)) ∧ ((d ≠ [35, 32, 120]) → false = r0)) ∧ (((a.length : Int) ≠ 1) → false = r0)) ∧ ((c ≠ 0) → false = r0)) : kZ r0 := by
 refine ⟨rfl, rfl, ?_⟩
 refine am 36 [] Tryz.func6 rfl rfl rfl (aQ rfl) fun K hK => ?_
 refine gR 7 rfl ?_
 obtain ⟨b, j, c, hs7, h⟩ := h
 refine gC0 hs7 (by kernel_rfl) rfl rfl .rfl rfl <| gR 13 rfl ?_
 obtain ⟨a, hs8, h⟩ := h
 refine gC0 hs8 (by kernel_rfl) rfl rfl .rfl rfl <| gR 8 rfl <| qBeZ 14 13 rfl rfl rfl rfl h (fun h => ?_) fun h => ?_
 refine gR 2 rfl <| gV 16 (.int .i64 (a.length : Int)) rfl (bo (aP V.str _)) rfl <| gLB 15 rfl (aP V.str _) fun hl9 => gR 3 rfl <| qBeZ 19 18 rfl rfl rfl rfl h (fun h => ?_) fun h => ?_
 refine gR 1 rfl ?_
 obtain ⟨d, hxs0_5, h⟩ := h
 refine gY (bc (mapget (f := V.str) hxs0_5) ab rfl rfl rfl rfl) rfl rfl <| gR 4 rfl <| qBeZ 25 24 rfl rfl rfl rfl h (fun h => ?_) fun h => ?_
 refine gR 1 rfl ?_
 obtain ⟨e, hs10, h⟩ := h
 refine gC0 hs10 (by kernel_rfl) rfl rfl .rfl rfl <| gR 3 rfl <| qBhZ 30 29 rfl rfl rfl rfl h cg cf (fun h => ?_) fun h => ?_
 refine gR 1 rfl ?_
 obtain ⟨g, hs11, h⟩ := h
 refine gC0 hs11 (by kernel_rfl) rfl rfl .rfl rfl ?_
 obtain ⟨i, hs12, h⟩ := h
 refine gC0 hs12 (by kernel_rfl) rfl rfl .rfl rfl <| gR 6 rfl ?_
 subst h
 exact go_end ab (rs := [.tmp 0]) rfl rfl rfl
 refine gR 9 rfl ?_
 subst h
 exact go_end ab (rs := [.tmp 0]) rfl rfl rfl
 refine gR 14 rfl ?_
 subst h
 exact go_end ab (rs := [.tmp 0]) rfl rfl rfl
 refine gR 20 rfl ?_
 subst h
 exact go_end ab (rs := [.tmp 0]) rfl rfl rfl
 refine gR 25 rfl ?_
 subst h
 exact go_end ab (rs := [.tmp 0]) rfl rfl rfl
end Go.Proofs.YtpnpdlnpikkeaaaGreat
namespace Go.Proofs.YtpnpdlnpikkeaaaGreat
open Go.RowKit Lx Sx
section
variable {S : Nat → Prop} {w : World} {ρ : Nat → Option Value}
theorem uR : ∀ ls : List (List UInt8), CRel S w ρ 1 (ls.map .str) (ls.map aS)
 | [] => by simp [CRel]
 | s :: r => by
  simp only [List.map_cons, CRel]
  exact ⟨aS s, r.map aS, by simp [Value.cells, aS], ⟨rfl, rfl⟩, by unfold VRel; rfl, uR r⟩
theorem we : ∀ ls : List Int, CRel S w ρ 1 (ls.map (V.int .i64)) (ls.map fun z => .int .i64 z)
 | [] => by simp [CRel]
 | s :: r => by
  simp only [List.map_cons, CRel]
  exact ⟨.int .i64 s, _, by simp [Value.cells], ⟨rfl, rfl⟩, by unfold VRel; rfl, we r⟩
mutual
theorem TreeIs.vrel : ∀ {ρ : Nat → Option Value} {t : Tree} {c : List Value}, TreeIs S w t c → LRel S w ρ (aj t) c
 | ρ, .node k s ls ks, c, h => by
  simp only [TreeIs] at h
  obtain ⟨A, m, B, n, rfl, h1, h2, h3, h4, h5, cs, h6, h7⟩ := h
  simp only [aj, Tree.kind, Tree.text, Tree.leads, Tree.kids, LRel, VRel]
  exact ⟨_, _, rfl, rfl, _, _, rfl, rfl, _, _, rfl, ⟨A, m, _, by simp, by simpa using h1, h2, uR ls, by simpa using h5⟩, _, _, rfl, ⟨B, n, cs, by simp [mC], by simpa [mC] using h3, h4, KidsAre.crel h6, by simpa [mC] using h7⟩, rfl⟩
theorem KidsAre.crel : ∀ {ρ : Nat → Option Value} {ts : List Tree} {cs : List Value}, KidsAre S w ts cs → CRel S w ρ 4 (kidsV ts) cs
 | ρ, [], cs, h => by simp only [KidsAre] at h; simp only [kidsV, CRel]; exact h
 | ρ, t :: r, cs, h => by
  simp only [KidsAre] at h
  obtain ⟨c, d, rfl, h1, h2⟩ := h
  simp only [kidsV, CRel, gD]
  exact ⟨.agg c.toArray, d, by simp [Value.cells], ⟨by simp [Value.cells, h1.four], by simpa [Value.cells] using h1.one⟩, by simp only [VRel]; exact ⟨c, rfl, h1.vrel⟩, KidsAre.crel h2⟩
end
end
theorem CB {k : Nat} {l : List UInt8} {t : Tree} (h : qU t (vP yZ k 18 [.str l]) = true) : pk Tryz.prog 18 [.str l] (.tup [.agg (aj t), .int .i64 0, .int .i64 0]) := by
 refine ⟨rfl, rfl, fun S w ρ xs hr hx => ?_⟩
 simp only [LRel, VRel] at hx
 obtain ⟨x, ys, rfl, rfl, rfl⟩ := hx
 refine (zx h (w := w)).mono ?_
 rintro e w' ⟨c0, c1, c2, c3, rfl, hT, hc⟩
 have hT' := hT.bound
 have g := hr.chg0 hc
 refine ⟨_, fun b => S b ∨ (w.heap.size ≤ b ∧ b < w'.heap.size), ρ, _, ⟨0, []⟩, rfl, rfl, ⟨fun i => ?_, fun i b hb => ?_, fun i j b hb _ => ?_, fun b hb => hb.elim (g.slt b) (·.2)⟩, ⟨ChgP.of0 hc, fun _ h => .inl h, fun b hb => hb.elim .inl fun h => .inr (.inr h.1), fun id b hb => .inl ⟨id, hb⟩, fun id x h => ?_⟩, ?_⟩
 ·have := g.ob i; rw [oz] at this ⊢; exact this
 ·rw [oz] at hb; exact hb.elim
 ·rw [oz] at hb; exact hb.elim
 ·simp only [rY] at h
  split at h
  ·exact h
  ·cases h
 ·have hk := TreeIs.vrel (ρ := ρ) (TreeIs.keep (S' := fun b => S b ∨ (w.heap.size ≤ b ∧ b < w'.heap.size)) (fun b hb => .inr hb) (fun _ _ _ => rfl) hT')
  simp only [VRel]
  exact ⟨[.agg #[c0, c1, c2, c3], .int .i64 0, .int .i64 0], rfl, .agg #[c0, c1, c2, c3], _, rfl, by simp only [VRel]; exact ⟨_, rfl, hk⟩, _, _, rfl, by simp only [VRel], _, _, rfl, by simp only [VRel], rfl⟩
theorem FQ {fid : FuncId} {l : List Int} {b : Bool} (h : pk Tryz.prog fid [.row 1 (l.map (V.int .i64))] (.bool b)) {W : World} {A : Option Addr} {cap : Nat} (hc : l.length ≤ cap) (hm : cap ≤ maxLen) (hr : RowIn Any W 1 A l.length (l.map fun z => .int .i64 z)) : Calls Tryz.prog fid #[.slice A l.length cap] W fun e W' => e = .returned (.bool b) ∧ Ext W W' := by
 have h0 := Cj W
 have hr' : HRel (fun b => b < W.heap.size) W (fun _ => none) (⟨0, []⟩ : Hp).get := ⟨h0.ob, fun i b hb => by rw [oz] at hb; exact hb.elim, fun i j b hb _ => by rw [oz] at hb; exact hb.elim, fun _ h => h⟩
 have hrow : RowIn (fun b => b < W.heap.size) W 1 A l.length (l.map fun z => .int .i64 z) := ⟨hr.1, fun hp => by
  obtain ⟨b, off, h1, _, h3, h4⟩ := hr.2 hp
  exact ⟨b, off, h1, h3, h3, h4⟩⟩
 refine (h.2.2 _ W _ [.slice A l.length cap] hr' ?_).mono ?_
 ·simp only [LRel]
  exact ⟨_, _, rfl, by simp only [VRel]; exact ⟨A, cap, _, by simp, by simpa using hc, hm, we l, by simpa using hrow⟩, rfl⟩
 ·rintro e W' ⟨x, S', ρ', v, H', rfl, rfl, h1, h2, h3⟩
  simp only [VRel] at h3
  subst h3
  have hno : ∀ b, ¬ ∃ id, own (fun _ => none) id ((⟨0, []⟩ : Hp).get id) b := fun b ⟨id, hb⟩ => by rw [oz] at hb; exact hb
  exact ⟨rfl, Chg.ext ⟨h2.chg.os, h2.chg.tape, h2.chg.output, h2.chg.size, fun b hb _ => h2.chg.block b hb (hno b)⟩⟩
end Go.Proofs.YtpnpdlnpikkeaaaGreat
namespace Go.Proofs.YtpnpdlnpikkeaaaGreat
open Go.RowKit Lx Sx
set_option maxRecDepth 100000
set_option maxHeartbeats 1000000
def Cy : List UInt8 := [109, 111, 100, 117, 108, 101, 32, 77, 32, 35, 32, 120, 10, 100, 101, 102, 32, 102, 32, 40, 32, 97, 58, 73, 110, 116, 32, 44, 32, 98, 32, 58, 73, 110, 116, 32, 41, 58, 73, 110, 116, 61, 103, 40, 97, 44, 91, 98, 93, 41]
def it : Tree := (Ei Cy).1
end Go.Proofs.YtpnpdlnpikkeaaaGreat
