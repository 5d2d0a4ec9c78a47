/- Contracts of the functions that the law reaches, part 6. -/
import Derived.Test.YthpjpngfghcmcaaSh5
set_option linter.unusedVariables false
set_option linter.unusedSimpArgs false
namespace Go.Proofs.Ythpjpngfghcmcaa
open Go.RowKit Lx Sx
set_option maxRecDepth 100000
set_option maxHeartbeats 4000000
theorem rowC_snoc (ls : List (List UInt8)) (c : Nat) : ∀ (fs : List (List Pc)) (f : List Pc) (i : Nat), rowC ls c (fs ++ [f]) i = rowC ls c fs i ++ (if 0 < i + fs.length then [(ls.getD (c + (i + fs.length) - 1) [], [44])] else []) ++ f
  | [], f, i => by simp [rowC]
  | g :: r, f, i => by
    simp only [List.cons_append, rowC, List.length_cons, rowC_snoc ls c r f (i + 1), List.append_assoc]
    rw [show i + 1 + r.length = i + (r.length + 1) from by omega]
theorem pcsTs_app : ∀ (a b : List Tree), pcsTs (a ++ b) = pcsTs a ++ pcsTs b
  | [], b => rfl
  | t :: r, b => by simp only [List.cons_append, pcsTs, pcsTs_app r b]
theorem rowC_step {ls : List (List UInt8)} {c : Nat} {ks : List Tree} {i : Nat} (h : i < ks.length) : rowC ls c (pcsTs (ks.take (i + 1))) 0 = rowC ls c (pcsTs (ks.take i)) 0 ++ (if 0 < i then [(ls.getD (c + i - 1) [], [44])] else []) ++ pcsT ks[i] := by
  rw [List.take_succ_eq_append_getElem h, pcsTs_app, pcsTs, pcsTs, rowC_snoc, pcsTs_length, List.length_take, Nat.min_eq_left (Nat.le_of_lt h), Nat.zero_add]
theorem rowC_mono (ls : List (List UInt8)) (c : Nat) : ∀ (fs gs : List (List Pc)) (i : Nat), (rowC ls c fs i).length ≤ (rowC ls c (fs ++ gs) i).length
  | [], gs, i => by simp [rowC]
  | f :: r, gs, i => by have := rowC_mono ls c r gs (i + 1); simp only [List.cons_append, rowC, List.length_append]; omega
theorem rowC_take (ls : List (List UInt8)) (c : Nat) (ks : List Tree) (i j : Nat) (h : i ≤ j) : (rowC ls c (pcsTs (ks.take i)) 0).length ≤ (rowC ls c (pcsTs (ks.take j)) 0).length := by
  have e : ks.take j = ks.take i ++ (ks.take j).drop i := by
    have := (List.take_append_drop i (ks.take j)).symm
    rwa [List.take_take, Nat.min_eq_left h] at this
  rw [e, pcsTs_app]; exact rowC_mono ls c _ _ 0
theorem fresh_t {w : World} {v v1 v' : Value} (h : Fresh w v1 v') (hv : v1.ownBlock.isSome = true ∨ v1.ownBlock = v.ownBlock) : v'.ownBlock.isSome = true ∨ v'.ownBlock = v.ownBlock := by
  rcases h with h | ⟨g, h, _⟩
  · rw [h]; exact hv
  · exact .inl (by rw [h]; rfl)
theorem rowR {N : Nat} (ih : PiecesOk N) {w : World} {Bs to c : Nat} {v0 : Value} {ps : List Pc} {k toi ci : Int} {x : List UInt8} {ls : List (List UInt8)} {ks : List Tree} {cs : List Value} {A B : Option Addr} {m n : Nat} (hti : toi = to) (hci : ci = c) (hto : to ≤ ks.length) (hks9 : ks.length ≤ 1000000000) (h1c : 1 ≤ c) (hc6 : c ≤ 6) (hks : ∀ t, t ∈ ks → tsize t ≤ N ∧ (shapedT t && leadedT t && decide (tbulk t ≤ 1000000000)) = true) (hl1 : ps.length + (rowC ls c (pcsTs (ks.take to)) 0).length ≤ 1000000000) (hO : Ow Bs w v0 ps) (hL : RowIn (fun b => b < Bs) w 1 A ls.length (ls.map strV)) (hK : KidsAre (fun b => b < Bs) w ks cs) (hR : RowIn (fun b => b < Bs) w 4 B ks.length cs) (hBs : Bs ≤ w.heap.size) :
    Calls Try.prog 97 [v0, .agg #[.int .i64 k, strV x, .slice A ls.length m, .slice B ks.length n], .int .i64 0, .int .i64 toi, .int .i64 ci].toArray w fun e w' => ∃ v', e = .returned v' ∧ Ow Bs w' v' (ps ++ rowC ls c (pcsTs (ks.take to)) 0) ∧ Chg v0.ownBlock.toList w w' ∧ Fresh w v0 v' := by
  subst hti hci
  have hE := Chg.refl v0.ownBlock.toList w
  have hVB : ∀ g, g ∈ v0.ownBlock.toList → Bs ≤ g := fun g h => (hO.ge (by simpa using h)).1
  have hg : ∀ g, v0.ownBlock = some g → g ∈ v0.ownBlock.toList ∨ w.heap.size ≤ g := fun g e => .inl (by simpa using e)
  obtain ⟨VB, eVB⟩ : ∃ z, z = v0.ownBlock.toList := ⟨_, rfl⟩
  rw [← eVB] at hE hVB hg
  refine rE 41 Try.func97 rfl rfl rfl ?_
  intro a hf
  refine rR 2 hf rfl ?_
  clear hf a; intro a hf
  obtain ⟨w1, b2, he, hB3, hx4, eb5, lb6⟩ := ef_box (P := Try.prog) (t := 26) (x := (.tmp 1)) hf rfl rfl w 0
  refine rV hf rfl he ?_
  clear he hf a; intro a hf
  have ge_b2 := ge_new hE eb5
  have hn : v0.ownBlock ≠ some b2 := fun e => by have := (hO.ge e).2; omega
  replace hO := hO.t0 hx4
  replace hE := hE.t0 hx4
  clear eb5 lb6
  refine rR 11 hf rfl ?_
  clear hf a; intro a hf
  refine rL (fun g a w' => ∃ i v1, Fr a 41 (fm [(0, v1), (2, .int .i64 0), (3, .int .i64 (to : Nat)), (4, .int .i64 (c : Nat)), (6, .pointer (some ⟨b2, 0, none⟩)), (11, .int .i64 (i : Nat))]) ∧ Chg VB w w' ∧ Blk w' b2 26 [.int .i64 k, strV x, .slice A ls.length m, .slice B ks.length n] ∧ Ow Bs w' v1 (ps ++ rowC ls c (pcsTs (ks.take i)) 0) ∧ v1.ownBlock ≠ some b2 ∧ (∀ g, v1.ownBlock = some g → g ∈ VB ∨ w.heap.size ≤ g) ∧ (v1.ownBlock.isSome = true ∨ v1.ownBlock = v0.ownBlock) ∧ i ≤ to ∧ g = to - i) _ ⟨0, v0, hf.pick ⟨rfl, rfl, rfl, rfl, rfl, rfl, trivial⟩, hE, hB3, by simpa [pcsTs, rowC] using hO, hn, hg, .inr rfl, Nat.zero_le _, rfl⟩ ?_
  obtain ⟨b6, eb6⟩ : ∃ x, b2 = x := ⟨_, rfl⟩
  rw [eb6]
  have ge_b6 : w.heap.size ≤ b6 := eb6 ▸ ge_b2
  clear eb6 hf a hO hn hg
  intro g0 a w' hI
  obtain ⟨i, v1, hf, hE, hB6, hO, hn, hg, hvs, hi, rfl⟩ := hI
  by_cases hlt : i < to
  have hik : i < ks.length := by omega
  obtain ⟨kb, ko, rfl, lbB, hkb, _⟩ := hR.2 (by omega)
  obtain ⟨d0, d1, d2, d3, hT, hc⟩ := kid_at hK hR rfl (List.getElem?_eq_getElem hik)
  have on_T := hT.one
  have hmem : ks[i] ∈ ks := List.getElem_mem hik
  have hst := rowC_step (ls := ls) (c := c) hik
  have hmo := rowC_take ls c ks (i + 1) to (by omega)
  rw [hst] at hmo
  simp only [List.length_append] at hmo
  refine rR 5 hf rfl ?_
  clear hf a; intro a hf
  refine rV hf rfl (ex_ltI (c := true) hf rfl rfl (by simp; omega)) ?_
  clear hf a; intro a hf
  refine rR 12 hf rfl ?_
  clear hf a; intro a hf
  refine rB hf rfl (fun c hc => ex_gtI hf rfl rfl hc) ?_ ?_
  clear hf a; intro h20 a hf
  have hip : 0 < i := by simp at h20; omega
  rw [if_pos hip] at hst hmo
  simp only [List.length_cons, List.length_nil] at hmo
  obtain ⟨ps0, eps0⟩ : ∃ z, z = ps ++ rowC ls c (pcsTs (ks.take i)) 0 := ⟨_, rfl⟩
  rw [← eps0] at hO
  have lps0 : ps0.length = ps.length + (rowC ls c (pcsTs (ks.take i)) 0).length := by rw [eps0, List.length_append]
  refine rR 5 hf rfl ?_
  clear hf a; intro a hf
  refine rV hf rfl (ex_loadBN (m := 4) hf rfl (by kernel_rfl) hB6 rfl) ?_
  clear hf a; intro a hf
  refine rR 2 hf rfl ?_
  clear hf a; intro a hf
  refine rV hf rfl (ex_addI hf rfl rfl rfl (by omega)) ?_
  clear hf a; intro a hf
  refine rR 1 hf rfl ?_
  clear hf a; intro a hf
  refine rV hf rfl (ex_subI hf rfl rfl rfl (by omega)) ?_
  clear hf a; intro a hf
  refine rV hf rfl (ex_subI hf rfl rfl rfl (by omega)) ?_
  clear hf a; intro a hf
  refine rC hf rfl rfl (by kernel_rfl) (leadAtR (ls := ls) (j := c + i - 1) (by omega) (row_now hL hE hVB)) ?_
  rintro _ w8 ⟨rfl, hx7⟩
  refine ⟨_, rfl, ?_⟩
  clear hf a; intro a hf
  replace hB6 := hB6.c0 hx7
  replace hO := hO.t0 hx7
  replace hE := hE.t0 hx7
  refine rV hf rfl (ex_bd (ps := [(0, (.tmp 29)), (1, (.const (.string ⟨#[44]⟩)))]) (z := [.string ⟨([] : List UInt8).toArray⟩, .string ⟨([] : List UInt8).toArray⟩]) (os := [0, 1]) hf rfl (by kernel_rfl) (by kernel_rfl) (by kernel_rfl) rfl rfl) ?_
  clear hf a; intro a hf
  obtain ⟨w9, b10, he, hB11, hx12, eb13, lb14⟩ := ef_bslice (P := Try.prog) (ps := [(0, (.tmp 30))]) (m := 1) (sz := 2) (z := [.string ⟨([] : List UInt8).toArray⟩, .string ⟨([] : List UInt8).toArray⟩]) hf rfl Try.underlying54 (by kernel_rfl) (by kernel_rfl) rfl rfl (by kernel_rfl) rfl w8 54
  refine rV hf rfl he ?_
  clear he hf a; intro a hf
  have ne_b6_b10 : b6 ≠ b10 := ne_new hB6.lt eb13
  have ge_b10 := ge_new hE eb13
  replace hB6 := hB6.c0 hx12
  replace hO := hO.t0 hx12
  replace hE := hE.t0 hx12
  clear eb13 lb14
  obtain ⟨v16, w15, he, hO17, hx18, hfr19⟩ := eP (.tmp 21) (.tmp 31) [((ls.getD (c + i - 1) []), [44])] hf rfl rfl hO hB11 rfl (by (try simp only [List.length_cons, List.length_nil]); omega) (nlt hBs hE.size) 54
  refine rV hf rfl he ?_
  clear he hf a; intro a hf
  replace hvs : v16.ownBlock.isSome = true ∨ v16.ownBlock = v0.ownBlock := fresh_t hfr19 hvs
  have hn2 := own_ne hfr19 hn hB6.lt
  have hg2 := own_from hfr19 hg hE.size
  replace hB6 := hB6.chg hx18 (nmO hn)
  replace hE := chg_own hE hx18 hg
  clear hO hn hg hfr19
  have hO := hO17; clear hO17
  have hn := hn2; clear hn2
  have hg := hg2; clear hg2
  obtain ⟨ps20, eps20⟩ : ∃ z, z = ps0 ++ [((ls.getD (c + i - 1) []), [44])] := ⟨_, rfl⟩
  rw [← eps20] at hO
  have lps20 : ps20.length = ps0.length + 1 := by rw [eps20]; simp
  refine rR 6 hf rfl ?_
  clear hf a; intro a hf
  refine rV hf rfl (ex_loadB hf rfl (by kernel_rfl) hB6 rfl) ?_
  clear hf a; intro a hf
  refine rR 1 hf rfl ?_
  clear hf a; intro a hf
  refine rV hf rfl (ex_index (sz := 4) (k := i) (r := ko + i * 4) hf Try.underlying24 (by kernel_rfl) rfl rfl rfl hik rfl) ?_
  clear hf a; intro a hf
  refine rV hf rfl (ex_loadN (cs := [d0, d1, d2, d3]) (m := 4) hf rfl (by kernel_rfl) rfl (fun r hr => (low_now hE hVB hkb lbB).trans (hc r hr))) ?_
  clear hf a; intro a hf
  refine rC hf rfl rfl (by kernel_rfl) (ih ks[i] _ Bs _ ps20 _ _ _ _ (hks _ hmem).1 (hks _ hmem).2 (by omega) hO (tree_now hT hE hVB) (nlt hBs hE.size)) ?_
  rintro _ w25 ⟨v22, rfl, hO23, hx21, hfr24⟩
  refine ⟨_, rfl, ?_⟩
  clear hf a; intro a hf
  replace hvs : v22.ownBlock.isSome = true ∨ v22.ownBlock = v0.ownBlock := fresh_t hfr24 hvs
  have hn2 := own_ne hfr24 hn hB6.lt
  have hg2 := own_from hfr24 hg hE.size
  replace hB6 := hB6.chg hx21 (nmO hn)
  replace hE := chg_own hE hx21 hg
  clear hO hn hg hfr24
  have hO := hO23; clear hO23
  have hn := hn2; clear hn2
  have hg := hg2; clear hg2
  have hfin : ps20 ++ pcsT ks[i] = ps ++ rowC ls c (pcsTs (ks.take (i + 1))) 0 := by rw [hst]; subst eps20; subst eps0; simp only [List.append_assoc, List.nil_append]
  rw [hfin] at hO
  refine rR 6 hf rfl ?_
  clear hf a; intro a hf
  refine rV hf rfl (ex_addI hf rfl rfl rfl (by omega)) ?_
  clear hf a; intro a hf
  refine rR 2 hf rfl ?_
  clear hf a; intro a hf
  exact rX ⟨_, (by omega : to - (i + 1) < to - i), i + 1, v22, hf.pick ⟨rfl, rfl, rfl, rfl, rfl, rfl, trivial⟩, hE, hB6, hO, hn, hg, hvs, by omega, rfl⟩
  clear hf a; intro h20 a hf
  have hip : i = 0 := by simp at h20; omega
  rw [if_neg (by omega)] at hst hmo
  simp only [List.length_cons, List.length_nil] at hmo
  obtain ⟨ps0, eps0⟩ : ∃ z, z = ps ++ rowC ls c (pcsTs (ks.take i)) 0 := ⟨_, rfl⟩
  rw [← eps0] at hO
  have lps0 : ps0.length = ps.length + (rowC ls c (pcsTs (ks.take i)) 0).length := by rw [eps0, List.length_append]
  refine rR 8 hf rfl ?_
  clear hf a; intro a hf
  refine rV hf rfl (ex_loadB hf rfl (by kernel_rfl) hB6 rfl) ?_
  clear hf a; intro a hf
  refine rR 1 hf rfl ?_
  clear hf a; intro a hf
  refine rV hf rfl (ex_index (sz := 4) (k := i) (r := ko + i * 4) hf Try.underlying24 (by kernel_rfl) rfl rfl rfl hik rfl) ?_
  clear hf a; intro a hf
  refine rV hf rfl (ex_loadN (cs := [d0, d1, d2, d3]) (m := 4) hf rfl (by kernel_rfl) rfl (fun r hr => (low_now hE hVB hkb lbB).trans (hc r hr))) ?_
  clear hf a; intro a hf
  refine rC hf rfl rfl (by kernel_rfl) (ih ks[i] _ Bs _ ps0 _ _ _ _ (hks _ hmem).1 (hks _ hmem).2 (by omega) hO (tree_now hT hE hVB) (nlt hBs hE.size)) ?_
  rintro _ w30 ⟨v27, rfl, hO28, hx26, hfr29⟩
  refine ⟨_, rfl, ?_⟩
  clear hf a; intro a hf
  replace hvs : v27.ownBlock.isSome = true ∨ v27.ownBlock = v0.ownBlock := fresh_t hfr29 hvs
  have hn2 := own_ne hfr29 hn hB6.lt
  have hg2 := own_from hfr29 hg hE.size
  replace hB6 := hB6.chg hx26 (nmO hn)
  replace hE := chg_own hE hx26 hg
  clear hO hn hg hfr29
  have hO := hO28; clear hO28
  have hn := hn2; clear hn2
  have hg := hg2; clear hg2
  have hfin : ps0 ++ pcsT ks[i] = ps ++ rowC ls c (pcsTs (ks.take (i + 1))) 0 := by rw [hst]; subst eps0; simp only [List.append_assoc, List.nil_append]
  rw [hfin] at hO
  refine rR 6 hf rfl ?_
  clear hf a; intro a hf
  refine rV hf rfl (ex_addI hf rfl rfl rfl (by omega)) ?_
  clear hf a; intro a hf
  refine rR 2 hf rfl ?_
  clear hf a; intro a hf
  exact rX ⟨_, (by omega : to - (i + 1) < to - i), i + 1, v27, hf.pick ⟨rfl, rfl, rfl, rfl, rfl, rfl, trivial⟩, hE, hB6, hO, hn, hg, hvs, by omega, rfl⟩
  obtain rfl : i = to := by omega
  refine rR 5 hf rfl ?_
  clear hf a; intro a hf
  refine rV hf rfl (ex_ltI (c := false) hf rfl rfl (by simp <;> omega)) ?_
  clear hf a; intro a hf
  refine rR 5 hf rfl ?_
  clear hf a; intro a hf
  refine rO ?_
  refine rR 9 hf rfl ?_
  clear hf a; intro a hf
  exact rT (rs := [.tmp 10]) hf rfl ⟨_, _, rfl, rfl, rfl⟩ ⟨_, rfl, hO, eVB ▸ hE, fresh_all (eVB ▸ hg) hvs⟩
theorem kids_now {Bs : Nat} {VB : List Nat} {w w' : World} {t : List Tree} {c : List Value} (hT : KidsAre (fun b => b < Bs) w t c) (hE : Chg VB w w') (hVB : ∀ g, g ∈ VB → Bs ≤ g) : KidsAre (fun b => b < Bs) w' t c := hT.chg hE (fun b hb _ h => by have := hVB b h; omega)
theorem p16 {N : Nat} (ih : PiecesOk N) {w : World} {Bs : Nat} {v0 : Value} {ps : List Pc} {x : List UInt8} {l0 l1 l2 : List UInt8} {ms : List (List UInt8)} {ks : List Tree} {cs : List Value} {A B : Option Addr} {m n : Nat} (hk9 : ks.length ≤ 1000000000) (hks : ∀ t, t ∈ ks → tsize t ≤ N ∧ (shapedT t && leadedT t && decide (tbulk t ≤ 1000000000)) = true)
    (hl1 : ps.length + (pcsT (.node 16 x (l0 :: l1 :: l2 :: ms) ks)).length ≤ 1000000000) (hO : Ow Bs w v0 ps) (hL : RowIn (fun b => b < Bs) w 1 A (l0 :: l1 :: l2 :: ms).length ((l0 :: l1 :: l2 :: ms).map strV)) (hn0 : ks.length ≤ n) (hn2 : n ≤ maxLen) (hK : KidsAre (fun b => b < Bs) w ks cs) (hR : RowIn (fun b => b < Bs) w 4 B ks.length cs) (hBs : Bs ≤ w.heap.size) :
    Calls Try.prog 64 [v0, .agg #[.int .i64 16, strV x, .slice A (l0 :: l1 :: l2 :: ms).length m, .slice B ks.length n]].toArray w fun e w' => ∃ v', e = .returned v' ∧ Ow Bs w' v' (ps ++ pcsT (.node 16 x (l0 :: l1 :: l2 :: ms) ks)) ∧ Chg v0.ownBlock.toList w w' ∧ Fresh w v0 v' := by
  have hq : (pcsT (.node 16 x (l0 :: l1 :: l2 :: ms) ks)).length = 3 + (rowC (l0 :: l1 :: l2 :: ms) 3 (pcsTs (ks.take ks.length)) 0).length := by simp [pcsT, nodeC, List.take_length] <;> omega
  have hE := Chg.refl v0.ownBlock.toList w
  have hVB : ∀ g, g ∈ v0.ownBlock.toList → Bs ≤ g := fun g h => (hO.ge (by simpa using h)).1
  have hg : ∀ g, v0.ownBlock = some g → g ∈ v0.ownBlock.toList ∨ w.heap.size ≤ g := fun g e => .inl (by simpa using e)
  refine rE 365 Try.func64 rfl rfl rfl ?_
  intro a hf
  refine rR 2 hf rfl fun a hf => ?_
  obtain ⟨w1, b2, he, hB3, hx4, eb5, lb6⟩ := ef_box (P := Try.prog) (t := 26) (x := (.tmp 1)) hf rfl rfl w 0
  refine rV hf rfl he fun a hf => ?_
  have ge_b2 := ge_new hE eb5
  have hn : v0.ownBlock ≠ some b2 := fun e => by have := (hO.ge e).2; omega
  replace hO := hO.t0 hx4
  replace hE := hE.t0 hx4
  clear eb5 lb6
  refine rR 6 hf rfl fun a hf => rV hf rfl (ex_loadB hf rfl (by kernel_rfl) hB3 rfl) fun a hf => rV hf rfl (ex_len hf Try.underlying24 rfl) fun a hf => rR 7 hf rfl fun a hf => rV hf rfl (ex_loadB hf rfl (by kernel_rfl) hB3 rfl) fun a hf => rR 88 hf rfl fun a hf => ?_
  have hEs := hE
  have s_hB3 := hB3
  refine rD (fun x => x.cell? ⟨b2, 0, none⟩ = w1.cell? ⟨b2, 0, none⟩ ∧ x.cell? ⟨b2, 1, none⟩ = w1.cell? ⟨b2, 1, none⟩ ∧ x.cell? ⟨b2, 2, none⟩ = w1.cell? ⟨b2, 2, none⟩ ∧ x.cell? ⟨b2, 3, none⟩ = w1.cell? ⟨b2, 3, none⟩) 12 12 rfl (by kernel_rfl) (by kernel_rfl) ?_
  intro w7 hx8 hsel
  replace hB3 := hB3.c0 hx8
  replace hO := hO.t0 hx8
  replace hE := hE.t0 hx8
  have hS0 : w7.cell? ⟨b2, 0, none⟩ = w1.cell? ⟨b2, 0, none⟩ ∧ w7.cell? ⟨b2, 1, none⟩ = w1.cell? ⟨b2, 1, none⟩ ∧ w7.cell? ⟨b2, 2, none⟩ = w1.cell? ⟨b2, 2, none⟩ ∧ w7.cell? ⟨b2, 3, none⟩ = w1.cell? ⟨b2, 3, none⟩ := ⟨(hB3.cell 0).trans (s_hB3.cell 0).symm, (hB3.cell 1).trans (s_hB3.cell 1).symm, (hB3.cell 2).trans (s_hB3.cell 2).symm, (hB3.cell 3).trans (s_hB3.cell 3).symm⟩
  refine dR [0] hsel (by kernel_rfl) hf rfl rfl (.inl hS0) fun a hf => dL 1 rfl rfl hsel (by kernel_rfl) hf rfl hS0 (fun x hS => ex_loadX4 hf rfl (by kernel_rfl) s_hB3 rfl hS.1 hS.2.1 hS.2.2.1 hS.2.2.2) fun a hf => dR [3] hsel (by kernel_rfl) hf rfl rfl (.inl hS0) fun a hf => dL 4 rfl rfl hsel (by kernel_rfl) hf rfl hS0 (fun x hS => ex_load hf rfl (by kernel_rfl) (hS.2.1.trans ((s_hB3.cell 1).trans rfl))) fun a hf => dL 6 rfl rfl hsel (by kernel_rfl) hf rfl hS0 (fun x hS => ex_loadX4 hf rfl (by kernel_rfl) s_hB3 rfl hS.1 hS.2.1 hS.2.2.1 hS.2.2.2) fun a hf => dl_c 2 (by kernel_rfl) rfl hf rfl rfl rfl (by kernel_rfl) (leadAtR (ls := (l0 :: l1 :: l2 :: ms)) (j := 0) rfl (row_now hL hE hVB)) ?_
  rintro _ w10 ⟨rfl, hx9⟩
  refine ⟨_, rfl, fun a hf => ?_⟩
  replace hB3 := hB3.c0 hx9
  replace hO := hO.t0 hx9
  replace hE := hE.t0 hx9
  clear hS0
  have hS0 : w10.cell? ⟨b2, 0, none⟩ = w1.cell? ⟨b2, 0, none⟩ ∧ w10.cell? ⟨b2, 1, none⟩ = w1.cell? ⟨b2, 1, none⟩ ∧ w10.cell? ⟨b2, 2, none⟩ = w1.cell? ⟨b2, 2, none⟩ ∧ w10.cell? ⟨b2, 3, none⟩ = w1.cell? ⟨b2, 3, none⟩ := ⟨(hB3.cell 0).trans (s_hB3.cell 0).symm, (hB3.cell 1).trans (s_hB3.cell 1).symm, (hB3.cell 2).trans (s_hB3.cell 2).symm, (hB3.cell 3).trans (s_hB3.cell 3).symm⟩
  refine ⟨.inl hS0, ?_⟩
  refine dV 5 rfl rfl hsel (by kernel_rfl) hf rfl (.inl hS0) (fun x => ex_bd (ps := [(0, (.tmp 206)), (1, (.tmp 208))]) (z := [.string ⟨([] : List UInt8).toArray⟩, .string ⟨([] : List UInt8).toArray⟩]) (os := [0, 1]) hf rfl (by kernel_rfl) (by kernel_rfl) (by kernel_rfl) rfl rfl) fun a hf => dl_c 7 (by kernel_rfl) rfl hf rfl rfl rfl (by kernel_rfl) (leadAtR (ls := (l0 :: l1 :: l2 :: ms)) (j := 1) rfl (row_now hL hE hVB)) ?_
  rintro _ w12 ⟨rfl, hx11⟩
  refine ⟨_, rfl, fun a hf => ?_⟩
  replace hB3 := hB3.c0 hx11
  replace hO := hO.t0 hx11
  replace hE := hE.t0 hx11
  clear hS0
  have hS0 : w12.cell? ⟨b2, 0, none⟩ = w1.cell? ⟨b2, 0, none⟩ ∧ w12.cell? ⟨b2, 1, none⟩ = w1.cell? ⟨b2, 1, none⟩ ∧ w12.cell? ⟨b2, 2, none⟩ = w1.cell? ⟨b2, 2, none⟩ ∧ w12.cell? ⟨b2, 3, none⟩ = w1.cell? ⟨b2, 3, none⟩ := ⟨(hB3.cell 0).trans (s_hB3.cell 0).symm, (hB3.cell 1).trans (s_hB3.cell 1).symm, (hB3.cell 2).trans (s_hB3.cell 2).symm, (hB3.cell 3).trans (s_hB3.cell 3).symm⟩
  refine ⟨.inl hS0, ?_⟩
  refine dV 8 rfl rfl hsel (by kernel_rfl) hf rfl (.inl hS0) (fun x => ex_bd (ps := [(0, (.tmp 211)), (1, (.const (.string ⟨#[40]⟩)))]) (z := [.string ⟨([] : List UInt8).toArray⟩, .string ⟨([] : List UInt8).toArray⟩]) (os := [0, 1]) hf rfl (by kernel_rfl) (by kernel_rfl) (by kernel_rfl) rfl rfl) fun a hf => ?_
  obtain ⟨w13, b14, he, hB15, hx16, eb17, lb18⟩ := ef_bslice (P := Try.prog) (ps := [(0, (.tmp 209)), (1, (.tmp 212))]) (m := 2) (sz := 2) (z := [.string ⟨([] : List UInt8).toArray⟩, .string ⟨([] : List UInt8).toArray⟩]) hf rfl Try.underlying54 (by kernel_rfl) (by kernel_rfl) rfl rfl (by kernel_rfl) rfl w12 54
  refine dl_e 9 (by kernel_rfl) rfl hf rfl rfl he fun a hf => ?_
  have ne_b2_b14 : b2 ≠ b14 := ne_new hB3.lt eb17
  have ge_b14 := ge_new hE eb17
  replace hB3 := hB3.c0 hx16
  replace hO := hO.t0 hx16
  replace hE := hE.t0 hx16
  clear eb17 lb18
  clear hS0
  have hS0 : w13.cell? ⟨b2, 0, none⟩ = w1.cell? ⟨b2, 0, none⟩ ∧ w13.cell? ⟨b2, 1, none⟩ = w1.cell? ⟨b2, 1, none⟩ ∧ w13.cell? ⟨b2, 2, none⟩ = w1.cell? ⟨b2, 2, none⟩ ∧ w13.cell? ⟨b2, 3, none⟩ = w1.cell? ⟨b2, 3, none⟩ := ⟨(hB3.cell 0).trans (s_hB3.cell 0).symm, (hB3.cell 1).trans (s_hB3.cell 1).symm, (hB3.cell 2).trans (s_hB3.cell 2).symm, (hB3.cell 3).trans (s_hB3.cell 3).symm⟩
  refine ⟨.inl hS0, ?_⟩
  obtain ⟨v20, w19, he, hO21, hx22, hfr23⟩ := eP (.tmp 204) (.tmp 213) [(l0, x), (l1, [40])] hf rfl rfl hO hB15 rfl (by (try simp only [List.length_cons, List.length_nil]); omega) (nlt hBs hE.size) 54
  refine dl_e 10 (by kernel_rfl) rfl hf rfl rfl he fun a hf => ?_
  have hn2 := own_ne hfr23 hn hB3.lt
  have hg2 := own_from hfr23 hg hE.size
  replace hB3 := hB3.chg hx22 (nmO hn)
  replace hE := chg_own hE hx22 hg
  clear hO hn hg hfr23
  have hO := hO21; clear hO21
  have hn := hn2; clear hn2
  have hg := hg2; clear hg2
  obtain ⟨ps24, eps24⟩ : ∃ z, z = ps ++ [(l0, x), (l1, [40])] := ⟨_, rfl⟩
  rw [← eps24] at hO
  have lps24 : ps24.length = ps.length + 2 := by rw [eps24]; simp
  clear hS0
  have hS0 : w19.cell? ⟨b2, 0, none⟩ = w1.cell? ⟨b2, 0, none⟩ ∧ w19.cell? ⟨b2, 1, none⟩ = w1.cell? ⟨b2, 1, none⟩ ∧ w19.cell? ⟨b2, 2, none⟩ = w1.cell? ⟨b2, 2, none⟩ ∧ w19.cell? ⟨b2, 3, none⟩ = w1.cell? ⟨b2, 3, none⟩ := ⟨(hB3.cell 0).trans (s_hB3.cell 0).symm, (hB3.cell 1).trans (s_hB3.cell 1).symm, (hB3.cell 2).trans (s_hB3.cell 2).symm, (hB3.cell 3).trans (s_hB3.cell 3).symm⟩
  refine ⟨.inl hS0, ?_⟩
  refine dR [11] hsel (by kernel_rfl) hf rfl rfl (.inl hS0) fun a hf => rN (by kernel_rfl) ?_
  clear hS0 hsel
  refine rR 2 hf rfl fun a hf => ?_
  have hEs := hE
  have s_hB3 := hB3
  refine rD (fun x => x.cell? ⟨b2, 0, none⟩ = w19.cell? ⟨b2, 0, none⟩ ∧ x.cell? ⟨b2, 1, none⟩ = w19.cell? ⟨b2, 1, none⟩ ∧ x.cell? ⟨b2, 2, none⟩ = w19.cell? ⟨b2, 2, none⟩ ∧ x.cell? ⟨b2, 3, none⟩ = w19.cell? ⟨b2, 3, none⟩) 10 10 rfl (by kernel_rfl) (by kernel_rfl) ?_
  intro w25 hx26 hsel
  replace hB3 := hB3.c0 hx26
  replace hO := hO.t0 hx26
  replace hE := hE.t0 hx26
  have hS0 : w25.cell? ⟨b2, 0, none⟩ = w19.cell? ⟨b2, 0, none⟩ ∧ w25.cell? ⟨b2, 1, none⟩ = w19.cell? ⟨b2, 1, none⟩ ∧ w25.cell? ⟨b2, 2, none⟩ = w19.cell? ⟨b2, 2, none⟩ ∧ w25.cell? ⟨b2, 3, none⟩ = w19.cell? ⟨b2, 3, none⟩ := ⟨(hB3.cell 0).trans (s_hB3.cell 0).symm, (hB3.cell 1).trans (s_hB3.cell 1).symm, (hB3.cell 2).trans (s_hB3.cell 2).symm, (hB3.cell 3).trans (s_hB3.cell 3).symm⟩
  refine dR [0] hsel (by kernel_rfl) hf rfl rfl (.inl hS0) fun a hf => dL 1 rfl rfl hsel (by kernel_rfl) hf rfl hS0 (fun x hS => ex_loadX4 hf rfl (by kernel_rfl) s_hB3 rfl hS.1 hS.2.1 hS.2.2.1 hS.2.2.2) fun a hf => dR [2] hsel (by kernel_rfl) hf rfl rfl (.inl hS0) fun a hf => dL 4 rfl rfl hsel (by kernel_rfl) hf rfl hS0 (fun x hS => ex_loadX4 hf rfl (by kernel_rfl) s_hB3 rfl hS.1 hS.2.1 hS.2.2.1 hS.2.2.2) fun a hf => dl_c 3 (by kernel_rfl) rfl hf rfl rfl rfl (by kernel_rfl) (rowR ih (to := ks.length) (c := 3) (ps := ps24) rfl (by decide) (Nat.le_refl _) (by omega) (by decide) (by decide) hks (by omega) hO (row_now hL hE hVB) (kids_now hK hE hVB) (row_now hR hE hVB) (nlt hBs hE.size)) ?_
  rintro _ w31 ⟨v28, rfl, hO29, hx27, hfr30⟩
  refine ⟨_, rfl, fun a hf => ?_⟩
  have hn2 := own_ne hfr30 hn hB3.lt
  have hg2 := own_from hfr30 hg hE.size
  replace hB3 := hB3.chg hx27 (nmO hn)
  replace hE := chg_own hE hx27 hg
  clear hO hn hg hfr30
  have hO := hO29; clear hO29
  have hn := hn2; clear hn2
  have hg := hg2; clear hg2
  obtain ⟨ps32, eps32⟩ : ∃ z, z = ps24 ++ rowC (l0 :: l1 :: l2 :: ms) 3 (pcsTs (ks.take ks.length)) 0 := ⟨_, rfl⟩
  rw [← eps32] at hO
  have lps32 : ps32.length = ps24.length + (rowC (l0 :: l1 :: l2 :: ms) 3 (pcsTs (ks.take ks.length)) 0).length := by rw [eps32, List.length_append]
  clear hS0
  have hS0 : w31.cell? ⟨b2, 0, none⟩ = w19.cell? ⟨b2, 0, none⟩ ∧ w31.cell? ⟨b2, 1, none⟩ = w19.cell? ⟨b2, 1, none⟩ ∧ w31.cell? ⟨b2, 2, none⟩ = w19.cell? ⟨b2, 2, none⟩ ∧ w31.cell? ⟨b2, 3, none⟩ = w19.cell? ⟨b2, 3, none⟩ := ⟨(hB3.cell 0).trans (s_hB3.cell 0).symm, (hB3.cell 1).trans (s_hB3.cell 1).symm, (hB3.cell 2).trans (s_hB3.cell 2).symm, (hB3.cell 3).trans (s_hB3.cell 3).symm⟩
  refine ⟨.inl hS0, ?_⟩
  refine dl_c 5 (by kernel_rfl) rfl hf rfl rfl rfl (by kernel_rfl) (leadAtR (ls := (l0 :: l1 :: l2 :: ms)) (j := 2) rfl (row_now hL hE hVB)) ?_
  rintro _ w34 ⟨rfl, hx33⟩
  refine ⟨_, rfl, fun a hf => ?_⟩
  replace hB3 := hB3.c0 hx33
  replace hO := hO.t0 hx33
  replace hE := hE.t0 hx33
  clear hS0
  have hS0 : w34.cell? ⟨b2, 0, none⟩ = w19.cell? ⟨b2, 0, none⟩ ∧ w34.cell? ⟨b2, 1, none⟩ = w19.cell? ⟨b2, 1, none⟩ ∧ w34.cell? ⟨b2, 2, none⟩ = w19.cell? ⟨b2, 2, none⟩ ∧ w34.cell? ⟨b2, 3, none⟩ = w19.cell? ⟨b2, 3, none⟩ := ⟨(hB3.cell 0).trans (s_hB3.cell 0).symm, (hB3.cell 1).trans (s_hB3.cell 1).symm, (hB3.cell 2).trans (s_hB3.cell 2).symm, (hB3.cell 3).trans (s_hB3.cell 3).symm⟩
  refine ⟨.inl hS0, ?_⟩
  refine dV 6 rfl rfl hsel (by kernel_rfl) hf rfl (.inl hS0) (fun x => ex_bd (ps := [(0, (.tmp 220)), (1, (.const (.string ⟨#[41]⟩)))]) (z := [.string ⟨([] : List UInt8).toArray⟩, .string ⟨([] : List UInt8).toArray⟩]) (os := [0, 1]) hf rfl (by kernel_rfl) (by kernel_rfl) (by kernel_rfl) rfl rfl) fun a hf => ?_
  obtain ⟨w35, b36, he, hB37, hx38, eb39, lb40⟩ := ef_bslice (P := Try.prog) (ps := [(0, (.tmp 221))]) (m := 1) (sz := 2) (z := [.string ⟨([] : List UInt8).toArray⟩, .string ⟨([] : List UInt8).toArray⟩]) hf rfl Try.underlying54 (by kernel_rfl) (by kernel_rfl) rfl rfl (by kernel_rfl) rfl w34 54
  refine dl_e 7 (by kernel_rfl) rfl hf rfl rfl he fun a hf => ?_
  have ne_b2_b36 : b2 ≠ b36 := ne_new hB3.lt eb39
  have ge_b36 := ge_new hE eb39
  replace hB3 := hB3.c0 hx38
  replace hO := hO.t0 hx38
  replace hE := hE.t0 hx38
  clear eb39 lb40
  clear hS0
  have hS0 : w35.cell? ⟨b2, 0, none⟩ = w19.cell? ⟨b2, 0, none⟩ ∧ w35.cell? ⟨b2, 1, none⟩ = w19.cell? ⟨b2, 1, none⟩ ∧ w35.cell? ⟨b2, 2, none⟩ = w19.cell? ⟨b2, 2, none⟩ ∧ w35.cell? ⟨b2, 3, none⟩ = w19.cell? ⟨b2, 3, none⟩ := ⟨(hB3.cell 0).trans (s_hB3.cell 0).symm, (hB3.cell 1).trans (s_hB3.cell 1).symm, (hB3.cell 2).trans (s_hB3.cell 2).symm, (hB3.cell 3).trans (s_hB3.cell 3).symm⟩
  refine ⟨.inl hS0, ?_⟩
  obtain ⟨v42, w41, he, hO43, hx44, hfr45⟩ := eP (.tmp 218) (.tmp 222) [(l2, [41])] hf rfl rfl hO hB37 rfl (by (try simp only [List.length_cons, List.length_nil]); omega) (nlt hBs hE.size) 54
  refine dl_e 8 (by kernel_rfl) rfl hf rfl rfl he fun a hf => ?_
  have hn2 := own_ne hfr45 hn hB3.lt
  have hg2 := own_from hfr45 hg hE.size
  replace hB3 := hB3.chg hx44 (nmO hn)
  replace hE := chg_own hE hx44 hg
  clear hO hn hg hfr45
  have hO := hO43; clear hO43
  have hn := hn2; clear hn2
  have hg := hg2; clear hg2
  obtain ⟨ps46, eps46⟩ : ∃ z, z = ps32 ++ [(l2, [41])] := ⟨_, rfl⟩
  rw [← eps46] at hO
  have lps46 : ps46.length = ps32.length + 1 := by rw [eps46]; simp
  clear hS0
  have hS0 : w41.cell? ⟨b2, 0, none⟩ = w19.cell? ⟨b2, 0, none⟩ ∧ w41.cell? ⟨b2, 1, none⟩ = w19.cell? ⟨b2, 1, none⟩ ∧ w41.cell? ⟨b2, 2, none⟩ = w19.cell? ⟨b2, 2, none⟩ ∧ w41.cell? ⟨b2, 3, none⟩ = w19.cell? ⟨b2, 3, none⟩ := ⟨(hB3.cell 0).trans (s_hB3.cell 0).symm, (hB3.cell 1).trans (s_hB3.cell 1).symm, (hB3.cell 2).trans (s_hB3.cell 2).symm, (hB3.cell 3).trans (s_hB3.cell 3).symm⟩
  refine ⟨.inl hS0, ?_⟩
  refine dR [9] hsel (by kernel_rfl) hf rfl rfl (.inl hS0) fun a hf => rN (by kernel_rfl) ?_
  clear hS0 hsel
  refine rR 4 hf rfl fun a hf => ?_
  have eq : ps ++ pcsT (.node 16 x (l0 :: l1 :: l2 :: ms) ks) = ps46 := by subst eps46; subst eps32; subst eps24; simp [pcsT, nodeC, List.take_length]
  exact rT (rs := [.tmp 4]) hf rfl ⟨_, _, rfl, rfl, rfl⟩ ⟨_, rfl, eq ▸ hO, hE, fresh_all hg (.inl (own_some hO))⟩
theorem p18 {N : Nat} (ih : PiecesOk N) {w : World} {Bs : Nat} {v0 : Value} {ps : List Pc} {x : List UInt8} {l0 l1 : List UInt8} {ms : List (List UInt8)} {ks : List Tree} {cs : List Value} {A B : Option Addr} {m n : Nat} (hk9 : ks.length ≤ 1000000000) (hks : ∀ t, t ∈ ks → tsize t ≤ N ∧ (shapedT t && leadedT t && decide (tbulk t ≤ 1000000000)) = true)
    (hl1 : ps.length + (pcsT (.node 18 x (l0 :: l1 :: ms) ks)).length ≤ 1000000000) (hO : Ow Bs w v0 ps) (hL : RowIn (fun b => b < Bs) w 1 A (l0 :: l1 :: ms).length ((l0 :: l1 :: ms).map strV)) (hn0 : ks.length ≤ n) (hn2 : n ≤ maxLen) (hK : KidsAre (fun b => b < Bs) w ks cs) (hR : RowIn (fun b => b < Bs) w 4 B ks.length cs) (hBs : Bs ≤ w.heap.size) :
    Calls Try.prog 64 [v0, .agg #[.int .i64 18, strV x, .slice A (l0 :: l1 :: ms).length m, .slice B ks.length n]].toArray w fun e w' => ∃ v', e = .returned v' ∧ Ow Bs w' v' (ps ++ pcsT (.node 18 x (l0 :: l1 :: ms) ks)) ∧ Chg v0.ownBlock.toList w w' ∧ Fresh w v0 v' := by
  have hq : (pcsT (.node 18 x (l0 :: l1 :: ms) ks)).length = 2 + (rowC (l0 :: l1 :: ms) 2 (pcsTs (ks.take ks.length)) 0).length := by simp [pcsT, nodeC, List.take_length] <;> omega
  have hE := Chg.refl v0.ownBlock.toList w
  have hVB : ∀ g, g ∈ v0.ownBlock.toList → Bs ≤ g := fun g h => (hO.ge (by simpa using h)).1
  have hg : ∀ g, v0.ownBlock = some g → g ∈ v0.ownBlock.toList ∨ w.heap.size ≤ g := fun g e => .inl (by simpa using e)
  refine rE 365 Try.func64 rfl rfl rfl ?_
  intro a hf
  refine rR 2 hf rfl fun a hf => ?_
  obtain ⟨w1, b2, he, hB3, hx4, eb5, lb6⟩ := ef_box (P := Try.prog) (t := 26) (x := (.tmp 1)) hf rfl rfl w 0
  refine rV hf rfl he fun a hf => ?_
  have ge_b2 := ge_new hE eb5
  have hn : v0.ownBlock ≠ some b2 := fun e => by have := (hO.ge e).2; omega
  replace hO := hO.t0 hx4
  replace hE := hE.t0 hx4
  clear eb5 lb6
  refine rR 6 hf rfl fun a hf => rV hf rfl (ex_loadB hf rfl (by kernel_rfl) hB3 rfl) fun a hf => rV hf rfl (ex_len hf Try.underlying24 rfl) fun a hf => rR 7 hf rfl fun a hf => rV hf rfl (ex_loadB hf rfl (by kernel_rfl) hB3 rfl) fun a hf => rR 104 hf rfl fun a hf => rV hf rfl (ex_loadBN (m := 4) hf rfl (by kernel_rfl) hB3 rfl) fun a hf => rC hf rfl rfl (by kernel_rfl) (leadAtR (ls := (l0 :: l1 :: ms)) (j := 0) rfl (row_now hL hE hVB)) ?_
  rintro _ w8 ⟨rfl, hx7⟩
  refine ⟨_, rfl, fun a hf => ?_⟩
  replace hB3 := hB3.c0 hx7
  replace hO := hO.t0 hx7
  replace hE := hE.t0 hx7
  refine rV hf rfl (ex_bd (ps := [(0, (.tmp 236)), (1, (.const (.string ⟨#[91]⟩)))]) (z := [.string ⟨([] : List UInt8).toArray⟩, .string ⟨([] : List UInt8).toArray⟩]) (os := [0, 1]) hf rfl (by kernel_rfl) (by kernel_rfl) (by kernel_rfl) rfl rfl) fun a hf => ?_
  obtain ⟨w9, b10, he, hB11, hx12, eb13, lb14⟩ := ef_bslice (P := Try.prog) (ps := [(0, (.tmp 237))]) (m := 1) (sz := 2) (z := [.string ⟨([] : List UInt8).toArray⟩, .string ⟨([] : List UInt8).toArray⟩]) hf rfl Try.underlying54 (by kernel_rfl) (by kernel_rfl) rfl rfl (by kernel_rfl) rfl w8 54
  refine rV hf rfl he fun a hf => ?_
  have ne_b2_b10 : b2 ≠ b10 := ne_new hB3.lt eb13
  have ge_b10 := ge_new hE eb13
  replace hB3 := hB3.c0 hx12
  replace hO := hO.t0 hx12
  replace hE := hE.t0 hx12
  clear eb13 lb14
  obtain ⟨v16, w15, he, hO17, hx18, hfr19⟩ := eP (.tmp 234) (.tmp 238) [(l0, [91])] hf rfl rfl hO hB11 rfl (by (try simp only [List.length_cons, List.length_nil]); omega) (nlt hBs hE.size) 54
  refine rV hf rfl he fun a hf => ?_
  have hn2 := own_ne hfr19 hn hB3.lt
  have hg2 := own_from hfr19 hg hE.size
  replace hB3 := hB3.chg hx18 (nmO hn)
  replace hE := chg_own hE hx18 hg
  clear hO hn hg hfr19
  have hO := hO17; clear hO17
  have hn := hn2; clear hn2
  have hg := hg2; clear hg2
  obtain ⟨ps20, eps20⟩ : ∃ z, z = ps ++ [(l0, [91])] := ⟨_, rfl⟩
  rw [← eps20] at hO
  have lps20 : ps20.length = ps.length + 1 := by rw [eps20]; simp
  refine rR 4 hf rfl fun a hf => ?_
  have hEs := hE
  have s_hB3 := hB3
  refine rD (fun x => x.cell? ⟨b2, 0, none⟩ = w15.cell? ⟨b2, 0, none⟩ ∧ x.cell? ⟨b2, 1, none⟩ = w15.cell? ⟨b2, 1, none⟩ ∧ x.cell? ⟨b2, 2, none⟩ = w15.cell? ⟨b2, 2, none⟩ ∧ x.cell? ⟨b2, 3, none⟩ = w15.cell? ⟨b2, 3, none⟩) 10 10 rfl (by kernel_rfl) (by kernel_rfl) ?_
  intro w21 hx22 hsel
  replace hB3 := hB3.c0 hx22
  replace hO := hO.t0 hx22
  replace hE := hE.t0 hx22
  have hS0 : w21.cell? ⟨b2, 0, none⟩ = w15.cell? ⟨b2, 0, none⟩ ∧ w21.cell? ⟨b2, 1, none⟩ = w15.cell? ⟨b2, 1, none⟩ ∧ w21.cell? ⟨b2, 2, none⟩ = w15.cell? ⟨b2, 2, none⟩ ∧ w21.cell? ⟨b2, 3, none⟩ = w15.cell? ⟨b2, 3, none⟩ := ⟨(hB3.cell 0).trans (s_hB3.cell 0).symm, (hB3.cell 1).trans (s_hB3.cell 1).symm, (hB3.cell 2).trans (s_hB3.cell 2).symm, (hB3.cell 3).trans (s_hB3.cell 3).symm⟩
  refine dR [0] hsel (by kernel_rfl) hf rfl rfl (.inl hS0) fun a hf => dL 1 rfl rfl hsel (by kernel_rfl) hf rfl hS0 (fun x hS => ex_loadX4 hf rfl (by kernel_rfl) s_hB3 rfl hS.1 hS.2.1 hS.2.2.1 hS.2.2.2) fun a hf => dR [2] hsel (by kernel_rfl) hf rfl rfl (.inl hS0) fun a hf => dL 4 rfl rfl hsel (by kernel_rfl) hf rfl hS0 (fun x hS => ex_loadX4 hf rfl (by kernel_rfl) s_hB3 rfl hS.1 hS.2.1 hS.2.2.1 hS.2.2.2) fun a hf => dl_c 3 (by kernel_rfl) rfl hf rfl rfl rfl (by kernel_rfl) (rowR ih (to := ks.length) (c := 2) (ps := ps20) rfl (by decide) (Nat.le_refl _) (by omega) (by decide) (by decide) hks (by omega) hO (row_now hL hE hVB) (kids_now hK hE hVB) (row_now hR hE hVB) (nlt hBs hE.size)) ?_
  rintro _ w27 ⟨v24, rfl, hO25, hx23, hfr26⟩
  refine ⟨_, rfl, fun a hf => ?_⟩
  have hn2 := own_ne hfr26 hn hB3.lt
  have hg2 := own_from hfr26 hg hE.size
  replace hB3 := hB3.chg hx23 (nmO hn)
  replace hE := chg_own hE hx23 hg
  clear hO hn hg hfr26
  have hO := hO25; clear hO25
  have hn := hn2; clear hn2
  have hg := hg2; clear hg2
  obtain ⟨ps28, eps28⟩ : ∃ z, z = ps20 ++ rowC (l0 :: l1 :: ms) 2 (pcsTs (ks.take ks.length)) 0 := ⟨_, rfl⟩
  rw [← eps28] at hO
  have lps28 : ps28.length = ps20.length + (rowC (l0 :: l1 :: ms) 2 (pcsTs (ks.take ks.length)) 0).length := by rw [eps28, List.length_append]
  clear hS0
  have hS0 : w27.cell? ⟨b2, 0, none⟩ = w15.cell? ⟨b2, 0, none⟩ ∧ w27.cell? ⟨b2, 1, none⟩ = w15.cell? ⟨b2, 1, none⟩ ∧ w27.cell? ⟨b2, 2, none⟩ = w15.cell? ⟨b2, 2, none⟩ ∧ w27.cell? ⟨b2, 3, none⟩ = w15.cell? ⟨b2, 3, none⟩ := ⟨(hB3.cell 0).trans (s_hB3.cell 0).symm, (hB3.cell 1).trans (s_hB3.cell 1).symm, (hB3.cell 2).trans (s_hB3.cell 2).symm, (hB3.cell 3).trans (s_hB3.cell 3).symm⟩
  refine ⟨.inl hS0, ?_⟩
  refine dl_c 5 (by kernel_rfl) rfl hf rfl rfl rfl (by kernel_rfl) (leadAtR (ls := (l0 :: l1 :: ms)) (j := 1) rfl (row_now hL hE hVB)) ?_
  rintro _ w30 ⟨rfl, hx29⟩
  refine ⟨_, rfl, fun a hf => ?_⟩
  replace hB3 := hB3.c0 hx29
  replace hO := hO.t0 hx29
  replace hE := hE.t0 hx29
  clear hS0
  have hS0 : w30.cell? ⟨b2, 0, none⟩ = w15.cell? ⟨b2, 0, none⟩ ∧ w30.cell? ⟨b2, 1, none⟩ = w15.cell? ⟨b2, 1, none⟩ ∧ w30.cell? ⟨b2, 2, none⟩ = w15.cell? ⟨b2, 2, none⟩ ∧ w30.cell? ⟨b2, 3, none⟩ = w15.cell? ⟨b2, 3, none⟩ := ⟨(hB3.cell 0).trans (s_hB3.cell 0).symm, (hB3.cell 1).trans (s_hB3.cell 1).symm, (hB3.cell 2).trans (s_hB3.cell 2).symm, (hB3.cell 3).trans (s_hB3.cell 3).symm⟩
  refine ⟨.inl hS0, ?_⟩
  refine dV 6 rfl rfl hsel (by kernel_rfl) hf rfl (.inl hS0) (fun x => ex_bd (ps := [(0, (.tmp 245)), (1, (.const (.string ⟨#[93]⟩)))]) (z := [.string ⟨([] : List UInt8).toArray⟩, .string ⟨([] : List UInt8).toArray⟩]) (os := [0, 1]) hf rfl (by kernel_rfl) (by kernel_rfl) (by kernel_rfl) rfl rfl) fun a hf => ?_
  obtain ⟨w31, b32, he, hB33, hx34, eb35, lb36⟩ := ef_bslice (P := Try.prog) (ps := [(0, (.tmp 246))]) (m := 1) (sz := 2) (z := [.string ⟨([] : List UInt8).toArray⟩, .string ⟨([] : List UInt8).toArray⟩]) hf rfl Try.underlying54 (by kernel_rfl) (by kernel_rfl) rfl rfl (by kernel_rfl) rfl w30 54
  refine dl_e 7 (by kernel_rfl) rfl hf rfl rfl he fun a hf => ?_
  have ne_b2_b32 : b2 ≠ b32 := ne_new hB3.lt eb35
  have ge_b32 := ge_new hE eb35
  replace hB3 := hB3.c0 hx34
  replace hO := hO.t0 hx34
  replace hE := hE.t0 hx34
  clear eb35 lb36
  clear hS0
  have hS0 : w31.cell? ⟨b2, 0, none⟩ = w15.cell? ⟨b2, 0, none⟩ ∧ w31.cell? ⟨b2, 1, none⟩ = w15.cell? ⟨b2, 1, none⟩ ∧ w31.cell? ⟨b2, 2, none⟩ = w15.cell? ⟨b2, 2, none⟩ ∧ w31.cell? ⟨b2, 3, none⟩ = w15.cell? ⟨b2, 3, none⟩ := ⟨(hB3.cell 0).trans (s_hB3.cell 0).symm, (hB3.cell 1).trans (s_hB3.cell 1).symm, (hB3.cell 2).trans (s_hB3.cell 2).symm, (hB3.cell 3).trans (s_hB3.cell 3).symm⟩
  refine ⟨.inl hS0, ?_⟩
  obtain ⟨v38, w37, he, hO39, hx40, hfr41⟩ := eP (.tmp 243) (.tmp 247) [(l1, [93])] hf rfl rfl hO hB33 rfl (by (try simp only [List.length_cons, List.length_nil]); omega) (nlt hBs hE.size) 54
  refine dl_e 8 (by kernel_rfl) rfl hf rfl rfl he fun a hf => ?_
  have hn2 := own_ne hfr41 hn hB3.lt
  have hg2 := own_from hfr41 hg hE.size
  replace hB3 := hB3.chg hx40 (nmO hn)
  replace hE := chg_own hE hx40 hg
  clear hO hn hg hfr41
  have hO := hO39; clear hO39
  have hn := hn2; clear hn2
  have hg := hg2; clear hg2
  obtain ⟨ps42, eps42⟩ : ∃ z, z = ps28 ++ [(l1, [93])] := ⟨_, rfl⟩
  rw [← eps42] at hO
  have lps42 : ps42.length = ps28.length + 1 := by rw [eps42]; simp
  clear hS0
  have hS0 : w37.cell? ⟨b2, 0, none⟩ = w15.cell? ⟨b2, 0, none⟩ ∧ w37.cell? ⟨b2, 1, none⟩ = w15.cell? ⟨b2, 1, none⟩ ∧ w37.cell? ⟨b2, 2, none⟩ = w15.cell? ⟨b2, 2, none⟩ ∧ w37.cell? ⟨b2, 3, none⟩ = w15.cell? ⟨b2, 3, none⟩ := ⟨(hB3.cell 0).trans (s_hB3.cell 0).symm, (hB3.cell 1).trans (s_hB3.cell 1).symm, (hB3.cell 2).trans (s_hB3.cell 2).symm, (hB3.cell 3).trans (s_hB3.cell 3).symm⟩
  refine ⟨.inl hS0, ?_⟩
  refine dR [9] hsel (by kernel_rfl) hf rfl rfl (.inl hS0) fun a hf => rN (by kernel_rfl) ?_
  clear hS0 hsel
  refine rR 4 hf rfl fun a hf => ?_
  have eq : ps ++ pcsT (.node 18 x (l0 :: l1 :: ms) ks) = ps42 := by subst eps42; subst eps28; subst eps20; simp [pcsT, nodeC, List.take_length]
  exact rT (rs := [.tmp 4]) hf rfl ⟨_, _, rfl, rfl, rfl⟩ ⟨_, rfl, eq ▸ hO, hE, fresh_all hg (.inl (own_some hO))⟩
theorem nodeC2 (x : List UInt8) (ls : List (List UInt8)) (fs : List (List Pc)) (f g : List Pc) : nodeC 2 x ls (fs ++ [f, g]) = [(ls.getD 0 [], [100, 101, 102]), (ls.getD 1 [], x), (ls.getD 2 [], [40])] ++ rowC ls 6 fs 0 ++ [(ls.getD 3 [], [41]), (ls.getD 4 [], [58])] ++ f ++ [(ls.getD 5 [], [61])] ++ g := by
  unfold nodeC
  dsimp only
  rw [if_neg (by decide), if_pos rfl]
  have k1 : (fs ++ [f, g]).length - 2 = fs.length := by simp
  have k2 : (fs ++ [f, g]).length - 1 = fs.length + 1 := by simp
  rw [k1, k2]
  have t1 : (fs ++ [f, g]).take fs.length = fs := by rw [List.take_append_of_le_length (Nat.le_refl _), List.take_length]
  have t2 : (fs ++ [f, g]).getD fs.length [] = f := by rw [List.getD_eq_getElem?_getD, List.getElem?_append_right (Nat.le_refl _), Nat.sub_self]; rfl
  have t3 : (fs ++ [f, g]).getD (fs.length + 1) [] = g := by rw [List.getD_eq_getElem?_getD, List.getElem?_append_right (by omega), show fs.length + 1 - fs.length = 1 from by omega]; rfl
  rw [t1, t2, t3]
theorem take_left2 (qs : List Tree) (l : List Tree) : (qs ++ l).take qs.length = qs := by rw [List.take_append_of_le_length (Nat.le_refl _), List.take_length]
theorem p2 {N : Nat} (ih : PiecesOk N) {w : World} {Bs : Nat} {v0 : Value} {ps : List Pc} {x : List UInt8} {l0 l1 l2 l3 l4 l5 : List UInt8} {ms : List (List UInt8)} {k0 k1 : Tree} {qs : List Tree} {cs : List Value} {A B : Option Addr} {m n : Nat} (hk9 : (qs ++ [k0, k1]).length ≤ 1000000000) (hks : ∀ t, t ∈ (qs ++ [k0, k1]) → tsize t ≤ N ∧ (shapedT t && leadedT t && decide (tbulk t ≤ 1000000000)) = true)
    (hl1 : ps.length + (pcsT (.node 2 x (l0 :: l1 :: l2 :: l3 :: l4 :: l5 :: ms) (qs ++ [k0, k1]))).length ≤ 1000000000) (hO : Ow Bs w v0 ps) (hL : RowIn (fun b => b < Bs) w 1 A (l0 :: l1 :: l2 :: l3 :: l4 :: l5 :: ms).length ((l0 :: l1 :: l2 :: l3 :: l4 :: l5 :: ms).map strV)) (hn0 : (qs ++ [k0, k1]).length ≤ n) (hn2 : n ≤ maxLen) (hK : KidsAre (fun b => b < Bs) w (qs ++ [k0, k1]) cs) (hR : RowIn (fun b => b < Bs) w 4 B (qs ++ [k0, k1]).length cs) (hBs : Bs ≤ w.heap.size) :
    Calls Try.prog 64 [v0, .agg #[.int .i64 2, strV x, .slice A (l0 :: l1 :: l2 :: l3 :: l4 :: l5 :: ms).length m, .slice B (qs ++ [k0, k1]).length n]].toArray w fun e w' => ∃ v', e = .returned v' ∧ Ow Bs w' v' (ps ++ pcsT (.node 2 x (l0 :: l1 :: l2 :: l3 :: l4 :: l5 :: ms) (qs ++ [k0, k1]))) ∧ Chg v0.ownBlock.toList w w' ∧ Fresh w v0 v' := by
  have hq : (pcsT (.node 2 x (l0 :: l1 :: l2 :: l3 :: l4 :: l5 :: ms) (qs ++ [k0, k1]))).length = 6 + (rowC (l0 :: l1 :: l2 :: l3 :: l4 :: l5 :: ms) 6 (pcsTs ((qs ++ [k0, k1]).take qs.length)) 0).length + (pcsT k0).length + (pcsT k1).length := by rw [pcsT, pcsTs_app, pcsTs, pcsTs, pcsTs, nodeC2]; simp [pcsTs_length, take_left2] <;> omega
  have hq9 : (qs ++ [k0, k1]).length = qs.length + 2 := by simp
  have hE := Chg.refl v0.ownBlock.toList w
  have hVB : ∀ g, g ∈ v0.ownBlock.toList → Bs ≤ g := fun g h => (hO.ge (by simpa using h)).1
  have hg : ∀ g, v0.ownBlock = some g → g ∈ v0.ownBlock.toList ∨ w.heap.size ≤ g := fun g e => .inl (by simpa using e)
  obtain ⟨kb, ko, rfl, lbB, hkb, _⟩ := hR.2 (by simp)
  obtain ⟨d00, d01, d02, d03, hT0, hc0⟩ := kid_at hK hR rfl (i := qs.length) (t := k0) (by simp)
  have on0 := hT0.one
  obtain ⟨d10, d11, d12, d13, hT1, hc1⟩ := kid_at hK hR rfl (i := qs.length + 1) (t := k1) (by simp)
  have on1 := hT1.one
  refine rE 365 Try.func64 rfl rfl rfl ?_
  intro a hf
  refine rR 2 hf rfl fun a hf => ?_
  obtain ⟨w1, b2, he, hB3, hx4, eb5, lb6⟩ := ef_box (P := Try.prog) (t := 26) (x := (.tmp 1)) hf rfl rfl w 0
  refine rV hf rfl he fun a hf => ?_
  have ge_b2 := ge_new hE eb5
  have hn : v0.ownBlock ≠ some b2 := fun e => by have := (hO.ge e).2; omega
  replace hO := hO.t0 hx4
  replace hE := hE.t0 hx4
  clear eb5 lb6
  refine rR 6 hf rfl fun a hf => rV hf rfl (ex_loadB hf rfl (by kernel_rfl) hB3 rfl) fun a hf => rV hf rfl (ex_len hf Try.underlying24 rfl) fun a hf => rR 7 hf rfl fun a hf => rV hf rfl (ex_loadB hf rfl (by kernel_rfl) hB3 rfl) fun a hf => rR 18 hf rfl fun a hf => ?_
  have hEs := hE
  have s_hB3 := hB3
  refine rD (fun x => x.cell? ⟨b2, 0, none⟩ = w1.cell? ⟨b2, 0, none⟩ ∧ x.cell? ⟨b2, 1, none⟩ = w1.cell? ⟨b2, 1, none⟩ ∧ x.cell? ⟨b2, 2, none⟩ = w1.cell? ⟨b2, 2, none⟩ ∧ x.cell? ⟨b2, 3, none⟩ = w1.cell? ⟨b2, 3, none⟩) 15 15 rfl (by kernel_rfl) (by kernel_rfl) ?_
  intro w7 hx8 hsel
  replace hB3 := hB3.c0 hx8
  replace hO := hO.t0 hx8
  replace hE := hE.t0 hx8
  have hS0 : w7.cell? ⟨b2, 0, none⟩ = w1.cell? ⟨b2, 0, none⟩ ∧ w7.cell? ⟨b2, 1, none⟩ = w1.cell? ⟨b2, 1, none⟩ ∧ w7.cell? ⟨b2, 2, none⟩ = w1.cell? ⟨b2, 2, none⟩ ∧ w7.cell? ⟨b2, 3, none⟩ = w1.cell? ⟨b2, 3, none⟩ := ⟨(hB3.cell 0).trans (s_hB3.cell 0).symm, (hB3.cell 1).trans (s_hB3.cell 1).symm, (hB3.cell 2).trans (s_hB3.cell 2).symm, (hB3.cell 3).trans (s_hB3.cell 3).symm⟩
  refine dR [0] hsel (by kernel_rfl) hf rfl rfl (.inl hS0) fun a hf => dL 1 rfl rfl hsel (by kernel_rfl) hf rfl hS0 (fun x hS => ex_loadX4 hf rfl (by kernel_rfl) s_hB3 rfl hS.1 hS.2.1 hS.2.2.1 hS.2.2.2) fun a hf => dL 4 rfl rfl hsel (by kernel_rfl) hf rfl hS0 (fun x hS => ex_loadX4 hf rfl (by kernel_rfl) s_hB3 rfl hS.1 hS.2.1 hS.2.2.1 hS.2.2.2) fun a hf => dR [6] hsel (by kernel_rfl) hf rfl rfl (.inl hS0) fun a hf => dL 7 rfl rfl hsel (by kernel_rfl) hf rfl hS0 (fun x hS => ex_load hf rfl (by kernel_rfl) (hS.2.1.trans ((s_hB3.cell 1).trans rfl))) fun a hf => dL 9 rfl rfl hsel (by kernel_rfl) hf rfl hS0 (fun x hS => ex_loadX4 hf rfl (by kernel_rfl) s_hB3 rfl hS.1 hS.2.1 hS.2.2.1 hS.2.2.2) fun a hf => dl_c 2 (by kernel_rfl) rfl hf rfl rfl rfl (by kernel_rfl) (leadAtR (ls := (l0 :: l1 :: l2 :: l3 :: l4 :: l5 :: ms)) (j := 0) rfl (row_now hL hE hVB)) ?_
  rintro _ w10 ⟨rfl, hx9⟩
  refine ⟨_, rfl, fun a hf => ?_⟩
  replace hB3 := hB3.c0 hx9
  replace hO := hO.t0 hx9
  replace hE := hE.t0 hx9
  clear hS0
  have hS0 : w10.cell? ⟨b2, 0, none⟩ = w1.cell? ⟨b2, 0, none⟩ ∧ w10.cell? ⟨b2, 1, none⟩ = w1.cell? ⟨b2, 1, none⟩ ∧ w10.cell? ⟨b2, 2, none⟩ = w1.cell? ⟨b2, 2, none⟩ ∧ w10.cell? ⟨b2, 3, none⟩ = w1.cell? ⟨b2, 3, none⟩ := ⟨(hB3.cell 0).trans (s_hB3.cell 0).symm, (hB3.cell 1).trans (s_hB3.cell 1).symm, (hB3.cell 2).trans (s_hB3.cell 2).symm, (hB3.cell 3).trans (s_hB3.cell 3).symm⟩
  refine ⟨.inl hS0, ?_⟩
  refine dV 3 rfl rfl hsel (by kernel_rfl) hf rfl (.inl hS0) (fun x => ex_bd (ps := [(0, (.tmp 47)), (1, (.const (.string ⟨#[100, 101, 102]⟩)))]) (z := [.string ⟨([] : List UInt8).toArray⟩, .string ⟨([] : List UInt8).toArray⟩]) (os := [0, 1]) hf rfl (by kernel_rfl) (by kernel_rfl) (by kernel_rfl) rfl rfl) fun a hf => dl_c 5 (by kernel_rfl) rfl hf rfl rfl rfl (by kernel_rfl) (leadAtR (ls := (l0 :: l1 :: l2 :: l3 :: l4 :: l5 :: ms)) (j := 1) rfl (row_now hL hE hVB)) ?_
  rintro _ w12 ⟨rfl, hx11⟩
  refine ⟨_, rfl, fun a hf => ?_⟩
  replace hB3 := hB3.c0 hx11
  replace hO := hO.t0 hx11
  replace hE := hE.t0 hx11
  clear hS0
  have hS0 : w12.cell? ⟨b2, 0, none⟩ = w1.cell? ⟨b2, 0, none⟩ ∧ w12.cell? ⟨b2, 1, none⟩ = w1.cell? ⟨b2, 1, none⟩ ∧ w12.cell? ⟨b2, 2, none⟩ = w1.cell? ⟨b2, 2, none⟩ ∧ w12.cell? ⟨b2, 3, none⟩ = w1.cell? ⟨b2, 3, none⟩ := ⟨(hB3.cell 0).trans (s_hB3.cell 0).symm, (hB3.cell 1).trans (s_hB3.cell 1).symm, (hB3.cell 2).trans (s_hB3.cell 2).symm, (hB3.cell 3).trans (s_hB3.cell 3).symm⟩
  refine ⟨.inl hS0, ?_⟩
  refine dV 8 rfl rfl hsel (by kernel_rfl) hf rfl (.inl hS0) (fun x => ex_bd (ps := [(0, (.tmp 50)), (1, (.tmp 52))]) (z := [.string ⟨([] : List UInt8).toArray⟩, .string ⟨([] : List UInt8).toArray⟩]) (os := [0, 1]) hf rfl (by kernel_rfl) (by kernel_rfl) (by kernel_rfl) rfl rfl) fun a hf => dl_c 10 (by kernel_rfl) rfl hf rfl rfl rfl (by kernel_rfl) (leadAtR (ls := (l0 :: l1 :: l2 :: l3 :: l4 :: l5 :: ms)) (j := 2) rfl (row_now hL hE hVB)) ?_
  rintro _ w14 ⟨rfl, hx13⟩
  refine ⟨_, rfl, fun a hf => ?_⟩
  replace hB3 := hB3.c0 hx13
  replace hO := hO.t0 hx13
  replace hE := hE.t0 hx13
  clear hS0
  have hS0 : w14.cell? ⟨b2, 0, none⟩ = w1.cell? ⟨b2, 0, none⟩ ∧ w14.cell? ⟨b2, 1, none⟩ = w1.cell? ⟨b2, 1, none⟩ ∧ w14.cell? ⟨b2, 2, none⟩ = w1.cell? ⟨b2, 2, none⟩ ∧ w14.cell? ⟨b2, 3, none⟩ = w1.cell? ⟨b2, 3, none⟩ := ⟨(hB3.cell 0).trans (s_hB3.cell 0).symm, (hB3.cell 1).trans (s_hB3.cell 1).symm, (hB3.cell 2).trans (s_hB3.cell 2).symm, (hB3.cell 3).trans (s_hB3.cell 3).symm⟩
  refine ⟨.inl hS0, ?_⟩
  refine dV 11 rfl rfl hsel (by kernel_rfl) hf rfl (.inl hS0) (fun x => ex_bd (ps := [(0, (.tmp 55)), (1, (.const (.string ⟨#[40]⟩)))]) (z := [.string ⟨([] : List UInt8).toArray⟩, .string ⟨([] : List UInt8).toArray⟩]) (os := [0, 1]) hf rfl (by kernel_rfl) (by kernel_rfl) (by kernel_rfl) rfl rfl) fun a hf => ?_
  obtain ⟨w15, b16, he, hB17, hx18, eb19, lb20⟩ := ef_bslice (P := Try.prog) (ps := [(0, (.tmp 48)), (1, (.tmp 53)), (2, (.tmp 56))]) (m := 3) (sz := 2) (z := [.string ⟨([] : List UInt8).toArray⟩, .string ⟨([] : List UInt8).toArray⟩]) hf rfl Try.underlying54 (by kernel_rfl) (by kernel_rfl) rfl rfl (by kernel_rfl) rfl w14 54
  refine dl_e 12 (by kernel_rfl) rfl hf rfl rfl he fun a hf => ?_
  have ne_b2_b16 : b2 ≠ b16 := ne_new hB3.lt eb19
  have ge_b16 := ge_new hE eb19
  replace hB3 := hB3.c0 hx18
  replace hO := hO.t0 hx18
  replace hE := hE.t0 hx18
  clear eb19 lb20
  clear hS0
  have hS0 : w15.cell? ⟨b2, 0, none⟩ = w1.cell? ⟨b2, 0, none⟩ ∧ w15.cell? ⟨b2, 1, none⟩ = w1.cell? ⟨b2, 1, none⟩ ∧ w15.cell? ⟨b2, 2, none⟩ = w1.cell? ⟨b2, 2, none⟩ ∧ w15.cell? ⟨b2, 3, none⟩ = w1.cell? ⟨b2, 3, none⟩ := ⟨(hB3.cell 0).trans (s_hB3.cell 0).symm, (hB3.cell 1).trans (s_hB3.cell 1).symm, (hB3.cell 2).trans (s_hB3.cell 2).symm, (hB3.cell 3).trans (s_hB3.cell 3).symm⟩
  refine ⟨.inl hS0, ?_⟩
  obtain ⟨v22, w21, he, hO23, hx24, hfr25⟩ := eP (.tmp 45) (.tmp 57) [(l0, [100, 101, 102]), (l1, x), (l2, [40])] hf rfl rfl hO hB17 rfl (by (try simp only [List.length_cons, List.length_nil]); omega) (nlt hBs hE.size) 54
  refine dl_e 13 (by kernel_rfl) rfl hf rfl rfl he fun a hf => ?_
  have hn2 := own_ne hfr25 hn hB3.lt
  have hg2 := own_from hfr25 hg hE.size
  replace hB3 := hB3.chg hx24 (nmO hn)
  replace hE := chg_own hE hx24 hg
  clear hO hn hg hfr25
  have hO := hO23; clear hO23
  have hn := hn2; clear hn2
  have hg := hg2; clear hg2
  obtain ⟨ps26, eps26⟩ : ∃ z, z = ps ++ [(l0, [100, 101, 102]), (l1, x), (l2, [40])] := ⟨_, rfl⟩
  rw [← eps26] at hO
  have lps26 : ps26.length = ps.length + 3 := by rw [eps26]; simp
  clear hS0
  have hS0 : w21.cell? ⟨b2, 0, none⟩ = w1.cell? ⟨b2, 0, none⟩ ∧ w21.cell? ⟨b2, 1, none⟩ = w1.cell? ⟨b2, 1, none⟩ ∧ w21.cell? ⟨b2, 2, none⟩ = w1.cell? ⟨b2, 2, none⟩ ∧ w21.cell? ⟨b2, 3, none⟩ = w1.cell? ⟨b2, 3, none⟩ := ⟨(hB3.cell 0).trans (s_hB3.cell 0).symm, (hB3.cell 1).trans (s_hB3.cell 1).symm, (hB3.cell 2).trans (s_hB3.cell 2).symm, (hB3.cell 3).trans (s_hB3.cell 3).symm⟩
  refine ⟨.inl hS0, ?_⟩
  refine dR [14] hsel (by kernel_rfl) hf rfl rfl (.inl hS0) fun a hf => rN (by kernel_rfl) ?_
  clear hS0 hsel
  refine rR 4 hf rfl fun a hf => rV hf rfl (ex_loadBN (m := 4) hf rfl (by kernel_rfl) hB3 rfl) fun a hf => rR 1 hf rfl fun a hf => rV hf rfl (ex_subI hf rfl rfl rfl (by simp only [List.length_append, List.length_cons, List.length_nil]; omega)) fun a hf => rC hf rfl rfl (by kernel_rfl) (rowR ih (to := qs.length) (c := 6) (ps := ps26) (by simp only [List.length_append, List.length_cons, List.length_nil]; omega) (by decide) (by simp) (by omega) (by decide) (by decide) hks (by omega) hO (row_now hL hE hVB) (kids_now hK hE hVB) (row_now hR hE hVB) (nlt hBs hE.size)) ?_
  rintro _ w31 ⟨v28, rfl, hO29, hx27, hfr30⟩
  refine ⟨_, rfl, fun a hf => ?_⟩
  have hn2 := own_ne hfr30 hn hB3.lt
  have hg2 := own_from hfr30 hg hE.size
  replace hB3 := hB3.chg hx27 (nmO hn)
  replace hE := chg_own hE hx27 hg
  clear hO hn hg hfr30
  have hO := hO29; clear hO29
  have hn := hn2; clear hn2
  have hg := hg2; clear hg2
  obtain ⟨ps32, eps32⟩ : ∃ z, z = ps26 ++ rowC (l0 :: l1 :: l2 :: l3 :: l4 :: l5 :: ms) 6 (pcsTs ((qs ++ [k0, k1]).take qs.length)) 0 := ⟨_, rfl⟩
  rw [← eps32] at hO
  have lps32 : ps32.length = ps26.length + (rowC (l0 :: l1 :: l2 :: l3 :: l4 :: l5 :: ms) 6 (pcsTs ((qs ++ [k0, k1]).take qs.length)) 0).length := by rw [eps32, List.length_append]
  refine rR 4 hf rfl fun a hf => ?_
  have hEs := hE
  have s_hB3 := hB3
  refine rD (fun x => x.cell? ⟨b2, 0, none⟩ = w31.cell? ⟨b2, 0, none⟩ ∧ x.cell? ⟨b2, 1, none⟩ = w31.cell? ⟨b2, 1, none⟩ ∧ x.cell? ⟨b2, 2, none⟩ = w31.cell? ⟨b2, 2, none⟩ ∧ x.cell? ⟨b2, 3, none⟩ = w31.cell? ⟨b2, 3, none⟩) 10 10 rfl (by kernel_rfl) (by kernel_rfl) ?_
  intro w33 hx34 hsel
  replace hB3 := hB3.c0 hx34
  replace hO := hO.t0 hx34
  replace hE := hE.t0 hx34
  have hS0 : w33.cell? ⟨b2, 0, none⟩ = w31.cell? ⟨b2, 0, none⟩ ∧ w33.cell? ⟨b2, 1, none⟩ = w31.cell? ⟨b2, 1, none⟩ ∧ w33.cell? ⟨b2, 2, none⟩ = w31.cell? ⟨b2, 2, none⟩ ∧ w33.cell? ⟨b2, 3, none⟩ = w31.cell? ⟨b2, 3, none⟩ := ⟨(hB3.cell 0).trans (s_hB3.cell 0).symm, (hB3.cell 1).trans (s_hB3.cell 1).symm, (hB3.cell 2).trans (s_hB3.cell 2).symm, (hB3.cell 3).trans (s_hB3.cell 3).symm⟩
  refine dR [0] hsel (by kernel_rfl) hf rfl rfl (.inl hS0) fun a hf => dL 1 rfl rfl hsel (by kernel_rfl) hf rfl hS0 (fun x hS => ex_loadX4 hf rfl (by kernel_rfl) s_hB3 rfl hS.1 hS.2.1 hS.2.2.1 hS.2.2.2) fun a hf => dL 4 rfl rfl hsel (by kernel_rfl) hf rfl hS0 (fun x hS => ex_loadX4 hf rfl (by kernel_rfl) s_hB3 rfl hS.1 hS.2.1 hS.2.2.1 hS.2.2.2) fun a hf => dl_c 2 (by kernel_rfl) rfl hf rfl rfl rfl (by kernel_rfl) (leadAtR (ls := (l0 :: l1 :: l2 :: l3 :: l4 :: l5 :: ms)) (j := 3) rfl (row_now hL hE hVB)) ?_
  rintro _ w36 ⟨rfl, hx35⟩
  refine ⟨_, rfl, fun a hf => ?_⟩
  replace hB3 := hB3.c0 hx35
  replace hO := hO.t0 hx35
  replace hE := hE.t0 hx35
  clear hS0
  have hS0 : w36.cell? ⟨b2, 0, none⟩ = w31.cell? ⟨b2, 0, none⟩ ∧ w36.cell? ⟨b2, 1, none⟩ = w31.cell? ⟨b2, 1, none⟩ ∧ w36.cell? ⟨b2, 2, none⟩ = w31.cell? ⟨b2, 2, none⟩ ∧ w36.cell? ⟨b2, 3, none⟩ = w31.cell? ⟨b2, 3, none⟩ := ⟨(hB3.cell 0).trans (s_hB3.cell 0).symm, (hB3.cell 1).trans (s_hB3.cell 1).symm, (hB3.cell 2).trans (s_hB3.cell 2).symm, (hB3.cell 3).trans (s_hB3.cell 3).symm⟩
  refine ⟨.inl hS0, ?_⟩
  refine dV 3 rfl rfl hsel (by kernel_rfl) hf rfl (.inl hS0) (fun x => ex_bd (ps := [(0, (.tmp 66)), (1, (.const (.string ⟨#[41]⟩)))]) (z := [.string ⟨([] : List UInt8).toArray⟩, .string ⟨([] : List UInt8).toArray⟩]) (os := [0, 1]) hf rfl (by kernel_rfl) (by kernel_rfl) (by kernel_rfl) rfl rfl) fun a hf => dl_c 5 (by kernel_rfl) rfl hf rfl rfl rfl (by kernel_rfl) (leadAtR (ls := (l0 :: l1 :: l2 :: l3 :: l4 :: l5 :: ms)) (j := 4) rfl (row_now hL hE hVB)) ?_
  rintro _ w38 ⟨rfl, hx37⟩
  refine ⟨_, rfl, fun a hf => ?_⟩
  replace hB3 := hB3.c0 hx37
  replace hO := hO.t0 hx37
  replace hE := hE.t0 hx37
  clear hS0
  have hS0 : w38.cell? ⟨b2, 0, none⟩ = w31.cell? ⟨b2, 0, none⟩ ∧ w38.cell? ⟨b2, 1, none⟩ = w31.cell? ⟨b2, 1, none⟩ ∧ w38.cell? ⟨b2, 2, none⟩ = w31.cell? ⟨b2, 2, none⟩ ∧ w38.cell? ⟨b2, 3, none⟩ = w31.cell? ⟨b2, 3, none⟩ := ⟨(hB3.cell 0).trans (s_hB3.cell 0).symm, (hB3.cell 1).trans (s_hB3.cell 1).symm, (hB3.cell 2).trans (s_hB3.cell 2).symm, (hB3.cell 3).trans (s_hB3.cell 3).symm⟩
  refine ⟨.inl hS0, ?_⟩
  refine dV 6 rfl rfl hsel (by kernel_rfl) hf rfl (.inl hS0) (fun x => ex_bd (ps := [(0, (.tmp 69)), (1, (.const (.string ⟨#[58]⟩)))]) (z := [.string ⟨([] : List UInt8).toArray⟩, .string ⟨([] : List UInt8).toArray⟩]) (os := [0, 1]) hf rfl (by kernel_rfl) (by kernel_rfl) (by kernel_rfl) rfl rfl) fun a hf => ?_
  obtain ⟨w39, b40, he, hB41, hx42, eb43, lb44⟩ := ef_bslice (P := Try.prog) (ps := [(0, (.tmp 67)), (1, (.tmp 70))]) (m := 2) (sz := 2) (z := [.string ⟨([] : List UInt8).toArray⟩, .string ⟨([] : List UInt8).toArray⟩]) hf rfl Try.underlying54 (by kernel_rfl) (by kernel_rfl) rfl rfl (by kernel_rfl) rfl w38 54
  refine dl_e 7 (by kernel_rfl) rfl hf rfl rfl he fun a hf => ?_
  have ne_b2_b40 : b2 ≠ b40 := ne_new hB3.lt eb43
  have ge_b40 := ge_new hE eb43
  replace hB3 := hB3.c0 hx42
  replace hO := hO.t0 hx42
  replace hE := hE.t0 hx42
  clear eb43 lb44
  clear hS0
  have hS0 : w39.cell? ⟨b2, 0, none⟩ = w31.cell? ⟨b2, 0, none⟩ ∧ w39.cell? ⟨b2, 1, none⟩ = w31.cell? ⟨b2, 1, none⟩ ∧ w39.cell? ⟨b2, 2, none⟩ = w31.cell? ⟨b2, 2, none⟩ ∧ w39.cell? ⟨b2, 3, none⟩ = w31.cell? ⟨b2, 3, none⟩ := ⟨(hB3.cell 0).trans (s_hB3.cell 0).symm, (hB3.cell 1).trans (s_hB3.cell 1).symm, (hB3.cell 2).trans (s_hB3.cell 2).symm, (hB3.cell 3).trans (s_hB3.cell 3).symm⟩
  refine ⟨.inl hS0, ?_⟩
  obtain ⟨v46, w45, he, hO47, hx48, hfr49⟩ := eP (.tmp 64) (.tmp 71) [(l3, [41]), (l4, [58])] hf rfl rfl hO hB41 rfl (by (try simp only [List.length_cons, List.length_nil]); omega) (nlt hBs hE.size) 54
  refine dl_e 8 (by kernel_rfl) rfl hf rfl rfl he fun a hf => ?_
  have hn2 := own_ne hfr49 hn hB3.lt
  have hg2 := own_from hfr49 hg hE.size
  replace hB3 := hB3.chg hx48 (nmO hn)
  replace hE := chg_own hE hx48 hg
  clear hO hn hg hfr49
  have hO := hO47; clear hO47
  have hn := hn2; clear hn2
  have hg := hg2; clear hg2
  obtain ⟨ps50, eps50⟩ : ∃ z, z = ps32 ++ [(l3, [41]), (l4, [58])] := ⟨_, rfl⟩
  rw [← eps50] at hO
  have lps50 : ps50.length = ps32.length + 2 := by rw [eps50]; simp
  clear hS0
  have hS0 : w45.cell? ⟨b2, 0, none⟩ = w31.cell? ⟨b2, 0, none⟩ ∧ w45.cell? ⟨b2, 1, none⟩ = w31.cell? ⟨b2, 1, none⟩ ∧ w45.cell? ⟨b2, 2, none⟩ = w31.cell? ⟨b2, 2, none⟩ ∧ w45.cell? ⟨b2, 3, none⟩ = w31.cell? ⟨b2, 3, none⟩ := ⟨(hB3.cell 0).trans (s_hB3.cell 0).symm, (hB3.cell 1).trans (s_hB3.cell 1).symm, (hB3.cell 2).trans (s_hB3.cell 2).symm, (hB3.cell 3).trans (s_hB3.cell 3).symm⟩
  refine ⟨.inl hS0, ?_⟩
  refine dR [9] hsel (by kernel_rfl) hf rfl rfl (.inl hS0) fun a hf => rN (by kernel_rfl) ?_
  clear hS0 hsel
  refine rR 2 hf rfl fun a hf => ?_
  have s_k00 := (low_now (o := ko + qs.length * 4) hE hVB hkb lbB).trans (hc0 0 (by decide))
  have s_k01 := (low_now (o := ko + qs.length * 4 + 1) hE hVB hkb lbB).trans (hc0 1 (by decide))
  have s_k02 := (low_now (o := ko + qs.length * 4 + 2) hE hVB hkb lbB).trans (hc0 2 (by decide))
  have s_k03 := (low_now (o := ko + qs.length * 4 + 3) hE hVB hkb lbB).trans (hc0 3 (by decide))
  have hEs := hE
  have s_hB3 := hB3
  refine rD (fun x => x.cell? ⟨b2, 3, none⟩ = w45.cell? ⟨b2, 3, none⟩ ∧ x.cell? ⟨kb, ko + qs.length * 4, none⟩ = w45.cell? ⟨kb, ko + qs.length * 4, none⟩ ∧ x.cell? ⟨kb, ko + qs.length * 4 + 1, none⟩ = w45.cell? ⟨kb, ko + qs.length * 4 + 1, none⟩ ∧ x.cell? ⟨kb, ko + qs.length * 4 + 2, none⟩ = w45.cell? ⟨kb, ko + qs.length * 4 + 2, none⟩ ∧ x.cell? ⟨kb, ko + qs.length * 4 + 3, none⟩ = w45.cell? ⟨kb, ko + qs.length * 4 + 3, none⟩ ∧ x.cell? ⟨b2, 0, none⟩ = w45.cell? ⟨b2, 0, none⟩ ∧ x.cell? ⟨b2, 1, none⟩ = w45.cell? ⟨b2, 1, none⟩ ∧ x.cell? ⟨b2, 2, none⟩ = w45.cell? ⟨b2, 2, none⟩) 14 14 rfl (by kernel_rfl) (by kernel_rfl) ?_
  intro w51 hx52 hsel
  replace hB3 := hB3.c0 hx52
  replace hO := hO.t0 hx52
  replace hE := hE.t0 hx52
  have hS0 : w51.cell? ⟨b2, 3, none⟩ = w45.cell? ⟨b2, 3, none⟩ ∧ w51.cell? ⟨kb, ko + qs.length * 4, none⟩ = w45.cell? ⟨kb, ko + qs.length * 4, none⟩ ∧ w51.cell? ⟨kb, ko + qs.length * 4 + 1, none⟩ = w45.cell? ⟨kb, ko + qs.length * 4 + 1, none⟩ ∧ w51.cell? ⟨kb, ko + qs.length * 4 + 2, none⟩ = w45.cell? ⟨kb, ko + qs.length * 4 + 2, none⟩ ∧ w51.cell? ⟨kb, ko + qs.length * 4 + 3, none⟩ = w45.cell? ⟨kb, ko + qs.length * 4 + 3, none⟩ ∧ w51.cell? ⟨b2, 0, none⟩ = w45.cell? ⟨b2, 0, none⟩ ∧ w51.cell? ⟨b2, 1, none⟩ = w45.cell? ⟨b2, 1, none⟩ ∧ w51.cell? ⟨b2, 2, none⟩ = w45.cell? ⟨b2, 2, none⟩ := ⟨(hB3.cell 3).trans (s_hB3.cell 3).symm, ((low_now hE hVB hkb lbB).trans (low_now hEs hVB hkb lbB).symm), ((low_now hE hVB hkb lbB).trans (low_now hEs hVB hkb lbB).symm), ((low_now hE hVB hkb lbB).trans (low_now hEs hVB hkb lbB).symm), ((low_now hE hVB hkb lbB).trans (low_now hEs hVB hkb lbB).symm), (hB3.cell 0).trans (s_hB3.cell 0).symm, (hB3.cell 1).trans (s_hB3.cell 1).symm, (hB3.cell 2).trans (s_hB3.cell 2).symm⟩
  refine dR [0, 1] hsel (by kernel_rfl) hf rfl rfl (.inl hS0) fun a hf => dL 2 rfl rfl hsel (by kernel_rfl) hf rfl hS0 (fun x hS => ex_load hf rfl (by kernel_rfl) (hS.1.trans ((s_hB3.cell 3).trans rfl))) fun a hf => dR [3] hsel (by kernel_rfl) hf rfl rfl (.inl hS0) fun a hf => dV 4 rfl rfl hsel (by kernel_rfl) hf rfl (.inl hS0) (fun x => ex_subI hf rfl rfl rfl (by simp only [List.length_append, List.length_cons, List.length_nil]; omega)) fun a hf => dV 5 rfl rfl hsel (by kernel_rfl) hf rfl (.inl hS0) (fun x => ex_index (sz := 4) (k := qs.length) (r := ko + qs.length * 4) hf Try.underlying24 (by kernel_rfl) rfl rfl (by simp only [List.length_append, List.length_cons, List.length_nil]; omega) (by simp only [List.length_append, List.length_cons, List.length_nil]; omega) rfl) fun a hf => dL 6 rfl rfl hsel (by kernel_rfl) hf rfl hS0 (fun x hS => ex_loadN (cs := [d00, d01, d02, d03]) (m := 4) hf rfl (by kernel_rfl) rfl (four (hS.2.1.trans s_k00) (hS.2.2.1.trans s_k01) (hS.2.2.2.1.trans s_k02) (hS.2.2.2.2.1.trans s_k03))) fun a hf => dL 8 rfl rfl hsel (by kernel_rfl) hf rfl hS0 (fun x hS => ex_loadX4 hf rfl (by kernel_rfl) s_hB3 rfl hS.2.2.2.2.2.1 hS.2.2.2.2.2.2.1 hS.2.2.2.2.2.2.2 hS.1) fun a hf => dl_c 7 (by kernel_rfl) rfl hf rfl rfl rfl (by kernel_rfl) (ih k0 _ Bs _ ps50 _ _ _ _ (hks _ (by simp)).1 (hks _ (by simp)).2 (by omega) hO (tree_now hT0 hE hVB) (nlt hBs hE.size)) ?_
  rintro _ w57 ⟨v54, rfl, hO55, hx53, hfr56⟩
  refine ⟨_, rfl, fun a hf => ?_⟩
  have hn2 := own_ne hfr56 hn hB3.lt
  have hg2 := own_from hfr56 hg hE.size
  replace hB3 := hB3.chg hx53 (nmO hn)
  replace hE := chg_own hE hx53 hg
  clear hO hn hg hfr56
  have hO := hO55; clear hO55
  have hn := hn2; clear hn2
  have hg := hg2; clear hg2
  obtain ⟨ps58, eps58⟩ : ∃ z, z = ps50 ++ pcsT k0 := ⟨_, rfl⟩
  rw [← eps58] at hO
  have lps58 : ps58.length = ps50.length + (pcsT k0).length := by rw [eps58, List.length_append]
  clear hS0
  have hS0 : w57.cell? ⟨b2, 3, none⟩ = w45.cell? ⟨b2, 3, none⟩ ∧ w57.cell? ⟨kb, ko + qs.length * 4, none⟩ = w45.cell? ⟨kb, ko + qs.length * 4, none⟩ ∧ w57.cell? ⟨kb, ko + qs.length * 4 + 1, none⟩ = w45.cell? ⟨kb, ko + qs.length * 4 + 1, none⟩ ∧ w57.cell? ⟨kb, ko + qs.length * 4 + 2, none⟩ = w45.cell? ⟨kb, ko + qs.length * 4 + 2, none⟩ ∧ w57.cell? ⟨kb, ko + qs.length * 4 + 3, none⟩ = w45.cell? ⟨kb, ko + qs.length * 4 + 3, none⟩ ∧ w57.cell? ⟨b2, 0, none⟩ = w45.cell? ⟨b2, 0, none⟩ ∧ w57.cell? ⟨b2, 1, none⟩ = w45.cell? ⟨b2, 1, none⟩ ∧ w57.cell? ⟨b2, 2, none⟩ = w45.cell? ⟨b2, 2, none⟩ := ⟨(hB3.cell 3).trans (s_hB3.cell 3).symm, ((low_now hE hVB hkb lbB).trans (low_now hEs hVB hkb lbB).symm), ((low_now hE hVB hkb lbB).trans (low_now hEs hVB hkb lbB).symm), ((low_now hE hVB hkb lbB).trans (low_now hEs hVB hkb lbB).symm), ((low_now hE hVB hkb lbB).trans (low_now hEs hVB hkb lbB).symm), (hB3.cell 0).trans (s_hB3.cell 0).symm, (hB3.cell 1).trans (s_hB3.cell 1).symm, (hB3.cell 2).trans (s_hB3.cell 2).symm⟩
  refine ⟨.inl hS0, ?_⟩
  refine dl_c 9 (by kernel_rfl) rfl hf rfl rfl rfl (by kernel_rfl) (leadAtR (ls := (l0 :: l1 :: l2 :: l3 :: l4 :: l5 :: ms)) (j := 5) rfl (row_now hL hE hVB)) ?_
  rintro _ w60 ⟨rfl, hx59⟩
  refine ⟨_, rfl, fun a hf => ?_⟩
  replace hB3 := hB3.c0 hx59
  replace hO := hO.t0 hx59
  replace hE := hE.t0 hx59
  clear hS0
  have hS0 : w60.cell? ⟨b2, 3, none⟩ = w45.cell? ⟨b2, 3, none⟩ ∧ w60.cell? ⟨kb, ko + qs.length * 4, none⟩ = w45.cell? ⟨kb, ko + qs.length * 4, none⟩ ∧ w60.cell? ⟨kb, ko + qs.length * 4 + 1, none⟩ = w45.cell? ⟨kb, ko + qs.length * 4 + 1, none⟩ ∧ w60.cell? ⟨kb, ko + qs.length * 4 + 2, none⟩ = w45.cell? ⟨kb, ko + qs.length * 4 + 2, none⟩ ∧ w60.cell? ⟨kb, ko + qs.length * 4 + 3, none⟩ = w45.cell? ⟨kb, ko + qs.length * 4 + 3, none⟩ ∧ w60.cell? ⟨b2, 0, none⟩ = w45.cell? ⟨b2, 0, none⟩ ∧ w60.cell? ⟨b2, 1, none⟩ = w45.cell? ⟨b2, 1, none⟩ ∧ w60.cell? ⟨b2, 2, none⟩ = w45.cell? ⟨b2, 2, none⟩ := ⟨(hB3.cell 3).trans (s_hB3.cell 3).symm, ((low_now hE hVB hkb lbB).trans (low_now hEs hVB hkb lbB).symm), ((low_now hE hVB hkb lbB).trans (low_now hEs hVB hkb lbB).symm), ((low_now hE hVB hkb lbB).trans (low_now hEs hVB hkb lbB).symm), ((low_now hE hVB hkb lbB).trans (low_now hEs hVB hkb lbB).symm), (hB3.cell 0).trans (s_hB3.cell 0).symm, (hB3.cell 1).trans (s_hB3.cell 1).symm, (hB3.cell 2).trans (s_hB3.cell 2).symm⟩
  refine ⟨.inl hS0, ?_⟩
  refine dV 10 rfl rfl hsel (by kernel_rfl) hf rfl (.inl hS0) (fun x => ex_bd (ps := [(0, (.tmp 82)), (1, (.const (.string ⟨#[61]⟩)))]) (z := [.string ⟨([] : List UInt8).toArray⟩, .string ⟨([] : List UInt8).toArray⟩]) (os := [0, 1]) hf rfl (by kernel_rfl) (by kernel_rfl) (by kernel_rfl) rfl rfl) fun a hf => ?_
  obtain ⟨w61, b62, he, hB63, hx64, eb65, lb66⟩ := ef_bslice (P := Try.prog) (ps := [(0, (.tmp 83))]) (m := 1) (sz := 2) (z := [.string ⟨([] : List UInt8).toArray⟩, .string ⟨([] : List UInt8).toArray⟩]) hf rfl Try.underlying54 (by kernel_rfl) (by kernel_rfl) rfl rfl (by kernel_rfl) rfl w60 54
  refine dl_e 11 (by kernel_rfl) rfl hf rfl rfl he fun a hf => ?_
  have ne_b2_b62 : b2 ≠ b62 := ne_new hB3.lt eb65
  have ge_b62 := ge_new hE eb65
  replace hB3 := hB3.c0 hx64
  replace hO := hO.t0 hx64
  replace hE := hE.t0 hx64
  clear eb65 lb66
  clear hS0
  have hS0 : w61.cell? ⟨b2, 3, none⟩ = w45.cell? ⟨b2, 3, none⟩ ∧ w61.cell? ⟨kb, ko + qs.length * 4, none⟩ = w45.cell? ⟨kb, ko + qs.length * 4, none⟩ ∧ w61.cell? ⟨kb, ko + qs.length * 4 + 1, none⟩ = w45.cell? ⟨kb, ko + qs.length * 4 + 1, none⟩ ∧ w61.cell? ⟨kb, ko + qs.length * 4 + 2, none⟩ = w45.cell? ⟨kb, ko + qs.length * 4 + 2, none⟩ ∧ w61.cell? ⟨kb, ko + qs.length * 4 + 3, none⟩ = w45.cell? ⟨kb, ko + qs.length * 4 + 3, none⟩ ∧ w61.cell? ⟨b2, 0, none⟩ = w45.cell? ⟨b2, 0, none⟩ ∧ w61.cell? ⟨b2, 1, none⟩ = w45.cell? ⟨b2, 1, none⟩ ∧ w61.cell? ⟨b2, 2, none⟩ = w45.cell? ⟨b2, 2, none⟩ := ⟨(hB3.cell 3).trans (s_hB3.cell 3).symm, ((low_now hE hVB hkb lbB).trans (low_now hEs hVB hkb lbB).symm), ((low_now hE hVB hkb lbB).trans (low_now hEs hVB hkb lbB).symm), ((low_now hE hVB hkb lbB).trans (low_now hEs hVB hkb lbB).symm), ((low_now hE hVB hkb lbB).trans (low_now hEs hVB hkb lbB).symm), (hB3.cell 0).trans (s_hB3.cell 0).symm, (hB3.cell 1).trans (s_hB3.cell 1).symm, (hB3.cell 2).trans (s_hB3.cell 2).symm⟩
  refine ⟨.inl hS0, ?_⟩
  obtain ⟨v68, w67, he, hO69, hx70, hfr71⟩ := eP (.tmp 80) (.tmp 84) [(l5, [61])] hf rfl rfl hO hB63 rfl (by (try simp only [List.length_cons, List.length_nil]); omega) (nlt hBs hE.size) 54
  refine dl_e 12 (by kernel_rfl) rfl hf rfl rfl he fun a hf => ?_
  have hn2 := own_ne hfr71 hn hB3.lt
  have hg2 := own_from hfr71 hg hE.size
  replace hB3 := hB3.chg hx70 (nmO hn)
  replace hE := chg_own hE hx70 hg
  clear hO hn hg hfr71
  have hO := hO69; clear hO69
  have hn := hn2; clear hn2
  have hg := hg2; clear hg2
  obtain ⟨ps72, eps72⟩ : ∃ z, z = ps58 ++ [(l5, [61])] := ⟨_, rfl⟩
  rw [← eps72] at hO
  have lps72 : ps72.length = ps58.length + 1 := by rw [eps72]; simp
  clear hS0
  have hS0 : w67.cell? ⟨b2, 3, none⟩ = w45.cell? ⟨b2, 3, none⟩ ∧ w67.cell? ⟨kb, ko + qs.length * 4, none⟩ = w45.cell? ⟨kb, ko + qs.length * 4, none⟩ ∧ w67.cell? ⟨kb, ko + qs.length * 4 + 1, none⟩ = w45.cell? ⟨kb, ko + qs.length * 4 + 1, none⟩ ∧ w67.cell? ⟨kb, ko + qs.length * 4 + 2, none⟩ = w45.cell? ⟨kb, ko + qs.length * 4 + 2, none⟩ ∧ w67.cell? ⟨kb, ko + qs.length * 4 + 3, none⟩ = w45.cell? ⟨kb, ko + qs.length * 4 + 3, none⟩ ∧ w67.cell? ⟨b2, 0, none⟩ = w45.cell? ⟨b2, 0, none⟩ ∧ w67.cell? ⟨b2, 1, none⟩ = w45.cell? ⟨b2, 1, none⟩ ∧ w67.cell? ⟨b2, 2, none⟩ = w45.cell? ⟨b2, 2, none⟩ := ⟨(hB3.cell 3).trans (s_hB3.cell 3).symm, ((low_now hE hVB hkb lbB).trans (low_now hEs hVB hkb lbB).symm), ((low_now hE hVB hkb lbB).trans (low_now hEs hVB hkb lbB).symm), ((low_now hE hVB hkb lbB).trans (low_now hEs hVB hkb lbB).symm), ((low_now hE hVB hkb lbB).trans (low_now hEs hVB hkb lbB).symm), (hB3.cell 0).trans (s_hB3.cell 0).symm, (hB3.cell 1).trans (s_hB3.cell 1).symm, (hB3.cell 2).trans (s_hB3.cell 2).symm⟩
  refine ⟨.inl hS0, ?_⟩
  refine dR [13] hsel (by kernel_rfl) hf rfl rfl (.inl hS0) fun a hf => rN (by kernel_rfl) ?_
  clear hS0 hsel
  refine rR 5 hf rfl fun a hf => rV hf rfl (ex_loadB hf rfl (by kernel_rfl) hB3 rfl) fun a hf => rR 1 hf rfl fun a hf => rV hf rfl (ex_subI hf rfl rfl rfl (by simp only [List.length_append, List.length_cons, List.length_nil]; omega)) fun a hf => rV hf rfl (ex_index (sz := 4) (k := (qs.length + 1)) (r := ko + (qs.length + 1) * 4) hf Try.underlying24 (by kernel_rfl) rfl rfl (by simp only [List.length_append, List.length_cons, List.length_nil]; omega) (by simp only [List.length_append, List.length_cons, List.length_nil]; omega) rfl) fun a hf => rV hf rfl (ex_loadN (cs := [d10, d11, d12, d13]) (m := 4) hf rfl (by kernel_rfl) rfl (fun r hr => (low_now hE hVB hkb lbB).trans (hc1 r hr))) fun a hf => rC hf rfl rfl (by kernel_rfl) (ih k1 _ Bs _ ps72 _ _ _ _ (hks _ (by simp)).1 (hks _ (by simp)).2 (by omega) hO (tree_now hT1 hE hVB) (nlt hBs hE.size)) ?_
  rintro _ w77 ⟨v74, rfl, hO75, hx73, hfr76⟩
  refine ⟨_, rfl, fun a hf => ?_⟩
  have hn2 := own_ne hfr76 hn hB3.lt
  have hg2 := own_from hfr76 hg hE.size
  replace hB3 := hB3.chg hx73 (nmO hn)
  replace hE := chg_own hE hx73 hg
  clear hO hn hg hfr76
  have hO := hO75; clear hO75
  have hn := hn2; clear hn2
  have hg := hg2; clear hg2
  obtain ⟨ps78, eps78⟩ : ∃ z, z = ps72 ++ pcsT k1 := ⟨_, rfl⟩
  rw [← eps78] at hO
  have lps78 : ps78.length = ps72.length + (pcsT k1).length := by rw [eps78, List.length_append]
  refine rR 6 hf rfl fun a hf => ?_
  have eq : ps ++ pcsT (.node 2 x (l0 :: l1 :: l2 :: l3 :: l4 :: l5 :: ms) (qs ++ [k0, k1])) = ps78 := by subst eps78; subst eps72; subst eps58; subst eps50; subst eps32; subst eps26; rw [pcsT, pcsTs_app, pcsTs, pcsTs, pcsTs, nodeC2]; simp [pcsTs_length, take_left2]
  exact rT (rs := [.tmp 4]) hf rfl ⟨_, _, rfl, rfl, rfl⟩ ⟨_, rfl, eq ▸ hO, hE, fresh_all hg (.inl (own_some hO))⟩
end Go.Proofs.Ythpjpngfghcmcaa
namespace Go.Proofs.Ythpjpngfghcmcaa
open Go.RowKit Lx Sx
set_option maxRecDepth 100000
set_option maxHeartbeats 4000000
theorem kbulk_mem : ∀ {ks : List Tree} {t : Tree}, t ∈ ks → tbulk t ≤ kbulk ks
  | u :: r, t, ht => by
    simp only [kbulk]
    rcases List.mem_cons.1 ht with e | e
    · subst e; omega
    · have := kbulk_mem e; omega
theorem flat_step {ks : List Tree} {i : Nat} (h : i < ks.length) : (pcsTs (ks.take (i + 1))).flatten = (pcsTs (ks.take i)).flatten ++ pcsT ks[i] := by
  rw [List.take_succ_eq_append_getElem h, pcsTs_app, pcsTs, pcsTs, List.flatten_append]; simp
theorem flat_mono {ks : List Tree} (i : Nat) : (pcsTs (ks.take i)).flatten.length ≤ (pcsTs ks).flatten.length := by
  have e : ks = ks.take i ++ ks.drop i := (List.take_append_drop i ks).symm
  have := congrArg (fun q => (pcsTs q).flatten.length) e
  simp only [pcsTs_app, List.flatten_append, List.length_append] at this
  omega
theorem p1 {N : Nat} (ih : PiecesOk N) {w : World} {Bs : Nat} {v0 : Value} {ps : List Pc} {x : List UInt8} {l0 l1 l2 : List UInt8} {ks : List Tree} {cs : List Value} {A B : Option Addr} {m n : Nat} (hk9 : ks.length ≤ 1000000000) (hks : ∀ t, t ∈ ks → tsize t ≤ N ∧ (shapedT t && leadedT t && decide (tbulk t ≤ 1000000000)) = true)
    (hl1 : ps.length + (pcsT (.node 1 x [l0, l1, l2] ks)).length ≤ 1000000000) (hO : Ow Bs w v0 ps) (hL : RowIn (fun b => b < Bs) w 1 A [l0, l1, l2].length ([l0, l1, l2].map strV)) (hn0 : ks.length ≤ n) (hn2 : n ≤ maxLen) (hK : KidsAre (fun b => b < Bs) w ks cs) (hR : RowIn (fun b => b < Bs) w 4 B ks.length cs) (hBs : Bs ≤ w.heap.size) :
    Calls Try.prog 64 [v0, .agg #[.int .i64 1, strV x, .slice A [l0, l1, l2].length m, .slice B ks.length n]].toArray w fun e w' => ∃ v', e = .returned v' ∧ Ow Bs w' v' (ps ++ pcsT (.node 1 x [l0, l1, l2] ks)) ∧ Chg v0.ownBlock.toList w w' ∧ Fresh w v0 v' := by
  have hq : (pcsT (.node 1 x [l0, l1, l2] ks)).length = 3 + (pcsTs ks).flatten.length := by simp [pcsT, nodeC] <;> omega
  have hE := Chg.refl v0.ownBlock.toList w
  have hVB : ∀ g, g ∈ v0.ownBlock.toList → Bs ≤ g := fun g h => (hO.ge (by simpa using h)).1
  have hg : ∀ g, v0.ownBlock = some g → g ∈ v0.ownBlock.toList ∨ w.heap.size ≤ g := fun g e => .inl (by simpa using e)
  refine rE 365 Try.func64 rfl rfl rfl ?_
  intro a hf
  refine rR 2 hf rfl ?_
  clear hf a; intro a hf
  obtain ⟨w1, b2, he, hB3, hx4, eb5, lb6⟩ := ef_box (P := Try.prog) (t := 26) (x := (.tmp 1)) hf rfl rfl w 0
  refine rV hf rfl he ?_
  clear he hf a; intro a hf
  have ge_b2 := ge_new hE eb5
  have hn : v0.ownBlock ≠ some b2 := fun e => by have := (hO.ge e).2; omega
  replace hO := hO.t0 hx4
  replace hE := hE.t0 hx4
  clear eb5 lb6
  refine rR 6 hf rfl ?_
  clear hf a; intro a hf
  refine rV hf rfl (ex_loadB hf rfl (by kernel_rfl) hB3 rfl) ?_
  clear hf a; intro a hf
  refine rV hf rfl (ex_len hf Try.underlying24 rfl) ?_
  clear hf a; intro a hf
  refine rR 7 hf rfl ?_
  clear hf a; intro a hf
  refine rV hf rfl (ex_loadB hf rfl (by kernel_rfl) hB3 rfl) ?_
  clear hf a; intro a hf
  refine rR 11 hf rfl ?_
  clear hf a; intro a hf
  have hEs := hE
  have s_hB3 := hB3
  refine rD (fun x => x.cell? ⟨b2, 0, none⟩ = w1.cell? ⟨b2, 0, none⟩ ∧ x.cell? ⟨b2, 1, none⟩ = w1.cell? ⟨b2, 1, none⟩ ∧ x.cell? ⟨b2, 2, none⟩ = w1.cell? ⟨b2, 2, none⟩ ∧ x.cell? ⟨b2, 3, none⟩ = w1.cell? ⟨b2, 3, none⟩) 12 12 rfl (by kernel_rfl) (by kernel_rfl) ?_
  intro w7 hx8 hsel
  replace hB3 := hB3.c0 hx8
  replace hO := hO.t0 hx8
  replace hE := hE.t0 hx8
  have hS0 : w7.cell? ⟨b2, 0, none⟩ = w1.cell? ⟨b2, 0, none⟩ ∧ w7.cell? ⟨b2, 1, none⟩ = w1.cell? ⟨b2, 1, none⟩ ∧ w7.cell? ⟨b2, 2, none⟩ = w1.cell? ⟨b2, 2, none⟩ ∧ w7.cell? ⟨b2, 3, none⟩ = w1.cell? ⟨b2, 3, none⟩ := ⟨(hB3.cell 0).trans (s_hB3.cell 0).symm, (hB3.cell 1).trans (s_hB3.cell 1).symm, (hB3.cell 2).trans (s_hB3.cell 2).symm, (hB3.cell 3).trans (s_hB3.cell 3).symm⟩
  refine dR [0] hsel (by kernel_rfl) hf rfl rfl (.inl hS0) ?_
  clear hf a; intro a hf
  refine dL 1 rfl rfl hsel (by kernel_rfl) hf rfl hS0 (fun x hS => ex_loadX4 hf rfl (by kernel_rfl) s_hB3 rfl hS.1 hS.2.1 hS.2.2.1 hS.2.2.2) ?_
  clear hf a; intro a hf
  refine dL 4 rfl rfl hsel (by kernel_rfl) hf rfl hS0 (fun x hS => ex_loadX4 hf rfl (by kernel_rfl) s_hB3 rfl hS.1 hS.2.1 hS.2.2.1 hS.2.2.2) ?_
  clear hf a; intro a hf
  refine dR [6] hsel (by kernel_rfl) hf rfl rfl (.inl hS0) ?_
  clear hf a; intro a hf
  refine dL 7 rfl rfl hsel (by kernel_rfl) hf rfl hS0 (fun x hS => ex_load hf rfl (by kernel_rfl) (hS.2.1.trans ((s_hB3.cell 1).trans rfl))) ?_
  clear hf a; intro a hf
  refine dl_c 2 (by kernel_rfl) rfl hf rfl rfl rfl (by kernel_rfl) (leadAtR (ls := [l0, l1, l2]) (j := 0) rfl (row_now hL hE hVB)) ?_
  rintro _ w10 ⟨rfl, hx9⟩
  refine ⟨_, rfl, ?_⟩
  clear hf a; intro a hf
  replace hB3 := hB3.c0 hx9
  replace hO := hO.t0 hx9
  replace hE := hE.t0 hx9
  clear hS0
  have hS0 : w10.cell? ⟨b2, 0, none⟩ = w1.cell? ⟨b2, 0, none⟩ ∧ w10.cell? ⟨b2, 1, none⟩ = w1.cell? ⟨b2, 1, none⟩ ∧ w10.cell? ⟨b2, 2, none⟩ = w1.cell? ⟨b2, 2, none⟩ ∧ w10.cell? ⟨b2, 3, none⟩ = w1.cell? ⟨b2, 3, none⟩ := ⟨(hB3.cell 0).trans (s_hB3.cell 0).symm, (hB3.cell 1).trans (s_hB3.cell 1).symm, (hB3.cell 2).trans (s_hB3.cell 2).symm, (hB3.cell 3).trans (s_hB3.cell 3).symm⟩
  refine ⟨.inl hS0, ?_⟩
  refine dV 3 rfl rfl hsel (by kernel_rfl) hf rfl (.inl hS0) (fun x => ex_bd (ps := [(0, (.tmp 16)), (1, (.const (.string ⟨#[109, 111, 100, 117, 108, 101]⟩)))]) (z := [.string ⟨([] : List UInt8).toArray⟩, .string ⟨([] : List UInt8).toArray⟩]) (os := [0, 1]) hf rfl (by kernel_rfl) (by kernel_rfl) (by kernel_rfl) rfl rfl) ?_
  clear hf a; intro a hf
  refine dl_c 5 (by kernel_rfl) rfl hf rfl rfl rfl (by kernel_rfl) (leadAtR (ls := [l0, l1, l2]) (j := 1) rfl (row_now hL hE hVB)) ?_
  rintro _ w12 ⟨rfl, hx11⟩
  refine ⟨_, rfl, ?_⟩
  clear hf a; intro a hf
  replace hB3 := hB3.c0 hx11
  replace hO := hO.t0 hx11
  replace hE := hE.t0 hx11
  clear hS0
  have hS0 : w12.cell? ⟨b2, 0, none⟩ = w1.cell? ⟨b2, 0, none⟩ ∧ w12.cell? ⟨b2, 1, none⟩ = w1.cell? ⟨b2, 1, none⟩ ∧ w12.cell? ⟨b2, 2, none⟩ = w1.cell? ⟨b2, 2, none⟩ ∧ w12.cell? ⟨b2, 3, none⟩ = w1.cell? ⟨b2, 3, none⟩ := ⟨(hB3.cell 0).trans (s_hB3.cell 0).symm, (hB3.cell 1).trans (s_hB3.cell 1).symm, (hB3.cell 2).trans (s_hB3.cell 2).symm, (hB3.cell 3).trans (s_hB3.cell 3).symm⟩
  refine ⟨.inl hS0, ?_⟩
  refine dV 8 rfl rfl hsel (by kernel_rfl) hf rfl (.inl hS0) (fun x => ex_bd (ps := [(0, (.tmp 19)), (1, (.tmp 21))]) (z := [.string ⟨([] : List UInt8).toArray⟩, .string ⟨([] : List UInt8).toArray⟩]) (os := [0, 1]) hf rfl (by kernel_rfl) (by kernel_rfl) (by kernel_rfl) rfl rfl) ?_
  clear hf a; intro a hf
  obtain ⟨w13, b14, he, hB15, hx16, eb17, lb18⟩ := ef_bslice (P := Try.prog) (ps := [(0, (.tmp 17)), (1, (.tmp 22))]) (m := 2) (sz := 2) (z := [.string ⟨([] : List UInt8).toArray⟩, .string ⟨([] : List UInt8).toArray⟩]) hf rfl Try.underlying54 (by kernel_rfl) (by kernel_rfl) rfl rfl (by kernel_rfl) rfl w12 54
  refine dl_e 9 (by kernel_rfl) rfl hf rfl rfl he ?_
  clear he hf a; intro a hf
  have ne_b2_b14 : b2 ≠ b14 := ne_new hB3.lt eb17
  have ge_b14 := ge_new hE eb17
  replace hB3 := hB3.c0 hx16
  replace hO := hO.t0 hx16
  replace hE := hE.t0 hx16
  clear eb17 lb18
  clear hS0
  have hS0 : w13.cell? ⟨b2, 0, none⟩ = w1.cell? ⟨b2, 0, none⟩ ∧ w13.cell? ⟨b2, 1, none⟩ = w1.cell? ⟨b2, 1, none⟩ ∧ w13.cell? ⟨b2, 2, none⟩ = w1.cell? ⟨b2, 2, none⟩ ∧ w13.cell? ⟨b2, 3, none⟩ = w1.cell? ⟨b2, 3, none⟩ := ⟨(hB3.cell 0).trans (s_hB3.cell 0).symm, (hB3.cell 1).trans (s_hB3.cell 1).symm, (hB3.cell 2).trans (s_hB3.cell 2).symm, (hB3.cell 3).trans (s_hB3.cell 3).symm⟩
  refine ⟨.inl hS0, ?_⟩
  obtain ⟨v20, w19, he, hO21, hx22, hfr23⟩ := eP (.tmp 14) (.tmp 23) [(l0, [109, 111, 100, 117, 108, 101]), (l1, x)] hf rfl rfl hO hB15 rfl (by (try simp only [List.length_cons, List.length_nil]); omega) (nlt hBs hE.size) 54
  refine dl_e 10 (by kernel_rfl) rfl hf rfl rfl he ?_
  clear he hf a; intro a hf
  have hn2 := own_ne hfr23 hn hB3.lt
  have hg2 := own_from hfr23 hg hE.size
  replace hB3 := hB3.chg hx22 (nmO hn)
  replace hE := chg_own hE hx22 hg
  clear hO hn hg hfr23
  have hO := hO21; clear hO21
  have hn := hn2; clear hn2
  have hg := hg2; clear hg2
  obtain ⟨ps24, eps24⟩ : ∃ z, z = ps ++ [(l0, [109, 111, 100, 117, 108, 101]), (l1, x)] := ⟨_, rfl⟩
  rw [← eps24] at hO
  have lps24 : ps24.length = ps.length + 2 := by rw [eps24]; simp
  clear hS0
  have hS0 : w19.cell? ⟨b2, 0, none⟩ = w1.cell? ⟨b2, 0, none⟩ ∧ w19.cell? ⟨b2, 1, none⟩ = w1.cell? ⟨b2, 1, none⟩ ∧ w19.cell? ⟨b2, 2, none⟩ = w1.cell? ⟨b2, 2, none⟩ ∧ w19.cell? ⟨b2, 3, none⟩ = w1.cell? ⟨b2, 3, none⟩ := ⟨(hB3.cell 0).trans (s_hB3.cell 0).symm, (hB3.cell 1).trans (s_hB3.cell 1).symm, (hB3.cell 2).trans (s_hB3.cell 2).symm, (hB3.cell 3).trans (s_hB3.cell 3).symm⟩
  refine ⟨.inl hS0, ?_⟩
  refine dR [11] hsel (by kernel_rfl) hf rfl rfl (.inl hS0) ?_
  clear hf a; intro a hf
  refine rN (by kernel_rfl) ?_
  clear hS0 hsel
  refine rR 8 hf rfl ?_
  clear hf a; intro a hf
  refine rL (fun g a w' => ∃ i v1, Fr a 365 (fm [(0, v1), (3, .pointer (some ⟨b2, 0, none⟩)), (5, .int .i64 (ks.length : Nat)), (6, .int .i64 (i : Nat))]) ∧ Chg v0.ownBlock.toList w w' ∧ Blk w' b2 26 [.int .i64 1, strV x, .slice A [l0, l1, l2].length m, .slice B ks.length n] ∧ Ow Bs w' v1 (ps24 ++ (pcsTs (ks.take i)).flatten) ∧ v1.ownBlock ≠ some b2 ∧ (∀ g, v1.ownBlock = some g → g ∈ v0.ownBlock.toList ∨ w.heap.size ≤ g) ∧ i ≤ ks.length ∧ g = ks.length - i) _ ⟨0, v20, hf.pick ⟨rfl, rfl, rfl, rfl, trivial⟩, hE, hB3, by simpa [pcsTs] using hO, hn, hg, Nat.zero_le _, rfl⟩ ?_
  obtain ⟨b6, eb6⟩ : ∃ x, b2 = x := ⟨_, rfl⟩
  rw [eb6]
  have ge_b6 : w.heap.size ≤ b6 := eb6 ▸ ge_b2
  clear eb6 hf a hO hn hg
  intro g0 a w' hI
  obtain ⟨i, v1, hf, hE, hB6, hO, hn, hg, hi, rfl⟩ := hI
  by_cases hlt : i < ks.length
  obtain ⟨kb, ko, rfl, lbB, hkb, _⟩ := hR.2 (by omega)
  obtain ⟨d0, d1, d2, d3, hT, hc⟩ := kid_at hK hR rfl (List.getElem?_eq_getElem hlt)
  have on_T := hT.one
  have hmem : ks[i] ∈ ks := List.getElem_mem hlt
  have hst := flat_step hlt
  have hmo := flat_mono (ks := ks) (i + 1)
  rw [hst] at hmo
  simp only [List.length_append] at hmo
  obtain ⟨ps0, eps0⟩ : ∃ z, z = ps24 ++ (pcsTs (ks.take i)).flatten := ⟨_, rfl⟩
  rw [← eps0] at hO
  have lps0 : ps0.length = ps24.length + (pcsTs (ks.take i)).flatten.length := by rw [eps0, List.length_append]
  refine rR 5 hf rfl ?_
  clear hf a; intro a hf
  refine rV hf rfl (ex_ltI (c := true) hf rfl rfl (by simp; omega)) ?_
  clear hf a; intro a hf
  refine rR 10 hf rfl ?_
  clear hf a; intro a hf
  refine rV hf rfl (ex_loadB hf rfl (by kernel_rfl) hB6 rfl) ?_
  clear hf a; intro a hf
  refine rR 1 hf rfl ?_
  clear hf a; intro a hf
  refine rV hf rfl (ex_index (sz := 4) (k := i) (r := ko + i * 4) hf Try.underlying24 (by kernel_rfl) rfl rfl rfl hlt rfl) ?_
  clear hf a; intro a hf
  refine rV hf rfl (ex_loadN (cs := [d0, d1, d2, d3]) (m := 4) hf rfl (by kernel_rfl) rfl (fun r hr => (low_now hE hVB hkb lbB).trans (hc r hr))) ?_
  clear hf a; intro a hf
  refine rC hf rfl rfl (by kernel_rfl) (ih ks[i] _ Bs _ ps0 _ _ _ _ (hks _ hmem).1 (hks _ hmem).2 (by omega) hO (tree_now hT hE hVB) (nlt hBs hE.size)) ?_
  rintro _ w29 ⟨v26, rfl, hO27, hx25, hfr28⟩
  refine ⟨_, rfl, ?_⟩
  clear hf a; intro a hf
  have hn2 := own_ne hfr28 hn hB6.lt
  have hg2 := own_from hfr28 hg hE.size
  replace hB6 := hB6.chg hx25 (nmO hn)
  replace hE := chg_own hE hx25 hg
  clear hO hn hg hfr28
  have hO := hO27; clear hO27
  have hn := hn2; clear hn2
  have hg := hg2; clear hg2
  have hfin : ps0 ++ pcsT ks[i] = ps24 ++ (pcsTs (ks.take (i + 1))).flatten := by rw [hst, eps0, List.append_assoc]
  rw [hfin] at hO
  refine rR 6 hf rfl ?_
  clear hf a; intro a hf
  refine rV hf rfl (ex_addI hf rfl rfl rfl (by omega)) ?_
  clear hf a; intro a hf
  refine rR 2 hf rfl ?_
  clear hf a; intro a hf
  exact rX ⟨_, (by omega : ks.length - (i + 1) < ks.length - i), i + 1, v26, hf.pick ⟨rfl, rfl, rfl, rfl, trivial⟩, hE, hB6, hO, hn, hg, by omega, rfl⟩
  have hal : ks.take i = ks := List.take_of_length_le (by omega)
  rw [hal] at hO
  obtain ⟨psL, epsL⟩ : ∃ z, z = ps24 ++ (pcsTs ks).flatten := ⟨_, rfl⟩
  rw [← epsL] at hO
  have lpsL : psL.length = ps24.length + (pcsTs ks).flatten.length := by rw [epsL, List.length_append]
  refine rR 5 hf rfl ?_
  clear hf a; intro a hf
  refine rV hf rfl (ex_ltI (c := false) hf rfl rfl (by simp <;> omega)) ?_
  clear hf a; intro a hf
  refine rR 5 hf rfl ?_
  clear hf a; intro a hf
  refine rO ?_
  refine rR 5 hf rfl ?_
  clear hf a; intro a hf
  refine rV hf rfl (ex_loadBN (m := 4) hf rfl (by kernel_rfl) hB6 rfl) ?_
  clear hf a; intro a hf
  refine rC hf rfl rfl (by kernel_rfl) (leadAtR (ls := [l0, l1, l2]) (j := 2) rfl (row_now hL hE hVB)) ?_
  rintro _ w31 ⟨rfl, hx30⟩
  refine ⟨_, rfl, ?_⟩
  clear hf a; intro a hf
  replace hB6 := hB6.c0 hx30
  replace hO := hO.t0 hx30
  replace hE := hE.t0 hx30
  refine rV hf rfl (ex_bd (ps := [(0, (.tmp 39)), (1, (.const (.string ⟨#[]⟩)))]) (z := [.string ⟨([] : List UInt8).toArray⟩, .string ⟨([] : List UInt8).toArray⟩]) (os := [0, 1]) hf rfl (by kernel_rfl) (by kernel_rfl) (by kernel_rfl) rfl rfl) ?_
  clear hf a; intro a hf
  obtain ⟨w32, b33, he, hB34, hx35, eb36, lb37⟩ := ef_bslice (P := Try.prog) (ps := [(0, (.tmp 40))]) (m := 1) (sz := 2) (z := [.string ⟨([] : List UInt8).toArray⟩, .string ⟨([] : List UInt8).toArray⟩]) hf rfl Try.underlying54 (by kernel_rfl) (by kernel_rfl) rfl rfl (by kernel_rfl) rfl w31 54
  refine rV hf rfl he ?_
  clear he hf a; intro a hf
  have ne_b6_b33 : b6 ≠ b33 := ne_new hB6.lt eb36
  have ge_b33 := ge_new hE eb36
  replace hB6 := hB6.c0 hx35
  replace hO := hO.t0 hx35
  replace hE := hE.t0 hx35
  clear eb36 lb37
  obtain ⟨v39, w38, he, hO40, hx41, hfr42⟩ := eP (.tmp 37) (.tmp 41) [(l2, ([] : List UInt8))] hf rfl rfl hO hB34 rfl (by (try simp only [List.length_cons, List.length_nil]); omega) (nlt hBs hE.size) 54
  refine rV hf rfl he ?_
  clear he hf a; intro a hf
  have hn2 := own_ne hfr42 hn hB6.lt
  have hg2 := own_from hfr42 hg hE.size
  replace hB6 := hB6.chg hx41 (nmO hn)
  replace hE := chg_own hE hx41 hg
  clear hO hn hg hfr42
  have hO := hO40; clear hO40
  have hn := hn2; clear hn2
  have hg := hg2; clear hg2
  obtain ⟨ps43, eps43⟩ : ∃ z, z = psL ++ [(l2, ([] : List UInt8))] := ⟨_, rfl⟩
  rw [← eps43] at hO
  have lps43 : ps43.length = psL.length + 1 := by rw [eps43]; simp
  refine rR 6 hf rfl ?_
  clear hf a; intro a hf
  have eq : ps ++ pcsT (.node 1 x [l0, l1, l2] ks) = ps43 := by subst eps43; subst epsL; subst eps24; simp [pcsT, nodeC]
  exact rT (rs := [.tmp 4]) hf rfl ⟨_, _, rfl, rfl, rfl⟩ ⟨_, rfl, eq ▸ hO, hE, fresh_all hg (.inl (own_some hO))⟩
theorem pieces_step {N : Nat} (ih : PiecesOk N) : PiecesOk (N + 1) := by
  intro t w Bs v ps c0 c1 c2 c3 hN hs0 hl hO hT hBs
  rw [Bool.and_eq_true, Bool.and_eq_true, decide_eq_true_eq] at hs0
  obtain ⟨⟨hs, hld⟩, htb⟩ := hs0
  obtain ⟨k, x, ls, ks⟩ := t
  simp only [TreeIs] at hT
  obtain ⟨A, m, B, n, hc, _, _, hn, hn2, hL, cs, hK, hR⟩ := hT
  simp only [List.cons.injEq, and_true] at hc
  obtain ⟨rfl, rfl, rfl, rfl⟩ := hc
  simp only [tsize] at hN
  simp only [shapedT, leadedT, Bool.and_eq_true, decide_eq_true_eq] at hs hld
  have hks : ∀ t, t ∈ ks → tsize t ≤ N ∧ (shapedT t && leadedT t && decide (tbulk t ≤ 1000000000)) = true := fun t ht => ⟨by have := tsize_mem ht; omega, by rw [kids_all hs.2 t ht, leaded_of hld.2 ht]; simp only [tbulk] at htb; have := kbulk_mem ht; simp; omega⟩
  have hkk := leads_kind hs.1.1
  have hll := hld.1.1
  have hk9 : ks.length ≤ 1000000000 := by simp only [tbulk] at htb; have := kbulk_len ks; omega
  clear hs hld hN
  rcases hkk with ⟨rfl, e⟩ | ⟨rfl, h0, e⟩ | ⟨rfl, e⟩ | ⟨rfl, h0, e⟩ | ⟨rfl, h0, e⟩ | ⟨rfl, h0, e⟩ | ⟨rfl, h0, e⟩ | ⟨rfl, h0, e⟩ | ⟨rfl, h0, e⟩ | ⟨rfl, h0, e⟩ | ⟨rfl, h0, e⟩ | ⟨rfl, h0, e⟩ | ⟨hk, h0, e⟩
  · obtain ⟨l0, ls0r, rfl, qls0⟩ := lenS (n := 2) (l := ls) (by omega)
    obtain ⟨l1, ls1r, rfl, qls1⟩ := lenS (n := 1) (l := ls0r) qls0
    obtain ⟨l2, ls2r, rfl, qls2⟩ := lenS (n := 0) (l := ls1r) qls1
    obtain rfl := len0 (l := ls2r) qls2
    exact p1 ih hk9 hks hl hO hL hn hn2 hK hR hBs
  · obtain ⟨qs, k0, k1, rfl⟩ : ∃ ps k0 k1, ks = ps ++ [k0, k1] := by
      refine ⟨ks.take (ks.length - 2), ks[ks.length - 2]'(by omega), ks[ks.length - 1]'(by omega), ?_⟩
      have e1 : ks = ks.take (ks.length - 2) ++ ks.drop (ks.length - 2) := (List.take_append_drop _ _).symm
      have e2 : ks.drop (ks.length - 2) = [ks[ks.length - 2]'(by omega), ks[ks.length - 1]'(by omega)] := by
        rw [List.drop_eq_getElem_cons (by omega : ks.length - 2 < ks.length)]
        congr 1
        have e3 : ks.length - 2 + 1 = ks.length - 1 := by omega
        rw [e3, List.drop_eq_getElem_cons (by omega : ks.length - 1 < ks.length), List.drop_of_length_le (by omega)]
      rw [← e2]; exact e1
    have hpl : (qs ++ [k0, k1]).length = qs.length + 2 := by simp
    obtain ⟨q, hq⟩ : ∃ q, ls.length = q + 6 := ⟨ls.length - 6, by omega⟩
    obtain ⟨l0, ls0r, rfl, qls0⟩ := lenS (n := q + 5) (l := ls) hq
    obtain ⟨l1, ls1r, rfl, qls1⟩ := lenS (n := q + 4) (l := ls0r) qls0
    obtain ⟨l2, ls2r, rfl, qls2⟩ := lenS (n := q + 3) (l := ls1r) qls1
    obtain ⟨l3, ls3r, rfl, qls3⟩ := lenS (n := q + 2) (l := ls2r) qls2
    obtain ⟨l4, ls4r, rfl, qls4⟩ := lenS (n := q + 1) (l := ls3r) qls3
    obtain ⟨l5, ls5r, rfl, qls5⟩ := lenS (n := q + 0) (l := ls4r) qls4
    exact p2 ih hk9 hks hl hO hL hn hn2 hK hR hBs
  · obtain ⟨q, hq⟩ : ∃ q, ls.length = q + 3 := ⟨ls.length - 3, by omega⟩
    obtain ⟨l0, ls0r, rfl, qls0⟩ := lenS (n := q + 2) (l := ls) hq
    obtain ⟨l1, ls1r, rfl, qls1⟩ := lenS (n := q + 1) (l := ls0r) qls0
    obtain ⟨l2, ls2r, rfl, qls2⟩ := lenS (n := q + 0) (l := ls1r) qls1
    exact p16 ih hk9 hks hl hO hL hn hn2 hK hR hBs
  · obtain ⟨q, hq⟩ : ∃ q, ls.length = q + 2 := ⟨ls.length - 2, by omega⟩
    obtain ⟨l0, ls0r, rfl, qls0⟩ := lenS (n := q + 1) (l := ls) hq
    obtain ⟨l1, ls1r, rfl, qls1⟩ := lenS (n := q + 0) (l := ls0r) qls0
    exact p18 ih hk9 hks hl hO hL hn hn2 hK hR hBs
  · obtain ⟨l0, ls0r, rfl, qls0⟩ := lenS (n := 2) (l := ls) (by omega)
    obtain ⟨l1, ls1r, rfl, qls1⟩ := lenS (n := 1) (l := ls0r) qls0
    obtain ⟨l2, ls2r, rfl, qls2⟩ := lenS (n := 0) (l := ls1r) qls1
    obtain rfl := len0 (l := ls2r) qls2
    obtain ⟨k0, ks0r, rfl, qks0⟩ := lenS (n := 0) (l := ks) (by omega)
    obtain rfl := len0 (l := ks0r) qks0
    exact p3 ih hks hl hO hL hn hn2 hK hR hBs
  · obtain ⟨l0, ls0r, rfl, qls0⟩ := lenS (n := 1) (l := ls) (by omega)
    obtain ⟨l1, ls1r, rfl, qls1⟩ := lenS (n := 0) (l := ls0r) qls0
    obtain rfl := len0 (l := ls1r) qls1
    obtain ⟨k0, ks0r, rfl, qks0⟩ := lenS (n := 0) (l := ks) (by omega)
    obtain rfl := len0 (l := ks0r) qks0
    exact p4 ih hks hl hO hL hn hn2 hK hR hBs
  · obtain ⟨l0, ls0r, rfl, qls0⟩ := lenS (n := 1) (l := ls) (by omega)
    obtain ⟨l1, ls1r, rfl, qls1⟩ := lenS (n := 0) (l := ls0r) qls0
    obtain rfl := len0 (l := ls1r) qls1
    obtain ⟨k0, ks0r, rfl, qks0⟩ := lenS (n := 0) (l := ks) (by omega)
    obtain rfl := len0 (l := ks0r) qks0
    exact p8 ih hks hl hO hL hn hn2 hK hR hBs
  · obtain ⟨l0, ls0r, rfl, qls0⟩ := lenS (n := 1) (l := ls) (by omega)
    obtain ⟨l1, ls1r, rfl, qls1⟩ := lenS (n := 0) (l := ls0r) qls0
    obtain rfl := len0 (l := ls1r) qls1
    obtain ⟨k0, ks0r, rfl, qks0⟩ := lenS (n := 0) (l := ks) (by omega)
    obtain rfl := len0 (l := ks0r) qks0
    exact p22 ih hks hl hO hL hn hn2 hK hR hBs
  · obtain rfl := len0 (l := ls) (by omega)
    obtain ⟨k0, ks0r, rfl, qks0⟩ := lenS (n := 0) (l := ks) (by omega)
    obtain rfl := len0 (l := ks0r) qks0
    exact p17 ih hks hl hO hL hn hn2 hK hR hBs
  · obtain ⟨l0, ls0r, rfl, qls0⟩ := lenS (n := 2) (l := ls) (by omega)
    obtain ⟨l1, ls1r, rfl, qls1⟩ := lenS (n := 1) (l := ls0r) qls0
    obtain ⟨l2, ls2r, rfl, qls2⟩ := lenS (n := 0) (l := ls1r) qls1
    obtain rfl := len0 (l := ls2r) qls2
    obtain ⟨k0, ks0r, rfl, qks0⟩ := lenS (n := 2) (l := ks) (by omega)
    obtain ⟨k1, ks1r, rfl, qks1⟩ := lenS (n := 1) (l := ks0r) qks0
    obtain ⟨k2, ks2r, rfl, qks2⟩ := lenS (n := 0) (l := ks1r) qks1
    obtain rfl := len0 (l := ks2r) qks2
    exact p19 ih hks hl hO hL hn hn2 hK hR hBs
  · obtain ⟨l0, ls0r, rfl, qls0⟩ := lenS (n := 3) (l := ls) (by omega)
    obtain ⟨l1, ls1r, rfl, qls1⟩ := lenS (n := 2) (l := ls0r) qls0
    obtain ⟨l2, ls2r, rfl, qls2⟩ := lenS (n := 1) (l := ls1r) qls1
    obtain ⟨l3, ls3r, rfl, qls3⟩ := lenS (n := 0) (l := ls2r) qls2
    obtain rfl := len0 (l := ls3r) qls3
    obtain ⟨k0, ks0r, rfl, qks0⟩ := lenS (n := 1) (l := ks) (by omega)
    obtain ⟨k1, ks1r, rfl, qks1⟩ := lenS (n := 0) (l := ks0r) qks0
    obtain rfl := len0 (l := ks1r) qks1
    exact p20 ih hks hl hO hL hn hn2 hK hR hBs
  · obtain ⟨l0, ls0r, rfl, qls0⟩ := lenS (n := 0) (l := ls) (by omega)
    obtain rfl := len0 (l := ls0r) qls0
    obtain ⟨k0, ks0r, rfl, qks0⟩ := lenS (n := 1) (l := ks) (by omega)
    obtain ⟨k1, ks1r, rfl, qks1⟩ := lenS (n := 0) (l := ks0r) qks0
    obtain rfl := len0 (l := ks1r) qks1
    exact p21 ih hks hl hO hL hn hn2 hK hR hBs
  · obtain ⟨l0, ls0r, rfl, qls0⟩ := lenS (n := 0) (l := ls) (by omega)
    obtain rfl := len0 (l := ls0r) qls0
    obtain rfl := len0 (l := ks) (by omega)
    rcases hk with rfl | rfl | rfl | rfl | rfl | rfl | rfl | rfl | rfl | rfl
    · exact p5 (N := N) hks hl hO hL hn hn2 hK hR hBs
    · exact p6 (N := N) hks hl hO hL hn hn2 hK hR hBs
    · exact p7 (N := N) hks hl hO hL hn hn2 hK hR hBs
    · exact pLeaf (N := N) (by decide) hks hl hO hL hn hn2 hK hR hBs
    · exact pLeaf (N := N) (by decide) hks hl hO hL hn hn2 hK hR hBs
    · exact pLeaf (N := N) (by decide) hks hl hO hL hn hn2 hK hR hBs
    · exact pLeaf (N := N) (by decide) hks hl hO hL hn hn2 hK hR hBs
    · exact p13 (N := N) hks hl hO hL hn hn2 hK hR hBs
    · exact p14 (N := N) hks hl hO hL hn hn2 hK hR hBs
    · exact p15 (N := N) hks hl hO hL hn hn2 hK hR hBs
theorem piecesR : ∀ N, PiecesOk N
  | 0 => fun t _ _ _ _ _ _ _ _ hN => by cases t; simp only [tsize] at hN; omega
  | N + 1 => pieces_step (piecesR N)
end Go.Proofs.Ythpjpngfghcmcaa
namespace Go.Proofs.Ythpjpngfghcmcaa
open Go.RowKit Lx Sx
def putC (s : WS) (p : Pc) : WS := putP p.1 p.2 s
def runC (ps : List Pc) (s : WS) : WS := ps.foldl putC s
def refTx (ps : List Pc) : List UInt8 := (runC ps ([], [])).2
theorem runC_app (a b : List Pc) (s : WS) : runC (a ++ b) s = runC b (runC a s) := by simp [runC]
theorem runC_nil (s : WS) : runC [] s = s := rfl
theorem runC_cons (p : Pc) (r : List Pc) (s : WS) : runC (p :: r) s = runC r (putP p.1 p.2 s) := rfl
def Same2 : List Tree → Prop
  | [] => True
  | t :: r => (∀ s, treeP t s = runC (pcsT t) s) ∧ Same2 r
theorem Same2.at_ : ∀ {ks : List Tree} {t : Tree}, Same2 ks → t ∈ ks → ∀ s, treeP t s = runC (pcsT t) s
  | u :: r, t, h, ht => by
    rcases List.mem_cons.1 ht with e | e
    · exact e ▸ h.1
    · exact Same2.at_ h.2 e
theorem same_list {ls : List (List UInt8)} {c : Nat} : ∀ (ks : List Tree) (i : Nat) (s : WS), Same2 ks → listP ls c (treesP ks) i s = runC (rowC ls c (pcsTs ks) i) s
  | [], i, s, _ => rfl
  | t :: r, i, s, h => by
    simp only [treesP, pcsTs, listP, rowC, runC_app]
    rw [h.1, same_list r (i + 1) _ h.2]
    split <;> rfl
theorem same_fold : ∀ (ks : List Tree) (s : WS), Same2 ks → (treesP ks).foldl (fun s f => f s) s = runC (pcsTs ks).flatten s
  | [], s, _ => rfl
  | t :: r, s, h => by
    simp only [treesP, pcsTs, List.foldl_cons, List.flatten_cons, runC_app]
    rw [h.1, same_fold r _ h.2]
theorem suits_ne1 {k : Int} {n i : Nat} {kk : Int} (h : suitsT k n i kk = true) : kk ≠ 1 := by
  rintro rfl
  unfold suitsT at h
  revert h
  repeat' split
  all_goals (intro h; simp [isExprB, isTypeB, isUnitB] at h)
theorem kids_ne1 {k : Int} {n : Nat} : ∀ {ks : List Tree} {i : Nat}, kidsT k n ks i = true → ∀ t, t ∈ ks → t.kind ≠ 1
  | u :: r, i, h, t, ht => by
    simp only [kidsT, Bool.and_eq_true] at h
    rcases List.mem_cons.1 ht with e | e
    · exact e ▸ suits_ne1 h.1.1
    · exact kids_ne1 h.2 t e
theorem rowC_len (ls : List (List UInt8)) (c : Nat) : ∀ (fs : List (List Pc)) (i : Nat), (rowC ls c fs i).length ≤ fs.length + fs.flatten.length
  | [], i => by simp [rowC]
  | f :: r, i => by
    have := rowC_len ls c r (i + 1)
    simp only [rowC, List.length_append, List.length_cons, List.flatten_cons]
    split <;> simp only [List.length_cons, List.length_nil] <;> omega
theorem glue_nil (a b : List UInt8) : glueT a b [] = b := by
  unfold glueT
  rw [if_neg]
  rintro ⟨_, _, h⟩
  rw [fusesT_no (.inr rfl)] at h; cases h
def FineC (t : Tree) : Prop := (t.kind ≠ 1 → ∀ s, treeP t s = runC (pcsT t) s) ∧ (∀ s, (treeP t s).2 = (runC (pcsT t) s).2) ∧ (pcsT t).length ≤ 10 * tbulk t
theorem fine_of {t : Tree} (h : ∀ s, treeP t s = runC (pcsT t) s) (h2 : (pcsT t).length ≤ 10 * tbulk t) : FineC t := ⟨fun _ => h, fun s => by rw [h], h2⟩
theorem flat_bulk : ∀ {ks : List Tree}, (∀ t, t ∈ ks → (pcsT t).length ≤ 10 * tbulk t) → (pcsTs ks).flatten.length ≤ 10 * kbulk ks
  | [], _ => by simp [pcsTs]
  | t :: r, h => by
    have h1 := h t (by simp)
    have h2 := flat_bulk (ks := r) (fun u hu => h u (by simp [hu]))
    simp only [pcsTs, List.flatten_cons, List.length_append, kbulk]; omega
theorem same_of : ∀ {ks : List Tree}, (∀ t, t ∈ ks → FineC t ∧ t.kind ≠ 1) → Same2 ks
  | [], _ => trivial
  | t :: r, h => ⟨(h t (by simp)).1.1 (h t (by simp)).2, same_of (fun u hu => h u (by simp [hu]))⟩
theorem pcs_fine : ∀ (N : Nat) (t : Tree), tsize t ≤ N → shapedT t = true → leadedT t = true → FineC t
  | 0, t, hN, _, _ => by cases t; simp only [tsize] at hN; omega
  | N + 1, .node k x ls ks, hN, hs, hld => by
    simp only [tsize] at hN
    simp only [shapedT, leadedT, Bool.and_eq_true, decide_eq_true_eq] at hs hld
    have hks : ∀ t, t ∈ ks → FineC t ∧ t.kind ≠ 1 := fun t ht => ⟨pcs_fine N t (by have := tsize_mem ht; omega) (kids_all hs.2 t ht) (leaded_of hld.2 ht), kids_ne1 hs.2 t ht⟩
    have hS := same_of hks
    have hF := flat_bulk (fun t ht => (hks t ht).1.2.2)
    have hkl := kbulk_len ks
    have hpl := pcsTs_length ks
    have hlsl := lsum_len ls
    have hkk := leads_kind hs.1.1
    have hll := hld.1.1
    clear hs hld hN
    rcases hkk with ⟨rfl, e⟩ | ⟨rfl, h0, e⟩ | ⟨rfl, e⟩ | ⟨rfl, h0, e⟩ | ⟨rfl, h0, e⟩ | ⟨rfl, h0, e⟩ | ⟨rfl, h0, e⟩ | ⟨rfl, h0, e⟩ | ⟨rfl, h0, e⟩ | ⟨rfl, h0, e⟩ | ⟨rfl, h0, e⟩ | ⟨rfl, h0, e⟩ | ⟨hk, h0, e⟩
    · refine ⟨fun h => absurd rfl h, fun s => ?_, ?_⟩
      · rw [treeP, pcsT]
        simp only [nodeP, defnP, nodeC]
        simp only [true_or, if_true, runC_app, runC_cons, runC_nil, same_fold ks _ hS, putP, glue_nil, List.append_nil]
      · rw [pcsT, tbulk]; simp only [nodeC, if_true, List.length_append, List.length_cons, List.length_nil]; omega
    · obtain ⟨qs, k0, k1, rfl⟩ : ∃ ps k0 k1, ks = ps ++ [k0, k1] := by
        refine ⟨ks.take (ks.length - 2), ks[ks.length - 2]'(by omega), ks[ks.length - 1]'(by omega), ?_⟩
        have e1 : ks = ks.take (ks.length - 2) ++ ks.drop (ks.length - 2) := (List.take_append_drop _ _).symm
        have e2 : ks.drop (ks.length - 2) = [ks[ks.length - 2]'(by omega), ks[ks.length - 1]'(by omega)] := by
          rw [List.drop_eq_getElem_cons (by omega : ks.length - 2 < ks.length)]
          congr 1
          have e3 : ks.length - 2 + 1 = ks.length - 1 := by omega
          rw [e3, List.drop_eq_getElem_cons (by omega : ks.length - 1 < ks.length), List.drop_of_length_le (by omega)]
        rw [← e2]; exact e1
      have hk0 := hS.at_ (t := k0) (by simp)
      have hk1 := hS.at_ (t := k1) (by simp)
      have hSq : Same2 qs := same_of (fun t ht => hks t (by simp [ht]))
      refine fine_of (fun s => ?_) ?_
      · rw [treeP, treesP_app, treesP, treesP, treesP, node2, pcsT, pcsTs_app, pcsTs, pcsTs, pcsTs, nodeC2]
        simp only [runC_app, runC_cons, runC_nil, same_list qs 0 _ hSq, hk0, hk1]
      · rw [pcsT, tbulk, pcsTs_app, pcsTs, pcsTs, pcsTs, nodeC2]
        have := rowC_len ls 6 (pcsTs qs) 0
        have e1 := pcsTs_length qs
        have hql : (qs ++ [k0, k1]).length = qs.length + 2 := by simp
        rw [pcsTs_app, pcsTs, pcsTs, pcsTs, List.flatten_append] at hF
        simp only [List.length_append, List.flatten_cons, List.flatten_nil, List.length_nil, List.length_cons, Nat.add_zero] at hF hkl ⊢
        omega
    · refine fine_of (fun s => ?_) ?_
      · rw [treeP, pcsT]
        simp only [nodeP, nodeC]
        simp [runC_app, runC_cons, runC_nil, same_list ks 0 _ hS]
      · have := rowC_len ls 3 (pcsTs ks) 0
        rw [pcsT, tbulk]; simp [nodeC]; simp at hF this; omega
    · refine fine_of (fun s => ?_) ?_
      · rw [treeP, pcsT]
        simp only [nodeP, nodeC]
        simp [runC_app, runC_cons, runC_nil, same_list ks 0 _ hS]
      · have := rowC_len ls 2 (pcsTs ks) 0
        rw [pcsT, tbulk]; simp [nodeC]; simp at hF this; omega
    · obtain ⟨l0, ls0r, rfl, qls0⟩ := lenS (n := 2) (l := ls) (by omega)
      obtain ⟨l1, ls1r, rfl, qls1⟩ := lenS (n := 1) (l := ls0r) qls0
      obtain ⟨l2, ls2r, rfl, qls2⟩ := lenS (n := 0) (l := ls1r) qls1
      obtain rfl := len0 (l := ls2r) qls2
      obtain ⟨k0, ks0r, rfl, qks0⟩ := lenS (n := 0) (l := ks) (by omega)
      obtain rfl := len0 (l := ks0r) qks0
      have hk0 := hS.at_ (t := k0) (by simp)
      refine fine_of (fun s => ?_) ?_
      · simp [treeP, treesP, nodeP, defnP, pcsT, pcsTs, nodeC, runC_app, runC_cons, runC_nil, hk0]
      · simp only [pcsTs, List.flatten_cons, List.flatten_nil, List.append_nil, List.length_append] at hF
        simp [pcsT, pcsTs, nodeC, tbulk]; (try simp only [List.length_nil] at hF); omega
    · obtain ⟨l0, ls0r, rfl, qls0⟩ := lenS (n := 1) (l := ls) (by omega)
      obtain ⟨l1, ls1r, rfl, qls1⟩ := lenS (n := 0) (l := ls0r) qls0
      obtain rfl := len0 (l := ls1r) qls1
      obtain ⟨k0, ks0r, rfl, qks0⟩ := lenS (n := 0) (l := ks) (by omega)
      obtain rfl := len0 (l := ks0r) qks0
      have hk0 := hS.at_ (t := k0) (by simp)
      refine fine_of (fun s => ?_) ?_
      · simp [treeP, treesP, nodeP, defnP, pcsT, pcsTs, nodeC, runC_app, runC_cons, runC_nil, hk0]
      · simp only [pcsTs, List.flatten_cons, List.flatten_nil, List.append_nil, List.length_append] at hF
        simp [pcsT, pcsTs, nodeC, tbulk]; (try simp only [List.length_nil] at hF); omega
    · obtain ⟨l0, ls0r, rfl, qls0⟩ := lenS (n := 1) (l := ls) (by omega)
      obtain ⟨l1, ls1r, rfl, qls1⟩ := lenS (n := 0) (l := ls0r) qls0
      obtain rfl := len0 (l := ls1r) qls1
      obtain ⟨k0, ks0r, rfl, qks0⟩ := lenS (n := 0) (l := ks) (by omega)
      obtain rfl := len0 (l := ks0r) qks0
      have hk0 := hS.at_ (t := k0) (by simp)
      refine fine_of (fun s => ?_) ?_
      · simp [treeP, treesP, nodeP, defnP, pcsT, pcsTs, nodeC, runC_app, runC_cons, runC_nil, hk0]
      · simp only [pcsTs, List.flatten_cons, List.flatten_nil, List.append_nil, List.length_append] at hF
        simp [pcsT, pcsTs, nodeC, tbulk]; (try simp only [List.length_nil] at hF); omega
    · obtain ⟨l0, ls0r, rfl, qls0⟩ := lenS (n := 1) (l := ls) (by omega)
      obtain ⟨l1, ls1r, rfl, qls1⟩ := lenS (n := 0) (l := ls0r) qls0
      obtain rfl := len0 (l := ls1r) qls1
      obtain ⟨k0, ks0r, rfl, qks0⟩ := lenS (n := 0) (l := ks) (by omega)
      obtain rfl := len0 (l := ks0r) qks0
      have hk0 := hS.at_ (t := k0) (by simp)
      refine fine_of (fun s => ?_) ?_
      · simp [treeP, treesP, nodeP, defnP, pcsT, pcsTs, nodeC, runC_app, runC_cons, runC_nil, hk0]
      · simp only [pcsTs, List.flatten_cons, List.flatten_nil, List.append_nil, List.length_append] at hF
        simp [pcsT, pcsTs, nodeC, tbulk]; (try simp only [List.length_nil] at hF); omega
    · obtain rfl := len0 (l := ls) (by omega)
      obtain ⟨k0, ks0r, rfl, qks0⟩ := lenS (n := 0) (l := ks) (by omega)
      obtain rfl := len0 (l := ks0r) qks0
      have hk0 := hS.at_ (t := k0) (by simp)
      refine fine_of (fun s => ?_) ?_
      · simp [treeP, treesP, nodeP, defnP, pcsT, pcsTs, nodeC, runC_app, runC_cons, runC_nil, hk0]
      · simp only [pcsTs, List.flatten_cons, List.flatten_nil, List.append_nil, List.length_append] at hF
        simp [pcsT, pcsTs, nodeC, tbulk]; (try simp only [List.length_nil] at hF); omega
    · obtain ⟨l0, ls0r, rfl, qls0⟩ := lenS (n := 2) (l := ls) (by omega)
      obtain ⟨l1, ls1r, rfl, qls1⟩ := lenS (n := 1) (l := ls0r) qls0
      obtain ⟨l2, ls2r, rfl, qls2⟩ := lenS (n := 0) (l := ls1r) qls1
      obtain rfl := len0 (l := ls2r) qls2
      obtain ⟨k0, ks0r, rfl, qks0⟩ := lenS (n := 2) (l := ks) (by omega)
      obtain ⟨k1, ks1r, rfl, qks1⟩ := lenS (n := 1) (l := ks0r) qks0
      obtain ⟨k2, ks2r, rfl, qks2⟩ := lenS (n := 0) (l := ks1r) qks1
      obtain rfl := len0 (l := ks2r) qks2
      have hk0 := hS.at_ (t := k0) (by simp)
      have hk1 := hS.at_ (t := k1) (by simp)
      have hk2 := hS.at_ (t := k2) (by simp)
      refine fine_of (fun s => ?_) ?_
      · simp [treeP, treesP, nodeP, defnP, pcsT, pcsTs, nodeC, runC_app, runC_cons, runC_nil, hk0, hk1, hk2]
      · simp only [pcsTs, List.flatten_cons, List.flatten_nil, List.append_nil, List.length_append] at hF
        simp [pcsT, pcsTs, nodeC, tbulk]; (try simp only [List.length_nil] at hF); omega
    · obtain ⟨l0, ls0r, rfl, qls0⟩ := lenS (n := 3) (l := ls) (by omega)
      obtain ⟨l1, ls1r, rfl, qls1⟩ := lenS (n := 2) (l := ls0r) qls0
      obtain ⟨l2, ls2r, rfl, qls2⟩ := lenS (n := 1) (l := ls1r) qls1
      obtain ⟨l3, ls3r, rfl, qls3⟩ := lenS (n := 0) (l := ls2r) qls2
      obtain rfl := len0 (l := ls3r) qls3
      obtain ⟨k0, ks0r, rfl, qks0⟩ := lenS (n := 1) (l := ks) (by omega)
      obtain ⟨k1, ks1r, rfl, qks1⟩ := lenS (n := 0) (l := ks0r) qks0
      obtain rfl := len0 (l := ks1r) qks1
      have hk0 := hS.at_ (t := k0) (by simp)
      have hk1 := hS.at_ (t := k1) (by simp)
      refine fine_of (fun s => ?_) ?_
      · simp [treeP, treesP, nodeP, defnP, pcsT, pcsTs, nodeC, runC_app, runC_cons, runC_nil, hk0, hk1]
      · simp only [pcsTs, List.flatten_cons, List.flatten_nil, List.append_nil, List.length_append] at hF
        simp [pcsT, pcsTs, nodeC, tbulk]; (try simp only [List.length_nil] at hF); omega
    · obtain ⟨l0, ls0r, rfl, qls0⟩ := lenS (n := 0) (l := ls) (by omega)
      obtain rfl := len0 (l := ls0r) qls0
      obtain ⟨k0, ks0r, rfl, qks0⟩ := lenS (n := 1) (l := ks) (by omega)
      obtain ⟨k1, ks1r, rfl, qks1⟩ := lenS (n := 0) (l := ks0r) qks0
      obtain rfl := len0 (l := ks1r) qks1
      have hk0 := hS.at_ (t := k0) (by simp)
      have hk1 := hS.at_ (t := k1) (by simp)
      refine fine_of (fun s => ?_) ?_
      · simp [treeP, treesP, nodeP, defnP, pcsT, pcsTs, nodeC, runC_app, runC_cons, runC_nil, hk0, hk1]
      · simp only [pcsTs, List.flatten_cons, List.flatten_nil, List.append_nil, List.length_append] at hF
        simp [pcsT, pcsTs, nodeC, tbulk]; (try simp only [List.length_nil] at hF); omega
    · obtain ⟨l0, ls0r, rfl, qls0⟩ := lenS (n := 0) (l := ls) (by omega)
      obtain rfl := len0 (l := ls0r) qls0
      obtain rfl := len0 (l := ks) (by omega)
      refine fine_of (fun s => ?_) ?_
      · rcases hk with rfl | rfl | rfl | rfl | rfl | rfl | rfl | rfl | rfl | rfl <;> simp [treeP, treesP, nodeP, pcsT, pcsTs, nodeC, singleT, runC_cons, runC_nil]
      · rcases hk with rfl | rfl | rfl | rfl | rfl | rfl | rfl | rfl | rfl | rfl <;> simp [pcsT, pcsTs, nodeC, tbulk] <;> omega
theorem text_pcs {t : Tree} (hs : shapedT t = true) (hl : leadedT t = true) : textT t = refTx (pcsT t) := (pcs_fine _ t (Nat.le_refl _) hs hl).2.1 _
end Go.Proofs.Ythpjpngfghcmcaa
namespace Go.Proofs.Ythpjpngfghcmcaa
open Go.RowKit Lx Sx
set_option maxRecDepth 100000
set_option maxHeartbeats 4000000
theorem ex_addSR {P : Program} {a : Act} {w : World} {n : Nat} {f : Nat → Option Value} {ty t u : TypeId} {x y : Operand} {m l r : List UInt8} (h : Fr a n f) (hx : valF f x = some (.string ⟨m.toArray⟩)) (hy : valF f y = some (.string ⟨l.toArray⟩)) (hl : m.length + l.length ≤ 9223372036854775807) (hr : m ++ l = r) : Runs P a ty (.binOp .add t x y u) w (.value (.string ⟨r.toArray⟩)) w := fun _ _ _ _ => by
  subst hr
  simp only [execOp, h.eval hx, h.eval hy]
  simp [go_sem, eqGuard, app_list, hl]
theorem pcC_at : ∀ {ps : List Pc} {i : Nat} (h : i < ps.length), (pcC ps)[i * 2]? = some (strV ps[i].1) ∧ (pcC ps)[i * 2 + 1]? = some (strV ps[i].2)
  | (a, b) :: r, 0, _ => ⟨rfl, rfl⟩
  | (a, b) :: r, i + 1, h => by
    have := pcC_at (ps := r) (i := i) (by simpa using h)
    simp only [pcC, show (i + 1) * 2 = i * 2 + 1 + 1 by omega, show i * 2 + 1 + 1 + 1 = i * 2 + 1 + 1 + 1 from rfl, List.getElem?_cons_succ, List.getElem_cons_succ]
    exact this
theorem runC_mono : ∀ (ps : List Pc) (s : WS), s.2.length ≤ (runC ps s).2.length
  | [], s => Nat.le_refl _
  | p :: r, s => by
    have := runC_mono r (putP p.1 p.2 s)
    rw [runC_cons]
    simp only [putP, List.length_append] at this ⊢
    first | done | omega
theorem runC_take {ps : List Pc} {i : Nat} (h : i < ps.length) (s : WS) : runC (ps.take (i + 1)) s = putP ps[i].1 ps[i].2 (runC (ps.take i) s) := by
  rw [List.take_succ_eq_append_getElem h, runC_app]; rfl
theorem runC_le (ps : List Pc) (i : Nat) (s : WS) : (runC (ps.take i) s).2.length ≤ (runC ps s).2.length := by
  have e : runC ps s = runC (ps.drop i) (runC (ps.take i) s) := by rw [← runC_app, List.take_append_drop]
  rw [e]; exact runC_mono _ _
theorem runC_last {ps : List Pc} {i : Nat} (h : i < ps.length) (h0 : 0 < i) (s : WS) : (runC (ps.take i) s).1 = (ps[i - 1]'(by omega)).2 := by
  obtain ⟨j, rfl⟩ : ∃ j, i = j + 1 := ⟨i - 1, by omega⟩
  rw [runC_take (by omega)]; rfl
theorem glue_lead {a b c : List UInt8} (h : b ≠ [] ∨ a = [] ∨ fusesT a c = false) : glueT a b c = b := by
  unfold glueT
  rw [if_neg]
  rintro ⟨h1, h2, h3⟩
  rcases h with h | h | h
  · exact h h1
  · exact h2 h
  · rw [h] at h3; cases h3
theorem glue_blank {a b c : List UInt8} (h1 : b = []) (h3 : fusesT a c = true) : glueT a b c = [32] := by
  unfold glueT
  exact if_pos ⟨h1, fun e => (by rw [e, fusesT_no (.inl rfl)] at h3; cases h3), h3⟩
theorem PiecesR {t : Tree} {S : Nat → Prop} {w : World} {c0 c1 c2 c3 : Value} (hf1 : (shapedT t && leadedT t && decide (tbulk t ≤ 1000000000)) = true) (hpl : (pcsT t).length ≤ 1000000000) (hT : TreeIs S w t [c0, c1, c2, c3]) : Calls Try.prog 35 [.agg #[c0, c1, c2, c3]].toArray w fun e w' => ∃ v1, e = .returned v1 ∧ Ow w.heap.size w' v1 (pcsT t) ∧ Chg [] w w' := by
  obtain ⟨hi0, ehi0⟩ : ∃ x, x = w.heap.size := ⟨_, rfl⟩
  replace hT := hT.keepB (S' := fun b => b < hi0) (fun b _ hb => by omega) (fun _ _ _ => rfl)
  obtain ⟨A0, m1, B0, m2, hc⟩ := hT.cellsR
  simp only [List.cons.injEq, and_true] at hc
  obtain ⟨rfl, rfl, rfl, rfl⟩ := hc
  rw [← ehi0]
  refine rE 5 Try.func35 rfl rfl rfl ?_
  intro a hf
  have hE := Chg.refl [] w
  refine rR 2 hf rfl fun a hf => ?_
  obtain ⟨w1, b2, he, hB3, hx4, eb5, lb6⟩ := ef_box (P := Try.prog) (t := 26) (x := (.tmp 0)) hf rfl rfl w 0
  refine rV hf rfl he fun a hf => ?_
  have ge_b2 := ge_new hE eb5
  replace hT := hT.t0 hx4
  replace hE := hE.t0 hx4
  clear eb5 lb6
  refine rR 5 hf rfl fun a hf => rV hf rfl (ex_loadBN (m := 4) hf rfl (by kernel_rfl) hB3 rfl) fun a hf => rC hf rfl rfl (by kernel_rfl) (piecesR _ t _ hi0 (.slice none 0 0) [] _ _ _ _ (Nat.le_refl _) hf1 (by simp only [List.length_nil]; omega) (World.ownsRow_nil _ _ _ _) hT (by have := hE.size; omega)) ?_
  rintro _ w8 ⟨v1, rfl, hO, hx7, _⟩
  refine ⟨_, rfl, fun a hf => ?_⟩
  replace hB3 := hB3.c0 hx7
  replace hT := hT.t0 hx7
  replace hE := hE.t0 hx7
  refine rR 4 hf rfl fun a hf => ?_
  exact rT (rs := [.tmp 2]) hf rfl ⟨_, _, rfl, rfl, rfl⟩ ⟨v1, rfl, by simpa using hO, hE⟩
theorem printR {t : Tree} {S : Nat → Prop} {w : World} {c0 c1 c2 c3 : Value} (hb : tbulk t ≤ 2000000) (hT : TreeIs S w t [c0, c1, c2, c3]) : Calls Try.prog 17 [.agg #[c0, c1, c2, c3]].toArray w fun e w' => e = .returned (strV (printT t)) ∧ Chg [] w w' := by
  replace hb : tbulk t ≤ 2000000 ∧ tbulk t ≤ 1000000000 := ⟨hb, by omega⟩
  obtain ⟨hb0, hb⟩ := hb
  obtain ⟨hi0, ehi0⟩ : ∃ x, x = w.heap.size := ⟨_, rfl⟩
  replace hT := hT.keepB (S' := fun b => b < hi0) (fun b _ hb => by omega) (fun _ _ _ => rfl)
  obtain ⟨A0, m1, B0, m2, hc⟩ := hT.cellsR
  simp only [List.cons.injEq, and_true] at hc
  obtain ⟨rfl, rfl, rfl, rfl⟩ := hc
  refine rE 57 Try.func17 rfl rfl rfl ?_
  intro a hf
  have hE := Chg.refl [] w
  refine rR 2 hf rfl ?_
  clear hf a; intro a hf
  obtain ⟨w1, b2, he, hB3, hx4, eb5, lb6⟩ := ef_box (P := Try.prog) (t := 26) (x := (.tmp 0)) hf rfl rfl w 0
  refine rV hf rfl he ?_
  clear he hf a; intro a hf
  have ge_b2 := ge_new hE eb5
  replace hT := hT.t0 hx4
  replace hE := hE.t0 hx4
  clear eb5 lb6
  refine rR 6 hf rfl ?_
  clear hf a; intro a hf
  refine rV hf rfl (ex_loadBN (m := 4) hf rfl (by kernel_rfl) hB3 rfl) ?_
  clear hf a; intro a hf
  rcases Bool.eq_false_or_eq_true ((shapedT t && leadedT t)) with hpb | hpb
  refine rC hf rfl rfl (by kernel_rfl) (bool_is (printableR hb hT) hpb) ?_
  rintro _ w8 ⟨rfl, hx7⟩
  refine ⟨_, rfl, ?_⟩
  clear hf a; intro a hf
  replace hB3 := hB3.c0 hx7
  replace hT := hT.t0 hx7
  replace hE := hE.t0 hx7
  refine rR 8 hf rfl ?_
  clear hf a; intro a hf
  refine rV hf rfl (ex_loadBN (m := 4) hf rfl (by kernel_rfl) hB3 rfl) ?_
  clear hf a; intro a hf
  have hsl := hpb
  rw [Bool.and_eq_true] at hsl
  have hfine := pcs_fine _ t (Nat.le_refl _) hsl.1 hsl.2
  have htx := text_pcs hsl.1 hsl.2
  have hgw := (Gw.tree _ t (Nat.le_refl _) hsl.2 ([], [])).1
  have htl : (refTx (pcsT t)).length ≤ 100 * tbulk t := by rw [← htx]; simpa [textT] using hgw
  have hpl := hfine.2.2
  refine rC hf rfl rfl (by kernel_rfl) (PiecesR (by rw [hpb]; simp; omega) (by omega) hT) ?_
  rintro _ w10 ⟨v1, rfl, hO, hx9⟩
  refine ⟨_, rfl, ?_⟩
  clear hf a; intro a hf
  obtain ⟨A, cc, rfl, _, _⟩ := own_slice hO
  have hRow := RowIn.of_own hO
  replace hB3 := hB3.c0 hx9
  replace hT := hT.t0 hx9
  replace hE := hE.t0 hx9
  refine rR 15 hf rfl ?_
  clear hf a; intro a hf
  have hF := Chg.refl [] w10
  refine rL (fun g a w' => ∃ i, Fr a 57 (fm [(3, .slice A (pcsT t).length cc), (4, strV (runC ((pcsT t).take i) ([], [])).2), (5, .int .i64 (i : Nat))]) ∧ Chg [] w10 w' ∧ i ≤ (pcsT t).length ∧ g = (pcsT t).length - i) _ ⟨0, hf.pick ⟨rfl, rfl, rfl, trivial⟩, hF, Nat.zero_le _, rfl⟩ ?_
  clear hf a hF
  intro g0 a w' hI
  obtain ⟨i, hf, hF, hi, rfl⟩ := hI
  by_cases hlt : i < (pcsT t).length
  obtain ⟨pb, po, rfl, _, hpb0, hpc⟩ := hRow.2 (by omega)
  obtain ⟨hat0, hat1⟩ := pcC_at hlt
  have hL : w'.cell? ⟨pb, po + i * 2, none⟩ = some (strV (pcsT t)[i].1) := by rw [hF.cell hpb0 nm0, hpc _ (by omega), hat0]
  have hX : w'.cell? ⟨pb, po + i * 2 + 1, none⟩ = some (strV (pcsT t)[i].2) := by rw [hF.cell hpb0 nm0, Nat.add_assoc, hpc _ (by omega), hat1]
  have lt_pb := hF.lt hpb0
  have lt_pb2 := lt_pb
  have lt_pb3 := lt_pb
  have hst := runC_take hlt ([], [])
  have hle1 := runC_le (pcsT t) (i + 1) ([], [])
  have hle2 : (runC (pcsT t) ([], [])).2.length ≤ 100 * tbulk t := htl
  obtain ⟨LE, eLE⟩ : ∃ z, z = (pcsT t)[i].1 := ⟨_, rfl⟩
  obtain ⟨TE, eTE⟩ : ∃ z, z = (pcsT t)[i].2 := ⟨_, rfl⟩
  rw [← eLE] at hL hst
  rw [← eTE] at hX hst
  by_cases hz0 : i = 0
  have hgl : glueT (runC ((pcsT t).take i) ([], [])).1 LE TE = LE := glue_lead (.inr (.inl (by subst hz0; rfl)))
  have hnx : (runC ((pcsT t).take (i + 1)) ([], [])).2 = (runC ((pcsT t).take i) ([], [])).2 ++ LE ++ TE := by rw [hst]; simp only [putP, hgl]
  have hnl := congrArg List.length hnx
  simp only [List.length_append, List.length_cons, List.length_nil] at hnl
  refine rR 5 hf rfl ?_
  clear hf a; intro a hf
  refine rV hf rfl (ex_len hf Try.underlying54 rfl) ?_
  clear hf a; intro a hf
  refine rV hf rfl (ex_ltI (c := true) hf rfl rfl (by simp; omega)) ?_
  clear hf a; intro a hf
  refine rR 9 hf rfl ?_
  clear hf a; intro a hf
  have s_hL := hL
  have s_hX := hX
  refine rD (fun x => True) 24 24 rfl (by kernel_rfl) (by kernel_rfl) ?_
  intro w11 hx12 hsel
  replace hL := (hx12.cell lt_pb nm0).trans hL
  replace lt_pb := hx12.lt lt_pb
  replace hX := (hx12.cell lt_pb2 nm0).trans hX
  replace lt_pb2 := hx12.lt lt_pb2
  replace hF := hF.t0 hx12
  have hS0 : True := trivial
  refine dR [0] hsel (by kernel_rfl) hf rfl rfl (.inl hS0) ?_
  clear hf a; intro a hf
  refine dV 1 rfl rfl hsel (by kernel_rfl) hf rfl (.inl hS0) (fun x => ex_gtI (c := false) hf rfl rfl (by simp <;> omega)) ?_
  clear hf a; intro a hf
  refine dR [2, 3, 4, 5, 6, 7, 8, 9, 10, 11, 12, 13, 14, 15, 16, 17, 18, 19, 20, 21, 22, 23] hsel (by kernel_rfl) hf rfl rfl (.inl hS0) ?_
  clear hf a; intro a hf
  refine rN (by kernel_rfl) ?_
  clear hS0 hsel
  refine rR 4 hf rfl ?_
  clear hf a; intro a hf
  have s_hL := hL
  have s_hX := hX
  refine rD (fun x => x.cell? ⟨pb, po + i * 2, none⟩ = w11.cell? ⟨pb, po + i * 2, none⟩ ∧ x.cell? ⟨pb, po + i * 2 + 1, none⟩ = w11.cell? ⟨pb, po + i * 2 + 1, none⟩) 14 14 rfl (by kernel_rfl) (by kernel_rfl) ?_
  intro w13 hx14 hsel
  replace hL := (hx14.cell lt_pb nm0).trans hL
  replace lt_pb := hx14.lt lt_pb
  replace hX := (hx14.cell lt_pb2 nm0).trans hX
  replace lt_pb2 := hx14.lt lt_pb2
  replace hF := hF.t0 hx14
  have hS0 : w13.cell? ⟨pb, po + i * 2, none⟩ = w11.cell? ⟨pb, po + i * 2, none⟩ ∧ w13.cell? ⟨pb, po + i * 2 + 1, none⟩ = w11.cell? ⟨pb, po + i * 2 + 1, none⟩ := ⟨(hL.trans s_hL.symm), (hX.trans s_hX.symm)⟩
  refine dR [0, 1, 2] hsel (by kernel_rfl) hf rfl rfl (.inl hS0) ?_
  clear hf a; intro a hf
  refine dV 3 rfl rfl hsel (by kernel_rfl) hf rfl (.inl hS0) (fun x => ex_index (sz := 2) (k := i) (r := po + i * 2) hf Try.underlying54 (by kernel_rfl) rfl rfl rfl hlt rfl) ?_
  clear hf a; intro a hf
  refine dR [4] hsel (by kernel_rfl) hf rfl rfl (.inl hS0) ?_
  clear hf a; intro a hf
  refine dL 5 rfl rfl hsel (by kernel_rfl) hf rfl hS0 (fun x hS => ex_load hf rfl (by kernel_rfl) (hS.1.trans s_hL)) ?_
  clear hf a; intro a hf
  refine dV 6 rfl rfl hsel (by kernel_rfl) hf rfl (.inl hS0) (fun x => ex_addSR hf rfl rfl (by (try simp only [List.length_append, List.length_cons, List.length_nil]); omega) rfl) ?_
  clear hf a; intro a hf
  refine dR [7, 8] hsel (by kernel_rfl) hf rfl rfl (.inl hS0) ?_
  clear hf a; intro a hf
  refine dV 9 rfl rfl hsel (by kernel_rfl) hf rfl (.inl hS0) (fun x => ex_index (sz := 2) (k := i) (r := po + i * 2) hf Try.underlying54 (by kernel_rfl) rfl rfl rfl hlt rfl) ?_
  clear hf a; intro a hf
  refine dR [10] hsel (by kernel_rfl) hf rfl rfl (.inl hS0) ?_
  clear hf a; intro a hf
  refine dL 11 rfl rfl hsel (by kernel_rfl) hf rfl hS0 (fun x hS => ex_load hf rfl (by kernel_rfl) (hS.2.trans s_hX)) ?_
  clear hf a; intro a hf
  refine dV 12 rfl rfl hsel (by kernel_rfl) hf rfl (.inl hS0) (fun x => ex_addSR hf rfl rfl (by (try simp only [List.length_append, List.length_cons, List.length_nil]); omega) rfl) ?_
  clear hf a; intro a hf
  refine dR [13] hsel (by kernel_rfl) hf rfl rfl (.inl hS0) ?_
  clear hf a; intro a hf
  refine rN (by kernel_rfl) ?_
  clear hS0 hsel
  refine rR 4 hf rfl ?_
  clear hf a; intro a hf
  refine rV hf rfl (ex_addI hf rfl rfl rfl (by omega)) ?_
  clear hf a; intro a hf
  refine rR 2 hf rfl ?_
  clear hf a; intro a hf
  have hfin := hnx
  exact rX ⟨_, (by omega : (pcsT t).length - (i + 1) < (pcsT t).length - i), i + 1, by rw [hfin]; exact hf.pick ⟨rfl, rfl, rfl, trivial⟩, hF, by omega, rfl⟩
  obtain ⟨_, hat2⟩ := pcC_at (show i - 1 < (pcsT t).length from by omega)
  have hla := runC_last hlt (by omega) ([], [])
  obtain ⟨PE, ePE⟩ : ∃ z, z = (pcsT t)[i - 1].2 := ⟨_, rfl⟩
  rw [← ePE] at hat2 hla
  have hY : w'.cell? ⟨pb, po + (i - 1) * 2 + 1, none⟩ = some (strV PE) := by rw [hF.cell hpb0 nm0, Nat.add_assoc, hpc _ (by omega), hat2]
  have hpe : PE.length ≤ 1000000000000 := by have h1 := runC_le (pcsT t) i ([], []); have h2 := runC_take (show i - 1 < (pcsT t).length from by omega) ([], []); rw [show i - 1 + 1 = i by omega] at h2; rw [h2] at h1; simp only [putP, List.length_append, ← ePE] at h1; omega
  by_cases hle0 : LE = []
  have hte : TE.length ≤ 1000000000000 := by rw [hst] at hle1; simp only [putP, List.length_append] at hle1; omega
  rcases Bool.eq_false_or_eq_true (fusesT PE TE) with hfu | hfu
  have hgl : glueT (runC ((pcsT t).take i) ([], [])).1 LE TE = [32] := glue_blank hle0 (by rw [hla]; exact hfu)
  have hnx : (runC ((pcsT t).take (i + 1)) ([], [])).2 = (runC ((pcsT t).take i) ([], [])).2 ++ [32] ++ TE := by rw [hst]; simp only [putP, hgl]
  have hnl := congrArg List.length hnx
  simp only [List.length_append, List.length_cons, List.length_nil] at hnl
  have hlz : LE.length = 0 := by rw [hle0]; rfl
  refine rR 5 hf rfl ?_
  clear hf a; intro a hf
  refine rV hf rfl (ex_len hf Try.underlying54 rfl) ?_
  clear hf a; intro a hf
  refine rV hf rfl (ex_ltI (c := true) hf rfl rfl (by simp; omega)) ?_
  clear hf a; intro a hf
  refine rR 9 hf rfl ?_
  clear hf a; intro a hf
  have s_hL := hL
  have s_hX := hX
  have s_hY := hY
  refine rD (fun x => x.cell? ⟨pb, po + i * 2, none⟩ = w'.cell? ⟨pb, po + i * 2, none⟩ ∧ x.cell? ⟨pb, po + (i - 1) * 2 + 1, none⟩ = w'.cell? ⟨pb, po + (i - 1) * 2 + 1, none⟩ ∧ x.cell? ⟨pb, po + i * 2 + 1, none⟩ = w'.cell? ⟨pb, po + i * 2 + 1, none⟩) 24 24 rfl (by kernel_rfl) (by kernel_rfl) ?_
  intro w15 hx16 hsel
  replace hL := (hx16.cell lt_pb nm0).trans hL
  replace lt_pb := hx16.lt lt_pb
  replace hX := (hx16.cell lt_pb2 nm0).trans hX
  replace lt_pb2 := hx16.lt lt_pb2
  replace hY := (hx16.cell lt_pb3 nm0).trans hY
  replace lt_pb3 := hx16.lt lt_pb3
  replace hF := hF.t0 hx16
  have hS0 : w15.cell? ⟨pb, po + i * 2, none⟩ = w'.cell? ⟨pb, po + i * 2, none⟩ ∧ w15.cell? ⟨pb, po + (i - 1) * 2 + 1, none⟩ = w'.cell? ⟨pb, po + (i - 1) * 2 + 1, none⟩ ∧ w15.cell? ⟨pb, po + i * 2 + 1, none⟩ = w'.cell? ⟨pb, po + i * 2 + 1, none⟩ := ⟨(hL.trans s_hL.symm), (hY.trans s_hY.symm), (hX.trans s_hX.symm)⟩
  refine dR [0] hsel (by kernel_rfl) hf rfl rfl (.inl hS0) ?_
  clear hf a; intro a hf
  refine dV 1 rfl rfl hsel (by kernel_rfl) hf rfl (.inl hS0) (fun x => ex_gtI (c := true) hf rfl rfl (by simp <;> omega)) ?_
  clear hf a; intro a hf
  refine dR [2, 3, 4] hsel (by kernel_rfl) hf rfl rfl (.inl hS0) ?_
  clear hf a; intro a hf
  refine dV 5 rfl rfl hsel (by kernel_rfl) hf rfl (.inl hS0) (fun x => ex_index (sz := 2) (k := i) (r := po + i * 2) hf Try.underlying54 (by kernel_rfl) rfl rfl rfl hlt rfl) ?_
  clear hf a; intro a hf
  refine dR [6] hsel (by kernel_rfl) hf rfl rfl (.inl hS0) ?_
  clear hf a; intro a hf
  refine dL 7 rfl rfl hsel (by kernel_rfl) hf rfl hS0 (fun x hS => ex_load hf rfl (by kernel_rfl) (hS.1.trans s_hL)) ?_
  clear hf a; intro a hf
  refine dV 8 rfl rfl hsel (by kernel_rfl) hf rfl (.inl hS0) (fun x => ex_eqS (c := true) hf rfl rfl (by simp [hle0])) ?_
  clear hf a; intro a hf
  refine dR [9, 10, 11, 12] hsel (by kernel_rfl) hf rfl rfl (.inl hS0) ?_
  clear hf a; intro a hf
  refine dV 13 rfl rfl hsel (by kernel_rfl) hf rfl (.inl hS0) (fun x => ex_subI hf rfl rfl rfl (by omega)) ?_
  clear hf a; intro a hf
  refine dV 14 rfl rfl hsel (by kernel_rfl) hf rfl (.inl hS0) (fun x => ex_index (sz := 2) (k := (i - 1)) (r := po + (i - 1) * 2) hf Try.underlying54 (by kernel_rfl) rfl rfl (by omega) (by omega) rfl) ?_
  clear hf a; intro a hf
  refine dR [15] hsel (by kernel_rfl) hf rfl rfl (.inl hS0) ?_
  clear hf a; intro a hf
  refine dL 16 rfl rfl hsel (by kernel_rfl) hf rfl hS0 (fun x hS => ex_load hf rfl (by kernel_rfl) (hS.2.1.trans s_hY)) ?_
  clear hf a; intro a hf
  refine dR [17, 18] hsel (by kernel_rfl) hf rfl rfl (.inl hS0) ?_
  clear hf a; intro a hf
  refine dV 19 rfl rfl hsel (by kernel_rfl) hf rfl (.inl hS0) (fun x => ex_index (sz := 2) (k := i) (r := po + i * 2) hf Try.underlying54 (by kernel_rfl) rfl rfl rfl hlt rfl) ?_
  clear hf a; intro a hf
  refine dR [20] hsel (by kernel_rfl) hf rfl rfl (.inl hS0) ?_
  clear hf a; intro a hf
  refine dL 21 rfl rfl hsel (by kernel_rfl) hf rfl hS0 (fun x hS => ex_load hf rfl (by kernel_rfl) (hS.2.2.trans s_hX)) ?_
  clear hf a; intro a hf
  refine dl_c 22 (by kernel_rfl) rfl hf rfl rfl rfl (by kernel_rfl) (bool_is (calls_ext (fusesR _ _ _ (by omega) (by omega))) hfu) ?_
  rintro _ w18 ⟨rfl, hx17⟩
  refine ⟨_, rfl, ?_⟩
  clear hf a; intro a hf
  replace hL := (hx17.cell lt_pb nm0).trans hL
  replace lt_pb := hx17.lt lt_pb
  replace hX := (hx17.cell lt_pb2 nm0).trans hX
  replace lt_pb2 := hx17.lt lt_pb2
  replace hY := (hx17.cell lt_pb3 nm0).trans hY
  replace lt_pb3 := hx17.lt lt_pb3
  replace hF := hF.t0 hx17
  clear hS0
  have hS0 : w18.cell? ⟨pb, po + i * 2, none⟩ = w'.cell? ⟨pb, po + i * 2, none⟩ ∧ w18.cell? ⟨pb, po + (i - 1) * 2 + 1, none⟩ = w'.cell? ⟨pb, po + (i - 1) * 2 + 1, none⟩ ∧ w18.cell? ⟨pb, po + i * 2 + 1, none⟩ = w'.cell? ⟨pb, po + i * 2 + 1, none⟩ := ⟨(hL.trans s_hL.symm), (hY.trans s_hY.symm), (hX.trans s_hX.symm)⟩
  refine ⟨.inl hS0, ?_⟩
  refine dR [23] hsel (by kernel_rfl) hf rfl rfl (.inl hS0) ?_
  clear hf a; intro a hf
  refine rN (by kernel_rfl) ?_
  clear hS0 hsel
  refine rR 4 hf rfl ?_
  clear hf a; intro a hf
  refine rV hf rfl (ex_addSR hf rfl rfl (by (try simp only [List.length_append, List.length_cons, List.length_nil]); omega) rfl) ?_
  clear hf a; intro a hf
  refine rR 3 hf rfl ?_
  clear hf a; intro a hf
  have s_hL := hL
  have s_hX := hX
  have s_hY := hY
  refine rD (fun x => x.cell? ⟨pb, po + i * 2, none⟩ = w18.cell? ⟨pb, po + i * 2, none⟩ ∧ x.cell? ⟨pb, po + i * 2 + 1, none⟩ = w18.cell? ⟨pb, po + i * 2 + 1, none⟩) 14 14 rfl (by kernel_rfl) (by kernel_rfl) ?_
  intro w19 hx20 hsel
  replace hL := (hx20.cell lt_pb nm0).trans hL
  replace lt_pb := hx20.lt lt_pb
  replace hX := (hx20.cell lt_pb2 nm0).trans hX
  replace lt_pb2 := hx20.lt lt_pb2
  replace hY := (hx20.cell lt_pb3 nm0).trans hY
  replace lt_pb3 := hx20.lt lt_pb3
  replace hF := hF.t0 hx20
  have hS0 : w19.cell? ⟨pb, po + i * 2, none⟩ = w18.cell? ⟨pb, po + i * 2, none⟩ ∧ w19.cell? ⟨pb, po + i * 2 + 1, none⟩ = w18.cell? ⟨pb, po + i * 2 + 1, none⟩ := ⟨(hL.trans s_hL.symm), (hX.trans s_hX.symm)⟩
  refine dR [0, 1, 2] hsel (by kernel_rfl) hf rfl rfl (.inl hS0) ?_
  clear hf a; intro a hf
  refine dV 3 rfl rfl hsel (by kernel_rfl) hf rfl (.inl hS0) (fun x => ex_index (sz := 2) (k := i) (r := po + i * 2) hf Try.underlying54 (by kernel_rfl) rfl rfl rfl hlt rfl) ?_
  clear hf a; intro a hf
  refine dR [4] hsel (by kernel_rfl) hf rfl rfl (.inl hS0) ?_
  clear hf a; intro a hf
  refine dL 5 rfl rfl hsel (by kernel_rfl) hf rfl hS0 (fun x hS => ex_load hf rfl (by kernel_rfl) (hS.1.trans s_hL)) ?_
  clear hf a; intro a hf
  refine dV 6 rfl rfl hsel (by kernel_rfl) hf rfl (.inl hS0) (fun x => ex_addSR hf rfl rfl (by (try simp only [List.length_append, List.length_cons, List.length_nil]); omega) rfl) ?_
  clear hf a; intro a hf
  refine dR [7, 8] hsel (by kernel_rfl) hf rfl rfl (.inl hS0) ?_
  clear hf a; intro a hf
  refine dV 9 rfl rfl hsel (by kernel_rfl) hf rfl (.inl hS0) (fun x => ex_index (sz := 2) (k := i) (r := po + i * 2) hf Try.underlying54 (by kernel_rfl) rfl rfl rfl hlt rfl) ?_
  clear hf a; intro a hf
  refine dR [10] hsel (by kernel_rfl) hf rfl rfl (.inl hS0) ?_
  clear hf a; intro a hf
  refine dL 11 rfl rfl hsel (by kernel_rfl) hf rfl hS0 (fun x hS => ex_load hf rfl (by kernel_rfl) (hS.2.trans s_hX)) ?_
  clear hf a; intro a hf
  refine dV 12 rfl rfl hsel (by kernel_rfl) hf rfl (.inl hS0) (fun x => ex_addSR hf rfl rfl (by (try simp only [List.length_append, List.length_cons, List.length_nil]); omega) rfl) ?_
  clear hf a; intro a hf
  refine dR [13] hsel (by kernel_rfl) hf rfl rfl (.inl hS0) ?_
  clear hf a; intro a hf
  refine rN (by kernel_rfl) ?_
  clear hS0 hsel
  refine rR 4 hf rfl ?_
  clear hf a; intro a hf
  refine rV hf rfl (ex_addI hf rfl rfl rfl (by omega)) ?_
  clear hf a; intro a hf
  refine rR 2 hf rfl ?_
  clear hf a; intro a hf
  have hfin : (runC ((pcsT t).take (i + 1)) ([], [])).2 = (runC ((pcsT t).take i) ([], [])).2 ++ [32] ++ LE ++ TE := by rw [hnx, hle0, List.append_nil]
  exact rX ⟨_, (by omega : (pcsT t).length - (i + 1) < (pcsT t).length - i), i + 1, by rw [hfin]; exact hf.pick ⟨rfl, rfl, rfl, trivial⟩, hF, by omega, rfl⟩
  have hgl : glueT (runC ((pcsT t).take i) ([], [])).1 LE TE = LE := glue_lead (.inr (.inr (by rw [hla]; exact hfu)))
  have hnx : (runC ((pcsT t).take (i + 1)) ([], [])).2 = (runC ((pcsT t).take i) ([], [])).2 ++ LE ++ TE := by rw [hst]; simp only [putP, hgl]
  have hnl := congrArg List.length hnx
  simp only [List.length_append, List.length_cons, List.length_nil] at hnl
  refine rR 5 hf rfl ?_
  clear hf a; intro a hf
  refine rV hf rfl (ex_len hf Try.underlying54 rfl) ?_
  clear hf a; intro a hf
  refine rV hf rfl (ex_ltI (c := true) hf rfl rfl (by simp; omega)) ?_
  clear hf a; intro a hf
  refine rR 9 hf rfl ?_
  clear hf a; intro a hf
  have s_hL := hL
  have s_hX := hX
  have s_hY := hY
  refine rD (fun x => x.cell? ⟨pb, po + i * 2, none⟩ = w'.cell? ⟨pb, po + i * 2, none⟩ ∧ x.cell? ⟨pb, po + (i - 1) * 2 + 1, none⟩ = w'.cell? ⟨pb, po + (i - 1) * 2 + 1, none⟩ ∧ x.cell? ⟨pb, po + i * 2 + 1, none⟩ = w'.cell? ⟨pb, po + i * 2 + 1, none⟩) 24 24 rfl (by kernel_rfl) (by kernel_rfl) ?_
  intro w21 hx22 hsel
  replace hL := (hx22.cell lt_pb nm0).trans hL
  replace lt_pb := hx22.lt lt_pb
  replace hX := (hx22.cell lt_pb2 nm0).trans hX
  replace lt_pb2 := hx22.lt lt_pb2
  replace hY := (hx22.cell lt_pb3 nm0).trans hY
  replace lt_pb3 := hx22.lt lt_pb3
  replace hF := hF.t0 hx22
  have hS0 : w21.cell? ⟨pb, po + i * 2, none⟩ = w'.cell? ⟨pb, po + i * 2, none⟩ ∧ w21.cell? ⟨pb, po + (i - 1) * 2 + 1, none⟩ = w'.cell? ⟨pb, po + (i - 1) * 2 + 1, none⟩ ∧ w21.cell? ⟨pb, po + i * 2 + 1, none⟩ = w'.cell? ⟨pb, po + i * 2 + 1, none⟩ := ⟨(hL.trans s_hL.symm), (hY.trans s_hY.symm), (hX.trans s_hX.symm)⟩
  refine dR [0] hsel (by kernel_rfl) hf rfl rfl (.inl hS0) ?_
  clear hf a; intro a hf
  refine dV 1 rfl rfl hsel (by kernel_rfl) hf rfl (.inl hS0) (fun x => ex_gtI (c := true) hf rfl rfl (by simp <;> omega)) ?_
  clear hf a; intro a hf
  refine dR [2, 3, 4] hsel (by kernel_rfl) hf rfl rfl (.inl hS0) ?_
  clear hf a; intro a hf
  refine dV 5 rfl rfl hsel (by kernel_rfl) hf rfl (.inl hS0) (fun x => ex_index (sz := 2) (k := i) (r := po + i * 2) hf Try.underlying54 (by kernel_rfl) rfl rfl rfl hlt rfl) ?_
  clear hf a; intro a hf
  refine dR [6] hsel (by kernel_rfl) hf rfl rfl (.inl hS0) ?_
  clear hf a; intro a hf
  refine dL 7 rfl rfl hsel (by kernel_rfl) hf rfl hS0 (fun x hS => ex_load hf rfl (by kernel_rfl) (hS.1.trans s_hL)) ?_
  clear hf a; intro a hf
  refine dV 8 rfl rfl hsel (by kernel_rfl) hf rfl (.inl hS0) (fun x => ex_eqS (c := true) hf rfl rfl (by simp [hle0])) ?_
  clear hf a; intro a hf
  refine dR [9, 10, 11, 12] hsel (by kernel_rfl) hf rfl rfl (.inl hS0) ?_
  clear hf a; intro a hf
  refine dV 13 rfl rfl hsel (by kernel_rfl) hf rfl (.inl hS0) (fun x => ex_subI hf rfl rfl rfl (by omega)) ?_
  clear hf a; intro a hf
  refine dV 14 rfl rfl hsel (by kernel_rfl) hf rfl (.inl hS0) (fun x => ex_index (sz := 2) (k := (i - 1)) (r := po + (i - 1) * 2) hf Try.underlying54 (by kernel_rfl) rfl rfl (by omega) (by omega) rfl) ?_
  clear hf a; intro a hf
  refine dR [15] hsel (by kernel_rfl) hf rfl rfl (.inl hS0) ?_
  clear hf a; intro a hf
  refine dL 16 rfl rfl hsel (by kernel_rfl) hf rfl hS0 (fun x hS => ex_load hf rfl (by kernel_rfl) (hS.2.1.trans s_hY)) ?_
  clear hf a; intro a hf
  refine dR [17, 18] hsel (by kernel_rfl) hf rfl rfl (.inl hS0) ?_
  clear hf a; intro a hf
  refine dV 19 rfl rfl hsel (by kernel_rfl) hf rfl (.inl hS0) (fun x => ex_index (sz := 2) (k := i) (r := po + i * 2) hf Try.underlying54 (by kernel_rfl) rfl rfl rfl hlt rfl) ?_
  clear hf a; intro a hf
  refine dR [20] hsel (by kernel_rfl) hf rfl rfl (.inl hS0) ?_
  clear hf a; intro a hf
  refine dL 21 rfl rfl hsel (by kernel_rfl) hf rfl hS0 (fun x hS => ex_load hf rfl (by kernel_rfl) (hS.2.2.trans s_hX)) ?_
  clear hf a; intro a hf
  refine dl_c 22 (by kernel_rfl) rfl hf rfl rfl rfl (by kernel_rfl) (bool_is (calls_ext (fusesR _ _ _ (by omega) (by omega))) hfu) ?_
  rintro _ w24 ⟨rfl, hx23⟩
  refine ⟨_, rfl, ?_⟩
  clear hf a; intro a hf
  replace hL := (hx23.cell lt_pb nm0).trans hL
  replace lt_pb := hx23.lt lt_pb
  replace hX := (hx23.cell lt_pb2 nm0).trans hX
  replace lt_pb2 := hx23.lt lt_pb2
  replace hY := (hx23.cell lt_pb3 nm0).trans hY
  replace lt_pb3 := hx23.lt lt_pb3
  replace hF := hF.t0 hx23
  clear hS0
  have hS0 : w24.cell? ⟨pb, po + i * 2, none⟩ = w'.cell? ⟨pb, po + i * 2, none⟩ ∧ w24.cell? ⟨pb, po + (i - 1) * 2 + 1, none⟩ = w'.cell? ⟨pb, po + (i - 1) * 2 + 1, none⟩ ∧ w24.cell? ⟨pb, po + i * 2 + 1, none⟩ = w'.cell? ⟨pb, po + i * 2 + 1, none⟩ := ⟨(hL.trans s_hL.symm), (hY.trans s_hY.symm), (hX.trans s_hX.symm)⟩
  refine ⟨.inl hS0, ?_⟩
  refine dR [23] hsel (by kernel_rfl) hf rfl rfl (.inl hS0) ?_
  clear hf a; intro a hf
  refine rN (by kernel_rfl) ?_
  clear hS0 hsel
  refine rR 4 hf rfl ?_
  clear hf a; intro a hf
  have s_hL := hL
  have s_hX := hX
  have s_hY := hY
  refine rD (fun x => x.cell? ⟨pb, po + i * 2, none⟩ = w24.cell? ⟨pb, po + i * 2, none⟩ ∧ x.cell? ⟨pb, po + i * 2 + 1, none⟩ = w24.cell? ⟨pb, po + i * 2 + 1, none⟩) 14 14 rfl (by kernel_rfl) (by kernel_rfl) ?_
  intro w25 hx26 hsel
  replace hL := (hx26.cell lt_pb nm0).trans hL
  replace lt_pb := hx26.lt lt_pb
  replace hX := (hx26.cell lt_pb2 nm0).trans hX
  replace lt_pb2 := hx26.lt lt_pb2
  replace hY := (hx26.cell lt_pb3 nm0).trans hY
  replace lt_pb3 := hx26.lt lt_pb3
  replace hF := hF.t0 hx26
  have hS0 : w25.cell? ⟨pb, po + i * 2, none⟩ = w24.cell? ⟨pb, po + i * 2, none⟩ ∧ w25.cell? ⟨pb, po + i * 2 + 1, none⟩ = w24.cell? ⟨pb, po + i * 2 + 1, none⟩ := ⟨(hL.trans s_hL.symm), (hX.trans s_hX.symm)⟩
  refine dR [0, 1, 2] hsel (by kernel_rfl) hf rfl rfl (.inl hS0) ?_
  clear hf a; intro a hf
  refine dV 3 rfl rfl hsel (by kernel_rfl) hf rfl (.inl hS0) (fun x => ex_index (sz := 2) (k := i) (r := po + i * 2) hf Try.underlying54 (by kernel_rfl) rfl rfl rfl hlt rfl) ?_
  clear hf a; intro a hf
  refine dR [4] hsel (by kernel_rfl) hf rfl rfl (.inl hS0) ?_
  clear hf a; intro a hf
  refine dL 5 rfl rfl hsel (by kernel_rfl) hf rfl hS0 (fun x hS => ex_load hf rfl (by kernel_rfl) (hS.1.trans s_hL)) ?_
  clear hf a; intro a hf
  refine dV 6 rfl rfl hsel (by kernel_rfl) hf rfl (.inl hS0) (fun x => ex_addSR hf rfl rfl (by (try simp only [List.length_append, List.length_cons, List.length_nil]); omega) rfl) ?_
  clear hf a; intro a hf
  refine dR [7, 8] hsel (by kernel_rfl) hf rfl rfl (.inl hS0) ?_
  clear hf a; intro a hf
  refine dV 9 rfl rfl hsel (by kernel_rfl) hf rfl (.inl hS0) (fun x => ex_index (sz := 2) (k := i) (r := po + i * 2) hf Try.underlying54 (by kernel_rfl) rfl rfl rfl hlt rfl) ?_
  clear hf a; intro a hf
  refine dR [10] hsel (by kernel_rfl) hf rfl rfl (.inl hS0) ?_
  clear hf a; intro a hf
  refine dL 11 rfl rfl hsel (by kernel_rfl) hf rfl hS0 (fun x hS => ex_load hf rfl (by kernel_rfl) (hS.2.trans s_hX)) ?_
  clear hf a; intro a hf
  refine dV 12 rfl rfl hsel (by kernel_rfl) hf rfl (.inl hS0) (fun x => ex_addSR hf rfl rfl (by (try simp only [List.length_append, List.length_cons, List.length_nil]); omega) rfl) ?_
  clear hf a; intro a hf
  refine dR [13] hsel (by kernel_rfl) hf rfl rfl (.inl hS0) ?_
  clear hf a; intro a hf
  refine rN (by kernel_rfl) ?_
  clear hS0 hsel
  refine rR 4 hf rfl ?_
  clear hf a; intro a hf
  refine rV hf rfl (ex_addI hf rfl rfl rfl (by omega)) ?_
  clear hf a; intro a hf
  refine rR 2 hf rfl ?_
  clear hf a; intro a hf
  have hfin := hnx
  exact rX ⟨_, (by omega : (pcsT t).length - (i + 1) < (pcsT t).length - i), i + 1, by rw [hfin]; exact hf.pick ⟨rfl, rfl, rfl, trivial⟩, hF, by omega, rfl⟩
  have hgl : glueT (runC ((pcsT t).take i) ([], [])).1 LE TE = LE := glue_lead (.inl hle0)
  have hnx : (runC ((pcsT t).take (i + 1)) ([], [])).2 = (runC ((pcsT t).take i) ([], [])).2 ++ LE ++ TE := by rw [hst]; simp only [putP, hgl]
  have hnl := congrArg List.length hnx
  simp only [List.length_append, List.length_cons, List.length_nil] at hnl
  refine rR 5 hf rfl ?_
  clear hf a; intro a hf
  refine rV hf rfl (ex_len hf Try.underlying54 rfl) ?_
  clear hf a; intro a hf
  refine rV hf rfl (ex_ltI (c := true) hf rfl rfl (by simp; omega)) ?_
  clear hf a; intro a hf
  refine rR 9 hf rfl ?_
  clear hf a; intro a hf
  have s_hL := hL
  have s_hX := hX
  have s_hY := hY
  refine rD (fun x => x.cell? ⟨pb, po + i * 2, none⟩ = w'.cell? ⟨pb, po + i * 2, none⟩) 24 24 rfl (by kernel_rfl) (by kernel_rfl) ?_
  intro w27 hx28 hsel
  replace hL := (hx28.cell lt_pb nm0).trans hL
  replace lt_pb := hx28.lt lt_pb
  replace hX := (hx28.cell lt_pb2 nm0).trans hX
  replace lt_pb2 := hx28.lt lt_pb2
  replace hY := (hx28.cell lt_pb3 nm0).trans hY
  replace lt_pb3 := hx28.lt lt_pb3
  replace hF := hF.t0 hx28
  have hS0 : w27.cell? ⟨pb, po + i * 2, none⟩ = w'.cell? ⟨pb, po + i * 2, none⟩ := (hL.trans s_hL.symm)
  refine dR [0] hsel (by kernel_rfl) hf rfl rfl (.inl hS0) ?_
  clear hf a; intro a hf
  refine dV 1 rfl rfl hsel (by kernel_rfl) hf rfl (.inl hS0) (fun x => ex_gtI (c := true) hf rfl rfl (by simp <;> omega)) ?_
  clear hf a; intro a hf
  refine dR [2, 3, 4] hsel (by kernel_rfl) hf rfl rfl (.inl hS0) ?_
  clear hf a; intro a hf
  refine dV 5 rfl rfl hsel (by kernel_rfl) hf rfl (.inl hS0) (fun x => ex_index (sz := 2) (k := i) (r := po + i * 2) hf Try.underlying54 (by kernel_rfl) rfl rfl rfl hlt rfl) ?_
  clear hf a; intro a hf
  refine dR [6] hsel (by kernel_rfl) hf rfl rfl (.inl hS0) ?_
  clear hf a; intro a hf
  refine dL 7 rfl rfl hsel (by kernel_rfl) hf rfl hS0 (fun x hS => ex_load hf rfl (by kernel_rfl) (hS.trans s_hL)) ?_
  clear hf a; intro a hf
  refine dV 8 rfl rfl hsel (by kernel_rfl) hf rfl (.inl hS0) (fun x => ex_eqS (c := false) hf rfl rfl (by simp [hle0])) ?_
  clear hf a; intro a hf
  refine dR [9, 10, 11, 12, 13, 14, 15, 16, 17, 18, 19, 20, 21, 22, 23] hsel (by kernel_rfl) hf rfl rfl (.inl hS0) ?_
  clear hf a; intro a hf
  refine rN (by kernel_rfl) ?_
  clear hS0 hsel
  refine rR 4 hf rfl ?_
  clear hf a; intro a hf
  have s_hL := hL
  have s_hX := hX
  have s_hY := hY
  refine rD (fun x => x.cell? ⟨pb, po + i * 2, none⟩ = w27.cell? ⟨pb, po + i * 2, none⟩ ∧ x.cell? ⟨pb, po + i * 2 + 1, none⟩ = w27.cell? ⟨pb, po + i * 2 + 1, none⟩) 14 14 rfl (by kernel_rfl) (by kernel_rfl) ?_
  intro w29 hx30 hsel
  replace hL := (hx30.cell lt_pb nm0).trans hL
  replace lt_pb := hx30.lt lt_pb
  replace hX := (hx30.cell lt_pb2 nm0).trans hX
  replace lt_pb2 := hx30.lt lt_pb2
  replace hY := (hx30.cell lt_pb3 nm0).trans hY
  replace lt_pb3 := hx30.lt lt_pb3
  replace hF := hF.t0 hx30
  have hS0 : w29.cell? ⟨pb, po + i * 2, none⟩ = w27.cell? ⟨pb, po + i * 2, none⟩ ∧ w29.cell? ⟨pb, po + i * 2 + 1, none⟩ = w27.cell? ⟨pb, po + i * 2 + 1, none⟩ := ⟨(hL.trans s_hL.symm), (hX.trans s_hX.symm)⟩
  refine dR [0, 1, 2] hsel (by kernel_rfl) hf rfl rfl (.inl hS0) ?_
  clear hf a; intro a hf
  refine dV 3 rfl rfl hsel (by kernel_rfl) hf rfl (.inl hS0) (fun x => ex_index (sz := 2) (k := i) (r := po + i * 2) hf Try.underlying54 (by kernel_rfl) rfl rfl rfl hlt rfl) ?_
  clear hf a; intro a hf
  refine dR [4] hsel (by kernel_rfl) hf rfl rfl (.inl hS0) ?_
  clear hf a; intro a hf
  refine dL 5 rfl rfl hsel (by kernel_rfl) hf rfl hS0 (fun x hS => ex_load hf rfl (by kernel_rfl) (hS.1.trans s_hL)) ?_
  clear hf a; intro a hf
  refine dV 6 rfl rfl hsel (by kernel_rfl) hf rfl (.inl hS0) (fun x => ex_addSR hf rfl rfl (by (try simp only [List.length_append, List.length_cons, List.length_nil]); omega) rfl) ?_
  clear hf a; intro a hf
  refine dR [7, 8] hsel (by kernel_rfl) hf rfl rfl (.inl hS0) ?_
  clear hf a; intro a hf
  refine dV 9 rfl rfl hsel (by kernel_rfl) hf rfl (.inl hS0) (fun x => ex_index (sz := 2) (k := i) (r := po + i * 2) hf Try.underlying54 (by kernel_rfl) rfl rfl rfl hlt rfl) ?_
  clear hf a; intro a hf
  refine dR [10] hsel (by kernel_rfl) hf rfl rfl (.inl hS0) ?_
  clear hf a; intro a hf
  refine dL 11 rfl rfl hsel (by kernel_rfl) hf rfl hS0 (fun x hS => ex_load hf rfl (by kernel_rfl) (hS.2.trans s_hX)) ?_
  clear hf a; intro a hf
  refine dV 12 rfl rfl hsel (by kernel_rfl) hf rfl (.inl hS0) (fun x => ex_addSR hf rfl rfl (by (try simp only [List.length_append, List.length_cons, List.length_nil]); omega) rfl) ?_
  clear hf a; intro a hf
  refine dR [13] hsel (by kernel_rfl) hf rfl rfl (.inl hS0) ?_
  clear hf a; intro a hf
  refine rN (by kernel_rfl) ?_
  clear hS0 hsel
  refine rR 4 hf rfl ?_
  clear hf a; intro a hf
  refine rV hf rfl (ex_addI hf rfl rfl rfl (by omega)) ?_
  clear hf a; intro a hf
  refine rR 2 hf rfl ?_
  clear hf a; intro a hf
  have hfin := hnx
  exact rX ⟨_, (by omega : (pcsT t).length - (i + 1) < (pcsT t).length - i), i + 1, by rw [hfin]; exact hf.pick ⟨rfl, rfl, rfl, trivial⟩, hF, by omega, rfl⟩
  have hal : (pcsT t).take i = pcsT t := List.take_of_length_le (by omega)
  rw [hal] at hf
  replace hE := hE.t0 hF
  refine rR 5 hf rfl ?_
  clear hf a; intro a hf
  refine rV hf rfl (ex_len hf Try.underlying54 rfl) ?_
  clear hf a; intro a hf
  refine rV hf rfl (ex_ltI (c := false) hf rfl rfl (by simp; omega)) ?_
  clear hf a; intro a hf
  refine rR 5 hf rfl ?_
  clear hf a; intro a hf
  refine rO ?_
  refine rR 9 hf rfl ?_
  clear hf a; intro a hf
  exact rT (rs := [.tmp 2]) hf rfl ⟨_, _, rfl, rfl, rfl⟩ ⟨ret_s (by unfold printT; rw [hpb]; exact htx), hE⟩
  refine rC hf rfl rfl (by kernel_rfl) (bool_is (printableR hb hT) hpb) ?_
  rintro _ w31 ⟨rfl, hx7⟩
  refine ⟨_, rfl, ?_⟩
  clear hf a; intro a hf
  replace hB3 := hB3.c0 hx7
  replace hT := hT.t0 hx7
  replace hE := hE.t0 hx7
  refine rR 11 hf rfl ?_
  clear hf a; intro a hf
  exact rT (rs := [.tmp 2]) hf rfl ⟨_, _, rfl, rfl, rfl⟩ ⟨ret_s (by unfold printT; rw [hpb]; rfl), hE⟩
end Go.Proofs.Ythpjpngfghcmcaa
namespace Go.Proofs.Ythpjpngfghcmcaa
open Go.RowKit Lx Sx
set_option maxRecDepth 100000
set_option maxHeartbeats 4000000
theorem validT_eq (t : Tree) : validT t = ((shapedT t && leadedT t) && smallT t && decide ((depthT t : Int) ≤ 40) && decide (((printT t).length : Int) ≤ 4096)) := by
  unfold validT printT
  cases h : (shapedT t && leadedT t)
  · rfl
  · simp only [Bool.true_and, if_true]
    congr 1
    · congr 1; exact decide_eq_decide.2 (by omega)
    · exact decide_eq_decide.2 (by omega)
theorem validR {t : Tree} {S : Nat → Prop} {w : World} {c0 c1 c2 c3 : Value} (hb : tbulk t ≤ 2000000) (hT : TreeIs S w t [c0, c1, c2, c3]) : Calls Try.prog 25 [.agg #[c0, c1, c2, c3]].toArray w fun e w' => e = .returned (.bool (validT t)) ∧ Chg [] w w' := by
  replace hb : tbulk t ≤ 2000000 ∧ tbulk t ≤ 1000000000 := ⟨hb, by omega⟩
  obtain ⟨hb0, hb⟩ := hb
  obtain ⟨hi0, ehi0⟩ : ∃ x, x = w.heap.size := ⟨_, rfl⟩
  replace hT := hT.keepB (S' := fun b => b < hi0) (fun b _ hb => by omega) (fun _ _ _ => rfl)
  obtain ⟨A0, m1, B0, m2, hc⟩ := hT.cellsR
  simp only [List.cons.injEq, and_true] at hc
  obtain ⟨rfl, rfl, rfl, rfl⟩ := hc
  refine rE 20 Try.func25 rfl rfl rfl ?_
  intro a hf
  have hE := Chg.refl [] w
  refine rR 2 hf rfl fun a hf => ?_
  obtain ⟨w1, b2, he, hB3, hx4, eb5, lb6⟩ := ef_box (P := Try.prog) (t := 26) (x := (.tmp 0)) hf rfl rfl w 0
  refine rV hf rfl he fun a hf => ?_
  have ge_b2 := ge_new hE eb5
  replace hT := hT.t0 hx4
  replace hE := hE.t0 hx4
  clear eb5 lb6
  refine rR 5 hf rfl fun a hf => rV hf rfl (ex_loadBN (m := 4) hf rfl (by kernel_rfl) hB3 rfl) fun a hf => ?_
  rcases Bool.eq_false_or_eq_true ((shapedT t && leadedT t)) with hpb | hpb
  refine rC hf rfl rfl (by kernel_rfl) (bool_is (printableR hb hT) hpb) ?_
  rintro _ w8 ⟨rfl, hx7⟩
  refine ⟨_, rfl, fun a hf => ?_⟩
  replace hB3 := hB3.c0 hx7
  replace hT := hT.t0 hx7
  replace hE := hE.t0 hx7
  refine rR 1 hf rfl fun a hf => rV hf rfl (ex_loadBN (m := 4) hf rfl (by kernel_rfl) hB3 rfl) fun a hf => ?_
  rcases Bool.eq_false_or_eq_true (smallT t) with hlm | hlm
  refine rC hf rfl rfl (by kernel_rfl) (bool_is (limitsR _ _ _ _ _ _ _ _ (Nat.le_refl _) hb hT) hlm) ?_
  rintro _ w10 ⟨rfl, hx9⟩
  refine ⟨_, rfl, fun a hf => ?_⟩
  replace hB3 := hB3.c0 hx9
  replace hT := hT.t0 hx9
  replace hE := hE.t0 hx9
  refine rR 2 hf rfl fun a hf => rV hf rfl (ex_loadBN (m := 4) hf rfl (by kernel_rfl) hB3 rfl) fun a hf => rC hf rfl rfl (by kernel_rfl) (depthR _ _ _ _ _ _ _ _ (Nat.le_refl _) hb hT) ?_
  rintro _ w12 ⟨rfl, hx11⟩
  refine ⟨_, rfl, fun a hf => ?_⟩
  replace hB3 := hB3.c0 hx11
  replace hT := hT.t0 hx11
  replace hE := hE.t0 hx11
  refine rB hf rfl (fun c hc => ex_leI hf rfl rfl hc) ?_ ?_
  clear hf a; intro h12 a hf
  refine rR 2 hf rfl fun a hf => rV hf rfl (ex_loadBN (m := 4) hf rfl (by kernel_rfl) hB3 rfl) fun a hf => rC hf rfl rfl (by kernel_rfl) (printR hb0 hT) ?_
  rintro _ w14 ⟨rfl, hx13⟩
  refine ⟨_, rfl, fun a hf => ?_⟩
  replace hB3 := hB3.c0 hx13
  replace hT := hT.t0 hx13
  replace hE := hE.t0 hx13
  refine rV hf rfl (ex_lenS hf Try.underlying9 rfl) fun a hf => rB hf rfl (fun c hc => ex_leI hf rfl rfl hc) ?_ ?_
  clear hf a; intro h18 a hf
  refine rR 5 hf rfl fun a hf => ?_
  -- PATH hpb hlm h12 h18
  exact rT (rs := [.tmp 2]) hf rfl ⟨_, _, rfl, rfl, rfl⟩ ⟨ret_b (by simp [validT_eq, -Bool.and_eq_true, -Bool.and_eq_false_imp, hpb, hlm, h12, h18]), hE⟩
  clear hf a; intro h18 a hf
  refine rR 5 hf rfl fun a hf => ?_
  -- PATH hpb hlm h12 h18
  exact rT (rs := [.tmp 2]) hf rfl ⟨_, _, rfl, rfl, rfl⟩ ⟨ret_b (by simp [validT_eq, -Bool.and_eq_true, -Bool.and_eq_false_imp, hpb, hlm, h12, h18]), hE⟩
  clear hf a; intro h12 a hf
  refine rR 11 hf rfl fun a hf => ?_
  -- PATH hpb hlm h12
  exact rT (rs := [.tmp 2]) hf rfl ⟨_, _, rfl, rfl, rfl⟩ ⟨ret_b (by simp [validT_eq, -Bool.and_eq_true, -Bool.and_eq_false_imp, hpb, hlm, h12]), hE⟩
  refine rC hf rfl rfl (by kernel_rfl) (bool_is (limitsR _ _ _ _ _ _ _ _ (Nat.le_refl _) hb hT) hlm) ?_
  rintro _ w15 ⟨rfl, hx9⟩
  refine ⟨_, rfl, fun a hf => ?_⟩
  replace hB3 := hB3.c0 hx9
  replace hT := hT.t0 hx9
  replace hE := hE.t0 hx9
  refine rR 16 hf rfl fun a hf => ?_
  -- PATH hpb hlm
  exact rT (rs := [.tmp 2]) hf rfl ⟨_, _, rfl, rfl, rfl⟩ ⟨ret_b (by simp [validT_eq, -Bool.and_eq_true, -Bool.and_eq_false_imp, hpb, hlm]), hE⟩
  refine rC hf rfl rfl (by kernel_rfl) (bool_is (printableR hb hT) hpb) ?_
  rintro _ w16 ⟨rfl, hx7⟩
  refine ⟨_, rfl, fun a hf => ?_⟩
  replace hB3 := hB3.c0 hx7
  replace hT := hT.t0 hx7
  replace hE := hE.t0 hx7
  refine rR 19 hf rfl fun a hf => ?_
  -- PATH hpb
  exact rT (rs := [.tmp 2]) hf rfl ⟨_, _, rfl, rfl, rfl⟩ ⟨ret_b (by simp [validT_eq, -Bool.and_eq_true, -Bool.and_eq_false_imp, hpb]), hE⟩
end Go.Proofs.Ythpjpngfghcmcaa
namespace Go.Proofs.Ythpjpngfghcmcaa
open Go.RowKit Lx Sx
set_option maxRecDepth 100000
set_option maxHeartbeats 4000000
theorem shapesV {t : Tree} {S : Nat → Prop} {w : World} {c0 c1 c2 c3 : Value} (hb : tbulk t ≤ 2000000) (hT : TreeIs S w t [c0, c1, c2, c3]) : Calls Try.prog 9 [.agg #[c0, c1, c2, c3]].toArray w fun e w' => e = .returned (.bool true) ∧ Ext w w' := by
  replace hb : tbulk t ≤ 2000000 ∧ tbulk t ≤ 1000000000 := ⟨hb, by omega⟩
  obtain ⟨hb0, hb⟩ := hb
  obtain ⟨hi0, ehi0⟩ : ∃ x, x = w.heap.size := ⟨_, rfl⟩
  replace hT := hT.keepB (S' := fun b => b < hi0) (fun b _ hb => by omega) (fun _ _ _ => rfl)
  obtain ⟨A0, m1, B0, m2, hc⟩ := hT.cellsR
  simp only [List.cons.injEq, and_true] at hc
  obtain ⟨rfl, rfl, rfl, rfl⟩ := hc
  refine rE 22 Try.func9 rfl rfl rfl ?_
  intro a hf
  have hE := Chg.refl [] w
  refine rR 2 hf rfl fun a hf => ?_
  obtain ⟨w1, b2, he, hB3, hx4, eb5, lb6⟩ := ef_box (P := Try.prog) (t := 26) (x := (.tmp 0)) hf rfl rfl w 0
  refine rV hf rfl he fun a hf => ?_
  have ge_b2 := ge_new hE eb5
  replace hT := hT.t0 hx4
  replace hE := hE.t0 hx4
  clear eb5 lb6
  refine rR 6 hf rfl fun a hf => rV hf rfl (ex_loadBN (m := 4) hf rfl (by kernel_rfl) hB3 rfl) fun a hf => rC hf rfl rfl (by kernel_rfl) (sizeR _ _ _ _ _ _ _ _ (Nat.le_refl _) hb hT) ?_
  rintro _ w8 ⟨rfl, hx7⟩
  refine ⟨_, rfl, fun a hf => ?_⟩
  replace hB3 := hB3.c0 hx7
  replace hT := hT.t0 hx7
  replace hE := hE.t0 hx7
  refine rB hf rfl (fun c hc => ex_gtI hf rfl rfl hc) ?_ ?_
  clear hf a; intro h5 a hf
  refine rR 5 hf rfl fun a hf => rC hf rfl rfl (by kernel_rfl) (awakeV) ?_
  rintro _ w10 ⟨rfl, hx9⟩
  refine ⟨_, rfl, fun a hf => ?_⟩
  replace hB3 := hB3.c0 hx9
  replace hT := hT.t0 hx9
  replace hE := hE.t0 hx9
  refine rR 5 hf rfl fun a hf => ?_
  exact rT (rs := [.tmp 2]) hf rfl ⟨_, _, rfl, rfl, rfl⟩ ⟨rfl, hE.ext⟩
  clear hf a; intro h5 a hf
  refine rR 6 hf rfl fun a hf => ?_
  have s_hB3 := hB3
  refine rD (fun x => x.cell? ⟨b2, 0, none⟩ = w8.cell? ⟨b2, 0, none⟩ ∧ x.cell? ⟨b2, 1, none⟩ = w8.cell? ⟨b2, 1, none⟩ ∧ x.cell? ⟨b2, 2, none⟩ = w8.cell? ⟨b2, 2, none⟩ ∧ x.cell? ⟨b2, 3, none⟩ = w8.cell? ⟨b2, 3, none⟩) 16 16 rfl (by kernel_rfl) (by kernel_rfl) ?_
  intro w11 hx12 hsel
  replace hB3 := hB3.c0 hx12
  replace hT := hT.t0 hx12
  replace hE := hE.t0 hx12
  have hS0 : w11.cell? ⟨b2, 0, none⟩ = w8.cell? ⟨b2, 0, none⟩ ∧ w11.cell? ⟨b2, 1, none⟩ = w8.cell? ⟨b2, 1, none⟩ ∧ w11.cell? ⟨b2, 2, none⟩ = w8.cell? ⟨b2, 2, none⟩ ∧ w11.cell? ⟨b2, 3, none⟩ = w8.cell? ⟨b2, 3, none⟩ := ⟨(hB3.cell 0).trans (s_hB3.cell 0).symm, (hB3.cell 1).trans (s_hB3.cell 1).symm, (hB3.cell 2).trans (s_hB3.cell 2).symm, (hB3.cell 3).trans (s_hB3.cell 3).symm⟩
  refine dl_c 0 (by kernel_rfl) rfl hf rfl rfl rfl (by kernel_rfl) (awakeV) ?_
  rintro _ w14 ⟨rfl, hx13⟩
  refine ⟨_, rfl, fun a hf => ?_⟩
  replace hB3 := hB3.c0 hx13
  replace hT := hT.t0 hx13
  replace hE := hE.t0 hx13
  clear hS0
  have hS0 : w14.cell? ⟨b2, 0, none⟩ = w8.cell? ⟨b2, 0, none⟩ ∧ w14.cell? ⟨b2, 1, none⟩ = w8.cell? ⟨b2, 1, none⟩ ∧ w14.cell? ⟨b2, 2, none⟩ = w8.cell? ⟨b2, 2, none⟩ ∧ w14.cell? ⟨b2, 3, none⟩ = w8.cell? ⟨b2, 3, none⟩ := ⟨(hB3.cell 0).trans (s_hB3.cell 0).symm, (hB3.cell 1).trans (s_hB3.cell 1).symm, (hB3.cell 2).trans (s_hB3.cell 2).symm, (hB3.cell 3).trans (s_hB3.cell 3).symm⟩
  refine ⟨.inl hS0, ?_⟩
  refine dR [1] hsel (by kernel_rfl) hf rfl rfl (.inl hS0) fun a hf => dL 2 rfl rfl hsel (by kernel_rfl) hf rfl hS0 (fun x hS => ex_loadX4 hf rfl (by kernel_rfl) s_hB3 rfl hS.1 hS.2.1 hS.2.2.1 hS.2.2.2) fun a hf => dL 4 rfl rfl hsel (by kernel_rfl) hf rfl hS0 (fun x hS => ex_loadX4 hf rfl (by kernel_rfl) s_hB3 rfl hS.1 hS.2.1 hS.2.2.1 hS.2.2.2) fun a hf => dl_c 3 (by kernel_rfl) rfl hf rfl rfl rfl (by kernel_rfl) (shapedL _ _ _ _ _ _ _ _ (Nat.le_refl _) hb hT) ?_
  rintro _ w16 ⟨rfl, hx15⟩
  refine ⟨_, rfl, fun a hf => ?_⟩
  replace hB3 := hB3.c0 hx15
  replace hT := hT.t0 hx15
  replace hE := hE.t0 hx15
  clear hS0
  have hS0 : w16.cell? ⟨b2, 0, none⟩ = w8.cell? ⟨b2, 0, none⟩ ∧ w16.cell? ⟨b2, 1, none⟩ = w8.cell? ⟨b2, 1, none⟩ ∧ w16.cell? ⟨b2, 2, none⟩ = w8.cell? ⟨b2, 2, none⟩ ∧ w16.cell? ⟨b2, 3, none⟩ = w8.cell? ⟨b2, 3, none⟩ := ⟨(hB3.cell 0).trans (s_hB3.cell 0).symm, (hB3.cell 1).trans (s_hB3.cell 1).symm, (hB3.cell 2).trans (s_hB3.cell 2).symm, (hB3.cell 3).trans (s_hB3.cell 3).symm⟩
  refine ⟨.inl hS0, ?_⟩
  refine dl_c 5 (by kernel_rfl) rfl hf rfl rfl rfl (by kernel_rfl) (shapedR _ _ _ _ _ _ _ _ (Nat.le_refl _) hb hT) ?_
  rintro _ w18 ⟨rfl, hx17⟩
  refine ⟨_, rfl, fun a hf => ?_⟩
  replace hB3 := hB3.c0 hx17
  replace hT := hT.t0 hx17
  replace hE := hE.t0 hx17
  clear hS0
  have hS0 : w18.cell? ⟨b2, 0, none⟩ = w8.cell? ⟨b2, 0, none⟩ ∧ w18.cell? ⟨b2, 1, none⟩ = w8.cell? ⟨b2, 1, none⟩ ∧ w18.cell? ⟨b2, 2, none⟩ = w8.cell? ⟨b2, 2, none⟩ ∧ w18.cell? ⟨b2, 3, none⟩ = w8.cell? ⟨b2, 3, none⟩ := ⟨(hB3.cell 0).trans (s_hB3.cell 0).symm, (hB3.cell 1).trans (s_hB3.cell 1).symm, (hB3.cell 2).trans (s_hB3.cell 2).symm, (hB3.cell 3).trans (s_hB3.cell 3).symm⟩
  refine ⟨.inl hS0, ?_⟩
  refine dV 6 rfl rfl hsel (by kernel_rfl) hf rfl (.inl hS0) (fun x => ex_eqB Try.underlying4 (c := true) hf rfl rfl (by simp)) fun a hf => dR [7, 8] hsel (by kernel_rfl) hf rfl rfl (.inl hS0) fun a hf => dL 9 rfl rfl hsel (by kernel_rfl) hf rfl hS0 (fun x hS => ex_loadX4 hf rfl (by kernel_rfl) s_hB3 rfl hS.1 hS.2.1 hS.2.2.1 hS.2.2.2) fun a hf => dL 11 rfl rfl hsel (by kernel_rfl) hf rfl hS0 (fun x hS => ex_loadX4 hf rfl (by kernel_rfl) s_hB3 rfl hS.1 hS.2.1 hS.2.2.1 hS.2.2.2) fun a hf => dl_c 10 (by kernel_rfl) rfl hf rfl rfl rfl (by kernel_rfl) (validL hb hT) ?_
  rintro _ w20 ⟨rfl, hx19⟩
  refine ⟨_, rfl, fun a hf => ?_⟩
  replace hB3 := hB3.c0 hx19
  replace hT := hT.t0 hx19
  replace hE := hE.t0 hx19
  clear hS0
  have hS0 : w20.cell? ⟨b2, 0, none⟩ = w8.cell? ⟨b2, 0, none⟩ ∧ w20.cell? ⟨b2, 1, none⟩ = w8.cell? ⟨b2, 1, none⟩ ∧ w20.cell? ⟨b2, 2, none⟩ = w8.cell? ⟨b2, 2, none⟩ ∧ w20.cell? ⟨b2, 3, none⟩ = w8.cell? ⟨b2, 3, none⟩ := ⟨(hB3.cell 0).trans (s_hB3.cell 0).symm, (hB3.cell 1).trans (s_hB3.cell 1).symm, (hB3.cell 2).trans (s_hB3.cell 2).symm, (hB3.cell 3).trans (s_hB3.cell 3).symm⟩
  refine ⟨.inl hS0, ?_⟩
  refine dl_c 12 (by kernel_rfl) rfl hf rfl rfl rfl (by kernel_rfl) (validR hb0 hT) ?_
  rintro _ w22 ⟨rfl, hx21⟩
  refine ⟨_, rfl, fun a hf => ?_⟩
  replace hB3 := hB3.c0 hx21
  replace hT := hT.t0 hx21
  replace hE := hE.t0 hx21
  clear hS0
  have hS0 : w22.cell? ⟨b2, 0, none⟩ = w8.cell? ⟨b2, 0, none⟩ ∧ w22.cell? ⟨b2, 1, none⟩ = w8.cell? ⟨b2, 1, none⟩ ∧ w22.cell? ⟨b2, 2, none⟩ = w8.cell? ⟨b2, 2, none⟩ ∧ w22.cell? ⟨b2, 3, none⟩ = w8.cell? ⟨b2, 3, none⟩ := ⟨(hB3.cell 0).trans (s_hB3.cell 0).symm, (hB3.cell 1).trans (s_hB3.cell 1).symm, (hB3.cell 2).trans (s_hB3.cell 2).symm, (hB3.cell 3).trans (s_hB3.cell 3).symm⟩
  refine ⟨.inl hS0, ?_⟩
  refine dV 13 rfl rfl hsel (by kernel_rfl) hf rfl (.inl hS0) (fun x => ex_eqB Try.underlying4 (c := true) hf rfl rfl (by simp)) fun a hf => dR [14, 15] hsel (by kernel_rfl) hf rfl rfl (.inl hS0) fun a hf => rN (by kernel_rfl) ?_
  clear hS0 hsel
  refine rR 2 hf rfl fun a hf => ?_
  exact rT (rs := [.tmp 2]) hf rfl ⟨_, _, rfl, rfl, rfl⟩ ⟨rfl, hE.ext⟩
end Go.Proofs.Ythpjpngfghcmcaa
namespace Go.Proofs.Ythpjpngfghcmcaa
open Go.RowKit Lx Sx Go.ChangeShapes Go.WideShapes Go.Deep Go.Joins
instance : Inhabited Tree := ⟨zeroTree⟩
theorem cellsTreeO : Try.prog.cellsOf 26 = 4 := by kernel_rfl
theorem cellsIntT : Try.prog.cellsOf 3 = 1 := by kernel_rfl
theorem cellsStrT : Try.prog.cellsOf 9 = 1 := by kernel_rfl
theorem cellsSlS : Try.prog.cellsOf 23 = 1 := by kernel_rfl
theorem cellsSlT : Try.prog.cellsOf 24 = 1 := by kernel_rfl
theorem list_four {α : Type} {l : List α} (h : l.length = 4) : ∃ a b c d, l = [a, b, c, d] := by
  match l, h with
  | [a, b, c, d], _ => exact ⟨a, b, c, d, rfl⟩
theorem flat_at {α : Type} {c : Nat → List α} : ∀ (l : List Nat) (i r : Nat), (∀ j ∈ l, (c j).length = 4) → r < 4 → (l.flatMap c)[i * 4 + r]? = (l[i]?).bind fun j => (c j)[r]?
  | [], i, r, _, _ => by simp
  | j :: l, 0, r, h, hr => by
    have := h j (by simp)
    rw [List.flatMap_cons, List.getElem?_append_left (by omega)]; simp
  | j :: l, i + 1, r, h, hr => by
    have h4 := h j (by simp)
    rw [List.flatMap_cons, List.getElem?_append_right (by omega), show (i + 1) * 4 + r - (c j).length = i * 4 + r by omega, flat_at l i r (fun q hq => h q (by simp [hq])) hr]; simp
theorem agg_four {v a b c d : Value} (h : v.cells = #[a, b, c, d]) : v = .agg #[a, b, c, d] := by
  cases v <;> simp_all [Value.cells]
section
variable {H : Type} {enc : TypeId × Value → H} {W : World}
theorem addr_at (b off k : Nat) : (⟨b, off, none⟩ : Addr).add k = ⟨b, off + k, none⟩ := by unfold Addr.add; split <;> simp_all
theorem kbulk_map {g : Nat → Tree} {D : Nat → DataW H} : ∀ (l : List Nat), (∀ i ∈ l, tbulk (g i) ≤ Rows.uptoBulk (D i)) → kbulk (l.map g) ≤ Rows.uptoBulkAll (l.map D)
  | [], _ => by simp [kbulk, Rows.uptoBulkAll]
  | i :: l, h => by
    have := kbulk_map l (fun j hj => h j (by simp [hj]))
    have := h i (by simp)
    simp only [List.map_cons, kbulk, Rows.uptoBulkAll]; omega
theorem lsum_map {g : Nat → List UInt8} {D : Nat → DataW H} : ∀ (l : List Nat), (∀ i ∈ l, D i = .lit (.string (g i))) → lsum (l.map g) ≤ Rows.uptoBulkAll (l.map D)
  | [], _ => by simp [lsum, Rows.uptoBulkAll]
  | i :: l, h => by
    have := lsum_map l (fun j hj => h j (by simp [hj]))
    have := h i (by simp)
    simp only [List.map_cons, lsum, Rows.uptoBulkAll, this, Rows.uptoBulk]; omega
theorem kids_map {g : Nat → Tree} {c : Nat → List Value} : ∀ (l : List Nat), (∀ i ∈ l, TreeIs Any W (g i) (c i)) → KidsAre Any W (l.map g) (l.flatMap c)
  | [], _ => rfl
  | i :: l, h => by
    simp only [List.map_cons, List.flatMap_cons, KidsAre]
    exact ⟨c i, l.flatMap c, rfl, h i (by simp), kids_map l (fun j hj => h j (by simp [hj]))⟩
theorem strs_of {n : Nat} {v : Value} {x : DataW H × List MemPlace} (h : DataW.trod enc Try.prog W 0 (fun _ => true) true n 23 [v] = some x) :
    ∃ (ls : List (List UInt8)) (A : Option Addr) (m : Nat), v = .slice A ls.length m ∧ ls.length ≤ m ∧ m ≤ maxLen ∧ RowIn Any W 1 A ls.length (ls.map strV) ∧ lsum ls ≤ Rows.uptoBulk x.1 := by
  rcases open_slice Try.underlying23 h with ⟨hcs, hx⟩ | ⟨a, len, cap, m, n', D, Pl, hcs, hb, hl, hm, hmm, hx, hi⟩
  · simp only [List.cons.injEq, and_true] at hcs
    exact ⟨[], none, 0, hcs, Nat.le_refl _, by simp [maxLen], RowIn.none_, by simp [lsum]⟩
  · simp only [List.cons.injEq, and_true] at hcs
    simp only [if_true] at hmm
    subst hmm hcs
    rw [cellsStrT] at hi
    obtain ⟨T, hT⟩ := choose_lt (α := List UInt8) (p := fun i t => W.cell? (a.add i) = some (strV t) ∧ D i = .lit (.string t)) (n := m) (fun i him => by
      obtain ⟨cs', hc, ht⟩ := hi i him
      obtain ⟨s, e1, f1, _⟩ := DataW.trod_string Try.underlying9 ht
      subst e1
      refine ⟨s.data.toList, ?_, by have := congrArg Prod.fst f1; simpa using this⟩
      have := (World.cells?_some hc).2.2 0 (by omega)
      simpa [Addr.add] using this)
    refine ⟨(List.range len).map T, some a, m, by simp, by simpa using hl, hm, ⟨by simp, fun h0 => ?_⟩, ?_⟩
    · simp only [List.length_map, List.length_range] at h0 ⊢
      have hs : a.spot = none := World.cell?_spot (a := a) (by have := (hT 0 (by omega)).1; simpa [Addr.add] using this)
      obtain ⟨b, off, spot⟩ := a
      simp only at hs
      subst hs
      refine ⟨b, off, rfl, trivial, ?_, fun j hj => ?_⟩
      · have := (hT 0 (by omega)).1
        exact World.block_lt_of_cell? W ⟨b, off, none⟩ (by simpa [Addr.add] using this)
      · have := (hT j (by omega)).1
        rw [addr_at] at this
        rw [this]; simp [show j < len by omega]
    · rw [hx]
      have := lsum_map (g := T) (D := D) (List.range len) (fun i hi' => (hT i (by have := List.mem_range.1 hi'; omega)).2)
      simp only [Rows.uptoBulk]; omega
theorem tree_of : ∀ (q n : Nat) (cs : List Value) (x : DataW H × List MemPlace), Rows.uptoBulk x.1 ≤ q → DataW.trod enc Try.prog W 0 (fun _ => true) true n 26 cs = some x → ∃ t, TreeIs Any W t cs ∧ tbulk t ≤ Rows.uptoBulk x.1
  | q, n, cs, x, hq, h => by
    obtain ⟨y0, y1, y2, y3, n', hx, hl, h0, h1, h2, h3⟩ := trod_struct4 Try.underlying26 h
    rw [cellsTreeO] at hl
    obtain ⟨v0, v1, v2, v3, rfl⟩ := list_four hl
    simp only [cellsIntT, cellsStrT, cellsSlS, cellsSlT, List.drop_zero, List.drop_succ_cons, List.take_succ_cons, List.take_zero] at h0 h1 h2 h3
    obtain ⟨k, e0, f0, _⟩ := DataW.trod_int Try.underlying3 h0
    obtain ⟨s1, e1, f1, _⟩ := DataW.trod_string Try.underlying9 h1
    obtain ⟨ls, A, m, e2, l1, l2, l3, l4⟩ := strs_of h2
    simp only [List.cons.injEq, and_true] at e0 e1
    have hbk : Rows.uptoBulk x.1 = Rows.uptoBulk y0.1 + (Rows.uptoBulk y1.1 + (Rows.uptoBulk y2.1 + (Rows.uptoBulk y3.1 + 0))) + 1 := by rw [hx]; simp only [Rows.uptoBulk, Rows.uptoBulkAll]
    have hs1 : Rows.uptoBulk y1.1 = s1.data.toList.length + 1 := by
      have : y1.1 = .lit (.string s1.data.toList) := by rw [f1]
      rw [this]; rfl
    have go : ∃ (ks : List Tree) (B : Option Addr) (c : Nat) (cells : List Value), v3 = .slice B ks.length c ∧ ks.length ≤ c ∧ c ≤ maxLen ∧ KidsAre Any W ks cells ∧ RowIn Any W 4 B ks.length cells ∧ kbulk ks ≤ Rows.uptoBulk y3.1 := by
      rcases open_slice Try.underlying24 h3 with ⟨hcs, hx3⟩ | ⟨a, len, cap, m3, n3, D, Pl, hcs, hb, hl3, hm3, hmm, hx3, hi⟩
      · simp only [List.cons.injEq, and_true] at hcs
        exact ⟨[], none, 0, [], hcs, Nat.le_refl _, by simp [maxLen], rfl, RowIn.none_, by simp [kbulk]⟩
      · simp only [List.cons.injEq, and_true] at hcs
        simp only [if_true] at hmm
        subst hmm hcs
        rw [cellsTreeO] at hi
        have hall : Rows.uptoBulk y3.1 = Rows.uptoBulkAll ((List.range len).map D) + Rows.uptoBulkAll ((List.range (m3 - len)).map fun j => D (len + j)) + 1 := by rw [hx3]; simp only [Rows.uptoBulk]
        have hle : ∀ (l : List Nat) i, i ∈ l → Rows.uptoBulk (D i) ≤ Rows.uptoBulkAll (l.map D) := by
          intro l i hi'
          induction l with
          | nil => cases hi'
          | cons j r ih =>
            simp only [List.map_cons, Rows.uptoBulkAll]
            rcases List.mem_cons.1 hi' with e | e
            · subst e; omega
            · have := ih e; omega
        obtain ⟨T, hT⟩ := choose_lt (α := Tree × List Value) (p := fun i t => i < len → W.cells? 0 (a.add (i * 4)) 4 = some t.2 ∧ TreeIs Any W t.1 t.2 ∧ tbulk t.1 ≤ Rows.uptoBulk (D i)) (n := m3) (fun i him => by
          by_cases hil : i < len
          · obtain ⟨cs', hc, ht⟩ := hi i him
            have hb1 := hle (List.range len) i (by simp [hil])
            obtain ⟨t, g1, g2⟩ := tree_of (q - 1) n3 cs' (D i, Pl i) (by simp only; omega) ht
            exact ⟨(t, cs'), fun _ => ⟨hc, g1, g2⟩⟩
          · exact ⟨(zeroTree, []), fun h => absurd h hil⟩)
        have hTl : ∀ i, i ∈ List.range len → W.cells? 0 (a.add (i * 4)) 4 = some (T i).2 ∧ TreeIs Any W (T i).1 (T i).2 ∧ tbulk (T i).1 ≤ Rows.uptoBulk (D i) := fun i hi' => by
          have := List.mem_range.1 hi'
          exact hT i (by omega) this
        refine ⟨(List.range len).map fun i => (T i).1, some a, m3, (List.range len).flatMap fun i => (T i).2, by simp, by simpa using hl3, hm3, kids_map _ (fun i hi' => (hTl i hi').2.1), ⟨?_, fun h0 => ?_⟩, ?_⟩
        · have := (kids_map (W := W) (g := fun i => (T i).1) (c := fun i => (T i).2) (List.range len) (fun i hi' => (hTl i hi').2.1)).length
          rw [this]
        · simp only [List.length_map, List.length_range] at h0 ⊢
          have hcell : ∀ i, i < len → ∀ r, r < 4 → W.cell? ((a.add (i * 4)).add r) = (T i).2[r]? := fun i hi' r hr => by
            have h4 := (hTl i (by simp [hi'])).2.1.four
            have := (World.cells?_some (hTl i (by simp [hi'])).1).2.2 r (by omega)
            rw [this]
          have hsome : ∃ v, W.cell? a = some v := by
            have h4 := (hTl 0 (by simp [h0])).2.1.four
            have := hcell 0 h0 0 (by omega)
            refine ⟨(T 0).2[0]'(by omega), ?_⟩
            rw [List.getElem?_eq_getElem (by omega)] at this
            simpa [Addr.add] using this
          obtain ⟨vv, hvv⟩ := hsome
          have hs : a.spot = none := World.cell?_spot (a := a) hvv
          obtain ⟨b, off, spot⟩ := a
          simp only at hs
          subst hs
          refine ⟨b, off, rfl, trivial, World.block_lt_of_cell? W ⟨b, off, none⟩ hvv, fun j hj => ?_⟩
          have e := hcell (j / 4) (by omega) (j % 4) (by omega)
          rw [addr_at, addr_at, show off + j / 4 * 4 + j % 4 = off + j by omega] at e
          have e2 := flat_at (c := fun i => (T i).2) (List.range len) (j / 4) (j % 4) (fun i hi' => (hTl i hi').2.1.four) (by omega)
          rw [show j / 4 * 4 + j % 4 = j by omega] at e2
          rw [e, e2]; simp [show j / 4 < len by omega]
        · have := kbulk_map (g := fun i => (T i).1) (D := D) (List.range len) (fun i hi' => (hTl i hi').2.2)
          omega
    obtain ⟨ks, B, c, cells, e3, k1, k2, k3, k4, k5⟩ := go
    refine ⟨.node k s1.data.toList ls ks, ?_, ?_⟩
    · subst e0 e1 e2 e3
      simp only [TreeIs]
      exact ⟨A, m, B, c, by simp, l1, l2, k1, k2, l3, cells, k3, k4⟩
    · simp only [tbulk]
      omega
  termination_by q => q
  decreasing_by omega
theorem open_tree {v : Value} {d : DataW H} {p : List MemPlace} (h : DataW.Trod enc Try.prog W 0 (fun _ => true) true 26 v d p) : ∃ t c0 c1 c2 c3, v.cells = #[c0, c1, c2, c3] ∧ TreeIs Any W t [c0, c1, c2, c3] ∧ tbulk t ≤ Rows.uptoBulk d := by
  obtain ⟨fuel, hf⟩ := h
  obtain ⟨t, h1, h2⟩ := tree_of _ fuel _ _ (Nat.le_refl _) hf
  have h4 := h1.four
  obtain ⟨c0, c1, c2, c3, e⟩ := list_four h4
  refine ⟨t, c0, c1, c2, c3, ?_, e ▸ h1, h2⟩
  apply Array.ext'
  simpa using e
end
end Go.Proofs.Ythpjpngfghcmcaa
