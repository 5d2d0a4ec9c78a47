/- Contracts of the functions that the law reaches, part 7. -/
import Derived.Test.YthpjpngfghcmcaaDp6
namespace Go.Proofs.Ythpjpngfghcmcaa
open Go.RowKit Lx Sx
set_option linter.unusedVariables false
set_option linter.unusedSimpArgs false
set_option maxRecDepth 100000
set_option maxHeartbeats 4000000
theorem KidsAre.part {S : Nat → Prop} {w : World} : ∀ {a b : List Tree} {cs : List Value}, KidsAre S w (a ++ b) cs → ∃ c d, cs = c ++ d ∧ KidsAre S w a c ∧ KidsAre S w b d
  | [], b, cs, h => ⟨[], cs, rfl, rfl, h⟩
  | t :: r, b, cs, h => by
    simp only [List.cons_append, KidsAre] at h
    obtain ⟨c, d, e, h1, h2⟩ := h
    obtain ⟨c', d', e', h3, h4⟩ := KidsAre.part h2
    exact ⟨c ++ c', d', by rw [e, e', List.append_assoc], by simp only [KidsAre]; exact ⟨c, c', rfl, h1, h3⟩, h4⟩
theorem RowIn.now {Bs b : Nat} {w w' : World} {A : Option Addr} {sz n : Nat} {cs : List Value} (h : RowIn (fun b => b < Bs) w sz A n cs) (hE : Prn Bs b w w') : RowIn (fun b => b < Bs) w' sz A n cs := h.keepB (fun _ h _ => h) (fun _ hb _ => hE.below.block _ hb)
theorem KidsAre.now {Bs b : Nat} {w w' : World} {ks : List Tree} {cs : List Value} (h : KidsAre (fun b => b < Bs) w ks cs) (hE : Prn Bs b w w') : KidsAre (fun b => b < Bs) w' ks cs := h.keepB (fun _ h _ => h) (fun _ hb _ => hE.below.block _ hb)
theorem RowIn.part {S : Nat → Prop} {w : World} {A : Option Addr} {n n1 : Nat} {c d : List Value} (h : RowIn S w 4 A n (c ++ d)) (hc : c.length = n1 * 4) (hn : n1 ≤ n) : RowIn S w 4 A n1 c := by
  refine ⟨hc, fun h0 => ?_⟩
  obtain ⟨b, off, e, hS, hb, hcell⟩ := h.2 (by omega)
  refine ⟨b, off, e, hS, hb, fun j hj => ?_⟩
  rw [hcell j (by omega), List.getElem?_append_left (by omega)]
theorem kbulk_app : ∀ (a b : List Tree), kbulk (a ++ b) = kbulk a + kbulk b
  | [], b => by simp [kbulk]
  | t :: r, b => by simp only [List.cons_append, kbulk, kbulk_app r b]; omega
theorem ex_slH {P : Program} {a : Act} {w : World} {n : Nat} {f : Nat → Option Value} {ty : TypeId} {t e : TypeId} {x y : Operand} {A : Option Addr} {m c sz k : Nat} {i : Int} (h : Fr a n f) (ht : P.underlying t = some (.slice e)) (hz : sizeT P e = some sz) (hx : valF f x = some (.slice A m c)) (hy : valF f y = some (.int .i64 i)) (hi : i = (k : Int)) (hk : k ≤ c) :
    Runs P a ty (.slice t x none (some y) none) w (.value (.slice A k c)) w := fun _ _ _ _ => by
  subst hi
  obtain ⟨inf, hinf, hs⟩ := Option.map_eq_some_iff.1 (show (P.info? e).map (·.size) = some sz from hz)
  simp only [execOp, h.eval hx, Option.map_some, Option.map_none, h.eval hy]
  simp [Instr.sliceAt, Instr.slice, run_underlying ht, Instr.sliceBounds, run_sliceBound w .i64 (k : Int) c .sliceAcap (by omega) (by omega), sizeOf, typeInfo, hinf, hs]
  try (split <;> simp_all)
  try (cases A <;> simp)
  all_goals (intro _; unfold Addr.add; split <;> simp_all)
theorem t16 {N : Nat} (ih : TreeOk N) {w : World} {Bs b : Nat} {s : WS} {x : List UInt8} {l0 l1 l2 : List UInt8} {ms : List (List UInt8)} {ks : List Tree} {cs : List Value} {A B : Option Addr} {m n : Nat} (hcl : 3 + ks.length ≤ (l0 :: l1 :: l2 :: ms).length + 1) (hks : ∀ t, t ∈ ks → tsize t ≤ N ∧ shapedT t = true ∧ leadedT t = true)
    (hl1 : s.2.length + 100 * (x.length + lsum (l0 :: l1 :: l2 :: ms) + kbulk ks + 1) ≤ 1000000000000) (hl2 : s.1.length + 100 * (x.length + lsum (l0 :: l1 :: l2 :: ms) + kbulk ks + 1) ≤ 1000000000000) (hP : Pr Bs b s.1 s.2 w) (hL : RowIn (fun b => b < Bs) w 1 A (l0 :: l1 :: l2 :: ms).length ((l0 :: l1 :: l2 :: ms).map strV)) (hn : ks.length ≤ n) (hn2 : n ≤ maxLen) (hK : KidsAre (fun b => b < Bs) w ks cs) (hR : RowIn (fun b => b < Bs) w 4 B ks.length cs) (hBw : Bs ≤ w.heap.size) :
    Calls Try.prog 61 [.pointer (some ⟨b, 0, none⟩), .agg #[.int .i64 16, strV x, .slice A (l0 :: l1 :: l2 :: ms).length m, .slice B ks.length n]].toArray w fun e w' => e = .returned (.tuple #[]) ∧ Pr Bs b (treeP (.node 16 x (l0 :: l1 :: l2 :: ms) ks) s).1 (treeP (.node 16 x (l0 :: l1 :: l2 :: ms) ks) s).2 w' ∧ Prn Bs b w w' := by
  simp only [lsum, kbulk] at hl1 hl2
  have hgk : ∀ t, t ∈ ks → ∀ s, Gw (100 * tbulk t) s (treeP t s) := fun t ht s => Gw.tree _ t (Nat.le_refl _) (hks t ht).2.2 s
  have hKL := kbulk_len ks
  have hll := lsum_len ms
  have hcl' := hcl
  simp only [List.length_cons] at hcl'
  have hE := Prn.refl (b := b) hBw
  have hG : s.2.length ≤ s.2.length := Nat.le_refl _
  have hG' : s.1.length ≤ s.1.length := Nat.le_refl _
  obtain ⟨lb, lo, rfl, _, hlb, _⟩ := hL.2 (by simp)
  refine enter_fr 216 Try.func61 rfl rfl rfl ?_
  intro a hf
  refine wS fun K1 hK1 => wR ?_
  obtain ⟨w2, b3, he, hB4, hx5, eb6, lb7⟩ := ef_box (P := Try.prog) (t := 26) (x := (.tmp 1)) hf rfl rfl w 0
  refine sV hf rfl he ?_
  clear he hf a; intro a hf
  have ge_b3 := Prn.ge_new hE eb6
  have ne_b_b3 : b ≠ b3 := ne_new hP.lt eb6
  replace hP := hP.chg0 hx5
  replace hE := hE.trans hx5 all0
  clear eb6 lb7
  refine sN <| hK1 _ _ <| wS fun K8 hK8 => wR <| sV hf rfl (ex_fa (k := 0) (r := 0) hf rfl (by kernel_rfl) rfl) fun a hf => sV hf rfl (ex_loadB hf rfl (by kernel_rfl) hB4 rfl) fun a hf => sN <| hK8 _ _ <| wp_block <| wS fun K9 hK9 => wS fun K10 hK10 => wR <| sV hf rfl (ex_eqI (c := false) hf rfl rfl (by decide)) fun a hf => sA hf rfl rfl fun a hf => sN <| hK10 _ _ <| cF hf rfl <| wS fun K11 hK11 => wR <| sV hf rfl (ex_eqI (c := false) hf rfl rfl (by decide)) fun a hf => sA hf rfl rfl fun a hf => sN <| hK11 _ _ <| cF hf rfl <| wS fun K12 hK12 => wR <| sV hf rfl (ex_eqI (c := false) hf rfl rfl (by decide)) fun a hf => sA hf rfl rfl fun a hf => sN <| hK12 _ _ <| cF hf rfl <| wR <| sV hf rfl (ex_eqI (c := false) hf rfl rfl (by decide)) fun a hf => sA hf rfl rfl fun a hf => sN <| hK9 _ _ <| cF hf rfl <| wS fun K13 hK13 => wR <| sV hf rfl (ex_eqI (c := false) hf rfl rfl (by decide)) fun a hf => sA hf rfl rfl fun a hf => sN <| hK13 _ _ <| cF hf rfl <| wS fun K14 hK14 => wR <| sV hf rfl (ex_eqI (c := false) hf rfl rfl (by decide)) fun a hf => sA hf rfl rfl fun a hf => sN <| hK14 _ _ <| cF hf rfl <| wS fun K15 hK15 => wR <| sV hf rfl (ex_eqI (c := true) hf rfl rfl (by decide)) fun a hf => sA hf rfl rfl fun a hf => sN <| hK15 _ _ <| cT hf rfl <| wS fun K16 hK16 => ?_
  have s_lb := lead_now hL hE (j := 0) rfl
  have s_hB4 := hB4
  refine dl_start (fun x => x.cell? ⟨b3, 2, none⟩ = w2.cell? ⟨b3, 2, none⟩ ∧ x.cell? ⟨lb, lo, none⟩ = w2.cell? ⟨lb, lo, none⟩ ∧ x.cell? ⟨b3, 1, none⟩ = w2.cell? ⟨b3, 1, none⟩) 8 8 rfl (by kernel_rfl) (by kernel_rfl) ?_
  intro w17 hx18 hsel
  replace hB4 := hB4.chg hx18 nm0
  replace hP := hP.chg0 hx18
  replace hE := hE.trans hx18 all0
  have hS0 : w17.cell? ⟨b3, 2, none⟩ = w2.cell? ⟨b3, 2, none⟩ ∧ w17.cell? ⟨lb, lo, none⟩ = w2.cell? ⟨lb, lo, none⟩ ∧ w17.cell? ⟨b3, 1, none⟩ = w2.cell? ⟨b3, 1, none⟩ := ⟨(hB4.cell 2).trans (s_hB4.cell 2).symm, ((lead_now hL hE (j := 0) rfl).trans s_lb.symm), (hB4.cell 1).trans (s_hB4.cell 1).symm⟩
  refine dM 0 rfl rfl hsel (by kernel_rfl) hf rfl hS0 rfl fun a hf => dV 1 rfl rfl hsel (by kernel_rfl) hf rfl (.inl hS0) (fun x => ex_fa (k := 2) (r := 2) hf rfl (by kernel_rfl) rfl) fun a hf => dL 2 rfl rfl hsel (by kernel_rfl) hf rfl hS0 (fun x hS => ex_load hf rfl (by kernel_rfl) (hS.1.trans ((s_hB4.cell 2).trans rfl))) fun a hf => dV 3 rfl rfl hsel (by kernel_rfl) hf rfl (.inl hS0) (fun x => ex_index (sz := 1) (k := 0) (r := lo) hf Try.underlying23 (by kernel_rfl) rfl rfl rfl (by simp) rfl) fun a hf => dL 4 rfl rfl hsel (by kernel_rfl) hf rfl hS0 (fun x hS => ex_load hf rfl (by kernel_rfl) (hS.2.1.trans s_lb)) fun a hf => dV 5 rfl rfl hsel (by kernel_rfl) hf rfl (.inl hS0) (fun x => ex_fa (k := 1) (r := 1) hf rfl (by kernel_rfl) rfl) fun a hf => dL 6 rfl rfl hsel (by kernel_rfl) hf rfl hS0 (fun x hS => ex_load hf rfl (by kernel_rfl) (hS.2.2.trans ((s_hB4.cell 1).trans rfl))) fun a hf => dl_c 7 (by kernel_rfl) rfl hf rfl rfl rfl (by kernel_rfl) (putL (lead := l0) (tok := x) hP (by (try simp only [putP, List.length_append, List.length_cons, List.length_nil]); omega) (by (try simp only [putP, List.length_append, List.length_cons, List.length_nil]); omega) hE.now) ?_
  rintro _ w21 ⟨rfl, hPn, hEn⟩
  refine ⟨_, rfl, ?_⟩
  clear hf a; intro a hf
  have hx20 := hEn.chg
  replace hB4 := hB4.chg hx20 (nm_blk hB4 rfl (Ne.symm ne_b_b3))
  replace hE := hE.trans hx20 (fun _ h => .inl h)
  obtain ⟨s19, es19⟩ : ∃ z, z = putP l0 x s := ⟨_, rfl⟩
  replace hPn : Pr Bs b (putP l0 x s).1 (putP l0 x s).2 w21 := hPn
  rw [← es19] at hPn
  have gs19 := put_len l0 x s
  rw [← es19] at gs19
  obtain ⟨gs19, gs19'⟩ := gs19
  (try simp only [List.length_cons, List.length_nil, lsum] at gs19 gs19')
  replace hG := nlt gs19 (Nat.add_le_add_right hG _)
  replace hG' := nlt gs19' (Nat.add_le_add_right hG' _)
  clear gs19 gs19'
  clear hP; have hP := hPn; clear hPn hEn
  clear hS0
  have hS0 : w21.cell? ⟨b3, 2, none⟩ = w2.cell? ⟨b3, 2, none⟩ ∧ w21.cell? ⟨lb, lo, none⟩ = w2.cell? ⟨lb, lo, none⟩ ∧ w21.cell? ⟨b3, 1, none⟩ = w2.cell? ⟨b3, 1, none⟩ := ⟨(hB4.cell 2).trans (s_hB4.cell 2).symm, ((lead_now hL hE (j := 0) rfl).trans s_lb.symm), (hB4.cell 1).trans (s_hB4.cell 1).symm⟩
  refine ⟨.inl hS0, ?_⟩
  refine dl_done (by kernel_rfl) ?_
  clear hS0 hsel
  refine hK16 _ _ <| wS fun K22 hK22 => wR <| sM hf rfl rfl fun a hf => sV hf rfl (ex_fa (k := 2) (r := 2) hf rfl (by kernel_rfl) rfl) fun a hf => sV hf rfl (ex_loadB hf rfl (by kernel_rfl) hB4 rfl) fun a hf => sV hf rfl (ex_index (sz := 1) (k := 1) (r := lo + 1) hf Try.underlying23 (by kernel_rfl) rfl rfl rfl (by simp) rfl) fun a hf => sV hf rfl (ex_load hf rfl (by kernel_rfl) (lead_now hL hE (j := 1) rfl)) fun a hf => st_c hf rfl rfl rfl (by kernel_rfl) (putL (lead := l1) (tok := [40]) hP (by (try simp only [putP, List.length_append, List.length_cons, List.length_nil]); omega) (by (try simp only [putP, List.length_append, List.length_cons, List.length_nil]); omega) hE.now) ?_
  rintro _ w25 ⟨rfl, hPn, hEn⟩
  refine ⟨_, rfl, ?_⟩
  clear hf a; intro a hf
  have hx24 := hEn.chg
  replace hB4 := hB4.chg hx24 (nm_blk hB4 rfl (Ne.symm ne_b_b3))
  replace hE := hE.trans hx24 (fun _ h => .inl h)
  obtain ⟨s23, es23⟩ : ∃ z, z = putP l1 [40] s19 := ⟨_, rfl⟩
  replace hPn : Pr Bs b (putP l1 [40] s19).1 (putP l1 [40] s19).2 w25 := hPn
  rw [← es23] at hPn
  have gs23 := put_len l1 [40] s19
  rw [← es23] at gs23
  obtain ⟨gs23, gs23'⟩ := gs23
  (try simp only [List.length_cons, List.length_nil, lsum] at gs23 gs23')
  replace hG := nlt gs23 (Nat.add_le_add_right hG _)
  replace hG' := nlt gs23' (Nat.add_le_add_right hG' _)
  clear gs23 gs23'
  clear hP; have hP := hPn; clear hPn hEn
  refine sN <| hK22 _ _ <| wS fun K26 hK26 => wR <| sM hf rfl rfl fun a hf => sV hf rfl (ex_loadBN (m := 4) hf rfl (by kernel_rfl) hB4 rfl) fun a hf => sV hf rfl (ex_fa (k := 3) (r := 3) hf rfl (by kernel_rfl) rfl) fun a hf => sV hf rfl (ex_loadB hf rfl (by kernel_rfl) hB4 rfl) fun a hf => ?_
  have hLn := hL.now hE
  have hKn := hK.now hE
  have hRn := hR.now hE
  refine st_c hf rfl rfl rfl (by kernel_rfl) (plistI ih (s := s23) (ls := (l0 :: l1 :: l2 :: ms)) (ks := ks) (c := 3) (ci := 3) (by decide) (by decide) (by decide) hcl hks (by simp only [lsum]; omega) (by simp only [lsum]; omega) hP hLn hKn hRn hE.now) ?_
  rintro _ w29 ⟨rfl, hPn, hEn⟩
  refine ⟨_, rfl, ?_⟩
  clear hf a; intro a hf
  have hx28 := hEn.chg
  replace hB4 := hB4.chg hx28 (nm_blk hB4 rfl (Ne.symm ne_b_b3))
  replace hE := hE.trans hx28 (fun _ h => .inl h)
  obtain ⟨s27, es27⟩ : ∃ z, z = listP (l0 :: l1 :: l2 :: ms) 3 (treesP ks) 0 s23 := ⟨_, rfl⟩
  replace hPn : Pr Bs b (listP (l0 :: l1 :: l2 :: ms) 3 (treesP ks) 0 s23).1 (listP (l0 :: l1 :: l2 :: ms) 3 (treesP ks) 0 s23).2 w29 := hPn
  rw [← es27] at hPn
  have gs27 := list_len (ls := (l0 :: l1 :: l2 :: ms)) (c := 3) (by decide) hgk s23
  rw [← es27] at gs27
  obtain ⟨gs27, gs27'⟩ := gs27
  (try simp only [List.length_cons, List.length_nil, lsum] at gs27 gs27')
  replace hG := nlt gs27 (Nat.add_le_add_right hG _)
  replace hG' := nlt gs27' (Nat.add_le_add_right hG' _)
  clear gs27 gs27'
  clear hP; have hP := hPn; clear hPn hEn
  refine sN <| hK26 _ _ <| wR <| sM hf rfl rfl fun a hf => sV hf rfl (ex_fa (k := 2) (r := 2) hf rfl (by kernel_rfl) rfl) fun a hf => sV hf rfl (ex_loadB hf rfl (by kernel_rfl) hB4 rfl) fun a hf => sV hf rfl (ex_index (sz := 1) (k := 2) (r := lo + 2) hf Try.underlying23 (by kernel_rfl) rfl rfl rfl (by simp) rfl) fun a hf => sV hf rfl (ex_load hf rfl (by kernel_rfl) (lead_now hL hE (j := 2) rfl)) fun a hf => st_c hf rfl rfl rfl (by kernel_rfl) (putL (lead := l2) (tok := [41]) hP (by (try simp only [putP, List.length_append, List.length_cons, List.length_nil]); omega) (by (try simp only [putP, List.length_append, List.length_cons, List.length_nil]); omega) hE.now) ?_
  rintro _ w32 ⟨rfl, hPn, hEn⟩
  refine ⟨_, rfl, ?_⟩
  clear hf a; intro a hf
  have hx31 := hEn.chg
  replace hB4 := hB4.chg hx31 (nm_blk hB4 rfl (Ne.symm ne_b_b3))
  replace hE := hE.trans hx31 (fun _ h => .inl h)
  obtain ⟨s30, es30⟩ : ∃ z, z = putP l2 [41] s27 := ⟨_, rfl⟩
  replace hPn : Pr Bs b (putP l2 [41] s27).1 (putP l2 [41] s27).2 w32 := hPn
  rw [← es30] at hPn
  have gs30 := put_len l2 [41] s27
  rw [← es30] at gs30
  obtain ⟨gs30, gs30'⟩ := gs30
  (try simp only [List.length_cons, List.length_nil, lsum] at gs30 gs30')
  replace hG := nlt gs30 (Nat.add_le_add_right hG _)
  replace hG' := nlt gs30' (Nat.add_le_add_right hG' _)
  clear gs30 gs30'
  clear hP; have hP := hPn; clear hPn hEn
  refine sN ?_
  have eq : treeP (.node 16 x (l0 :: l1 :: l2 :: ms) ks) s = s30 := by subst es30; subst es27; subst es23; subst es19; rw [treeP]; rfl
  rw [eq]
  try simp only [Exit.then, Exit.inBlock]
  exact end_of (rs := []) hf rfl rfl ⟨rfl, hP, hE⟩
theorem t18 {N : Nat} (ih : TreeOk N) {w : World} {Bs b : Nat} {s : WS} {x : List UInt8} {l0 l1 : List UInt8} {ms : List (List UInt8)} {ks : List Tree} {cs : List Value} {A B : Option Addr} {m n : Nat} (hcl : 2 + ks.length ≤ (l0 :: l1 :: ms).length + 1) (hks : ∀ t, t ∈ ks → tsize t ≤ N ∧ shapedT t = true ∧ leadedT t = true)
    (hl1 : s.2.length + 100 * (x.length + lsum (l0 :: l1 :: ms) + kbulk ks + 1) ≤ 1000000000000) (hl2 : s.1.length + 100 * (x.length + lsum (l0 :: l1 :: ms) + kbulk ks + 1) ≤ 1000000000000) (hP : Pr Bs b s.1 s.2 w) (hL : RowIn (fun b => b < Bs) w 1 A (l0 :: l1 :: ms).length ((l0 :: l1 :: ms).map strV)) (hn : ks.length ≤ n) (hn2 : n ≤ maxLen) (hK : KidsAre (fun b => b < Bs) w ks cs) (hR : RowIn (fun b => b < Bs) w 4 B ks.length cs) (hBw : Bs ≤ w.heap.size) :
    Calls Try.prog 61 [.pointer (some ⟨b, 0, none⟩), .agg #[.int .i64 18, strV x, .slice A (l0 :: l1 :: ms).length m, .slice B ks.length n]].toArray w fun e w' => e = .returned (.tuple #[]) ∧ Pr Bs b (treeP (.node 18 x (l0 :: l1 :: ms) ks) s).1 (treeP (.node 18 x (l0 :: l1 :: ms) ks) s).2 w' ∧ Prn Bs b w w' := by
  simp only [lsum, kbulk] at hl1 hl2
  have hgk : ∀ t, t ∈ ks → ∀ s, Gw (100 * tbulk t) s (treeP t s) := fun t ht s => Gw.tree _ t (Nat.le_refl _) (hks t ht).2.2 s
  have hKL := kbulk_len ks
  have hll := lsum_len ms
  have hcl' := hcl
  simp only [List.length_cons] at hcl'
  have hE := Prn.refl (b := b) hBw
  have hG : s.2.length ≤ s.2.length := Nat.le_refl _
  have hG' : s.1.length ≤ s.1.length := Nat.le_refl _
  obtain ⟨lb, lo, rfl, _, hlb, _⟩ := hL.2 (by simp)
  refine enter_fr 216 Try.func61 rfl rfl rfl ?_
  intro a hf
  refine wS fun K1 hK1 => wR ?_
  obtain ⟨w2, b3, he, hB4, hx5, eb6, lb7⟩ := ef_box (P := Try.prog) (t := 26) (x := (.tmp 1)) hf rfl rfl w 0
  refine sV hf rfl he ?_
  clear he hf a; intro a hf
  have ge_b3 := Prn.ge_new hE eb6
  have ne_b_b3 : b ≠ b3 := ne_new hP.lt eb6
  replace hP := hP.chg0 hx5
  replace hE := hE.trans hx5 all0
  clear eb6 lb7
  refine sN <| hK1 _ _ <| wS fun K8 hK8 => wR <| sV hf rfl (ex_fa (k := 0) (r := 0) hf rfl (by kernel_rfl) rfl) fun a hf => sV hf rfl (ex_loadB hf rfl (by kernel_rfl) hB4 rfl) fun a hf => sN <| hK8 _ _ <| wp_block <| wS fun K9 hK9 => wS fun K10 hK10 => wR <| sV hf rfl (ex_eqI (c := false) hf rfl rfl (by decide)) fun a hf => sA hf rfl rfl fun a hf => sN <| hK10 _ _ <| cF hf rfl <| wS fun K11 hK11 => wR <| sV hf rfl (ex_eqI (c := false) hf rfl rfl (by decide)) fun a hf => sA hf rfl rfl fun a hf => sN <| hK11 _ _ <| cF hf rfl <| wS fun K12 hK12 => wR <| sV hf rfl (ex_eqI (c := false) hf rfl rfl (by decide)) fun a hf => sA hf rfl rfl fun a hf => sN <| hK12 _ _ <| cF hf rfl <| wR <| sV hf rfl (ex_eqI (c := false) hf rfl rfl (by decide)) fun a hf => sA hf rfl rfl fun a hf => sN <| hK9 _ _ <| cF hf rfl <| wS fun K13 hK13 => wR <| sV hf rfl (ex_eqI (c := false) hf rfl rfl (by decide)) fun a hf => sA hf rfl rfl fun a hf => sN <| hK13 _ _ <| cF hf rfl <| wS fun K14 hK14 => wR <| sV hf rfl (ex_eqI (c := false) hf rfl rfl (by decide)) fun a hf => sA hf rfl rfl fun a hf => sN <| hK14 _ _ <| cF hf rfl <| wS fun K15 hK15 => wR <| sV hf rfl (ex_eqI (c := false) hf rfl rfl (by decide)) fun a hf => sA hf rfl rfl fun a hf => sN <| hK15 _ _ <| cF hf rfl <| wS fun K16 hK16 => wR <| sV hf rfl (ex_eqI (c := true) hf rfl rfl (by decide)) fun a hf => sA hf rfl rfl fun a hf => sN <| hK16 _ _ <| cT hf rfl <| wS fun K17 hK17 => wR <| sM hf rfl rfl fun a hf => sV hf rfl (ex_fa (k := 2) (r := 2) hf rfl (by kernel_rfl) rfl) fun a hf => sV hf rfl (ex_loadB hf rfl (by kernel_rfl) hB4 rfl) fun a hf => sV hf rfl (ex_index (sz := 1) (k := 0) (r := lo) hf Try.underlying23 (by kernel_rfl) rfl rfl rfl (by simp) rfl) fun a hf => sV hf rfl (ex_load hf rfl (by kernel_rfl) (lead_now hL hE (j := 0) rfl)) fun a hf => st_c hf rfl rfl rfl (by kernel_rfl) (putL (lead := l0) (tok := [91]) hP (by (try simp only [putP, List.length_append, List.length_cons, List.length_nil]); omega) (by (try simp only [putP, List.length_append, List.length_cons, List.length_nil]); omega) hE.now) ?_
  rintro _ w20 ⟨rfl, hPn, hEn⟩
  refine ⟨_, rfl, ?_⟩
  clear hf a; intro a hf
  have hx19 := hEn.chg
  replace hB4 := hB4.chg hx19 (nm_blk hB4 rfl (Ne.symm ne_b_b3))
  replace hE := hE.trans hx19 (fun _ h => .inl h)
  obtain ⟨s18, es18⟩ : ∃ z, z = putP l0 [91] s := ⟨_, rfl⟩
  replace hPn : Pr Bs b (putP l0 [91] s).1 (putP l0 [91] s).2 w20 := hPn
  rw [← es18] at hPn
  have gs18 := put_len l0 [91] s
  rw [← es18] at gs18
  obtain ⟨gs18, gs18'⟩ := gs18
  (try simp only [List.length_cons, List.length_nil, lsum] at gs18 gs18')
  replace hG := nlt gs18 (Nat.add_le_add_right hG _)
  replace hG' := nlt gs18' (Nat.add_le_add_right hG' _)
  clear gs18 gs18'
  clear hP; have hP := hPn; clear hPn hEn
  refine sN <| hK17 _ _ <| wS fun K21 hK21 => wR <| sM hf rfl rfl fun a hf => sV hf rfl (ex_loadBN (m := 4) hf rfl (by kernel_rfl) hB4 rfl) fun a hf => sV hf rfl (ex_fa (k := 3) (r := 3) hf rfl (by kernel_rfl) rfl) fun a hf => sV hf rfl (ex_loadB hf rfl (by kernel_rfl) hB4 rfl) fun a hf => ?_
  have hLn := hL.now hE
  have hKn := hK.now hE
  have hRn := hR.now hE
  refine st_c hf rfl rfl rfl (by kernel_rfl) (plistI ih (s := s18) (ls := (l0 :: l1 :: ms)) (ks := ks) (c := 2) (ci := 2) (by decide) (by decide) (by decide) hcl hks (by simp only [lsum]; omega) (by simp only [lsum]; omega) hP hLn hKn hRn hE.now) ?_
  rintro _ w24 ⟨rfl, hPn, hEn⟩
  refine ⟨_, rfl, ?_⟩
  clear hf a; intro a hf
  have hx23 := hEn.chg
  replace hB4 := hB4.chg hx23 (nm_blk hB4 rfl (Ne.symm ne_b_b3))
  replace hE := hE.trans hx23 (fun _ h => .inl h)
  obtain ⟨s22, es22⟩ : ∃ z, z = listP (l0 :: l1 :: ms) 2 (treesP ks) 0 s18 := ⟨_, rfl⟩
  replace hPn : Pr Bs b (listP (l0 :: l1 :: ms) 2 (treesP ks) 0 s18).1 (listP (l0 :: l1 :: ms) 2 (treesP ks) 0 s18).2 w24 := hPn
  rw [← es22] at hPn
  have gs22 := list_len (ls := (l0 :: l1 :: ms)) (c := 2) (by decide) hgk s18
  rw [← es22] at gs22
  obtain ⟨gs22, gs22'⟩ := gs22
  (try simp only [List.length_cons, List.length_nil, lsum] at gs22 gs22')
  replace hG := nlt gs22 (Nat.add_le_add_right hG _)
  replace hG' := nlt gs22' (Nat.add_le_add_right hG' _)
  clear gs22 gs22'
  clear hP; have hP := hPn; clear hPn hEn
  refine sN <| hK21 _ _ <| wR <| sM hf rfl rfl fun a hf => sV hf rfl (ex_fa (k := 2) (r := 2) hf rfl (by kernel_rfl) rfl) fun a hf => sV hf rfl (ex_loadB hf rfl (by kernel_rfl) hB4 rfl) fun a hf => sV hf rfl (ex_index (sz := 1) (k := 1) (r := lo + 1) hf Try.underlying23 (by kernel_rfl) rfl rfl rfl (by simp) rfl) fun a hf => sV hf rfl (ex_load hf rfl (by kernel_rfl) (lead_now hL hE (j := 1) rfl)) fun a hf => st_c hf rfl rfl rfl (by kernel_rfl) (putL (lead := l1) (tok := [93]) hP (by (try simp only [putP, List.length_append, List.length_cons, List.length_nil]); omega) (by (try simp only [putP, List.length_append, List.length_cons, List.length_nil]); omega) hE.now) ?_
  rintro _ w27 ⟨rfl, hPn, hEn⟩
  refine ⟨_, rfl, ?_⟩
  clear hf a; intro a hf
  have hx26 := hEn.chg
  replace hB4 := hB4.chg hx26 (nm_blk hB4 rfl (Ne.symm ne_b_b3))
  replace hE := hE.trans hx26 (fun _ h => .inl h)
  obtain ⟨s25, es25⟩ : ∃ z, z = putP l1 [93] s22 := ⟨_, rfl⟩
  replace hPn : Pr Bs b (putP l1 [93] s22).1 (putP l1 [93] s22).2 w27 := hPn
  rw [← es25] at hPn
  have gs25 := put_len l1 [93] s22
  rw [← es25] at gs25
  obtain ⟨gs25, gs25'⟩ := gs25
  (try simp only [List.length_cons, List.length_nil, lsum] at gs25 gs25')
  replace hG := nlt gs25 (Nat.add_le_add_right hG _)
  replace hG' := nlt gs25' (Nat.add_le_add_right hG' _)
  clear gs25 gs25'
  clear hP; have hP := hPn; clear hPn hEn
  refine sN ?_
  have eq : treeP (.node 18 x (l0 :: l1 :: ms) ks) s = s25 := by subst es25; subst es22; subst es18; rw [treeP]; rfl
  rw [eq]
  try simp only [Exit.then, Exit.inBlock]
  exact end_of (rs := []) hf rfl rfl ⟨rfl, hP, hE⟩
theorem node2 (x : List UInt8) (ls : List (List UInt8)) (fs : List (WS → WS)) (f g : WS → WS) (s : WS) : nodeP 2 x ls (fs ++ [f, g]) s = g (putP (ls.getD 5 []) [61] (f (putP (ls.getD 4 []) [58] (putP (ls.getD 3 []) [41] (listP ls 6 fs 0 (putP (ls.getD 2 []) [40] (putP (ls.getD 1 []) x (putP (ls.getD 0 []) [100, 101, 102] s)))))))) := by
  unfold nodeP
  rw [if_pos (by decide)]
  unfold defnP
  dsimp only
  rw [if_neg (by decide), if_pos rfl]
  have k1 : (fs ++ [f, g]).length - 2 = fs.length := by simp
  have k2 : (fs ++ [f, g]).length - 1 = fs.length + 1 := by simp
  rw [k1, k2]
  have t1 : (fs ++ [f, g]).take fs.length = fs := by rw [List.take_append_of_le_length (Nat.le_refl _), List.take_length]
  have t2 : (fs ++ [f, g]).getD fs.length id = f := by rw [List.getD_eq_getElem?_getD, List.getElem?_append_right (Nat.le_refl _), Nat.sub_self]; rfl
  have t3 : (fs ++ [f, g]).getD (fs.length + 1) id = g := by rw [List.getD_eq_getElem?_getD, List.getElem?_append_right (by omega), show fs.length + 1 - fs.length = 1 from by omega]; rfl
  rw [t1, t2, t3]
theorem d2 {N : Nat} (ih : TreeOk N) {w : World} {Bs b : Nat} {s : WS} {x : List UInt8} {l0 l1 l2 l3 l4 l5 : List UInt8} {ms : List (List UInt8)} {k0 k1 : Tree} {ps : List Tree} {cs : List Value} {A B : Option Addr} {m n : Nat} (hcl : 6 + ps.length ≤ (l0 :: l1 :: l2 :: l3 :: l4 :: l5 :: ms).length + 1) (hks : ∀ t, t ∈ (ps ++ [k0, k1]) → tsize t ≤ N ∧ shapedT t = true ∧ leadedT t = true)
    (hl1 : s.2.length + 100 * (x.length + lsum (l0 :: l1 :: l2 :: l3 :: l4 :: l5 :: ms) + kbulk (ps ++ [k0, k1]) + 1) ≤ 1000000000000) (hl2 : s.1.length + 100 * (x.length + lsum (l0 :: l1 :: l2 :: l3 :: l4 :: l5 :: ms) + kbulk (ps ++ [k0, k1]) + 1) ≤ 1000000000000) (hP : Pr Bs b s.1 s.2 w) (hL : RowIn (fun b => b < Bs) w 1 A (l0 :: l1 :: l2 :: l3 :: l4 :: l5 :: ms).length ((l0 :: l1 :: l2 :: l3 :: l4 :: l5 :: ms).map strV)) (hn : (ps ++ [k0, k1]).length ≤ n) (hn2 : n ≤ maxLen) (hK : KidsAre (fun b => b < Bs) w (ps ++ [k0, k1]) cs) (hR : RowIn (fun b => b < Bs) w 4 B (ps ++ [k0, k1]).length cs) (hBw : Bs ≤ w.heap.size) :
    Calls Try.prog 91 [.pointer (some ⟨b, 0, none⟩), .agg #[.int .i64 2, strV x, .slice A (l0 :: l1 :: l2 :: l3 :: l4 :: l5 :: ms).length m, .slice B (ps ++ [k0, k1]).length n]].toArray w fun e w' => e = .returned (.tuple #[]) ∧ Pr Bs b (treeP (.node 2 x (l0 :: l1 :: l2 :: l3 :: l4 :: l5 :: ms) (ps ++ [k0, k1])) s).1 (treeP (.node 2 x (l0 :: l1 :: l2 :: l3 :: l4 :: l5 :: ms) (ps ++ [k0, k1])) s).2 w' ∧ Prn Bs b w w' := by
  simp only [lsum, kbulk] at hl1 hl2
  have hgk : ∀ t, t ∈ ps → ∀ s, Gw (100 * tbulk t) s (treeP t s) := fun t ht s => Gw.tree _ t (Nat.le_refl _) (hks t (by simp [ht])).2.2 s
  have hKL := kbulk_len ps
  simp only [kbulk_app, kbulk] at hl1 hl2
  have hll := lsum_len ms
  have hcl' := hcl
  simp only [List.length_cons] at hcl'
  obtain ⟨cs1, cs2, rfl, hKp, hKq⟩ := hK.part
  have hRp := hR.part hKp.length (by simp)
  have hE := Prn.refl (b := b) hBw
  have hG : s.2.length ≤ s.2.length := Nat.le_refl _
  have hG' : s.1.length ≤ s.1.length := Nat.le_refl _
  obtain ⟨lb, lo, rfl, _, hlb, _⟩ := hL.2 (by simp)
  obtain ⟨kb, ko, rfl, _, hkb, _⟩ := hR.2 (by simp)
  refine enter_fr 161 Try.func91 rfl rfl rfl ?_
  intro a hf
  refine wS fun K1 hK1 => wR ?_
  obtain ⟨w2, b3, he, hB4, hx5, eb6, lb7⟩ := ef_box (P := Try.prog) (t := 26) (x := (.tmp 1)) hf rfl rfl w 0
  refine sV hf rfl he ?_
  clear he hf a; intro a hf
  have ge_b3 := Prn.ge_new hE eb6
  have ne_b_b3 : b ≠ b3 := ne_new hP.lt eb6
  replace hP := hP.chg0 hx5
  replace hE := hE.trans hx5 all0
  clear eb6 lb7
  refine sN <| hK1 _ _ <| wS fun K8 hK8 => wR <| sV hf rfl (ex_fa (k := 0) (r := 0) hf rfl (by kernel_rfl) rfl) fun a hf => sV hf rfl (ex_loadB hf rfl (by kernel_rfl) hB4 rfl) fun a hf => sN <| hK8 _ _ <| wp_block <| wS fun K9 hK9 => wR <| sV hf rfl (ex_eqI (c := false) hf rfl rfl (by decide)) fun a hf => sA hf rfl rfl fun a hf => sN <| hK9 _ _ <| cF hf rfl <| wS fun K10 hK10 => wR <| sV hf rfl (ex_eqI (c := true) hf rfl rfl (by decide)) fun a hf => sA hf rfl rfl fun a hf => sN <| hK10 _ _ <| cT hf rfl <| wS fun K11 hK11 => wR <| sV hf rfl (ex_fa (k := 3) (r := 3) hf rfl (by kernel_rfl) rfl) fun a hf => sV hf rfl (ex_loadB hf rfl (by kernel_rfl) hB4 rfl) fun a hf => sV hf rfl (ex_len hf Try.underlying24 rfl) fun a hf => sA hf rfl rfl fun a hf => sN <| hK11 _ _ <| wS fun K12 hK12 => wR <| sM hf rfl rfl fun a hf => sV hf rfl (ex_fa (k := 2) (r := 2) hf rfl (by kernel_rfl) rfl) fun a hf => sV hf rfl (ex_loadB hf rfl (by kernel_rfl) hB4 rfl) fun a hf => sV hf rfl (ex_index (sz := 1) (k := 0) (r := lo) hf Try.underlying23 (by kernel_rfl) rfl rfl rfl (by simp) rfl) fun a hf => sV hf rfl (ex_load hf rfl (by kernel_rfl) (lead_now hL hE (j := 0) rfl)) fun a hf => st_c hf rfl rfl rfl (by kernel_rfl) (putL (lead := l0) (tok := [100, 101, 102]) hP (by (try simp only [putP, List.length_append, List.length_cons, List.length_nil]); omega) (by (try simp only [putP, List.length_append, List.length_cons, List.length_nil]); omega) hE.now) ?_
  rintro _ w15 ⟨rfl, hPn, hEn⟩
  refine ⟨_, rfl, ?_⟩
  clear hf a; intro a hf
  have hx14 := hEn.chg
  replace hB4 := hB4.chg hx14 (nm_blk hB4 rfl (Ne.symm ne_b_b3))
  replace hE := hE.trans hx14 (fun _ h => .inl h)
  obtain ⟨s13, es13⟩ : ∃ z, z = putP l0 [100, 101, 102] s := ⟨_, rfl⟩
  replace hPn : Pr Bs b (putP l0 [100, 101, 102] s).1 (putP l0 [100, 101, 102] s).2 w15 := hPn
  rw [← es13] at hPn
  have gs13 := put_len l0 [100, 101, 102] s
  rw [← es13] at gs13
  obtain ⟨gs13, gs13'⟩ := gs13
  (try simp only [List.length_cons, List.length_nil, lsum] at gs13 gs13')
  replace hG := nlt gs13 (Nat.add_le_add_right hG _)
  replace hG' := nlt gs13' (Nat.add_le_add_right hG' _)
  clear gs13 gs13'
  clear hP; have hP := hPn; clear hPn hEn
  refine sN <| hK12 _ _ <| wS fun K16 hK16 => ?_
  have s_lb := lead_now hL hE (j := 1) rfl
  have s_hB4 := hB4
  refine dl_start (fun x => x.cell? ⟨b3, 2, none⟩ = w15.cell? ⟨b3, 2, none⟩ ∧ x.cell? ⟨lb, lo + 1, none⟩ = w15.cell? ⟨lb, lo + 1, none⟩ ∧ x.cell? ⟨b3, 1, none⟩ = w15.cell? ⟨b3, 1, none⟩) 8 8 rfl (by kernel_rfl) (by kernel_rfl) ?_
  intro w17 hx18 hsel
  replace hB4 := hB4.chg hx18 nm0
  replace hP := hP.chg0 hx18
  replace hE := hE.trans hx18 all0
  have hS0 : w17.cell? ⟨b3, 2, none⟩ = w15.cell? ⟨b3, 2, none⟩ ∧ w17.cell? ⟨lb, lo + 1, none⟩ = w15.cell? ⟨lb, lo + 1, none⟩ ∧ w17.cell? ⟨b3, 1, none⟩ = w15.cell? ⟨b3, 1, none⟩ := ⟨(hB4.cell 2).trans (s_hB4.cell 2).symm, ((lead_now hL hE (j := 1) rfl).trans s_lb.symm), (hB4.cell 1).trans (s_hB4.cell 1).symm⟩
  refine dM 0 rfl rfl hsel (by kernel_rfl) hf rfl hS0 rfl fun a hf => dV 1 rfl rfl hsel (by kernel_rfl) hf rfl (.inl hS0) (fun x => ex_fa (k := 2) (r := 2) hf rfl (by kernel_rfl) rfl) fun a hf => dL 2 rfl rfl hsel (by kernel_rfl) hf rfl hS0 (fun x hS => ex_load hf rfl (by kernel_rfl) (hS.1.trans ((s_hB4.cell 2).trans rfl))) fun a hf => dV 3 rfl rfl hsel (by kernel_rfl) hf rfl (.inl hS0) (fun x => ex_index (sz := 1) (k := 1) (r := lo + 1) hf Try.underlying23 (by kernel_rfl) rfl rfl rfl (by simp) rfl) fun a hf => dL 4 rfl rfl hsel (by kernel_rfl) hf rfl hS0 (fun x hS => ex_load hf rfl (by kernel_rfl) (hS.2.1.trans s_lb)) fun a hf => dV 5 rfl rfl hsel (by kernel_rfl) hf rfl (.inl hS0) (fun x => ex_fa (k := 1) (r := 1) hf rfl (by kernel_rfl) rfl) fun a hf => dL 6 rfl rfl hsel (by kernel_rfl) hf rfl hS0 (fun x hS => ex_load hf rfl (by kernel_rfl) (hS.2.2.trans ((s_hB4.cell 1).trans rfl))) fun a hf => dl_c 7 (by kernel_rfl) rfl hf rfl rfl rfl (by kernel_rfl) (putL (lead := l1) (tok := x) hP (by (try simp only [putP, List.length_append, List.length_cons, List.length_nil]); omega) (by (try simp only [putP, List.length_append, List.length_cons, List.length_nil]); omega) hE.now) ?_
  rintro _ w21 ⟨rfl, hPn, hEn⟩
  refine ⟨_, rfl, ?_⟩
  clear hf a; intro a hf
  have hx20 := hEn.chg
  replace hB4 := hB4.chg hx20 (nm_blk hB4 rfl (Ne.symm ne_b_b3))
  replace hE := hE.trans hx20 (fun _ h => .inl h)
  obtain ⟨s19, es19⟩ : ∃ z, z = putP l1 x s13 := ⟨_, rfl⟩
  replace hPn : Pr Bs b (putP l1 x s13).1 (putP l1 x s13).2 w21 := hPn
  rw [← es19] at hPn
  have gs19 := put_len l1 x s13
  rw [← es19] at gs19
  obtain ⟨gs19, gs19'⟩ := gs19
  (try simp only [List.length_cons, List.length_nil, lsum] at gs19 gs19')
  replace hG := nlt gs19 (Nat.add_le_add_right hG _)
  replace hG' := nlt gs19' (Nat.add_le_add_right hG' _)
  clear gs19 gs19'
  clear hP; have hP := hPn; clear hPn hEn
  clear hS0
  have hS0 : w21.cell? ⟨b3, 2, none⟩ = w15.cell? ⟨b3, 2, none⟩ ∧ w21.cell? ⟨lb, lo + 1, none⟩ = w15.cell? ⟨lb, lo + 1, none⟩ ∧ w21.cell? ⟨b3, 1, none⟩ = w15.cell? ⟨b3, 1, none⟩ := ⟨(hB4.cell 2).trans (s_hB4.cell 2).symm, ((lead_now hL hE (j := 1) rfl).trans s_lb.symm), (hB4.cell 1).trans (s_hB4.cell 1).symm⟩
  refine ⟨.inl hS0, ?_⟩
  refine dl_done (by kernel_rfl) ?_
  clear hS0 hsel
  refine hK16 _ _ <| wS fun K22 hK22 => wR <| sM hf rfl rfl fun a hf => sV hf rfl (ex_fa (k := 2) (r := 2) hf rfl (by kernel_rfl) rfl) fun a hf => sV hf rfl (ex_loadB hf rfl (by kernel_rfl) hB4 rfl) fun a hf => sV hf rfl (ex_index (sz := 1) (k := 2) (r := lo + 2) hf Try.underlying23 (by kernel_rfl) rfl rfl rfl (by simp) rfl) fun a hf => sV hf rfl (ex_load hf rfl (by kernel_rfl) (lead_now hL hE (j := 2) rfl)) fun a hf => st_c hf rfl rfl rfl (by kernel_rfl) (putL (lead := l2) (tok := [40]) hP (by (try simp only [putP, List.length_append, List.length_cons, List.length_nil]); omega) (by (try simp only [putP, List.length_append, List.length_cons, List.length_nil]); omega) hE.now) ?_
  rintro _ w25 ⟨rfl, hPn, hEn⟩
  refine ⟨_, rfl, ?_⟩
  clear hf a; intro a hf
  have hx24 := hEn.chg
  replace hB4 := hB4.chg hx24 (nm_blk hB4 rfl (Ne.symm ne_b_b3))
  replace hE := hE.trans hx24 (fun _ h => .inl h)
  obtain ⟨s23, es23⟩ : ∃ z, z = putP l2 [40] s19 := ⟨_, rfl⟩
  replace hPn : Pr Bs b (putP l2 [40] s19).1 (putP l2 [40] s19).2 w25 := hPn
  rw [← es23] at hPn
  have gs23 := put_len l2 [40] s19
  rw [← es23] at gs23
  obtain ⟨gs23, gs23'⟩ := gs23
  (try simp only [List.length_cons, List.length_nil, lsum] at gs23 gs23')
  replace hG := nlt gs23 (Nat.add_le_add_right hG _)
  replace hG' := nlt gs23' (Nat.add_le_add_right hG' _)
  clear gs23 gs23'
  clear hP; have hP := hPn; clear hPn hEn
  refine sN <| hK22 _ _ <| wS fun K26 hK26 => ?_
  have s_hB4 := hB4
  refine dl_start (fun x => x.cell? ⟨b3, 0, none⟩ = w25.cell? ⟨b3, 0, none⟩ ∧ x.cell? ⟨b3, 1, none⟩ = w25.cell? ⟨b3, 1, none⟩ ∧ x.cell? ⟨b3, 2, none⟩ = w25.cell? ⟨b3, 2, none⟩ ∧ x.cell? ⟨b3, 3, none⟩ = w25.cell? ⟨b3, 3, none⟩) 8 8 rfl (by kernel_rfl) (by kernel_rfl) ?_
  intro w27 hx28 hsel
  replace hB4 := hB4.chg hx28 nm0
  replace hP := hP.chg0 hx28
  replace hE := hE.trans hx28 all0
  have hS0 : w27.cell? ⟨b3, 0, none⟩ = w25.cell? ⟨b3, 0, none⟩ ∧ w27.cell? ⟨b3, 1, none⟩ = w25.cell? ⟨b3, 1, none⟩ ∧ w27.cell? ⟨b3, 2, none⟩ = w25.cell? ⟨b3, 2, none⟩ ∧ w27.cell? ⟨b3, 3, none⟩ = w25.cell? ⟨b3, 3, none⟩ := ⟨(hB4.cell 0).trans (s_hB4.cell 0).symm, (hB4.cell 1).trans (s_hB4.cell 1).symm, (hB4.cell 2).trans (s_hB4.cell 2).symm, (hB4.cell 3).trans (s_hB4.cell 3).symm⟩
  refine dM 0 rfl rfl hsel (by kernel_rfl) hf rfl hS0 rfl fun a hf => dL 1 rfl rfl hsel (by kernel_rfl) hf rfl hS0 (fun x hS => ex_loadX4 hf rfl (by kernel_rfl) s_hB4 rfl hS.1 hS.2.1 hS.2.2.1 hS.2.2.2) fun a hf => dV 2 rfl rfl hsel (by kernel_rfl) hf rfl (.inl hS0) (fun x => ex_fa (k := 3) (r := 3) hf rfl (by kernel_rfl) rfl) fun a hf => dL 3 rfl rfl hsel (by kernel_rfl) hf rfl hS0 (fun x hS => ex_load hf rfl (by kernel_rfl) (hS.2.2.2.trans ((s_hB4.cell 3).trans rfl))) fun a hf => dM 4 rfl rfl hsel (by kernel_rfl) hf rfl hS0 rfl fun a hf => dV 5 rfl rfl hsel (by kernel_rfl) hf rfl (.inl hS0) (fun x => ex_subI hf rfl rfl rfl (by simp only [List.length_append, List.length_cons, List.length_nil]; omega)) fun a hf => dV 6 rfl rfl hsel (by kernel_rfl) hf rfl (.inl hS0) (fun x => ex_slH (sz := 4) (k := ps.length) hf Try.underlying24 (by kernel_rfl) rfl rfl (by simp only [List.length_append, List.length_cons, List.length_nil]; omega) (by simp only [List.length_append, List.length_cons, List.length_nil] at hn; omega)) fun a hf => ?_
  have hLn := hL.now hE
  have hKn := hKp.now hE
  have hRn := hRp.now hE
  refine dl_c 7 (by kernel_rfl) rfl hf rfl rfl rfl (by kernel_rfl) (plistI ih (s := s23) (ls := (l0 :: l1 :: l2 :: l3 :: l4 :: l5 :: ms)) (ks := ps) (c := 6) (ci := 6) (by decide) (by decide) (by decide) hcl (fun t ht => hks t (by simp [ht])) (by simp only [lsum]; omega) (by simp only [lsum]; omega) hP hLn hKn hRn hE.now) ?_
  rintro _ w31 ⟨rfl, hPn, hEn⟩
  refine ⟨_, rfl, ?_⟩
  clear hf a; intro a hf
  have hx30 := hEn.chg
  replace hB4 := hB4.chg hx30 (nm_blk hB4 rfl (Ne.symm ne_b_b3))
  replace hE := hE.trans hx30 (fun _ h => .inl h)
  obtain ⟨s29, es29⟩ : ∃ z, z = listP (l0 :: l1 :: l2 :: l3 :: l4 :: l5 :: ms) 6 (treesP ps) 0 s23 := ⟨_, rfl⟩
  replace hPn : Pr Bs b (listP (l0 :: l1 :: l2 :: l3 :: l4 :: l5 :: ms) 6 (treesP ps) 0 s23).1 (listP (l0 :: l1 :: l2 :: l3 :: l4 :: l5 :: ms) 6 (treesP ps) 0 s23).2 w31 := hPn
  rw [← es29] at hPn
  have gs29 := list_len (ls := (l0 :: l1 :: l2 :: l3 :: l4 :: l5 :: ms)) (c := 6) (by decide) hgk s23
  rw [← es29] at gs29
  obtain ⟨gs29, gs29'⟩ := gs29
  (try simp only [List.length_cons, List.length_nil, lsum] at gs29 gs29')
  replace hG := nlt gs29 (Nat.add_le_add_right hG _)
  replace hG' := nlt gs29' (Nat.add_le_add_right hG' _)
  clear gs29 gs29'
  clear hP; have hP := hPn; clear hPn hEn
  clear hS0
  have hS0 : w31.cell? ⟨b3, 0, none⟩ = w25.cell? ⟨b3, 0, none⟩ ∧ w31.cell? ⟨b3, 1, none⟩ = w25.cell? ⟨b3, 1, none⟩ ∧ w31.cell? ⟨b3, 2, none⟩ = w25.cell? ⟨b3, 2, none⟩ ∧ w31.cell? ⟨b3, 3, none⟩ = w25.cell? ⟨b3, 3, none⟩ := ⟨(hB4.cell 0).trans (s_hB4.cell 0).symm, (hB4.cell 1).trans (s_hB4.cell 1).symm, (hB4.cell 2).trans (s_hB4.cell 2).symm, (hB4.cell 3).trans (s_hB4.cell 3).symm⟩
  refine ⟨.inl hS0, ?_⟩
  refine dl_done (by kernel_rfl) ?_
  clear hS0 hsel
  refine hK26 _ _ <| wS fun K32 hK32 => wR <| sM hf rfl rfl fun a hf => sV hf rfl (ex_fa (k := 2) (r := 2) hf rfl (by kernel_rfl) rfl) fun a hf => sV hf rfl (ex_loadB hf rfl (by kernel_rfl) hB4 rfl) fun a hf => sV hf rfl (ex_index (sz := 1) (k := 3) (r := lo + 3) hf Try.underlying23 (by kernel_rfl) rfl rfl rfl (by simp) rfl) fun a hf => sV hf rfl (ex_load hf rfl (by kernel_rfl) (lead_now hL hE (j := 3) rfl)) fun a hf => st_c hf rfl rfl rfl (by kernel_rfl) (putL (lead := l3) (tok := [41]) hP (by (try simp only [putP, List.length_append, List.length_cons, List.length_nil]); omega) (by (try simp only [putP, List.length_append, List.length_cons, List.length_nil]); omega) hE.now) ?_
  rintro _ w35 ⟨rfl, hPn, hEn⟩
  refine ⟨_, rfl, ?_⟩
  clear hf a; intro a hf
  have hx34 := hEn.chg
  replace hB4 := hB4.chg hx34 (nm_blk hB4 rfl (Ne.symm ne_b_b3))
  replace hE := hE.trans hx34 (fun _ h => .inl h)
  obtain ⟨s33, es33⟩ : ∃ z, z = putP l3 [41] s29 := ⟨_, rfl⟩
  replace hPn : Pr Bs b (putP l3 [41] s29).1 (putP l3 [41] s29).2 w35 := hPn
  rw [← es33] at hPn
  have gs33 := put_len l3 [41] s29
  rw [← es33] at gs33
  obtain ⟨gs33, gs33'⟩ := gs33
  (try simp only [List.length_cons, List.length_nil, lsum] at gs33 gs33')
  replace hG := nlt gs33 (Nat.add_le_add_right hG _)
  replace hG' := nlt gs33' (Nat.add_le_add_right hG' _)
  clear gs33 gs33'
  clear hP; have hP := hPn; clear hPn hEn
  refine sN <| hK32 _ _ <| wS fun K36 hK36 => wR <| sM hf rfl rfl fun a hf => sV hf rfl (ex_fa (k := 2) (r := 2) hf rfl (by kernel_rfl) rfl) fun a hf => sV hf rfl (ex_loadB hf rfl (by kernel_rfl) hB4 rfl) fun a hf => sV hf rfl (ex_index (sz := 1) (k := 4) (r := lo + 4) hf Try.underlying23 (by kernel_rfl) rfl rfl rfl (by simp) rfl) fun a hf => sV hf rfl (ex_load hf rfl (by kernel_rfl) (lead_now hL hE (j := 4) rfl)) fun a hf => st_c hf rfl rfl rfl (by kernel_rfl) (putL (lead := l4) (tok := [58]) hP (by (try simp only [putP, List.length_append, List.length_cons, List.length_nil]); omega) (by (try simp only [putP, List.length_append, List.length_cons, List.length_nil]); omega) hE.now) ?_
  rintro _ w39 ⟨rfl, hPn, hEn⟩
  refine ⟨_, rfl, ?_⟩
  clear hf a; intro a hf
  have hx38 := hEn.chg
  replace hB4 := hB4.chg hx38 (nm_blk hB4 rfl (Ne.symm ne_b_b3))
  replace hE := hE.trans hx38 (fun _ h => .inl h)
  obtain ⟨s37, es37⟩ : ∃ z, z = putP l4 [58] s33 := ⟨_, rfl⟩
  replace hPn : Pr Bs b (putP l4 [58] s33).1 (putP l4 [58] s33).2 w39 := hPn
  rw [← es37] at hPn
  have gs37 := put_len l4 [58] s33
  rw [← es37] at gs37
  obtain ⟨gs37, gs37'⟩ := gs37
  (try simp only [List.length_cons, List.length_nil, lsum] at gs37 gs37')
  replace hG := nlt gs37 (Nat.add_le_add_right hG _)
  replace hG' := nlt gs37' (Nat.add_le_add_right hG' _)
  clear gs37 gs37'
  clear hP; have hP := hPn; clear hPn hEn
  refine sN <| hK36 _ _ <| wS fun K40 hK40 => wR <| sM hf rfl rfl fun a hf => sV hf rfl (ex_fa (k := 3) (r := 3) hf rfl (by kernel_rfl) rfl) fun a hf => sV hf rfl (ex_loadB hf rfl (by kernel_rfl) hB4 rfl) fun a hf => sM hf rfl rfl fun a hf => sV hf rfl (ex_subI hf rfl rfl rfl (by simp only [List.length_append, List.length_cons, List.length_nil]; omega)) fun a hf => sV hf rfl (ex_index (sz := 4) (k := ps.length) (r := ko + ps.length * 4) hf Try.underlying24 (by kernel_rfl) rfl rfl (by simp only [List.length_append, List.length_cons, List.length_nil]; omega) (by simp only [List.length_append, List.length_cons, List.length_nil]; omega) rfl) fun a hf => ?_
  obtain ⟨d0, d1, d2, d3, hT, hK4⟩ := kid_now hK hR hE (i := ps.length) (t := k0) (by simp)
  have on_T := hT.one
  refine sV hf rfl (ex_loadN (cs := [d0, d1, d2, d3]) (m := 4) hf rfl (by kernel_rfl) rfl hK4) fun a hf => st_c hf rfl rfl rfl (by kernel_rfl) (ih k0 _ Bs b s37 d0 d1 d2 d3 (hks _ (by simp)).1 (hks _ (by simp)).2.1 (hks _ (by simp)).2.2 (by (try simp only [putP, List.length_append, List.length_cons, List.length_nil]); omega) (by (try simp only [putP, List.length_append, List.length_cons, List.length_nil]); omega) hP hT hE.now) ?_
  rintro _ w43 ⟨rfl, hPn, hEn⟩
  refine ⟨_, rfl, ?_⟩
  clear hf a; intro a hf
  have hx42 := hEn.chg
  replace hB4 := hB4.chg hx42 (nm_blk hB4 rfl (Ne.symm ne_b_b3))
  replace hE := hE.trans hx42 (fun _ h => .inl h)
  obtain ⟨s41, es41⟩ : ∃ z, z = treeP k0 s37 := ⟨_, rfl⟩
  replace hPn : Pr Bs b (treeP k0 s37).1 (treeP k0 s37).2 w43 := hPn
  rw [← es41] at hPn
  have gs41 := tree_len (t := k0) (hks _ (by simp)).2.2 s37
  rw [← es41] at gs41
  obtain ⟨gs41, gs41'⟩ := gs41
  (try simp only [List.length_cons, List.length_nil, lsum] at gs41 gs41')
  replace hG := nlt gs41 (Nat.add_le_add_right hG _)
  replace hG' := nlt gs41' (Nat.add_le_add_right hG' _)
  clear gs41 gs41'
  clear hP; have hP := hPn; clear hPn hEn
  refine sN <| hK40 _ _ <| wS fun K44 hK44 => wR <| sM hf rfl rfl fun a hf => sV hf rfl (ex_fa (k := 2) (r := 2) hf rfl (by kernel_rfl) rfl) fun a hf => sV hf rfl (ex_loadB hf rfl (by kernel_rfl) hB4 rfl) fun a hf => sV hf rfl (ex_index (sz := 1) (k := 5) (r := lo + 5) hf Try.underlying23 (by kernel_rfl) rfl rfl rfl (by simp) rfl) fun a hf => sV hf rfl (ex_load hf rfl (by kernel_rfl) (lead_now hL hE (j := 5) rfl)) fun a hf => st_c hf rfl rfl rfl (by kernel_rfl) (putL (lead := l5) (tok := [61]) hP (by (try simp only [putP, List.length_append, List.length_cons, List.length_nil]); omega) (by (try simp only [putP, List.length_append, List.length_cons, List.length_nil]); omega) hE.now) ?_
  rintro _ w47 ⟨rfl, hPn, hEn⟩
  refine ⟨_, rfl, ?_⟩
  clear hf a; intro a hf
  have hx46 := hEn.chg
  replace hB4 := hB4.chg hx46 (nm_blk hB4 rfl (Ne.symm ne_b_b3))
  replace hE := hE.trans hx46 (fun _ h => .inl h)
  obtain ⟨s45, es45⟩ : ∃ z, z = putP l5 [61] s41 := ⟨_, rfl⟩
  replace hPn : Pr Bs b (putP l5 [61] s41).1 (putP l5 [61] s41).2 w47 := hPn
  rw [← es45] at hPn
  have gs45 := put_len l5 [61] s41
  rw [← es45] at gs45
  obtain ⟨gs45, gs45'⟩ := gs45
  (try simp only [List.length_cons, List.length_nil, lsum] at gs45 gs45')
  replace hG := nlt gs45 (Nat.add_le_add_right hG _)
  replace hG' := nlt gs45' (Nat.add_le_add_right hG' _)
  clear gs45 gs45'
  clear hP; have hP := hPn; clear hPn hEn
  refine sN <| hK44 _ _ <| wR <| sM hf rfl rfl fun a hf => sV hf rfl (ex_fa (k := 3) (r := 3) hf rfl (by kernel_rfl) rfl) fun a hf => sV hf rfl (ex_loadB hf rfl (by kernel_rfl) hB4 rfl) fun a hf => sM hf rfl rfl fun a hf => sV hf rfl (ex_subI hf rfl rfl rfl (by simp only [List.length_append, List.length_cons, List.length_nil]; omega)) fun a hf => sV hf rfl (ex_index (sz := 4) (k := (ps.length + 1)) (r := ko + (ps.length + 1) * 4) hf Try.underlying24 (by kernel_rfl) rfl rfl (by simp only [List.length_append, List.length_cons, List.length_nil]; omega) (by simp only [List.length_append, List.length_cons, List.length_nil]; omega) rfl) fun a hf => ?_
  obtain ⟨d0, d1, d2, d3, hT, hK4⟩ := kid_now hK hR hE (i := (ps.length + 1)) (t := k1) (by simp)
  have on_T := hT.one
  refine sV hf rfl (ex_loadN (cs := [d0, d1, d2, d3]) (m := 4) hf rfl (by kernel_rfl) rfl hK4) fun a hf => st_c hf rfl rfl rfl (by kernel_rfl) (ih k1 _ Bs b s45 d0 d1 d2 d3 (hks _ (by simp)).1 (hks _ (by simp)).2.1 (hks _ (by simp)).2.2 (by (try simp only [putP, List.length_append, List.length_cons, List.length_nil]); omega) (by (try simp only [putP, List.length_append, List.length_cons, List.length_nil]); omega) hP hT hE.now) ?_
  rintro _ w50 ⟨rfl, hPn, hEn⟩
  refine ⟨_, rfl, ?_⟩
  clear hf a; intro a hf
  have hx49 := hEn.chg
  replace hB4 := hB4.chg hx49 (nm_blk hB4 rfl (Ne.symm ne_b_b3))
  replace hE := hE.trans hx49 (fun _ h => .inl h)
  obtain ⟨s48, es48⟩ : ∃ z, z = treeP k1 s45 := ⟨_, rfl⟩
  replace hPn : Pr Bs b (treeP k1 s45).1 (treeP k1 s45).2 w50 := hPn
  rw [← es48] at hPn
  have gs48 := tree_len (t := k1) (hks _ (by simp)).2.2 s45
  rw [← es48] at gs48
  obtain ⟨gs48, gs48'⟩ := gs48
  (try simp only [List.length_cons, List.length_nil, lsum] at gs48 gs48')
  replace hG := nlt gs48 (Nat.add_le_add_right hG _)
  replace hG' := nlt gs48' (Nat.add_le_add_right hG' _)
  clear gs48 gs48'
  clear hP; have hP := hPn; clear hPn hEn
  refine sN ?_
  have eq : treeP (.node 2 x (l0 :: l1 :: l2 :: l3 :: l4 :: l5 :: ms) (ps ++ [k0, k1])) s = s48 := by subst es48; subst es45; subst es41; subst es37; subst es33; subst es29; subst es23; subst es19; subst es13; rw [treeP, treesP_app, treesP, treesP, treesP, node2]; rfl
  rw [eq]
  try simp only [Exit.then, Exit.inBlock]
  exact end_of (rs := []) hf rfl rfl ⟨rfl, hP, hE⟩
end Go.Proofs.Ythpjpngfghcmcaa
namespace Go.Proofs.Ythpjpngfghcmcaa
open Go.RowKit Lx Sx
set_option linter.unusedVariables false
set_option linter.unusedSimpArgs false
set_option maxRecDepth 100000
set_option maxHeartbeats 4000000
def foldP (ks : List Tree) (s : WS) : WS := (treesP ks).foldl (fun s f => f s) s
theorem fold_step {ks : List Tree} {i : Nat} (s : WS) (h : i < ks.length) : foldP (ks.take (i + 1)) s = treeP ks[i] (foldP (ks.take i) s) := by
  unfold foldP
  rw [List.take_succ_eq_append_getElem h, treesP_app, treesP, treesP, List.foldl_append]; rfl
theorem d1 {N : Nat} (ih : TreeOk N) {w : World} {Bs b : Nat} {s : WS} {x : List UInt8} {l0 l1 l2 : List UInt8} {ks : List Tree} {cs : List Value} {A B : Option Addr} {m n : Nat} (hks : ∀ t, t ∈ ks → tsize t ≤ N ∧ shapedT t = true ∧ leadedT t = true)
    (hl1 : s.2.length + 100 * (x.length + lsum [l0, l1, l2] + kbulk ks + 1) ≤ 1000000000000) (hl2 : s.1.length + 100 * (x.length + lsum [l0, l1, l2] + kbulk ks + 1) ≤ 1000000000000) (hP : Pr Bs b s.1 s.2 w) (hL : RowIn (fun b => b < Bs) w 1 A [l0, l1, l2].length ([l0, l1, l2].map strV)) (hn : ks.length ≤ n) (hn2 : n ≤ maxLen) (hK : KidsAre (fun b => b < Bs) w ks cs) (hR : RowIn (fun b => b < Bs) w 4 B ks.length cs) (hBw : Bs ≤ w.heap.size) :
    Calls Try.prog 91 [.pointer (some ⟨b, 0, none⟩), .agg #[.int .i64 1, strV x, .slice A [l0, l1, l2].length m, .slice B ks.length n]].toArray w fun e w' => e = .returned (.tuple #[]) ∧ Pr Bs b (treeP (.node 1 x [l0, l1, l2] ks) s).1 (treeP (.node 1 x [l0, l1, l2] ks) s).2 w' ∧ Prn Bs b w w' := by
  simp only [lsum, kbulk] at hl1 hl2
  have hgk : ∀ t, t ∈ ks → ∀ s, Gw (100 * tbulk t) s (treeP t s) := fun t ht s => Gw.tree _ t (Nat.le_refl _) (hks t ht).2.2 s
  have hKL := kbulk_len ks
  have hE := Prn.refl (b := b) hBw
  have hG : s.2.length ≤ s.2.length := Nat.le_refl _
  have hG' : s.1.length ≤ s.1.length := Nat.le_refl _
  obtain ⟨lb, lo, rfl, _, hlb, _⟩ := hL.2 (by simp)
  refine enter_fr 161 Try.func91 rfl rfl rfl ?_
  intro a hf
  refine wS fun K1 hK1 => ?_
  refine wR ?_
  obtain ⟨w2, b3, he, hB4, hx5, eb6, lb7⟩ := ef_box (P := Try.prog) (t := 26) (x := (.tmp 1)) hf rfl rfl w 0
  refine sV hf rfl he ?_
  clear he hf a; intro a hf
  have ge_b3 := Prn.ge_new hE eb6
  have ne_b_b3 : b ≠ b3 := ne_new hP.lt eb6
  replace hP := hP.chg0 hx5
  replace hE := hE.trans hx5 all0
  clear eb6 lb7
  refine sN ?_
  refine hK1 _ _ ?_
  refine wS fun K8 hK8 => ?_
  refine wR ?_
  refine sV hf rfl (ex_fa (k := 0) (r := 0) hf rfl (by kernel_rfl) rfl) ?_
  clear hf a; intro a hf
  refine sV hf rfl (ex_loadB hf rfl (by kernel_rfl) hB4 rfl) ?_
  clear hf a; intro a hf
  refine sN ?_
  refine hK8 _ _ ?_
  refine wp_block ?_
  refine wS fun K9 hK9 => ?_
  refine wR ?_
  refine sV hf rfl (ex_eqI (c := true) hf rfl rfl (by decide)) ?_
  clear hf a; intro a hf
  refine sA hf rfl rfl ?_
  clear hf a; intro a hf
  refine sN ?_
  refine hK9 _ _ ?_
  refine cT hf rfl ?_
  refine wS fun K10 hK10 => ?_
  refine wR ?_
  refine sM hf rfl rfl ?_
  clear hf a; intro a hf
  refine sV hf rfl (ex_fa (k := 2) (r := 2) hf rfl (by kernel_rfl) rfl) ?_
  clear hf a; intro a hf
  refine sV hf rfl (ex_loadB hf rfl (by kernel_rfl) hB4 rfl) ?_
  clear hf a; intro a hf
  refine sV hf rfl (ex_index (sz := 1) (k := 0) (r := lo) hf Try.underlying23 (by kernel_rfl) rfl rfl rfl (by simp) rfl) ?_
  clear hf a; intro a hf
  refine sV hf rfl (ex_load hf rfl (by kernel_rfl) (lead_now hL hE (j := 0) rfl)) ?_
  clear hf a; intro a hf
  refine st_c hf rfl rfl rfl (by kernel_rfl) (putL (lead := l0) (tok := [109, 111, 100, 117, 108, 101]) hP (by (try simp only [putP, List.length_append, List.length_cons, List.length_nil]); omega) (by (try simp only [putP, List.length_append, List.length_cons, List.length_nil]); omega) hE.now) ?_
  rintro _ w13 ⟨rfl, hPn, hEn⟩
  refine ⟨_, rfl, ?_⟩
  clear hf a; intro a hf
  have hx12 := hEn.chg
  replace hB4 := hB4.chg hx12 (nm_blk hB4 rfl (Ne.symm ne_b_b3))
  replace hE := hE.trans hx12 (fun _ h => .inl h)
  obtain ⟨s11, es11⟩ : ∃ z, z = putP l0 [109, 111, 100, 117, 108, 101] s := ⟨_, rfl⟩
  replace hPn : Pr Bs b (putP l0 [109, 111, 100, 117, 108, 101] s).1 (putP l0 [109, 111, 100, 117, 108, 101] s).2 w13 := hPn
  rw [← es11] at hPn
  have gs11 := put_len l0 [109, 111, 100, 117, 108, 101] s
  rw [← es11] at gs11
  obtain ⟨gs11, gs11'⟩ := gs11
  (try simp only [List.length_cons, List.length_nil, lsum] at gs11 gs11')
  replace hG := nlt gs11 (Nat.add_le_add_right hG _)
  replace hG' := nlt gs11' (Nat.add_le_add_right hG' _)
  clear gs11 gs11'
  clear hP; have hP := hPn; clear hPn hEn
  refine sN ?_
  refine hK10 _ _ ?_
  refine wS fun K14 hK14 => ?_
  have s_lb := lead_now hL hE (j := 1) rfl
  have s_hB4 := hB4
  refine dl_start (fun x => x.cell? ⟨b3, 2, none⟩ = w13.cell? ⟨b3, 2, none⟩ ∧ x.cell? ⟨lb, lo + 1, none⟩ = w13.cell? ⟨lb, lo + 1, none⟩ ∧ x.cell? ⟨b3, 1, none⟩ = w13.cell? ⟨b3, 1, none⟩) 8 8 rfl (by kernel_rfl) (by kernel_rfl) ?_
  intro w15 hx16 hsel
  replace hB4 := hB4.chg hx16 nm0
  replace hP := hP.chg0 hx16
  replace hE := hE.trans hx16 all0
  have hS0 : w15.cell? ⟨b3, 2, none⟩ = w13.cell? ⟨b3, 2, none⟩ ∧ w15.cell? ⟨lb, lo + 1, none⟩ = w13.cell? ⟨lb, lo + 1, none⟩ ∧ w15.cell? ⟨b3, 1, none⟩ = w13.cell? ⟨b3, 1, none⟩ := ⟨(hB4.cell 2).trans (s_hB4.cell 2).symm, ((lead_now hL hE (j := 1) rfl).trans s_lb.symm), (hB4.cell 1).trans (s_hB4.cell 1).symm⟩
  refine dM 0 rfl rfl hsel (by kernel_rfl) hf rfl hS0 rfl ?_
  clear hf a; intro a hf
  refine dV 1 rfl rfl hsel (by kernel_rfl) hf rfl (.inl hS0) (fun x => ex_fa (k := 2) (r := 2) hf rfl (by kernel_rfl) rfl) ?_
  clear hf a; intro a hf
  refine dL 2 rfl rfl hsel (by kernel_rfl) hf rfl hS0 (fun x hS => ex_load hf rfl (by kernel_rfl) (hS.1.trans ((s_hB4.cell 2).trans rfl))) ?_
  clear hf a; intro a hf
  refine dV 3 rfl rfl hsel (by kernel_rfl) hf rfl (.inl hS0) (fun x => ex_index (sz := 1) (k := 1) (r := lo + 1) hf Try.underlying23 (by kernel_rfl) rfl rfl rfl (by simp) rfl) ?_
  clear hf a; intro a hf
  refine dL 4 rfl rfl hsel (by kernel_rfl) hf rfl hS0 (fun x hS => ex_load hf rfl (by kernel_rfl) (hS.2.1.trans s_lb)) ?_
  clear hf a; intro a hf
  refine dV 5 rfl rfl hsel (by kernel_rfl) hf rfl (.inl hS0) (fun x => ex_fa (k := 1) (r := 1) hf rfl (by kernel_rfl) rfl) ?_
  clear hf a; intro a hf
  refine dL 6 rfl rfl hsel (by kernel_rfl) hf rfl hS0 (fun x hS => ex_load hf rfl (by kernel_rfl) (hS.2.2.trans ((s_hB4.cell 1).trans rfl))) ?_
  clear hf a; intro a hf
  refine dl_c 7 (by kernel_rfl) rfl hf rfl rfl rfl (by kernel_rfl) (putL (lead := l1) (tok := x) hP (by (try simp only [putP, List.length_append, List.length_cons, List.length_nil]); omega) (by (try simp only [putP, List.length_append, List.length_cons, List.length_nil]); omega) hE.now) ?_
  rintro _ w19 ⟨rfl, hPn, hEn⟩
  refine ⟨_, rfl, ?_⟩
  clear hf a; intro a hf
  have hx18 := hEn.chg
  replace hB4 := hB4.chg hx18 (nm_blk hB4 rfl (Ne.symm ne_b_b3))
  replace hE := hE.trans hx18 (fun _ h => .inl h)
  obtain ⟨s17, es17⟩ : ∃ z, z = putP l1 x s11 := ⟨_, rfl⟩
  replace hPn : Pr Bs b (putP l1 x s11).1 (putP l1 x s11).2 w19 := hPn
  rw [← es17] at hPn
  have gs17 := put_len l1 x s11
  rw [← es17] at gs17
  obtain ⟨gs17, gs17'⟩ := gs17
  (try simp only [List.length_cons, List.length_nil, lsum] at gs17 gs17')
  replace hG := nlt gs17 (Nat.add_le_add_right hG _)
  replace hG' := nlt gs17' (Nat.add_le_add_right hG' _)
  clear gs17 gs17'
  clear hP; have hP := hPn; clear hPn hEn
  clear hS0
  have hS0 : w19.cell? ⟨b3, 2, none⟩ = w13.cell? ⟨b3, 2, none⟩ ∧ w19.cell? ⟨lb, lo + 1, none⟩ = w13.cell? ⟨lb, lo + 1, none⟩ ∧ w19.cell? ⟨b3, 1, none⟩ = w13.cell? ⟨b3, 1, none⟩ := ⟨(hB4.cell 2).trans (s_hB4.cell 2).symm, ((lead_now hL hE (j := 1) rfl).trans s_lb.symm), (hB4.cell 1).trans (s_hB4.cell 1).symm⟩
  refine ⟨.inl hS0, ?_⟩
  refine dl_done (by kernel_rfl) ?_
  clear hS0 hsel
  refine hK14 _ _ ?_
  refine wS fun K20 hK20 => ?_
  refine wS fun K21 hK21 => ?_
  refine wR ?_
  refine sV hf rfl (ex_fa (k := 3) (r := 3) hf rfl (by kernel_rfl) rfl) ?_
  clear hf a; intro a hf
  refine sV hf rfl (ex_loadB hf rfl (by kernel_rfl) hB4 rfl) ?_
  clear hf a; intro a hf
  refine sV hf rfl (ex_len hf Try.underlying24 rfl) ?_
  clear hf a; intro a hf
  refine sM hf rfl rfl ?_
  clear hf a; intro a hf
  refine sN ?_
  refine hK21 _ _ ?_
  refine wp_block ?_
  refine wp_loop_ghost (fun g a w' => ∃ i, Fr a 161 (fm [(0, .pointer (some ⟨b, 0, none⟩)), (3, .pointer (some ⟨b3, 0, none⟩)), (26, .slice B ks.length n), (27, .int .i64 (ks.length : Nat)), (28, .int .i64 (i : Nat))]) ∧ Prn Bs b w w' ∧ Blk w' b3 26 [.int .i64 1, strV x, .slice (some ⟨lb, lo, none⟩) [l0, l1, l2].length m, .slice B ks.length n] ∧ Pr Bs b (foldP (ks.take i) s17).1 (foldP (ks.take i) s17).2 w' ∧ i ≤ ks.length ∧ g = ks.length - i) _ ⟨0, hf.pick ⟨rfl, rfl, rfl, rfl, rfl, trivial⟩, hE, hB4, by simpa [foldP, treesP] using hP, Nat.zero_le _, rfl⟩ ?_
  obtain ⟨b5, eb5⟩ : ∃ x, b3 = x := ⟨_, rfl⟩
  rw [eb5]
  have ge_b5 : w.heap.size ≤ b5 := eb5 ▸ ge_b3
  have ne_b_b5 : b ≠ b5 := eb5 ▸ ne_b_b3
  clear eb5 hf a hP
  intro g0 a w' hI
  obtain ⟨i, hf, hE, hB5, hP, hi, rfl⟩ := hI
  by_cases hlt : i < ks.length
  obtain ⟨kb, ko, rfl, _, hkb, _⟩ := hR.2 (by omega)
  have hki : ks[i]? = some ks[i] := List.getElem?_eq_getElem hlt
  obtain ⟨d0, d1, d2, d3, hT, hK4⟩ := kid_now hK hR hE hki
  have on_T := hT.one
  have hmem : ks[i] ∈ ks := List.getElem_mem hlt
  have htt := kbulk_step hlt
  have hst := fold_step s17 hlt
  have hF := Gw.fold (ks.take i) (fun t ht => hgk t (List.mem_of_mem_take ht)) s17
  have hF1 : (foldP (ks.take i) s17).2.length ≤ _ := hF.1
  have hF2 : (foldP (ks.take i) s17).1.length ≤ _ := hF.2
  clear hF
  refine wS fun K22 hK22 => ?_
  refine wR ?_
  refine sV hf rfl (ex_ltI (c := true) hf rfl rfl (by simp; omega)) ?_
  clear hf a; intro a hf
  refine sN ?_
  refine hK22 _ _ ?_
  refine wS fun K23 hK23 => ?_
  refine cT hf rfl ?_
  refine wp_skip ?_
  refine hK23 _ _ ?_
  refine wS fun K24 hK24 => ?_
  refine wp_block ?_
  refine wS fun K25 hK25 => ?_
  refine wR ?_
  refine sV hf rfl (ex_index (sz := 4) (k := i) (r := ko + i * 4) hf Try.underlying24 (by kernel_rfl) rfl rfl rfl hlt rfl) ?_
  clear hf a; intro a hf
  refine sV hf rfl (ex_loadN (cs := [d0, d1, d2, d3]) (m := 4) hf rfl (by kernel_rfl) rfl hK4) ?_
  clear hf a; intro a hf
  obtain ⟨w26, b27, he, hB28, hx29, eb30, lb31⟩ := eT a w' 0
  refine sV hf rfl he ?_
  clear he hf a; intro a hf
  have ne_b5_b27 : b5 ≠ b27 := ne_new hB5.lt eb30
  have ge_b27 := Prn.ge_new hE eb30
  have ne_b_b27 : b ≠ b27 := ne_new hP.lt eb30
  replace hB5 := hB5.chg hx29 nm0
  replace hP := hP.chg0 hx29
  replace hT := hT.chg hx29 (fun k hb hlt2 => nm0)
  replace hE := hE.trans hx29 all0
  clear eb30 lb31
  obtain ⟨w32, he, hB33, hx34⟩ := eN (.tmp 5) (.tmp 31) hf rfl rfl rfl on_T hB28 rfl 0
  refine st_s hf rfl rfl he ?_
  clear he hf a; intro a hf
  replace hB5 := hB5.chg hx34 (nmc ne_b5_b27 nm0)
  replace hP := hP.chgN hB28 (by decide) ne_b_b27 hx34
  replace hT := hT.chg hx34 (fun k hb hlt2 => (nmc (by have := hE.base; omega) nm0))
  replace hE := hE.trans hx34 (allc (.inr ge_b27) all0)
  clear hB28
  refine sN ?_
  refine hK25 _ _ ?_
  refine wR ?_
  refine sM hf rfl rfl ?_
  clear hf a; intro a hf
  refine sV hf rfl (ex_loadBN (m := 4) hf rfl (by kernel_rfl) hB33 rfl) ?_
  clear hf a; intro a hf
  refine st_c hf rfl rfl rfl (by kernel_rfl) (ih ks[i] _ Bs b (foldP (ks.take i) s17) d0 d1 d2 d3 (hks _ hmem).1 (hks _ hmem).2.1 (hks _ hmem).2.2 (by omega) (by omega) hP hT hE.now) ?_
  rintro _ w36 ⟨rfl, hPn, hEn⟩
  refine ⟨_, rfl, ?_⟩
  clear hf a; intro a hf
  have hx35 := hEn.chg
  replace hB5 := hB5.chg hx35 (nm_blk hB5 rfl (Ne.symm ne_b_b5))
  replace hB33 := hB33.chg hx35 (nm_blk hB33 rfl (Ne.symm ne_b_b27))
  replace hT := hT.chg hx35 (fun k hb hlt2 => (nm_low hb))
  replace hE := hE.trans hx35 (fun _ h => .inl h)
  clear hP; have hP : Pr Bs b (treeP ks[i] (foldP (ks.take i) s17)).1 (treeP ks[i] (foldP (ks.take i) s17)).2 w36 := hPn; clear hPn hEn
  refine sN ?_
  refine hK24 _ _ ?_
  refine wR ?_
  refine sV hf rfl (ex_addI hf rfl rfl rfl (by omega)) ?_
  clear hf a; intro a hf
  refine sM hf rfl rfl ?_
  clear hf a; intro a hf
  refine sN ?_
  rw [← hst] at hP
  exact ⟨_, (by omega : ks.length - (i + 1) < ks.length - i), i + 1, hf.pick ⟨rfl, rfl, rfl, rfl, rfl, trivial⟩, hE, hB5, hP, by omega, rfl⟩
  have hz : ks.take i = ks := List.take_of_length_le (by omega)
  rw [hz] at hP
  obtain ⟨sF, esF⟩ : ∃ z, z = foldP ks s17 := ⟨_, rfl⟩
  rw [← esF] at hP
  have hF := Gw.fold ks hgk s17
  have hF1 : (foldP ks s17).2.length ≤ _ := hF.1
  have hF2 : (foldP ks s17).1.length ≤ _ := hF.2
  rw [← esF] at hF1 hF2
  clear hF
  replace hG := nlt hF1 (Nat.add_le_add_right hG _)
  replace hG' := nlt hF2 (Nat.add_le_add_right hG' _)
  clear hF1 hF2
  refine wS fun K37 hK37 => ?_
  refine wR ?_
  refine sV hf rfl (ex_ltI (c := false) hf rfl rfl (by simp; omega)) ?_
  clear hf a; intro a hf
  refine sN ?_
  refine hK37 _ _ ?_
  refine wS fun K38 hK38 => ?_
  refine cF hf rfl ?_
  refine wp_exit ?_
  simp only [Exit.then, Exit.inBlock, ↓reduceIte, Nat.reduceEqDiff]
  refine hK20 _ _ ?_
  have s_lb := lead_now hL hE (j := 2) rfl
  have s_hB5 := hB5
  refine dl_start (fun x => x.cell? ⟨b5, 2, none⟩ = w'.cell? ⟨b5, 2, none⟩ ∧ x.cell? ⟨lb, lo + 2, none⟩ = w'.cell? ⟨lb, lo + 2, none⟩) 8 8 rfl (by kernel_rfl) (by kernel_rfl) ?_
  intro w39 hx40 hsel
  replace hB5 := hB5.chg hx40 nm0
  replace hP := hP.chg0 hx40
  replace hE := hE.trans hx40 all0
  have hS0 : w39.cell? ⟨b5, 2, none⟩ = w'.cell? ⟨b5, 2, none⟩ ∧ w39.cell? ⟨lb, lo + 2, none⟩ = w'.cell? ⟨lb, lo + 2, none⟩ := ⟨(hB5.cell 2).trans (s_hB5.cell 2).symm, ((lead_now hL hE (j := 2) rfl).trans s_lb.symm)⟩
  refine dM 0 rfl rfl hsel (by kernel_rfl) hf rfl hS0 rfl ?_
  clear hf a; intro a hf
  refine dV 1 rfl rfl hsel (by kernel_rfl) hf rfl (.inl hS0) (fun x => ex_nil hf rfl) ?_
  clear hf a; intro a hf
  refine dV 2 rfl rfl hsel (by kernel_rfl) hf rfl (.inl hS0) (fun x => ex_fa (k := 0) (r := 0) hf rfl (by kernel_rfl) rfl) ?_
  clear hf a; intro a hf
  refine dV 3 rfl rfl hsel (by kernel_rfl) hf rfl (.inl hS0) (fun x => ex_fa (k := 2) (r := 2) hf rfl (by kernel_rfl) rfl) ?_
  clear hf a; intro a hf
  refine dL 4 rfl rfl hsel (by kernel_rfl) hf rfl hS0 (fun x hS => ex_load hf rfl (by kernel_rfl) (hS.1.trans ((s_hB5.cell 2).trans rfl))) ?_
  clear hf a; intro a hf
  refine dV 5 rfl rfl hsel (by kernel_rfl) hf rfl (.inl hS0) (fun x => ex_index (sz := 1) (k := 2) (r := lo + 2) hf Try.underlying23 (by kernel_rfl) rfl rfl rfl (by simp) rfl) ?_
  clear hf a; intro a hf
  refine dL 6 rfl rfl hsel (by kernel_rfl) hf rfl hS0 (fun x hS => ex_load hf rfl (by kernel_rfl) (hS.2.trans s_lb)) ?_
  clear hf a; intro a hf
  refine dl_c 7 (by kernel_rfl) rfl hf rfl rfl rfl (by kernel_rfl) (wsL (s := l2) hP (by omega) hE.now) ?_
  rintro _ w42 ⟨rfl, hPn, hx41, _⟩
  refine ⟨_, rfl, ?_⟩
  clear hf a; intro a hf
  replace hB5 := hB5.chg hx41 (nm_blk hB5 rfl (Ne.symm ne_b_b5))
  replace hE := hE.trans hx41 (fun _ h => .inl h)
  clear hP; have hP := hPn; clear hPn
  clear hS0
  have hS0 : w42.cell? ⟨b5, 2, none⟩ = w'.cell? ⟨b5, 2, none⟩ ∧ w42.cell? ⟨lb, lo + 2, none⟩ = w'.cell? ⟨lb, lo + 2, none⟩ := ⟨(hB5.cell 2).trans (s_hB5.cell 2).symm, ((lead_now hL hE (j := 2) rfl).trans s_lb.symm)⟩
  refine ⟨.inl hS0, ?_⟩
  refine dl_done (by kernel_rfl) ?_
  clear hS0 hsel
  have eq : treeP (.node 1 x [l0, l1, l2] ks) s = (sF.1, sF.2 ++ l2) := by subst esF; subst es17; subst es11; rw [treeP]; rfl
  rw [eq]
  try simp only [Exit.then, Exit.inBlock]
  exact end_of (rs := []) hf rfl rfl ⟨rfl, hP, hE⟩
theorem t1 {N : Nat} (ih : TreeOk N) {w : World} {Bs b : Nat} {s : WS} {x : List UInt8} {l0 l1 l2 : List UInt8} {ks : List Tree} {cs : List Value} {A B : Option Addr} {m n : Nat} (hks : ∀ t, t ∈ ks → tsize t ≤ N ∧ shapedT t = true ∧ leadedT t = true)
    (hl1 : s.2.length + 100 * (x.length + lsum [l0, l1, l2] + kbulk ks + 1) ≤ 1000000000000) (hl2 : s.1.length + 100 * (x.length + lsum [l0, l1, l2] + kbulk ks + 1) ≤ 1000000000000) (hP : Pr Bs b s.1 s.2 w) (hL : RowIn (fun b => b < Bs) w 1 A [l0, l1, l2].length ([l0, l1, l2].map strV)) (hn : ks.length ≤ n) (hn2 : n ≤ maxLen) (hK : KidsAre (fun b => b < Bs) w ks cs) (hR : RowIn (fun b => b < Bs) w 4 B ks.length cs) (hBw : Bs ≤ w.heap.size) :
    Calls Try.prog 61 [.pointer (some ⟨b, 0, none⟩), .agg #[.int .i64 1, strV x, .slice A [l0, l1, l2].length m, .slice B ks.length n]].toArray w fun e w' => e = .returned (.tuple #[]) ∧ Pr Bs b (treeP (.node 1 x [l0, l1, l2] ks) s).1 (treeP (.node 1 x [l0, l1, l2] ks) s).2 w' ∧ Prn Bs b w w' := by
  have hE := Prn.refl (b := b) hBw
  have hG : s.2.length ≤ s.2.length := Nat.le_refl _
  have hG' : s.1.length ≤ s.1.length := Nat.le_refl _
  obtain ⟨lb, lo, rfl, _, hlb, _⟩ := hL.2 (by simp)
  refine enter_fr 216 Try.func61 rfl rfl rfl ?_
  intro a hf
  refine wS fun K1 hK1 => wR ?_
  obtain ⟨w2, b3, he, hB4, hx5, eb6, lb7⟩ := ef_box (P := Try.prog) (t := 26) (x := (.tmp 1)) hf rfl rfl w 0
  refine sV hf rfl he ?_
  clear he hf a; intro a hf
  have ge_b3 := Prn.ge_new hE eb6
  have ne_b_b3 : b ≠ b3 := ne_new hP.lt eb6
  replace hP := hP.chg0 hx5
  replace hE := hE.trans hx5 all0
  clear eb6 lb7
  refine sN <| hK1 _ _ <| wS fun K8 hK8 => wR <| sV hf rfl (ex_fa (k := 0) (r := 0) hf rfl (by kernel_rfl) rfl) fun a hf => sV hf rfl (ex_loadB hf rfl (by kernel_rfl) hB4 rfl) fun a hf => sN <| hK8 _ _ <| wp_block <| wS fun K9 hK9 => wS fun K10 hK10 => wR <| sV hf rfl (ex_eqI (c := true) hf rfl rfl (by decide)) fun a hf => sA hf rfl rfl fun a hf => sN <| hK10 _ _ <| cT hf rfl <| wp_skip <| hK9 _ _ <| cT hf rfl <| wR <| sM hf rfl rfl fun a hf => sV hf rfl (ex_loadBN (m := 4) hf rfl (by kernel_rfl) hB4 rfl) fun a hf => ?_
  have hLn := hL.now hE
  have hKn := hK.now hE
  have hRn := hR.now hE
  refine st_c hf rfl rfl rfl (by kernel_rfl) (d1 ih  hks hl1 hl2 hP hLn hn hn2 hKn hRn hE.now) ?_
  rintro _ w13 ⟨rfl, hPn, hEn⟩
  refine ⟨_, rfl, ?_⟩
  clear hf a; intro a hf
  have hx12 := hEn.chg
  replace hB4 := hB4.chg hx12 (nm_blk hB4 rfl (Ne.symm ne_b_b3))
  replace hE := hE.trans hx12 (fun _ h => .inl h)
  clear hP; have hP := hPn; clear hPn hEn
  refine sN ?_
  have eq : treeP (.node 1 x [l0, l1, l2] ks) s = treeP (.node 1 x [l0, l1, l2] ks) s := by rfl
  rw [eq]
  try simp only [Exit.then, Exit.inBlock]
  exact end_of (rs := []) hf rfl rfl ⟨rfl, hP, hE⟩
theorem t2 {N : Nat} (ih : TreeOk N) {w : World} {Bs b : Nat} {s : WS} {x : List UInt8} {l0 l1 l2 l3 l4 l5 : List UInt8} {ms : List (List UInt8)} {k0 k1 : Tree} {ps : List Tree} {cs : List Value} {A B : Option Addr} {m n : Nat} (hcl : 6 + ps.length ≤ (l0 :: l1 :: l2 :: l3 :: l4 :: l5 :: ms).length + 1) (hks : ∀ t, t ∈ (ps ++ [k0, k1]) → tsize t ≤ N ∧ shapedT t = true ∧ leadedT t = true)
    (hl1 : s.2.length + 100 * (x.length + lsum (l0 :: l1 :: l2 :: l3 :: l4 :: l5 :: ms) + kbulk (ps ++ [k0, k1]) + 1) ≤ 1000000000000) (hl2 : s.1.length + 100 * (x.length + lsum (l0 :: l1 :: l2 :: l3 :: l4 :: l5 :: ms) + kbulk (ps ++ [k0, k1]) + 1) ≤ 1000000000000) (hP : Pr Bs b s.1 s.2 w) (hL : RowIn (fun b => b < Bs) w 1 A (l0 :: l1 :: l2 :: l3 :: l4 :: l5 :: ms).length ((l0 :: l1 :: l2 :: l3 :: l4 :: l5 :: ms).map strV)) (hn : (ps ++ [k0, k1]).length ≤ n) (hn2 : n ≤ maxLen) (hK : KidsAre (fun b => b < Bs) w (ps ++ [k0, k1]) cs) (hR : RowIn (fun b => b < Bs) w 4 B (ps ++ [k0, k1]).length cs) (hBw : Bs ≤ w.heap.size) :
    Calls Try.prog 61 [.pointer (some ⟨b, 0, none⟩), .agg #[.int .i64 2, strV x, .slice A (l0 :: l1 :: l2 :: l3 :: l4 :: l5 :: ms).length m, .slice B (ps ++ [k0, k1]).length n]].toArray w fun e w' => e = .returned (.tuple #[]) ∧ Pr Bs b (treeP (.node 2 x (l0 :: l1 :: l2 :: l3 :: l4 :: l5 :: ms) (ps ++ [k0, k1])) s).1 (treeP (.node 2 x (l0 :: l1 :: l2 :: l3 :: l4 :: l5 :: ms) (ps ++ [k0, k1])) s).2 w' ∧ Prn Bs b w w' := by
  have hE := Prn.refl (b := b) hBw
  have hG : s.2.length ≤ s.2.length := Nat.le_refl _
  have hG' : s.1.length ≤ s.1.length := Nat.le_refl _
  obtain ⟨lb, lo, rfl, _, hlb, _⟩ := hL.2 (by simp)
  obtain ⟨kb, ko, rfl, _, hkb, _⟩ := hR.2 (by simp)
  refine enter_fr 216 Try.func61 rfl rfl rfl ?_
  intro a hf
  refine wS fun K1 hK1 => wR ?_
  obtain ⟨w2, b3, he, hB4, hx5, eb6, lb7⟩ := ef_box (P := Try.prog) (t := 26) (x := (.tmp 1)) hf rfl rfl w 0
  refine sV hf rfl he ?_
  clear he hf a; intro a hf
  have ge_b3 := Prn.ge_new hE eb6
  have ne_b_b3 : b ≠ b3 := ne_new hP.lt eb6
  replace hP := hP.chg0 hx5
  replace hE := hE.trans hx5 all0
  clear eb6 lb7
  refine sN <| hK1 _ _ <| wS fun K8 hK8 => wR <| sV hf rfl (ex_fa (k := 0) (r := 0) hf rfl (by kernel_rfl) rfl) fun a hf => sV hf rfl (ex_loadB hf rfl (by kernel_rfl) hB4 rfl) fun a hf => sN <| hK8 _ _ <| wp_block <| wS fun K9 hK9 => wS fun K10 hK10 => wR <| sV hf rfl (ex_eqI (c := false) hf rfl rfl (by decide)) fun a hf => sA hf rfl rfl fun a hf => sN <| hK10 _ _ <| cF hf rfl <| wS fun K11 hK11 => wR <| sV hf rfl (ex_eqI (c := true) hf rfl rfl (by decide)) fun a hf => sA hf rfl rfl fun a hf => sN <| hK11 _ _ <| cT hf rfl <| wp_skip <| hK9 _ _ <| cT hf rfl <| wR <| sM hf rfl rfl fun a hf => sV hf rfl (ex_loadBN (m := 4) hf rfl (by kernel_rfl) hB4 rfl) fun a hf => ?_
  have hLn := hL.now hE
  have hKn := hK.now hE
  have hRn := hR.now hE
  refine st_c hf rfl rfl rfl (by kernel_rfl) (d2 ih hcl hks hl1 hl2 hP hLn hn hn2 hKn hRn hE.now) ?_
  rintro _ w14 ⟨rfl, hPn, hEn⟩
  refine ⟨_, rfl, ?_⟩
  clear hf a; intro a hf
  have hx13 := hEn.chg
  replace hB4 := hB4.chg hx13 (nm_blk hB4 rfl (Ne.symm ne_b_b3))
  replace hE := hE.trans hx13 (fun _ h => .inl h)
  clear hP; have hP := hPn; clear hPn hEn
  refine sN ?_
  have eq : treeP (.node 2 x (l0 :: l1 :: l2 :: l3 :: l4 :: l5 :: ms) (ps ++ [k0, k1])) s = treeP (.node 2 x (l0 :: l1 :: l2 :: l3 :: l4 :: l5 :: ms) (ps ++ [k0, k1])) s := by rfl
  rw [eq]
  try simp only [Exit.then, Exit.inBlock]
  exact end_of (rs := []) hf rfl rfl ⟨rfl, hP, hE⟩
theorem t3 {N : Nat} (ih : TreeOk N) {w : World} {Bs b : Nat} {s : WS} {x : List UInt8} {l0 l1 l2 : List UInt8} {k0 : Tree} {cs : List Value} {A B : Option Addr} {m n : Nat} (hks : ∀ t, t ∈ [k0] → tsize t ≤ N ∧ shapedT t = true ∧ leadedT t = true)
    (hl1 : s.2.length + 100 * (x.length + lsum [l0, l1, l2] + kbulk [k0] + 1) ≤ 1000000000000) (hl2 : s.1.length + 100 * (x.length + lsum [l0, l1, l2] + kbulk [k0] + 1) ≤ 1000000000000) (hP : Pr Bs b s.1 s.2 w) (hL : RowIn (fun b => b < Bs) w 1 A [l0, l1, l2].length ([l0, l1, l2].map strV)) (hn : [k0].length ≤ n) (hn2 : n ≤ maxLen) (hK : KidsAre (fun b => b < Bs) w [k0] cs) (hR : RowIn (fun b => b < Bs) w 4 B [k0].length cs) (hBw : Bs ≤ w.heap.size) :
    Calls Try.prog 61 [.pointer (some ⟨b, 0, none⟩), .agg #[.int .i64 3, strV x, .slice A [l0, l1, l2].length m, .slice B [k0].length n]].toArray w fun e w' => e = .returned (.tuple #[]) ∧ Pr Bs b (treeP (.node 3 x [l0, l1, l2] [k0]) s).1 (treeP (.node 3 x [l0, l1, l2] [k0]) s).2 w' ∧ Prn Bs b w w' := by
  have hE := Prn.refl (b := b) hBw
  have hG : s.2.length ≤ s.2.length := Nat.le_refl _
  have hG' : s.1.length ≤ s.1.length := Nat.le_refl _
  obtain ⟨lb, lo, rfl, _, hlb, _⟩ := hL.2 (by simp)
  obtain ⟨kb, ko, rfl, _, hkb, _⟩ := hR.2 (by simp)
  refine enter_fr 216 Try.func61 rfl rfl rfl ?_
  intro a hf
  refine wS fun K1 hK1 => wR ?_
  obtain ⟨w2, b3, he, hB4, hx5, eb6, lb7⟩ := ef_box (P := Try.prog) (t := 26) (x := (.tmp 1)) hf rfl rfl w 0
  refine sV hf rfl he ?_
  clear he hf a; intro a hf
  have ge_b3 := Prn.ge_new hE eb6
  have ne_b_b3 : b ≠ b3 := ne_new hP.lt eb6
  replace hP := hP.chg0 hx5
  replace hE := hE.trans hx5 all0
  clear eb6 lb7
  refine sN <| hK1 _ _ <| wS fun K8 hK8 => wR <| sV hf rfl (ex_fa (k := 0) (r := 0) hf rfl (by kernel_rfl) rfl) fun a hf => sV hf rfl (ex_loadB hf rfl (by kernel_rfl) hB4 rfl) fun a hf => sN <| hK8 _ _ <| wp_block <| wS fun K9 hK9 => wS fun K10 hK10 => wR <| sV hf rfl (ex_eqI (c := false) hf rfl rfl (by decide)) fun a hf => sA hf rfl rfl fun a hf => sN <| hK10 _ _ <| cF hf rfl <| wS fun K11 hK11 => wR <| sV hf rfl (ex_eqI (c := false) hf rfl rfl (by decide)) fun a hf => sA hf rfl rfl fun a hf => sN <| hK11 _ _ <| cF hf rfl <| wS fun K12 hK12 => wR <| sV hf rfl (ex_eqI (c := true) hf rfl rfl (by decide)) fun a hf => sA hf rfl rfl fun a hf => sN <| hK12 _ _ <| cT hf rfl <| wp_skip <| hK9 _ _ <| cT hf rfl <| wR <| sM hf rfl rfl fun a hf => sV hf rfl (ex_loadBN (m := 4) hf rfl (by kernel_rfl) hB4 rfl) fun a hf => ?_
  have hLn := hL.now hE
  have hKn := hK.now hE
  have hRn := hR.now hE
  refine st_c hf rfl rfl rfl (by kernel_rfl) (d3 ih  hks hl1 hl2 hP hLn hn hn2 hKn hRn hE.now) ?_
  rintro _ w15 ⟨rfl, hPn, hEn⟩
  refine ⟨_, rfl, ?_⟩
  clear hf a; intro a hf
  have hx14 := hEn.chg
  replace hB4 := hB4.chg hx14 (nm_blk hB4 rfl (Ne.symm ne_b_b3))
  replace hE := hE.trans hx14 (fun _ h => .inl h)
  clear hP; have hP := hPn; clear hPn hEn
  refine sN ?_
  have eq : treeP (.node 3 x [l0, l1, l2] [k0]) s = treeP (.node 3 x [l0, l1, l2] [k0]) s := by rfl
  rw [eq]
  try simp only [Exit.then, Exit.inBlock]
  exact end_of (rs := []) hf rfl rfl ⟨rfl, hP, hE⟩
theorem t4 {N : Nat} (ih : TreeOk N) {w : World} {Bs b : Nat} {s : WS} {x : List UInt8} {l0 l1 : List UInt8} {k0 : Tree} {cs : List Value} {A B : Option Addr} {m n : Nat} (hks : ∀ t, t ∈ [k0] → tsize t ≤ N ∧ shapedT t = true ∧ leadedT t = true)
    (hl1 : s.2.length + 100 * (x.length + lsum [l0, l1] + kbulk [k0] + 1) ≤ 1000000000000) (hl2 : s.1.length + 100 * (x.length + lsum [l0, l1] + kbulk [k0] + 1) ≤ 1000000000000) (hP : Pr Bs b s.1 s.2 w) (hL : RowIn (fun b => b < Bs) w 1 A [l0, l1].length ([l0, l1].map strV)) (hn : [k0].length ≤ n) (hn2 : n ≤ maxLen) (hK : KidsAre (fun b => b < Bs) w [k0] cs) (hR : RowIn (fun b => b < Bs) w 4 B [k0].length cs) (hBw : Bs ≤ w.heap.size) :
    Calls Try.prog 61 [.pointer (some ⟨b, 0, none⟩), .agg #[.int .i64 4, strV x, .slice A [l0, l1].length m, .slice B [k0].length n]].toArray w fun e w' => e = .returned (.tuple #[]) ∧ Pr Bs b (treeP (.node 4 x [l0, l1] [k0]) s).1 (treeP (.node 4 x [l0, l1] [k0]) s).2 w' ∧ Prn Bs b w w' := by
  have hE := Prn.refl (b := b) hBw
  have hG : s.2.length ≤ s.2.length := Nat.le_refl _
  have hG' : s.1.length ≤ s.1.length := Nat.le_refl _
  obtain ⟨lb, lo, rfl, _, hlb, _⟩ := hL.2 (by simp)
  obtain ⟨kb, ko, rfl, _, hkb, _⟩ := hR.2 (by simp)
  refine enter_fr 216 Try.func61 rfl rfl rfl ?_
  intro a hf
  refine wS fun K1 hK1 => wR ?_
  obtain ⟨w2, b3, he, hB4, hx5, eb6, lb7⟩ := ef_box (P := Try.prog) (t := 26) (x := (.tmp 1)) hf rfl rfl w 0
  refine sV hf rfl he ?_
  clear he hf a; intro a hf
  have ge_b3 := Prn.ge_new hE eb6
  have ne_b_b3 : b ≠ b3 := ne_new hP.lt eb6
  replace hP := hP.chg0 hx5
  replace hE := hE.trans hx5 all0
  clear eb6 lb7
  refine sN <| hK1 _ _ <| wS fun K8 hK8 => wR <| sV hf rfl (ex_fa (k := 0) (r := 0) hf rfl (by kernel_rfl) rfl) fun a hf => sV hf rfl (ex_loadB hf rfl (by kernel_rfl) hB4 rfl) fun a hf => sN <| hK8 _ _ <| wp_block <| wS fun K9 hK9 => wS fun K10 hK10 => wR <| sV hf rfl (ex_eqI (c := false) hf rfl rfl (by decide)) fun a hf => sA hf rfl rfl fun a hf => sN <| hK10 _ _ <| cF hf rfl <| wS fun K11 hK11 => wR <| sV hf rfl (ex_eqI (c := false) hf rfl rfl (by decide)) fun a hf => sA hf rfl rfl fun a hf => sN <| hK11 _ _ <| cF hf rfl <| wS fun K12 hK12 => wR <| sV hf rfl (ex_eqI (c := false) hf rfl rfl (by decide)) fun a hf => sA hf rfl rfl fun a hf => sN <| hK12 _ _ <| cF hf rfl <| wR <| sV hf rfl (ex_eqI (c := true) hf rfl rfl (by decide)) fun a hf => sA hf rfl rfl fun a hf => sN <| hK9 _ _ <| cT hf rfl <| wR <| sM hf rfl rfl fun a hf => sV hf rfl (ex_loadBN (m := 4) hf rfl (by kernel_rfl) hB4 rfl) fun a hf => ?_
  have hLn := hL.now hE
  have hKn := hK.now hE
  have hRn := hR.now hE
  refine st_c hf rfl rfl rfl (by kernel_rfl) (d4 ih  hks hl1 hl2 hP hLn hn hn2 hKn hRn hE.now) ?_
  rintro _ w15 ⟨rfl, hPn, hEn⟩
  refine ⟨_, rfl, ?_⟩
  clear hf a; intro a hf
  have hx14 := hEn.chg
  replace hB4 := hB4.chg hx14 (nm_blk hB4 rfl (Ne.symm ne_b_b3))
  replace hE := hE.trans hx14 (fun _ h => .inl h)
  clear hP; have hP := hPn; clear hPn hEn
  refine sN ?_
  have eq : treeP (.node 4 x [l0, l1] [k0]) s = treeP (.node 4 x [l0, l1] [k0]) s := by rfl
  rw [eq]
  try simp only [Exit.then, Exit.inBlock]
  exact end_of (rs := []) hf rfl rfl ⟨rfl, hP, hE⟩
theorem len0 {α : Type} {l : List α} (h : l.length = 0) : l = [] := List.length_eq_zero_iff.1 h
theorem lenS {α : Type} {l : List α} {n : Nat} (h : l.length = n + 1) : ∃ a r, l = a :: r ∧ r.length = n := by
  cases l with
  | nil => simp at h
  | cons a r => exact ⟨a, r, rfl, by simpa using h⟩
theorem kids_all {k : Int} {n : Nat} : ∀ {ks : List Tree} {i : Nat}, kidsT k n ks i = true → ∀ t, t ∈ ks → shapedT t = true
  | u :: r, i, h, t, ht => by
    simp only [kidsT, Bool.and_eq_true] at h
    rcases List.mem_cons.1 ht with e | e
    · exact e ▸ h.1.2
    · exact kids_all h.2 t e
theorem leads_kind {k n : Int} (h : 0 ≤ leadsT k n) : (k = 1 ∧ leadsT k n = 3) ∨ (k = 2 ∧ 2 ≤ n ∧ (2 < n ∧ leadsT k n = 6 + (n - 3) ∨ n = 2 ∧ leadsT k n = 6)) ∨ (k = 16 ∧ (n = 0 ∧ leadsT k n = 3 ∨ 0 < n ∧ leadsT k n = 3 + (n - 1))) ∨ (k = 18 ∧ 1 ≤ n ∧ leadsT k n = 2 + (n - 1)) ∨ (k = 3 ∧ n = 1 ∧ leadsT k n = 3) ∨ (k = 4 ∧ n = 1 ∧ leadsT k n = 2) ∨ (k = 8 ∧ n = 1 ∧ leadsT k n = 2) ∨ (k = 22 ∧ n = 1 ∧ leadsT k n = 2) ∨ (k = 17 ∧ n = 1 ∧ leadsT k n = 0) ∨ (k = 19 ∧ n = 3 ∧ leadsT k n = 3) ∨ (k = 20 ∧ n = 2 ∧ leadsT k n = 4) ∨ (k = 21 ∧ n = 2 ∧ leadsT k n = 1) ∨ ((k = 5 ∨ k = 6 ∨ k = 7 ∨ k = 9 ∨ k = 10 ∨ k = 11 ∨ k = 12 ∨ k = 13 ∨ k = 14 ∨ k = 15) ∧ n = 0 ∧ leadsT k n = 1) := by
  obtain ⟨L, hL⟩ : ∃ L, L = leadsT k n := ⟨_, rfl⟩
  rw [← hL] at h ⊢
  unfold leadsT at hL
  by_cases hk1 : k = 1
  · rw [if_pos hk1] at hL
    split at hL
    · exact absurd h (by omega)
    · exact .inl (⟨hk1, hL⟩)
  rw [if_neg hk1] at hL
  by_cases hk2 : k = 2
  · rw [if_pos hk2] at hL
    split at hL
    · exact absurd h (by omega)
    · split at hL
      · exact .inr (.inl (⟨hk2, by omega, .inl ⟨by omega, hL⟩⟩))
      · exact .inr (.inl (⟨hk2, by omega, .inr ⟨by omega, hL⟩⟩))
  rw [if_neg hk2] at hL
  by_cases hk3 : k = 16
  · rw [if_pos hk3] at hL
    split at hL
    · exact absurd h (by omega)
    · split at hL
      · exact .inr (.inr (.inl (⟨hk3, .inr ⟨by omega, hL⟩⟩)))
      · exact .inr (.inr (.inl (⟨hk3, .inl ⟨by omega, hL⟩⟩)))
  rw [if_neg hk3] at hL
  by_cases hk4 : k = 18
  · rw [if_pos hk4] at hL
    split at hL
    · exact absurd h (by omega)
    · exact .inr (.inr (.inr (.inl (⟨hk4, by omega, hL⟩))))
  rw [if_neg hk4] at hL
  by_cases hk5 : k = 3
  · rw [if_pos hk5] at hL
    split at hL
    · exact .inr (.inr (.inr (.inr (.inl (⟨hk5, by omega, hL⟩)))))
    · exact absurd h (by omega)
  rw [if_neg hk5] at hL
  by_cases hk6 : k = 4 ∨ k = 8 ∨ k = 22
  · rw [if_pos hk6] at hL
    split at hL
    · rcases hk6 with hq | hq | hq
      · exact .inr (.inr (.inr (.inr (.inr (.inl (⟨hq, by omega, hL⟩))))))
      · exact .inr (.inr (.inr (.inr (.inr (.inr (.inl (⟨hq, by omega, hL⟩)))))))
      · exact .inr (.inr (.inr (.inr (.inr (.inr (.inr (.inl (⟨hq, by omega, hL⟩))))))))
    · exact absurd h (by omega)
  rw [if_neg hk6] at hL
  by_cases hk7 : k = 17
  · rw [if_pos hk7] at hL
    split at hL
    · exact .inr (.inr (.inr (.inr (.inr (.inr (.inr (.inr (.inl (⟨hk7, by omega, hL⟩)))))))))
    · exact absurd h (by omega)
  rw [if_neg hk7] at hL
  by_cases hk8 : k = 19
  · rw [if_pos hk8] at hL
    split at hL
    · exact .inr (.inr (.inr (.inr (.inr (.inr (.inr (.inr (.inr (.inl (⟨hk8, by omega, hL⟩))))))))))
    · exact absurd h (by omega)
  rw [if_neg hk8] at hL
  by_cases hk9 : k = 20
  · rw [if_pos hk9] at hL
    split at hL
    · exact .inr (.inr (.inr (.inr (.inr (.inr (.inr (.inr (.inr (.inr (.inl (⟨hk9, by omega, hL⟩)))))))))))
    · exact absurd h (by omega)
  rw [if_neg hk9] at hL
  by_cases hk10 : k = 21
  · rw [if_pos hk10] at hL
    split at hL
    · exact .inr (.inr (.inr (.inr (.inr (.inr (.inr (.inr (.inr (.inr (.inr (.inl (⟨hk10, by omega, hL⟩))))))))))))
    · exact absurd h (by omega)
  rw [if_neg hk10] at hL
  by_cases hk11 : k = 5 ∨ k = 6 ∨ k = 7 ∨ k = 9 ∨ k = 10 ∨ k = 11 ∨ k = 12 ∨ k = 13 ∨ k = 14 ∨ k = 15
  · rw [if_pos hk11] at hL
    split at hL
    · exact .inr (.inr (.inr (.inr (.inr (.inr (.inr (.inr (.inr (.inr (.inr (.inr ((⟨hk11, by omega, hL⟩)))))))))))))
    · exact absurd h (by omega)
  rw [if_neg hk11] at hL
  exact absurd h (by omega)
theorem tree_step {N : Nat} (ih : TreeOk N) : TreeOk (N + 1) := by
  intro t w Bs b s c0 c1 c2 c3 hN hs hl h1 h2 hP hT hBw
  obtain ⟨k, x, ls, ks⟩ := t
  simp only [TreeIs] at hT
  obtain ⟨A, m, B, n, hc, _, _, hn, hn2, hL, cs, hK, hR⟩ := hT
  simp only [List.cons.injEq, and_true] at hc
  obtain ⟨rfl, rfl, rfl, rfl⟩ := hc
  simp only [tsize] at hN
  simp only [tbulk] at h1 h2
  simp only [shapedT, leadedT, Bool.and_eq_true, decide_eq_true_eq] at hs hl
  have hks : ∀ t, t ∈ ks → tsize t ≤ N ∧ shapedT t = true ∧ leadedT t = true := fun t ht => ⟨by have := tsize_mem ht; omega, kids_all hs.2 t ht, leaded_of hl.2 ht⟩
  have hkk := leads_kind hs.1.1
  have hll := hl.1.1
  clear hs hl hN
  rcases hkk with ⟨rfl, e⟩ | ⟨rfl, h0, e⟩ | ⟨rfl, e⟩ | ⟨rfl, h0, e⟩ | ⟨rfl, h0, e⟩ | ⟨rfl, h0, e⟩ | ⟨rfl, h0, e⟩ | ⟨rfl, h0, e⟩ | ⟨rfl, h0, e⟩ | ⟨rfl, h0, e⟩ | ⟨rfl, h0, e⟩ | ⟨rfl, h0, e⟩ | ⟨hk, h0, e⟩
  · obtain ⟨l0, ls0r, rfl, qls0⟩ := lenS (n := 2) (l := ls) (by omega)
    obtain ⟨l1, ls1r, rfl, qls1⟩ := lenS (n := 1) (l := ls0r) qls0
    obtain ⟨l2, ls2r, rfl, qls2⟩ := lenS (n := 0) (l := ls1r) qls1
    obtain rfl := len0 (l := ls2r) qls2
    exact t1 ih hks h1 h2 hP hL hn hn2 hK hR hBw
  · obtain ⟨ps, k0, k1, rfl⟩ : ∃ ps k0 k1, ks = ps ++ [k0, k1] := by
      refine ⟨ks.take (ks.length - 2), ks[ks.length - 2]'(by omega), ks[ks.length - 1]'(by omega), ?_⟩
      have e1 : ks = ks.take (ks.length - 2) ++ ks.drop (ks.length - 2) := (List.take_append_drop _ _).symm
      have e2 : ks.drop (ks.length - 2) = [ks[ks.length - 2]'(by omega), ks[ks.length - 1]'(by omega)] := by
        rw [List.drop_eq_getElem_cons (by omega : ks.length - 2 < ks.length)]
        congr 1
        have e3 : ks.length - 2 + 1 = ks.length - 1 := by omega
        rw [e3, List.drop_eq_getElem_cons (by omega : ks.length - 1 < ks.length), List.drop_of_length_le (by omega)]
      rw [← e2]; exact e1
    have hpl : (ps ++ [k0, k1]).length = ps.length + 2 := by simp
    obtain ⟨q, hq⟩ : ∃ q, ls.length = q + 6 := ⟨ls.length - 6, by omega⟩
    obtain ⟨l0, ls0r, rfl, qls0⟩ := lenS (n := q + 5) (l := ls) hq
    obtain ⟨l1, ls1r, rfl, qls1⟩ := lenS (n := q + 4) (l := ls0r) qls0
    obtain ⟨l2, ls2r, rfl, qls2⟩ := lenS (n := q + 3) (l := ls1r) qls1
    obtain ⟨l3, ls3r, rfl, qls3⟩ := lenS (n := q + 2) (l := ls2r) qls2
    obtain ⟨l4, ls4r, rfl, qls4⟩ := lenS (n := q + 1) (l := ls3r) qls3
    obtain ⟨l5, ls5r, rfl, qls5⟩ := lenS (n := q + 0) (l := ls4r) qls4
    exact t2 ih (by simp only [List.length_cons]; omega) hks h1 h2 hP hL hn hn2 hK hR hBw
  · obtain ⟨q, hq⟩ : ∃ q, ls.length = q + 3 := ⟨ls.length - 3, by omega⟩
    obtain ⟨l0, ls0r, rfl, qls0⟩ := lenS (n := q + 2) (l := ls) hq
    obtain ⟨l1, ls1r, rfl, qls1⟩ := lenS (n := q + 1) (l := ls0r) qls0
    obtain ⟨l2, ls2r, rfl, qls2⟩ := lenS (n := q + 0) (l := ls1r) qls1
    exact t16 ih (by simp only [List.length_cons]; omega) hks h1 h2 hP hL hn hn2 hK hR hBw
  · obtain ⟨q, hq⟩ : ∃ q, ls.length = q + 2 := ⟨ls.length - 2, by omega⟩
    obtain ⟨l0, ls0r, rfl, qls0⟩ := lenS (n := q + 1) (l := ls) hq
    obtain ⟨l1, ls1r, rfl, qls1⟩ := lenS (n := q + 0) (l := ls0r) qls0
    exact t18 ih (by simp only [List.length_cons]; omega) hks h1 h2 hP hL hn hn2 hK hR hBw
  · obtain ⟨l0, ls0r, rfl, qls0⟩ := lenS (n := 2) (l := ls) (by omega)
    obtain ⟨l1, ls1r, rfl, qls1⟩ := lenS (n := 1) (l := ls0r) qls0
    obtain ⟨l2, ls2r, rfl, qls2⟩ := lenS (n := 0) (l := ls1r) qls1
    obtain rfl := len0 (l := ls2r) qls2
    obtain ⟨k0, ks0r, rfl, qks0⟩ := lenS (n := 0) (l := ks) (by omega)
    obtain rfl := len0 (l := ks0r) qks0
    exact t3 ih hks h1 h2 hP hL hn hn2 hK hR hBw
  · obtain ⟨l0, ls0r, rfl, qls0⟩ := lenS (n := 1) (l := ls) (by omega)
    obtain ⟨l1, ls1r, rfl, qls1⟩ := lenS (n := 0) (l := ls0r) qls0
    obtain rfl := len0 (l := ls1r) qls1
    obtain ⟨k0, ks0r, rfl, qks0⟩ := lenS (n := 0) (l := ks) (by omega)
    obtain rfl := len0 (l := ks0r) qks0
    exact t4 ih hks h1 h2 hP hL hn hn2 hK hR hBw
  · obtain ⟨l0, ls0r, rfl, qls0⟩ := lenS (n := 1) (l := ls) (by omega)
    obtain ⟨l1, ls1r, rfl, qls1⟩ := lenS (n := 0) (l := ls0r) qls0
    obtain rfl := len0 (l := ls1r) qls1
    obtain ⟨k0, ks0r, rfl, qks0⟩ := lenS (n := 0) (l := ks) (by omega)
    obtain rfl := len0 (l := ks0r) qks0
    exact t8 ih hks h1 h2 hP hL hn hn2 hK hR hBw
  · obtain ⟨l0, ls0r, rfl, qls0⟩ := lenS (n := 1) (l := ls) (by omega)
    obtain ⟨l1, ls1r, rfl, qls1⟩ := lenS (n := 0) (l := ls0r) qls0
    obtain rfl := len0 (l := ls1r) qls1
    obtain ⟨k0, ks0r, rfl, qks0⟩ := lenS (n := 0) (l := ks) (by omega)
    obtain rfl := len0 (l := ks0r) qks0
    exact t22 ih hks h1 h2 hP hL hn hn2 hK hR hBw
  · obtain rfl := len0 (l := ls) (by omega)
    obtain ⟨k0, ks0r, rfl, qks0⟩ := lenS (n := 0) (l := ks) (by omega)
    obtain rfl := len0 (l := ks0r) qks0
    exact t17 ih hks h1 h2 hP hL hn hn2 hK hR hBw
  · obtain ⟨l0, ls0r, rfl, qls0⟩ := lenS (n := 2) (l := ls) (by omega)
    obtain ⟨l1, ls1r, rfl, qls1⟩ := lenS (n := 1) (l := ls0r) qls0
    obtain ⟨l2, ls2r, rfl, qls2⟩ := lenS (n := 0) (l := ls1r) qls1
    obtain rfl := len0 (l := ls2r) qls2
    obtain ⟨k0, ks0r, rfl, qks0⟩ := lenS (n := 2) (l := ks) (by omega)
    obtain ⟨k1, ks1r, rfl, qks1⟩ := lenS (n := 1) (l := ks0r) qks0
    obtain ⟨k2, ks2r, rfl, qks2⟩ := lenS (n := 0) (l := ks1r) qks1
    obtain rfl := len0 (l := ks2r) qks2
    exact t19 ih hks h1 h2 hP hL hn hn2 hK hR hBw
  · obtain ⟨l0, ls0r, rfl, qls0⟩ := lenS (n := 3) (l := ls) (by omega)
    obtain ⟨l1, ls1r, rfl, qls1⟩ := lenS (n := 2) (l := ls0r) qls0
    obtain ⟨l2, ls2r, rfl, qls2⟩ := lenS (n := 1) (l := ls1r) qls1
    obtain ⟨l3, ls3r, rfl, qls3⟩ := lenS (n := 0) (l := ls2r) qls2
    obtain rfl := len0 (l := ls3r) qls3
    obtain ⟨k0, ks0r, rfl, qks0⟩ := lenS (n := 1) (l := ks) (by omega)
    obtain ⟨k1, ks1r, rfl, qks1⟩ := lenS (n := 0) (l := ks0r) qks0
    obtain rfl := len0 (l := ks1r) qks1
    exact t20 ih hks h1 h2 hP hL hn hn2 hK hR hBw
  · obtain ⟨l0, ls0r, rfl, qls0⟩ := lenS (n := 0) (l := ls) (by omega)
    obtain rfl := len0 (l := ls0r) qls0
    obtain ⟨k0, ks0r, rfl, qks0⟩ := lenS (n := 1) (l := ks) (by omega)
    obtain ⟨k1, ks1r, rfl, qks1⟩ := lenS (n := 0) (l := ks0r) qks0
    obtain rfl := len0 (l := ks1r) qks1
    exact t21 ih hks h1 h2 hP hL hn hn2 hK hR hBw
  · obtain ⟨l0, ls0r, rfl, qls0⟩ := lenS (n := 0) (l := ls) (by omega)
    obtain rfl := len0 (l := ls0r) qls0
    obtain rfl := len0 (l := ks) (by omega)
    exact tLeaf (N := N) hk hks h1 h2 hP hL hn hn2 hK hR hBw
theorem treeL : ∀ N, TreeOk N
  | 0 => fun t _ _ _ _ _ _ _ _ hN => by cases t; simp only [tsize] at hN; omega
  | N + 1 => tree_step (treeL N)
end Go.Proofs.Ythpjpngfghcmcaa
namespace Go.Proofs.Ythpjpngfghcmcaa
open Go.RowKit Lx Sx
set_option linter.unusedVariables false
set_option linter.unusedSimpArgs false
set_option maxRecDepth 100000
set_option maxHeartbeats 4000000
theorem TreeIs.cells {S : Nat → Prop} {w : World} {t : Tree} {c0 c1 c2 c3 : Value} (h : TreeIs S w t [c0, c1, c2, c3]) : ∃ A m B n, [c0, c1, c2, c3] = [.int .i64 t.kind, strV t.text, .slice A t.leads.length m, .slice B t.kids.length n] := by
  obtain ⟨k, x, ls, ks⟩ := t
  simp only [TreeIs] at h
  obtain ⟨A, m, B, n, e, _⟩ := h
  exact ⟨A, m, B, n, e⟩
theorem Pr.new {Bs b : Nat} {w : World} (h : Blk w b 80 [.pointer none, .slice none 0 0, strV []]) (hb : Bs ≤ b) : Pr Bs b [] [] w :=
  ⟨.pointer none, .slice none 0 0, .inl rfl, hb, h, World.ownsRow_nil w Bs 5 1⟩
def upX (Bs : Nat) (w : World) : List Nat := (List.range w.heap.size).filter fun k => decide (Bs ≤ k)
theorem mem_upX {Bs : Nat} {w : World} {k : Nat} (h : k ∈ upX Bs w) : Bs ≤ k := by simp [upX] at h; exact h.2
theorem chg_up {Bs : Nat} {w w' : World} (h : Below Bs w w') (hb : Bs ≤ w.heap.size) : Chg (upX Bs w) w w' :=
  ⟨h.os, h.tape, h.output, h.size, fun k hk hX => h.block k (by
    rcases Nat.lt_or_ge k Bs with h1 | h1
    · exact h1
    · exact absurd (by simp [upX]; exact ⟨hk, h1⟩) hX)⟩
theorem strL {Bs b : Nat} {x l : List UInt8} {w : World} (h : Pr Bs b x l w) (hBw : Bs ≤ w.heap.size) : Calls Try.prog 62 [.pointer (some ⟨b, 0, none⟩)].toArray w fun e w' => e = .returned (strV l) ∧ Chg (upX Bs w) w w' :=
  (builderString _ Bs b [strV x] l w h hBw).mono fun _ _ ⟨e, h1⟩ => ⟨e, chg_up h1 hBw⟩
theorem textL {t : Tree} {S : Nat → Prop} {w : World} {c0 c1 c2 c3 : Value} (hs : shapedT t = true) (hl : leadedT t = true) (hb : tbulk t ≤ 1000000000) (hT : TreeIs S w t [c0, c1, c2, c3]) : Calls Try.prog 33 [.agg #[c0, c1, c2, c3]].toArray w fun e w' => e = .returned (strV (textT t)) ∧ Chg [] w w' := by
  obtain ⟨hi0, ehi0⟩ : ∃ x, x = w.heap.size := ⟨_, rfl⟩
  replace hT := hT.keepB (S' := fun b => b < hi0) (fun b _ hb => by omega) (fun _ _ _ => rfl)
  obtain ⟨A, m1, B, m2, hc⟩ := hT.cells
  simp only [List.cons.injEq, and_true] at hc
  obtain ⟨rfl, rfl, rfl, rfl⟩ := hc
  refine enter_fr 8 Try.func33 rfl rfl rfl ?_
  intro a hf
  have hE := Chg.refl [] w
  refine wS fun K1 hK1 => wR ?_
  obtain ⟨w2, b3, he, hB4, hx5, eb6, lb7⟩ := ef_box (P := Try.prog) (t := 26) (x := (.tmp 0)) hf rfl rfl w 0
  refine sV hf rfl he ?_
  clear he hf a; intro a hf
  have ge_b3 := ge_new hE eb6
  have tb_b3 : hi0 ≤ b3 := by have := hE.size; omega
  replace hT := hT.chg hx5 (fun b hb hlt2 => nm0)
  replace hE := hE.trans hx5 all0
  clear eb6 lb7
  refine sA hf rfl rfl fun a hf => sN <| hK1 _ _ <| wS fun K8 hK8 => wR ?_
  obtain ⟨w9, b10, he, hB11, hx12, eb13, lb14⟩ := ef_alloc (P := Try.prog) (t := 80) [.pointer none, .slice none 0 0, .string ⟨([] : List UInt8).toArray⟩] (by kernel_rfl) a w2 0
  refine sV hf rfl he ?_
  clear he hf a; intro a hf
  have ne_b3_b10 : b3 ≠ b10 := ne_new hB4.lt eb13
  have ge_b10 := ge_new hE eb13
  have tb_b10 : hi0 ≤ b10 := by have := hE.size; omega
  replace hB4 := hB4.chg hx12 nm0
  replace hT := hT.chg hx12 (fun b hb hlt2 => nm0)
  replace hE := hE.trans hx12 all0
  clear eb13 lb14
  refine sN <| hK8 _ _ <| wS fun K15 hK15 => wR <| sV hf rfl (ex_loadBN (m := 4) hf rfl (by kernel_rfl) hB4 rfl) fun a hf => ?_
  have hPr := Pr.new hB11 (Nat.le_refl b10)
  have hTl : TreeIs (fun k => k < b10) w9 t _ := hT.mono (fun k hk => Nat.lt_of_lt_of_le hk tb_b10)
  have hBw : b10 ≤ w9.heap.size := Nat.le_of_lt hB11.lt
  refine st_c hf rfl rfl rfl (by kernel_rfl) (treeL _ t _ b10 b10 ([], []) _ _ _ _ (Nat.le_refl _) hs hl (by simp only [List.length_nil]; omega) (by simp only [List.length_nil]; omega) hPr hTl hBw) ?_
  rintro _ w17 ⟨rfl, hPn, hEn⟩
  refine ⟨_, rfl, ?_⟩
  clear hf a; intro a hf
  have hx16 := hEn.chg
  clear hTl hPr
  replace hE := hE.trans hx16 (fun x hx => .inr (by have := (mem_prX.1 hx).2.1; omega))
  refine sN <| hK15 _ _ <| wS fun K18 hK18 => wR <| sV hf rfl (ex_fa (k := 0) (r := 0) hf rfl (by kernel_rfl) rfl) fun a hf => st_c hf rfl rfl rfl (by kernel_rfl) (strL hPn hEn.now) ?_
  rintro _ w20 ⟨rfl, hx19⟩
  refine ⟨_, rfl, ?_⟩
  clear hf a; intro a hf
  replace hE := hE.trans hx19 (fun x hx => .inr (by have := mem_upX hx; omega))
  refine sA hf rfl rfl fun a hf => sN <| hK18 _ _ <| wp_ret ?_
  try simp only [Exit.then, Exit.inBlock]
  exact ret_of (rs := [.tmp 2]) hf rfl ⟨_, _, rfl, rfl, rfl⟩ ⟨rfl, hE⟩
theorem printL {t : Tree} {S : Nat → Prop} {w : World} {c0 c1 c2 c3 : Value} (hb : tbulk t ≤ 1000000000) (hT : TreeIs S w t [c0, c1, c2, c3]) : Calls Try.prog 16 [.agg #[c0, c1, c2, c3]].toArray w fun e w' => e = .returned (strV (printT t)) ∧ Chg [] w w' := by
  obtain ⟨hi0, ehi0⟩ : ∃ x, x = w.heap.size := ⟨_, rfl⟩
  replace hT := hT.keepB (S' := fun b => b < hi0) (fun b _ hb => by omega) (fun _ _ _ => rfl)
  obtain ⟨A, m1, B, m2, hc⟩ := hT.cells
  simp only [List.cons.injEq, and_true] at hc
  obtain ⟨rfl, rfl, rfl, rfl⟩ := hc
  refine enter_fr 13 Try.func16 rfl rfl rfl ?_
  intro a hf
  have hE := Chg.refl [] w
  refine wS fun K1 hK1 => wR ?_
  obtain ⟨w2, b3, he, hB4, hx5, eb6, lb7⟩ := ef_box (P := Try.prog) (t := 26) (x := (.tmp 0)) hf rfl rfl w 0
  refine sV hf rfl he ?_
  clear he hf a; intro a hf
  have ge_b3 := ge_new hE eb6
  have tb_b3 : hi0 ≤ b3 := by have := hE.size; omega
  replace hT := hT.chg hx5 (fun b hb hlt2 => nm0)
  replace hE := hE.trans hx5 all0
  clear eb6 lb7
  refine sA hf rfl rfl fun a hf => sN <| hK1 _ _ <| wS fun K8 hK8 => wS fun K9 hK9 => wR <| sV hf rfl (ex_loadBN (m := 4) hf rfl (by kernel_rfl) hB4 rfl) fun a hf => ?_
  rcases Bool.eq_false_or_eq_true (shapedT t) with hbs | hbs
  refine st_c hf rfl rfl rfl (by kernel_rfl) (bool_is (shapedL _ t _ _ _ _ _ _ (Nat.le_refl _) (by omega) hT) hbs) ?_
  rintro _ w11 ⟨rfl, hx10⟩
  refine ⟨_, rfl, ?_⟩
  clear hf a; intro a hf
  replace hB4 := hB4.chg hx10 nm0
  replace hT := hT.chg hx10 (fun b hb hlt2 => nm0)
  replace hE := hE.trans hx10 all0
  refine sV hf rfl (ex_not (c := false) hf rfl rfl) fun a hf => sM hf rfl rfl fun a hf => sV hf rfl (ex_loadBN (m := 4) hf rfl (by kernel_rfl) hB4 rfl) fun a hf => ?_
  rcases Bool.eq_false_or_eq_true (leadedT t) with hbl | hbl
  refine st_c hf rfl rfl rfl (by kernel_rfl) (bool_is (leadedL _ t _ _ _ _ _ _ (Nat.le_refl _) (by omega) hT) hbl) ?_
  rintro _ w13 ⟨rfl, hx12⟩
  refine ⟨_, rfl, ?_⟩
  clear hf a; intro a hf
  replace hB4 := hB4.chg hx12 nm0
  replace hT := hT.chg hx12 (fun b hb hlt2 => nm0)
  replace hE := hE.trans hx12 all0
  refine sV hf rfl (ex_not (c := false) hf rfl rfl) fun a hf => sV hf rfl (ex_pickF hf rfl rfl) fun a hf => sN <| hK9 _ _ <| cF hf rfl <| wp_skip <| hK8 _ _ <| wS fun K14 hK14 => wR <| sV hf rfl (ex_loadBN (m := 4) hf rfl (by kernel_rfl) hB4 rfl) fun a hf => st_c hf rfl rfl rfl (by kernel_rfl) (textL hbs hbl hb hT) ?_
  rintro _ w16 ⟨rfl, hx15⟩
  refine ⟨_, rfl, ?_⟩
  clear hf a; intro a hf
  replace hB4 := hB4.chg hx15 nm0
  replace hT := hT.chg hx15 (fun b hb hlt2 => nm0)
  replace hE := hE.trans hx15 all0
  refine sA hf rfl rfl fun a hf => sN <| hK14 _ _ <| wp_ret ?_
  try simp only [Exit.then, Exit.inBlock]
  exact ret_of (rs := [.tmp 2]) hf rfl ⟨_, _, rfl, rfl, rfl⟩ ⟨ret_s (by unfold printT; simp [hbs, hbl]), hE⟩
  refine st_c hf rfl rfl rfl (by kernel_rfl) (bool_is (leadedL _ t _ _ _ _ _ _ (Nat.le_refl _) (by omega) hT) hbl) ?_
  rintro _ w17 ⟨rfl, hx12⟩
  refine ⟨_, rfl, ?_⟩
  clear hf a; intro a hf
  replace hB4 := hB4.chg hx12 nm0
  replace hT := hT.chg hx12 (fun b hb hlt2 => nm0)
  replace hE := hE.trans hx12 all0
  refine sV hf rfl (ex_not (c := true) hf rfl rfl) fun a hf => sV hf rfl (ex_pickF hf rfl rfl) fun a hf => sN <| hK9 _ _ <| cT hf rfl <| wS fun K18 hK18 => wR <| sA hf rfl rfl fun a hf => sN <| hK18 _ _ <| wp_ret ?_
  try simp only [Exit.then, Exit.inBlock]
  exact ret_of (rs := [.tmp 2]) hf rfl ⟨_, _, rfl, rfl, rfl⟩ ⟨ret_s (by unfold printT; simp [hbs, hbl]), hE⟩
  refine st_c hf rfl rfl rfl (by kernel_rfl) (bool_is (shapedL _ t _ _ _ _ _ _ (Nat.le_refl _) (by omega) hT) hbs) ?_
  rintro _ w19 ⟨rfl, hx10⟩
  refine ⟨_, rfl, ?_⟩
  clear hf a; intro a hf
  replace hB4 := hB4.chg hx10 nm0
  replace hT := hT.chg hx10 (fun b hb hlt2 => nm0)
  replace hE := hE.trans hx10 all0
  refine sV hf rfl (ex_not (c := true) hf rfl rfl) fun a hf => sM hf rfl rfl fun a hf => st_k hf rfl rfl fun a hf => st_k hf rfl rfl fun a hf => st_k hf rfl rfl fun a hf => sV hf rfl (ex_pickT hf rfl rfl) fun a hf => sN <| hK9 _ _ <| cT hf rfl <| wS fun K20 hK20 => wR <| sA hf rfl rfl fun a hf => sN <| hK20 _ _ <| wp_ret ?_
  try simp only [Exit.then, Exit.inBlock]
  exact ret_of (rs := [.tmp 2]) hf rfl ⟨_, _, rfl, rfl, rfl⟩ ⟨ret_s (by unfold printT; simp [hbs]), hE⟩
end Go.Proofs.Ythpjpngfghcmcaa
namespace Go.Proofs.Ythpjpngfghcmcaa
open Go.RowKit Lx Sx
set_option linter.unusedVariables false
set_option linter.unusedSimpArgs false
set_option maxRecDepth 100000
set_option maxHeartbeats 4000000
def awkS : List UInt8 := [109, 111, 100, 117, 108, 101, 32, 77, 32, 100, 101, 102, 32, 102, 40, 120, 58, 32, 73, 110, 116, 41, 58, 32, 73, 110, 116, 32, 61, 32, 120, 32, 43, 32, 49, 32, 35, 32, 101, 110, 100]
def awkT : Tree := (parseT awkS).1
theorem awk_zero : (parseT awkS).2 = (0, 0) := by decide +kernel
theorem awk_print : printT awkT = awkS := by decide +kernel
theorem awk_bulk : tbulk awkT ≤ 1000000000 := by decide +kernel
def awkB : Tree → Bool
  | .node k x ls ks => k == 1 && x == [77] && ls.length == 3 && ks.length == 1 && (match ks with | t :: _ => t.kids.length == 3 | [] => false)
theorem awk_form : awkB awkT = true := by decide +kernel
theorem awkP {w : World} : Calls Try.prog 12 [strV awkS].toArray w fun e w' => ∃ A m kb ko n A3 m3, e = .returned (.tuple #[.agg #[.int .i64 1, strV [77], .slice A 3 m, .slice (some ⟨kb, ko, none⟩) 1 n], .int .i64 0, .int .i64 0]) ∧ TreeIs (fun b => w.heap.size ≤ b) w' awkT [.int .i64 1, strV [77], .slice A 3 m, .slice (some ⟨kb, ko, none⟩) 1 n] ∧ kb < w'.heap.size ∧ w'.cell? ⟨kb, ko + 3, none⟩ = some (.slice A3 3 m3) ∧ Chg [] w w' := by
  refine (parseL (l := awkS) (w := w) (by decide)).mono ?_
  rintro e w' ⟨c0, c1, c2, c3, rfl, hT, hx⟩
  rw [awk_zero]
  have hT' := hT
  have hf := awk_form
  change TreeIs _ _ awkT _ at hT hT'
  obtain ⟨T, hTe⟩ : ∃ T, T = awkT := ⟨_, rfl⟩
  rw [← hTe] at hT hT' hf ⊢
  obtain ⟨k, x, ls, ks⟩ := T
  simp only [awkB, Bool.and_eq_true, beq_iff_eq] at hf
  obtain ⟨⟨⟨⟨rfl, rfl⟩, hl⟩, hk⟩, h3⟩ := hf
  obtain ⟨t0, r, rfl, hr⟩ := lenS (n := 0) hk
  obtain rfl := len0 hr
  simp only [beq_iff_eq] at h3
  simp only [TreeIs] at hT
  obtain ⟨A, m, B, n, hc, _, _, _, _, _, cs, hK, hR⟩ := hT
  simp only [List.cons.injEq, and_true] at hc
  obtain ⟨rfl, rfl, rfl, rfl⟩ := hc
  obtain ⟨kb, ko, rfl, hS, hkb, hcell⟩ := hR.2 (by simp)
  obtain ⟨d0, d1, d2, d3, hT0, _, _, _, g3⟩ := hK.at_ (i := 0) (by simp)
  obtain ⟨A3, m3', B3, n3, e4⟩ := hT0.cells
  simp only [List.cons.injEq, and_true] at e4
  rw [hl] at hT' ⊢
  simp only [List.getElem_cons_zero] at e4
  refine ⟨A, m, kb, ko, n, B3, n3, rfl, hT', hkb, ?_, hx⟩
  rw [hcell 3 (by simp), show cs[3]? = some d3 from g3, e4.2.2.2, h3]
theorem awakeL {w : World} : Calls Try.prog 11 [].toArray w fun e w' => e = .returned (.bool true) ∧ Chg [] w w' := by
  refine enter_fr 47 Try.func11 rfl rfl rfl ?_
  intro a hf
  have hE := Chg.refl [] w
  refine wS fun K1 hK1 => wR <| sA hf rfl rfl fun a hf => sN <| hK1 _ _ <| wS fun K2 hK2 => wR <| sA hf rfl rfl fun a hf => sN <| hK2 _ _ <| wS fun K3 hK3 => wR <| sM hf rfl rfl fun a hf => st_c hf rfl rfl rfl (by kernel_rfl) (awkP (w := w)) ?_
  rintro _ w5 ⟨A, m, kb, ko, n, A3, m3, rfl, hT, lt_kb, hQ3, hx4⟩
  refine ⟨_, rfl, ?_⟩
  clear hf a; intro a hf
  obtain ⟨lo6, elo6⟩ : ∃ x, x = w.heap.size := ⟨_, rfl⟩
  obtain ⟨hi6, ehi6⟩ : ∃ x, x = w5.heap.size := ⟨_, rfl⟩
  replace hT := hT.within elo6 ehi6
  have hle6 : hi6 ≤ w5.heap.size := Nat.le_of_eq ehi6
  have ge_lo6 : w.heap.size ≤ lo6 := elo6 ▸ hE.size
  clear elo6 ehi6
  replace hE := hE.trans hx4 all0
  refine sM hf rfl rfl fun a hf => sV hf rfl (ex_extract hf rfl rfl) fun a hf => sV hf rfl (ex_extract hf rfl rfl) fun a hf => sV hf rfl (ex_extract hf rfl rfl) fun a hf => ?_
  obtain ⟨w7, b8, he, hB9, hx10, eb11, lb12⟩ := eT a w5 0
  refine sV hf rfl he ?_
  clear he hf a; intro a hf
  have ne_kb_b8 : kb ≠ b8 := ne_new lt_kb eb11
  have ta_hi6_b8 : hi6 ≤ b8 := eb11 ▸ hle6
  have ge_b8 := ge_new hE eb11
  replace hT := hT.chg hx10 (fun b hb _ => nm0)
  replace hle6 := nlt hle6 hx10.size
  replace hQ3 := (hx10.cell lt_kb nm0).trans hQ3
  replace lt_kb := hx10.lt lt_kb
  replace hE := hE.trans hx10 all0
  clear eb11 lb12
  obtain ⟨w13, he, hB14, hx15⟩ := eN (.tmp 2) (.tmp 8) hf rfl rfl rfl rfl hB9 rfl 0
  refine st_s hf rfl rfl he ?_
  clear he hf a; intro a hf
  replace hT := hT.chg hx15 (fun b hb _ => (nmc (by omega) nm0))
  replace hle6 := nlt hle6 hx15.size
  replace hQ3 := (hx15.cell lt_kb (nmc ne_kb_b8 nm0)).trans hQ3
  replace lt_kb := hx15.lt lt_kb
  replace hE := hE.trans hx15 (allc (.inr ge_b8) all0)
  clear hB9
  refine sA hf rfl rfl fun a hf => sA hf rfl rfl fun a hf => sN <| hK3 _ _ <| wS fun K16 hK16 => wR <| sM hf rfl rfl fun a hf => sV hf rfl (ex_eqI (c := true) hf rfl rfl (by decide)) fun a hf => sM hf rfl rfl fun a hf => sM hf rfl rfl fun a hf => sV hf rfl (ex_eqI (c := true) hf rfl rfl (by decide)) fun a hf => sV hf rfl (ex_pickT hf rfl rfl) fun a hf => sM hf rfl rfl fun a hf => sV hf rfl (ex_fa (k := 3) (r := 3) hf rfl (by kernel_rfl) rfl) fun a hf => sV hf rfl (ex_loadB hf rfl (by kernel_rfl) hB14 rfl) fun a hf => sV hf rfl (ex_len hf Try.underlying24 rfl) fun a hf => sV hf rfl (ex_eqI (c := true) hf rfl rfl (by decide)) fun a hf => sV hf rfl (ex_pickT hf rfl rfl) fun a hf => sM hf rfl rfl fun a hf => sV hf rfl (ex_fa (k := 1) (r := 1) hf rfl (by kernel_rfl) rfl) fun a hf => sV hf rfl (ex_loadB hf rfl (by kernel_rfl) hB14 rfl) fun a hf => sV hf rfl (ex_eqS (c := true) hf rfl rfl rfl) fun a hf => sV hf rfl (ex_pickT hf rfl rfl) fun a hf => sM hf rfl rfl fun a hf => sV hf rfl (ex_fa (k := 3) (r := 3) hf rfl (by kernel_rfl) rfl) fun a hf => sV hf rfl (ex_loadB hf rfl (by kernel_rfl) hB14 rfl) fun a hf => sV hf rfl (ex_index (sz := 4) (k := 0) (r := ko) hf Try.underlying24 (by kernel_rfl) rfl rfl rfl (by first | decide | simp) rfl) fun a hf => sV hf rfl (ex_fa (k := 3) (r := ko + 3) hf rfl (by kernel_rfl) rfl) fun a hf => sV hf rfl (ex_load hf rfl (by kernel_rfl) hQ3) fun a hf => sV hf rfl (ex_len hf Try.underlying24 rfl) fun a hf => sV hf rfl (ex_eqI (c := true) hf rfl rfl (by decide)) fun a hf => sV hf rfl (ex_pickT hf rfl rfl) fun a hf => sM hf rfl rfl fun a hf => sV hf rfl (ex_loadBN (m := 4) hf rfl (by kernel_rfl) hB14 rfl) fun a hf => st_c hf rfl rfl rfl (by kernel_rfl) (printL awk_bulk hT) ?_
  rintro _ w18 ⟨rfl, hx17⟩
  refine ⟨_, rfl, ?_⟩
  clear hf a; intro a hf
  replace hB14 := hB14.chg hx17 nm0
  replace hT := hT.chg hx17 (fun b hb _ => nm0)
  replace hle6 := nlt hle6 hx17.size
  replace hQ3 := (hx17.cell lt_kb nm0).trans hQ3
  replace lt_kb := hx17.lt lt_kb
  replace hE := hE.trans hx17 all0
  refine sM hf rfl rfl fun a hf => sV hf rfl (ex_eqS (c := true) hf rfl rfl (by rw [awk_print]; rfl)) fun a hf => sV hf rfl (ex_pickT hf rfl rfl) fun a hf => sM hf rfl rfl fun a hf => st_c hf rfl rfl rfl (by kernel_rfl) (leadsL (k := 2) (n := 4) (by omega)) ?_
  rintro _ w20 ⟨rfl, hx19⟩
  refine ⟨_, rfl, ?_⟩
  clear hf a; intro a hf
  replace hB14 := hB14.chg hx19 nm0
  replace hT := hT.chg hx19 (fun b hb _ => nm0)
  replace hle6 := nlt hle6 hx19.size
  replace hQ3 := (hx19.cell lt_kb nm0).trans hQ3
  replace lt_kb := hx19.lt lt_kb
  replace hE := hE.trans hx19 all0
  refine sV hf rfl (ex_eqI (c := true) hf rfl rfl rfl) fun a hf => sV hf rfl (ex_pickT hf rfl rfl) fun a hf => sA hf rfl rfl fun a hf => sN <| hK16 _ _ <| wp_ret ?_
  try simp only [Exit.then, Exit.inBlock]
  exact ret_of (rs := [.tmp 0]) hf rfl ⟨_, _, rfl, rfl, rfl⟩ ⟨rfl, hE⟩
end Go.Proofs.Ythpjpngfghcmcaa
namespace Go.Proofs.Ythpjpngfghcmcaa
open Go.RowKit Lx Sx
set_option linter.unusedVariables false
set_option linter.unusedSimpArgs false
set_option maxRecDepth 100000
set_option maxHeartbeats 4000000
theorem parseAt {l : List UInt8} {w : World} (hl : l.length ≤ 281474976710656) {at_ e : Nat} (h : (parseT l).2 = (at_, e)) : Calls Try.prog 12 [strV l].toArray w fun r w' => ∃ c0 c1 c2 c3, r = .returned (.tuple #[.agg #[c0, c1, c2, c3], .int .i64 at_, .int .i64 e]) ∧ TreeIs (fun b => w.heap.size ≤ b) w' (parseT l).1 [c0, c1, c2, c3] ∧ Chg [] w w' := by
  refine (parseL (l := l) (w := w) hl).mono ?_
  rintro r w' ⟨c0, c1, c2, c3, rfl, hT, hx⟩
  rw [h]
  exact ⟨c0, c1, c2, c3, rfl, hT, hx⟩
end Go.Proofs.Ythpjpngfghcmcaa
namespace Go.Proofs.Ythpjpngfghcmcaa
open Go.RowKit Lx Sx
set_option linter.unusedVariables false
set_option linter.unusedSimpArgs false
set_option maxRecDepth 100000
set_option maxHeartbeats 4000000
theorem tmod_facts (n m : Int) (hm : 0 < m) : n.tmod m < m ∧ -m < n.tmod m ∧ (n.tmod m < 0 → n % m = n.tmod m + m) ∧ (¬ n.tmod m < 0 → n % m = n.tmod m) := by
  have h1 := Int.tmod_lt_of_pos n hm
  have h2 := Int.tmod_lt_of_pos (-n) hm
  rw [Int.neg_tmod] at h2
  have h3 : n % m = (n.tmod m) % m := by
    have e := Int.tmod_add_mul_tdiv n m
    have : (n.tmod m + m * n.tdiv m) % m = n.tmod m % m := Int.add_mul_emod_self_left ..
    rw [e] at this
    exact this
  refine ⟨h1, by omega, fun h => ?_, fun h => ?_⟩
  · rw [h3]
    have : n.tmod m % m = (n.tmod m + m) % m := by rw [Int.add_emod_right]
    rw [this, Int.emod_eq_of_lt (by omega) (by omega)]
  · rw [h3, Int.emod_eq_of_lt (by omega) h1]
set_option maxHeartbeats 1000000 in
theorem modC (n m : Int) (w : World) (hm : 0 < m) (hm2 : m ≤ 1000000) : Calls Try.prog 20 #[.int .i64 n, .int .i64 m] w fun e w' => e = .returned (.int .i64 (n % m)) ∧ w = w' := by
  have hne : (m == 0) = false := by simp; omega
  have hm0 : ¬ m = 0 := by omega
  obtain ⟨h1, h2, h3, h4⟩ := tmod_facts n m hm
  have H3 := Lib.hid h3
  have H4 := Lib.hid h4
  obtain ⟨q, hq⟩ : ∃ q, n % m = q := ⟨_, rfl⟩
  rw [hq]
  have HQ := Lib.hid hq
  clear h3 h4 hq
  by_cases hneg : n.tmod m < 0
  · have HR := Lib.hid (HQ.out.symm.trans (H3.out hneg))
    go_enter Try.func20, Try.ntmps20
    go_wp2
    go_ret
    exact ⟨ret_int HR.out.symm, rfl⟩
  · have HR := Lib.hid (HQ.out.symm.trans (H4.out hneg))
    go_enter Try.func20, Try.ntmps20
    go_wp2
    go_ret
    exact ⟨ret_int HR.out.symm, rfl⟩
theorem ex_addS {P : Program} {a : Act} {w : World} {n : Nat} {f : Nat → Option Value} {ty t u : TypeId} {x y : Operand} {m l r : List UInt8} (h : Fr a n f) (hx : valF f x = some (.string ⟨m.toArray⟩)) (hy : valF f y = some (.string ⟨l.toArray⟩)) (hl : m.length + l.length ≤ 9223372036854775807) (hr : m ++ l = r) : Runs P a ty (.binOp .add t x y u) w (.value (.string ⟨r.toArray⟩)) w := fun _ _ _ _ => by
  subst hr
  simp only [execOp, h.eval hx, h.eval hy]
  simp [go_sem, eqGuard, app_list, hl]
def deepS : Nat → List UInt8
  | 0 => [49]
  | n + 1 => 40 :: deepS n ++ [41]
def headD : List UInt8 := [109, 111, 100, 117, 108, 101, 32, 77, 32, 100, 101, 102, 32, 102, 40, 41, 58, 32, 73, 110, 116, 32, 61, 32]
theorem deepS_len : ∀ n, (deepS n).length = 2 * n + 1
  | 0 => rfl
  | n + 1 => by simp [deepS, deepS_len n]; omega
theorem deep_a : ∀ n, n < 38 → (parseT (headD ++ deepS n)).2 = (0, 0) := by decide +kernel
theorem deep_b : ∀ n, n < 80 → 37 < n → (parseT (headD ++ deepS n)).2 = (0, 4) := by decide +kernel
theorem deepW1 (nd : Int) (N : Nat) (hN : nd % 80 = N) (h80 : N < 80) (hk : N + 3 ≤ 40) (w : World) : Calls Try.prog 8 [.int .i64 nd].toArray w fun e w' => e = .returned (.bool true) ∧ Ext w w' := by
  refine enter_fr 42 Try.func8 rfl rfl rfl ?_
  intro a hf
  have hE := Chg.refl [] w
  refine wS fun K1 hK1 => wR <| sA hf rfl rfl fun a hf => sN <| hK1 _ _ <| wS fun K2 hK2 => wR <| sM hf rfl rfl fun a hf => st_c hf rfl rfl rfl (by kernel_rfl) (calls_eq (modC _ 80 _ (by decide) (by decide))) ?_
  rintro _ w4 ⟨rfl, hx3⟩
  refine ⟨_, rfl, ?_⟩
  clear hf a; intro a hf
  replace hE := hE.trans hx3 all0
  rw [hN] at hf
  refine sA hf rfl rfl fun a hf => sN <| hK2 _ _ <| wS fun K5 hK5 => wR <| sA hf rfl rfl fun a hf => sN <| hK5 _ _ <| wS fun K6 hK6 => wS fun K7 hK7 => wR <| sA hf rfl rfl fun a hf => sN <| hK7 _ _ <| wp_block <| wp_loop_ghost (fun g a w' => ∃ i : Nat, Fr a 42 (fm [(0, .int .i64 (N : Nat)), (3, strV (deepS i)), (4, .int .i64 (i : Nat))]) ∧ Chg [] w w' ∧ i ≤ N ∧ g = N - i) _ ⟨0, hf.pick ⟨rfl, rfl, rfl, trivial⟩, hE, Nat.zero_le _, rfl⟩ ?_
  clear hf a; intro g0 a w' hI
  obtain ⟨i, hf, hE, hi, rfl⟩ := hI
  by_cases hlt : i < N
  refine wS fun K8 hK8 => wS fun K9 hK9 => wR <| sM hf rfl rfl fun a hf => sM hf rfl rfl fun a hf => sV hf rfl (ex_ltI (c := true) hf rfl rfl (by simp <;> omega)) fun a hf => sN <| hK9 _ _ <| cT hf rfl <| wp_skip <| hK8 _ _ <| wS fun K10 hK10 => wp_block <| wR <| sM hf rfl rfl fun a hf => sV hf rfl (ex_addS hf rfl rfl (by simp [deepS_len, headD] <;> omega) rfl) fun a hf => sV hf rfl (ex_addS hf rfl rfl (by simp [deepS_len, headD] <;> omega) rfl) fun a hf => sA hf rfl rfl fun a hf => sN <| hK10 _ _ <| wR <| sM hf rfl rfl fun a hf => sV hf rfl (ex_addI hf rfl rfl rfl (by omega)) fun a hf => sA hf rfl rfl fun a hf => sN ?_
  exact ⟨_, (by omega : N - (i + 1) < N - i), i + 1, hf.pick ⟨rfl, rfl, rfl, trivial⟩, hE, by omega, rfl⟩
  obtain rfl : i = N := by omega
  refine wS fun K11 hK11 => wS fun K12 hK12 => wR <| sM hf rfl rfl fun a hf => sM hf rfl rfl fun a hf => sV hf rfl (ex_ltI (c := false) hf rfl rfl (by simp <;> omega)) fun a hf => sN <| hK12 _ _ <| cF hf rfl <| wp_exit ?_
  simp only [Exit.then, Exit.inBlock, ↓reduceIte, Nat.reduceEqDiff]
  refine hK6 _ _ <| wS fun K13 hK13 => wR <| sM hf rfl rfl fun a hf => sV hf rfl (ex_addS hf rfl rfl (by simp [deepS_len, headD] <;> omega) rfl) fun a hf => st_c hf rfl rfl rfl (by kernel_rfl) (parseAt (l := headD ++ deepS i) (by simp only [List.length_append, deepS_len, headD, List.length_cons, List.length_nil]; omega) (at_ := 0) (e := 0) (deep_a i (by omega))) ?_
  rintro _ w15 ⟨c0, c1, c2, c3, rfl, hT, hx14⟩
  refine ⟨_, rfl, ?_⟩
  clear hf a; intro a hf
  have on_T := hT.one
  clear hT
  replace hE := hE.trans hx14 all0
  refine sM hf rfl rfl fun a hf => sV hf rfl (ex_extract hf rfl rfl) fun a hf => sV hf rfl (ex_extract hf rfl rfl) fun a hf => sV hf rfl (ex_extract hf rfl rfl) fun a hf => ?_
  obtain ⟨w16, b17, he, hB18, hx19, eb20, lb21⟩ := eT a w15 0
  refine sV hf rfl he ?_
  clear he hf a; intro a hf
  have ge_b17 := ge_new hE eb20
  replace hE := hE.trans hx19 all0
  clear eb20 lb21
  obtain ⟨w22, he, hB23, hx24⟩ := eN (.tmp 5) (.tmp 22) hf rfl rfl rfl on_T hB18 rfl 0
  refine st_s hf rfl rfl he ?_
  clear he hf a; intro a hf
  replace hE := hE.trans hx24 (allc (.inr ge_b17) all0)
  clear hB18
  refine sA hf rfl rfl fun a hf => sA hf rfl rfl fun a hf => sN <| hK13 _ _ <| wS fun K25 hK25 => wS fun K26 hK26 => wR <| sM hf rfl rfl fun a hf => sV hf rfl (ex_addI hf rfl rfl rfl (by omega)) fun a hf => sV hf rfl (ex_leI (c := true) hf rfl rfl (by simp <;> omega)) fun a hf => sN <| hK26 _ _ <| cT hf rfl <| wS fun K27 hK27 => wR <| st_c hf rfl rfl rfl (by kernel_rfl) (awakeL) ?_
  rintro _ w29 ⟨rfl, hx28⟩
  refine ⟨_, rfl, ?_⟩
  clear hf a; intro a hf
  replace hB23 := hB23.chg hx28 nm0
  replace hE := hE.trans hx28 all0
  refine sM hf rfl rfl fun a hf => sM hf rfl rfl fun a hf => sV hf rfl (ex_eqI (c := true) hf rfl rfl (by decide)) fun a hf => sV hf rfl (ex_pickT hf rfl rfl) fun a hf => sA hf rfl rfl fun a hf => sN <| hK27 _ _ <| wp_ret ?_
  try simp only [Exit.then, Exit.inBlock]
  exact ret_of (rs := [.tmp 2]) hf rfl ⟨_, _, rfl, rfl, rfl⟩ ⟨rfl, hE.ext⟩
theorem deepW2 (nd : Int) (N : Nat) (hN : nd % 80 = N) (h80 : N < 80) (hk : ¬ N + 3 ≤ 40) (w : World) : Calls Try.prog 8 [.int .i64 nd].toArray w fun e w' => e = .returned (.bool true) ∧ Ext w w' := by
  refine enter_fr 42 Try.func8 rfl rfl rfl ?_
  intro a hf
  have hE := Chg.refl [] w
  refine wS fun K1 hK1 => wR <| sA hf rfl rfl fun a hf => sN <| hK1 _ _ <| wS fun K2 hK2 => wR <| sM hf rfl rfl fun a hf => st_c hf rfl rfl rfl (by kernel_rfl) (calls_eq (modC _ 80 _ (by decide) (by decide))) ?_
  rintro _ w4 ⟨rfl, hx3⟩
  refine ⟨_, rfl, ?_⟩
  clear hf a; intro a hf
  replace hE := hE.trans hx3 all0
  rw [hN] at hf
  refine sA hf rfl rfl fun a hf => sN <| hK2 _ _ <| wS fun K5 hK5 => wR <| sA hf rfl rfl fun a hf => sN <| hK5 _ _ <| wS fun K6 hK6 => wS fun K7 hK7 => wR <| sA hf rfl rfl fun a hf => sN <| hK7 _ _ <| wp_block <| wp_loop_ghost (fun g a w' => ∃ i : Nat, Fr a 42 (fm [(0, .int .i64 (N : Nat)), (3, strV (deepS i)), (4, .int .i64 (i : Nat))]) ∧ Chg [] w w' ∧ i ≤ N ∧ g = N - i) _ ⟨0, hf.pick ⟨rfl, rfl, rfl, trivial⟩, hE, Nat.zero_le _, rfl⟩ ?_
  clear hf a; intro g0 a w' hI
  obtain ⟨i, hf, hE, hi, rfl⟩ := hI
  by_cases hlt : i < N
  refine wS fun K8 hK8 => wS fun K9 hK9 => wR <| sM hf rfl rfl fun a hf => sM hf rfl rfl fun a hf => sV hf rfl (ex_ltI (c := true) hf rfl rfl (by simp <;> omega)) fun a hf => sN <| hK9 _ _ <| cT hf rfl <| wp_skip <| hK8 _ _ <| wS fun K10 hK10 => wp_block <| wR <| sM hf rfl rfl fun a hf => sV hf rfl (ex_addS hf rfl rfl (by simp [deepS_len, headD] <;> omega) rfl) fun a hf => sV hf rfl (ex_addS hf rfl rfl (by simp [deepS_len, headD] <;> omega) rfl) fun a hf => sA hf rfl rfl fun a hf => sN <| hK10 _ _ <| wR <| sM hf rfl rfl fun a hf => sV hf rfl (ex_addI hf rfl rfl rfl (by omega)) fun a hf => sA hf rfl rfl fun a hf => sN ?_
  exact ⟨_, (by omega : N - (i + 1) < N - i), i + 1, hf.pick ⟨rfl, rfl, rfl, trivial⟩, hE, by omega, rfl⟩
  obtain rfl : i = N := by omega
  refine wS fun K11 hK11 => wS fun K12 hK12 => wR <| sM hf rfl rfl fun a hf => sM hf rfl rfl fun a hf => sV hf rfl (ex_ltI (c := false) hf rfl rfl (by simp <;> omega)) fun a hf => sN <| hK12 _ _ <| cF hf rfl <| wp_exit ?_
  simp only [Exit.then, Exit.inBlock, ↓reduceIte, Nat.reduceEqDiff]
  refine hK6 _ _ <| wS fun K13 hK13 => wR <| sM hf rfl rfl fun a hf => sV hf rfl (ex_addS hf rfl rfl (by simp [deepS_len, headD] <;> omega) rfl) fun a hf => st_c hf rfl rfl rfl (by kernel_rfl) (parseAt (l := headD ++ deepS i) (by simp only [List.length_append, deepS_len, headD, List.length_cons, List.length_nil]; omega) (at_ := 0) (e := 4) (deep_b i (by omega) (by omega))) ?_
  rintro _ w15 ⟨c0, c1, c2, c3, rfl, hT, hx14⟩
  refine ⟨_, rfl, ?_⟩
  clear hf a; intro a hf
  have on_T := hT.one
  clear hT
  replace hE := hE.trans hx14 all0
  refine sM hf rfl rfl fun a hf => sV hf rfl (ex_extract hf rfl rfl) fun a hf => sV hf rfl (ex_extract hf rfl rfl) fun a hf => sV hf rfl (ex_extract hf rfl rfl) fun a hf => ?_
  obtain ⟨w16, b17, he, hB18, hx19, eb20, lb21⟩ := eT a w15 0
  refine sV hf rfl he ?_
  clear he hf a; intro a hf
  have ge_b17 := ge_new hE eb20
  replace hE := hE.trans hx19 all0
  clear eb20 lb21
  obtain ⟨w22, he, hB23, hx24⟩ := eN (.tmp 5) (.tmp 22) hf rfl rfl rfl on_T hB18 rfl 0
  refine st_s hf rfl rfl he ?_
  clear he hf a; intro a hf
  replace hE := hE.trans hx24 (allc (.inr ge_b17) all0)
  clear hB18
  refine sA hf rfl rfl fun a hf => sA hf rfl rfl fun a hf => sN <| hK13 _ _ <| wS fun K25 hK25 => wS fun K26 hK26 => wR <| sM hf rfl rfl fun a hf => sV hf rfl (ex_addI hf rfl rfl rfl (by omega)) fun a hf => sV hf rfl (ex_leI (c := false) hf rfl rfl (by simp <;> omega)) fun a hf => sN <| hK26 _ _ <| cF hf rfl <| wp_skip <| hK25 _ _ <| wS fun K27 hK27 => wR <| st_c hf rfl rfl rfl (by kernel_rfl) (awakeL) ?_
  rintro _ w29 ⟨rfl, hx28⟩
  refine ⟨_, rfl, ?_⟩
  clear hf a; intro a hf
  replace hB23 := hB23.chg hx28 nm0
  replace hE := hE.trans hx28 all0
  refine sM hf rfl rfl fun a hf => sM hf rfl rfl fun a hf => sV hf rfl (ex_eqI (c := true) hf rfl rfl (by decide)) fun a hf => sV hf rfl (ex_pickT hf rfl rfl) fun a hf => sM hf rfl rfl fun a hf => sM hf rfl rfl fun a hf => sV hf rfl (ex_eqI (c := true) hf rfl rfl (by decide)) fun a hf => sV hf rfl (ex_pickT hf rfl rfl) fun a hf => sA hf rfl rfl fun a hf => sN <| hK27 _ _ <| wp_ret ?_
  try simp only [Exit.then, Exit.inBlock]
  exact ret_of (rs := [.tmp 2]) hf rfl ⟨_, _, rfl, rfl, rfl⟩ ⟨rfl, hE.ext⟩
theorem deepW (nd : Int) (w : World) : Calls Try.prog 8 [.int .i64 nd].toArray w fun e w' => e = .returned (.bool true) ∧ Ext w w' := by
  have h1 := Int.emod_nonneg nd (by decide : (80 : Int) ≠ 0)
  have h2 := Int.emod_lt_of_pos nd (by decide : (0 : Int) < 80)
  obtain ⟨N, hN⟩ := Int.eq_ofNat_of_zero_le h1
  by_cases hk : N + 3 ≤ 40
  · exact deepW1 nd N hN (by omega) hk w
  · exact deepW2 nd N hN (by omega) hk w
end Go.Proofs.Ythpjpngfghcmcaa
