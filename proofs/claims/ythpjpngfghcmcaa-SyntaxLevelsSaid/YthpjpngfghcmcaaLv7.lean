/- Contracts of the functions that the law reaches, part 7. -/
import Derived.Test.YthpjpngfghcmcaaLv6
set_option linter.unusedVariables false
set_option linter.unusedSimpArgs false
namespace Go.Proofs.Ythpjpngfghcmcaa
open Go.RowKit Lx Sx
set_option maxRecDepth 100000
set_option maxHeartbeats 4000000
theorem KidsAre.part {S : Nat → Prop} {w : World} : ∀ {a b : List Tree} {cs : List Value}, KidsAre S w (a ++ b) cs → ∃ c d, cs = c ++ d ∧ KidsAre S w a c ∧ KidsAre S w b d
  | [], b, cs, h => ⟨[], cs, rfl, rfl, h⟩
  | t :: r, b, cs, h => by
    simp only [List.cons_append, KidsAre] at h
    obtain ⟨c, d, e, h1, h2⟩ := h
    obtain ⟨c', d', e', h3, h4⟩ := KidsAre.part h2
    exact ⟨c ++ c', d', by rw [e, e', List.append_assoc], by simp only [KidsAre]; exact ⟨c, c', rfl, h1, h3⟩, h4⟩
theorem RowIn.now {Bs b : Nat} {w w' : World} {A : Option Addr} {sz n : Nat} {cs : List Value} (h : RowIn (fun b => b < Bs) w sz A n cs) (hE : Prn Bs b w w') : RowIn (fun b => b < Bs) w' sz A n cs := h.keepB (fun _ h _ => h) (fun _ hb _ => hE.below.block _ hb)
theorem KidsAre.now {Bs b : Nat} {w w' : World} {ks : List Tree} {cs : List Value} (h : KidsAre (fun b => b < Bs) w ks cs) (hE : Prn Bs b w w') : KidsAre (fun b => b < Bs) w' ks cs := h.keepB (fun _ h _ => h) (fun _ hb _ => hE.below.block _ hb)
theorem RowIn.part {S : Nat → Prop} {w : World} {A : Option Addr} {n n1 : Nat} {c d : List Value} (h : RowIn S w 4 A n (c ++ d)) (hc : c.length = n1 * 4) (hn : n1 ≤ n) : RowIn S w 4 A n1 c := by
  refine ⟨hc, fun h0 => ?_⟩
  obtain ⟨b, off, e, hS, hb, hcell⟩ := h.2 (by omega)
  refine ⟨b, off, e, hS, hb, fun j hj => ?_⟩
  rw [hcell j (by omega), List.getElem?_append_left (by omega)]
theorem kbulk_app : ∀ (a b : List Tree), kbulk (a ++ b) = kbulk a + kbulk b
  | [], b => by simp [kbulk]
  | t :: r, b => by simp only [List.cons_append, kbulk, kbulk_app r b]; omega
theorem ex_slH {P : Program} {a : Act} {w : World} {n : Nat} {f : Nat → Option Value} {ty : TypeId} {t e : TypeId} {x y : Operand} {A : Option Addr} {m c sz k : Nat} {i : Int} (h : Fr a n f) (ht : P.underlying t = some (.slice e)) (hz : sizeT P e = some sz) (hx : valF f x = some (.slice A m c)) (hy : valF f y = some (.int .i64 i)) (hi : i = (k : Int)) (hk : k ≤ c) :
    Runs P a ty (.slice t x none (some y) none) w (.value (.slice A k c)) w := fun _ _ _ _ => by
  subst hi
  obtain ⟨inf, hinf, hs⟩ := Option.map_eq_some_iff.1 (show (P.info? e).map (·.size) = some sz from hz)
  simp only [execOp, h.eval hx, Option.map_some, Option.map_none, h.eval hy]
  simp [Instr.sliceAt, Instr.slice, run_underlying ht, Instr.sliceBounds, run_sliceBound w .i64 (k : Int) c .sliceAcap (by omega) (by omega), sizeOf, typeInfo, hinf, hs]
  try (split <;> simp_all)
  try (cases A <;> simp)
  all_goals (intro _; unfold Addr.add; split <;> simp_all)
theorem t16 {N : Nat} (ih : TreeOk N) {w : World} {Bs b : Nat} {s : WS} {x : List UInt8} {l0 l1 l2 : List UInt8} {ms : List (List UInt8)} {ks : List Tree} {cs : List Value} {A B : Option Addr} {m n : Nat} (hcl : 3 + ks.length ≤ (l0 :: l1 :: l2 :: ms).length + 1) (hks : ∀ t, t ∈ ks → tsize t ≤ N ∧ shapedT t = true ∧ leadedT t = true)
    (hl1 : s.2.length + 100 * (x.length + lsum (l0 :: l1 :: l2 :: ms) + kbulk ks + 1) ≤ 1000000000000) (hl2 : s.1.length + 100 * (x.length + lsum (l0 :: l1 :: l2 :: ms) + kbulk ks + 1) ≤ 1000000000000) (hP : Pr Bs b s.1 s.2 w) (hL : RowIn (fun b => b < Bs) w 1 A (l0 :: l1 :: l2 :: ms).length ((l0 :: l1 :: l2 :: ms).map strV)) (hn : ks.length ≤ n) (hn2 : n ≤ maxLen) (hK : KidsAre (fun b => b < Bs) w ks cs) (hR : RowIn (fun b => b < Bs) w 4 B ks.length cs) (hBw : Bs ≤ w.heap.size) :
    Calls Try.prog 61 [.pointer (some ⟨b, 0, none⟩), .agg #[.int .i64 16, strV x, .slice A (l0 :: l1 :: l2 :: ms).length m, .slice B ks.length n]].toArray w fun e w' => e = .returned (.tuple #[]) ∧ Pr Bs b (treeP (.node 16 x (l0 :: l1 :: l2 :: ms) ks) s).1 (treeP (.node 16 x (l0 :: l1 :: l2 :: ms) ks) s).2 w' ∧ Prn Bs b w w' := by
  simp only [lsum, kbulk] at hl1 hl2
  have hgk : ∀ t, t ∈ ks → ∀ s, Gw (100 * tbulk t) s (treeP t s) := fun t ht s => Gw.tree _ t (Nat.le_refl _) (hks t ht).2.2 s
  have hKL := kbulk_len ks
  have hll := lsum_len ms
  have hcl' := hcl
  simp only [List.length_cons] at hcl'
  have hE := Prn.refl (b := b) hBw
  have hG : s.2.length ≤ s.2.length := Nat.le_refl _
  have hG' : s.1.length ≤ s.1.length := Nat.le_refl _
  obtain ⟨lb, lo, rfl, _, hlb, _⟩ := hL.2 (by simp)
  refine enter_fr 216 Try.func61 rfl rfl rfl ?_
  intro a hf
  refine wS fun K1 hK1 => wR ?_
  obtain ⟨w2, b3, he, hB4, hx5, eb6, lb7⟩ := ef_box (P := Try.prog) (t := 26) (x := (.tmp 1)) hf rfl rfl w 0
  refine sV hf rfl he fun a hf => ?_
  have ge_b3 := Prn.ge_new hE eb6
  have ne_b_b3 : b ≠ b3 := ne_new hP.lt eb6
  replace hP := hP.chg0 hx5
  replace hE := hE.t0 hx5
  clear eb6 lb7
  refine sN <| hK1 _ _ <| wS fun K8 hK8 => wR <| sV hf rfl (ex_fa (k := 0) (r := 0) hf rfl (by kernel_rfl) rfl) fun a hf => sV hf rfl (ex_loadB hf rfl (by kernel_rfl) hB4 rfl) fun a hf => sN <| hK8 _ _ <| wp_block <| wS fun K9 hK9 => wS fun K10 hK10 => wR <| sV hf rfl (ex_eqI (c := false) hf rfl rfl (by decide)) fun a hf => sA hf rfl rfl fun a hf => sN <| hK10 _ _ <| cF hf rfl <| wS fun K11 hK11 => wR <| sV hf rfl (ex_eqI (c := false) hf rfl rfl (by decide)) fun a hf => sA hf rfl rfl fun a hf => sN <| hK11 _ _ <| cF hf rfl <| wS fun K12 hK12 => wR <| sV hf rfl (ex_eqI (c := false) hf rfl rfl (by decide)) fun a hf => sA hf rfl rfl fun a hf => sN <| hK12 _ _ <| cF hf rfl <| wR <| sV hf rfl (ex_eqI (c := false) hf rfl rfl (by decide)) fun a hf => sA hf rfl rfl fun a hf => sN <| hK9 _ _ <| cF hf rfl <| wS fun K13 hK13 => wR <| sV hf rfl (ex_eqI (c := false) hf rfl rfl (by decide)) fun a hf => sA hf rfl rfl fun a hf => sN <| hK13 _ _ <| cF hf rfl <| wS fun K14 hK14 => wR <| sV hf rfl (ex_eqI (c := false) hf rfl rfl (by decide)) fun a hf => sA hf rfl rfl fun a hf => sN <| hK14 _ _ <| cF hf rfl <| wS fun K15 hK15 => wR <| sV hf rfl (ex_eqI (c := true) hf rfl rfl (by decide)) fun a hf => sA hf rfl rfl fun a hf => sN <| hK15 _ _ <| cT hf rfl <| wS fun K16 hK16 => ?_
  have s_lb := lead_now hL hE (j := 0) rfl
  have s_hB4 := hB4
  refine dl_start (fun x => x.cell? ⟨b3, 2, none⟩ = w2.cell? ⟨b3, 2, none⟩ ∧ x.cell? ⟨lb, lo, none⟩ = w2.cell? ⟨lb, lo, none⟩ ∧ x.cell? ⟨b3, 1, none⟩ = w2.cell? ⟨b3, 1, none⟩) 8 8 rfl (by kernel_rfl) (by kernel_rfl) ?_
  intro w17 hx18 hsel
  replace hB4 := hB4.c0 hx18
  replace hP := hP.chg0 hx18
  replace hE := hE.t0 hx18
  have hS0 : w17.cell? ⟨b3, 2, none⟩ = w2.cell? ⟨b3, 2, none⟩ ∧ w17.cell? ⟨lb, lo, none⟩ = w2.cell? ⟨lb, lo, none⟩ ∧ w17.cell? ⟨b3, 1, none⟩ = w2.cell? ⟨b3, 1, none⟩ := ⟨(hB4.cell 2).trans (s_hB4.cell 2).symm, ((lead_now hL hE (j := 0) rfl).trans s_lb.symm), (hB4.cell 1).trans (s_hB4.cell 1).symm⟩
  refine dM 0 rfl rfl hsel (by kernel_rfl) hf rfl hS0 rfl fun a hf => dV 1 rfl rfl hsel (by kernel_rfl) hf rfl (.inl hS0) (fun x => ex_fa (k := 2) (r := 2) hf rfl (by kernel_rfl) rfl) fun a hf => dL 2 rfl rfl hsel (by kernel_rfl) hf rfl hS0 (fun x hS => ex_load hf rfl (by kernel_rfl) (hS.1.trans ((s_hB4.cell 2).trans rfl))) fun a hf => dV 3 rfl rfl hsel (by kernel_rfl) hf rfl (.inl hS0) (fun x => ex_index (sz := 1) (k := 0) (r := lo) hf Try.underlying23 (by kernel_rfl) rfl rfl rfl (by simp) rfl) fun a hf => dL 4 rfl rfl hsel (by kernel_rfl) hf rfl hS0 (fun x hS => ex_load hf rfl (by kernel_rfl) (hS.2.1.trans s_lb)) fun a hf => dV 5 rfl rfl hsel (by kernel_rfl) hf rfl (.inl hS0) (fun x => ex_fa (k := 1) (r := 1) hf rfl (by kernel_rfl) rfl) fun a hf => dL 6 rfl rfl hsel (by kernel_rfl) hf rfl hS0 (fun x hS => ex_load hf rfl (by kernel_rfl) (hS.2.2.trans ((s_hB4.cell 1).trans rfl))) fun a hf => dl_c 7 (by kernel_rfl) rfl hf rfl rfl rfl (by kernel_rfl) (putL (lead := l0) (tok := x) hP (by (try simp only [putP, List.length_append, List.length_cons, List.length_nil]); omega) (by (try simp only [putP, List.length_append, List.length_cons, List.length_nil]); omega) hE.now) ?_
  rintro _ w21 ⟨rfl, hPn, hEn⟩
  refine ⟨_, rfl, fun a hf => ?_⟩
  have hx20 := hEn.chg
  replace hB4 := hB4.chg hx20 (nm_blk hB4 rfl (Ne.symm ne_b_b3))
  replace hE := hE.trans hx20 (fun _ h => .inl h)
  obtain ⟨s19, es19⟩ : ∃ z, z = putP l0 x s := ⟨_, rfl⟩
  replace hPn : Pr Bs b (putP l0 x s).1 (putP l0 x s).2 w21 := hPn
  rw [← es19] at hPn
  have gs19 := put_len l0 x s
  rw [← es19] at gs19
  obtain ⟨gs19, gs19'⟩ := gs19
  (try simp only [List.length_cons, List.length_nil, lsum] at gs19 gs19')
  replace hG := nlt gs19 (Nat.add_le_add_right hG _)
  replace hG' := nlt gs19' (Nat.add_le_add_right hG' _)
  clear gs19 gs19'
  clear hP; have hP := hPn; clear hPn hEn
  clear hS0
  have hS0 : w21.cell? ⟨b3, 2, none⟩ = w2.cell? ⟨b3, 2, none⟩ ∧ w21.cell? ⟨lb, lo, none⟩ = w2.cell? ⟨lb, lo, none⟩ ∧ w21.cell? ⟨b3, 1, none⟩ = w2.cell? ⟨b3, 1, none⟩ := ⟨(hB4.cell 2).trans (s_hB4.cell 2).symm, ((lead_now hL hE (j := 0) rfl).trans s_lb.symm), (hB4.cell 1).trans (s_hB4.cell 1).symm⟩
  refine ⟨.inl hS0, ?_⟩
  refine dl_done (by kernel_rfl) ?_
  clear hS0 hsel
  refine hK16 _ _ <| wS fun K22 hK22 => wR <| sM hf rfl rfl fun a hf => sV hf rfl (ex_fa (k := 2) (r := 2) hf rfl (by kernel_rfl) rfl) fun a hf => sV hf rfl (ex_loadB hf rfl (by kernel_rfl) hB4 rfl) fun a hf => sV hf rfl (ex_index (sz := 1) (k := 1) (r := lo + 1) hf Try.underlying23 (by kernel_rfl) rfl rfl rfl (by simp) rfl) fun a hf => sV hf rfl (ex_load hf rfl (by kernel_rfl) (lead_now hL hE (j := 1) rfl)) fun a hf => st_c hf rfl rfl rfl (by kernel_rfl) (putL (lead := l1) (tok := [40]) hP (by (try simp only [putP, List.length_append, List.length_cons, List.length_nil]); omega) (by (try simp only [putP, List.length_append, List.length_cons, List.length_nil]); omega) hE.now) ?_
  rintro _ w25 ⟨rfl, hPn, hEn⟩
  refine ⟨_, rfl, fun a hf => ?_⟩
  have hx24 := hEn.chg
  replace hB4 := hB4.chg hx24 (nm_blk hB4 rfl (Ne.symm ne_b_b3))
  replace hE := hE.trans hx24 (fun _ h => .inl h)
  obtain ⟨s23, es23⟩ : ∃ z, z = putP l1 [40] s19 := ⟨_, rfl⟩
  replace hPn : Pr Bs b (putP l1 [40] s19).1 (putP l1 [40] s19).2 w25 := hPn
  rw [← es23] at hPn
  have gs23 := put_len l1 [40] s19
  rw [← es23] at gs23
  obtain ⟨gs23, gs23'⟩ := gs23
  (try simp only [List.length_cons, List.length_nil, lsum] at gs23 gs23')
  replace hG := nlt gs23 (Nat.add_le_add_right hG _)
  replace hG' := nlt gs23' (Nat.add_le_add_right hG' _)
  clear gs23 gs23'
  clear hP; have hP := hPn; clear hPn hEn
  refine sN <| hK22 _ _ <| wS fun K26 hK26 => wR <| sM hf rfl rfl fun a hf => sV hf rfl (ex_loadBN (m := 4) hf rfl (by kernel_rfl) hB4 rfl) fun a hf => sV hf rfl (ex_fa (k := 3) (r := 3) hf rfl (by kernel_rfl) rfl) fun a hf => sV hf rfl (ex_loadB hf rfl (by kernel_rfl) hB4 rfl) fun a hf => ?_
  have hLn := hL.now hE
  have hKn := hK.now hE
  have hRn := hR.now hE
  refine st_c hf rfl rfl rfl (by kernel_rfl) (plistI ih (s := s23) (ls := (l0 :: l1 :: l2 :: ms)) (ks := ks) (c := 3) (ci := 3) (by decide) (by decide) (by decide) hcl hks (by simp only [lsum]; omega) (by simp only [lsum]; omega) hP hLn hKn hRn hE.now) ?_
  rintro _ w29 ⟨rfl, hPn, hEn⟩
  refine ⟨_, rfl, fun a hf => ?_⟩
  have hx28 := hEn.chg
  replace hB4 := hB4.chg hx28 (nm_blk hB4 rfl (Ne.symm ne_b_b3))
  replace hE := hE.trans hx28 (fun _ h => .inl h)
  obtain ⟨s27, es27⟩ : ∃ z, z = listP (l0 :: l1 :: l2 :: ms) 3 (treesP ks) 0 s23 := ⟨_, rfl⟩
  replace hPn : Pr Bs b (listP (l0 :: l1 :: l2 :: ms) 3 (treesP ks) 0 s23).1 (listP (l0 :: l1 :: l2 :: ms) 3 (treesP ks) 0 s23).2 w29 := hPn
  rw [← es27] at hPn
  have gs27 := list_len (ls := (l0 :: l1 :: l2 :: ms)) (c := 3) (by decide) hgk s23
  rw [← es27] at gs27
  obtain ⟨gs27, gs27'⟩ := gs27
  (try simp only [List.length_cons, List.length_nil, lsum] at gs27 gs27')
  replace hG := nlt gs27 (Nat.add_le_add_right hG _)
  replace hG' := nlt gs27' (Nat.add_le_add_right hG' _)
  clear gs27 gs27'
  clear hP; have hP := hPn; clear hPn hEn
  refine sN <| hK26 _ _ <| wR <| sM hf rfl rfl fun a hf => sV hf rfl (ex_fa (k := 2) (r := 2) hf rfl (by kernel_rfl) rfl) fun a hf => sV hf rfl (ex_loadB hf rfl (by kernel_rfl) hB4 rfl) fun a hf => sV hf rfl (ex_index (sz := 1) (k := 2) (r := lo + 2) hf Try.underlying23 (by kernel_rfl) rfl rfl rfl (by simp) rfl) fun a hf => sV hf rfl (ex_load hf rfl (by kernel_rfl) (lead_now hL hE (j := 2) rfl)) fun a hf => st_c hf rfl rfl rfl (by kernel_rfl) (putL (lead := l2) (tok := [41]) hP (by (try simp only [putP, List.length_append, List.length_cons, List.length_nil]); omega) (by (try simp only [putP, List.length_append, List.length_cons, List.length_nil]); omega) hE.now) ?_
  rintro _ w32 ⟨rfl, hPn, hEn⟩
  refine ⟨_, rfl, fun a hf => ?_⟩
  have hx31 := hEn.chg
  replace hB4 := hB4.chg hx31 (nm_blk hB4 rfl (Ne.symm ne_b_b3))
  replace hE := hE.trans hx31 (fun _ h => .inl h)
  obtain ⟨s30, es30⟩ : ∃ z, z = putP l2 [41] s27 := ⟨_, rfl⟩
  replace hPn : Pr Bs b (putP l2 [41] s27).1 (putP l2 [41] s27).2 w32 := hPn
  rw [← es30] at hPn
  have gs30 := put_len l2 [41] s27
  rw [← es30] at gs30
  obtain ⟨gs30, gs30'⟩ := gs30
  (try simp only [List.length_cons, List.length_nil, lsum] at gs30 gs30')
  replace hG := nlt gs30 (Nat.add_le_add_right hG _)
  replace hG' := nlt gs30' (Nat.add_le_add_right hG' _)
  clear gs30 gs30'
  clear hP; have hP := hPn; clear hPn hEn
  refine sN ?_
  have eq : treeP (.node 16 x (l0 :: l1 :: l2 :: ms) ks) s = s30 := by subst es30; subst es27; subst es23; subst es19; rw [treeP]; rfl
  rw [eq]
  try simp only [Exit.then, Exit.inBlock]
  exact end_of (rs := []) hf rfl rfl ⟨rfl, hP, hE⟩
theorem t18 {N : Nat} (ih : TreeOk N) {w : World} {Bs b : Nat} {s : WS} {x : List UInt8} {l0 l1 : List UInt8} {ms : List (List UInt8)} {ks : List Tree} {cs : List Value} {A B : Option Addr} {m n : Nat} (hcl : 2 + ks.length ≤ (l0 :: l1 :: ms).length + 1) (hks : ∀ t, t ∈ ks → tsize t ≤ N ∧ shapedT t = true ∧ leadedT t = true)
    (hl1 : s.2.length + 100 * (x.length + lsum (l0 :: l1 :: ms) + kbulk ks + 1) ≤ 1000000000000) (hl2 : s.1.length + 100 * (x.length + lsum (l0 :: l1 :: ms) + kbulk ks + 1) ≤ 1000000000000) (hP : Pr Bs b s.1 s.2 w) (hL : RowIn (fun b => b < Bs) w 1 A (l0 :: l1 :: ms).length ((l0 :: l1 :: ms).map strV)) (hn : ks.length ≤ n) (hn2 : n ≤ maxLen) (hK : KidsAre (fun b => b < Bs) w ks cs) (hR : RowIn (fun b => b < Bs) w 4 B ks.length cs) (hBw : Bs ≤ w.heap.size) :
    Calls Try.prog 61 [.pointer (some ⟨b, 0, none⟩), .agg #[.int .i64 18, strV x, .slice A (l0 :: l1 :: ms).length m, .slice B ks.length n]].toArray w fun e w' => e = .returned (.tuple #[]) ∧ Pr Bs b (treeP (.node 18 x (l0 :: l1 :: ms) ks) s).1 (treeP (.node 18 x (l0 :: l1 :: ms) ks) s).2 w' ∧ Prn Bs b w w' := by
  simp only [lsum, kbulk] at hl1 hl2
  have hgk : ∀ t, t ∈ ks → ∀ s, Gw (100 * tbulk t) s (treeP t s) := fun t ht s => Gw.tree _ t (Nat.le_refl _) (hks t ht).2.2 s
  have hKL := kbulk_len ks
  have hll := lsum_len ms
  have hcl' := hcl
  simp only [List.length_cons] at hcl'
  have hE := Prn.refl (b := b) hBw
  have hG : s.2.length ≤ s.2.length := Nat.le_refl _
  have hG' : s.1.length ≤ s.1.length := Nat.le_refl _
  obtain ⟨lb, lo, rfl, _, hlb, _⟩ := hL.2 (by simp)
  refine enter_fr 216 Try.func61 rfl rfl rfl ?_
  intro a hf
  refine wS fun K1 hK1 => wR ?_
  obtain ⟨w2, b3, he, hB4, hx5, eb6, lb7⟩ := ef_box (P := Try.prog) (t := 26) (x := (.tmp 1)) hf rfl rfl w 0
  refine sV hf rfl he fun a hf => ?_
  have ge_b3 := Prn.ge_new hE eb6
  have ne_b_b3 : b ≠ b3 := ne_new hP.lt eb6
  replace hP := hP.chg0 hx5
  replace hE := hE.t0 hx5
  clear eb6 lb7
  refine sN <| hK1 _ _ <| wS fun K8 hK8 => wR <| sV hf rfl (ex_fa (k := 0) (r := 0) hf rfl (by kernel_rfl) rfl) fun a hf => sV hf rfl (ex_loadB hf rfl (by kernel_rfl) hB4 rfl) fun a hf => sN <| hK8 _ _ <| wp_block <| wS fun K9 hK9 => wS fun K10 hK10 => wR <| sV hf rfl (ex_eqI (c := false) hf rfl rfl (by decide)) fun a hf => sA hf rfl rfl fun a hf => sN <| hK10 _ _ <| cF hf rfl <| wS fun K11 hK11 => wR <| sV hf rfl (ex_eqI (c := false) hf rfl rfl (by decide)) fun a hf => sA hf rfl rfl fun a hf => sN <| hK11 _ _ <| cF hf rfl <| wS fun K12 hK12 => wR <| sV hf rfl (ex_eqI (c := false) hf rfl rfl (by decide)) fun a hf => sA hf rfl rfl fun a hf => sN <| hK12 _ _ <| cF hf rfl <| wR <| sV hf rfl (ex_eqI (c := false) hf rfl rfl (by decide)) fun a hf => sA hf rfl rfl fun a hf => sN <| hK9 _ _ <| cF hf rfl <| wS fun K13 hK13 => wR <| sV hf rfl (ex_eqI (c := false) hf rfl rfl (by decide)) fun a hf => sA hf rfl rfl fun a hf => sN <| hK13 _ _ <| cF hf rfl <| wS fun K14 hK14 => wR <| sV hf rfl (ex_eqI (c := false) hf rfl rfl (by decide)) fun a hf => sA hf rfl rfl fun a hf => sN <| hK14 _ _ <| cF hf rfl <| wS fun K15 hK15 => wR <| sV hf rfl (ex_eqI (c := false) hf rfl rfl (by decide)) fun a hf => sA hf rfl rfl fun a hf => sN <| hK15 _ _ <| cF hf rfl <| wS fun K16 hK16 => wR <| sV hf rfl (ex_eqI (c := true) hf rfl rfl (by decide)) fun a hf => sA hf rfl rfl fun a hf => sN <| hK16 _ _ <| cT hf rfl <| wS fun K17 hK17 => wR <| sM hf rfl rfl fun a hf => sV hf rfl (ex_fa (k := 2) (r := 2) hf rfl (by kernel_rfl) rfl) fun a hf => sV hf rfl (ex_loadB hf rfl (by kernel_rfl) hB4 rfl) fun a hf => sV hf rfl (ex_index (sz := 1) (k := 0) (r := lo) hf Try.underlying23 (by kernel_rfl) rfl rfl rfl (by simp) rfl) fun a hf => sV hf rfl (ex_load hf rfl (by kernel_rfl) (lead_now hL hE (j := 0) rfl)) fun a hf => st_c hf rfl rfl rfl (by kernel_rfl) (putL (lead := l0) (tok := [91]) hP (by (try simp only [putP, List.length_append, List.length_cons, List.length_nil]); omega) (by (try simp only [putP, List.length_append, List.length_cons, List.length_nil]); omega) hE.now) ?_
  rintro _ w20 ⟨rfl, hPn, hEn⟩
  refine ⟨_, rfl, fun a hf => ?_⟩
  have hx19 := hEn.chg
  replace hB4 := hB4.chg hx19 (nm_blk hB4 rfl (Ne.symm ne_b_b3))
  replace hE := hE.trans hx19 (fun _ h => .inl h)
  obtain ⟨s18, es18⟩ : ∃ z, z = putP l0 [91] s := ⟨_, rfl⟩
  replace hPn : Pr Bs b (putP l0 [91] s).1 (putP l0 [91] s).2 w20 := hPn
  rw [← es18] at hPn
  have gs18 := put_len l0 [91] s
  rw [← es18] at gs18
  obtain ⟨gs18, gs18'⟩ := gs18
  (try simp only [List.length_cons, List.length_nil, lsum] at gs18 gs18')
  replace hG := nlt gs18 (Nat.add_le_add_right hG _)
  replace hG' := nlt gs18' (Nat.add_le_add_right hG' _)
  clear gs18 gs18'
  clear hP; have hP := hPn; clear hPn hEn
  refine sN <| hK17 _ _ <| wS fun K21 hK21 => wR <| sM hf rfl rfl fun a hf => sV hf rfl (ex_loadBN (m := 4) hf rfl (by kernel_rfl) hB4 rfl) fun a hf => sV hf rfl (ex_fa (k := 3) (r := 3) hf rfl (by kernel_rfl) rfl) fun a hf => sV hf rfl (ex_loadB hf rfl (by kernel_rfl) hB4 rfl) fun a hf => ?_
  have hLn := hL.now hE
  have hKn := hK.now hE
  have hRn := hR.now hE
  refine st_c hf rfl rfl rfl (by kernel_rfl) (plistI ih (s := s18) (ls := (l0 :: l1 :: ms)) (ks := ks) (c := 2) (ci := 2) (by decide) (by decide) (by decide) hcl hks (by simp only [lsum]; omega) (by simp only [lsum]; omega) hP hLn hKn hRn hE.now) ?_
  rintro _ w24 ⟨rfl, hPn, hEn⟩
  refine ⟨_, rfl, fun a hf => ?_⟩
  have hx23 := hEn.chg
  replace hB4 := hB4.chg hx23 (nm_blk hB4 rfl (Ne.symm ne_b_b3))
  replace hE := hE.trans hx23 (fun _ h => .inl h)
  obtain ⟨s22, es22⟩ : ∃ z, z = listP (l0 :: l1 :: ms) 2 (treesP ks) 0 s18 := ⟨_, rfl⟩
  replace hPn : Pr Bs b (listP (l0 :: l1 :: ms) 2 (treesP ks) 0 s18).1 (listP (l0 :: l1 :: ms) 2 (treesP ks) 0 s18).2 w24 := hPn
  rw [← es22] at hPn
  have gs22 := list_len (ls := (l0 :: l1 :: ms)) (c := 2) (by decide) hgk s18
  rw [← es22] at gs22
  obtain ⟨gs22, gs22'⟩ := gs22
  (try simp only [List.length_cons, List.length_nil, lsum] at gs22 gs22')
  replace hG := nlt gs22 (Nat.add_le_add_right hG _)
  replace hG' := nlt gs22' (Nat.add_le_add_right hG' _)
  clear gs22 gs22'
  clear hP; have hP := hPn; clear hPn hEn
  refine sN <| hK21 _ _ <| wR <| sM hf rfl rfl fun a hf => sV hf rfl (ex_fa (k := 2) (r := 2) hf rfl (by kernel_rfl) rfl) fun a hf => sV hf rfl (ex_loadB hf rfl (by kernel_rfl) hB4 rfl) fun a hf => sV hf rfl (ex_index (sz := 1) (k := 1) (r := lo + 1) hf Try.underlying23 (by kernel_rfl) rfl rfl rfl (by simp) rfl) fun a hf => sV hf rfl (ex_load hf rfl (by kernel_rfl) (lead_now hL hE (j := 1) rfl)) fun a hf => st_c hf rfl rfl rfl (by kernel_rfl) (putL (lead := l1) (tok := [93]) hP (by (try simp only [putP, List.length_append, List.length_cons, List.length_nil]); omega) (by (try simp only [putP, List.length_append, List.length_cons, List.length_nil]); omega) hE.now) ?_
  rintro _ w27 ⟨rfl, hPn, hEn⟩
  refine ⟨_, rfl, fun a hf => ?_⟩
  have hx26 := hEn.chg
  replace hB4 := hB4.chg hx26 (nm_blk hB4 rfl (Ne.symm ne_b_b3))
  replace hE := hE.trans hx26 (fun _ h => .inl h)
  obtain ⟨s25, es25⟩ : ∃ z, z = putP l1 [93] s22 := ⟨_, rfl⟩
  replace hPn : Pr Bs b (putP l1 [93] s22).1 (putP l1 [93] s22).2 w27 := hPn
  rw [← es25] at hPn
  have gs25 := put_len l1 [93] s22
  rw [← es25] at gs25
  obtain ⟨gs25, gs25'⟩ := gs25
  (try simp only [List.length_cons, List.length_nil, lsum] at gs25 gs25')
  replace hG := nlt gs25 (Nat.add_le_add_right hG _)
  replace hG' := nlt gs25' (Nat.add_le_add_right hG' _)
  clear gs25 gs25'
  clear hP; have hP := hPn; clear hPn hEn
  refine sN ?_
  have eq : treeP (.node 18 x (l0 :: l1 :: ms) ks) s = s25 := by subst es25; subst es22; subst es18; rw [treeP]; rfl
  rw [eq]
  try simp only [Exit.then, Exit.inBlock]
  exact end_of (rs := []) hf rfl rfl ⟨rfl, hP, hE⟩
theorem node2 (x : List UInt8) (ls : List (List UInt8)) (fs : List (WS → WS)) (f g : WS → WS) (s : WS) : nodeP 2 x ls (fs ++ [f, g]) s = g (putP (ls.getD 5 []) [61] (f (putP (ls.getD 4 []) [58] (putP (ls.getD 3 []) [41] (listP ls 6 fs 0 (putP (ls.getD 2 []) [40] (putP (ls.getD 1 []) x (putP (ls.getD 0 []) [100, 101, 102] s)))))))) := by
  unfold nodeP
  rw [if_pos (by decide)]
  unfold defnP
  dsimp only
  rw [if_neg (by decide), if_pos rfl]
  have k1 : (fs ++ [f, g]).length - 2 = fs.length := by simp
  have k2 : (fs ++ [f, g]).length - 1 = fs.length + 1 := by simp
  rw [k1, k2]
  have t1 : (fs ++ [f, g]).take fs.length = fs := by rw [List.take_append_of_le_length (Nat.le_refl _), List.take_length]
  have t2 : (fs ++ [f, g]).getD fs.length id = f := by rw [List.getD_eq_getElem?_getD, List.getElem?_append_right (Nat.le_refl _), Nat.sub_self]; rfl
  have t3 : (fs ++ [f, g]).getD (fs.length + 1) id = g := by rw [List.getD_eq_getElem?_getD, List.getElem?_append_right (by omega), show fs.length + 1 - fs.length = 1 from by omega]; rfl
  rw [t1, t2, t3]
theorem d2 {N : Nat} (ih : TreeOk N) {w : World} {Bs b : Nat} {s : WS} {x : List UInt8} {l0 l1 l2 l3 l4 l5 : List UInt8} {ms : List (List UInt8)} {k0 k1 : Tree} {ps : List Tree} {cs : List Value} {A B : Option Addr} {m n : Nat} (hcl : 6 + ps.length ≤ (l0 :: l1 :: l2 :: l3 :: l4 :: l5 :: ms).length + 1) (hks : ∀ t, t ∈ (ps ++ [k0, k1]) → tsize t ≤ N ∧ shapedT t = true ∧ leadedT t = true)
    (hl1 : s.2.length + 100 * (x.length + lsum (l0 :: l1 :: l2 :: l3 :: l4 :: l5 :: ms) + kbulk (ps ++ [k0, k1]) + 1) ≤ 1000000000000) (hl2 : s.1.length + 100 * (x.length + lsum (l0 :: l1 :: l2 :: l3 :: l4 :: l5 :: ms) + kbulk (ps ++ [k0, k1]) + 1) ≤ 1000000000000) (hP : Pr Bs b s.1 s.2 w) (hL : RowIn (fun b => b < Bs) w 1 A (l0 :: l1 :: l2 :: l3 :: l4 :: l5 :: ms).length ((l0 :: l1 :: l2 :: l3 :: l4 :: l5 :: ms).map strV)) (hn : (ps ++ [k0, k1]).length ≤ n) (hn2 : n ≤ maxLen) (hK : KidsAre (fun b => b < Bs) w (ps ++ [k0, k1]) cs) (hR : RowIn (fun b => b < Bs) w 4 B (ps ++ [k0, k1]).length cs) (hBw : Bs ≤ w.heap.size) :
    Calls Try.prog 91 [.pointer (some ⟨b, 0, none⟩), .agg #[.int .i64 2, strV x, .slice A (l0 :: l1 :: l2 :: l3 :: l4 :: l5 :: ms).length m, .slice B (ps ++ [k0, k1]).length n]].toArray w fun e w' => e = .returned (.tuple #[]) ∧ Pr Bs b (treeP (.node 2 x (l0 :: l1 :: l2 :: l3 :: l4 :: l5 :: ms) (ps ++ [k0, k1])) s).1 (treeP (.node 2 x (l0 :: l1 :: l2 :: l3 :: l4 :: l5 :: ms) (ps ++ [k0, k1])) s).2 w' ∧ Prn Bs b w w' := by
  simp only [lsum, kbulk] at hl1 hl2
  have hgk : ∀ t, t ∈ ps → ∀ s, Gw (100 * tbulk t) s (treeP t s) := fun t ht s => Gw.tree _ t (Nat.le_refl _) (hks t (by simp [ht])).2.2 s
  have hKL := kbulk_len ps
  simp only [kbulk_app, kbulk] at hl1 hl2
  have hll := lsum_len ms
  have hcl' := hcl
  simp only [List.length_cons] at hcl'
  obtain ⟨cs1, cs2, rfl, hKp, hKq⟩ := hK.part
  have hRp := hR.part hKp.length (by simp)
  have hE := Prn.refl (b := b) hBw
  have hG : s.2.length ≤ s.2.length := Nat.le_refl _
  have hG' : s.1.length ≤ s.1.length := Nat.le_refl _
  obtain ⟨lb, lo, rfl, _, hlb, _⟩ := hL.2 (by simp)
  obtain ⟨kb, ko, rfl, _, hkb, _⟩ := hR.2 (by simp)
  refine enter_fr 161 Try.func91 rfl rfl rfl ?_
  intro a hf
  refine wS fun K1 hK1 => wR ?_
  obtain ⟨w2, b3, he, hB4, hx5, eb6, lb7⟩ := ef_box (P := Try.prog) (t := 26) (x := (.tmp 1)) hf rfl rfl w 0
  refine sV hf rfl he fun a hf => ?_
  have ge_b3 := Prn.ge_new hE eb6
  have ne_b_b3 : b ≠ b3 := ne_new hP.lt eb6
  replace hP := hP.chg0 hx5
  replace hE := hE.t0 hx5
  clear eb6 lb7
  refine sN <| hK1 _ _ <| wS fun K8 hK8 => wR <| sV hf rfl (ex_fa (k := 0) (r := 0) hf rfl (by kernel_rfl) rfl) fun a hf => sV hf rfl (ex_loadB hf rfl (by kernel_rfl) hB4 rfl) fun a hf => sN <| hK8 _ _ <| wp_block <| wS fun K9 hK9 => wR <| sV hf rfl (ex_eqI (c := false) hf rfl rfl (by decide)) fun a hf => sA hf rfl rfl fun a hf => sN <| hK9 _ _ <| cF hf rfl <| wS fun K10 hK10 => wR <| sV hf rfl (ex_eqI (c := true) hf rfl rfl (by decide)) fun a hf => sA hf rfl rfl fun a hf => sN <| hK10 _ _ <| cT hf rfl <| wS fun K11 hK11 => wR <| sV hf rfl (ex_fa (k := 3) (r := 3) hf rfl (by kernel_rfl) rfl) fun a hf => sV hf rfl (ex_loadB hf rfl (by kernel_rfl) hB4 rfl) fun a hf => sV hf rfl (ex_len hf Try.underlying24 rfl) fun a hf => sA hf rfl rfl fun a hf => sN <| hK11 _ _ <| wS fun K12 hK12 => wR <| sM hf rfl rfl fun a hf => sV hf rfl (ex_fa (k := 2) (r := 2) hf rfl (by kernel_rfl) rfl) fun a hf => sV hf rfl (ex_loadB hf rfl (by kernel_rfl) hB4 rfl) fun a hf => sV hf rfl (ex_index (sz := 1) (k := 0) (r := lo) hf Try.underlying23 (by kernel_rfl) rfl rfl rfl (by simp) rfl) fun a hf => sV hf rfl (ex_load hf rfl (by kernel_rfl) (lead_now hL hE (j := 0) rfl)) fun a hf => st_c hf rfl rfl rfl (by kernel_rfl) (putL (lead := l0) (tok := [100, 101, 102]) hP (by (try simp only [putP, List.length_append, List.length_cons, List.length_nil]); omega) (by (try simp only [putP, List.length_append, List.length_cons, List.length_nil]); omega) hE.now) ?_
  rintro _ w15 ⟨rfl, hPn, hEn⟩
  refine ⟨_, rfl, fun a hf => ?_⟩
  have hx14 := hEn.chg
  replace hB4 := hB4.chg hx14 (nm_blk hB4 rfl (Ne.symm ne_b_b3))
  replace hE := hE.trans hx14 (fun _ h => .inl h)
  obtain ⟨s13, es13⟩ : ∃ z, z = putP l0 [100, 101, 102] s := ⟨_, rfl⟩
  replace hPn : Pr Bs b (putP l0 [100, 101, 102] s).1 (putP l0 [100, 101, 102] s).2 w15 := hPn
  rw [← es13] at hPn
  have gs13 := put_len l0 [100, 101, 102] s
  rw [← es13] at gs13
  obtain ⟨gs13, gs13'⟩ := gs13
  (try simp only [List.length_cons, List.length_nil, lsum] at gs13 gs13')
  replace hG := nlt gs13 (Nat.add_le_add_right hG _)
  replace hG' := nlt gs13' (Nat.add_le_add_right hG' _)
  clear gs13 gs13'
  clear hP; have hP := hPn; clear hPn hEn
  refine sN <| hK12 _ _ <| wS fun K16 hK16 => ?_
  have s_lb := lead_now hL hE (j := 1) rfl
  have s_hB4 := hB4
  refine dl_start (fun x => x.cell? ⟨b3, 2, none⟩ = w15.cell? ⟨b3, 2, none⟩ ∧ x.cell? ⟨lb, lo + 1, none⟩ = w15.cell? ⟨lb, lo + 1, none⟩ ∧ x.cell? ⟨b3, 1, none⟩ = w15.cell? ⟨b3, 1, none⟩) 8 8 rfl (by kernel_rfl) (by kernel_rfl) ?_
  intro w17 hx18 hsel
  replace hB4 := hB4.c0 hx18
  replace hP := hP.chg0 hx18
  replace hE := hE.t0 hx18
  have hS0 : w17.cell? ⟨b3, 2, none⟩ = w15.cell? ⟨b3, 2, none⟩ ∧ w17.cell? ⟨lb, lo + 1, none⟩ = w15.cell? ⟨lb, lo + 1, none⟩ ∧ w17.cell? ⟨b3, 1, none⟩ = w15.cell? ⟨b3, 1, none⟩ := ⟨(hB4.cell 2).trans (s_hB4.cell 2).symm, ((lead_now hL hE (j := 1) rfl).trans s_lb.symm), (hB4.cell 1).trans (s_hB4.cell 1).symm⟩
  refine dM 0 rfl rfl hsel (by kernel_rfl) hf rfl hS0 rfl fun a hf => dV 1 rfl rfl hsel (by kernel_rfl) hf rfl (.inl hS0) (fun x => ex_fa (k := 2) (r := 2) hf rfl (by kernel_rfl) rfl) fun a hf => dL 2 rfl rfl hsel (by kernel_rfl) hf rfl hS0 (fun x hS => ex_load hf rfl (by kernel_rfl) (hS.1.trans ((s_hB4.cell 2).trans rfl))) fun a hf => dV 3 rfl rfl hsel (by kernel_rfl) hf rfl (.inl hS0) (fun x => ex_index (sz := 1) (k := 1) (r := lo + 1) hf Try.underlying23 (by kernel_rfl) rfl rfl rfl (by simp) rfl) fun a hf => dL 4 rfl rfl hsel (by kernel_rfl) hf rfl hS0 (fun x hS => ex_load hf rfl (by kernel_rfl) (hS.2.1.trans s_lb)) fun a hf => dV 5 rfl rfl hsel (by kernel_rfl) hf rfl (.inl hS0) (fun x => ex_fa (k := 1) (r := 1) hf rfl (by kernel_rfl) rfl) fun a hf => dL 6 rfl rfl hsel (by kernel_rfl) hf rfl hS0 (fun x hS => ex_load hf rfl (by kernel_rfl) (hS.2.2.trans ((s_hB4.cell 1).trans rfl))) fun a hf => dl_c 7 (by kernel_rfl) rfl hf rfl rfl rfl (by kernel_rfl) (putL (lead := l1) (tok := x) hP (by (try simp only [putP, List.length_append, List.length_cons, List.length_nil]); omega) (by (try simp only [putP, List.length_append, List.length_cons, List.length_nil]); omega) hE.now) ?_
  rintro _ w21 ⟨rfl, hPn, hEn⟩
  refine ⟨_, rfl, fun a hf => ?_⟩
  have hx20 := hEn.chg
  replace hB4 := hB4.chg hx20 (nm_blk hB4 rfl (Ne.symm ne_b_b3))
  replace hE := hE.trans hx20 (fun _ h => .inl h)
  obtain ⟨s19, es19⟩ : ∃ z, z = putP l1 x s13 := ⟨_, rfl⟩
  replace hPn : Pr Bs b (putP l1 x s13).1 (putP l1 x s13).2 w21 := hPn
  rw [← es19] at hPn
  have gs19 := put_len l1 x s13
  rw [← es19] at gs19
  obtain ⟨gs19, gs19'⟩ := gs19
  (try simp only [List.length_cons, List.length_nil, lsum] at gs19 gs19')
  replace hG := nlt gs19 (Nat.add_le_add_right hG _)
  replace hG' := nlt gs19' (Nat.add_le_add_right hG' _)
  clear gs19 gs19'
  clear hP; have hP := hPn; clear hPn hEn
  clear hS0
  have hS0 : w21.cell? ⟨b3, 2, none⟩ = w15.cell? ⟨b3, 2, none⟩ ∧ w21.cell? ⟨lb, lo + 1, none⟩ = w15.cell? ⟨lb, lo + 1, none⟩ ∧ w21.cell? ⟨b3, 1, none⟩ = w15.cell? ⟨b3, 1, none⟩ := ⟨(hB4.cell 2).trans (s_hB4.cell 2).symm, ((lead_now hL hE (j := 1) rfl).trans s_lb.symm), (hB4.cell 1).trans (s_hB4.cell 1).symm⟩
  refine ⟨.inl hS0, ?_⟩
  refine dl_done (by kernel_rfl) ?_
  clear hS0 hsel
  refine hK16 _ _ <| wS fun K22 hK22 => wR <| sM hf rfl rfl fun a hf => sV hf rfl (ex_fa (k := 2) (r := 2) hf rfl (by kernel_rfl) rfl) fun a hf => sV hf rfl (ex_loadB hf rfl (by kernel_rfl) hB4 rfl) fun a hf => sV hf rfl (ex_index (sz := 1) (k := 2) (r := lo + 2) hf Try.underlying23 (by kernel_rfl) rfl rfl rfl (by simp) rfl) fun a hf => sV hf rfl (ex_load hf rfl (by kernel_rfl) (lead_now hL hE (j := 2) rfl)) fun a hf => st_c hf rfl rfl rfl (by kernel_rfl) (putL (lead := l2) (tok := [40]) hP (by (try simp only [putP, List.length_append, List.length_cons, List.length_nil]); omega) (by (try simp only [putP, List.length_append, List.length_cons, List.length_nil]); omega) hE.now) ?_
  rintro _ w25 ⟨rfl, hPn, hEn⟩
  refine ⟨_, rfl, fun a hf => ?_⟩
  have hx24 := hEn.chg
  replace hB4 := hB4.chg hx24 (nm_blk hB4 rfl (Ne.symm ne_b_b3))
  replace hE := hE.trans hx24 (fun _ h => .inl h)
  obtain ⟨s23, es23⟩ : ∃ z, z = putP l2 [40] s19 := ⟨_, rfl⟩
  replace hPn : Pr Bs b (putP l2 [40] s19).1 (putP l2 [40] s19).2 w25 := hPn
  rw [← es23] at hPn
  have gs23 := put_len l2 [40] s19
  rw [← es23] at gs23
  obtain ⟨gs23, gs23'⟩ := gs23
  (try simp only [List.length_cons, List.length_nil, lsum] at gs23 gs23')
  replace hG := nlt gs23 (Nat.add_le_add_right hG _)
  replace hG' := nlt gs23' (Nat.add_le_add_right hG' _)
  clear gs23 gs23'
  clear hP; have hP := hPn; clear hPn hEn
  refine sN <| hK22 _ _ <| wS fun K26 hK26 => ?_
  have s_hB4 := hB4
  refine dl_start (fun x => x.cell? ⟨b3, 0, none⟩ = w25.cell? ⟨b3, 0, none⟩ ∧ x.cell? ⟨b3, 1, none⟩ = w25.cell? ⟨b3, 1, none⟩ ∧ x.cell? ⟨b3, 2, none⟩ = w25.cell? ⟨b3, 2, none⟩ ∧ x.cell? ⟨b3, 3, none⟩ = w25.cell? ⟨b3, 3, none⟩) 8 8 rfl (by kernel_rfl) (by kernel_rfl) ?_
  intro w27 hx28 hsel
  replace hB4 := hB4.c0 hx28
  replace hP := hP.chg0 hx28
  replace hE := hE.t0 hx28
  have hS0 : w27.cell? ⟨b3, 0, none⟩ = w25.cell? ⟨b3, 0, none⟩ ∧ w27.cell? ⟨b3, 1, none⟩ = w25.cell? ⟨b3, 1, none⟩ ∧ w27.cell? ⟨b3, 2, none⟩ = w25.cell? ⟨b3, 2, none⟩ ∧ w27.cell? ⟨b3, 3, none⟩ = w25.cell? ⟨b3, 3, none⟩ := ⟨(hB4.cell 0).trans (s_hB4.cell 0).symm, (hB4.cell 1).trans (s_hB4.cell 1).symm, (hB4.cell 2).trans (s_hB4.cell 2).symm, (hB4.cell 3).trans (s_hB4.cell 3).symm⟩
  refine dM 0 rfl rfl hsel (by kernel_rfl) hf rfl hS0 rfl fun a hf => dL 1 rfl rfl hsel (by kernel_rfl) hf rfl hS0 (fun x hS => ex_loadX4 hf rfl (by kernel_rfl) s_hB4 rfl hS.1 hS.2.1 hS.2.2.1 hS.2.2.2) fun a hf => dV 2 rfl rfl hsel (by kernel_rfl) hf rfl (.inl hS0) (fun x => ex_fa (k := 3) (r := 3) hf rfl (by kernel_rfl) rfl) fun a hf => dL 3 rfl rfl hsel (by kernel_rfl) hf rfl hS0 (fun x hS => ex_load hf rfl (by kernel_rfl) (hS.2.2.2.trans ((s_hB4.cell 3).trans rfl))) fun a hf => dM 4 rfl rfl hsel (by kernel_rfl) hf rfl hS0 rfl fun a hf => dV 5 rfl rfl hsel (by kernel_rfl) hf rfl (.inl hS0) (fun x => ex_subI hf rfl rfl rfl (by simp only [List.length_append, List.length_cons, List.length_nil]; omega)) fun a hf => dV 6 rfl rfl hsel (by kernel_rfl) hf rfl (.inl hS0) (fun x => ex_slH (sz := 4) (k := ps.length) hf Try.underlying24 (by kernel_rfl) rfl rfl (by simp only [List.length_append, List.length_cons, List.length_nil]; omega) (by simp only [List.length_append, List.length_cons, List.length_nil] at hn; omega)) fun a hf => ?_
  have hLn := hL.now hE
  have hKn := hKp.now hE
  have hRn := hRp.now hE
  refine dl_c 7 (by kernel_rfl) rfl hf rfl rfl rfl (by kernel_rfl) (plistI ih (s := s23) (ls := (l0 :: l1 :: l2 :: l3 :: l4 :: l5 :: ms)) (ks := ps) (c := 6) (ci := 6) (by decide) (by decide) (by decide) hcl (fun t ht => hks t (by simp [ht])) (by simp only [lsum]; omega) (by simp only [lsum]; omega) hP hLn hKn hRn hE.now) ?_
  rintro _ w31 ⟨rfl, hPn, hEn⟩
  refine ⟨_, rfl, fun a hf => ?_⟩
  have hx30 := hEn.chg
  replace hB4 := hB4.chg hx30 (nm_blk hB4 rfl (Ne.symm ne_b_b3))
  replace hE := hE.trans hx30 (fun _ h => .inl h)
  obtain ⟨s29, es29⟩ : ∃ z, z = listP (l0 :: l1 :: l2 :: l3 :: l4 :: l5 :: ms) 6 (treesP ps) 0 s23 := ⟨_, rfl⟩
  replace hPn : Pr Bs b (listP (l0 :: l1 :: l2 :: l3 :: l4 :: l5 :: ms) 6 (treesP ps) 0 s23).1 (listP (l0 :: l1 :: l2 :: l3 :: l4 :: l5 :: ms) 6 (treesP ps) 0 s23).2 w31 := hPn
  rw [← es29] at hPn
  have gs29 := list_len (ls := (l0 :: l1 :: l2 :: l3 :: l4 :: l5 :: ms)) (c := 6) (by decide) hgk s23
  rw [← es29] at gs29
  obtain ⟨gs29, gs29'⟩ := gs29
  (try simp only [List.length_cons, List.length_nil, lsum] at gs29 gs29')
  replace hG := nlt gs29 (Nat.add_le_add_right hG _)
  replace hG' := nlt gs29' (Nat.add_le_add_right hG' _)
  clear gs29 gs29'
  clear hP; have hP := hPn; clear hPn hEn
  clear hS0
  have hS0 : w31.cell? ⟨b3, 0, none⟩ = w25.cell? ⟨b3, 0, none⟩ ∧ w31.cell? ⟨b3, 1, none⟩ = w25.cell? ⟨b3, 1, none⟩ ∧ w31.cell? ⟨b3, 2, none⟩ = w25.cell? ⟨b3, 2, none⟩ ∧ w31.cell? ⟨b3, 3, none⟩ = w25.cell? ⟨b3, 3, none⟩ := ⟨(hB4.cell 0).trans (s_hB4.cell 0).symm, (hB4.cell 1).trans (s_hB4.cell 1).symm, (hB4.cell 2).trans (s_hB4.cell 2).symm, (hB4.cell 3).trans (s_hB4.cell 3).symm⟩
  refine ⟨.inl hS0, ?_⟩
  refine dl_done (by kernel_rfl) ?_
  clear hS0 hsel
  refine hK26 _ _ <| wS fun K32 hK32 => wR <| sM hf rfl rfl fun a hf => sV hf rfl (ex_fa (k := 2) (r := 2) hf rfl (by kernel_rfl) rfl) fun a hf => sV hf rfl (ex_loadB hf rfl (by kernel_rfl) hB4 rfl) fun a hf => sV hf rfl (ex_index (sz := 1) (k := 3) (r := lo + 3) hf Try.underlying23 (by kernel_rfl) rfl rfl rfl (by simp) rfl) fun a hf => sV hf rfl (ex_load hf rfl (by kernel_rfl) (lead_now hL hE (j := 3) rfl)) fun a hf => st_c hf rfl rfl rfl (by kernel_rfl) (putL (lead := l3) (tok := [41]) hP (by (try simp only [putP, List.length_append, List.length_cons, List.length_nil]); omega) (by (try simp only [putP, List.length_append, List.length_cons, List.length_nil]); omega) hE.now) ?_
  rintro _ w35 ⟨rfl, hPn, hEn⟩
  refine ⟨_, rfl, fun a hf => ?_⟩
  have hx34 := hEn.chg
  replace hB4 := hB4.chg hx34 (nm_blk hB4 rfl (Ne.symm ne_b_b3))
  replace hE := hE.trans hx34 (fun _ h => .inl h)
  obtain ⟨s33, es33⟩ : ∃ z, z = putP l3 [41] s29 := ⟨_, rfl⟩
  replace hPn : Pr Bs b (putP l3 [41] s29).1 (putP l3 [41] s29).2 w35 := hPn
  rw [← es33] at hPn
  have gs33 := put_len l3 [41] s29
  rw [← es33] at gs33
  obtain ⟨gs33, gs33'⟩ := gs33
  (try simp only [List.length_cons, List.length_nil, lsum] at gs33 gs33')
  replace hG := nlt gs33 (Nat.add_le_add_right hG _)
  replace hG' := nlt gs33' (Nat.add_le_add_right hG' _)
  clear gs33 gs33'
  clear hP; have hP := hPn; clear hPn hEn
  refine sN <| hK32 _ _ <| wS fun K36 hK36 => wR <| sM hf rfl rfl fun a hf => sV hf rfl (ex_fa (k := 2) (r := 2) hf rfl (by kernel_rfl) rfl) fun a hf => sV hf rfl (ex_loadB hf rfl (by kernel_rfl) hB4 rfl) fun a hf => sV hf rfl (ex_index (sz := 1) (k := 4) (r := lo + 4) hf Try.underlying23 (by kernel_rfl) rfl rfl rfl (by simp) rfl) fun a hf => sV hf rfl (ex_load hf rfl (by kernel_rfl) (lead_now hL hE (j := 4) rfl)) fun a hf => st_c hf rfl rfl rfl (by kernel_rfl) (putL (lead := l4) (tok := [58]) hP (by (try simp only [putP, List.length_append, List.length_cons, List.length_nil]); omega) (by (try simp only [putP, List.length_append, List.length_cons, List.length_nil]); omega) hE.now) ?_
  rintro _ w39 ⟨rfl, hPn, hEn⟩
  refine ⟨_, rfl, fun a hf => ?_⟩
  have hx38 := hEn.chg
  replace hB4 := hB4.chg hx38 (nm_blk hB4 rfl (Ne.symm ne_b_b3))
  replace hE := hE.trans hx38 (fun _ h => .inl h)
  obtain ⟨s37, es37⟩ : ∃ z, z = putP l4 [58] s33 := ⟨_, rfl⟩
  replace hPn : Pr Bs b (putP l4 [58] s33).1 (putP l4 [58] s33).2 w39 := hPn
  rw [← es37] at hPn
  have gs37 := put_len l4 [58] s33
  rw [← es37] at gs37
  obtain ⟨gs37, gs37'⟩ := gs37
  (try simp only [List.length_cons, List.length_nil, lsum] at gs37 gs37')
  replace hG := nlt gs37 (Nat.add_le_add_right hG _)
  replace hG' := nlt gs37' (Nat.add_le_add_right hG' _)
  clear gs37 gs37'
  clear hP; have hP := hPn; clear hPn hEn
  refine sN <| hK36 _ _ <| wS fun K40 hK40 => wR <| sM hf rfl rfl fun a hf => sV hf rfl (ex_fa (k := 3) (r := 3) hf rfl (by kernel_rfl) rfl) fun a hf => sV hf rfl (ex_loadB hf rfl (by kernel_rfl) hB4 rfl) fun a hf => sM hf rfl rfl fun a hf => sV hf rfl (ex_subI hf rfl rfl rfl (by simp only [List.length_append, List.length_cons, List.length_nil]; omega)) fun a hf => sV hf rfl (ex_index (sz := 4) (k := ps.length) (r := ko + ps.length * 4) hf Try.underlying24 (by kernel_rfl) rfl rfl (by simp only [List.length_append, List.length_cons, List.length_nil]; omega) (by simp only [List.length_append, List.length_cons, List.length_nil]; omega) rfl) fun a hf => ?_
  obtain ⟨d0, d1, d2, d3, hT, hK4⟩ := kid_now hK hR hE (i := ps.length) (t := k0) (by simp)
  have on_T := hT.one
  refine sV hf rfl (ex_loadN (cs := [d0, d1, d2, d3]) (m := 4) hf rfl (by kernel_rfl) rfl hK4) fun a hf => st_c hf rfl rfl rfl (by kernel_rfl) (ih k0 _ Bs b s37 d0 d1 d2 d3 (hks _ (by simp)).1 (hks _ (by simp)).2.1 (hks _ (by simp)).2.2 (by (try simp only [putP, List.length_append, List.length_cons, List.length_nil]); omega) (by (try simp only [putP, List.length_append, List.length_cons, List.length_nil]); omega) hP hT hE.now) ?_
  rintro _ w43 ⟨rfl, hPn, hEn⟩
  refine ⟨_, rfl, fun a hf => ?_⟩
  have hx42 := hEn.chg
  replace hB4 := hB4.chg hx42 (nm_blk hB4 rfl (Ne.symm ne_b_b3))
  replace hE := hE.trans hx42 (fun _ h => .inl h)
  obtain ⟨s41, es41⟩ : ∃ z, z = treeP k0 s37 := ⟨_, rfl⟩
  replace hPn : Pr Bs b (treeP k0 s37).1 (treeP k0 s37).2 w43 := hPn
  rw [← es41] at hPn
  have gs41 := tree_len (t := k0) (hks _ (by simp)).2.2 s37
  rw [← es41] at gs41
  obtain ⟨gs41, gs41'⟩ := gs41
  (try simp only [List.length_cons, List.length_nil, lsum] at gs41 gs41')
  replace hG := nlt gs41 (Nat.add_le_add_right hG _)
  replace hG' := nlt gs41' (Nat.add_le_add_right hG' _)
  clear gs41 gs41'
  clear hP; have hP := hPn; clear hPn hEn
  refine sN <| hK40 _ _ <| wS fun K44 hK44 => wR <| sM hf rfl rfl fun a hf => sV hf rfl (ex_fa (k := 2) (r := 2) hf rfl (by kernel_rfl) rfl) fun a hf => sV hf rfl (ex_loadB hf rfl (by kernel_rfl) hB4 rfl) fun a hf => sV hf rfl (ex_index (sz := 1) (k := 5) (r := lo + 5) hf Try.underlying23 (by kernel_rfl) rfl rfl rfl (by simp) rfl) fun a hf => sV hf rfl (ex_load hf rfl (by kernel_rfl) (lead_now hL hE (j := 5) rfl)) fun a hf => st_c hf rfl rfl rfl (by kernel_rfl) (putL (lead := l5) (tok := [61]) hP (by (try simp only [putP, List.length_append, List.length_cons, List.length_nil]); omega) (by (try simp only [putP, List.length_append, List.length_cons, List.length_nil]); omega) hE.now) ?_
  rintro _ w47 ⟨rfl, hPn, hEn⟩
  refine ⟨_, rfl, fun a hf => ?_⟩
  have hx46 := hEn.chg
  replace hB4 := hB4.chg hx46 (nm_blk hB4 rfl (Ne.symm ne_b_b3))
  replace hE := hE.trans hx46 (fun _ h => .inl h)
  obtain ⟨s45, es45⟩ : ∃ z, z = putP l5 [61] s41 := ⟨_, rfl⟩
  replace hPn : Pr Bs b (putP l5 [61] s41).1 (putP l5 [61] s41).2 w47 := hPn
  rw [← es45] at hPn
  have gs45 := put_len l5 [61] s41
  rw [← es45] at gs45
  obtain ⟨gs45, gs45'⟩ := gs45
  (try simp only [List.length_cons, List.length_nil, lsum] at gs45 gs45')
  replace hG := nlt gs45 (Nat.add_le_add_right hG _)
  replace hG' := nlt gs45' (Nat.add_le_add_right hG' _)
  clear gs45 gs45'
  clear hP; have hP := hPn; clear hPn hEn
  refine sN <| hK44 _ _ <| wR <| sM hf rfl rfl fun a hf => sV hf rfl (ex_fa (k := 3) (r := 3) hf rfl (by kernel_rfl) rfl) fun a hf => sV hf rfl (ex_loadB hf rfl (by kernel_rfl) hB4 rfl) fun a hf => sM hf rfl rfl fun a hf => sV hf rfl (ex_subI hf rfl rfl rfl (by simp only [List.length_append, List.length_cons, List.length_nil]; omega)) fun a hf => sV hf rfl (ex_index (sz := 4) (k := (ps.length + 1)) (r := ko + (ps.length + 1) * 4) hf Try.underlying24 (by kernel_rfl) rfl rfl (by simp only [List.length_append, List.length_cons, List.length_nil]; omega) (by simp only [List.length_append, List.length_cons, List.length_nil]; omega) rfl) fun a hf => ?_
  obtain ⟨d0, d1, d2, d3, hT, hK4⟩ := kid_now hK hR hE (i := (ps.length + 1)) (t := k1) (by simp)
  have on_T := hT.one
  refine sV hf rfl (ex_loadN (cs := [d0, d1, d2, d3]) (m := 4) hf rfl (by kernel_rfl) rfl hK4) fun a hf => st_c hf rfl rfl rfl (by kernel_rfl) (ih k1 _ Bs b s45 d0 d1 d2 d3 (hks _ (by simp)).1 (hks _ (by simp)).2.1 (hks _ (by simp)).2.2 (by (try simp only [putP, List.length_append, List.length_cons, List.length_nil]); omega) (by (try simp only [putP, List.length_append, List.length_cons, List.length_nil]); omega) hP hT hE.now) ?_
  rintro _ w50 ⟨rfl, hPn, hEn⟩
  refine ⟨_, rfl, fun a hf => ?_⟩
  have hx49 := hEn.chg
  replace hB4 := hB4.chg hx49 (nm_blk hB4 rfl (Ne.symm ne_b_b3))
  replace hE := hE.trans hx49 (fun _ h => .inl h)
  obtain ⟨s48, es48⟩ : ∃ z, z = treeP k1 s45 := ⟨_, rfl⟩
  replace hPn : Pr Bs b (treeP k1 s45).1 (treeP k1 s45).2 w50 := hPn
  rw [← es48] at hPn
  have gs48 := tree_len (t := k1) (hks _ (by simp)).2.2 s45
  rw [← es48] at gs48
  obtain ⟨gs48, gs48'⟩ := gs48
  (try simp only [List.length_cons, List.length_nil, lsum] at gs48 gs48')
  replace hG := nlt gs48 (Nat.add_le_add_right hG _)
  replace hG' := nlt gs48' (Nat.add_le_add_right hG' _)
  clear gs48 gs48'
  clear hP; have hP := hPn; clear hPn hEn
  refine sN ?_
  have eq : treeP (.node 2 x (l0 :: l1 :: l2 :: l3 :: l4 :: l5 :: ms) (ps ++ [k0, k1])) s = s48 := by subst es48; subst es45; subst es41; subst es37; subst es33; subst es29; subst es23; subst es19; subst es13; rw [treeP, treesP_app, treesP, treesP, treesP, node2]; rfl
  rw [eq]
  try simp only [Exit.then, Exit.inBlock]
  exact end_of (rs := []) hf rfl rfl ⟨rfl, hP, hE⟩
end Go.Proofs.Ythpjpngfghcmcaa
namespace Go.Proofs.Ythpjpngfghcmcaa
open Go.RowKit Lx Sx
set_option maxRecDepth 100000
set_option maxHeartbeats 4000000
def foldP (ks : List Tree) (s : WS) : WS := (treesP ks).foldl (fun s f => f s) s
theorem fold_step {ks : List Tree} {i : Nat} (s : WS) (h : i < ks.length) : foldP (ks.take (i + 1)) s = treeP ks[i] (foldP (ks.take i) s) := by
  unfold foldP
  rw [List.take_succ_eq_append_getElem h, treesP_app, treesP, treesP, List.foldl_append]; rfl
theorem d1 {N : Nat} (ih : TreeOk N) {w : World} {Bs b : Nat} {s : WS} {x : List UInt8} {l0 l1 l2 : List UInt8} {ks : List Tree} {cs : List Value} {A B : Option Addr} {m n : Nat} (hks : ∀ t, t ∈ ks → tsize t ≤ N ∧ shapedT t = true ∧ leadedT t = true)
    (hl1 : s.2.length + 100 * (x.length + lsum [l0, l1, l2] + kbulk ks + 1) ≤ 1000000000000) (hl2 : s.1.length + 100 * (x.length + lsum [l0, l1, l2] + kbulk ks + 1) ≤ 1000000000000) (hP : Pr Bs b s.1 s.2 w) (hL : RowIn (fun b => b < Bs) w 1 A [l0, l1, l2].length ([l0, l1, l2].map strV)) (hn : ks.length ≤ n) (hn2 : n ≤ maxLen) (hK : KidsAre (fun b => b < Bs) w ks cs) (hR : RowIn (fun b => b < Bs) w 4 B ks.length cs) (hBw : Bs ≤ w.heap.size) :
    Calls Try.prog 91 [.pointer (some ⟨b, 0, none⟩), .agg #[.int .i64 1, strV x, .slice A [l0, l1, l2].length m, .slice B ks.length n]].toArray w fun e w' => e = .returned (.tuple #[]) ∧ Pr Bs b (treeP (.node 1 x [l0, l1, l2] ks) s).1 (treeP (.node 1 x [l0, l1, l2] ks) s).2 w' ∧ Prn Bs b w w' := by
  simp only [lsum, kbulk] at hl1 hl2
  have hgk : ∀ t, t ∈ ks → ∀ s, Gw (100 * tbulk t) s (treeP t s) := fun t ht s => Gw.tree _ t (Nat.le_refl _) (hks t ht).2.2 s
  have hKL := kbulk_len ks
  have hE := Prn.refl (b := b) hBw
  have hG : s.2.length ≤ s.2.length := Nat.le_refl _
  have hG' : s.1.length ≤ s.1.length := Nat.le_refl _
  obtain ⟨lb, lo, rfl, _, hlb, _⟩ := hL.2 (by simp)
  refine enter_fr 161 Try.func91 rfl rfl rfl ?_
  intro a hf
  refine wS fun K1 hK1 => ?_
  refine wR ?_
  obtain ⟨w2, b3, he, hB4, hx5, eb6, lb7⟩ := ef_box (P := Try.prog) (t := 26) (x := (.tmp 1)) hf rfl rfl w 0
  refine sV hf rfl he ?_
  clear he hf a; intro a hf
  have ge_b3 := Prn.ge_new hE eb6
  have ne_b_b3 : b ≠ b3 := ne_new hP.lt eb6
  replace hP := hP.chg0 hx5
  replace hE := hE.t0 hx5
  clear eb6 lb7
  refine sN ?_
  refine hK1 _ _ ?_
  refine wS fun K8 hK8 => ?_
  refine wR ?_
  refine sV hf rfl (ex_fa (k := 0) (r := 0) hf rfl (by kernel_rfl) rfl) ?_
  clear hf a; intro a hf
  refine sV hf rfl (ex_loadB hf rfl (by kernel_rfl) hB4 rfl) ?_
  clear hf a; intro a hf
  refine sN ?_
  refine hK8 _ _ ?_
  refine wp_block ?_
  refine wS fun K9 hK9 => ?_
  refine wR ?_
  refine sV hf rfl (ex_eqI (c := true) hf rfl rfl (by decide)) ?_
  clear hf a; intro a hf
  refine sA hf rfl rfl ?_
  clear hf a; intro a hf
  refine sN ?_
  refine hK9 _ _ ?_
  refine cT hf rfl ?_
  refine wS fun K10 hK10 => ?_
  refine wR ?_
  refine sM hf rfl rfl ?_
  clear hf a; intro a hf
  refine sV hf rfl (ex_fa (k := 2) (r := 2) hf rfl (by kernel_rfl) rfl) ?_
  clear hf a; intro a hf
  refine sV hf rfl (ex_loadB hf rfl (by kernel_rfl) hB4 rfl) ?_
  clear hf a; intro a hf
  refine sV hf rfl (ex_index (sz := 1) (k := 0) (r := lo) hf Try.underlying23 (by kernel_rfl) rfl rfl rfl (by simp) rfl) ?_
  clear hf a; intro a hf
  refine sV hf rfl (ex_load hf rfl (by kernel_rfl) (lead_now hL hE (j := 0) rfl)) ?_
  clear hf a; intro a hf
  refine st_c hf rfl rfl rfl (by kernel_rfl) (putL (lead := l0) (tok := [109, 111, 100, 117, 108, 101]) hP (by (try simp only [putP, List.length_append, List.length_cons, List.length_nil]); omega) (by (try simp only [putP, List.length_append, List.length_cons, List.length_nil]); omega) hE.now) ?_
  rintro _ w13 ⟨rfl, hPn, hEn⟩
  refine ⟨_, rfl, ?_⟩
  clear hf a; intro a hf
  have hx12 := hEn.chg
  replace hB4 := hB4.chg hx12 (nm_blk hB4 rfl (Ne.symm ne_b_b3))
  replace hE := hE.trans hx12 (fun _ h => .inl h)
  obtain ⟨s11, es11⟩ : ∃ z, z = putP l0 [109, 111, 100, 117, 108, 101] s := ⟨_, rfl⟩
  replace hPn : Pr Bs b (putP l0 [109, 111, 100, 117, 108, 101] s).1 (putP l0 [109, 111, 100, 117, 108, 101] s).2 w13 := hPn
  rw [← es11] at hPn
  have gs11 := put_len l0 [109, 111, 100, 117, 108, 101] s
  rw [← es11] at gs11
  obtain ⟨gs11, gs11'⟩ := gs11
  (try simp only [List.length_cons, List.length_nil, lsum] at gs11 gs11')
  replace hG := nlt gs11 (Nat.add_le_add_right hG _)
  replace hG' := nlt gs11' (Nat.add_le_add_right hG' _)
  clear gs11 gs11'
  clear hP; have hP := hPn; clear hPn hEn
  refine sN ?_
  refine hK10 _ _ ?_
  refine wS fun K14 hK14 => ?_
  have s_lb := lead_now hL hE (j := 1) rfl
  have s_hB4 := hB4
  refine dl_start (fun x => x.cell? ⟨b3, 2, none⟩ = w13.cell? ⟨b3, 2, none⟩ ∧ x.cell? ⟨lb, lo + 1, none⟩ = w13.cell? ⟨lb, lo + 1, none⟩ ∧ x.cell? ⟨b3, 1, none⟩ = w13.cell? ⟨b3, 1, none⟩) 8 8 rfl (by kernel_rfl) (by kernel_rfl) ?_
  intro w15 hx16 hsel
  replace hB4 := hB4.c0 hx16
  replace hP := hP.chg0 hx16
  replace hE := hE.t0 hx16
  have hS0 : w15.cell? ⟨b3, 2, none⟩ = w13.cell? ⟨b3, 2, none⟩ ∧ w15.cell? ⟨lb, lo + 1, none⟩ = w13.cell? ⟨lb, lo + 1, none⟩ ∧ w15.cell? ⟨b3, 1, none⟩ = w13.cell? ⟨b3, 1, none⟩ := ⟨(hB4.cell 2).trans (s_hB4.cell 2).symm, ((lead_now hL hE (j := 1) rfl).trans s_lb.symm), (hB4.cell 1).trans (s_hB4.cell 1).symm⟩
  refine dM 0 rfl rfl hsel (by kernel_rfl) hf rfl hS0 rfl ?_
  clear hf a; intro a hf
  refine dV 1 rfl rfl hsel (by kernel_rfl) hf rfl (.inl hS0) (fun x => ex_fa (k := 2) (r := 2) hf rfl (by kernel_rfl) rfl) ?_
  clear hf a; intro a hf
  refine dL 2 rfl rfl hsel (by kernel_rfl) hf rfl hS0 (fun x hS => ex_load hf rfl (by kernel_rfl) (hS.1.trans ((s_hB4.cell 2).trans rfl))) ?_
  clear hf a; intro a hf
  refine dV 3 rfl rfl hsel (by kernel_rfl) hf rfl (.inl hS0) (fun x => ex_index (sz := 1) (k := 1) (r := lo + 1) hf Try.underlying23 (by kernel_rfl) rfl rfl rfl (by simp) rfl) ?_
  clear hf a; intro a hf
  refine dL 4 rfl rfl hsel (by kernel_rfl) hf rfl hS0 (fun x hS => ex_load hf rfl (by kernel_rfl) (hS.2.1.trans s_lb)) ?_
  clear hf a; intro a hf
  refine dV 5 rfl rfl hsel (by kernel_rfl) hf rfl (.inl hS0) (fun x => ex_fa (k := 1) (r := 1) hf rfl (by kernel_rfl) rfl) ?_
  clear hf a; intro a hf
  refine dL 6 rfl rfl hsel (by kernel_rfl) hf rfl hS0 (fun x hS => ex_load hf rfl (by kernel_rfl) (hS.2.2.trans ((s_hB4.cell 1).trans rfl))) ?_
  clear hf a; intro a hf
  refine dl_c 7 (by kernel_rfl) rfl hf rfl rfl rfl (by kernel_rfl) (putL (lead := l1) (tok := x) hP (by (try simp only [putP, List.length_append, List.length_cons, List.length_nil]); omega) (by (try simp only [putP, List.length_append, List.length_cons, List.length_nil]); omega) hE.now) ?_
  rintro _ w19 ⟨rfl, hPn, hEn⟩
  refine ⟨_, rfl, ?_⟩
  clear hf a; intro a hf
  have hx18 := hEn.chg
  replace hB4 := hB4.chg hx18 (nm_blk hB4 rfl (Ne.symm ne_b_b3))
  replace hE := hE.trans hx18 (fun _ h => .inl h)
  obtain ⟨s17, es17⟩ : ∃ z, z = putP l1 x s11 := ⟨_, rfl⟩
  replace hPn : Pr Bs b (putP l1 x s11).1 (putP l1 x s11).2 w19 := hPn
  rw [← es17] at hPn
  have gs17 := put_len l1 x s11
  rw [← es17] at gs17
  obtain ⟨gs17, gs17'⟩ := gs17
  (try simp only [List.length_cons, List.length_nil, lsum] at gs17 gs17')
  replace hG := nlt gs17 (Nat.add_le_add_right hG _)
  replace hG' := nlt gs17' (Nat.add_le_add_right hG' _)
  clear gs17 gs17'
  clear hP; have hP := hPn; clear hPn hEn
  clear hS0
  have hS0 : w19.cell? ⟨b3, 2, none⟩ = w13.cell? ⟨b3, 2, none⟩ ∧ w19.cell? ⟨lb, lo + 1, none⟩ = w13.cell? ⟨lb, lo + 1, none⟩ ∧ w19.cell? ⟨b3, 1, none⟩ = w13.cell? ⟨b3, 1, none⟩ := ⟨(hB4.cell 2).trans (s_hB4.cell 2).symm, ((lead_now hL hE (j := 1) rfl).trans s_lb.symm), (hB4.cell 1).trans (s_hB4.cell 1).symm⟩
  refine ⟨.inl hS0, ?_⟩
  refine dl_done (by kernel_rfl) ?_
  clear hS0 hsel
  refine hK14 _ _ ?_
  refine wS fun K20 hK20 => ?_
  refine wS fun K21 hK21 => ?_
  refine wR ?_
  refine sV hf rfl (ex_fa (k := 3) (r := 3) hf rfl (by kernel_rfl) rfl) ?_
  clear hf a; intro a hf
  refine sV hf rfl (ex_loadB hf rfl (by kernel_rfl) hB4 rfl) ?_
  clear hf a; intro a hf
  refine sV hf rfl (ex_len hf Try.underlying24 rfl) ?_
  clear hf a; intro a hf
  refine sM hf rfl rfl ?_
  clear hf a; intro a hf
  refine sN ?_
  refine hK21 _ _ ?_
  refine wp_block ?_
  refine wp_loop_ghost (fun g a w' => ∃ i, Fr a 161 (fm [(0, .pointer (some ⟨b, 0, none⟩)), (3, .pointer (some ⟨b3, 0, none⟩)), (26, .slice B ks.length n), (27, .int .i64 (ks.length : Nat)), (28, .int .i64 (i : Nat))]) ∧ Prn Bs b w w' ∧ Blk w' b3 26 [.int .i64 1, strV x, .slice (some ⟨lb, lo, none⟩) [l0, l1, l2].length m, .slice B ks.length n] ∧ Pr Bs b (foldP (ks.take i) s17).1 (foldP (ks.take i) s17).2 w' ∧ i ≤ ks.length ∧ g = ks.length - i) _ ⟨0, hf.pick ⟨rfl, rfl, rfl, rfl, rfl, trivial⟩, hE, hB4, by simpa [foldP, treesP] using hP, Nat.zero_le _, rfl⟩ ?_
  obtain ⟨b5, eb5⟩ : ∃ x, b3 = x := ⟨_, rfl⟩
  rw [eb5]
  have ge_b5 : w.heap.size ≤ b5 := eb5 ▸ ge_b3
  have ne_b_b5 : b ≠ b5 := eb5 ▸ ne_b_b3
  clear eb5 hf a hP
  intro g0 a w' hI
  obtain ⟨i, hf, hE, hB5, hP, hi, rfl⟩ := hI
  by_cases hlt : i < ks.length
  obtain ⟨kb, ko, rfl, _, hkb, _⟩ := hR.2 (by omega)
  have hki : ks[i]? = some ks[i] := List.getElem?_eq_getElem hlt
  obtain ⟨d0, d1, d2, d3, hT, hK4⟩ := kid_now hK hR hE hki
  have on_T := hT.one
  have hmem : ks[i] ∈ ks := List.getElem_mem hlt
  have htt := kbulk_step hlt
  have hst := fold_step s17 hlt
  have hF := Gw.fold (ks.take i) (fun t ht => hgk t (List.mem_of_mem_take ht)) s17
  have hF1 : (foldP (ks.take i) s17).2.length ≤ _ := hF.1
  have hF2 : (foldP (ks.take i) s17).1.length ≤ _ := hF.2
  clear hF
  refine wS fun K22 hK22 => ?_
  refine wR ?_
  refine sV hf rfl (ex_ltI (c := true) hf rfl rfl (by simp; omega)) ?_
  clear hf a; intro a hf
  refine sN ?_
  refine hK22 _ _ ?_
  refine wS fun K23 hK23 => ?_
  refine cT hf rfl ?_
  refine wp_skip ?_
  refine hK23 _ _ ?_
  refine wS fun K24 hK24 => ?_
  refine wp_block ?_
  refine wS fun K25 hK25 => ?_
  refine wR ?_
  refine sV hf rfl (ex_index (sz := 4) (k := i) (r := ko + i * 4) hf Try.underlying24 (by kernel_rfl) rfl rfl rfl hlt rfl) ?_
  clear hf a; intro a hf
  refine sV hf rfl (ex_loadN (cs := [d0, d1, d2, d3]) (m := 4) hf rfl (by kernel_rfl) rfl hK4) ?_
  clear hf a; intro a hf
  obtain ⟨w26, b27, he, hB28, hx29, eb30, lb31⟩ := eT a w' 0
  refine sV hf rfl he ?_
  clear he hf a; intro a hf
  have ne_b5_b27 : b5 ≠ b27 := ne_new hB5.lt eb30
  have ge_b27 := Prn.ge_new hE eb30
  have ne_b_b27 : b ≠ b27 := ne_new hP.lt eb30
  replace hB5 := hB5.c0 hx29
  replace hP := hP.chg0 hx29
  replace hT := hT.chg hx29 (fun k hb hlt2 => nm0)
  replace hE := hE.t0 hx29
  clear eb30 lb31
  obtain ⟨w32, he, hB33, hx34⟩ := eN (.tmp 5) (.tmp 31) hf rfl rfl rfl on_T hB28 rfl 0
  refine st_s hf rfl rfl he ?_
  clear he hf a; intro a hf
  replace hB5 := hB5.chg hx34 (nmc ne_b5_b27 nm0)
  replace hP := hP.chgN hB28 (by decide) ne_b_b27 hx34
  replace hT := hT.chg hx34 (fun k hb hlt2 => (nmc (by have := hE.base; omega) nm0))
  replace hE := hE.trans hx34 (allc (.inr ge_b27) all0)
  clear hB28
  refine sN ?_
  refine hK25 _ _ ?_
  refine wR ?_
  refine sM hf rfl rfl ?_
  clear hf a; intro a hf
  refine sV hf rfl (ex_loadBN (m := 4) hf rfl (by kernel_rfl) hB33 rfl) ?_
  clear hf a; intro a hf
  refine st_c hf rfl rfl rfl (by kernel_rfl) (ih ks[i] _ Bs b (foldP (ks.take i) s17) d0 d1 d2 d3 (hks _ hmem).1 (hks _ hmem).2.1 (hks _ hmem).2.2 (by omega) (by omega) hP hT hE.now) ?_
  rintro _ w36 ⟨rfl, hPn, hEn⟩
  refine ⟨_, rfl, ?_⟩
  clear hf a; intro a hf
  have hx35 := hEn.chg
  replace hB5 := hB5.chg hx35 (nm_blk hB5 rfl (Ne.symm ne_b_b5))
  replace hB33 := hB33.chg hx35 (nm_blk hB33 rfl (Ne.symm ne_b_b27))
  replace hT := hT.chg hx35 (fun k hb hlt2 => (nm_low hb))
  replace hE := hE.trans hx35 (fun _ h => .inl h)
  clear hP; have hP : Pr Bs b (treeP ks[i] (foldP (ks.take i) s17)).1 (treeP ks[i] (foldP (ks.take i) s17)).2 w36 := hPn; clear hPn hEn
  refine sN ?_
  refine hK24 _ _ ?_
  refine wR ?_
  refine sV hf rfl (ex_addI hf rfl rfl rfl (by omega)) ?_
  clear hf a; intro a hf
  refine sM hf rfl rfl ?_
  clear hf a; intro a hf
  refine sN ?_
  rw [← hst] at hP
  exact ⟨_, (by omega : ks.length - (i + 1) < ks.length - i), i + 1, hf.pick ⟨rfl, rfl, rfl, rfl, rfl, trivial⟩, hE, hB5, hP, by omega, rfl⟩
  have hz : ks.take i = ks := List.take_of_length_le (by omega)
  rw [hz] at hP
  obtain ⟨sF, esF⟩ : ∃ z, z = foldP ks s17 := ⟨_, rfl⟩
  rw [← esF] at hP
  have hF := Gw.fold ks hgk s17
  have hF1 : (foldP ks s17).2.length ≤ _ := hF.1
  have hF2 : (foldP ks s17).1.length ≤ _ := hF.2
  rw [← esF] at hF1 hF2
  clear hF
  replace hG := nlt hF1 (Nat.add_le_add_right hG _)
  replace hG' := nlt hF2 (Nat.add_le_add_right hG' _)
  clear hF1 hF2
  refine wS fun K37 hK37 => ?_
  refine wR ?_
  refine sV hf rfl (ex_ltI (c := false) hf rfl rfl (by simp; omega)) ?_
  clear hf a; intro a hf
  refine sN ?_
  refine hK37 _ _ ?_
  refine wS fun K38 hK38 => ?_
  refine cF hf rfl ?_
  refine wp_exit ?_
  simp only [Exit.then, Exit.inBlock, ↓reduceIte, Nat.reduceEqDiff]
  refine hK20 _ _ ?_
  have s_lb := lead_now hL hE (j := 2) rfl
  have s_hB5 := hB5
  refine dl_start (fun x => x.cell? ⟨b5, 2, none⟩ = w'.cell? ⟨b5, 2, none⟩ ∧ x.cell? ⟨lb, lo + 2, none⟩ = w'.cell? ⟨lb, lo + 2, none⟩) 8 8 rfl (by kernel_rfl) (by kernel_rfl) ?_
  intro w39 hx40 hsel
  replace hB5 := hB5.c0 hx40
  replace hP := hP.chg0 hx40
  replace hE := hE.t0 hx40
  have hS0 : w39.cell? ⟨b5, 2, none⟩ = w'.cell? ⟨b5, 2, none⟩ ∧ w39.cell? ⟨lb, lo + 2, none⟩ = w'.cell? ⟨lb, lo + 2, none⟩ := ⟨(hB5.cell 2).trans (s_hB5.cell 2).symm, ((lead_now hL hE (j := 2) rfl).trans s_lb.symm)⟩
  refine dM 0 rfl rfl hsel (by kernel_rfl) hf rfl hS0 rfl ?_
  clear hf a; intro a hf
  refine dV 1 rfl rfl hsel (by kernel_rfl) hf rfl (.inl hS0) (fun x => ex_nil hf rfl) ?_
  clear hf a; intro a hf
  refine dV 2 rfl rfl hsel (by kernel_rfl) hf rfl (.inl hS0) (fun x => ex_fa (k := 0) (r := 0) hf rfl (by kernel_rfl) rfl) ?_
  clear hf a; intro a hf
  refine dV 3 rfl rfl hsel (by kernel_rfl) hf rfl (.inl hS0) (fun x => ex_fa (k := 2) (r := 2) hf rfl (by kernel_rfl) rfl) ?_
  clear hf a; intro a hf
  refine dL 4 rfl rfl hsel (by kernel_rfl) hf rfl hS0 (fun x hS => ex_load hf rfl (by kernel_rfl) (hS.1.trans ((s_hB5.cell 2).trans rfl))) ?_
  clear hf a; intro a hf
  refine dV 5 rfl rfl hsel (by kernel_rfl) hf rfl (.inl hS0) (fun x => ex_index (sz := 1) (k := 2) (r := lo + 2) hf Try.underlying23 (by kernel_rfl) rfl rfl rfl (by simp) rfl) ?_
  clear hf a; intro a hf
  refine dL 6 rfl rfl hsel (by kernel_rfl) hf rfl hS0 (fun x hS => ex_load hf rfl (by kernel_rfl) (hS.2.trans s_lb)) ?_
  clear hf a; intro a hf
  refine dl_c 7 (by kernel_rfl) rfl hf rfl rfl rfl (by kernel_rfl) (wsL (s := l2) hP (by omega) hE.now) ?_
  rintro _ w42 ⟨rfl, hPn, hx41, _⟩
  refine ⟨_, rfl, ?_⟩
  clear hf a; intro a hf
  replace hB5 := hB5.chg hx41 (nm_blk hB5 rfl (Ne.symm ne_b_b5))
  replace hE := hE.trans hx41 (fun _ h => .inl h)
  clear hP; have hP := hPn; clear hPn
  clear hS0
  have hS0 : w42.cell? ⟨b5, 2, none⟩ = w'.cell? ⟨b5, 2, none⟩ ∧ w42.cell? ⟨lb, lo + 2, none⟩ = w'.cell? ⟨lb, lo + 2, none⟩ := ⟨(hB5.cell 2).trans (s_hB5.cell 2).symm, ((lead_now hL hE (j := 2) rfl).trans s_lb.symm)⟩
  refine ⟨.inl hS0, ?_⟩
  refine dl_done (by kernel_rfl) ?_
  clear hS0 hsel
  have eq : treeP (.node 1 x [l0, l1, l2] ks) s = (sF.1, sF.2 ++ l2) := by subst esF; subst es17; subst es11; rw [treeP]; rfl
  rw [eq]
  try simp only [Exit.then, Exit.inBlock]
  exact end_of (rs := []) hf rfl rfl ⟨rfl, hP, hE⟩
theorem t1 {N : Nat} (ih : TreeOk N) {w : World} {Bs b : Nat} {s : WS} {x : List UInt8} {l0 l1 l2 : List UInt8} {ks : List Tree} {cs : List Value} {A B : Option Addr} {m n : Nat} (hks : ∀ t, t ∈ ks → tsize t ≤ N ∧ shapedT t = true ∧ leadedT t = true)
    (hl1 : s.2.length + 100 * (x.length + lsum [l0, l1, l2] + kbulk ks + 1) ≤ 1000000000000) (hl2 : s.1.length + 100 * (x.length + lsum [l0, l1, l2] + kbulk ks + 1) ≤ 1000000000000) (hP : Pr Bs b s.1 s.2 w) (hL : RowIn (fun b => b < Bs) w 1 A [l0, l1, l2].length ([l0, l1, l2].map strV)) (hn : ks.length ≤ n) (hn2 : n ≤ maxLen) (hK : KidsAre (fun b => b < Bs) w ks cs) (hR : RowIn (fun b => b < Bs) w 4 B ks.length cs) (hBw : Bs ≤ w.heap.size) :
    Calls Try.prog 61 [.pointer (some ⟨b, 0, none⟩), .agg #[.int .i64 1, strV x, .slice A [l0, l1, l2].length m, .slice B ks.length n]].toArray w fun e w' => e = .returned (.tuple #[]) ∧ Pr Bs b (treeP (.node 1 x [l0, l1, l2] ks) s).1 (treeP (.node 1 x [l0, l1, l2] ks) s).2 w' ∧ Prn Bs b w w' := by
  have hE := Prn.refl (b := b) hBw
  have hG : s.2.length ≤ s.2.length := Nat.le_refl _
  have hG' : s.1.length ≤ s.1.length := Nat.le_refl _
  obtain ⟨lb, lo, rfl, _, hlb, _⟩ := hL.2 (by simp)
  refine enter_fr 216 Try.func61 rfl rfl rfl ?_
  intro a hf
  refine wS fun K1 hK1 => wR ?_
  obtain ⟨w2, b3, he, hB4, hx5, eb6, lb7⟩ := ef_box (P := Try.prog) (t := 26) (x := (.tmp 1)) hf rfl rfl w 0
  refine sV hf rfl he fun a hf => ?_
  have ge_b3 := Prn.ge_new hE eb6
  have ne_b_b3 : b ≠ b3 := ne_new hP.lt eb6
  replace hP := hP.chg0 hx5
  replace hE := hE.t0 hx5
  clear eb6 lb7
  refine sN <| hK1 _ _ <| wS fun K8 hK8 => wR <| sV hf rfl (ex_fa (k := 0) (r := 0) hf rfl (by kernel_rfl) rfl) fun a hf => sV hf rfl (ex_loadB hf rfl (by kernel_rfl) hB4 rfl) fun a hf => sN <| hK8 _ _ <| wp_block <| wS fun K9 hK9 => wS fun K10 hK10 => wR <| sV hf rfl (ex_eqI (c := true) hf rfl rfl (by decide)) fun a hf => sA hf rfl rfl fun a hf => sN <| hK10 _ _ <| cT hf rfl <| wp_skip <| hK9 _ _ <| cT hf rfl <| wR <| sM hf rfl rfl fun a hf => sV hf rfl (ex_loadBN (m := 4) hf rfl (by kernel_rfl) hB4 rfl) fun a hf => ?_
  have hLn := hL.now hE
  have hKn := hK.now hE
  have hRn := hR.now hE
  refine st_c hf rfl rfl rfl (by kernel_rfl) (d1 ih  hks hl1 hl2 hP hLn hn hn2 hKn hRn hE.now) ?_
  rintro _ w13 ⟨rfl, hPn, hEn⟩
  refine ⟨_, rfl, fun a hf => ?_⟩
  have hx12 := hEn.chg
  replace hB4 := hB4.chg hx12 (nm_blk hB4 rfl (Ne.symm ne_b_b3))
  replace hE := hE.trans hx12 (fun _ h => .inl h)
  clear hP; have hP := hPn; clear hPn hEn
  refine sN ?_
  have eq : treeP (.node 1 x [l0, l1, l2] ks) s = treeP (.node 1 x [l0, l1, l2] ks) s := by rfl
  rw [eq]
  try simp only [Exit.then, Exit.inBlock]
  exact end_of (rs := []) hf rfl rfl ⟨rfl, hP, hE⟩
theorem t2 {N : Nat} (ih : TreeOk N) {w : World} {Bs b : Nat} {s : WS} {x : List UInt8} {l0 l1 l2 l3 l4 l5 : List UInt8} {ms : List (List UInt8)} {k0 k1 : Tree} {ps : List Tree} {cs : List Value} {A B : Option Addr} {m n : Nat} (hcl : 6 + ps.length ≤ (l0 :: l1 :: l2 :: l3 :: l4 :: l5 :: ms).length + 1) (hks : ∀ t, t ∈ (ps ++ [k0, k1]) → tsize t ≤ N ∧ shapedT t = true ∧ leadedT t = true)
    (hl1 : s.2.length + 100 * (x.length + lsum (l0 :: l1 :: l2 :: l3 :: l4 :: l5 :: ms) + kbulk (ps ++ [k0, k1]) + 1) ≤ 1000000000000) (hl2 : s.1.length + 100 * (x.length + lsum (l0 :: l1 :: l2 :: l3 :: l4 :: l5 :: ms) + kbulk (ps ++ [k0, k1]) + 1) ≤ 1000000000000) (hP : Pr Bs b s.1 s.2 w) (hL : RowIn (fun b => b < Bs) w 1 A (l0 :: l1 :: l2 :: l3 :: l4 :: l5 :: ms).length ((l0 :: l1 :: l2 :: l3 :: l4 :: l5 :: ms).map strV)) (hn : (ps ++ [k0, k1]).length ≤ n) (hn2 : n ≤ maxLen) (hK : KidsAre (fun b => b < Bs) w (ps ++ [k0, k1]) cs) (hR : RowIn (fun b => b < Bs) w 4 B (ps ++ [k0, k1]).length cs) (hBw : Bs ≤ w.heap.size) :
    Calls Try.prog 61 [.pointer (some ⟨b, 0, none⟩), .agg #[.int .i64 2, strV x, .slice A (l0 :: l1 :: l2 :: l3 :: l4 :: l5 :: ms).length m, .slice B (ps ++ [k0, k1]).length n]].toArray w fun e w' => e = .returned (.tuple #[]) ∧ Pr Bs b (treeP (.node 2 x (l0 :: l1 :: l2 :: l3 :: l4 :: l5 :: ms) (ps ++ [k0, k1])) s).1 (treeP (.node 2 x (l0 :: l1 :: l2 :: l3 :: l4 :: l5 :: ms) (ps ++ [k0, k1])) s).2 w' ∧ Prn Bs b w w' := by
  have hE := Prn.refl (b := b) hBw
  have hG : s.2.length ≤ s.2.length := Nat.le_refl _
  have hG' : s.1.length ≤ s.1.length := Nat.le_refl _
  obtain ⟨lb, lo, rfl, _, hlb, _⟩ := hL.2 (by simp)
  obtain ⟨kb, ko, rfl, _, hkb, _⟩ := hR.2 (by simp)
  refine enter_fr 216 Try.func61 rfl rfl rfl ?_
  intro a hf
  refine wS fun K1 hK1 => wR ?_
  obtain ⟨w2, b3, he, hB4, hx5, eb6, lb7⟩ := ef_box (P := Try.prog) (t := 26) (x := (.tmp 1)) hf rfl rfl w 0
  refine sV hf rfl he fun a hf => ?_
  have ge_b3 := Prn.ge_new hE eb6
  have ne_b_b3 : b ≠ b3 := ne_new hP.lt eb6
  replace hP := hP.chg0 hx5
  replace hE := hE.t0 hx5
  clear eb6 lb7
  refine sN <| hK1 _ _ <| wS fun K8 hK8 => wR <| sV hf rfl (ex_fa (k := 0) (r := 0) hf rfl (by kernel_rfl) rfl) fun a hf => sV hf rfl (ex_loadB hf rfl (by kernel_rfl) hB4 rfl) fun a hf => sN <| hK8 _ _ <| wp_block <| wS fun K9 hK9 => wS fun K10 hK10 => wR <| sV hf rfl (ex_eqI (c := false) hf rfl rfl (by decide)) fun a hf => sA hf rfl rfl fun a hf => sN <| hK10 _ _ <| cF hf rfl <| wS fun K11 hK11 => wR <| sV hf rfl (ex_eqI (c := true) hf rfl rfl (by decide)) fun a hf => sA hf rfl rfl fun a hf => sN <| hK11 _ _ <| cT hf rfl <| wp_skip <| hK9 _ _ <| cT hf rfl <| wR <| sM hf rfl rfl fun a hf => sV hf rfl (ex_loadBN (m := 4) hf rfl (by kernel_rfl) hB4 rfl) fun a hf => ?_
  have hLn := hL.now hE
  have hKn := hK.now hE
  have hRn := hR.now hE
  refine st_c hf rfl rfl rfl (by kernel_rfl) (d2 ih hcl hks hl1 hl2 hP hLn hn hn2 hKn hRn hE.now) ?_
  rintro _ w14 ⟨rfl, hPn, hEn⟩
  refine ⟨_, rfl, fun a hf => ?_⟩
  have hx13 := hEn.chg
  replace hB4 := hB4.chg hx13 (nm_blk hB4 rfl (Ne.symm ne_b_b3))
  replace hE := hE.trans hx13 (fun _ h => .inl h)
  clear hP; have hP := hPn; clear hPn hEn
  refine sN ?_
  have eq : treeP (.node 2 x (l0 :: l1 :: l2 :: l3 :: l4 :: l5 :: ms) (ps ++ [k0, k1])) s = treeP (.node 2 x (l0 :: l1 :: l2 :: l3 :: l4 :: l5 :: ms) (ps ++ [k0, k1])) s := by rfl
  rw [eq]
  try simp only [Exit.then, Exit.inBlock]
  exact end_of (rs := []) hf rfl rfl ⟨rfl, hP, hE⟩
theorem t3 {N : Nat} (ih : TreeOk N) {w : World} {Bs b : Nat} {s : WS} {x : List UInt8} {l0 l1 l2 : List UInt8} {k0 : Tree} {cs : List Value} {A B : Option Addr} {m n : Nat} (hks : ∀ t, t ∈ [k0] → tsize t ≤ N ∧ shapedT t = true ∧ leadedT t = true)
    (hl1 : s.2.length + 100 * (x.length + lsum [l0, l1, l2] + kbulk [k0] + 1) ≤ 1000000000000) (hl2 : s.1.length + 100 * (x.length + lsum [l0, l1, l2] + kbulk [k0] + 1) ≤ 1000000000000) (hP : Pr Bs b s.1 s.2 w) (hL : RowIn (fun b => b < Bs) w 1 A [l0, l1, l2].length ([l0, l1, l2].map strV)) (hn : [k0].length ≤ n) (hn2 : n ≤ maxLen) (hK : KidsAre (fun b => b < Bs) w [k0] cs) (hR : RowIn (fun b => b < Bs) w 4 B [k0].length cs) (hBw : Bs ≤ w.heap.size) :
    Calls Try.prog 61 [.pointer (some ⟨b, 0, none⟩), .agg #[.int .i64 3, strV x, .slice A [l0, l1, l2].length m, .slice B [k0].length n]].toArray w fun e w' => e = .returned (.tuple #[]) ∧ Pr Bs b (treeP (.node 3 x [l0, l1, l2] [k0]) s).1 (treeP (.node 3 x [l0, l1, l2] [k0]) s).2 w' ∧ Prn Bs b w w' := by
  have hE := Prn.refl (b := b) hBw
  have hG : s.2.length ≤ s.2.length := Nat.le_refl _
  have hG' : s.1.length ≤ s.1.length := Nat.le_refl _
  obtain ⟨lb, lo, rfl, _, hlb, _⟩ := hL.2 (by simp)
  obtain ⟨kb, ko, rfl, _, hkb, _⟩ := hR.2 (by simp)
  refine enter_fr 216 Try.func61 rfl rfl rfl ?_
  intro a hf
  refine wS fun K1 hK1 => wR ?_
  obtain ⟨w2, b3, he, hB4, hx5, eb6, lb7⟩ := ef_box (P := Try.prog) (t := 26) (x := (.tmp 1)) hf rfl rfl w 0
  refine sV hf rfl he fun a hf => ?_
  have ge_b3 := Prn.ge_new hE eb6
  have ne_b_b3 : b ≠ b3 := ne_new hP.lt eb6
  replace hP := hP.chg0 hx5
  replace hE := hE.t0 hx5
  clear eb6 lb7
  refine sN <| hK1 _ _ <| wS fun K8 hK8 => wR <| sV hf rfl (ex_fa (k := 0) (r := 0) hf rfl (by kernel_rfl) rfl) fun a hf => sV hf rfl (ex_loadB hf rfl (by kernel_rfl) hB4 rfl) fun a hf => sN <| hK8 _ _ <| wp_block <| wS fun K9 hK9 => wS fun K10 hK10 => wR <| sV hf rfl (ex_eqI (c := false) hf rfl rfl (by decide)) fun a hf => sA hf rfl rfl fun a hf => sN <| hK10 _ _ <| cF hf rfl <| wS fun K11 hK11 => wR <| sV hf rfl (ex_eqI (c := false) hf rfl rfl (by decide)) fun a hf => sA hf rfl rfl fun a hf => sN <| hK11 _ _ <| cF hf rfl <| wS fun K12 hK12 => wR <| sV hf rfl (ex_eqI (c := true) hf rfl rfl (by decide)) fun a hf => sA hf rfl rfl fun a hf => sN <| hK12 _ _ <| cT hf rfl <| wp_skip <| hK9 _ _ <| cT hf rfl <| wR <| sM hf rfl rfl fun a hf => sV hf rfl (ex_loadBN (m := 4) hf rfl (by kernel_rfl) hB4 rfl) fun a hf => ?_
  have hLn := hL.now hE
  have hKn := hK.now hE
  have hRn := hR.now hE
  refine st_c hf rfl rfl rfl (by kernel_rfl) (d3 ih  hks hl1 hl2 hP hLn hn hn2 hKn hRn hE.now) ?_
  rintro _ w15 ⟨rfl, hPn, hEn⟩
  refine ⟨_, rfl, fun a hf => ?_⟩
  have hx14 := hEn.chg
  replace hB4 := hB4.chg hx14 (nm_blk hB4 rfl (Ne.symm ne_b_b3))
  replace hE := hE.trans hx14 (fun _ h => .inl h)
  clear hP; have hP := hPn; clear hPn hEn
  refine sN ?_
  have eq : treeP (.node 3 x [l0, l1, l2] [k0]) s = treeP (.node 3 x [l0, l1, l2] [k0]) s := by rfl
  rw [eq]
  try simp only [Exit.then, Exit.inBlock]
  exact end_of (rs := []) hf rfl rfl ⟨rfl, hP, hE⟩
theorem t4 {N : Nat} (ih : TreeOk N) {w : World} {Bs b : Nat} {s : WS} {x : List UInt8} {l0 l1 : List UInt8} {k0 : Tree} {cs : List Value} {A B : Option Addr} {m n : Nat} (hks : ∀ t, t ∈ [k0] → tsize t ≤ N ∧ shapedT t = true ∧ leadedT t = true)
    (hl1 : s.2.length + 100 * (x.length + lsum [l0, l1] + kbulk [k0] + 1) ≤ 1000000000000) (hl2 : s.1.length + 100 * (x.length + lsum [l0, l1] + kbulk [k0] + 1) ≤ 1000000000000) (hP : Pr Bs b s.1 s.2 w) (hL : RowIn (fun b => b < Bs) w 1 A [l0, l1].length ([l0, l1].map strV)) (hn : [k0].length ≤ n) (hn2 : n ≤ maxLen) (hK : KidsAre (fun b => b < Bs) w [k0] cs) (hR : RowIn (fun b => b < Bs) w 4 B [k0].length cs) (hBw : Bs ≤ w.heap.size) :
    Calls Try.prog 61 [.pointer (some ⟨b, 0, none⟩), .agg #[.int .i64 4, strV x, .slice A [l0, l1].length m, .slice B [k0].length n]].toArray w fun e w' => e = .returned (.tuple #[]) ∧ Pr Bs b (treeP (.node 4 x [l0, l1] [k0]) s).1 (treeP (.node 4 x [l0, l1] [k0]) s).2 w' ∧ Prn Bs b w w' := by
  have hE := Prn.refl (b := b) hBw
  have hG : s.2.length ≤ s.2.length := Nat.le_refl _
  have hG' : s.1.length ≤ s.1.length := Nat.le_refl _
  obtain ⟨lb, lo, rfl, _, hlb, _⟩ := hL.2 (by simp)
  obtain ⟨kb, ko, rfl, _, hkb, _⟩ := hR.2 (by simp)
  refine enter_fr 216 Try.func61 rfl rfl rfl ?_
  intro a hf
  refine wS fun K1 hK1 => wR ?_
  obtain ⟨w2, b3, he, hB4, hx5, eb6, lb7⟩ := ef_box (P := Try.prog) (t := 26) (x := (.tmp 1)) hf rfl rfl w 0
  refine sV hf rfl he fun a hf => ?_
  have ge_b3 := Prn.ge_new hE eb6
  have ne_b_b3 : b ≠ b3 := ne_new hP.lt eb6
  replace hP := hP.chg0 hx5
  replace hE := hE.t0 hx5
  clear eb6 lb7
  refine sN <| hK1 _ _ <| wS fun K8 hK8 => wR <| sV hf rfl (ex_fa (k := 0) (r := 0) hf rfl (by kernel_rfl) rfl) fun a hf => sV hf rfl (ex_loadB hf rfl (by kernel_rfl) hB4 rfl) fun a hf => sN <| hK8 _ _ <| wp_block <| wS fun K9 hK9 => wS fun K10 hK10 => wR <| sV hf rfl (ex_eqI (c := false) hf rfl rfl (by decide)) fun a hf => sA hf rfl rfl fun a hf => sN <| hK10 _ _ <| cF hf rfl <| wS fun K11 hK11 => wR <| sV hf rfl (ex_eqI (c := false) hf rfl rfl (by decide)) fun a hf => sA hf rfl rfl fun a hf => sN <| hK11 _ _ <| cF hf rfl <| wS fun K12 hK12 => wR <| sV hf rfl (ex_eqI (c := false) hf rfl rfl (by decide)) fun a hf => sA hf rfl rfl fun a hf => sN <| hK12 _ _ <| cF hf rfl <| wR <| sV hf rfl (ex_eqI (c := true) hf rfl rfl (by decide)) fun a hf => sA hf rfl rfl fun a hf => sN <| hK9 _ _ <| cT hf rfl <| wR <| sM hf rfl rfl fun a hf => sV hf rfl (ex_loadBN (m := 4) hf rfl (by kernel_rfl) hB4 rfl) fun a hf => ?_
  have hLn := hL.now hE
  have hKn := hK.now hE
  have hRn := hR.now hE
  refine st_c hf rfl rfl rfl (by kernel_rfl) (d4 ih  hks hl1 hl2 hP hLn hn hn2 hKn hRn hE.now) ?_
  rintro _ w15 ⟨rfl, hPn, hEn⟩
  refine ⟨_, rfl, fun a hf => ?_⟩
  have hx14 := hEn.chg
  replace hB4 := hB4.chg hx14 (nm_blk hB4 rfl (Ne.symm ne_b_b3))
  replace hE := hE.trans hx14 (fun _ h => .inl h)
  clear hP; have hP := hPn; clear hPn hEn
  refine sN ?_
  have eq : treeP (.node 4 x [l0, l1] [k0]) s = treeP (.node 4 x [l0, l1] [k0]) s := by rfl
  rw [eq]
  try simp only [Exit.then, Exit.inBlock]
  exact end_of (rs := []) hf rfl rfl ⟨rfl, hP, hE⟩
theorem len0 {α : Type} {l : List α} (h : l.length = 0) : l = [] := List.length_eq_zero_iff.1 h
theorem lenS {α : Type} {l : List α} {n : Nat} (h : l.length = n + 1) : ∃ a r, l = a :: r ∧ r.length = n := by
  cases l with
  | nil => simp at h
  | cons a r => exact ⟨a, r, rfl, by simpa using h⟩
theorem kids_all {k : Int} {n : Nat} : ∀ {ks : List Tree} {i : Nat}, kidsT k n ks i = true → ∀ t, t ∈ ks → shapedT t = true
  | u :: r, i, h, t, ht => by
    simp only [kidsT, Bool.and_eq_true] at h
    rcases List.mem_cons.1 ht with e | e
    · exact e ▸ h.1.2
    · exact kids_all h.2 t e
theorem leads_kind {k n : Int} (h : 0 ≤ leadsT k n) : (k = 1 ∧ leadsT k n = 3) ∨ (k = 2 ∧ 2 ≤ n ∧ (2 < n ∧ leadsT k n = 6 + (n - 3) ∨ n = 2 ∧ leadsT k n = 6)) ∨ (k = 16 ∧ (n = 0 ∧ leadsT k n = 3 ∨ 0 < n ∧ leadsT k n = 3 + (n - 1))) ∨ (k = 18 ∧ 1 ≤ n ∧ leadsT k n = 2 + (n - 1)) ∨ (k = 3 ∧ n = 1 ∧ leadsT k n = 3) ∨ (k = 4 ∧ n = 1 ∧ leadsT k n = 2) ∨ (k = 8 ∧ n = 1 ∧ leadsT k n = 2) ∨ (k = 22 ∧ n = 1 ∧ leadsT k n = 2) ∨ (k = 17 ∧ n = 1 ∧ leadsT k n = 0) ∨ (k = 19 ∧ n = 3 ∧ leadsT k n = 3) ∨ (k = 20 ∧ n = 2 ∧ leadsT k n = 4) ∨ (k = 21 ∧ n = 2 ∧ leadsT k n = 1) ∨ ((k = 5 ∨ k = 6 ∨ k = 7 ∨ k = 9 ∨ k = 10 ∨ k = 11 ∨ k = 12 ∨ k = 13 ∨ k = 14 ∨ k = 15) ∧ n = 0 ∧ leadsT k n = 1) := by
  obtain ⟨L, hL⟩ : ∃ L, L = leadsT k n := ⟨_, rfl⟩
  rw [← hL] at h ⊢
  unfold leadsT at hL
  by_cases hk1 : k = 1
  · rw [if_pos hk1] at hL
    split at hL
    · exact absurd h (by omega)
    · exact .inl (⟨hk1, hL⟩)
  rw [if_neg hk1] at hL
  by_cases hk2 : k = 2
  · rw [if_pos hk2] at hL
    split at hL
    · exact absurd h (by omega)
    · split at hL
      · exact .inr (.inl (⟨hk2, by omega, .inl ⟨by omega, hL⟩⟩))
      · exact .inr (.inl (⟨hk2, by omega, .inr ⟨by omega, hL⟩⟩))
  rw [if_neg hk2] at hL
  by_cases hk3 : k = 16
  · rw [if_pos hk3] at hL
    split at hL
    · exact absurd h (by omega)
    · split at hL
      · exact .inr (.inr (.inl (⟨hk3, .inr ⟨by omega, hL⟩⟩)))
      · exact .inr (.inr (.inl (⟨hk3, .inl ⟨by omega, hL⟩⟩)))
  rw [if_neg hk3] at hL
  by_cases hk4 : k = 18
  · rw [if_pos hk4] at hL
    split at hL
    · exact absurd h (by omega)
    · exact .inr (.inr (.inr (.inl (⟨hk4, by omega, hL⟩))))
  rw [if_neg hk4] at hL
  by_cases hk5 : k = 3
  · rw [if_pos hk5] at hL
    split at hL
    · exact .inr (.inr (.inr (.inr (.inl (⟨hk5, by omega, hL⟩)))))
    · exact absurd h (by omega)
  rw [if_neg hk5] at hL
  by_cases hk6 : k = 4 ∨ k = 8 ∨ k = 22
  · rw [if_pos hk6] at hL
    split at hL
    · rcases hk6 with hq | hq | hq
      · exact .inr (.inr (.inr (.inr (.inr (.inl (⟨hq, by omega, hL⟩))))))
      · exact .inr (.inr (.inr (.inr (.inr (.inr (.inl (⟨hq, by omega, hL⟩)))))))
      · exact .inr (.inr (.inr (.inr (.inr (.inr (.inr (.inl (⟨hq, by omega, hL⟩))))))))
    · exact absurd h (by omega)
  rw [if_neg hk6] at hL
  by_cases hk7 : k = 17
  · rw [if_pos hk7] at hL
    split at hL
    · exact .inr (.inr (.inr (.inr (.inr (.inr (.inr (.inr (.inl (⟨hk7, by omega, hL⟩)))))))))
    · exact absurd h (by omega)
  rw [if_neg hk7] at hL
  by_cases hk8 : k = 19
  · rw [if_pos hk8] at hL
    split at hL
    · exact .inr (.inr (.inr (.inr (.inr (.inr (.inr (.inr (.inr (.inl (⟨hk8, by omega, hL⟩))))))))))
    · exact absurd h (by omega)
  rw [if_neg hk8] at hL
  by_cases hk9 : k = 20
  · rw [if_pos hk9] at hL
    split at hL
    · exact .inr (.inr (.inr (.inr (.inr (.inr (.inr (.inr (.inr (.inr (.inl (⟨hk9, by omega, hL⟩)))))))))))
    · exact absurd h (by omega)
  rw [if_neg hk9] at hL
  by_cases hk10 : k = 21
  · rw [if_pos hk10] at hL
    split at hL
    · exact .inr (.inr (.inr (.inr (.inr (.inr (.inr (.inr (.inr (.inr (.inr (.inl (⟨hk10, by omega, hL⟩))))))))))))
    · exact absurd h (by omega)
  rw [if_neg hk10] at hL
  by_cases hk11 : k = 5 ∨ k = 6 ∨ k = 7 ∨ k = 9 ∨ k = 10 ∨ k = 11 ∨ k = 12 ∨ k = 13 ∨ k = 14 ∨ k = 15
  · rw [if_pos hk11] at hL
    split at hL
    · exact .inr (.inr (.inr (.inr (.inr (.inr (.inr (.inr (.inr (.inr (.inr (.inr ((⟨hk11, by omega, hL⟩)))))))))))))
    · exact absurd h (by omega)
  rw [if_neg hk11] at hL
  exact absurd h (by omega)
theorem tree_step {N : Nat} (ih : TreeOk N) : TreeOk (N + 1) := by
  intro t w Bs b s c0 c1 c2 c3 hN hs hl h1 h2 hP hT hBw
  obtain ⟨k, x, ls, ks⟩ := t
  simp only [TreeIs] at hT
  obtain ⟨A, m, B, n, hc, _, _, hn, hn2, hL, cs, hK, hR⟩ := hT
  simp only [List.cons.injEq, and_true] at hc
  obtain ⟨rfl, rfl, rfl, rfl⟩ := hc
  simp only [tsize] at hN
  simp only [tbulk] at h1 h2
  simp only [shapedT, leadedT, Bool.and_eq_true, decide_eq_true_eq] at hs hl
  have hks : ∀ t, t ∈ ks → tsize t ≤ N ∧ shapedT t = true ∧ leadedT t = true := fun t ht => ⟨by have := tsize_mem ht; omega, kids_all hs.2 t ht, leaded_of hl.2 ht⟩
  have hkk := leads_kind hs.1.1
  have hll := hl.1.1
  clear hs hl hN
  rcases hkk with ⟨rfl, e⟩ | ⟨rfl, h0, e⟩ | ⟨rfl, e⟩ | ⟨rfl, h0, e⟩ | ⟨rfl, h0, e⟩ | ⟨rfl, h0, e⟩ | ⟨rfl, h0, e⟩ | ⟨rfl, h0, e⟩ | ⟨rfl, h0, e⟩ | ⟨rfl, h0, e⟩ | ⟨rfl, h0, e⟩ | ⟨rfl, h0, e⟩ | ⟨hk, h0, e⟩
  · obtain ⟨l0, ls0r, rfl, qls0⟩ := lenS (n := 2) (l := ls) (by omega)
    obtain ⟨l1, ls1r, rfl, qls1⟩ := lenS (n := 1) (l := ls0r) qls0
    obtain ⟨l2, ls2r, rfl, qls2⟩ := lenS (n := 0) (l := ls1r) qls1
    obtain rfl := len0 (l := ls2r) qls2
    exact t1 ih hks h1 h2 hP hL hn hn2 hK hR hBw
  · obtain ⟨ps, k0, k1, rfl⟩ : ∃ ps k0 k1, ks = ps ++ [k0, k1] := by
      refine ⟨ks.take (ks.length - 2), ks[ks.length - 2]'(by omega), ks[ks.length - 1]'(by omega), ?_⟩
      have e1 : ks = ks.take (ks.length - 2) ++ ks.drop (ks.length - 2) := (List.take_append_drop _ _).symm
      have e2 : ks.drop (ks.length - 2) = [ks[ks.length - 2]'(by omega), ks[ks.length - 1]'(by omega)] := by
        rw [List.drop_eq_getElem_cons (by omega : ks.length - 2 < ks.length)]
        congr 1
        have e3 : ks.length - 2 + 1 = ks.length - 1 := by omega
        rw [e3, List.drop_eq_getElem_cons (by omega : ks.length - 1 < ks.length), List.drop_of_length_le (by omega)]
      rw [← e2]; exact e1
    have hpl : (ps ++ [k0, k1]).length = ps.length + 2 := by simp
    obtain ⟨q, hq⟩ : ∃ q, ls.length = q + 6 := ⟨ls.length - 6, by omega⟩
    obtain ⟨l0, ls0r, rfl, qls0⟩ := lenS (n := q + 5) (l := ls) hq
    obtain ⟨l1, ls1r, rfl, qls1⟩ := lenS (n := q + 4) (l := ls0r) qls0
    obtain ⟨l2, ls2r, rfl, qls2⟩ := lenS (n := q + 3) (l := ls1r) qls1
    obtain ⟨l3, ls3r, rfl, qls3⟩ := lenS (n := q + 2) (l := ls2r) qls2
    obtain ⟨l4, ls4r, rfl, qls4⟩ := lenS (n := q + 1) (l := ls3r) qls3
    obtain ⟨l5, ls5r, rfl, qls5⟩ := lenS (n := q + 0) (l := ls4r) qls4
    exact t2 ih (by simp only [List.length_cons]; omega) hks h1 h2 hP hL hn hn2 hK hR hBw
  · obtain ⟨q, hq⟩ : ∃ q, ls.length = q + 3 := ⟨ls.length - 3, by omega⟩
    obtain ⟨l0, ls0r, rfl, qls0⟩ := lenS (n := q + 2) (l := ls) hq
    obtain ⟨l1, ls1r, rfl, qls1⟩ := lenS (n := q + 1) (l := ls0r) qls0
    obtain ⟨l2, ls2r, rfl, qls2⟩ := lenS (n := q + 0) (l := ls1r) qls1
    exact t16 ih (by simp only [List.length_cons]; omega) hks h1 h2 hP hL hn hn2 hK hR hBw
  · obtain ⟨q, hq⟩ : ∃ q, ls.length = q + 2 := ⟨ls.length - 2, by omega⟩
    obtain ⟨l0, ls0r, rfl, qls0⟩ := lenS (n := q + 1) (l := ls) hq
    obtain ⟨l1, ls1r, rfl, qls1⟩ := lenS (n := q + 0) (l := ls0r) qls0
    exact t18 ih (by simp only [List.length_cons]; omega) hks h1 h2 hP hL hn hn2 hK hR hBw
  · obtain ⟨l0, ls0r, rfl, qls0⟩ := lenS (n := 2) (l := ls) (by omega)
    obtain ⟨l1, ls1r, rfl, qls1⟩ := lenS (n := 1) (l := ls0r) qls0
    obtain ⟨l2, ls2r, rfl, qls2⟩ := lenS (n := 0) (l := ls1r) qls1
    obtain rfl := len0 (l := ls2r) qls2
    obtain ⟨k0, ks0r, rfl, qks0⟩ := lenS (n := 0) (l := ks) (by omega)
    obtain rfl := len0 (l := ks0r) qks0
    exact t3 ih hks h1 h2 hP hL hn hn2 hK hR hBw
  · obtain ⟨l0, ls0r, rfl, qls0⟩ := lenS (n := 1) (l := ls) (by omega)
    obtain ⟨l1, ls1r, rfl, qls1⟩ := lenS (n := 0) (l := ls0r) qls0
    obtain rfl := len0 (l := ls1r) qls1
    obtain ⟨k0, ks0r, rfl, qks0⟩ := lenS (n := 0) (l := ks) (by omega)
    obtain rfl := len0 (l := ks0r) qks0
    exact t4 ih hks h1 h2 hP hL hn hn2 hK hR hBw
  · obtain ⟨l0, ls0r, rfl, qls0⟩ := lenS (n := 1) (l := ls) (by omega)
    obtain ⟨l1, ls1r, rfl, qls1⟩ := lenS (n := 0) (l := ls0r) qls0
    obtain rfl := len0 (l := ls1r) qls1
    obtain ⟨k0, ks0r, rfl, qks0⟩ := lenS (n := 0) (l := ks) (by omega)
    obtain rfl := len0 (l := ks0r) qks0
    exact t8 ih hks h1 h2 hP hL hn hn2 hK hR hBw
  · obtain ⟨l0, ls0r, rfl, qls0⟩ := lenS (n := 1) (l := ls) (by omega)
    obtain ⟨l1, ls1r, rfl, qls1⟩ := lenS (n := 0) (l := ls0r) qls0
    obtain rfl := len0 (l := ls1r) qls1
    obtain ⟨k0, ks0r, rfl, qks0⟩ := lenS (n := 0) (l := ks) (by omega)
    obtain rfl := len0 (l := ks0r) qks0
    exact t22 ih hks h1 h2 hP hL hn hn2 hK hR hBw
  · obtain rfl := len0 (l := ls) (by omega)
    obtain ⟨k0, ks0r, rfl, qks0⟩ := lenS (n := 0) (l := ks) (by omega)
    obtain rfl := len0 (l := ks0r) qks0
    exact t17 ih hks h1 h2 hP hL hn hn2 hK hR hBw
  · obtain ⟨l0, ls0r, rfl, qls0⟩ := lenS (n := 2) (l := ls) (by omega)
    obtain ⟨l1, ls1r, rfl, qls1⟩ := lenS (n := 1) (l := ls0r) qls0
    obtain ⟨l2, ls2r, rfl, qls2⟩ := lenS (n := 0) (l := ls1r) qls1
    obtain rfl := len0 (l := ls2r) qls2
    obtain ⟨k0, ks0r, rfl, qks0⟩ := lenS (n := 2) (l := ks) (by omega)
    obtain ⟨k1, ks1r, rfl, qks1⟩ := lenS (n := 1) (l := ks0r) qks0
    obtain ⟨k2, ks2r, rfl, qks2⟩ := lenS (n := 0) (l := ks1r) qks1
    obtain rfl := len0 (l := ks2r) qks2
    exact t19 ih hks h1 h2 hP hL hn hn2 hK hR hBw
  · obtain ⟨l0, ls0r, rfl, qls0⟩ := lenS (n := 3) (l := ls) (by omega)
    obtain ⟨l1, ls1r, rfl, qls1⟩ := lenS (n := 2) (l := ls0r) qls0
    obtain ⟨l2, ls2r, rfl, qls2⟩ := lenS (n := 1) (l := ls1r) qls1
    obtain ⟨l3, ls3r, rfl, qls3⟩ := lenS (n := 0) (l := ls2r) qls2
    obtain rfl := len0 (l := ls3r) qls3
    obtain ⟨k0, ks0r, rfl, qks0⟩ := lenS (n := 1) (l := ks) (by omega)
    obtain ⟨k1, ks1r, rfl, qks1⟩ := lenS (n := 0) (l := ks0r) qks0
    obtain rfl := len0 (l := ks1r) qks1
    exact t20 ih hks h1 h2 hP hL hn hn2 hK hR hBw
  · obtain ⟨l0, ls0r, rfl, qls0⟩ := lenS (n := 0) (l := ls) (by omega)
    obtain rfl := len0 (l := ls0r) qls0
    obtain ⟨k0, ks0r, rfl, qks0⟩ := lenS (n := 1) (l := ks) (by omega)
    obtain ⟨k1, ks1r, rfl, qks1⟩ := lenS (n := 0) (l := ks0r) qks0
    obtain rfl := len0 (l := ks1r) qks1
    exact t21 ih hks h1 h2 hP hL hn hn2 hK hR hBw
  · obtain ⟨l0, ls0r, rfl, qls0⟩ := lenS (n := 0) (l := ls) (by omega)
    obtain rfl := len0 (l := ls0r) qls0
    obtain rfl := len0 (l := ks) (by omega)
    exact tLeaf (N := N) hk hks h1 h2 hP hL hn hn2 hK hR hBw
theorem treeL : ∀ N, TreeOk N
  | 0 => fun t _ _ _ _ _ _ _ _ hN => by cases t; simp only [tsize] at hN; omega
  | N + 1 => tree_step (treeL N)
end Go.Proofs.Ythpjpngfghcmcaa
namespace Go.Proofs.Ythpjpngfghcmcaa
open Go.RowKit Lx Sx
set_option maxRecDepth 100000
set_option maxHeartbeats 4000000
theorem TreeIs.cells {S : Nat → Prop} {w : World} {t : Tree} {c0 c1 c2 c3 : Value} (h : TreeIs S w t [c0, c1, c2, c3]) : ∃ A m B n, [c0, c1, c2, c3] = [.int .i64 t.kind, strV t.text, .slice A t.leads.length m, .slice B t.kids.length n] := by
  obtain ⟨k, x, ls, ks⟩ := t
  simp only [TreeIs] at h
  obtain ⟨A, m, B, n, e, _⟩ := h
  exact ⟨A, m, B, n, e⟩
theorem Pr.new {Bs b : Nat} {w : World} (h : Blk w b 80 [.pointer none, .slice none 0 0, strV []]) (hb : Bs ≤ b) : Pr Bs b [] [] w :=
  ⟨.pointer none, .slice none 0 0, .inl rfl, hb, h, World.ownsRow_nil w Bs 5 1⟩
def upX (Bs : Nat) (w : World) : List Nat := (List.range w.heap.size).filter fun k => decide (Bs ≤ k)
theorem mem_upX {Bs : Nat} {w : World} {k : Nat} (h : k ∈ upX Bs w) : Bs ≤ k := by simp [upX] at h; exact h.2
theorem chg_up {Bs : Nat} {w w' : World} (h : Below Bs w w') (hb : Bs ≤ w.heap.size) : Chg (upX Bs w) w w' :=
  ⟨h.os, h.tape, h.output, h.size, fun k hk hX => h.block k (by
    rcases Nat.lt_or_ge k Bs with h1 | h1
    · exact h1
    · exact absurd (by simp [upX]; exact ⟨hk, h1⟩) hX)⟩
theorem strL {Bs b : Nat} {x l : List UInt8} {w : World} (h : Pr Bs b x l w) (hBw : Bs ≤ w.heap.size) : Calls Try.prog 62 [.pointer (some ⟨b, 0, none⟩)].toArray w fun e w' => e = .returned (strV l) ∧ Chg (upX Bs w) w w' :=
  (builderString _ Bs b [strV x] l w h hBw).mono fun _ _ ⟨e, h1⟩ => ⟨e, chg_up h1 hBw⟩
theorem textL {t : Tree} {S : Nat → Prop} {w : World} {c0 c1 c2 c3 : Value} (hs : shapedT t = true) (hl : leadedT t = true) (hb : tbulk t ≤ 1000000000) (hT : TreeIs S w t [c0, c1, c2, c3]) : Calls Try.prog 33 [.agg #[c0, c1, c2, c3]].toArray w fun e w' => e = .returned (strV (textT t)) ∧ Chg [] w w' := by
  obtain ⟨hi0, ehi0⟩ : ∃ x, x = w.heap.size := ⟨_, rfl⟩
  replace hT := hT.keepB (S' := fun b => b < hi0) (fun b _ hb => by omega) (fun _ _ _ => rfl)
  obtain ⟨A, m1, B, m2, hc⟩ := hT.cells
  simp only [List.cons.injEq, and_true] at hc
  obtain ⟨rfl, rfl, rfl, rfl⟩ := hc
  refine enter_fr 8 Try.func33 rfl rfl rfl ?_
  intro a hf
  have hE := Chg.refl [] w
  refine wS fun K1 hK1 => wR ?_
  obtain ⟨w2, b3, he, hB4, hx5, eb6, lb7⟩ := ef_box (P := Try.prog) (t := 26) (x := (.tmp 0)) hf rfl rfl w 0
  refine sV hf rfl he fun a hf => ?_
  have ge_b3 := ge_new hE eb6
  have tb_b3 : hi0 ≤ b3 := by have := hE.size; omega
  replace hT := hT.chg hx5 (fun b hb hlt2 => nm0)
  replace hE := hE.t0 hx5
  clear eb6 lb7
  refine sA hf rfl rfl fun a hf => sN <| hK1 _ _ <| wS fun K8 hK8 => wR ?_
  obtain ⟨w9, b10, he, hB11, hx12, eb13, lb14⟩ := ef_alloc (P := Try.prog) (t := 80) [.pointer none, .slice none 0 0, .string ⟨([] : List UInt8).toArray⟩] (by kernel_rfl) a w2 0
  refine sV hf rfl he fun a hf => ?_
  have ne_b3_b10 : b3 ≠ b10 := ne_new hB4.lt eb13
  have ge_b10 := ge_new hE eb13
  have tb_b10 : hi0 ≤ b10 := by have := hE.size; omega
  replace hB4 := hB4.c0 hx12
  replace hT := hT.chg hx12 (fun b hb hlt2 => nm0)
  replace hE := hE.t0 hx12
  clear eb13 lb14
  refine sN <| hK8 _ _ <| wS fun K15 hK15 => wR <| sV hf rfl (ex_loadBN (m := 4) hf rfl (by kernel_rfl) hB4 rfl) fun a hf => ?_
  have hPr := Pr.new hB11 (Nat.le_refl b10)
  have hTl : TreeIs (fun k => k < b10) w9 t _ := hT.mono (fun k hk => Nat.lt_of_lt_of_le hk tb_b10)
  have hBw : b10 ≤ w9.heap.size := Nat.le_of_lt hB11.lt
  refine st_c hf rfl rfl rfl (by kernel_rfl) (treeL _ t _ b10 b10 ([], []) _ _ _ _ (Nat.le_refl _) hs hl (by simp only [List.length_nil]; omega) (by simp only [List.length_nil]; omega) hPr hTl hBw) ?_
  rintro _ w17 ⟨rfl, hPn, hEn⟩
  refine ⟨_, rfl, fun a hf => ?_⟩
  have hx16 := hEn.chg
  clear hTl hPr
  replace hE := hE.trans hx16 (fun x hx => .inr (by have := (mem_prX.1 hx).2.1; omega))
  refine sN <| hK15 _ _ <| wS fun K18 hK18 => wR <| sV hf rfl (ex_fa (k := 0) (r := 0) hf rfl (by kernel_rfl) rfl) fun a hf => st_c hf rfl rfl rfl (by kernel_rfl) (strL hPn hEn.now) ?_
  rintro _ w20 ⟨rfl, hx19⟩
  refine ⟨_, rfl, fun a hf => ?_⟩
  replace hE := hE.trans hx19 (fun x hx => .inr (by have := mem_upX hx; omega))
  refine sA hf rfl rfl fun a hf => sN <| hK18 _ _ <| wp_ret ?_
  try simp only [Exit.then, Exit.inBlock]
  exact ret_of (rs := [.tmp 2]) hf rfl ⟨_, _, rfl, rfl, rfl⟩ ⟨rfl, hE⟩
theorem printL {t : Tree} {S : Nat → Prop} {w : World} {c0 c1 c2 c3 : Value} (hb : tbulk t ≤ 1000000000) (hT : TreeIs S w t [c0, c1, c2, c3]) : Calls Try.prog 16 [.agg #[c0, c1, c2, c3]].toArray w fun e w' => e = .returned (strV (printT t)) ∧ Chg [] w w' := by
  obtain ⟨hi0, ehi0⟩ : ∃ x, x = w.heap.size := ⟨_, rfl⟩
  replace hT := hT.keepB (S' := fun b => b < hi0) (fun b _ hb => by omega) (fun _ _ _ => rfl)
  obtain ⟨A, m1, B, m2, hc⟩ := hT.cells
  simp only [List.cons.injEq, and_true] at hc
  obtain ⟨rfl, rfl, rfl, rfl⟩ := hc
  refine enter_fr 13 Try.func16 rfl rfl rfl ?_
  intro a hf
  have hE := Chg.refl [] w
  refine wS fun K1 hK1 => wR ?_
  obtain ⟨w2, b3, he, hB4, hx5, eb6, lb7⟩ := ef_box (P := Try.prog) (t := 26) (x := (.tmp 0)) hf rfl rfl w 0
  refine sV hf rfl he fun a hf => ?_
  have ge_b3 := ge_new hE eb6
  have tb_b3 : hi0 ≤ b3 := by have := hE.size; omega
  replace hT := hT.chg hx5 (fun b hb hlt2 => nm0)
  replace hE := hE.t0 hx5
  clear eb6 lb7
  refine sA hf rfl rfl fun a hf => sN <| hK1 _ _ <| wS fun K8 hK8 => wS fun K9 hK9 => wR <| sV hf rfl (ex_loadBN (m := 4) hf rfl (by kernel_rfl) hB4 rfl) fun a hf => ?_
  rcases Bool.eq_false_or_eq_true (shapedT t) with hbs | hbs
  refine st_c hf rfl rfl rfl (by kernel_rfl) (bool_is (shapedL _ t _ _ _ _ _ _ (Nat.le_refl _) (by omega) hT) hbs) ?_
  rintro _ w11 ⟨rfl, hx10⟩
  refine ⟨_, rfl, fun a hf => ?_⟩
  replace hB4 := hB4.c0 hx10
  replace hT := hT.chg hx10 (fun b hb hlt2 => nm0)
  replace hE := hE.t0 hx10
  refine sV hf rfl (ex_not (c := false) hf rfl rfl) fun a hf => sM hf rfl rfl fun a hf => sV hf rfl (ex_loadBN (m := 4) hf rfl (by kernel_rfl) hB4 rfl) fun a hf => ?_
  rcases Bool.eq_false_or_eq_true (leadedT t) with hbl | hbl
  refine st_c hf rfl rfl rfl (by kernel_rfl) (bool_is (leadedL _ t _ _ _ _ _ _ (Nat.le_refl _) (by omega) hT) hbl) ?_
  rintro _ w13 ⟨rfl, hx12⟩
  refine ⟨_, rfl, fun a hf => ?_⟩
  replace hB4 := hB4.c0 hx12
  replace hT := hT.chg hx12 (fun b hb hlt2 => nm0)
  replace hE := hE.t0 hx12
  refine sV hf rfl (ex_not (c := false) hf rfl rfl) fun a hf => sV hf rfl (ex_pickF hf rfl rfl) fun a hf => sN <| hK9 _ _ <| cF hf rfl <| wp_skip <| hK8 _ _ <| wS fun K14 hK14 => wR <| sV hf rfl (ex_loadBN (m := 4) hf rfl (by kernel_rfl) hB4 rfl) fun a hf => st_c hf rfl rfl rfl (by kernel_rfl) (textL hbs hbl hb hT) ?_
  rintro _ w16 ⟨rfl, hx15⟩
  refine ⟨_, rfl, fun a hf => ?_⟩
  replace hB4 := hB4.c0 hx15
  replace hT := hT.chg hx15 (fun b hb hlt2 => nm0)
  replace hE := hE.t0 hx15
  refine sA hf rfl rfl fun a hf => sN <| hK14 _ _ <| wp_ret ?_
  try simp only [Exit.then, Exit.inBlock]
  exact ret_of (rs := [.tmp 2]) hf rfl ⟨_, _, rfl, rfl, rfl⟩ ⟨ret_s (by unfold printT; simp [hbs, hbl]), hE⟩
  refine st_c hf rfl rfl rfl (by kernel_rfl) (bool_is (leadedL _ t _ _ _ _ _ _ (Nat.le_refl _) (by omega) hT) hbl) ?_
  rintro _ w17 ⟨rfl, hx12⟩
  refine ⟨_, rfl, fun a hf => ?_⟩
  replace hB4 := hB4.c0 hx12
  replace hT := hT.chg hx12 (fun b hb hlt2 => nm0)
  replace hE := hE.t0 hx12
  refine sV hf rfl (ex_not (c := true) hf rfl rfl) fun a hf => sV hf rfl (ex_pickF hf rfl rfl) fun a hf => sN <| hK9 _ _ <| cT hf rfl <| wS fun K18 hK18 => wR <| sA hf rfl rfl fun a hf => sN <| hK18 _ _ <| wp_ret ?_
  try simp only [Exit.then, Exit.inBlock]
  exact ret_of (rs := [.tmp 2]) hf rfl ⟨_, _, rfl, rfl, rfl⟩ ⟨ret_s (by unfold printT; simp [hbs, hbl]), hE⟩
  refine st_c hf rfl rfl rfl (by kernel_rfl) (bool_is (shapedL _ t _ _ _ _ _ _ (Nat.le_refl _) (by omega) hT) hbs) ?_
  rintro _ w19 ⟨rfl, hx10⟩
  refine ⟨_, rfl, fun a hf => ?_⟩
  replace hB4 := hB4.c0 hx10
  replace hT := hT.chg hx10 (fun b hb hlt2 => nm0)
  replace hE := hE.t0 hx10
  refine sV hf rfl (ex_not (c := true) hf rfl rfl) fun a hf => sM hf rfl rfl fun a hf => st_k hf rfl rfl fun a hf => st_k hf rfl rfl fun a hf => st_k hf rfl rfl fun a hf => sV hf rfl (ex_pickT hf rfl rfl) fun a hf => sN <| hK9 _ _ <| cT hf rfl <| wS fun K20 hK20 => wR <| sA hf rfl rfl fun a hf => sN <| hK20 _ _ <| wp_ret ?_
  try simp only [Exit.then, Exit.inBlock]
  exact ret_of (rs := [.tmp 2]) hf rfl ⟨_, _, rfl, rfl, rfl⟩ ⟨ret_s (by unfold printT; simp [hbs]), hE⟩
end Go.Proofs.Ythpjpngfghcmcaa
namespace Go.Proofs.Ythpjpngfghcmcaa
open Go.RowKit Lx Sx
set_option maxRecDepth 100000
set_option maxHeartbeats 4000000
def awkS : List UInt8 := [109, 111, 100, 117, 108, 101, 32, 77, 32, 100, 101, 102, 32, 102, 40, 120, 58, 32, 73, 110, 116, 41, 58, 32, 73, 110, 116, 32, 61, 32, 120, 32, 43, 32, 49, 32, 35, 32, 101, 110, 100]
def awkT : Tree := (parseT awkS).1
theorem awk_zero : (parseT awkS).2 = (0, 0) := by decide +kernel
theorem awk_print : printT awkT = awkS := by decide +kernel
theorem awk_bulk : tbulk awkT ≤ 1000000000 := by decide +kernel
def awkB : Tree → Bool
  | .node k x ls ks => k == 1 && x == [77] && ls.length == 3 && ks.length == 1 && (match ks with | t :: _ => t.kids.length == 3 | [] => false)
theorem awk_form : awkB awkT = true := by decide +kernel
theorem awkP {w : World} : Calls Try.prog 12 [strV awkS].toArray w fun e w' => ∃ A m kb ko n A3 m3, e = .returned (.tuple #[.agg #[.int .i64 1, strV [77], .slice A 3 m, .slice (some ⟨kb, ko, none⟩) 1 n], .int .i64 0, .int .i64 0]) ∧ TreeIs (fun b => w.heap.size ≤ b) w' awkT [.int .i64 1, strV [77], .slice A 3 m, .slice (some ⟨kb, ko, none⟩) 1 n] ∧ kb < w'.heap.size ∧ w'.cell? ⟨kb, ko + 3, none⟩ = some (.slice A3 3 m3) ∧ Chg [] w w' := by
  refine (parseL (l := awkS) (w := w) (by decide)).mono ?_
  rintro e w' ⟨c0, c1, c2, c3, rfl, hT, hx⟩
  rw [awk_zero]
  have hT' := hT
  have hf := awk_form
  change TreeIs _ _ awkT _ at hT hT'
  obtain ⟨T, hTe⟩ : ∃ T, T = awkT := ⟨_, rfl⟩
  rw [← hTe] at hT hT' hf ⊢
  obtain ⟨k, x, ls, ks⟩ := T
  simp only [awkB, Bool.and_eq_true, beq_iff_eq] at hf
  obtain ⟨⟨⟨⟨rfl, rfl⟩, hl⟩, hk⟩, h3⟩ := hf
  obtain ⟨t0, r, rfl, hr⟩ := lenS (n := 0) hk
  obtain rfl := len0 hr
  simp only [beq_iff_eq] at h3
  simp only [TreeIs] at hT
  obtain ⟨A, m, B, n, hc, _, _, _, _, _, cs, hK, hR⟩ := hT
  simp only [List.cons.injEq, and_true] at hc
  obtain ⟨rfl, rfl, rfl, rfl⟩ := hc
  obtain ⟨kb, ko, rfl, hS, hkb, hcell⟩ := hR.2 (by simp)
  obtain ⟨d0, d1, d2, d3, hT0, _, _, _, g3⟩ := hK.at_ (i := 0) (by simp)
  obtain ⟨A3, m3', B3, n3, e4⟩ := hT0.cells
  simp only [List.cons.injEq, and_true] at e4
  rw [hl] at hT' ⊢
  simp only [List.getElem_cons_zero] at e4
  refine ⟨A, m, kb, ko, n, B3, n3, rfl, hT', hkb, ?_, hx⟩
  rw [hcell 3 (by simp), show cs[3]? = some d3 from g3, e4.2.2.2, h3]
theorem awakeL {w : World} : Calls Try.prog 11 [].toArray w fun e w' => e = .returned (.bool true) ∧ Chg [] w w' := by
  refine enter_fr 47 Try.func11 rfl rfl rfl ?_
  intro a hf
  have hE := Chg.refl [] w
  refine wS fun K1 hK1 => wR <| sA hf rfl rfl fun a hf => sN <| hK1 _ _ <| wS fun K2 hK2 => wR <| sA hf rfl rfl fun a hf => sN <| hK2 _ _ <| wS fun K3 hK3 => wR <| sM hf rfl rfl fun a hf => st_c hf rfl rfl rfl (by kernel_rfl) (awkP (w := w)) ?_
  rintro _ w5 ⟨A, m, kb, ko, n, A3, m3, rfl, hT, lt_kb, hQ3, hx4⟩
  refine ⟨_, rfl, fun a hf => ?_⟩
  obtain ⟨lo6, elo6⟩ : ∃ x, x = w.heap.size := ⟨_, rfl⟩
  obtain ⟨hi6, ehi6⟩ : ∃ x, x = w5.heap.size := ⟨_, rfl⟩
  replace hT := hT.within elo6 ehi6
  have hle6 : hi6 ≤ w5.heap.size := Nat.le_of_eq ehi6
  have ge_lo6 : w.heap.size ≤ lo6 := elo6 ▸ hE.size
  clear elo6 ehi6
  replace hE := hE.t0 hx4
  refine sM hf rfl rfl fun a hf => sV hf rfl (ex_extract hf rfl rfl) fun a hf => sV hf rfl (ex_extract hf rfl rfl) fun a hf => sV hf rfl (ex_extract hf rfl rfl) fun a hf => ?_
  obtain ⟨w7, b8, he, hB9, hx10, eb11, lb12⟩ := eT a w5 0
  refine sV hf rfl he fun a hf => ?_
  have ne_kb_b8 : kb ≠ b8 := ne_new lt_kb eb11
  have ta_hi6_b8 : hi6 ≤ b8 := eb11 ▸ hle6
  have ge_b8 := ge_new hE eb11
  replace hT := hT.chg hx10 (fun b hb _ => nm0)
  replace hle6 := nlt hle6 hx10.size
  replace hQ3 := (hx10.cell lt_kb nm0).trans hQ3
  replace lt_kb := hx10.lt lt_kb
  replace hE := hE.t0 hx10
  clear eb11 lb12
  obtain ⟨w13, he, hB14, hx15⟩ := eN (.tmp 2) (.tmp 8) hf rfl rfl rfl rfl hB9 rfl 0
  refine st_s hf rfl rfl he fun a hf => ?_
  replace hT := hT.chg hx15 (fun b hb _ => (nmc (by omega) nm0))
  replace hle6 := nlt hle6 hx15.size
  replace hQ3 := (hx15.cell lt_kb (nmc ne_kb_b8 nm0)).trans hQ3
  replace lt_kb := hx15.lt lt_kb
  replace hE := hE.trans hx15 (allc (.inr ge_b8) all0)
  clear hB9
  refine sA hf rfl rfl fun a hf => sA hf rfl rfl fun a hf => sN <| hK3 _ _ <| wS fun K16 hK16 => wR <| sM hf rfl rfl fun a hf => sV hf rfl (ex_eqI (c := true) hf rfl rfl (by decide)) fun a hf => sM hf rfl rfl fun a hf => sM hf rfl rfl fun a hf => sV hf rfl (ex_eqI (c := true) hf rfl rfl (by decide)) fun a hf => sV hf rfl (ex_pickT hf rfl rfl) fun a hf => sM hf rfl rfl fun a hf => sV hf rfl (ex_fa (k := 3) (r := 3) hf rfl (by kernel_rfl) rfl) fun a hf => sV hf rfl (ex_loadB hf rfl (by kernel_rfl) hB14 rfl) fun a hf => sV hf rfl (ex_len hf Try.underlying24 rfl) fun a hf => sV hf rfl (ex_eqI (c := true) hf rfl rfl (by decide)) fun a hf => sV hf rfl (ex_pickT hf rfl rfl) fun a hf => sM hf rfl rfl fun a hf => sV hf rfl (ex_fa (k := 1) (r := 1) hf rfl (by kernel_rfl) rfl) fun a hf => sV hf rfl (ex_loadB hf rfl (by kernel_rfl) hB14 rfl) fun a hf => sV hf rfl (ex_eqS (c := true) hf rfl rfl rfl) fun a hf => sV hf rfl (ex_pickT hf rfl rfl) fun a hf => sM hf rfl rfl fun a hf => sV hf rfl (ex_fa (k := 3) (r := 3) hf rfl (by kernel_rfl) rfl) fun a hf => sV hf rfl (ex_loadB hf rfl (by kernel_rfl) hB14 rfl) fun a hf => sV hf rfl (ex_index (sz := 4) (k := 0) (r := ko) hf Try.underlying24 (by kernel_rfl) rfl rfl rfl (by first | decide | simp) rfl) fun a hf => sV hf rfl (ex_fa (k := 3) (r := ko + 3) hf rfl (by kernel_rfl) rfl) fun a hf => sV hf rfl (ex_load hf rfl (by kernel_rfl) hQ3) fun a hf => sV hf rfl (ex_len hf Try.underlying24 rfl) fun a hf => sV hf rfl (ex_eqI (c := true) hf rfl rfl (by decide)) fun a hf => sV hf rfl (ex_pickT hf rfl rfl) fun a hf => sM hf rfl rfl fun a hf => sV hf rfl (ex_loadBN (m := 4) hf rfl (by kernel_rfl) hB14 rfl) fun a hf => st_c hf rfl rfl rfl (by kernel_rfl) (printL awk_bulk hT) ?_
  rintro _ w18 ⟨rfl, hx17⟩
  refine ⟨_, rfl, fun a hf => ?_⟩
  replace hB14 := hB14.c0 hx17
  replace hT := hT.chg hx17 (fun b hb _ => nm0)
  replace hle6 := nlt hle6 hx17.size
  replace hQ3 := (hx17.cell lt_kb nm0).trans hQ3
  replace lt_kb := hx17.lt lt_kb
  replace hE := hE.t0 hx17
  refine sM hf rfl rfl fun a hf => sV hf rfl (ex_eqS (c := true) hf rfl rfl (by rw [awk_print]; rfl)) fun a hf => sV hf rfl (ex_pickT hf rfl rfl) fun a hf => sM hf rfl rfl fun a hf => st_c hf rfl rfl rfl (by kernel_rfl) (leadsL (k := 2) (n := 4) (by omega)) ?_
  rintro _ w20 ⟨rfl, hx19⟩
  refine ⟨_, rfl, fun a hf => ?_⟩
  replace hB14 := hB14.c0 hx19
  replace hT := hT.chg hx19 (fun b hb _ => nm0)
  replace hle6 := nlt hle6 hx19.size
  replace hQ3 := (hx19.cell lt_kb nm0).trans hQ3
  replace lt_kb := hx19.lt lt_kb
  replace hE := hE.t0 hx19
  refine sV hf rfl (ex_eqI (c := true) hf rfl rfl rfl) fun a hf => sV hf rfl (ex_pickT hf rfl rfl) fun a hf => sA hf rfl rfl fun a hf => sN <| hK16 _ _ <| wp_ret ?_
  try simp only [Exit.then, Exit.inBlock]
  exact ret_of (rs := [.tmp 0]) hf rfl ⟨_, _, rfl, rfl, rfl⟩ ⟨rfl, hE⟩
end Go.Proofs.Ythpjpngfghcmcaa
namespace Go.Proofs.Ythpjpngfghcmcaa
open Go.RowKit Lx Sx
set_option maxRecDepth 100000
set_option maxHeartbeats 4000000
theorem tmod_facts (n m : Int) (hm : 0 < m) : n.tmod m < m ∧ -m < n.tmod m ∧ (n.tmod m < 0 → n % m = n.tmod m + m) ∧ (¬ n.tmod m < 0 → n % m = n.tmod m) := by
  have h1 := Int.tmod_lt_of_pos n hm
  have h2 := Int.tmod_lt_of_pos (-n) hm
  rw [Int.neg_tmod] at h2
  have h3 : n % m = (n.tmod m) % m := by
    have e := Int.tmod_add_mul_tdiv n m
    have : (n.tmod m + m * n.tdiv m) % m = n.tmod m % m := Int.add_mul_emod_self_left ..
    rw [e] at this
    exact this
  refine ⟨h1, by omega, fun h => ?_, fun h => ?_⟩
  · rw [h3]
    have : n.tmod m % m = (n.tmod m + m) % m := by rw [Int.add_emod_right]
    rw [this, Int.emod_eq_of_lt (by omega) (by omega)]
  · rw [h3, Int.emod_eq_of_lt (by omega) h1]
set_option maxHeartbeats 1000000 in
theorem modC (n m : Int) (w : World) (hm : 0 < m) (hm2 : m ≤ 1000000) : Calls Try.prog 20 #[.int .i64 n, .int .i64 m] w fun e w' => e = .returned (.int .i64 (n % m)) ∧ w = w' := by
  have hne : (m == 0) = false := by simp; omega
  have hm0 : ¬ m = 0 := by omega
  obtain ⟨h1, h2, h3, h4⟩ := tmod_facts n m hm
  have H3 := Lib.hid h3
  have H4 := Lib.hid h4
  obtain ⟨q, hq⟩ : ∃ q, n % m = q := ⟨_, rfl⟩
  rw [hq]
  have HQ := Lib.hid hq
  clear h3 h4 hq
  by_cases hneg : n.tmod m < 0
  · have HR := Lib.hid (HQ.out.symm.trans (H3.out hneg))
    go_enter Try.func20, Try.ntmps20
    go_wp2
    go_ret
    exact ⟨ret_int HR.out.symm, rfl⟩
  · have HR := Lib.hid (HQ.out.symm.trans (H4.out hneg))
    go_enter Try.func20, Try.ntmps20
    go_wp2
    go_ret
    exact ⟨ret_int HR.out.symm, rfl⟩
theorem ex_addS {P : Program} {a : Act} {w : World} {n : Nat} {f : Nat → Option Value} {ty t u : TypeId} {x y : Operand} {m l r : List UInt8} (h : Fr a n f) (hx : valF f x = some (.string ⟨m.toArray⟩)) (hy : valF f y = some (.string ⟨l.toArray⟩)) (hl : m.length + l.length ≤ 9223372036854775807) (hr : m ++ l = r) : Runs P a ty (.binOp .add t x y u) w (.value (.string ⟨r.toArray⟩)) w := fun _ _ _ _ => by
  subst hr
  simp only [execOp, h.eval hx, h.eval hy]
  simp [go_sem, eqGuard, app_list, hl]
def headD : List UInt8 := [109, 111, 100, 117, 108, 101, 32, 77, 32, 100, 101, 102, 32, 102, 40, 41, 58, 32, 73, 110, 116, 32, 61, 32]
end Go.Proofs.Ythpjpngfghcmcaa
namespace Go.Proofs.Ythpjpngfghcmcaa
open Go.RowKit Lx Sx
set_option maxRecDepth 100000
set_option maxHeartbeats 4000000
def hd0 : List UInt8 := [109, 111, 100, 117, 108, 101, 32, 77, 32, 100, 101, 102, 32, 102, 40]
def hd1 : List UInt8 := [109, 111, 100, 117, 108, 101, 32, 77, 32, 100, 101, 102, 32, 102, 40, 41, 58, 32, 73, 110, 116, 32, 61, 32, 103, 40]
theorem modV {n m q : Int} {w : World} (hq : n % m = q) (hm : 0 < m) (hm2 : m ≤ 1000000) : Calls Try.prog 20 #[.int .i64 n, .int .i64 m] w fun e w' => e = .returned (.int .i64 q) ∧ w = w' := hq ▸ modC n m w hm hm2
end Go.Proofs.Ythpjpngfghcmcaa
namespace Go.Proofs.Ythpjpngfghcmcaa
open Lx
theorem spanN_app_lt (p : UInt8 → Bool) : ∀ (a r : List UInt8), spanN p a < a.length → spanN p (a ++ r) = spanN p a
  | [], r, h => by simp at h
  | c :: a, r, h => by
    unfold spanN at *
    simp only [List.cons_append, List.takeWhile_cons] at *
    split
    · rename_i hp
      simp only [hp, if_true, List.length_cons] at h ⊢
      have := spanN_app_lt p a r (by unfold spanN; omega)
      unfold spanN at this
      omega
    · rfl
theorem spanN_app_all (p : UInt8 → Bool) : ∀ (a r : List UInt8), spanN p a = a.length → spanN p (a ++ r) = a.length + spanN p r
  | [], r, h => by simp
  | c :: a, r, h => by
    unfold spanN at *
    simp only [List.cons_append, List.takeWhile_cons] at *
    split
    · rename_i hp
      simp only [hp, if_true, List.length_cons] at h ⊢
      have := spanN_app_all p a r (by unfold spanN; omega)
      unfold spanN at this
      omega
    · rename_i hp
      simp [hp] at h
theorem spanN_head {p : UInt8 → Bool} {r : List UInt8} (h : p (r.getD 0 0) = false ∨ r = []) : spanN p r = 0 := by
  cases r with
  | nil => rfl
  | cons c r => simp at h; simp [spanN, h]
theorem spanN_head_pos {p : UInt8 → Bool} {c : UInt8} {r : List UInt8} (h : p c = true) : 0 < spanN p (c :: r) := by simp [spanN, h]
theorem getD_app (a r : List UInt8) (k : Nat) (h : k < a.length) : (a ++ r).getD k 0 = a.getD k 0 := by
  simp only [List.getD]; rw [List.getElem?_append_left h]
def growsB (a : List UInt8) (c : UInt8) : Bool := (letterB (a.getD 0 0) && wordB c) || (digitB (a.getD 0 0) && digitB c) || (a == [61] && c.toNat == 61)
theorem wordT_len_eq {l : List UInt8} {k m : Nat} (h : wordT l = (k, m, 0)) : m = if wordCond l = true then spanN wordB l + 1 + spanN wordB (l.drop (spanN wordB l + 1)) else spanN wordB l := by
  unfold wordT at h
  split at h
  · rename_i hc
    rw [if_pos hc]
    unfold wordYesT at h
    split at h
    · simp at h
    · split at h
      · simp at h
      · split at h <;> (simp at h; omega)
  · rename_i hc
    rw [if_neg hc]
    unfold wordNoT at h
    split at h
    · simp at h
    · split at h
      · simp at h; omega
      · split at h <;> (simp at h; omega)
theorem class_token {a : List UInt8} {k : Nat} (h : classT a = k) (hk : k ≠ 0) : 0 < a.length ∧ tokenT a = (k, a.length, 0) := by
  unfold classT at h
  by_cases h0 : a = []
  · rw [if_pos h0] at h; exact absurd h.symm hk
  · rw [if_neg h0] at h
    by_cases h1 : (tokenT a).2.2 = 0 ∧ (tokenT a).2.1 = a.length
    · rw [if_pos h1] at h
      exact ⟨List.length_pos_iff.2 h0, by rw [← h, ← h1.2, ← h1.1]⟩
    · rw [if_neg h1] at h; exact absurd h.symm hk
theorem quotedT_app : ∀ (r : List UInt8) (i m : Nat) (s : List UInt8), quotedT r i = (m, 0) → quotedT (r ++ s) i = (m, 0)
  | [], i, m, s, h => by simp [quotedT] at h
  | c :: r, i, m, s, h => by
    rw [List.cons_append]
    unfold quotedT at h ⊢
    split
    · rename_i ha; rw [if_pos ha] at h; simp at h
    · rename_i ha; rw [if_neg ha] at h
      split
      · rename_i hq; rw [if_pos hq] at h; exact h
      · rename_i hq; rw [if_neg hq] at h
        split
        · rename_i hb; rw [if_pos hb] at h; simp at h
        · rename_i hb; rw [if_neg hb] at h
          exact quotedT_app r (i + 1) m s h
theorem wordT_app {a r : List UInt8} {k : Nat} (h0 : 0 < a.length) (hl : letterB (a.getD 0 0) = true) (h : wordT a = (k, a.length, 0)) (hr : wordB (r.getD 0 0) = false ∧ (r.getD 0 0).toNat ≠ 46 ∨ r = []) : wordT (a ++ r) = (k, a.length, 0) := by
  have hpos : 0 < spanN wordB a := spanN_pos h0 (wordB_letter hl)
  have hle := spanN_le wordB a
  have hlen := wordT_len_eq h
  have hsr : spanN wordB r = 0 := spanN_head (hr.imp (·.1) id)
  by_cases hcond : wordCond a = true
  · rw [if_pos hcond] at hlen
    obtain ⟨c1, c2, c3, c4, c5⟩ := wordCond_parts hcond
    have hy := wordT_yes rfl rfl hcond
    generalize hn : spanN wordB a = n at *
    generalize hm' : spanN wordB (a.drop (n + 1)) = m' at *
    have e1 : spanN wordB (a ++ r) = n := by rw [spanN_app_lt _ _ _ (by omega), hn]
    have e2 : (a ++ r).take n = a.take n := List.take_append_of_le_length (by omega)
    have hc' : wordCond (a ++ r) = true := wordCond_mk e1 (by rw [getD_app _ _ _ h0]; exact c1) (by rw [e2]; exact c2) (by simp; omega) (by rw [getD_app _ _ _ (by omega)]; exact c4) (by rw [getD_app _ _ _ (by omega)]; exact c5)
    have e4 : (a ++ r).drop (n + 1) = a.drop (n + 1) ++ r := List.drop_append_of_le_length (by omega)
    have e3 : spanN wordB ((a ++ r).drop (n + 1)) = m' := by
      rw [e4, spanN_app_all _ _ _ (by rw [hm', List.length_drop]; omega), hsr, List.length_drop]; omega
    rw [wordT_yes e1 e3 hc', ← h, hy]
    unfold wordYesT
    rw [e4, getD_app _ _ _ (by omega), List.take_append_of_le_length (by rw [List.length_drop]; omega)]
  · have hcond' : wordCond a = false := by simpa using hcond
    rw [if_neg hcond] at hlen
    have hnn := wordT_no rfl hcond'
    generalize hn : spanN wordB a = n at *
    have e1 : spanN wordB (a ++ r) = n := by rw [spanN_app_all _ _ _ (by omega), hsr]; omega
    have hc' : wordCond (a ++ r) = false := by
      cases hx : wordCond (a ++ r) with
      | false => rfl
      | true =>
        obtain ⟨d1, d2, d3, d4, d5⟩ := wordCond_parts hx
        rw [e1] at d3 d4
        rcases hr with hr | hr
        · refine absurd ?_ hr.2
          have : (a ++ r).getD n 0 = r.getD 0 0 := by
            simp only [List.getD]; rw [List.getElem?_append_right (by omega)]; congr 2; omega
          rw [← this]; exact d4
        · subst hr; simp at d3; omega
    rw [wordT_no e1 hc', ← h, hnn]
    unfold wordNoT
    rw [getD_app _ _ _ h0, List.take_append_of_le_length (by omega)]
theorem tokenT_app {a r : List UInt8} {k : Nat} (h0 : 0 < a.length) (h : tokenT a = (k, a.length, 0)) (hr : growsB a (r.getD 0 0) = false ∧ (r.getD 0 0).toNat ≠ 46 ∨ r = []) : tokenT (a ++ r) = (k, a.length, 0) := by
  have hg : (a ++ r).getD 0 0 = a.getD 0 0 := getD_app _ _ _ h0
  have hgr : ∀ {P : Prop}, (growsB a (r.getD 0 0) = false → P) → P ∨ r = [] := fun {P} f => hr.imp (fun x => f x.1) id
  unfold tokenT at h ⊢
  simp only at h ⊢
  rw [hg]
  by_cases ha : allowedB (a.getD 0 0) = false
  · rw [if_pos ha] at h; simp at h
  rw [if_neg ha] at h ⊢
  by_cases hl : letterB (a.getD 0 0) = true
  · rw [if_pos hl] at h ⊢
    refine wordT_app h0 hl h (hr.imp (fun x => ⟨?_, x.2⟩) id)
    have := x.1
    unfold growsB at this
    simp only [hl, Bool.true_and, Bool.or_eq_false_iff] at this
    exact this.1.1
  rw [if_neg hl] at h ⊢
  by_cases hd : digitB (a.getD 0 0) = true
  · rw [if_pos hd] at h ⊢
    simp only [Prod.mk.injEq] at h
    have hn : spanN digitB a = a.length := by
      have h2 := h.2
      unfold numberT at h2
      simp only at h2
      split at h2
      · simp at h2
      · split at h2
        · simp at h2
        · simp at h2; exact h2
    have hsr : spanN digitB r = 0 := spanN_head (hgr (fun x => by unfold growsB at x; simp only [hd, Bool.true_and, Bool.or_eq_false_iff] at x; exact x.1.2))
    have e1 : spanN digitB (a ++ r) = a.length := by rw [spanN_app_all _ _ _ hn, hsr]; omega
    have e2 : numberT (a ++ r) = numberT a := by unfold numberT; rw [e1, hn, hg]
    rw [e2, h.2, h.1]
  rw [if_neg hd] at h ⊢
  by_cases hq : (a.getD 0 0).toNat = 34
  · rw [if_pos hq] at h ⊢
    simp only [Prod.mk.injEq] at h
    have e : (a ++ r).tail = a.tail ++ r := by
      cases a with
      | nil => simp at h0
      | cons c a => rfl
    rw [e, quotedT_app _ _ _ _ h.2, h.1]
  rw [if_neg hq] at h ⊢
  by_cases he : (a.getD 0 0).toNat = 61 ∧ 1 < a.length ∧ (a.getD 1 0).toNat = 61
  · rw [if_pos he] at h
    rw [if_pos ⟨he.1, by simp; omega, by rw [getD_app _ _ _ he.2.1]; exact he.2.2⟩]
    exact h
  · rw [if_neg he] at h
    by_cases hs : signs.contains (a.getD 0 0) = true
    · rw [if_pos hs] at h
      simp only [Prod.mk.injEq] at h
      have hl1 : a.length = 1 := h.2.1.symm
      rw [if_neg, if_pos hs, h.1, ← h.2.1]
      intro hh
      obtain ⟨h1, h2, h3⟩ := hh
      have ha1 : a = [61] := by
        match a, hl1 with
        | [c], _ =>
          simp at h1
          congr 1
          apply UInt8.toNat_inj.1
          simpa using h1
      have h4 : (a ++ r).getD 1 0 = r.getD 0 0 := by
        simp only [List.getD]; rw [List.getElem?_append_right (by omega), hl1]
      rcases hr with hr | hr
      · have := hr.1
        unfold growsB at this
        rw [ha1] at this
        simp only [beq_self_eq_true, Bool.true_and, Bool.or_eq_false_iff, beq_eq_false_iff_ne] at this
        exact this.2 (by rw [← h4]; exact h3)
      · subst hr; simp at h2; omega
    · rw [if_neg hs] at h; simp at h
theorem token_head {a : List UInt8} {k : Nat} (h0 : 0 < a.length) (h : tokenT a = (k, a.length, 0)) : whiteB (a.getD 0 0) = false ∧ (a.getD 0 0).toNat ≠ 35 ∧ (a.getD 0 0).toNat ≠ 46 := by
  have hc : a[0] = a.getD 0 0 := by simp [List.getD, List.getElem?_eq_getElem h0]
  refine ⟨?_, ?_, ?_⟩
  · cases hw : whiteB (a.getD 0 0) with
    | false => rfl
    | true => rw [tokenT_white h0 hc (.inl hw)] at h; simp at h
  · intro h35; rw [tokenT_white h0 hc (.inr h35)] at h; simp at h
  · intro h46
    have hn : a.getD 0 0 = 46 := by apply UInt8.toNat_inj.1; simpa using h46
    unfold tokenT at h
    simp only at h
    rw [hn] at h
    rw [if_neg (by decide), if_neg (by decide), if_neg (by decide), if_neg (by decide), if_neg (by intro x; exact absurd x.1 (by decide)), if_neg (by decide)] at h
    simp at h
theorem lead_app : ∀ (lead : List UInt8) (b : Bool) (r : List UInt8) (n : Nat), triviaT b lead false = true → leadT b (lead ++ r) n = leadT false r (n + lead.length)
  | [], b, r, n, h => by
    have : b = false := by simpa [triviaT] using h
    subst this; rfl
  | x :: l, b, r, n, h => by
    have ih := lead_app l
    unfold triviaT at h
    by_cases ha : allowedB x = false
    · rw [if_pos ha] at h; simp at h
    rw [if_neg ha] at h
    have ha' : allowedB x = true := by simpa using ha
    rw [List.cons_append]
    cases b with
    | true =>
      rw [if_pos rfl] at h
      by_cases h10 : x.toNat = 10
      · have e : leadT true (x :: (l ++ r)) n = leadT false (l ++ r) (n + 1) := by simp [leadT, h10]
        simp only [h10, beq_self_eq_true, Bool.not_true] at h
        rw [e, ih _ _ _ h]; congr 1; simp; omega
      · have e : leadT true (x :: (l ++ r)) n = leadT true (l ++ r) (n + 1) := by simp [leadT, h10, ha']
        have hb : (x.toNat == 10) = false := by simpa using h10
        rw [hb, Bool.not_false] at h
        rw [e, ih _ _ _ h]; congr 1; simp; omega
    | false =>
      rw [if_neg (by simp)] at h
      by_cases h35 : x.toNat = 35
      · have hw : whiteB x = false := by simp [whiteB, h35]
        rw [if_pos h35] at h
        have e : leadT false (x :: (l ++ r)) n = leadT true (l ++ r) (n + 1) := by simp [leadT, h35, hw]
        rw [e, ih _ _ _ h]; congr 1; simp; omega
      · rw [if_neg h35] at h
        by_cases hw : whiteB x = false
        · rw [if_pos hw] at h; simp at h
        · rw [if_neg hw] at h
          have hw' : whiteB x = true := by simpa using hw
          have e : leadT false (x :: (l ++ r)) n = leadT false (l ++ r) (n + 1) := by simp [leadT, hw']
          rw [e, ih _ _ _ h]; congr 1; simp; omega
theorem lead_stop {r : List UInt8} {n : Nat} (h0 : 0 < r.length) (h1 : whiteB (r.getD 0 0) = false) (h2 : (r.getD 0 0).toNat ≠ 35) : leadT false r n = (n, none) := by
  cases r with
  | nil => simp at h0
  | cons c r => simp at h1 h2; simp [leadT, h1, h2]
theorem trivia_head {l : List UInt8} {fin : Bool} (h : triviaT false l fin = true) (hne : l ≠ []) : whiteB (l.getD 0 0) = true ∨ (l.getD 0 0).toNat = 35 := by
  cases l with
  | nil => exact absurd rfl hne
  | cons x r =>
    unfold triviaT at h
    show whiteB x = true ∨ x.toNat = 35
    by_cases ha : allowedB x = false
    · rw [if_pos ha] at h; simp at h
    rw [if_neg ha, if_neg (by simp)] at h
    by_cases h35 : x.toNat = 35
    · exact .inr h35
    · rw [if_neg h35] at h
      by_cases hw : whiteB x = false
      · rw [if_pos hw] at h; simp at h
      · exact .inl (by simpa using hw)
theorem white_grows {a : List UInt8} {c : UInt8} (h : whiteB c = true ∨ c.toNat = 35) : growsB a c = false ∧ c.toNat ≠ 46 := by
  have hv : c.toNat = 9 ∨ c.toNat = 10 ∨ c.toNat = 13 ∨ c.toNat = 32 ∨ c.toNat = 35 := by
    rcases h with h | h
    · simp [whiteB] at h; omega
    · omega
  have h1 : wordB c = false := by rcases hv with h | h | h | h | h <;> simp [wordB, letterB, lowerB, upperB, digitB, h]
  have h2 : digitB c = false := by rcases hv with h | h | h | h | h <;> simp [digitB, h]
  have h3 : (c.toNat == 61) = false := by simp; omega
  exact ⟨by simp [growsB, h1, h2, h3], by omega⟩
theorem scan_first {l : List UInt8} (h4 : ¬ 4096 < l.length) (h0 : 0 < l.length) (hw : whiteB (l.getD 0 0) = false) (h35 : (l.getD 0 0).toNat ≠ 35) {k m e : Nat} (ht : tokenT l = (k, m, e)) :
    (e ≠ 0 ∧ (scan l).err ≠ 0) ∨ (e = 0 ∧ ((scan l).err = 0 → ∃ ts, (scan l).toks = ⟨k, [], l.take m⟩ :: ts)) := by
  have hld : leadT false l 0 = (0, none) := lead_stop h0 hw h35
  unfold scan
  rw [if_neg h4]
  by_cases he : e = 0
  · refine .inr ⟨he, fun herr => ?_⟩
    subst he
    have ht' : tokenT (l.drop 0) = (k, m, 0) := by simpa using ht
    rw [scanT_tok hld (by omega) ht'] at herr ⊢
    have hlen := tokenT_len h0
    rw [ht] at hlen
    simp only at hlen
    have hm0 := hlen.2 trivial
    obtain ⟨ts, h1, _⟩ := scanT_keeps l.length (l.drop (0 + m)) (0 + 0 + m) _ (by simp; omega) herr
    exact ⟨ts, by rw [h1]; simp⟩
  · refine .inl ⟨he, ?_⟩
    have ht' : tokenT (l.drop 0) = (k, m, e) := by simpa using ht
    rw [scanT_err hld (by omega) ht' he]
    exact he
theorem fuses_grows {a b : List UInt8} {ka kb : Nat} (ha : classT a = ka) (hka : ka ≠ 0) (hb : classT b = kb) (hkb : kb ≠ 0) (h : fusesT a b = false) : growsB a (b.getD 0 0) = false ∧ (b.getD 0 0).toNat ≠ 46 := by
  obtain ⟨ha0, hta⟩ := class_token ha hka
  obtain ⟨hb0, htb⟩ := class_token hb hkb
  refine ⟨?_, (token_head hb0 htb).2.2⟩
  have hhead := token_head ha0 hta
  have hg : (a ++ b).getD 0 0 = a.getD 0 0 := getD_app _ _ _ ha0
  unfold fusesT at h
  rw [if_neg (by rw [ha, hb]; omega)] at h
  simp only at h
  by_cases hcond : (scan (a ++ b)).err = 0 ∧ (scan (a ++ b)).toks.length = 2 ∧ (scan (a ++ b)).tail = []
  · rw [if_pos hcond] at h
    simp only [Bool.not_eq_false', Bool.and_eq_true, beq_iff_eq] at h
    obtain ⟨⟨⟨g1, g2⟩, g3⟩, g4⟩ := h
    have h4 : ¬ 4096 < (a ++ b).length := fun hh => by
      have := hcond.1
      unfold scan at this
      rw [if_pos hh] at this
      simp at this
    obtain ⟨k, m, e, ht⟩ : ∃ k m e, tokenT (a ++ b) = (k, m, e) := ⟨_, _, _, rfl⟩
    have hlen := tokenT_len (l := a ++ b) (by simp; omega)
    rw [ht] at hlen
    simp only at hlen
    rcases scan_first h4 (by simp; omega) (by rw [hg]; exact hhead.1) (by rw [hg]; exact hhead.2.1) ht with ⟨_, h2⟩ | ⟨rfl, h2⟩
    · exact absurd hcond.1 h2
    · obtain ⟨ts, h3⟩ := h2 hcond.1
      rw [h3] at g2
      simp only [List.getD_cons_zero] at g2
      have hm : m = a.length := by
        have := congrArg List.length g2
        rw [List.length_take] at this
        omega
      subst hm
      -- the token at the head of a ++ b is a
      cases hgr : growsB a (b.getD 0 0) with
      | false => rfl
      | true =>
        exfalso
        obtain ⟨c, b', rfl⟩ : ∃ c b', b = c :: b' := by
          cases b with
          | nil => simp at hb0
          | cons c b' => exact ⟨c, b', rfl⟩
        simp only [List.getD_cons_zero] at hgr
        unfold growsB at hgr
        simp only [Bool.or_eq_true, Bool.and_eq_true, beq_iff_eq] at hgr
        unfold tokenT at ht hta
        simp only at ht hta
        rw [hg] at ht
        by_cases hal : allowedB (a.getD 0 0) = false
        · rw [if_pos hal] at hta; simp at hta
        rw [if_neg hal] at ht hta
        by_cases hl : letterB (a.getD 0 0) = true
        · rw [if_pos hl] at ht hta
          have hd : digitB (a.getD 0 0) = false := by
            cases hx : digitB (a.getD 0 0) with
            | false => rfl
            | true => simp [letterB, lowerB, upperB, digitB] at hl hx; omega
          have h61 : a ≠ [61] := fun e => by rw [e] at hl; exact absurd hl (by decide)
          rcases hgr with (⟨_, hw⟩ | ⟨hd', _⟩) | ⟨e, _⟩
          · have l1 := wordT_len_eq ht
            have l2 := wordT_len_eq hta
            have hle := spanN_le wordB a
            by_cases hcond : wordCond a = true
            · rw [if_pos hcond] at l2
              obtain ⟨c1, c2, c3, c4, c5⟩ := wordCond_parts hcond
              generalize hn : spanN wordB a = n at *
              generalize hm' : spanN wordB (a.drop (n + 1)) = m' at *
              have e1 : spanN wordB (a ++ c :: b') = n := by rw [spanN_app_lt _ _ _ (by omega), hn]
              have e2 : (a ++ c :: b').take n = a.take n := List.take_append_of_le_length (by omega)
              have hc' : wordCond (a ++ c :: b') = true := wordCond_mk e1 (by rw [getD_app _ _ _ ha0]; exact c1) (by rw [e2]; exact c2) (by simp; omega) (by rw [getD_app _ _ _ (by omega)]; exact c4) (by rw [getD_app _ _ _ (by omega)]; exact c5)
              rw [if_pos hc', e1, List.drop_append_of_le_length (by omega), spanN_app_all _ _ _ (by rw [hm', List.length_drop]; omega), List.length_drop] at l1
              have := spanN_head_pos (r := b') hw
              omega
            · rw [if_neg hcond] at l2
              have e1 := spanN_app_all wordB a (c :: b') l2.symm
              have := spanN_head_pos (r := b') hw
              split at l1 <;> omega
          · rw [hd] at hd'; simp at hd'
          · exact h61 e
        · rw [if_neg hl] at ht hta
          by_cases hd : digitB (a.getD 0 0) = true
          · rw [if_pos hd] at ht hta
            have h61 : a ≠ [61] := fun e => by rw [e] at hd; exact absurd hd (by decide)
            have hn : ∀ l n, numberT l = (n, 0) → spanN digitB l = n := fun l n h2 => by
              unfold numberT at h2
              simp only at h2
              split at h2
              · simp at h2
              · split at h2
                · simp at h2
                · simp at h2; exact h2
            rcases hgr with (⟨hl', _⟩ | ⟨_, hw⟩) | ⟨e, _⟩
            · exact hl hl'
            · simp only [Prod.mk.injEq] at ht hta
              have l1 := hn _ _ ht.2
              have l2 := hn _ _ hta.2
              have e1 := spanN_app_all digitB a (c :: b') l2
              have := spanN_head_pos (r := b') hw
              omega
            · exact h61 e
          · rcases hgr with (⟨hl', _⟩ | ⟨hd', _⟩) | ⟨e, hc61⟩
            · exact hl hl'
            · exact hd hd'
            · subst e
              rw [if_neg hd, if_neg (by decide), if_pos ⟨by decide, by simp, by simpa using hc61⟩] at ht
              simp at ht
  · rw [if_neg hcond] at h; simp at h
def Apart : List Tok → Prop
  | [] => True
  | [_] => True
  | a :: b :: r => (b.lead = [] → fusesT a.text b.text = false) ∧ Apart (b :: r)
theorem scanT_again : ∀ (ts : List Tok) (tail : List UInt8) (f pos : Nat) (acc : List Tok), (∀ t ∈ ts, GoodTok t) → Apart ts → triviaT false tail true = true → (joinT ts tail).length < f →
    scanT f (joinT ts tail) pos acc = ⟨acc ++ ts, tail, 0, 0⟩
  | ts, tail, 0, pos, acc, _, _, _, hf => by omega
  | [], tail, f + 1, pos, acc, hg, hap, ht, hf => by
    rw [triviaT_eq] at ht
    simp only [wholeB, Bool.and_eq_true, Option.isNone_iff_eq_none, beq_iff_eq] at ht
    have : leadT false tail 0 = (tail.length, none) := by rw [← ht.1.1, ← ht.1.2]
    simp only [joinT, List.append_nil]
    rw [scanT_end this rfl]
  | t :: ts, tail, f + 1, pos, acc, hg, hap, ht, hf => by
    obtain ⟨g1, g2, g3⟩ := hg t (List.mem_cons_self ..)
    obtain ⟨h0, htk⟩ := class_token (a := t.text) (k := classT t.text) rfl (by omega)
    have hhead := token_head h0 htk
    have hJ : joinT (t :: ts) tail = t.lead ++ (t.text ++ joinT ts tail) := by simp [joinT]
    have hg0 : (t.text ++ joinT ts tail).getD 0 0 = t.text.getD 0 0 := getD_app _ _ _ h0
    have hld : leadT false (t.lead ++ (t.text ++ joinT ts tail)) 0 = (t.lead.length, none) := by
      rw [lead_app _ _ _ _ g3, lead_stop (by simp; omega) (by rw [hg0]; exact hhead.1) (by rw [hg0]; exact hhead.2.1), Nat.zero_add]
    have hnext : growsB t.text ((joinT ts tail).getD 0 0) = false ∧ ((joinT ts tail).getD 0 0).toNat ≠ 46 ∨ joinT ts tail = [] := by
      cases ts with
      | nil =>
        by_cases he : tail = []
        · exact .inr he
        · exact .inl (white_grows (trivia_head ht he))
      | cons t2 ts =>
        left
        obtain ⟨k1, k2, k3⟩ := hg t2 (List.mem_cons_of_mem _ (List.mem_cons_self ..))
        obtain ⟨h02, htk2⟩ := class_token (a := t2.text) (k := classT t2.text) rfl (by omega)
        by_cases he : t2.lead = []
        · have : (joinT (t2 :: ts) tail).getD 0 0 = t2.text.getD 0 0 := by
            simp only [joinT, he, List.nil_append]; exact getD_app _ _ _ h02
          rw [this]
          exact fuses_grows rfl (by omega) rfl (by omega) (hap.1 he)
        · have hpos : 0 < t2.lead.length := List.length_pos_iff.2 he
          have : (joinT (t2 :: ts) tail).getD 0 0 = t2.lead.getD 0 0 := by
            simp only [joinT, List.append_assoc]; exact getD_app _ _ _ hpos
          rw [this]
          exact white_grows (trivia_head k3 he)
    have htok : tokenT ((t.lead ++ (t.text ++ joinT ts tail)).drop t.lead.length) = (classT t.text, t.text.length, 0) := by
      rw [List.drop_left]; exact tokenT_app h0 htk hnext
    have hap2 : Apart ts := by
      cases ts with
      | nil => trivial
      | cons t2 ts => exact hap.2
    rw [hJ] at hf ⊢
    simp only [List.length_append] at hf
    rw [scanT_tok hld (by simp only [List.length_append]; omega) htok]
    have e1 : (t.lead ++ (t.text ++ joinT ts tail)).drop (t.lead.length + t.text.length) = joinT ts tail := by
      rw [← List.drop_drop, List.drop_left, List.drop_left]
    have e2 : (t.lead ++ (t.text ++ joinT ts tail)).take t.lead.length = t.lead := List.take_left
    have e3 : ((t.lead ++ (t.text ++ joinT ts tail)).drop t.lead.length).take t.text.length = t.text := by rw [List.drop_left, List.take_left]
    rw [e1, e2, e3, scanT_again ts tail f _ _ (fun x hx => hg x (List.mem_cons_of_mem _ hx)) hap2 ht (by omega)]
    congr 1
    rw [List.append_assoc]
    congr 1
    rw [List.singleton_append]
    congr 1
    cases t
    simp only at g1
    rw [g1]
theorem scan_again {ts : List Tok} {tail : List UInt8} (hg : ∀ t ∈ ts, GoodTok t) (hap : Apart ts) (ht : triviaT false tail true = true) (hl : (joinT ts tail).length ≤ 4096) : scan (joinT ts tail) = ⟨ts, tail, 0, 0⟩ := by
  unfold scan
  rw [if_neg (by omega), scanT_again ts tail _ 0 [] hg hap ht (Nat.lt_succ_self _)]
  rfl
end Go.Proofs.Ythpjpngfghcmcaa
namespace Go.Proofs.Ythpjpngfghcmcaa
open Go.RowKit Lx Sx
theorem pTake_failed (s : PS) : (pTake s).failed = s.failed := by
  unfold pTake; split <;> rfl
theorem pTake_toks {s : PS} {t : Tok} {r : List Tok} (h : s.toks = t :: r) : (pTake s).toks = r := by
  unfold pTake; cases r <;> simp [h]
theorem next_cons {s : PS} {t : Tok} {r : List Tok} (h : s.toks = t :: r) : pNext s = t := by simp [pNext, h]
def Goods (l : List Tok) : Prop := ∀ t ∈ l, GoodTok t
theorem Goods.l {a b : List Tok} (h : Goods (a ++ b)) : Goods a := fun t ht => h t (by simp [ht])
theorem Goods.r {a b : List Tok} (h : Goods (a ++ b)) : Goods b := fun t ht => h t (by simp [ht])
theorem Goods.hd {t : Tok} {b : List Tok} (h : Goods (t :: b)) : GoodTok t := h t (by simp)
theorem Goods.tl {t : Tok} {b : List Tok} (h : Goods (t :: b)) : Goods b := fun u hu => h u (by simp [hu])
end Go.Proofs.Ythpjpngfghcmcaa
namespace Go.Proofs.Ythpjpngfghcmcaa
open Go.RowKit Lx Sx
set_option maxRecDepth 100000
def opT : Nat → List UInt8
  | 0 => [43]
  | 1 => [45]
  | 2 => [42]
  | 3 => [60]
  | _ => [61, 61]
def levS : List Nat → List UInt8
  | [] => []
  | o :: r => 32 :: opT o ++ [32, 49] ++ levS r
def levK : List Nat → List Tok
  | [] => []
  | o :: r => ⟨8, [32], opT o⟩ :: ⟨5, [32], [49]⟩ :: levK r
def levHS : List UInt8 := [109, 111, 100, 117, 108, 101, 32, 77, 32, 100, 101, 102, 32, 102, 40, 41, 58, 32, 73, 110, 116, 32, 61, 32, 48]
def levH : List Tok := [⟨7, [], [109, 111, 100, 117, 108, 101]⟩, ⟨2, [32], [77]⟩, ⟨7, [32], [100, 101, 102]⟩, ⟨1, [32], [102]⟩, ⟨8, [], [40]⟩, ⟨8, [], [41]⟩, ⟨8, [], [58]⟩, ⟨7, [32], [73, 110, 116]⟩, ⟨8, [32], [61]⟩, ⟨5, [32], [48]⟩]
theorem opT_len (o : Nat) : (opT o).length ≤ 2 := by unfold opT; split <;> simp
theorem levS_len : ∀ os : List Nat, (levS os).length ≤ 5 * os.length
  | [] => by simp [levS]
  | o :: r => by have := levS_len r; have := opT_len o; simp only [levS, List.length_cons, List.length_append, List.length_nil]; omega
theorem levS_snoc : ∀ (a : List Nat) (o : Nat), levS (a ++ [o]) = levS a ++ (32 :: opT o ++ [32, 49])
  | [], o => by simp [levS]
  | p :: r, o => by simp only [List.cons_append, levS, levS_snoc r o, List.append_assoc]
theorem join_app : ∀ (a b : List Tok) (t : List UInt8), joinT (a ++ b) t = joinT a (joinT b t)
  | [], b, t => rfl
  | x :: r, b, t => by simp only [List.cons_append, joinT, join_app r b t]
theorem lev_join : ∀ os : List Nat, joinT (levK os) [] = levS os
  | [] => rfl
  | o :: r => by simp only [levK, joinT, lev_join r, levS]; simp
theorem lev_src (os : List Nat) : joinT (levH ++ levK os) [] = levHS ++ levS os := by
  rw [join_app, lev_join]; rfl
theorem apart_app : ∀ (a b : List Tok), Apart a → (∀ t, t ∈ b → t.lead ≠ []) → Apart (a ++ b)
  | [], [], _, _ => trivial
  | [], [x], _, _ => trivial
  | [], x :: y :: r, h, hb => ⟨fun e => absurd e (hb y (by simp)), apart_app [] (y :: r) trivial (fun t ht => hb t (by simp at ht ⊢; exact .inr ht))⟩
  | [x], [], _, _ => trivial
  | [x], y :: r, h, hb => ⟨fun e => absurd e (hb y (by simp)), apart_app [] (y :: r) trivial hb⟩
  | x :: y :: r, b, h, hb => ⟨h.1, apart_app (y :: r) b h.2 hb⟩
theorem lev_leads : ∀ (os : List Nat) (t : Tok), t ∈ levK os → t.lead = [32]
  | o :: r, t, h => by
    simp only [levK, List.mem_cons] at h
    rcases h with h | h | h
    · rw [h]
    · rw [h]
    · exact lev_leads r t h
def goodB (t : Tok) : Bool := (classT t.text : Int) == t.kind && t.kind != 0 && triviaT false t.lead false
theorem good_of {t : Tok} (h : goodB t = true) : GoodTok t := by
  simp only [goodB, Bool.and_eq_true, beq_iff_eq, bne_iff_ne] at h
  exact ⟨h.1.1, h.1.2, h.2⟩
theorem op_good : ∀ o, o < 5 → goodB ⟨8, [32], opT o⟩ = true := by decide +kernel
theorem one_good : goodB ⟨5, [32], [49]⟩ = true := by decide +kernel
theorem levK_good : ∀ (os : List Nat), (∀ o, o ∈ os → o < 5) → ∀ t, t ∈ levK os → GoodTok t
  | o :: r, h, t, ht => by
    simp only [levK, List.mem_cons] at ht
    rcases ht with e | e | e
    · rw [e]; exact good_of (op_good o (h o (by simp)))
    · rw [e]; exact good_of one_good
    · exact levK_good r (fun o ho => h o (by simp [ho])) t e
theorem levH_good : levH.all goodB = true := by decide +kernel
theorem levH_apart : Apart levH := by
  have h1 : fusesT [102] [40] = false := by decide +kernel
  have h2 : fusesT [40] [41] = false := by decide +kernel
  have h3 : fusesT [41] [58] = false := by decide +kernel
  refine ⟨fun e => ?_, fun e => ?_, fun e => ?_, fun _ => h1, fun _ => h2, fun _ => h3, fun e => ?_, fun e => ?_, fun e => ?_, trivial⟩ <;> exact absurd e (by decide)
theorem lev_scan {os : List Nat} (h : ∀ o, o ∈ os → o < 5) (hl : os.length ≤ 30) : scan (levHS ++ levS os) = ⟨levH ++ levK os, [], 0, 0⟩ := by
  rw [← lev_src]
  refine scan_again ?_ (apart_app _ _ levH_apart (fun t ht => by rw [lev_leads os t ht]; decide)) rfl ?_
  · intro t ht
    rcases List.mem_append.1 ht with e | e
    · exact good_of (List.all_eq_true.1 levH_good t e)
    · exact levK_good os h t e
  · rw [lev_src]; have := levS_len os; simp only [List.length_append, levHS, List.length_cons, List.length_nil]; omega
def oneT : Tree := .node 10 [49] [[32]] []
def nilT : Tree := .node 10 [48] [[32]] []
def levT : Tree → List Nat → Tree
  | t, [] => t
  | t, o :: r => levT (.node 21 (opT o) [[32]] [t, oneT]) r
theorem levT_snoc : ∀ (a : List Nat) (o : Nat) (t : Tree), levT t (a ++ [o]) = .node 21 (opT o) [[32]] [levT t a, oneT]
  | [], o, t => rfl
  | p :: r, o, t => by simp only [List.cons_append, levT]; exact levT_snoc r o _
theorem levT_depth : ∀ (os : List Nat) (t : Tree), 0 < depthT t → depthT (levT t os) ≤ depthT t + os.length
  | [], t, _ => by simp [levT]
  | o :: r, t, h => by
    have h1 := levT_depth r (.node 21 (opT o) [[32]] [t, oneT]) (by simp only [depthT]; omega)
    have h2 : depthT (.node 21 (opT o) [[32]] [t, oneT]) ≤ depthT t + 1 := by
      have : depthT oneT = 1 := rfl
      simp only [depthT, depthsT, this]; omega
    simp only [levT, List.length_cons]; omega
def levTree (os : List Nat) : Tree := .node 1 [77] [[], [32], []] [.node 2 [102] [[32], [32], [], [], [], [32]] [.node 5 [] [[32]] [], levT nilT os]]
theorem hit {x : List UInt8} {s : PS} {t : Tok} {r : List Tok} (e : s.toks = t :: r) (h : t.text = x) : pWord x s = (t.lead, pTake s) := by
  unfold pWord; rw [next_cons e, if_pos h]
theorem nm {k o : Int} {s : PS} {t : Tok} {r : List Tok} (e : s.toks = t :: r) (hk : t.kind = k) (h0 : t.kind ≠ 0) : pName k o s = (t.text, t.lead, pTake s) := by
  unfold pName; rw [next_cons e, if_neg (by rintro (h | h); exact h0 h; exact h.1 hk)]
theorem unit_num {E : PS → Tree × PS} {s : PS} {x l : List UInt8} {r : List Tok} (e : s.toks = ⟨5, l, x⟩ :: r) (h1 : x ≠ wTrue) (h2 : x ≠ wFalse) (h3 : x ≠ [63]) (h4 : x ≠ [91]) (h5 : x ≠ [40]) : unitF E s = (.node 10 x [l] [], pTake s) := by
  unfold unitF
  simp only [next_cons e]
  rw [if_neg (by decide), if_neg h1, if_neg h2, if_neg h3, if_neg h4, if_neg h5]
  rfl
theorem op_oper : ∀ o, operB (opT o) = true
  | 0 => rfl
  | 1 => rfl
  | 2 => rfl
  | 3 => rfl
  | _ + 4 => rfl
theorem bin_lev {E : PS → Tree × PS} : ∀ (os : List Nat) (m : Nat) (t : Tree) (s : PS), s.toks = levK os → os.length < m → ∃ s', binF (unitF E) m t s = (levT t os, s') ∧ s'.toks = [] ∧ s'.failed = s.failed
  | os, 0, t, s, _, hm => by omega
  | [], m + 1, t, s, e, hm => by
    rw [binF, if_neg (by unfold pNext; rw [e]; decide)]
    exact ⟨s, rfl, e, rfl⟩
  | o :: r, m + 1, t, s, e, hm => by
    simp only [levK] at e
    have e1 := pTake_toks e
    have e2 := pTake_toks e1
    rw [binF, next_cons e, if_pos (op_oper o), unit_num e1 (by decide) (by decide) (by decide) (by decide) (by decide)]
    obtain ⟨s', h1, h2, h3⟩ := bin_lev r m (.node 21 (opT o) [[32]] [t, oneT]) (pTake (pTake s)) e2 (by simp at hm; omega)
    exact ⟨s', h1, h2, by rw [h3, pTake_failed, pTake_failed]⟩
theorem expr_lev {n : Nat} {os : List Nat} {s : PS} (e : s.toks = ⟨5, [32], [48]⟩ :: levK os) : ∃ s', exprT (n + 1) s = (levT nilT os, s') ∧ s'.toks = [] ∧ s'.failed = s.failed := by
  have e1 := pTake_toks e
  rw [exprT]
  unfold exprF
  rw [next_cons e, if_neg (by decide), if_neg (by decide), unit_num e (by decide) (by decide) (by decide) (by decide) (by decide)]
  simp only [e1]
  have hl : ∀ os : List Nat, (levK os).length = 2 * os.length := by
    intro os
    induction os with
    | nil => rfl
    | cons o r ih => simp only [levK, List.length_cons, ih]; omega
  obtain ⟨s', h1, h2, h3⟩ := bin_lev (E := exprT n) os ((levK os).length + 1) nilT (pTake s) e1 (by rw [hl]; omega)
  exact ⟨s', h1, h2, by rw [h3, pTake_failed]⟩
theorem file_lev {n : Nat} {os : List Nat} {s : PS} (e : s.toks = levH ++ levK os) : ∃ s', fileT (n + 1) s = (levTree os, s') ∧ s'.failed = s.failed := by
  have e0 : s.toks = ⟨7, [], [109, 111, 100, 117, 108, 101]⟩ :: ⟨2, [32], [77]⟩ :: ⟨7, [32], [100, 101, 102]⟩ :: ⟨1, [32], [102]⟩ :: ⟨8, [], [40]⟩ :: ⟨8, [], [41]⟩ :: ⟨8, [], [58]⟩ :: ⟨7, [32], [73, 110, 116]⟩ :: ⟨8, [32], [61]⟩ :: ⟨5, [32], [48]⟩ :: levK os := e
  have e1 := pTake_toks e0
  have e2 := pTake_toks e1
  have e3 := pTake_toks e2
  have e4 := pTake_toks e3
  have e5 := pTake_toks e4
  have e6 := pTake_toks e5
  have e7 := pTake_toks e6
  have e8 := pTake_toks e7
  have e9 := pTake_toks e8
  obtain ⟨s', h1, h2, h3⟩ := expr_lev (n := n) e9
  have hrow : rowF (paramT (n + 1)) 8 (fun t => t.kind == 1) (pTake (pTake (pTake (pTake (pTake s))))) = ([], [], pTake (pTake (pTake (pTake (pTake s))))) := by
    unfold rowF; rw [next_cons e5, if_pos rfl]
  have htyp : typT (n + 1) (pTake (pTake (pTake (pTake (pTake (pTake (pTake s))))))) = (.node 5 [] [[32]] [], pTake (pTake (pTake (pTake (pTake (pTake (pTake (pTake s)))))))) := by
    rw [typT, next_cons e7, if_pos (show ([73, 110, 116] : List UInt8) = wInt from rfl)]
  have hfun : functionT (n + 1) (pTake (pTake s)) = (.node 2 [102] [[32], [32], [], [], [], [32]] [.node 5 [] [[32]] [], levT nilT os], s') := by
    unfold functionT
    simp only [hit e2 (x := wDef) rfl, nm e3 (k := 1) (o := 1) rfl (by decide), hit e4 (x := [40]) rfl, hrow, hit e5 (x := [41]) rfl, hit e6 (x := [58]) rfl, htyp, hit e8 (x := [61]) rfl, h1, List.append_nil, List.nil_append]
  refine ⟨s', ?_, by rw [h3]; simp only [pTake_failed]⟩
  unfold fileT
  simp only [hit e0 (x := wModule) rfl, nm e1 (k := 2) (o := 2) rfl (by decide)]
  rw [defsT, if_neg (by rw [e2]; simp), if_neg (by rw [next_cons e2]; decide), if_neg (by decide), if_pos (by rw [next_cons e2]; rfl), hfun]
  rw [defsT, if_pos h2]
  rfl
theorem lev_parse {os : List Nat} (h : ∀ o, o ∈ os → o < 5) (hl : os.length ≤ 30) : parseT (levHS ++ levS os) = (levTree os, 0, 0) := by
  unfold parseT
  simp only [lev_scan h hl]
  obtain ⟨s', h1, h2⟩ := file_lev (n := (levH ++ levK os).length) (s := startT (levH ++ levK os) (levHS ++ levS os).length) rfl
  rw [if_neg (by decide), h1, if_neg (by rw [h2]; exact fun h => h rfl)]
  have hd := levT_depth os nilT (by decide)
  have hd1 : depthT nilT = 1 := rfl
  rw [if_neg (by simp only [levTree, depthT, depthsT]; omega)]
  rfl
end Go.Proofs.Ythpjpngfghcmcaa
namespace Go.Proofs.Ythpjpngfghcmcaa
open Go.RowKit Lx Sx
set_option maxRecDepth 100000
set_option maxHeartbeats 4000000
theorem ex_indexA {P : Program} {a : Act} {w : World} {n : Nat} {f : Nat → Option Value} {ty t e : TypeId} {x y : Operand} {b o m sz r : Nat} {i : Int} {k : Nat} (h : Fr a n f) (ht : P.underlying t = some (.array m e)) (hz : (P.info? e).map (·.size) = some sz) (hx : valF f x = some (.pointer (some ⟨b, o, none⟩))) (hy : valF f y = some (.int .i64 i))
    (hk : i = (k : Int)) (hlt : k < m) (hr : o + k * sz = r) : Runs P a ty (.indexAddr t x y) w (.value (.pointer (some ⟨b, r, none⟩))) w := fun _ _ _ _ => by
  obtain ⟨i0, hi, hs⟩ := Option.map_eq_some_iff.1 hz
  subst hk hs hr
  simp only [execOp, h.eval hx, h.eval hy]
  simp [Instr.indexAt, asIntOf, run_underlying ht, Instr.sureAddr, sizeOf, typeInfo, hi, hlt, addr_add]
def opC : List Value := [strV [43], strV [45], strV [42], strV [60], strV [61, 61]]
theorem opC_at : ∀ o, o < 5 → opC[o]? = some (strV (opT o))
  | 0, _ => rfl
  | 1, _ => rfl
  | 2, _ => rfl
  | 3, _ => rfl
  | 4, _ => rfl
  | n + 5, h => by omega
def opsOf (zs : List Int) : List Nat := zs.map fun z => (z % 5).toNat
theorem opsOf_lt (zs : List Int) : ∀ o, o ∈ opsOf zs → o < 5 := by
  intro o ho
  obtain ⟨z, _, rfl⟩ := List.mem_map.1 ho
  have h1 := Int.emod_nonneg z (by decide : (5 : Int) ≠ 0)
  have h2 := Int.emod_lt_of_pos z (by decide : (0 : Int) < 5)
  omega
theorem opsOf_at {zs : List Int} {i : Nat} (h : i < zs.length) : ∃ o, (opsOf zs)[i]? = some o ∧ o < 5 ∧ zs[i] % 5 = (o : Int) := by
  have h1 := Int.emod_nonneg zs[i] (by decide : (5 : Int) ≠ 0)
  refine ⟨(zs[i] % 5).toNat, ?_, ?_, by omega⟩
  · simp [opsOf, h]
  · have h2 := Int.emod_lt_of_pos zs[i] (by decide : (0 : Int) < 5); omega
theorem take_at {α : Type} {l : List α} {i : Nat} {x : α} (h : l[i]? = some x) : l.take (i + 1) = l.take i ++ [x] := by
  obtain ⟨hi, rfl⟩ := List.getElem?_eq_some_iff.1 h
  exact List.take_succ_eq_append_getElem hi
theorem modV2 {z q : Int} {w : World} (hq : z % 5 = q) : Calls Try.prog 20 [.int .i64 z, .int .i64 5].toArray w fun e w' => e = .returned (.int .i64 q) ∧ Chg [] w w' := calls_eq (modV hq (by decide) (by decide))
theorem bin_cells {S : Nat → Prop} {w : World} {o : Nat} {t : Tree} {c0 c1 c2 c3 : Value} (h : TreeIs S w (.node 21 (opT o) [[32]] [t, oneT]) [c0, c1, c2, c3]) : ∃ A m kb ko n d0 d1 d2 d3, c0 = .int .i64 21 ∧ c1 = strV (opT o) ∧ c2 = .slice A 1 m ∧ c3 = .slice (some ⟨kb, ko, none⟩) 2 n ∧ kb < w.heap.size ∧ S kb ∧ TreeIs S w t [d0, d1, d2, d3] ∧ (∀ j, j < 4 → w.cell? ⟨kb, ko + j, none⟩ = ([d0, d1, d2, d3] : List Value)[j]?) ∧ w.cell? ⟨kb, ko + 4, none⟩ = some (.int .i64 10) ∧ w.cell? ⟨kb, ko + 4 + 1, none⟩ = some (strV [49]) := by
  simp only [TreeIs] at h
  obtain ⟨A, m, B, n, hc, _, _, _, _, _, cs, hK, hR⟩ := h
  simp only [List.cons.injEq, and_true] at hc
  obtain ⟨rfl, rfl, rfl, rfl⟩ := hc
  obtain ⟨kb, ko, rfl, hS, hkb, hcell⟩ := hR.2 (by simp)
  obtain ⟨d0, d1, d2, d3, hT0, g0, g1, g2, g3⟩ := hK.at_ (i := 0) (by simp)
  obtain ⟨e0, e1, e2, e3, hT1, k0, k1, _, _⟩ := hK.at_ (i := 1) (by simp)
  obtain ⟨A3, m3, B3, n3, e4⟩ := hT1.cells
  simp only [List.cons.injEq, and_true, List.getElem_cons_succ, List.getElem_cons_zero] at e4
  refine ⟨A, m, kb, ko, n, d0, d1, d2, d3, rfl, rfl, rfl, rfl, hkb, hS, hT0, fun j hj => ?_, ?_, ?_⟩
  · rw [hcell j (by simp; omega)]
    rcases (by omega : j = 0 ∨ j = 1 ∨ j = 2 ∨ j = 3) with rfl | rfl | rfl | rfl
    · exact g0
    · exact g1
    · exact g2
    · exact g3
  · rw [hcell 4 (by simp), show cs[4]? = some e0 from k0, e4.1]; rfl
  · rw [Nat.add_assoc, hcell 5 (by simp), show cs[5]? = some e1 from k1, e4.2.1]; rfl
theorem levP {os : List Nat} {w : World} (h : ∀ o, o ∈ os → o < 5) (hl : os.length ≤ 30) : Calls Try.prog 12 [strV (levHS ++ levS os)].toArray w fun r w' => ∃ A m kb ko n fb fo fn d0 d1 d2 d3, r = .returned (.tuple #[.agg #[.int .i64 1, strV [77], .slice A 3 m, .slice (some ⟨kb, ko, none⟩) 1 n], .int .i64 0, .int .i64 0]) ∧ kb < w'.heap.size ∧ fb < w'.heap.size ∧
    w'.cell? ⟨kb, ko + 3, none⟩ = some (.slice (some ⟨fb, fo, none⟩) 2 fn) ∧ (∀ j, j < 4 → w'.cell? ⟨fb, fo + 4 + j, none⟩ = ([d0, d1, d2, d3] : List Value)[j]?) ∧ TreeIs (fun b => w.heap.size ≤ b) w' (levT nilT os) [d0, d1, d2, d3] ∧ Chg [] w w' := by
  have hle := levS_len os
  refine (parseL (l := levHS ++ levS os) (w := w) (by simp only [List.length_append, levHS, List.length_cons, List.length_nil]; omega)).mono ?_
  rintro r w' ⟨c0, c1, c2, c3, rfl, hT, hx⟩
  rw [lev_parse h hl] at hT ⊢
  simp only [levTree, TreeIs] at hT
  obtain ⟨A, m, B, n, hc, _, _, _, _, _, cs, hK, hR⟩ := hT
  simp only [List.cons.injEq, and_true] at hc
  obtain ⟨rfl, rfl, rfl, rfl⟩ := hc
  obtain ⟨kb, ko, rfl, hS, hkb, hcell⟩ := hR.2 (by simp)
  obtain ⟨e0, e1, e2, e3, hT0, _, _, _, g3⟩ := hK.at_ (i := 0) (by simp)
  simp only [List.getElem_cons_zero, TreeIs] at hT0
  obtain ⟨A2, m2, B2, n2, hc2, _, _, _, _, _, cs2, hK2, hR2⟩ := hT0
  simp only [List.cons.injEq, and_true] at hc2
  obtain ⟨rfl, rfl, rfl, rfl⟩ := hc2
  obtain ⟨fb, fo, rfl, hS2, hfb, hcell2⟩ := hR2.2 (by simp)
  obtain ⟨d0, d1, d2, d3, hT1, k0, k1, k2, k3⟩ := hK2.at_ (i := 1) (by simp)
  refine ⟨A, m, kb, ko, n, fb, fo, n2, d0, d1, d2, d3, rfl, hkb, hfb, ?_, fun j hj => ?_, by simpa using hT1, hx⟩
  · rw [hcell 3 (by simp), show cs[3]? = some _ from g3]; rfl
  · rw [Nat.add_assoc, hcell2 (4 + j) (by simp; omega)]
    rcases (by omega : j = 0 ∨ j = 1 ∨ j = 2 ∨ j = 3) with rfl | rfl | rfl | rfl
    · exact k0
    · exact k1
    · exact k2
    · exact k3
theorem levelsW (zs : List Int) {A : Option Addr} {cp : Nat} (w : World) (hrow : RowIn Any w 1 A zs.length (zs.map fun z => .int .i64 z)) : Calls Try.prog 6 [.slice A zs.length cp].toArray w fun e w' => e = .returned (.bool true) ∧ Ext w w' := by
  refine enter_fr 122 Try.func6 rfl rfl rfl ?_
  intro a hf
  have hE := Chg.refl [] w
  refine wS fun K1 hK1 => ?_
  refine wR ?_
  refine sA hf rfl rfl ?_
  clear hf a; intro a hf
  refine sN ?_
  refine hK1 _ _ ?_
  refine wS fun K2 hK2 => ?_
  refine wS fun K3 hK3 => ?_
  refine wR ?_
  refine sM hf rfl rfl ?_
  clear hf a; intro a hf
  refine sV hf rfl (ex_len hf Try.underlying37 rfl) ?_
  clear hf a; intro a hf
  refine st_b hf rfl rfl (fun c hc => ex_gtI hf rfl rfl hc) ?_ ?_
  clear hf a; intro h13 a hf
  refine sN ?_
  refine hK3 _ _ ?_
  refine cT hf rfl ?_
  refine wS fun K4 hK4 => ?_
  refine wR ?_
  refine st_c hf rfl rfl rfl (by kernel_rfl) (awakeL) ?_
  rintro _ w6 ⟨rfl, hx5⟩
  refine ⟨_, rfl, ?_⟩
  clear hf a; intro a hf
  replace hE := hE.t0 hx5
  refine sA hf rfl rfl ?_
  clear hf a; intro a hf
  refine sN ?_
  refine hK4 _ _ ?_
  refine wp_ret ?_
  try simp only [Exit.then, Exit.inBlock]
  exact ret_of (rs := [.tmp 2]) hf rfl ⟨_, _, rfl, rfl, rfl⟩ ⟨rfl, hE.ext⟩
  clear hf a; intro h13 a hf
  have hz : zs.length ≤ 30 := by simp at h13; omega
  refine sN ?_
  refine hK3 _ _ ?_
  refine cF hf rfl ?_
  refine wp_skip ?_
  refine hK2 _ _ ?_
  refine wS fun K7 hK7 => ?_
  refine wR ?_
  refine sV hf rfl (ex_build (ps := [(0, (.const (.string ⟨#[43]⟩))), (1, (.const (.string ⟨#[45]⟩))), (2, (.const (.string ⟨#[42]⟩))), (3, (.const (.string ⟨#[60]⟩))), (4, (.const (.string ⟨#[61, 61]⟩)))]) (v := .agg opC.toArray) hf rfl (fun w => by kernel_rfl)) ?_
  clear hf a; intro a hf
  obtain ⟨w8, b9, he, hB10, hx11, eb12, lb13⟩ := ef_alloc (P := Try.prog) (t := 38) [.string ⟨([] : List UInt8).toArray⟩, .string ⟨([] : List UInt8).toArray⟩, .string ⟨([] : List UInt8).toArray⟩, .string ⟨([] : List UInt8).toArray⟩, .string ⟨([] : List UInt8).toArray⟩] (by kernel_rfl) a w 0
  refine sV hf rfl he ?_
  clear he hf a; intro a hf
  have ge_b9 := ge_new hE eb12
  replace hE := hE.t0 hx11
  clear eb12 lb13
  obtain ⟨w14, he, hB15, hx16⟩ := ef_storeN (P := Try.prog) (t := 38) (x := (.tmp 3)) (y := (.tmp 15)) (m := 5) hf rfl rfl (by kernel_rfl) rfl rfl hB10 rfl 0
  refine st_s hf rfl rfl he ?_
  clear he hf a; intro a hf
  replace hE := hE.trans hx16 (allc (.inr ge_b9) all0)
  clear hB10
  refine sN ?_
  refine hK7 _ _ ?_
  refine wS fun K17 hK17 => ?_
  refine wR ?_
  refine sA hf rfl rfl ?_
  clear hf a; intro a hf
  refine sN ?_
  refine hK17 _ _ ?_
  refine wS fun K18 hK18 => ?_
  refine wS fun K19 hK19 => ?_
  refine wR ?_
  refine sA hf rfl rfl ?_
  clear hf a; intro a hf
  refine sN ?_
  refine hK19 _ _ ?_
  refine wp_block ?_
  refine wp_loop_ghost (fun g a w' => ∃ i : Nat, Fr a 122 (fm [(0, .slice A zs.length cp), (3, .pointer (some ⟨b9, 0, none⟩)), (4, strV (levHS ++ levS ((opsOf zs).take i))), (5, .int .i64 (i : Nat))]) ∧ Chg [] w w' ∧ Blk w' b9 38 opC ∧ i ≤ zs.length ∧ g = zs.length - i) _ ⟨0, hf.pick ⟨rfl, rfl, rfl, rfl, trivial⟩, hE, hB15, Nat.zero_le _, rfl⟩ ?_
  obtain ⟨b3, eb3⟩ : ∃ x, b9 = x := ⟨_, rfl⟩
  rw [eb3]
  have ge_b3 : w.heap.size ≤ b3 := eb3 ▸ ge_b9
  clear eb3 hf a
  intro g0 a w' hI
  obtain ⟨i, hf, hE, hB3, hi, rfl⟩ := hI
  have hsl := levS_len ((opsOf zs).take i)
  rw [List.length_take] at hsl
  have hhl : levHS.length = 25 := rfl
  have hol2 := opT_len
  by_cases hlt : i < zs.length
  obtain ⟨lb, lo, rfl, _, lt_lb, hcL⟩ := hrow.2 (by omega); have lt_lb0 := lt_lb
  obtain ⟨o, hoo, hol, hoz⟩ := opsOf_at hlt
  have hLi : w'.cell? ⟨lb, lo + i * 1, none⟩ = some (.int .i64 zs[i]) := by rw [hE.cell lt_lb nm0, Nat.mul_one, hcL i (by omega)]; simp [hlt]
  have lt_lb := hE.lt lt_lb
  have hop := opT_len o
  have hmn : min i (opsOf zs).length ≤ 30 := by omega
  refine wS fun K20 hK20 => ?_
  refine wS fun K21 hK21 => ?_
  refine wR ?_
  refine sM hf rfl rfl ?_
  clear hf a; intro a hf
  refine sM hf rfl rfl ?_
  clear hf a; intro a hf
  refine sV hf rfl (ex_len hf Try.underlying37 rfl) ?_
  clear hf a; intro a hf
  refine sV hf rfl (ex_ltI (c := true) hf rfl rfl (by simp <;> omega)) ?_
  clear hf a; intro a hf
  refine sN ?_
  refine hK21 _ _ ?_
  refine cT hf rfl ?_
  refine wp_skip ?_
  refine hK20 _ _ ?_
  refine wS fun K22 hK22 => ?_
  refine wp_block ?_
  refine wR ?_
  refine sM hf rfl rfl ?_
  clear hf a; intro a hf
  refine sV hf rfl (ex_addS hf rfl rfl (by (try simp only [List.length_append, List.length_cons, List.length_nil]); omega) rfl) ?_
  clear hf a; intro a hf
  refine sM hf rfl rfl ?_
  clear hf a; intro a hf
  refine sM hf rfl rfl ?_
  clear hf a; intro a hf
  refine sV hf rfl (ex_index (sz := 1) (k := i) (r := lo + i * 1) hf Try.underlying37 (by kernel_rfl) rfl rfl rfl hlt rfl) ?_
  clear hf a; intro a hf
  refine sV hf rfl (ex_load hf rfl (by kernel_rfl) hLi) ?_
  clear hf a; intro a hf
  refine st_c hf rfl rfl rfl (by kernel_rfl) (modV2 hoz) ?_
  rintro _ w24 ⟨rfl, hx23⟩
  refine ⟨_, rfl, ?_⟩
  clear hf a; intro a hf
  replace hB3 := hB3.c0 hx23
  replace hLi := (hx23.cell lt_lb nm0).trans hLi
  replace lt_lb := hx23.lt lt_lb
  replace hE := hE.t0 hx23
  refine sV hf rfl (ex_indexA (sz := 1) (k := o) (r := o) hf Try.underlying38 (by kernel_rfl) rfl rfl rfl hol (by omega)) ?_
  clear hf a; intro a hf
  refine sV hf rfl (ex_loadB hf rfl (by kernel_rfl) hB3 (opC_at o hol)) ?_
  clear hf a; intro a hf
  refine sV hf rfl (ex_addS hf rfl rfl (by (try simp only [List.length_append, List.length_cons, List.length_nil]); omega) rfl) ?_
  clear hf a; intro a hf
  refine sV hf rfl (ex_addS hf rfl rfl (by (try simp only [List.length_append, List.length_cons, List.length_nil]); omega) rfl) ?_
  clear hf a; intro a hf
  refine sA hf rfl rfl ?_
  clear hf a; intro a hf
  refine sN ?_
  refine hK22 _ _ ?_
  refine wR ?_
  refine sM hf rfl rfl ?_
  clear hf a; intro a hf
  refine sV hf rfl (ex_addI hf rfl rfl rfl (by omega)) ?_
  clear hf a; intro a hf
  refine sA hf rfl rfl ?_
  clear hf a; intro a hf
  refine sN ?_
  have hsn : levHS ++ levS ((opsOf zs).take (i + 1)) = levHS ++ levS ((opsOf zs).take i) ++ [32] ++ opT o ++ [32, 49] := by rw [take_at hoo, levS_snoc]; simp
  exact ⟨_, (by omega : zs.length - (i + 1) < zs.length - i), i + 1, by rw [hsn]; exact hf.pick ⟨rfl, rfl, rfl, rfl, trivial⟩, hE, hB3, by omega, rfl⟩
  have hal : (opsOf zs).take i = opsOf zs := List.take_of_length_le (by simp [opsOf]; omega)
  rw [hal] at hf
  clear hsl
  refine wS fun K25 hK25 => ?_
  refine wS fun K26 hK26 => ?_
  refine wR ?_
  refine sM hf rfl rfl ?_
  clear hf a; intro a hf
  refine sM hf rfl rfl ?_
  clear hf a; intro a hf
  refine sV hf rfl (ex_len hf Try.underlying37 rfl) ?_
  clear hf a; intro a hf
  refine sV hf rfl (ex_ltI (c := false) hf rfl rfl (by simp <;> omega)) ?_
  clear hf a; intro a hf
  refine sN ?_
  refine hK26 _ _ ?_
  refine cF hf rfl ?_
  refine wp_exit ?_
  simp only [Exit.then, Exit.inBlock, ↓reduceIte, Nat.reduceEqDiff]
  refine hK18 _ _ ?_
  refine wS fun K27 hK27 => ?_
  refine wR ?_
  refine sM hf rfl rfl ?_
  clear hf a; intro a hf
  refine st_c hf rfl rfl rfl (by kernel_rfl) (levP (os := opsOf zs) (opsOf_lt zs) (by simp [opsOf]; omega)) ?_
  rintro _ w29 ⟨A1, m1, kb, ko, n1, fb, fo, fn, d0, d1, d2, d3, rfl, lt_kb, lt_fb, hQ3, hF4, hT, hx28⟩
  refine ⟨_, rfl, ?_⟩
  clear hf a; intro a hf
  have on_T := hT.one
  obtain ⟨lo30, elo30⟩ : ∃ x, x = w'.heap.size := ⟨_, rfl⟩
  obtain ⟨hi30, ehi30⟩ : ∃ x, x = w29.heap.size := ⟨_, rfl⟩
  replace hT := hT.within elo30 ehi30
  have hle30 : hi30 ≤ w29.heap.size := Nat.le_of_eq ehi30
  have ge_lo30 : w.heap.size ≤ lo30 := elo30 ▸ hE.size
  have tb_lo30_b3 : b3 < lo30 := elo30 ▸ hB3.lt
  clear elo30 ehi30
  replace hB3 := hB3.c0 hx28
  replace hE := hE.t0 hx28
  refine sM hf rfl rfl ?_
  clear hf a; intro a hf
  refine sV hf rfl (ex_extract hf rfl rfl) ?_
  clear hf a; intro a hf
  refine sV hf rfl (ex_extract hf rfl rfl) ?_
  clear hf a; intro a hf
  refine sV hf rfl (ex_extract hf rfl rfl) ?_
  clear hf a; intro a hf
  obtain ⟨w31, b32, he, hB33, hx34, eb35, lb36⟩ := eT a w29 0
  refine sV hf rfl he ?_
  clear he hf a; intro a hf
  have ne_b3_b32 : b3 ≠ b32 := ne_new hB3.lt eb35
  have ne_kb_b32 : kb ≠ b32 := ne_new lt_kb eb35
  have ne_fb_b32 : fb ≠ b32 := ne_new lt_fb eb35
  have ta_hi30_b32 : hi30 ≤ b32 := eb35 ▸ hle30
  have ge_b32 := ge_new hE eb35
  replace hB3 := hB3.c0 hx34
  replace hT := hT.chg hx34 (fun b hb _ => nm0)
  replace hle30 := nlt hle30 hx34.size
  replace hQ3 := (hx34.cell lt_kb nm0).trans hQ3
  replace lt_kb := hx34.lt lt_kb
  replace hF4 := fun j hj => (hx34.cell lt_fb nm0).trans (hF4 j hj)
  replace lt_fb := hx34.lt lt_fb
  replace hE := hE.t0 hx34
  clear eb35 lb36
  obtain ⟨w37, he, hB38, hx39⟩ := eN (.tmp 6) (.tmp 36) hf rfl rfl rfl rfl hB33 rfl 0
  refine st_s hf rfl rfl he ?_
  clear he hf a; intro a hf
  replace hB3 := hB3.chg hx39 (nmc ne_b3_b32 nm0)
  replace hT := hT.chg hx39 (fun b hb _ => (nmc (by omega) nm0))
  replace hle30 := nlt hle30 hx39.size
  replace hQ3 := (hx39.cell lt_kb (nmc ne_kb_b32 nm0)).trans hQ3
  replace lt_kb := hx39.lt lt_kb
  replace hF4 := fun j hj => (hx39.cell lt_fb (nmc ne_fb_b32 nm0)).trans (hF4 j hj)
  replace lt_fb := hx39.lt lt_fb
  replace hE := hE.trans hx39 (allc (.inr ge_b32) all0)
  clear hB33
  refine sA hf rfl rfl ?_
  clear hf a; intro a hf
  refine sA hf rfl rfl ?_
  clear hf a; intro a hf
  refine sN ?_
  refine hK27 _ _ ?_
  refine wS fun K40 hK40 => ?_
  refine wS fun K41 hK41 => ?_
  refine wR ?_
  refine sM hf rfl rfl ?_
  clear hf a; intro a hf
  refine sV hf rfl (ex_neI (c := false) hf rfl rfl (by decide)) ?_
  clear hf a; intro a hf
  refine sM hf rfl rfl ?_
  clear hf a; intro a hf
  refine sV hf rfl (ex_fa (k := 3) (r := 3) hf rfl (by kernel_rfl) rfl) ?_
  clear hf a; intro a hf
  refine sV hf rfl (ex_loadB hf rfl (by kernel_rfl) hB38 rfl) ?_
  clear hf a; intro a hf
  refine sV hf rfl (ex_len hf Try.underlying24 rfl) ?_
  clear hf a; intro a hf
  refine sV hf rfl (ex_neI (c := false) hf rfl rfl (by decide)) ?_
  clear hf a; intro a hf
  refine sV hf rfl (ex_pickF hf rfl rfl) ?_
  clear hf a; intro a hf
  refine sM hf rfl rfl ?_
  clear hf a; intro a hf
  refine sV hf rfl (ex_fa (k := 3) (r := 3) hf rfl (by kernel_rfl) rfl) ?_
  clear hf a; intro a hf
  refine sV hf rfl (ex_loadB hf rfl (by kernel_rfl) hB38 rfl) ?_
  clear hf a; intro a hf
  refine sV hf rfl (ex_index (sz := 4) (k := 0) (r := ko) hf Try.underlying24 (by kernel_rfl) rfl rfl rfl (by first | decide | simp) rfl) ?_
  clear hf a; intro a hf
  refine sV hf rfl (ex_fa (k := 3) (r := ko + 3) hf rfl (by kernel_rfl) rfl) ?_
  clear hf a; intro a hf
  refine sV hf rfl (ex_load hf rfl (by kernel_rfl) hQ3) ?_
  clear hf a; intro a hf
  refine sV hf rfl (ex_len hf Try.underlying24 rfl) ?_
  clear hf a; intro a hf
  refine sV hf rfl (ex_neI (c := false) hf rfl rfl (by decide)) ?_
  clear hf a; intro a hf
  refine sV hf rfl (ex_pickF hf rfl rfl) ?_
  clear hf a; intro a hf
  refine sN ?_
  refine hK41 _ _ ?_
  refine cF hf rfl ?_
  refine wp_skip ?_
  refine hK40 _ _ ?_
  refine wS fun K42 hK42 => ?_
  refine wR ?_
  refine sV hf rfl (ex_fa (k := 3) (r := 3) hf rfl (by kernel_rfl) rfl) ?_
  clear hf a; intro a hf
  refine sV hf rfl (ex_loadB hf rfl (by kernel_rfl) hB38 rfl) ?_
  clear hf a; intro a hf
  refine sV hf rfl (ex_index (sz := 4) (k := 0) (r := ko) hf Try.underlying24 (by kernel_rfl) rfl rfl rfl (by first | decide | simp) rfl) ?_
  clear hf a; intro a hf
  refine sV hf rfl (ex_fa (k := 3) (r := ko + 3) hf rfl (by kernel_rfl) rfl) ?_
  clear hf a; intro a hf
  refine sV hf rfl (ex_load hf rfl (by kernel_rfl) hQ3) ?_
  clear hf a; intro a hf
  refine sV hf rfl (ex_index (sz := 4) (k := 1) (r := fo + 4) hf Try.underlying24 (by kernel_rfl) rfl rfl rfl (by first | decide | simp) rfl) ?_
  clear hf a; intro a hf
  refine sV hf rfl (ex_loadN (cs := [d0, d1, d2, d3]) (m := 4) hf rfl (by kernel_rfl) rfl hF4) ?_
  clear hf a; intro a hf
  obtain ⟨w43, b44, he, hB45, hx46, eb47, lb48⟩ := eT a w37 0
  refine sV hf rfl he ?_
  clear he hf a; intro a hf
  have ne_b3_b44 : b3 ≠ b44 := ne_new hB3.lt eb47
  have ne_b32_b44 : b32 ≠ b44 := ne_new hB38.lt eb47
  have ne_kb_b44 : kb ≠ b44 := ne_new lt_kb eb47
  have ne_fb_b44 : fb ≠ b44 := ne_new lt_fb eb47
  have ta_hi30_b44 : hi30 ≤ b44 := eb47 ▸ hle30
  have ge_b44 := ge_new hE eb47
  replace hB3 := hB3.c0 hx46
  replace hB38 := hB38.c0 hx46
  replace hT := hT.chg hx46 (fun b hb _ => nm0)
  replace hle30 := nlt hle30 hx46.size
  replace hQ3 := (hx46.cell lt_kb nm0).trans hQ3
  replace lt_kb := hx46.lt lt_kb
  replace hF4 := fun j hj => (hx46.cell lt_fb nm0).trans (hF4 j hj)
  replace lt_fb := hx46.lt lt_fb
  replace hE := hE.t0 hx46
  clear eb47 lb48
  obtain ⟨w49, he, hB50, hx51⟩ := eN (.tmp 9) (.tmp 62) hf rfl rfl rfl on_T hB45 rfl 0
  refine st_s hf rfl rfl he ?_
  clear he hf a; intro a hf
  replace hB3 := hB3.chg hx51 (nmc ne_b3_b44 nm0)
  replace hB38 := hB38.chg hx51 (nmc ne_b32_b44 nm0)
  replace hT := hT.chg hx51 (fun b hb _ => (nmc (by omega) nm0))
  replace hle30 := nlt hle30 hx51.size
  replace hQ3 := (hx51.cell lt_kb (nmc ne_kb_b44 nm0)).trans hQ3
  replace lt_kb := hx51.lt lt_kb
  replace hF4 := fun j hj => (hx51.cell lt_fb (nmc ne_fb_b44 nm0)).trans (hF4 j hj)
  replace lt_fb := hx51.lt lt_fb
  replace hE := hE.trans hx51 (allc (.inr ge_b44) all0)
  clear hB45
  refine sN ?_
  refine hK42 _ _ ?_
  refine wS fun K52 hK52 => ?_
  refine wS fun K53 hK53 => ?_
  refine wR ?_
  refine sM hf rfl rfl ?_
  clear hf a; intro a hf
  refine sV hf rfl (ex_len hf Try.underlying37 rfl) ?_
  clear hf a; intro a hf
  refine sV hf rfl (ex_subI hf rfl rfl rfl (by omega)) ?_
  clear hf a; intro a hf
  refine sA hf rfl rfl ?_
  clear hf a; intro a hf
  refine sN ?_
  refine hK53 _ _ ?_
  refine wp_block ?_
  have hZ : (opsOf zs).length = zs.length := by simp [opsOf]
  refine wp_loop_ghost (fun g a w' => ∃ (i : Nat) (d0 d1 d2 d3 : Value), Fr a 122 (fm [(0, .slice A zs.length cp), (3, .pointer (some ⟨b3, 0, none⟩)), (9, .pointer (some ⟨b44, 0, none⟩)), (10, .int .i64 ((i : Nat) - 1))]) ∧ Chg [] w w' ∧ Blk w' b3 38 opC ∧ Blk w' b44 26 [d0, d1, d2, d3] ∧ TreeIs (fun b => lo30 ≤ b ∧ b < hi30) w' (levT nilT ((opsOf zs).take i)) [d0, d1, d2, d3] ∧ i ≤ zs.length ∧ g = i) _ ⟨zs.length, d0, d1, d2, d3, hf.pick ⟨rfl, rfl, rfl, rfl, trivial⟩, hE, hB3, hB50, by rw [← hZ, List.take_length]; exact hT, Nat.le_refl _, rfl⟩ ?_
  obtain ⟨b9, eb9⟩ : ∃ x, b44 = x := ⟨_, rfl⟩
  rw [eb9]
  have ge_b9 : w.heap.size ≤ b9 := eb9 ▸ ge_b44
  have ta_b9 : hi30 ≤ b9 := eb9 ▸ ta_hi30_b44
  have ne_b3_b9 : b3 ≠ b9 := eb9 ▸ ne_b3_b44
  clear eb9 hf a hT
  intro g0 a w' hI
  obtain ⟨q, d0, d1, d2, d3, hf, hE, hB3, hB9, hT, hi, hgq⟩ := hI
  subst hgq
  by_cases hp : 0 < g0
  obtain ⟨i, rfl⟩ : ∃ i, g0 = i + 1 := ⟨g0 - 1, by omega⟩
  have hlt : i < zs.length := by omega
  obtain ⟨lb, lo, rfl, _, lt_lb, hcL⟩ := hrow.2 (by omega); have lt_lb0 := lt_lb
  obtain ⟨o, hoo, hol, hoz⟩ := opsOf_at hlt
  have hLi : w'.cell? ⟨lb, lo + i * 1, none⟩ = some (.int .i64 zs[i]) := by rw [hE.cell lt_lb nm0, Nat.mul_one, hcL i (by omega)]; simp [hlt]
  have lt_lb := hE.lt lt_lb
  rw [take_at hoo, levT_snoc] at hT
  obtain ⟨A5, m5, kb, ko, n5, e0, e1, e2, e3, rfl, rfl, rfl, rfl, lt_kb, hSk, hT, hF4, hQ0, hQ1⟩ := bin_cells hT
  have on_T := hT.one
  have ne_kb_b9 : kb ≠ b9 := by omega
  have lt_kb2 := lt_kb
  have lt_kb3 := lt_kb
  have ne_lb_b9 : lb ≠ b9 := by have := lt_lb0; omega
  refine wS fun K54 hK54 => ?_
  refine wS fun K55 hK55 => ?_
  refine wR ?_
  refine sM hf rfl rfl ?_
  clear hf a; intro a hf
  refine sV hf rfl (ex_geI (c := true) hf rfl rfl (by simp <;> omega)) ?_
  clear hf a; intro a hf
  refine sN ?_
  refine hK55 _ _ ?_
  refine cT hf rfl ?_
  refine wp_skip ?_
  refine hK54 _ _ ?_
  refine wS fun K56 hK56 => ?_
  refine wp_block ?_
  refine wS fun K57 hK57 => ?_
  refine wS fun K58 hK58 => ?_
  have s_hLi := hLi
  have s_hQ0 := hQ0
  have s_hQ1 := hQ1
  have s_hB3 := hB3
  have s_hB9 := hB9
  refine dl_start (fun x => x.cell? ⟨b9, 0, none⟩ = w'.cell? ⟨b9, 0, none⟩ ∧ x.cell? ⟨b9, 1, none⟩ = w'.cell? ⟨b9, 1, none⟩ ∧ x.cell? ⟨lb, lo + i * 1, none⟩ = w'.cell? ⟨lb, lo + i * 1, none⟩ ∧ x.cell? ⟨b3, o, none⟩ = w'.cell? ⟨b3, o, none⟩ ∧ x.cell? ⟨b9, 3, none⟩ = w'.cell? ⟨b9, 3, none⟩ ∧ x.cell? ⟨kb, ko + 4, none⟩ = w'.cell? ⟨kb, ko + 4, none⟩ ∧ x.cell? ⟨kb, ko + 4 + 1, none⟩ = w'.cell? ⟨kb, ko + 4 + 1, none⟩) 37 37 rfl (by kernel_rfl) (by kernel_rfl) ?_
  intro w59 hx60 hsel
  replace hB3 := hB3.c0 hx60
  replace hB9 := hB9.c0 hx60
  replace hLi := (hx60.cell lt_lb nm0).trans hLi
  replace lt_lb := hx60.lt lt_lb
  replace hQ0 := (hx60.cell lt_kb nm0).trans hQ0
  replace lt_kb := hx60.lt lt_kb
  replace hQ1 := (hx60.cell lt_kb2 nm0).trans hQ1
  replace lt_kb2 := hx60.lt lt_kb2
  replace hF4 := fun j hj => (hx60.cell lt_kb3 nm0).trans (hF4 j hj)
  replace lt_kb3 := hx60.lt lt_kb3
  replace hT := hT.chg hx60 (fun b hb _ => nm0)
  replace hE := hE.t0 hx60
  have hS0 : w59.cell? ⟨b9, 0, none⟩ = w'.cell? ⟨b9, 0, none⟩ ∧ w59.cell? ⟨b9, 1, none⟩ = w'.cell? ⟨b9, 1, none⟩ ∧ w59.cell? ⟨lb, lo + i * 1, none⟩ = w'.cell? ⟨lb, lo + i * 1, none⟩ ∧ w59.cell? ⟨b3, o, none⟩ = w'.cell? ⟨b3, o, none⟩ ∧ w59.cell? ⟨b9, 3, none⟩ = w'.cell? ⟨b9, 3, none⟩ ∧ w59.cell? ⟨kb, ko + 4, none⟩ = w'.cell? ⟨kb, ko + 4, none⟩ ∧ w59.cell? ⟨kb, ko + 4 + 1, none⟩ = w'.cell? ⟨kb, ko + 4 + 1, none⟩ := ⟨(hB9.cell 0).trans (s_hB9.cell 0).symm, (hB9.cell 1).trans (s_hB9.cell 1).symm, (hLi.trans s_hLi.symm), (hB3.cell o).trans (s_hB3.cell o).symm, (hB9.cell 3).trans (s_hB9.cell 3).symm, (hQ0.trans s_hQ0.symm), (hQ1.trans s_hQ1.symm)⟩
  refine dV 0 rfl rfl hsel (by kernel_rfl) hf rfl (.inl hS0) (fun x => ex_fa (k := 0) (r := 0) hf rfl (by kernel_rfl) rfl) ?_
  clear hf a; intro a hf
  refine dL 1 rfl rfl hsel (by kernel_rfl) hf rfl hS0 (fun x hS => ex_load hf rfl (by kernel_rfl) (hS.1.trans ((s_hB9.cell 0).trans rfl))) ?_
  clear hf a; intro a hf
  refine dV 2 rfl rfl hsel (by kernel_rfl) hf rfl (.inl hS0) (fun x => ex_neI (c := false) hf rfl rfl (by decide)) ?_
  clear hf a; intro a hf
  refine dM 3 rfl rfl hsel (by kernel_rfl) hf rfl hS0 rfl ?_
  clear hf a; intro a hf
  refine dV 4 rfl rfl hsel (by kernel_rfl) hf rfl (.inl hS0) (fun x => ex_fa (k := 1) (r := 1) hf rfl (by kernel_rfl) rfl) ?_
  clear hf a; intro a hf
  refine dL 5 rfl rfl hsel (by kernel_rfl) hf rfl hS0 (fun x hS => ex_load hf rfl (by kernel_rfl) (hS.2.1.trans ((s_hB9.cell 1).trans rfl))) ?_
  clear hf a; intro a hf
  refine dM 6 rfl rfl hsel (by kernel_rfl) hf rfl hS0 rfl ?_
  clear hf a; intro a hf
  refine dM 7 rfl rfl hsel (by kernel_rfl) hf rfl hS0 rfl ?_
  clear hf a; intro a hf
  refine dV 8 rfl rfl hsel (by kernel_rfl) hf rfl (.inl hS0) (fun x => ex_index (sz := 1) (k := i) (r := lo + i * 1) hf Try.underlying37 (by kernel_rfl) rfl rfl (by omega) hlt rfl) ?_
  clear hf a; intro a hf
  refine dL 9 rfl rfl hsel (by kernel_rfl) hf rfl hS0 (fun x hS => ex_load hf rfl (by kernel_rfl) (hS.2.2.1.trans s_hLi)) ?_
  clear hf a; intro a hf
  refine dl_c 10 (by kernel_rfl) rfl hf rfl rfl rfl (by kernel_rfl) (modV2 hoz) ?_
  rintro _ w62 ⟨rfl, hx61⟩
  refine ⟨_, rfl, ?_⟩
  clear hf a; intro a hf
  replace hB3 := hB3.c0 hx61
  replace hB9 := hB9.c0 hx61
  replace hLi := (hx61.cell lt_lb nm0).trans hLi
  replace lt_lb := hx61.lt lt_lb
  replace hQ0 := (hx61.cell lt_kb nm0).trans hQ0
  replace lt_kb := hx61.lt lt_kb
  replace hQ1 := (hx61.cell lt_kb2 nm0).trans hQ1
  replace lt_kb2 := hx61.lt lt_kb2
  replace hF4 := fun j hj => (hx61.cell lt_kb3 nm0).trans (hF4 j hj)
  replace lt_kb3 := hx61.lt lt_kb3
  replace hT := hT.chg hx61 (fun b hb _ => nm0)
  replace hE := hE.t0 hx61
  clear hS0
  have hS0 : w62.cell? ⟨b9, 0, none⟩ = w'.cell? ⟨b9, 0, none⟩ ∧ w62.cell? ⟨b9, 1, none⟩ = w'.cell? ⟨b9, 1, none⟩ ∧ w62.cell? ⟨lb, lo + i * 1, none⟩ = w'.cell? ⟨lb, lo + i * 1, none⟩ ∧ w62.cell? ⟨b3, o, none⟩ = w'.cell? ⟨b3, o, none⟩ ∧ w62.cell? ⟨b9, 3, none⟩ = w'.cell? ⟨b9, 3, none⟩ ∧ w62.cell? ⟨kb, ko + 4, none⟩ = w'.cell? ⟨kb, ko + 4, none⟩ ∧ w62.cell? ⟨kb, ko + 4 + 1, none⟩ = w'.cell? ⟨kb, ko + 4 + 1, none⟩ := ⟨(hB9.cell 0).trans (s_hB9.cell 0).symm, (hB9.cell 1).trans (s_hB9.cell 1).symm, (hLi.trans s_hLi.symm), (hB3.cell o).trans (s_hB3.cell o).symm, (hB9.cell 3).trans (s_hB9.cell 3).symm, (hQ0.trans s_hQ0.symm), (hQ1.trans s_hQ1.symm)⟩
  refine ⟨.inl hS0, ?_⟩
  refine dV 11 rfl rfl hsel (by kernel_rfl) hf rfl (.inl hS0) (fun x => ex_indexA (sz := 1) (k := o) (r := o) hf Try.underlying38 (by kernel_rfl) rfl rfl rfl hol (by omega)) ?_
  clear hf a; intro a hf
  refine dL 12 rfl rfl hsel (by kernel_rfl) hf rfl hS0 (fun x hS => ex_load hf rfl (by kernel_rfl) (hS.2.2.2.1.trans ((s_hB3.cell o).trans (opC_at o hol)))) ?_
  clear hf a; intro a hf
  refine dV 13 rfl rfl hsel (by kernel_rfl) hf rfl (.inl hS0) (fun x => ex_neS (c := false) hf rfl rfl (by simp)) ?_
  clear hf a; intro a hf
  refine dV 14 rfl rfl hsel (by kernel_rfl) hf rfl (.inl hS0) (fun x => ex_pickF hf rfl rfl) ?_
  clear hf a; intro a hf
  refine dM 15 rfl rfl hsel (by kernel_rfl) hf rfl hS0 rfl ?_
  clear hf a; intro a hf
  refine dV 16 rfl rfl hsel (by kernel_rfl) hf rfl (.inl hS0) (fun x => ex_fa (k := 3) (r := 3) hf rfl (by kernel_rfl) rfl) ?_
  clear hf a; intro a hf
  refine dL 17 rfl rfl hsel (by kernel_rfl) hf rfl hS0 (fun x hS => ex_load hf rfl (by kernel_rfl) (hS.2.2.2.2.1.trans ((s_hB9.cell 3).trans rfl))) ?_
  clear hf a; intro a hf
  refine dV 18 rfl rfl hsel (by kernel_rfl) hf rfl (.inl hS0) (fun x => ex_len hf Try.underlying24 rfl) ?_
  clear hf a; intro a hf
  refine dV 19 rfl rfl hsel (by kernel_rfl) hf rfl (.inl hS0) (fun x => ex_neI (c := false) hf rfl rfl (by decide)) ?_
  clear hf a; intro a hf
  refine dV 20 rfl rfl hsel (by kernel_rfl) hf rfl (.inl hS0) (fun x => ex_pickF hf rfl rfl) ?_
  clear hf a; intro a hf
  refine dM 21 rfl rfl hsel (by kernel_rfl) hf rfl hS0 rfl ?_
  clear hf a; intro a hf
  refine dV 22 rfl rfl hsel (by kernel_rfl) hf rfl (.inl hS0) (fun x => ex_fa (k := 3) (r := 3) hf rfl (by kernel_rfl) rfl) ?_
  clear hf a; intro a hf
  refine dL 23 rfl rfl hsel (by kernel_rfl) hf rfl hS0 (fun x hS => ex_load hf rfl (by kernel_rfl) (hS.2.2.2.2.1.trans ((s_hB9.cell 3).trans rfl))) ?_
  clear hf a; intro a hf
  refine dV 24 rfl rfl hsel (by kernel_rfl) hf rfl (.inl hS0) (fun x => ex_index (sz := 4) (k := 1) (r := ko + 4) hf Try.underlying24 (by kernel_rfl) rfl rfl rfl (by decide) rfl) ?_
  clear hf a; intro a hf
  refine dV 25 rfl rfl hsel (by kernel_rfl) hf rfl (.inl hS0) (fun x => ex_fa (k := 0) (r := ko + 4) hf rfl (by kernel_rfl) rfl) ?_
  clear hf a; intro a hf
  refine dL 26 rfl rfl hsel (by kernel_rfl) hf rfl hS0 (fun x hS => ex_load hf rfl (by kernel_rfl) (hS.2.2.2.2.2.1.trans s_hQ0)) ?_
  clear hf a; intro a hf
  refine dV 27 rfl rfl hsel (by kernel_rfl) hf rfl (.inl hS0) (fun x => ex_neI (c := false) hf rfl rfl (by decide)) ?_
  clear hf a; intro a hf
  refine dV 28 rfl rfl hsel (by kernel_rfl) hf rfl (.inl hS0) (fun x => ex_pickF hf rfl rfl) ?_
  clear hf a; intro a hf
  refine dM 29 rfl rfl hsel (by kernel_rfl) hf rfl hS0 rfl ?_
  clear hf a; intro a hf
  refine dV 30 rfl rfl hsel (by kernel_rfl) hf rfl (.inl hS0) (fun x => ex_fa (k := 3) (r := 3) hf rfl (by kernel_rfl) rfl) ?_
  clear hf a; intro a hf
  refine dL 31 rfl rfl hsel (by kernel_rfl) hf rfl hS0 (fun x hS => ex_load hf rfl (by kernel_rfl) (hS.2.2.2.2.1.trans ((s_hB9.cell 3).trans rfl))) ?_
  clear hf a; intro a hf
  refine dV 32 rfl rfl hsel (by kernel_rfl) hf rfl (.inl hS0) (fun x => ex_index (sz := 4) (k := 1) (r := ko + 4) hf Try.underlying24 (by kernel_rfl) rfl rfl rfl (by decide) rfl) ?_
  clear hf a; intro a hf
  refine dV 33 rfl rfl hsel (by kernel_rfl) hf rfl (.inl hS0) (fun x => ex_fa (k := 1) (r := ko + 4 + 1) hf rfl (by kernel_rfl) rfl) ?_
  clear hf a; intro a hf
  refine dL 34 rfl rfl hsel (by kernel_rfl) hf rfl hS0 (fun x hS => ex_load hf rfl (by kernel_rfl) (hS.2.2.2.2.2.2.trans s_hQ1)) ?_
  clear hf a; intro a hf
  refine dV 35 rfl rfl hsel (by kernel_rfl) hf rfl (.inl hS0) (fun x => ex_neS (c := false) hf rfl rfl rfl) ?_
  clear hf a; intro a hf
  refine dV 36 rfl rfl hsel (by kernel_rfl) hf rfl (.inl hS0) (fun x => ex_pickF hf rfl rfl) ?_
  clear hf a; intro a hf
  refine dl_done (by kernel_rfl) ?_
  clear hS0 hsel
  refine hK58 _ _ ?_
  refine cF hf rfl ?_
  refine wp_skip ?_
  refine hK57 _ _ ?_
  refine wR ?_
  refine sV hf rfl (ex_fa (k := 3) (r := 3) hf rfl (by kernel_rfl) rfl) ?_
  clear hf a; intro a hf
  refine sV hf rfl (ex_loadB hf rfl (by kernel_rfl) hB9 rfl) ?_
  clear hf a; intro a hf
  refine sV hf rfl (ex_index (sz := 4) (k := 0) (r := ko) hf Try.underlying24 (by kernel_rfl) rfl rfl rfl (by decide) rfl) ?_
  clear hf a; intro a hf
  refine sV hf rfl (ex_loadN (cs := [e0, e1, e2, e3]) (m := 4) hf rfl (by kernel_rfl) rfl hF4) ?_
  clear hf a; intro a hf
  obtain ⟨w63, he, hB64, hx65⟩ := eN (.tmp 9) (.tmp 110) hf rfl rfl rfl on_T hB9 rfl 0
  refine st_s hf rfl rfl he ?_
  clear he hf a; intro a hf
  replace hB3 := hB3.chg hx65 (nmc ne_b3_b9 nm0)
  replace hLi := (hx65.cell lt_lb (nmc ne_lb_b9 nm0)).trans hLi
  replace lt_lb := hx65.lt lt_lb
  replace hQ0 := (hx65.cell lt_kb (nmc ne_kb_b9 nm0)).trans hQ0
  replace lt_kb := hx65.lt lt_kb
  replace hQ1 := (hx65.cell lt_kb2 (nmc ne_kb_b9 nm0)).trans hQ1
  replace lt_kb2 := hx65.lt lt_kb2
  replace hF4 := fun j hj => (hx65.cell lt_kb3 (nmc ne_kb_b9 nm0)).trans (hF4 j hj)
  replace lt_kb3 := hx65.lt lt_kb3
  replace hT := hT.chg hx65 (fun b hb _ => (nmc (by omega) nm0))
  replace hE := hE.trans hx65 (allc (.inr ge_b9) all0)
  clear hB9
  refine sN ?_
  refine hK56 _ _ ?_
  refine wR ?_
  refine sM hf rfl rfl ?_
  clear hf a; intro a hf
  refine sV hf rfl (ex_subI hf rfl rfl rfl (by omega)) ?_
  clear hf a; intro a hf
  refine sA hf rfl rfl ?_
  clear hf a; intro a hf
  refine sN ?_
  exact ⟨_, (by omega : i < i + 1), i, e0, e1, e2, e3, (hf.pick (l := [(0, .slice (some ⟨lb, lo, none⟩) zs.length cp), (3, .pointer (some ⟨b3, 0, none⟩)), (9, .pointer (some ⟨b9, 0, none⟩)), (10, .int .i64 ((i : Nat) - 1))]) ⟨rfl, rfl, rfl, congrArg (fun z => some (Value.int .i64 z)) (show ((i + 1 : Nat) : Int) - 1 - 1 = (i : Int) - 1 from by omega), trivial⟩), hE, hB3, hB64, hT, by omega, rfl⟩
  obtain rfl : g0 = 0 := by omega
  obtain ⟨A5, m5, B5, n5, e4⟩ := hT.cells
  simp only [List.cons.injEq, and_true] at e4
  obtain ⟨rfl, rfl, rfl, rfl⟩ := e4
  refine wS fun K66 hK66 => ?_
  refine wS fun K67 hK67 => ?_
  refine wR ?_
  refine sM hf rfl rfl ?_
  clear hf a; intro a hf
  refine sV hf rfl (ex_geI (c := false) hf rfl rfl (by simp <;> omega)) ?_
  clear hf a; intro a hf
  refine sN ?_
  refine hK67 _ _ ?_
  refine cF hf rfl ?_
  refine wp_exit ?_
  simp only [Exit.then, Exit.inBlock, ↓reduceIte, Nat.reduceEqDiff]
  refine hK52 _ _ ?_
  refine wS fun K68 hK68 => ?_
  refine wR ?_
  refine st_c hf rfl rfl rfl (by kernel_rfl) (awakeL) ?_
  rintro _ w70 ⟨rfl, hx69⟩
  refine ⟨_, rfl, ?_⟩
  clear hf a; intro a hf
  replace hB9 := hB9.c0 hx69
  replace hE := hE.t0 hx69
  refine sM hf rfl rfl ?_
  clear hf a; intro a hf
  refine sV hf rfl (ex_fa (k := 0) (r := 0) hf rfl (by kernel_rfl) rfl) ?_
  clear hf a; intro a hf
  refine sV hf rfl (ex_loadB hf rfl (by kernel_rfl) hB9 rfl) ?_
  clear hf a; intro a hf
  refine sV hf rfl (ex_eqI (c := true) hf rfl rfl rfl) ?_
  clear hf a; intro a hf
  refine sV hf rfl (ex_pickT hf rfl rfl) ?_
  clear hf a; intro a hf
  refine sM hf rfl rfl ?_
  clear hf a; intro a hf
  refine sV hf rfl (ex_fa (k := 1) (r := 1) hf rfl (by kernel_rfl) rfl) ?_
  clear hf a; intro a hf
  refine sV hf rfl (ex_loadB hf rfl (by kernel_rfl) hB9 rfl) ?_
  clear hf a; intro a hf
  refine sV hf rfl (ex_eqS (c := true) hf rfl rfl rfl) ?_
  clear hf a; intro a hf
  refine sV hf rfl (ex_pickT hf rfl rfl) ?_
  clear hf a; intro a hf
  refine sA hf rfl rfl ?_
  clear hf a; intro a hf
  refine sN ?_
  refine hK68 _ _ ?_
  refine wp_ret ?_
  try simp only [Exit.then, Exit.inBlock]
  exact ret_of (rs := [.tmp 2]) hf rfl ⟨_, _, rfl, rfl, rfl⟩ ⟨rfl, hE.ext⟩
end Go.Proofs.Ythpjpngfghcmcaa
namespace Go.Proofs.Ythpjpngfghcmcaa
open Go.RowKit Go.ChangeShapes Go.WideShapes Go.Deep
theorem cellsIntO : Try.prog.cellsOf 3 = 1 := by kernel_rfl
theorem open_intRow {H : Type} {enc : TypeId × Value → H} {W : World} {a0 : Option Addr} {len cap : Nat} {d : DataW H} {p : List MemPlace} (h : DataW.Trod enc Try.prog W 0 (fun _ => true) true 37 (.slice a0 len cap) d p) :
    ∃ zs : List Int, len = zs.length ∧ RowIn Any W 1 a0 zs.length (zs.map fun z => .int .i64 z) := by
  obtain ⟨fuel, hf⟩ := h
  rcases open_ints Try.underlying37 Try.underlying3 cellsIntO hf with ⟨hcs, hx⟩ | ⟨a, len', cap', zs, hcs, hb, hl, hm, hlen, hx, hcell, hwf⟩
  · simp [Value.cells] at hcs
    obtain ⟨rfl, rfl, rfl⟩ := hcs
    exact ⟨[], rfl, RowIn.none_⟩
  · simp [Value.cells] at hcs
    obtain ⟨rfl, rfl, rfl⟩ := hcs
    simp only [if_true] at hlen
    have hlt : (zs.take len).length = len := by simp; omega
    refine ⟨zs.take len, hlt.symm, by simp, fun h0 => ?_⟩
    rw [hlt] at h0 ⊢
    have hs : a.spot = none := World.cell?_spot (a := a) (by have := hcell 0 (by omega); simpa [Addr.add] using this)
    obtain ⟨b, off, spot⟩ := a
    simp only at hs
    subst hs
    have hadd : ∀ k, (⟨b, off, none⟩ : Addr).add k = ⟨b, off + k, none⟩ := fun k => by unfold Addr.add; split <;> simp_all
    refine ⟨b, off, rfl, trivial, ?_, fun j hj => ?_⟩
    · have := hcell 0 (by omega)
      exact World.block_lt_of_cell? W ⟨b, off, none⟩ (by simpa [Addr.add] using this)
    · have hj' : j < len := by omega
      have := hcell j (by omega)
      rw [hadd] at this
      rw [this]
      simp [hj', List.getD_eq_getElem?_getD, show j < zs.length from by omega]
end Go.Proofs.Ythpjpngfghcmcaa
