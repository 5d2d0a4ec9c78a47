/- Contracts of the functions that the law reaches, part 8. -/
import Derived.Test.YthnohcipianijaaGreatDoorRa7
set_option linter.unusedVariables false
set_option linter.unusedSimpArgs false
namespace Go.Proofs.YthnohcipianijaaGreatDoor
open Go.RowKit Lx Sx
set_option maxRecDepth 100000
set_option maxHeartbeats 1100000
theorem Eg : sR nJ (wV Ak 5000 27 [.str Ek]) = true := by kernel_rfl
theorem sx : kbulk [nJ] ≤ 1100000 := by decide +kernel
theorem FS : (bL [nJ] 0 0 [dI 2] 100).2 = (25, 0) ∧ sameD (bL [nJ] 0 0 [dI 2] 100).1 (dI 3) = true ∧ dL (bL [nJ] 0 0 [dI 2] 100).1 = true := by decide +kernel
theorem Hy : (bL [nJ] 0 0 [dI 2] 5).2 = (5, 21) := by decide +kernel
theorem Dq : lq true := by
 obtain ⟨a1, a2, a3⟩ := FS
 have a4 := Hy
 have r1 := zW sx 0 0 [dI 2] (by simp) 100
 have r2 := zW sx 0 0 [dI 2] (by simp) 5
 have hw := zK sx 0 0 [dI 2] 100
 have hn := uo (bL [nJ] 0 0 [dI 2] 100).1
 revert a1 a2 a3 a4 r1 r2 hw hn
 generalize bL [nJ] 0 0 [dI 2] 100 = x
 generalize bL [nJ] 0 0 [dI 2] 5 = y
 obtain ⟨x1, x2, x3⟩ := x
 obtain ⟨y1, y2, y3⟩ := y
 intro a1 a2 a3 a4 r1 r2 hw hn
 simp only [Prod.mk.injEq] at a1 a2 a3 a4 r1 r2 hw hn
 obtain ⟨rfl, rfl⟩ := a1
 obtain ⟨rfl, rfl⟩ := a4
 refine pL 5 _ ⟨nJ, 0, 0, FI Eg, _, tN 2, _, _, _, r1, ph 4 _ _ _ _ _ _ ⟨_, tN 2, _, _, _, r2, pf 3 _ _ _ _ _ _ _ ⟨fun _ => ⟨fun _ => ⟨fun _ => ⟨_, tN 3, _, BI x1 (by omega) _, fun _ => ⟨fun _ => ⟨fun _ => ⟨_, zp x1, a3⟩, fun h => absurd rfl h⟩, fun h => absurd rfl h⟩, fun h => by rw [a2] at h; cases h⟩, fun h => absurd rfl h⟩, fun h => absurd rfl h⟩, fun h => absurd rfl h⟩⟩⟩
theorem aw9 : cN true := Dq
end Go.Proofs.YthnohcipianijaaGreatDoor
namespace Go.Proofs.YthnohcipianijaaGreatDoor
open Go.RowKit Lx Sx
set_option maxRecDepth 100000
set_option maxHeartbeats 4000000
def ky (p0 : List Int) (p1 : List GDatum) (p2 : Int) (r0 : Bool) : Prop := qS 5 [.row 1 (List.map (V.int .i64) p0), .row 4 (GDatum.vs p1), .int .i64 p2] (.bool r0)
def cz (m : Nat) (p0 : List Int) (p1 : List GDatum) (p2 : Int) (a : Nat) (r0 : Bool) : Prop := ∀ (K : Ctx) (j1 : Nat), ao K [] → m ≤ j1 → qLG K Tryz.f5 (fun u _ => u = .bool r0) (xI (ae Tryz.f5)) [.loop (xI (ae Tryz.f5)) j1, .blk 0, .seq (xH (ae Tryz.f5))] 127 (mkF 127 0 [(0, .row 1 (List.map (V.int .i64) p0)), (1, .row 4 (GDatum.vs p1)), (2, .int .i64 p2), (7, .int .i64 (a : Int))]) ⟨0, []⟩
def bU (m : Nat) (p1 : List GDatum) (p2 : Int) (a : List Tree) (b : Nat) (r0 : Bool) : Prop := ∀ (K : Ctx) (j1 : Nat), ao K [] → m ≤ j1 → qLG K Tryz.f5 (fun u _ => u = .bool r0) (xI (xA (ae Tryz.f5))) [.loop (xI (xA (ae Tryz.f5))) j1, .blk 2, .seq (xN (ae Tryz.f5))] 127 (mkF 127 0 [(1, .row 4 (GDatum.vs p1)), (2, .int .i64 p2), (8, .row 4 (kidsV a)), (9, .int .i64 (b : Int))]) ⟨0, []⟩
def bT (m : Nat) (p1 : List GDatum) (p2 : Int) (a : List Tree) (b : Int) (c : Nat) (r0 : Bool) : Prop := ∀ (K : Ctx) (j1 j2 : Nat), ao K [] → m ≤ j1 → m ≤ j2 → qLG K Tryz.f5 (fun u _ => u = .bool r0) (cL (xD (cK (cA (cB (xI (xA (ae Tryz.f5)))))))) [.loop (cL (xD (cK (cA (cB (xI (xA (ae Tryz.f5)))))))) j1, .blk 4, .blk 3, .seq (xA (xI (xA (ae Tryz.f5)))), .loop (xI (xA (ae Tryz.f5))) j2, .blk 2, .seq (xN (ae Tryz.f5))] 127 (mkF 127 0 [(1, .row 4 (GDatum.vs p1)), (2, .int .i64 p2), (8, .row 4 (kidsV a)), (9, .int .i64 (c : Int)), (10, .int .i64 b)]) ⟨0, []⟩
def fC (m : Nat) (p1 : List GDatum) (p2 : Int) (a : List Tree) (b : Nat) (c : Int) (d r0 : Bool) : Prop := ∀ (K : Ctx) (j1 j2 : Nat), ao K [] → m ≤ j1 → m ≤ j2 → qLG K Tryz.f5 (fun u _ => u = .bool r0) (cB (cA (cB (cK (cA (cB (cL (xD (cK (cA (cB (xI (xA (ae Tryz.f5)))))))))))))) [.seq (xA (cK (cA (cB (cL (xD (cK (cA (cB (xI (xA (ae Tryz.f5)))))))))))), .blk 5, .seq (xA (cL (xD (cK (cA (cB (xI (xA (ae Tryz.f5))))))))), .loop (cL (xD (cK (cA (cB (xI (xA (ae Tryz.f5)))))))) j1, .blk 4, .blk 3, .seq (xA (xI (xA (ae Tryz.f5)))), .loop (xI (xA (ae Tryz.f5))) j2, .blk 2, .seq (xN (ae Tryz.f5))] 127 (mkF 127 0 [(1, .row 4 (GDatum.vs p1)), (2, .int .i64 p2), (8, .row 4 (kidsV a)), (9, .int .i64 (b : Int)), (10, .int .i64 c), (11, .row 4 (GDatum.vs p1)), (74, .bool d)]) ⟨0, []⟩
def dG (m : Nat) (p1 : List GDatum) (p2 : Int) (a : List Tree) (b : Nat) (c : Int) (d : List GDatum) (r0 : Bool) : Prop := ∀ (K : Ctx) (j1 j2 : Nat), ao K [] → m ≤ j1 → m ≤ j2 → qLG K Tryz.f5 (fun u _ => u = .bool r0) (xA (cK (cA (cB (cL (xD (cK (cA (cB (xI (xA (ae Tryz.f5)))))))))))) [.blk 5, .seq (xA (cL (xD (cK (cA (cB (xI (xA (ae Tryz.f5))))))))), .loop (cL (xD (cK (cA (cB (xI (xA (ae Tryz.f5)))))))) j1, .blk 4, .blk 3, .seq (xA (xI (xA (ae Tryz.f5)))), .loop (xI (xA (ae Tryz.f5))) j2, .blk 2, .seq (xN (ae Tryz.f5))] 127 (mkF 127 0 [(1, .row 4 (GDatum.vs p1)), (2, .int .i64 p2), (8, .row 4 (kidsV a)), (9, .int .i64 (b : Int)), (10, .int .i64 c), (11, .row 4 (GDatum.vs d))]) ⟨0, []⟩
theorem fD (m : Nat) (p0 : List Int) (p1 : List GDatum) (p2 : Int) (r0 : Bool) (h : ∃ a, ji p0 a ∧ ((a = false) → ∃ b, cN b ∧ b = r0) ∧ ((a = true) → ((10 < (p1.length : Int)) → ∃ c, cN c ∧ c = r0) ∧ ((¬ 10 < (p1.length : Int)) → ((3000 < p2) → ∃ d, cN d ∧ d = r0) ∧ ((¬ 3000 < p2) → cz m p0 p1 p2 0 r0)))) : ky p0 p1 p2 r0 := by
 refine ⟨rfl, rfl, ?_⟩
 refine aj 127 [] Tryz.func5 rfl rfl rfl (ax rfl) fun K hK => ?_
 refine gR 9 rfl ?_
 obtain ⟨a, hs115, h⟩ := h
 refine gC0 hs115 (by kernel_rfl) rfl rfl .rfl rfl <| gR 2 rfl <| gB 21 rfl rfl rfl ?_ ?_ <;> intro hd
 refine gT 20 rfl hd rfl ?_
 replace hd := (cb hd)
 replace h := h.1 hd
 refine gR 13 rfl ?_
 obtain ⟨b, hs116, h⟩ := h
 refine gC0 hs116 (by kernel_rfl) rfl rfl .rfl rfl <| gR 5 rfl ?_
 subst h
 exact go_end ab (rs := [.tmp 6]) rfl rfl rfl
 refine gF 20 rfl hd rfl ?_
 replace hd := (cc hd)
 replace h := h.2 hd
 refine gR 2 rfl <| gV 23 (.int .i64 (p1.length : Int)) rfl (aL (GDatum.vlen _)) rfl <| gLB 22 rfl (GDatum.vlen _) fun hl117 => gR 3 rfl <| gB 26 rfl rfl rfl ?_ ?_ <;> intro hd
 refine gT 25 rfl hd rfl ?_
 replace hd := (of_decide_eq_true hd)
 replace h := h.1 hd
 refine gR 8 rfl ?_
 obtain ⟨c, hs118, h⟩ := h
 refine gC0 hs118 (by kernel_rfl) rfl rfl .rfl rfl <| gR 5 rfl ?_
 subst h
 exact go_end ab (rs := [.tmp 6]) rfl rfl rfl
 refine gF 25 rfl hd rfl ?_
 replace hd := (of_decide_eq_false hd)
 replace h := h.2 hd
 refine gR 5 rfl <| gB 29 rfl rfl rfl ?_ ?_ <;> intro hd
 replace hd := (of_decide_eq_true hd)
 replace h := h.1 hd
 refine gR 3 rfl ?_
 obtain ⟨d, hs119, h⟩ := h
 refine gC0 hs119 (by kernel_rfl) rfl rfl .rfl rfl <| gR 5 rfl ?_
 subst h
 exact go_end ab (rs := [.tmp 6]) rfl rfl rfl
 replace hd := (of_decide_eq_false hd)
 replace h := h.2 hd
 exact gR 10 rfl <| go_loop m <| gJ (h K _ hK (by omega)) [] [] rfl hK pq4 trivial rfl
theorem jm (m : Nat) (p0 : List Int) (p1 : List GDatum) (p2 : Int) (a : Nat) (r0 : Bool) (h : ((a < p1.length) → ∃ c, p1[a]? = some c ∧ ∃ b, iN c b ∧ ((b = false) → ∃ d, cN d ∧ d = r0) ∧ ((b = true) → cz m p0 p1 p2 (a + 1) r0)) ∧ ((¬ a < p1.length) → ∃ e, iE p0 e ∧ bU m p1 p2 e 0 r0)) : cz (m + 1) p0 p1 p2 a r0 := by
 intro K j1 hK hj1
 obtain ⟨j1, rfl⟩ : ∃ j, j1 = j + 1 := ⟨j1 - 1, by omega⟩
 refine gR 6 rfl <| gV 33 (.int .i64 (p1.length : Int)) rfl (aL (GDatum.vlen _)) rfl <| gLB 32 rfl (GDatum.vlen _) fun hl120 => gR 3 rfl <| gB 34 rfl rfl rfl ?_ ?_ <;> intro hd
 replace hd := (bZ hd)
 replace h := h.1 hd
 refine gR 9 rfl ?_
 obtain ⟨c, hxx1_1, h⟩ := h
 refine gY (ay (GDatum.vget hxx1_1) ab rfl rfl rfl rfl) rfl rfl <| gR 1 rfl ?_
 obtain ⟨b, hs121, h⟩ := h
 refine gC0 hs121 (by kernel_rfl) rfl rfl .rfl rfl <| gR 3 rfl <| gB 42 rfl rfl rfl ?_ ?_ <;> intro hd
 replace hd := (cb hd)
 replace h := h.1 hd
 refine gR 3 rfl ?_
 obtain ⟨d, hs122, h⟩ := h
 refine gC0 hs122 (by kernel_rfl) rfl rfl .rfl rfl <| gR 6 rfl <| go_xloopR <| gR 2 rfl ?_
 subst h
 exact go_end ab (rs := [.tmp 6]) rfl rfl rfl
 replace hd := (cc hd)
 replace h := h.2 hd
 exact gR 7 rfl <| gV 36 (.int .i64 ((a + 1 : Nat) : Int)) rfl (au (by have := hl120; omega) (by omega)) rfl <| gR 2 rfl <| go_xloop <| gJ (h K _ hK (by omega)) [] [] rfl hK pq4 trivial rfl
 replace hd := (bV hd)
 replace h := h.2 hd
 refine gR 3 rfl <| go_xloopE <| gR 5 rfl ?_
 obtain ⟨e, hs123, h⟩ := h
 exact gC0 hs123 (by kernel_rfl) rfl rfl .rfl rfl <| gR 10 rfl <| go_loop m <| gJ (h K _ hK (by omega)) [] [] rfl hK pq4 trivial rfl
theorem jo (m : Nat) (p1 : List GDatum) (p2 : Int) (a : List Tree) (b : Nat) (r0 : Bool) (h : ((b < a.length) → bT m p1 p2 a (-1) b r0) ∧ ((¬ b < a.length) → ∃ c, cN c ∧ c = r0)) : bU (m + 1) p1 p2 a b r0 := by
 intro K j1 hK hj1
 obtain ⟨j1, rfl⟩ : ∃ j, j1 = j + 1 := ⟨j1 - 1, by omega⟩
 refine gR 6 rfl <| gV 48 (.int .i64 (a.length : Int)) rfl (aL (aG _)) rfl <| gLB 47 rfl (aG _) fun hl124 => gR 3 rfl <| gB 49 rfl rfl rfl ?_ ?_ <;> intro hd
 replace hd := (bZ hd)
 replace h := h.1 hd
 exact gR 11 rfl <| go_loop m <| gJ (h K _ _ hK (by omega) (by omega)) [] [] rfl hK pq5 trivial rfl
 replace hd := (bV hd)
 replace h := h.2 hd
 refine gR 3 rfl <| go_xloopE <| gR 4 rfl ?_
 obtain ⟨c, hs125, h⟩ := h
 refine gC0 hs125 (by kernel_rfl) rfl rfl .rfl rfl <| gR 4 rfl ?_
 subst h
 exact go_end ab (rs := [.tmp 6]) rfl rfl rfl
theorem jz (m : Nat) (p1 : List GDatum) (p2 : Int) (c : List Tree) (a : Int) (b : Nat) (r0 : Bool) (h : ∃ d, c[b]? = some d ∧ ((a ≤ (d.kids.length : Int)) → ((0 ≤ a) → ∃ e, c[b]? = some e ∧ fC m p1 p2 c b a (decide (a < (e.kids.length : Int))) r0) ∧ ((¬ 0 ≤ a) → fC m p1 p2 c b a false r0)) ∧ ((¬ a ≤ (d.kids.length : Int)) → b + 1 ≤ 9223372036854775807 ∧ bU m p1 p2 c (b + 1) r0)) : bT (m + 1) p1 p2 c a b r0 := by
 intro K j1 j2 hK hj1 hj2
 obtain ⟨j1, rfl⟩ : ∃ j, j1 = j + 1 := ⟨j1 - 1, by omega⟩
 obtain ⟨j2, rfl⟩ : ∃ j, j2 = j + 1 := ⟨j2 - 1, by omega⟩
 refine gR 6 rfl ?_
 obtain ⟨d, hxt3_1, h⟩ := h
 refine gY (ay (aq hxt3_1) ab rfl rfl rfl rfl) rfl rfl <| gR 3 rfl <| gV 58 (.int .i64 (d.kids.length : Int)) rfl (aL (aG _)) rfl <| gLB 57 rfl (aG _) fun hl126 => gR 3 rfl <| gB 59 rfl rfl rfl ?_ ?_ <;> intro hd
 replace hd := (of_decide_eq_true hd)
 replace h := h.1 hd
 refine gR 17 rfl <| gB 65 rfl rfl rfl ?_ ?_ <;> intro hd
 refine gT 64 rfl hd rfl ?_
 replace hd := (of_decide_eq_true hd)
 replace h := h.1 hd
 refine gR 3 rfl ?_
 obtain ⟨e, hxt3_2, h⟩ := h
 exact gY (ay (aq hxt3_2) ab rfl rfl rfl rfl) rfl rfl <| gR 3 rfl <| gV 72 (.int .i64 (e.kids.length : Int)) rfl (aL (aG _)) rfl <| gLB 71 rfl (aG _) fun hl127 => gR 4 rfl <| gJ (h K _ _ hK (by omega) (by omega)) [] [] rfl hK pq7 trivial rfl
 refine gF 64 rfl hd rfl ?_
 replace hd := (of_decide_eq_false hd)
 replace h := h.2 hd
 exact gR 11 rfl <| gJ (h K _ _ hK (by omega) (by omega)) [] [] rfl hK pq7 trivial rfl
 replace hd := (of_decide_eq_false hd)
 replace h := h.2 hd
 refine gR 3 rfl <| go_xloopE <| gR 5 rfl ?_
 obtain ⟨hb, h⟩ := h
 exact gR 1 rfl <| gV 51 (.int .i64 ((b + 1 : Nat) : Int)) rfl (au (by omega) (by omega)) rfl <| gR 2 rfl <| go_xloop <| gJ (h K _ hK (by omega)) [] [] rfl hK pq4 trivial rfl
theorem jq (m : Nat) (p1 : List GDatum) (p2 : Int) (c : List Tree) (d : Nat) (e : Int) (g r0 : Bool) (h : ((g = true) → ∃ i, c[d]? = some i ∧ ∃ f, e = ((f : Nat) : Int) ∧ ∃ a, i.kids[f]? = some a ∧ ∃ b, (min (p1.length : Int) (max 0 ((a.kids.length : Int) - 2))) = ((b : Nat) : Int) ∧ b ≤ p1.length ∧ dG m p1 p2 c d e (p1.take b) r0) ∧ ((g = false) → dG m p1 p2 c d e p1 r0)) : fC (m + 1) p1 p2 c d e g r0 := by
 intro K j1 j2 hK hj1 hj2
 obtain ⟨j1, rfl⟩ : ∃ j, j1 = j + 1 := ⟨j1 - 1, by omega⟩
 obtain ⟨j2, rfl⟩ : ∃ j, j2 = j + 1 := ⟨j2 - 1, by omega⟩
 refine gB 74 rfl rfl rfl ?_ ?_ <;> intro hd
 replace h := h.1 hd
 refine gR 5 rfl <| gV 77 (.int .i64 (p1.length : Int)) rfl (aL (GDatum.vlen _)) rfl <| gLB 76 rfl (GDatum.vlen _) fun hl128 => gR 2 rfl ?_
 obtain ⟨i, hxt4_1, h⟩ := h
 refine gY (ay (aq hxt4_1) ab rfl rfl rfl rfl) rfl rfl <| gR 3 rfl ?_
 obtain ⟨f, k, h⟩ := h
 refine gV 83 (.int .i64 ((f : Nat) : Int)) rfl (bo k) rfl ?_
 obtain ⟨a, hxt4_3, h⟩ := h
 refine gY (ay (aq hxt4_3) ab rfl rfl rfl rfl) rfl rfl <| gR 3 rfl <| gV 87 (.int .i64 (a.kids.length : Int)) rfl (aL (aG _)) rfl <| gLB 86 rfl (aG _) fun hl129 => gR 1 rfl <| gV 88 (.int .i64 ((a.kids.length : Int) - 2)) rfl (au (by have := hl129; omega) rfl) rfl <| gR 1 rfl <| gY (DE rfl rfl rfl) rfl rfl ?_
 obtain ⟨b, l, h⟩ := h
 refine gV 90 (.int .i64 ((b : Nat) : Int)) rfl (bo l) rfl ?_
 obtain ⟨hb', h⟩ := h
 exact gY (Gn (GDatum.vlen p1) ab rfl rfl vd (pV rfl) (Nat.zero_le _) hb' (((GDatum.vsub _ _ _).trans (congrArg _ (tA _ _))))) rfl rfl <| gR 3 rfl <| gJ (h K _ _ hK (by omega) (by omega)) [] [] rfl hK pq6 trivial rfl
 replace h := h.2 hd
 exact gR 3 rfl <| gJ (h K _ _ hK (by omega) (by omega)) [] [] rfl hK pq6 trivial rfl
theorem oM (m : Nat) (p1 : List GDatum) (p2 : Int) (b : List Tree) (c : Nat) (a : Int) (k : List GDatum) (r0 : Bool) (h : ∃ l d e, lF b (c : Int) a k p2 l d e ∧ ∃ n f g, kc b (c : Int) a k p2 n f g ∧ ((e ≠ g) → false = r0) ∧ ((e = g) → ((d ≠ f) → false = r0) ∧ ((d = f) → ∃ i, eb l n i ∧ ((i = false) → false = r0) ∧ ((i = true) → InI (a + 1) ∧ bT m p1 p2 b (a + 1) c r0)))) : dG (m + 1) p1 p2 b c a k r0 := by
 intro K j1 j2 hK hj1 hj2
 obtain ⟨j1, rfl⟩ : ∃ j, j1 = j + 1 := ⟨j1 - 1, by omega⟩
 obtain ⟨j2, rfl⟩ : ∃ j, j2 = j + 1 := ⟨j2 - 1, by omega⟩
 refine gR 7 rfl ?_
 obtain ⟨l, d, e, hs130, h⟩ := h
 refine gC0 hs130 (by kernel_rfl) rfl rfl .rfl rfl <| gR 17 rfl ?_
 obtain ⟨n, f, g, hs131, h⟩ := h
 refine gC0 hs131 (by kernel_rfl) rfl rfl .rfl rfl <| gR 16 rfl <| gB 115 rfl rfl rfl ?_ ?_ <;> intro hd
 refine gT 114 rfl hd rfl ?_
 replace hd := (bN hd)
 replace h := h.1 hd
 refine gR 13 rfl <| go_sub (F' := (mkF 127 0 [])) (H' := ⟨0, []⟩) [] [] rfl hK trivial trivial rfl <| gR 8 rfl <| go_xloopR <| gR 3 rfl <| go_xloopR <| gR 2 rfl ?_
 subst h
 exact go_end ab (rs := [.tmp 6]) rfl rfl rfl
 refine gF 114 rfl hd rfl ?_
 replace hd := (bn hd)
 replace h := h.2 hd
 refine gR 5 rfl <| gB 120 rfl rfl rfl ?_ ?_ <;> intro hd
 refine gT 119 rfl hd rfl ?_
 replace hd := (bN hd)
 replace h := h.1 hd
 refine gR 8 rfl <| go_sub (F' := (mkF 127 0 [])) (H' := ⟨0, []⟩) [] [] rfl hK trivial trivial rfl <| gR 8 rfl <| go_xloopR <| gR 3 rfl <| go_xloopR <| gR 2 rfl ?_
 subst h
 exact go_end ab (rs := [.tmp 6]) rfl rfl rfl
 refine gF 119 rfl hd rfl ?_
 replace hd := (bn hd)
 replace h := h.2 hd
 refine gR 2 rfl ?_
 obtain ⟨i, hs132, h⟩ := h
 refine gC0 hs132 (by kernel_rfl) rfl rfl .rfl rfl <| gR 4 rfl <| gB 125 rfl rfl rfl ?_ ?_ <;> intro hd
 replace hd := (cb hd)
 replace h := h.1 hd
 refine gR 1 rfl <| go_sub (F' := (mkF 127 0 [])) (H' := ⟨0, []⟩) [] [] rfl hK trivial trivial rfl <| gR 8 rfl <| go_xloopR <| gR 3 rfl <| go_xloopR <| gR 2 rfl ?_
 subst h
 exact go_end ab (rs := [.tmp 6]) rfl rfl rfl
 replace hd := (cc hd)
 replace h := h.2 hd
 refine gR 6 rfl ?_
 obtain ⟨hb, h⟩ := h
 exact gR 1 rfl <| gV 61 (.int .i64 (a + 1)) rfl (au hb rfl) rfl <| gR 2 rfl <| go_xloop <| gJ (h K _ _ hK (by omega) (by omega)) [] [] rfl hK pq5 trivial rfl
end Go.Proofs.YthnohcipianijaaGreatDoor
namespace Go.Proofs.YthnohcipianijaaGreatDoor
open Go.RowKit Lx Sx
set_option maxHeartbeats 1000000
def Dc (L : List Int) (a : Int) : Prop := 0 ≤ a ∧ a ≤ L.length ∧ L.length ≤ 1000000000
theorem Ip {a n : Int} (hn : 0 < n) (hn2 : n ≤ 1000000000) : ∃ r, lj a n r ∧ 0 ≤ r ∧ r < n := by
 have h1 := Int.lt_tmod_of_pos a hn
 have h2 := Int.tmod_lt_of_pos a hn
 by_cases h : Int.tmod a n < 0
 ·exact ⟨_, oh 0 _ _ _ ⟨by omega, fun _ => ⟨by omega, rfl⟩, fun h' => absurd h h'⟩, by omega, by omega⟩
 ·exact ⟨_, oh 0 _ _ _ ⟨by omega, fun h' => absurd h' h, fun _ => rfl⟩, by omega, by omega⟩
theorem ef {L : List Int} {a n : Int} (hd : Dc L a) (hn : 0 < n) (hn2 : n ≤ 1000000000) : ∃ r a', aD L a n r L a' ∧ (0 ≤ r ∧ r < n) ∧ Dc L a' := by
 obtain ⟨h0, h1, h2⟩ := hd
 by_cases h : (L.length : Int) ≤ a
 ·exact ⟨0, a, jK 0 _ _ _ _ _ _ ⟨fun _ => ⟨rfl, rfl, rfl⟩, fun h' => absurd h h'⟩, by omega, h0, h1, h2⟩
 ·obtain ⟨x, hx, _⟩ | h' := az L a.toNat
  ·obtain ⟨r, hr, hr1⟩ := Ip (a := x) hn hn2
   exact ⟨r, a + 1, jK 0 _ _ _ _ _ _ ⟨fun h' => absurd h' h, fun _ => ⟨by omega, by omega, a.toNat, by omega, x, hx, r, hr, rfl, rfl, rfl⟩⟩, hr1, by omega, by omega, h2⟩
  ·omega
theorem ie {L : List Int} {a : Int} (hd : Dc L a) (l : List (List UInt8)) (hl : 0 < l.length) (hl2 : l.length ≤ 1000000000) : ∃ s a', aW L a l s L a' ∧ s ∈ l ∧ Dc L a' := by
 obtain ⟨r, a', h1, h2, h3⟩ := ef hd (n := (l.length : Int)) (by omega) (by omega)
 obtain ⟨x, hx, _⟩ | h' := az l r.toNat
 ·exact ⟨x, a', sF 0 _ _ _ _ _ _ ⟨_, _, _, h1, r.toNat, by omega, x, hx, rfl, rfl, rfl⟩, List.mem_of_getElem? hx, h3⟩
 ·omega
def Gt (L : List Int) (C : Tree → Int → Prop) (B : Nat) : Prop := ∃ t a', C t a' ∧ Dc L a' ∧ tbulk t ≤ B
theorem Gt.map {L : List Int} {C C' : Tree → Int → Prop} {B B' : Nat} (h : Gt L C B) (hb : B ≤ B') (k : ∀ t a', C t a' → C' t a') : Gt L C' B' := by
 obtain ⟨t, a', h1, h2, h3⟩ := h; exact ⟨t, a', k t a' h1, h2, by omega⟩
theorem fR {l : List (List UInt8)} {s : List UInt8} (h : s ∈ l) (hl : l.all (fun x => decide (x.length ≤ 5)) = true) : s.length ≤ 5 := by
 have := List.all_eq_true.1 hl s h; simpa using this
theorem tb0 (k : Int) (s : List UInt8) : tbulk (.node k s [] []) = s.length + 1 := by simp [tbulk, lsum, kbulk]
theorem tb1 (k : Int) (s : List UInt8) (t : Tree) : tbulk (.node k s [] [t]) = s.length + tbulk t + 1 := by simp [tbulk, lsum, kbulk]
theorem tb2 (k : Int) (s : List UInt8) (t u : Tree) : tbulk (.node k s [] [t, u]) = s.length + tbulk t + tbulk u + 1 := by simp [tbulk, lsum, kbulk]; omega
theorem tb3 (k : Int) (s : List UInt8) (t u v : Tree) : tbulk (.node k s [] [t, u, v]) = s.length + tbulk t + tbulk u + tbulk v + 1 := by simp [tbulk, lsum, kbulk]; omega
theorem tbK (k : Int) (s : List UInt8) (l : List Tree) : tbulk (.node k s [] l) = s.length + kbulk l + 1 := by simp [tbulk, lsum]
theorem AL {L : List Int} : ∀ (d : Nat) {a : Int}, Dc L a → d ≤ 100 → Gt L (fun t a' => bW L a d t L a') (6 + d) := fun d => by
 induction d with
 | zero =>
  intro a hd _
  obtain ⟨r, a1, h1, h2, h3⟩ := ef hd (n := 7) (by omega) (by omega)
  have top : ∀ {t a'}, eD 1 0 r L a1 false t L a' → r ≠ 0 → r ≠ 1 → bW L a 0 t L a' := fun h n0 n1 => gx 1 _ _ _ _ _ _ ⟨_, _, _, h1, fun e => absurd e n0, fun _ => by rw [show (r == 1) = false by simpa using n1]; exact h⟩
  by_cases e0 : r = 0 ∨ r = 1
  ·refine ⟨_, a1, gx 1 _ _ _ _ _ _ ⟨_, _, _, h1, fun e => be 0 _ _ _ _ _ _ _ _ ⟨fun _ => ⟨rfl, rfl, rfl⟩, fun h => nomatch h⟩, fun e => be 0 _ _ _ _ _ _ _ _ ⟨fun _ => ⟨rfl, rfl, rfl⟩, fun h => ?_⟩⟩, h3, by rw [tb0]; simp only [List.length_nil]; omega⟩
   rcases e0 with e0 | e0
   ·exact absurd e0 e
   ·rw [e0] at h; cases h
  ·by_cases e2 : r = 2
   ·exact ⟨_, a1, top (be 0 _ _ _ _ _ _ _ _ ⟨fun h => (nomatch h), fun _ => ⟨fun _ => ⟨rfl, rfl, rfl⟩, fun h => absurd e2 h⟩⟩) (by omega) (by omega), h3, by rw [tb0]; simp only [List.length_nil]; omega⟩
   ·by_cases e3 : r = 3
    ·exact ⟨_, a1, top (be 0 _ _ _ _ _ _ _ _ ⟨fun h => (nomatch h), fun _ => ⟨fun h => absurd h e2, fun _ => ⟨fun _ => ⟨rfl, rfl, rfl⟩, fun h => absurd e3 h⟩⟩⟩) (by omega) (by omega), h3, by rw [tb0]; simp only [List.length_nil]; omega⟩
    ·by_cases e4 : r = 4
     ·obtain ⟨s, a2, g1, g2, g3⟩ := ie h3 [[84], [85], [65, 46, 84], [66, 46, 85]] (by decide) (by decide)
      have := fR g2 (by decide)
      exact ⟨_, a2, top (be 0 _ _ _ _ _ _ _ _ ⟨fun h => (nomatch h), fun _ => ⟨fun h => absurd h e2, fun _ => ⟨fun h => absurd h e3, fun _ => ⟨fun _ => ⟨_, _, _, g1, rfl, rfl, rfl⟩, fun h => absurd e4 h⟩⟩⟩⟩) (by omega) (by omega), g3, by rw [tb0]; omega⟩
     ·exact ⟨_, a1, top (be 0 _ _ _ _ _ _ _ _ ⟨fun h => (nomatch h), fun _ => ⟨fun h => absurd h e2, fun _ => ⟨fun h => absurd h e3, fun _ => ⟨fun h => absurd h e4, fun _ => ⟨fun _ => ⟨rfl, rfl, rfl⟩, fun h => by omega⟩⟩⟩⟩⟩) (by omega) (by omega), h3, by rw [tb0]; simp only [List.length_nil]; omega⟩
 | succ d ih =>
  intro a hd hd100
  obtain ⟨r, a1, h1, h2, h3⟩ := ef hd (n := 7) (by omega) (by omega)
  have top : ∀ {t a'}, eD 1 ((d + 1 : Nat) : Int) r L a1 false t L a' → r ≠ 0 → r ≠ 1 → bW L a ((d + 1 : Nat) : Int) t L a' := fun h n0 n1 => gx 1 _ _ _ _ _ _ ⟨_, _, _, h1, fun e => absurd e n0, fun _ => by rw [show (r == 1) = false by simpa using n1]; exact h⟩
  by_cases e0 : r = 0 ∨ r = 1
  ·refine ⟨_, a1, gx 1 _ _ _ _ _ _ ⟨_, _, _, h1, fun e => be 0 _ _ _ _ _ _ _ _ ⟨fun _ => ⟨rfl, rfl, rfl⟩, fun h => nomatch h⟩, fun e => be 0 _ _ _ _ _ _ _ _ ⟨fun _ => ⟨rfl, rfl, rfl⟩, fun h => ?_⟩⟩, h3, by rw [tb0]; simp only [List.length_nil]; omega⟩
   rcases e0 with e0 | e0
   ·exact absurd e0 e
   ·rw [e0] at h; cases h
  ·by_cases e2 : r = 2
   ·exact ⟨_, a1, top (be 0 _ _ _ _ _ _ _ _ ⟨fun h => (nomatch h), fun _ => ⟨fun _ => ⟨rfl, rfl, rfl⟩, fun h => absurd e2 h⟩⟩) (by omega) (by omega), h3, by rw [tb0]; simp only [List.length_nil]; omega⟩
   ·by_cases e3 : r = 3
    ·exact ⟨_, a1, top (be 0 _ _ _ _ _ _ _ _ ⟨fun h => (nomatch h), fun _ => ⟨fun h => absurd h e2, fun _ => ⟨fun _ => ⟨rfl, rfl, rfl⟩, fun h => absurd e3 h⟩⟩⟩) (by omega) (by omega), h3, by rw [tb0]; simp only [List.length_nil]; omega⟩
    ·by_cases e4 : r = 4
     ·obtain ⟨s, a2, g1, g2, g3⟩ := ie h3 [[84], [85], [65, 46, 84], [66, 46, 85]] (by decide) (by decide)
      have := fR g2 (by decide)
      exact ⟨_, a2, top (be 0 _ _ _ _ _ _ _ _ ⟨fun h => (nomatch h), fun _ => ⟨fun h => absurd h e2, fun _ => ⟨fun h => absurd h e3, fun _ => ⟨fun _ => ⟨_, _, _, g1, rfl, rfl, rfl⟩, fun h => absurd e4 h⟩⟩⟩⟩) (by omega) (by omega), g3, by rw [tb0]; omega⟩
     ·obtain ⟨t, a2, g1, g2, g3⟩ := ih h3 (by omega)
      have g1' : bW L a1 (((d + 1 : Nat) : Int) - 1) t L a2 := by rw [show ((d + 1 : Nat) : Int) - 1 = (d : Int) by omega]; exact g1
      exact ⟨_, a2, top (be 0 _ _ _ _ _ _ _ _ ⟨fun h => (nomatch h), fun _ => ⟨fun h => absurd h e2, fun _ => ⟨fun h => absurd h e3, fun _ => ⟨fun h => absurd h e4, fun _ => ⟨fun h => by omega, fun _ => ⟨by omega, _, _, _, g1', rfl, rfl, rfl⟩⟩⟩⟩⟩⟩) (by omega) (by omega), g2, by rw [tb1]; simp only [List.length_nil]; omega⟩
def eB : Nat → Nat
 | 0 => 6
 | d + 1 => 3 * eB d + 20
section
variable {L : List Int} {d a z : Int} {t : Tree} {a' : Int} {m : Nat}
theorem up2 (h0 : z ≠ 0) (h1 : z ≠ 1) (h : fV m d L a z t L a') : bS (m + 2) d L a z t L a' :=
 rL0_semvcsmake_Expr (m + 1) _ _ _ _ _ _ _ ⟨fun e => absurd e h0, fun _ => iS m _ _ _ _ _ _ _ _ ⟨fun e => absurd (eq_of_beq e) h1, fun _ => h⟩⟩
theorem up6 (h2 : z ≠ 2) (h3 : z ≠ 3) (h4 : z ≠ 4) (h5 : z ≠ 5) (h : fL m d L a z t L a') : fV (m + 4) d L a z t L a' :=
 rL2_semvcsmake_Expr (m + 3) _ _ _ _ _ _ _ ⟨fun e => absurd e h2, fun _ => dO (m + 2) _ _ _ _ _ _ _ ⟨fun e => absurd e h3, fun _ => fv (m + 1) _ _ _ _ _ _ _ ⟨fun e => absurd e h4, fun _ => iR m _ _ _ _ _ _ _ ⟨fun e => absurd e h5, fun _ => h⟩⟩⟩⟩
theorem up9 (h6 : z ≠ 6) (h7 : z ≠ 7) (h : ee m d L a z t L a') : fL (m + 2) d L a z t L a' :=
 rL6_semvcsmake_Expr (m + 1) _ _ _ _ _ _ _ ⟨fun e => absurd e h6, fun _ => iW m _ _ _ _ _ _ _ _ ⟨fun e => absurd (eq_of_beq e) h7, fun _ => h⟩⟩
theorem GX (h8 : z ≠ 8) (h : ft m d L a z t L a') : ee (m + 1) d L a z t L a' := mV m _ _ _ _ _ _ _ ⟨fun e => absurd e h8, fun _ => h⟩
theorem IOx (h9 : z ≠ 9) (h : dK m d L a z t L a') : ft (m + 1) d L a z t L a' := me m _ _ _ _ _ _ _ ⟨fun e => absurd e h9, fun _ => h⟩
theorem IU (h10 : z ≠ 10) (h11 : z ≠ 11) (h : fo m d L a z t L a') : dK (m + 2) d L a z t L a' :=
 rL14_semvcsmake_Expr (m + 1) _ _ _ _ _ _ _ ⟨fun e => absurd e h10, fun _ => iG m _ _ _ _ _ _ _ _ ⟨fun e => absurd (eq_of_beq e) h11, fun _ => h⟩⟩
end
theorem uH {L : List Int} {d a z : Int} (M : Nat) (hd : Dc L a) (h0 : 0 ≤ z) (h5 : z ≤ 5) : Gt L (fun t a' => bS (M + 8) d L a z t L a') 6 := by
 by_cases e0 : z = 0 ∨ z = 1
 ·obtain ⟨s, a2, g1, g2, g3⟩ := ie hd [[120], [121], [122]] (by decide) (by decide)
  have := fR g2 (by decide)
  refine ⟨_, a2, rL0_semvcsmake_Expr (M + 7) _ _ _ _ _ _ _ ⟨fun e => iS (M + 6) _ _ _ _ _ _ _ _ ⟨fun _ => ⟨_, _, _, g1, rfl, rfl, rfl⟩, fun h => nomatch h⟩, fun e => iS (M + 6) _ _ _ _ _ _ _ _ ⟨fun _ => ⟨_, _, _, g1, rfl, rfl, rfl⟩, fun h => ?_⟩⟩, g3, by rw [tb0]; omega⟩
  rcases e0 with e0 | e0
  ·exact absurd e0 e
  ·rw [e0] at h; exact absurd h (by decide)
 have n0 : z ≠ 0 := by omega
 have n1 : z ≠ 1 := by omega
 by_cases e2 : z = 2
 ·obtain ⟨s, a2, g1, g2, g3⟩ := ie hd [[48], [49], [50], [49, 48]] (by decide) (by decide)
  have := fR g2 (by decide)
  exact ⟨_, a2, up2 n0 n1 (rL2_semvcsmake_Expr (M + 5) _ _ _ _ _ _ _ ⟨fun _ => ⟨_, _, _, g1, rfl, rfl, rfl⟩, fun h => absurd e2 h⟩), g3, by rw [tb0]; omega⟩
 by_cases e3 : z = 3
 ·obtain ⟨s, a2, g1, g2, g3⟩ := ie hd [[34, 34], [34, 97, 34], [34, 35, 32, 98, 34]] (by decide) (by decide)
  have := fR g2 (by decide)
  exact ⟨_, a2, up2 n0 n1 (rL2_semvcsmake_Expr (M + 5) _ _ _ _ _ _ _ ⟨fun h => absurd h e2, fun _ => dO (M + 4) _ _ _ _ _ _ _ ⟨fun _ => ⟨_, _, _, g1, rfl, rfl, rfl⟩, fun h => absurd e3 h⟩⟩), g3, by rw [tb0]; omega⟩
 by_cases e4 : z = 4
 ·obtain ⟨r, a2, g1, g2, g3⟩ := ef hd (n := 2) (by omega) (by omega)
  exact ⟨_, a2, up2 n0 n1 (rL2_semvcsmake_Expr (M + 5) _ _ _ _ _ _ _ ⟨fun h => absurd h e2, fun _ => dO (M + 4) _ _ _ _ _ _ _ ⟨fun h => absurd h e3, fun _ => fv (M + 3) _ _ _ _ _ _ _ ⟨fun _ => ⟨_, _, _, g1, by omega, rfl, rfl, rfl⟩, fun h => absurd e4 h⟩⟩⟩), g3, by rw [tb0]; simp only [List.length_nil]; omega⟩
 have e5 : z = 5 := by omega
 obtain ⟨r, a2, g1, g2, g3⟩ := ef hd (n := 3) (by omega) (by omega)
 by_cases er : r = 0
 ·exact ⟨_, a2, up2 n0 n1 (rL2_semvcsmake_Expr (M + 5) _ _ _ _ _ _ _ ⟨fun h => absurd h e2, fun _ => dO (M + 4) _ _ _ _ _ _ _ ⟨fun h => absurd h e3, fun _ => fv (M + 3) _ _ _ _ _ _ _ ⟨fun h => absurd h e4, fun _ => iR (M + 2) _ _ _ _ _ _ _ ⟨fun _ => ⟨_, _, _, g1, fun _ => ⟨rfl, rfl, rfl⟩, fun h => absurd er h⟩, fun h => absurd e5 h⟩⟩⟩⟩), g3, by rw [tb0]; simp only [List.length_nil]; omega⟩
 ·exact ⟨_, a2, up2 n0 n1 (rL2_semvcsmake_Expr (M + 5) _ _ _ _ _ _ _ ⟨fun h => absurd h e2, fun _ => dO (M + 4) _ _ _ _ _ _ _ ⟨fun h => absurd h e3, fun _ => fv (M + 3) _ _ _ _ _ _ _ ⟨fun h => absurd h e4, fun _ => iR (M + 2) _ _ _ _ _ _ _ ⟨fun _ => ⟨_, _, _, g1, fun h => absurd h er, fun _ => ⟨rfl, rfl, rfl⟩⟩, fun h => absurd e5 h⟩⟩⟩⟩), g3, by rw [tb0]; simp⟩
theorem zH {L : List Int} {a : Int} (hd : Dc L a) : Gt L (fun t a' => aM L a 0 t L a') 6 := by
 obtain ⟨r, a1, h1, h2, h3⟩ := ef hd (n := 14) (by omega) (by omega)
 by_cases e1 : 5 < r
 ·by_cases e2 : 5 < r - 6
  ·exact (uH 0 (d := 0) h3 (z := 0) (by omega) (by omega)).map (Nat.le_refl _) fun t a' h => fK 8 _ _ _ _ _ _ ⟨_, _, _, h1, fun _ => ⟨fun _ => ⟨by omega, fun _ => h, fun h' => absurd e2 h'⟩, fun h' => absurd e1 h'⟩, fun h' => by omega⟩
  ·exact (uH 0 (d := 0) h3 (z := r - 6) (by omega) (by omega)).map (Nat.le_refl _) fun t a' h => fK 8 _ _ _ _ _ _ ⟨_, _, _, h1, fun _ => ⟨fun _ => ⟨by omega, fun h' => absurd h' e2, fun _ => h⟩, fun h' => absurd e1 h'⟩, fun h' => by omega⟩
 ·exact (uH 0 (d := 0) h3 (z := r) (by omega) (by omega)).map (Nat.le_refl _) fun t a' h => fK 8 _ _ _ _ _ _ ⟨_, _, _, h1, fun _ => ⟨fun h' => absurd h' e1, fun _ => h⟩, fun h' => by omega⟩
theorem ux {L : List Int} {k : Int} {B : Nat} {a : Int} (h : Gt L (fun t a' => aM L a k t L a') B) : Gt L (fun t a' => dy L a k t L a') (B + 1) := by
 obtain ⟨t, a2, g1, g2, g3⟩ := h
 cases hu : rC t.kind with
 | true => exact ⟨t, a2, nO 0 _ _ _ _ _ _ ⟨_, _, _, g1, _, sb _, fun h => absurd (hu.symm.trans h) (by decide), fun _ => ⟨rfl, rfl, rfl⟩⟩, g2, by omega⟩
 | false => exact ⟨_, a2, nO 0 _ _ _ _ _ _ ⟨_, _, _, g1, _, sb _, fun _ => ⟨rfl, rfl, rfl⟩, fun h => absurd (hu.symm.trans h) (by decide)⟩, g2, by rw [tb1]; simp only [List.length_nil]; omega⟩
theorem Cu : ∀ d, 6 ≤ eB d
 | 0 => Nat.le_refl _
 | d + 1 => by have := Cu d; simp only [eB]; omega
theorem FW {L : List Int} : ∀ (d : Nat) {a : Int}, Dc L a → d ≤ 5 → Gt L (fun t a' => aM L a d t L a') (eB d) := fun d => by
 induction d with
 | zero => intro a hd _; exact zH hd
 | succ d ih =>
  intro a hd hd5
  obtain ⟨z, a1, h1, h2, h3⟩ := ef hd (n := 14) (by omega) (by omega)
  have top : ∀ {M t a'}, bS M ((d + 1 : Nat) : Int) L a1 z t L a' → aM L a ((d + 1 : Nat) : Int) t L a' := fun {M} {t} {a'} h => fK M _ _ _ _ _ _ ⟨_, _, _, h1, fun h' => by omega, fun _ => h⟩
  have sub : ∀ {a}, Dc L a → Gt L (fun t a' => aM L a (((d + 1 : Nat) : Int) - 1) t L a') (eB d) := fun {a} h => by rw [show ((d + 1 : Nat) : Int) - 1 = (d : Int) by omega]; exact ih h (by omega)
  have hB : eB (d + 1) = 3 * eB d + 20 := rfl
  have hp := Cu d
  by_cases c5 : z ≤ 5
  ·exact (uH 0 (d := ((d + 1 : Nat) : Int)) h3 (by omega) c5).map (by omega) fun t a' h => top h
  have n0 : z ≠ 0 := by omega
  have n1 : z ≠ 1 := by omega
  have n2 : z ≠ 2 := by omega
  have n3 : z ≠ 3 := by omega
  have n4 : z ≠ 4 := by omega
  have n5 : z ≠ 5 := by omega
  by_cases c7 : z ≤ 7
  · -- a call
   obtain ⟨s, a2, g1, g2, g3⟩ := ie h3 [[102], [103], [104], [65, 46, 102], [66, 46, 103], [65, 46, 104]] (by decide) (by decide)
   have hs := fR g2 (by decide)
   obtain ⟨n, a3, g4, g5, g6⟩ := ef g3 (n := 4) (by omega) (by omega)
   have loop : ∀ (k : Nat) (a : Int) (l : List Tree), Dc L a → l.length + k ≤ 100 → Gt L (fun t a' => fw (k + 1) ((d + 1 : Nat) : Int) s L a l (k : Int) t L a') (s.length + 1 + kbulk l + k * (eB d + 1)) := fun k => by
    induction k with
    | zero => intro a l hd hl; exact ⟨_, a, lZ 0 _ _ _ _ _ _ _ _ _ ⟨fun h => by omega, fun _ => ⟨rfl, rfl, rfl⟩⟩, hd, by rw [tbK]; omega⟩
    | succ k ihk =>
     intro a l hd hl
     obtain ⟨t, b, q1, q2, q3⟩ := sub hd
     refine (ihk b (l ++ [.node 17 [] [] [t]]) q2 (by simp; omega)).map ?_ fun t' a' h => lZ (k + 1) _ _ _ _ _ _ _ _ _ ⟨fun _ => ⟨by omega, _, _, _, q1, by simp; omega, by omega, by rw [show ((k + 1 : Nat) : Int) - 1 = (k : Int) by omega]; exact h⟩, fun h => by omega⟩
     rw [ec, Nat.succ_mul]; simp only [kbulk, tb1, List.length_nil]
     omega
   refine (loop n.toNat a3 [] g6 (by simp; omega)).map (by
    have : n.toNat * (eB d + 1) ≤ 3 * (eB d + 1) := Nat.mul_le_mul_right _ (by omega)
    simp only [kbulk]; omega) fun t a' h => ?_
   have h8 : jv (n.toNat + 2) ((d + 1 : Nat) : Int) L a1 t L a' := rM (n.toNat + 1) _ _ _ _ _ _ ⟨_, _, _, g1, _, _, _, g4, by rw [show n = ((n.toNat : Nat) : Int) by omega]; exact h⟩
   refine top (up2 n0 n1 (up6 n2 n3 n4 n5 (rL6_semvcsmake_Expr (n.toNat + 3) _ _ _ _ _ _ _ ⟨fun _ => iW (n.toNat + 2) _ _ _ _ _ _ _ _ ⟨fun _ => h8, fun h => nomatch h⟩, fun h => iW (n.toNat + 2) _ _ _ _ _ _ _ _ ⟨fun _ => h8, fun h' => ?_⟩⟩)))
   have : z ≠ 7 := by simpa using h'
   omega
  have n6 : z ≠ 6 := by omega
  have n7 : z ≠ 7 := by omega
  have t9 : ∀ {M t a'}, ee M ((d + 1 : Nat) : Int) L a1 z t L a' → aM L a ((d + 1 : Nat) : Int) t L a' := fun h => top (up2 n0 n1 (up6 n2 n3 n4 n5 (up9 n6 n7 h)))
  by_cases c8 : z = 8
  · -- a list
   obtain ⟨n, a3, g4, g5, g6⟩ := ef h3 (n := 3) (by omega) (by omega)
   have loop : ∀ (k : Nat) (a : Int) (l : List Tree), Dc L a → l.length + k ≤ 100 → Gt L (fun t a' => fq (k + 1) ((d + 1 : Nat) : Int) L a l (k : Int) t L a') (1 + kbulk l + k * (eB d)) := fun k => by
    induction k with
    | zero => intro a l hd hl; exact ⟨_, a, mr 0 _ _ _ _ _ _ _ _ ⟨fun h => by omega, fun _ => ⟨rfl, rfl, rfl⟩⟩, hd, by rw [tbK]; simp only [List.length_nil]; omega⟩
    | succ k ihk =>
     intro a l hd hl
     obtain ⟨t, b, q1, q2, q3⟩ := sub hd
     refine (ihk b (l ++ [t]) q2 (by simp; omega)).map ?_ fun t' a' h => mr (k + 1) _ _ _ _ _ _ _ _ ⟨fun _ => ⟨by omega, _, _, _, q1, by simp; omega, by omega, by rw [show ((k + 1 : Nat) : Int) - 1 = (k : Int) by omega]; exact h⟩, fun h => by omega⟩
     rw [ec, Nat.succ_mul]; simp only [kbulk]
     omega
   exact (loop (1 + n).toNat a3 [] g6 (by simp; omega)).map (by
    have : (1 + n).toNat * eB d ≤ 3 * eB d := Nat.mul_le_mul_right _ (by omega)
    simp only [kbulk]; omega) fun t a' h => t9 (mV ((1 + n).toNat + 1) _ _ _ _ _ _ _ ⟨fun _ => ⟨_, _, _, g4, by omega, by rw [show (((1 + n).toNat : Nat) : Int) = 1 + n by omega] at h; exact h⟩, fun h' => absurd c8 h'⟩)
  by_cases c9 : z = 9
  ·obtain ⟨t1, b1, q1, r1, s1⟩ := sub h3
   obtain ⟨t2, b2, q2, r2, s2⟩ := sub r1
   obtain ⟨t3, b3, q3, r3, s3⟩ := sub r2
   exact ⟨_, b3, t9 (GX c8 (me 1 _ _ _ _ _ _ _ ⟨fun _ => rf 0 _ _ _ _ _ _ ⟨by omega, _, _, _, q1, by omega, _, _, _, q2, by omega, _, _, _, q3, rfl, rfl, rfl⟩, fun h => absurd c9 h⟩)), r3, by rw [tb3]; simp only [List.length_nil]; omega⟩
  have t14 : ∀ {M t a'}, dK M ((d + 1 : Nat) : Int) L a1 z t L a' → aM L a ((d + 1 : Nat) : Int) t L a' := fun h => t9 (GX c8 (IOx c9 h))
  by_cases c11 : z ≤ 11
  ·obtain ⟨s, b0, g1, g2, g3⟩ := ie h3 [[120], [121], [122]] (by decide) (by decide)
   have hs := fR g2 (by decide)
   obtain ⟨t1, b1, q1, r1, s1⟩ := sub g3
   obtain ⟨t2, b2, q2, r2, s2⟩ := sub r1
   refine ⟨.node 20 s [] [t1, t2], b2, ?_, r2, by rw [tb2]; omega⟩
   have h16 : iU 1 ((d + 1 : Nat) : Int) L a1 (.node 20 s [] [t1, t2]) L b2 := ra 0 _ _ _ _ _ _ ⟨_, _, _, g1, by omega, _, _, _, q1, by omega, _, _, _, q2, rfl, rfl, rfl⟩
   refine t14 (rL14_semvcsmake_Expr 2 _ _ _ _ _ _ _ ⟨fun _ => iG 1 _ _ _ _ _ _ _ _ ⟨fun _ => h16, fun h => nomatch h⟩, fun h => iG 1 _ _ _ _ _ _ _ _ ⟨fun _ => h16, fun h' => ?_⟩⟩)
   have : z ≠ 11 := by simpa using h'
   omega
  have t17 : ∀ {M t a'}, fo M ((d + 1 : Nat) : Int) L a1 z t L a' → aM L a ((d + 1 : Nat) : Int) t L a' := fun h => t14 (IU (by omega) (by omega) h)
  by_cases c12 : z = 12
  ·obtain ⟨s, b0, g1, g2, g3⟩ := ie h3 [[43], [45], [42], [60], [61, 61]] (by decide) (by decide)
   have hs := fR g2 (by decide)
   obtain ⟨t1, b1, q1, r1, s1⟩ := ux (sub g3)
   obtain ⟨n, b2, q2, q3, q4⟩ := ef r1 (n := 3) (by omega) (by omega)
   by_cases hn : n = 0
   ·obtain ⟨s', b3, g4, g5, g6⟩ := ie q4 [[43], [42]] (by decide) (by decide)
    have hs' := fR g5 (by decide)
    obtain ⟨t2, b4, q5, r5, s5⟩ := ux (zH g6)
    obtain ⟨t3, b5, q6, r6, s6⟩ := ux (sub r5)
    exact ⟨_, b5, t17 (iC 1 _ _ _ _ _ _ _ ⟨fun _ => mq 0 _ _ _ _ _ _ ⟨_, _, _, g1, by omega, _, _, _, q1, _, _, _, q2, fun _ => ⟨_, _, _, g4, _, _, _, q5, by omega, _, _, _, q6, rfl, rfl, rfl⟩, fun h => absurd hn h⟩, fun h => absurd c12 h⟩), r6, by rw [tb2, tb2]; omega⟩
   ·obtain ⟨t3, b5, q6, r6, s6⟩ := ux (sub q4)
    exact ⟨_, b5, t17 (iC 1 _ _ _ _ _ _ _ ⟨fun _ => mq 0 _ _ _ _ _ _ ⟨_, _, _, g1, by omega, _, _, _, q1, _, _, _, q2, fun h => absurd h hn, fun _ => ⟨by omega, _, _, _, q6, rfl, rfl, rfl⟩⟩, fun h => absurd c12 h⟩), r6, by rw [tb2]; omega⟩
  ·obtain ⟨t1, b1, q1, r1, s1⟩ := sub h3
   exact ⟨_, b1, t17 (iC 1 _ _ _ _ _ _ _ ⟨fun h => absurd h c12, fun _ => ⟨by omega, _, _, _, q1, rfl, rfl, rfl⟩⟩), r1, by rw [tb1]; simp only [List.length_nil]; omega⟩
end Go.Proofs.YthnohcipianijaaGreatDoor
namespace Go.Proofs.YthnohcipianijaaGreatDoor
open Go.RowKit Lx
set_option maxRecDepth 100000
def iz : Bool → List UInt8 → Bool
 | c, [] => c
 | c, x :: r => iz (if x.toNat = 10 then false else if x.toNat = 35 then true else c) r
theorem mC : ∀ (b : Bool) (l : List UInt8) (n m : Nat), aK b l (n + m) = ((aK b l n).1 + m, (aK b l n).2.map (· + m))
 | b, [], n, m => by cases b <;> simp [aK]
 | false, c :: r, n, m => by
  have h1 := mC false r (n + 1) m
  have h2 := mC true r (n + 1) m
  unfold aK
  split
  ·rw [← h1]; congr 1; omega
  ·split
   ·rw [← h2]; congr 1; omega
   ·simp
 | true, c :: r, n, m => by
  have h1 := mC false r (n + 1) m
  have h2 := mC true r (n + 1) m
  unfold aK
  split
  ·rw [← h1]; congr 1; omega
  ·split
   ·simp
   ·rw [← h2]; congr 1; omega
def iJ (c : Bool) (l : List UInt8) : Bool := (aK c l 0).2.isNone && (aK c l 0).1 == l.length
theorem nI {c d : Bool} {x : UInt8} {r : List UInt8} (h : aK c (x :: r) 0 = aK d r 1) : iJ c (x :: r) = iJ d r := by
 unfold iJ
 rw [h, show (1 : Nat) = 0 + 1 from rfl, mC]
 simp
theorem uL : ∀ (l : List UInt8) (c fin : Bool), fH c l fin = (iJ c l && (!iz c l || fin))
 | [], c, fin => by cases c <;> cases fin <;> rfl
 | x :: r, c, fin => by
  have ih := uL r
  unfold fH iz
  cases c with
  | true =>
   by_cases ha : aN x = false
   ·have h10 : ¬ x.toNat = 10 := fun h => by simp [aN, bC, h] at ha
    have : iJ true (x :: r) = false := by simp [iJ, aK, h10, ha]
    rw [if_pos ha, this]; rfl
   ·have ha' : aN x = true := by simpa using ha
    rw [if_neg ha, if_pos rfl, ih]
    by_cases h10 : x.toNat = 10
    ·rw [nI (d := false) (by simp [aK, h10])]; simp [h10]
    ·have hb : (x.toNat == 10) = false := by simpa using h10
     rw [nI (d := true) (by simp [aK, h10, ha']), hb]; simp [h10]
  | false =>
   by_cases ha : aN x = false
   ·have hw : bC x = false := by cases h : bC x <;> simp_all [aN]
    have h35 : ¬ x.toNat = 35 := fun h => by simp [aN, cX, h] at ha
    have : iJ false (x :: r) = false := by simp [iJ, aK, hw, h35]
    rw [if_pos ha, this]; rfl
   ·rw [if_neg ha, if_neg (by simp)]
    by_cases h35 : x.toNat = 35
    ·have hw : bC x = false := by simp [bC, h35]
     rw [if_pos h35, ih, nI (d := true) (by simp [aK, h35, hw])]; simp [h35]
    ·rw [if_neg h35]
     by_cases hw : bC x = false
     ·have : iJ false (x :: r) = false := by simp [iJ, aK, hw, h35]
      rw [if_pos hw, this]; rfl
     ·have hw' : bC x = true := by simpa using hw
      rw [if_neg hw, ih, nI (d := false) (by simp [aK, hw'])]
      by_cases h10 : x.toNat = 10 <;> simp [h10, h35]
theorem we {l : List UInt8} {k : Nat} {x : UInt8} {c : Bool} (h : k < l.length) (hc : l[k] = x) : iz c (l.drop k) = iz (if x.toNat = 10 then false else if x.toNat = 35 then true else c) (l.drop (k + 1)) := by
 rw [List.drop_eq_getElem_cons h, hc]; rfl
theorem xm {l : List UInt8} {k : Nat} {c : Bool} (h : l.length ≤ k) : iz c (l.drop k) = c := by
 rw [List.drop_of_length_le h]; rfl
end Go.Proofs.YthnohcipianijaaGreatDoor
namespace Go.Proofs.YthnohcipianijaaGreatDoor
open Go.RowKit Lx
set_option maxRecDepth 100000
set_option maxHeartbeats 1000000 in
theorem EH (l : List UInt8) (fin : Bool) (w : World) (hl : l.length ≤ 281474976710656) : Calls Tryz.prog 138 #[.string ⟨l.toArray⟩, .bool fin] w fun e w' => e = .returned (.bool (fH false l fin)) ∧ w = w' := by
  obtain ⟨n, b, hLd⟩ : ∃ n b, aK false l 0 = (n, b) := ⟨_, _, rfl⟩
  have hnl : n ≤ l.length := by have h := ny false l 0; rw [hLd] at h; simpa using h
  have HLd := Lib.hid hLd
  have HW := Lib.hid (show iJ false l = (b.isNone && n == l.length) from by rw [iJ, hLd])
  have HT := Lib.hid (uL l false fin)
  clear hLd
  go_enter Tryz.func138, Tryz.ntmps138
  go_wp2_with fail
  refine (Eu l 0 0 rfl _ (Nat.zero_le _) hl).mono ?_
  rintro e w' ⟨rfl, rfl⟩
  rw [List.drop_zero, HLd.out]
  cases b with
  | some q =>
    have hq2 : tw 0 (some q) = ((0 + q : Nat) : Int) := rfl
    rw [hq2, Nat.zero_add]
    have hq : (0 : Int) ≤ (q : Int) := by omega
    have HF := Lib.hid (show fH false l fin = false from by rw [HT.out, HW.out]; rfl)
    go_wp2
    go_ret
    exact ⟨bk HF.out.symm, rfl⟩
  | none =>
    have hq2 : tw 0 none = -1 := rfl
    rw [hq2]
    clear hq2
    by_cases hn : n < l.length
    · have HF := Lib.hid (show fH      false l fin = false from by rw [HT.out, HW.out]; have : (n == l.length) = false := by simp; omega
                                                                   rw [this]; rfl)
      go_wp2
      go_ret
      exact ⟨bk HF.out.symm, rfl⟩
    · have hnb : decide (n < l.length) = false := by simpa using hn
      have HF := Lib.hid (show fH false l fin = (!iz false l || fin) from by
        rw [HT.out, HW.out]; have : (n == l.length) = true := by simp; omega
        rw [this]; rfl)
      cases fin with
      | true =>
        go_wp2
        go_ret
        exact ⟨bk (by rw [HF.out]; simp), rfl⟩
      | false =>
        obtain ⟨r, hr⟩ : ∃ r, iz false l = r := ⟨_, rfl⟩
        have HR := Lib.hid hr; clear hr
        go_wp2
        go_loopg [7, 8] l.length (fun g s7 s8 wx => ∃ (i : Nat) (c : Bool), g = l.length - i ∧ wx = w ∧ i ≤ l.length ∧ s7 = .bool c ∧ s8 = .int .i64 i ∧ Hid (iz c (l.drop i) = r))
        case atStart => exact ⟨0, false, rfl, rfl, Nat.zero_le _, rfl, rfl, Lib.hid (by simpa using HR.out)⟩
        case round =>
          obtain ⟨i, c, rfl, rfl, hil, rfl, rfl, HC⟩ := hrel
          by_cases hit : i < l.length
          rotate_left
          · have HF2 := Lib.hid (show c = r from by rw [← HC.out, xm (by omega)])
            go_wp2_with fail
            go_ret
            exact ⟨bk (by rw [HF.out, HR.out, HF2.out]; simp), rfl⟩
          obtain ⟨x, hx⟩ : ∃ c, ({ data := l.toArray } : ByteArray)[i]'hit = c := ⟨_, rfl⟩
          have HXi := Lib.hid (show l[i] = x from hx)
          have HS := Lib.hid (HC.out.symm.trans (we hit HXi.out))
          clear HC
          cases h35 : ((x.toNat : Int) == 35) <;> cases h10 : ((x.toNat : Int) == 10)
          · go_wp2
            go_roundg (l.length - (i + 1))
            case measure => omega
            case rel => exact ⟨i + 1, c, rfl, rfl, by omega, rfl, by go_num, Lib.hid (by rw [HS.out, if_neg (bE (m := 10) h10), if_neg (bE (m := 35) h35)])⟩
          · go_wp2
            go_roundg (l.length - (i + 1))
            case measure => omega
            case rel => exact ⟨i + 1, false, rfl, rfl, by omega, rfl, by go_num, Lib.hid (by rw [HS.out, if_pos (cF (m := 10) h10)])⟩
          · go_wp2
            go_roundg (l.length - (i + 1))
            case measure => omega
            case rel => exact ⟨i + 1, true, rfl, rfl, by omega, rfl, by go_num, Lib.hid (by rw [HS.out, if_neg (bE (m := 10) h10), if_pos (cF (m := 35) h35)])⟩
          · have h1 := cF (m := 10) h10
            have h2 := cF (m := 35) h35
            omega
end Go.Proofs.YthnohcipianijaaGreatDoor
namespace Go.Proofs.YthnohcipianijaaGreatDoor
open Go.RowKit Lx
set_option maxRecDepth 100000
theorem DW (a b : List UInt8) : (ByteArray.mk a.toArray) ++ (ByteArray.mk b.toArray) = ⟨(a ++ b).toArray⟩ := by
 apply ByteArray.ext; simp
theorem vA {a b : List UInt8} (h : aU a = 0 ∨ aU b = 0) : fusesT a b = false := by simp [fusesT, h]
theorem oW {a b : List UInt8} (h : ¬ (aU a = 0 ∨ aU b = 0)) (h2 : ¬ ((scan (a ++ b)).err = 0 ∧ (scan (a ++ b)).toks.length = 2 ∧ (scan (a ++ b)).tail = [])) : fusesT a b = true := by
 unfold fusesT; rw [if_neg h]; simp only; rw [if_neg h2]
theorem AA {a b : List UInt8} {t0 t1 : TokZ} (h : ¬ (aU a = 0 ∨ aU b = 0)) (h1 : (scan (a ++ b)).err = 0) (h2 : (scan (a ++ b)).toks = [t0, t1]) (h3 : (scan (a ++ b)).tail = []) :
  fusesT a b = !(t0.lead == [] && t0.text == a && t1.lead == [] && t1.text == b) := by
 unfold fusesT; rw [if_neg h]; simp only; rw [h1, h2, h3]; simp
theorem Ax {l : List UInt8} {b : Bool} (h : (l == []) = b) : l.isEmpty = b := by rw [← h]; cases l <;> rfl
theorem wJ {l : List TokZ} (h : l.length = 2) : ∃ t0 t1, l = [t0, t1] := by
 match l, h with
 | [a, b], _ => exact ⟨a, b, rfl⟩
set_option maxHeartbeats 2000000 in
theorem Hx (a b : List UInt8) (w : World) (ha : a.length ≤ 140737488355328) (hb : b.length ≤ 140737488355328) : Calls Tryz.prog 96 #[.string ⟨a.toArray⟩, .string ⟨b.toArray⟩] w fun e w' => e = .returned (.bool (fusesT a b)) ∧ Ext w w' := by
 have hx := DW
 obtain ⟨ka, hka⟩ : ∃ k, aU a = k := ⟨_, rfl⟩
 obtain ⟨kb, hkb⟩ : ∃ k, aU b = k := ⟨_, rfl⟩
 have HKa := Lib.hid hka
 have HKb := Lib.hid hkb
 clear hka hkb
 go_enter Tryz.func96, Tryz.ntmps96
 go_wp2_with fail
 refine (xV _ _ (by omega)).mono ?_
 rintro e1 w1 ⟨rfl, hx1⟩
 rw [HKa.out]
 have HX1 := Lib.hid hx1; clear hx1
 by_cases h1 : ka = 0
 ·subst h1
  go_wp2_with fail
  go_ret
  exact ⟨bk (vA (.inl HKa.out)).symm, HX1.out⟩
 have h1b : ((ka : Int) == 0) = false := by simp; omega
 go_wp2_with fail
 refine (xV _ _ (by omega)).mono ?_
 rintro e2 w2 ⟨rfl, hx2⟩
 rw [HKb.out]
 have HX2 := Lib.hid (HX1.out.trans hx2); clear hx2
 by_cases h2 : kb = 0
 ·subst h2
  go_wp2_with fail
  go_ret
  exact ⟨bk (vA (.inr HKb.out)).symm, HX2.out⟩
 have h2b : ((kb : Int) == 0) = false := by simp; omega
 have HN := Lib.hid (show ¬ (aU a = 0 ∨ aU b = 0) from by rw [HKa.out, HKb.out]; omega)
 obtain ⟨Rs, hRs⟩ : ∃ Rs, scan (a ++ b) = Rs := ⟨_, rfl⟩
 have HRs := Lib.hid hRs
 clear hRs
 go_wp2_with fail
 refine (Ie _ _ (by simp; omega)).mono ?_
 rintro e3 w3 ⟨v, rfl, htr, hx3⟩
 rw [HRs.out] at htr ⊢
 obtain ⟨A, c, rfl, hc1, hc2, hrow⟩ := htr
 unfold maxLen at hc2
 have HX3 := Lib.hid (HX2.out.trans hx3); clear hx3
 have HRow := Lib.hid hrow; clear hrow
 obtain ⟨toks, tail, place, er⟩ := Rs
 simp only at HRow hc1 hc2 ⊢
 by_cases h3 : er = 0
 rotate_left
 ·have h3b : ((er : Int) != 0) = true := by simp; omega
  have HF := Lib.hid (oW HN.out (fun h => h3 (by rw [HRs.out] at h; exact h.1)))
  go_wp2_with fail
  go_ret
  exact ⟨bk HF.out.symm, HX3.out⟩
 subst h3
 by_cases h4 : toks.length = 2
 rotate_left
 ·have h4b : ((toks.length : Int) != 2) = true := by simp; omega
  have HF := Lib.hid (oW HN.out (fun h => h4 (by rw [HRs.out] at h; exact h.2.1)))
  go_wp2_with fail
  go_ret
  exact ⟨bk HF.out.symm, HX3.out⟩
 by_cases h5 : tail = []
 rotate_left
 ·have h5b : (tail == []) = false := by simpa using h5
  have h5c : tail.isEmpty = false := by simpa using h5
  obtain ⟨t0, t1, rfl⟩ := wJ h4
  have HF := Lib.hid (oW HN.out (fun h => h5 (by rw [HRs.out] at h; exact h.2.2)))
  clear h5 h4
  go_wp2_with fail
  go_ret
  exact ⟨bk HF.out.symm, HX3.out⟩
 subst h5
 obtain ⟨t0, t1, rfl⟩ := wJ h4
 clear h4
 obtain ⟨b0, off, rfl, hb0, p0, p1, p2⟩ := vM HRow.out (k := 0) (by simp)
 obtain ⟨b0', off', heq, _, q0, q1, q2⟩ := vM HRow.out (k := 1) (by simp)
 obtain ⟨rfl, rfl⟩ : b0 = b0' ∧ off = off' := by simpa using heq
 clear heq
 have HF := Lib.hid (AA HN.out (by rw [HRs.out]) (by rw [HRs.out]) (by rw [HRs.out]))
 simp only [Nat.zero_mul, Nat.one_mul, Nat.add_zero, List.getElem_cons_zero, List.getElem_cons_succ] at p0 p1 p2 q0 q1 q2
 cases g1 : (t0.text == a)
 ·skip
  go_wp2_with fail
  go_ret
  exact ⟨bk (by rw [HF.out, g1]; simp), HX3.out⟩
 cases g0 : (t0.lead == [])
 ·skip
  have g0' : t0.lead.isEmpty = false := by simpa using g0
  go_wp2_with fail
  go_ret
  exact ⟨bk (by rw [HF.out, g1, g0]; simp), HX3.out⟩
 have g0' : t0.lead.isEmpty = true := by simpa using g0
 cases g3 : (t1.text == b)
 ·skip
  go_wp2_with fail
  go_ret
  exact ⟨bk (by rw [HF.out, g1, g0, g3]; simp), HX3.out⟩
 cases g2 : (t1.lead == [])
 all_goals
  have g2' := Ax g2
  go_wp2_with fail
  go_ret
  exact ⟨bk (by rw [HF.out, g1, g0, g3, g2]; simp), HX3.out⟩
end Go.Proofs.YthnohcipianijaaGreatDoor
namespace Go.Proofs.YthnohcipianijaaGreatDoor
open Go.RowKit Lx Sx
set_option maxHeartbeats 1000000
theorem DM (a b : List UInt8) (ha : a.length ≤ 140737488355328) (hb : b.length ≤ 140737488355328) : mW a b (fusesT a b) := sum0_calls rfl rfl fun S w ρ xs hx => by
 simp only [LRel] at hx
 obtain ⟨x, ys, rfl, h1, y, zs, rfl, h2, rfl⟩ := hx
 simp only [VRel] at h1 h2; subst h1 h2
 exact (Hx a b w ha hb).mono fun e w' ⟨h1, h2⟩ => ⟨_, h1, by simp only [VRel], vb h2⟩
theorem vX (a : List UInt8) (f : Bool) (ha : a.length ≤ 140737488351232) : iH a f (fH false a f) := sum0_calls rfl rfl fun S w ρ xs hx => by
 simp only [LRel] at hx
 obtain ⟨x, ys, rfl, h1, y, zs, rfl, h2, rfl⟩ := hx
 simp only [VRel] at h1 h2; subst h1 h2
 exact (EH a f w (by omega)).mono fun e w' ⟨h1, h2⟩ => ⟨_, h1, by simp only [VRel], h2 ▸ Chg.refl _ _⟩
abbrev Pce := aa
def Qp (l : List Pce) : Prop := ∀ x ∈ l, x.Lead.length ≤ 1000000 ∧ x.Text.length ≤ 1000010
theorem bH {a b : List Pce} : Qp (a ++ b) ↔ Qp a ∧ Qp b := ⟨fun h => ⟨fun x hx => h x (by simp [hx]), fun x hx => h x (by simp [hx])⟩, fun h x hx => by rcases List.mem_append.1 hx with h1 | h1; exact h.1 x h1; exact h.2 x h1⟩
theorem bq {x : Pce} {a : List Pce} : Qp (x :: a) ↔ (x.Lead.length ≤ 1000000 ∧ x.Text.length ≤ 1000010) ∧ Qp a := ⟨fun h => ⟨h x (by simp), fun y hy => h y (by simp [hy])⟩, fun h y hy => by rcases List.mem_cons.1 hy with h1 | h1; subst h1; exact h.1; exact h.2 y h1⟩
theorem bD : Qp [] := fun x hx => by cases hx
theorem bc {t : Tree} (k : Nat) (ht : tbulk t ≤ 1000000) : ∃ s, ak t (k : Int) s ∧ s.length ≤ 1000000 := by
 by_cases h : (k : Int) < (t.leads.length : Nat)
 ·obtain ⟨s, hs, _⟩ | h' := az t.leads k
  ·have := tR hs
   have := bx t
   exact ⟨s, mX 0 _ _ _ ⟨fun _ => ⟨k, rfl, s, hs, rfl⟩, fun h' => absurd h h'⟩, by omega⟩
  ·omega
 ·exact ⟨[], mX 0 _ _ _ ⟨fun h' => absurd h' h, fun _ => rfl⟩, by simp⟩
def Pok (t : Tree) : Prop := ∀ l, l.length + 8 * tbulk t ≤ 900000000 → ∃ r, al l t r ∧ r.length + 1 ≤ l.length + 8 * tbulk t ∧ (Qp l → Qp r)
theorem th {k n : Int} : ∀ {l : List Tree} {i : Nat}, shapeKs k n i l = true → ∀ j u, l[j]? = some u → jC k n ((i + j : Nat) : Int) u.kind = true ∧ shapeK u = true
 | [], _, _, j, u, h => by simp at h
 | t :: r, i, hs, 0, u, h => by
  simp only [shapeKs, Bool.and_eq_true] at hs
  simp at h; subst h
  exact ⟨hs.1.1, hs.1.2⟩
 | t :: r, i, hs, j + 1, u, h => by
  simp only [shapeKs, Bool.and_eq_true] at hs
  have := th hs.2 j u (by simpa using h)
  rw [show i + 1 + j = i + (j + 1) by omega] at this
  exact this
theorem vR {t u : Tree} {i : Nat} (hs : shapeK t = true) (hu : t.kids[i]? = some u) : shapeK u = true ∧ jC t.kind t.kids.length i u.kind = true := by
 rw [cp] at hs
 simp only [Bool.and_eq_true] at hs
 have := th hs.2 i u hu
 rw [Nat.zero_add] at this
 exact ⟨this.2, this.1⟩
theorem pG {t : Tree} (hs : shapeK t = true) : 0 ≤ dr t.kind t.kids.length := by
 rw [cp] at hs
 simp only [Bool.and_eq_true, decide_eq_true_eq] at hs
 exact hs.1.1
theorem eM {t : Tree} (hs : shapeK t = true) : (t.kind = 2 → 2 ≤ t.kids.length) ∧ (t.kind = 18 → 1 ≤ t.kids.length) ∧ (t.kind = 3 ∨ t.kind = 4 ∨ t.kind = 8 ∨ t.kind = 17 ∨ t.kind = 22 → t.kids.length = 1) ∧ (t.kind = 19 → t.kids.length = 3) ∧ (t.kind = 20 ∨ t.kind = 21 → t.kids.length = 2) := by
 have h := pG hs
 refine ⟨fun hk => ?_, fun hk => ?_, fun hk => ?_, fun hk => ?_, fun hk => ?_⟩
 ·rw [hk] at h; simp only [dr, f0] at h; simp at h; omega
 ·rw [hk] at h; simp only [dr, f0] at h; simp at h; omega
 ·rcases hk with hk | hk | hk | hk | hk <;> (rw [hk] at h; simp only [dr, f0] at h; simp at h; omega)
 ·rw [hk] at h; simp only [dr, f0] at h; simp at h; omega
 ·rcases hk with hk | hk <;> (rw [hk] at h; simp only [dr, f0] at h; simp at h; omega)
theorem dn1 {l r : List Pce} {t : Tree} (M : Nat) (hk : t.kind ∉ [(1 : Int)]) (h : ic M l t r) : al l t r := lD M _ _ _ ⟨fun e => absurd (by simp [e]) hk, fun _ => h⟩
theorem dn2 {l r : List Pce} {t : Tree} (M : Nat) (hk : t.kind ∉ [(1 : Int), 2]) (h : gX M l t r) : al l t r := dn1 (M + 1) (fun e => hk (by simp only [List.mem_cons, List.not_mem_nil, or_false] at e ⊢; omega)) (kH M _ _ _ ⟨fun e => absurd (by simp [e]) hk, fun _ => h⟩)
theorem dn3 {l r : List Pce} {t : Tree} (M : Nat) (hk : t.kind ∉ [(1 : Int), 2, 3]) (h : gI M l t r) : al l t r := dn2 (M + 1) (fun e => hk (by simp only [List.mem_cons, List.not_mem_nil, or_false] at e ⊢; omega)) (kw M _ _ _ ⟨fun e => absurd (by simp [e]) hk, fun _ => h⟩)
theorem dn4 {l r : List Pce} {t : Tree} (M : Nat) (hk : t.kind ∉ [(1 : Int), 2, 3, 4]) (h : hI M l t r) : al l t r := dn3 (M + 1) (fun e => hk (by simp only [List.mem_cons, List.not_mem_nil, or_false] at e ⊢; omega)) (kG M _ _ _ ⟨fun e => absurd (by simp [e]) hk, fun _ => h⟩)
theorem dn5 {l r : List Pce} {t : Tree} (M : Nat) (hk : t.kind ∉ [(1 : Int), 2, 3, 4, 5]) (h : gW M l t r) : al l t r := dn4 (M + 1) (fun e => hk (by simp only [List.mem_cons, List.not_mem_nil, or_false] at e ⊢; omega)) (kO M _ _ _ ⟨fun e => absurd (by simp [e]) hk, fun _ => h⟩)
theorem dn6 {l r : List Pce} {t : Tree} (M : Nat) (hk : t.kind ∉ [(1 : Int), 2, 3, 4, 5, 6]) (h : gr M l t r) : al l t r := dn5 (M + 1) (fun e => hk (by simp only [List.mem_cons, List.not_mem_nil, or_false] at e ⊢; omega)) (ko M _ _ _ ⟨fun e => absurd (by simp [e]) hk, fun _ => h⟩)
theorem dn7 {l r : List Pce} {t : Tree} (M : Nat) (hk : t.kind ∉ [(1 : Int), 2, 3, 4, 5, 6, 7]) (h : gs M l t r) : al l t r := dn6 (M + 1) (fun e => hk (by simp only [List.mem_cons, List.not_mem_nil, or_false] at e ⊢; omega)) (jP M _ _ _ ⟨fun e => absurd (by simp [e]) hk, fun _ => h⟩)
theorem dn8 {l r : List Pce} {t : Tree} (M : Nat) (hk : t.kind ∉ [(1 : Int), 2, 3, 4, 5, 6, 7, 13]) (h : gb M l t r) : al l t r := dn7 (M + 1) (fun e => hk (by simp only [List.mem_cons, List.not_mem_nil, or_false] at e ⊢; omega)) (jT M _ _ _ ⟨fun e => absurd (by simp [e]) hk, fun _ => h⟩)
theorem dn9 {l r : List Pce} {t : Tree} (M : Nat) (hk : t.kind ∉ [(1 : Int), 2, 3, 4, 5, 6, 7, 13, 14]) (h : gd M l t r) : al l t r := dn8 (M + 1) (fun e => hk (by simp only [List.mem_cons, List.not_mem_nil, or_false] at e ⊢; omega)) (jS M _ _ _ ⟨fun e => absurd (by simp [e]) hk, fun _ => h⟩)
theorem GQ {l r : List Pce} {t : Tree} (M : Nat) (hk : t.kind ∉ [(1 : Int), 2, 3, 4, 5, 6, 7, 13, 14, 15]) (h : gk M l t r) : al l t r := dn9 (M + 1) (fun e => hk (by simp only [List.mem_cons, List.not_mem_nil, or_false] at e ⊢; omega)) (jQ M _ _ _ ⟨fun e => absurd (by simp [e]) hk, fun _ => h⟩)
theorem Hz {l r : List Pce} {t : Tree} (M : Nat) (hk : t.kind ∉ [(1 : Int), 2, 3, 4, 5, 6, 7, 13, 14, 15, 8]) (h : gi M l t r) : al l t r := GQ (M + 1) (fun e => hk (by simp only [List.mem_cons, List.not_mem_nil, or_false] at e ⊢; omega)) (jJ M _ _ _ ⟨fun e => absurd (by simp [e]) hk, fun _ => h⟩)
theorem GP {l r : List Pce} {t : Tree} (M : Nat) (hk : t.kind ∉ [(1 : Int), 2, 3, 4, 5, 6, 7, 13, 14, 15, 8, 16]) (h : gp M l t r) : al l t r := Hz (M + 1) (fun e => hk (by simp only [List.mem_cons, List.not_mem_nil, or_false] at e ⊢; omega)) (jO M _ _ _ ⟨fun e => absurd (by simp [e]) hk, fun _ => h⟩)
theorem FX {l r : List Pce} {t : Tree} (M : Nat) (hk : t.kind ∉ [(1 : Int), 2, 3, 4, 5, 6, 7, 13, 14, 15, 8, 16, 17]) (h : gc M l t r) : al l t r := GP (M + 1) (fun e => hk (by simp only [List.mem_cons, List.not_mem_nil, or_false] at e ⊢; omega)) (jL M _ _ _ ⟨fun e => absurd (by simp [e]) hk, fun _ => h⟩)
theorem Gm {l r : List Pce} {t : Tree} (M : Nat) (hk : t.kind ∉ [(1 : Int), 2, 3, 4, 5, 6, 7, 13, 14, 15, 8, 16, 17, 18]) (h : gf M l t r) : al l t r := FX (M + 1) (fun e => hk (by simp only [List.mem_cons, List.not_mem_nil, or_false] at e ⊢; omega)) (jU M _ _ _ ⟨fun e => absurd (by simp [e]) hk, fun _ => h⟩)
theorem GZ {l r : List Pce} {t : Tree} (M : Nat) (hk : t.kind ∉ [(1 : Int), 2, 3, 4, 5, 6, 7, 13, 14, 15, 8, 16, 17, 18, 19]) (h : gn M l t r) : al l t r := Gm (M + 1) (fun e => hk (by simp only [List.mem_cons, List.not_mem_nil, or_false] at e ⊢; omega)) (jM M _ _ _ ⟨fun e => absurd (by simp [e]) hk, fun _ => h⟩)
theorem Hk {l r : List Pce} {t : Tree} (M : Nat) (hk : t.kind ∉ [(1 : Int), 2, 3, 4, 5, 6, 7, 13, 14, 15, 8, 16, 17, 18, 19, 20]) (h : fZ M l t r) : al l t r := GZ (M + 1) (fun e => hk (by simp only [List.mem_cons, List.not_mem_nil, or_false] at e ⊢; omega)) (jR M _ _ _ ⟨fun e => absurd (by simp [e]) hk, fun _ => h⟩)
theorem GJ {l r : List Pce} {t : Tree} (M : Nat) (hk : t.kind ∉ [(1 : Int), 2, 3, 4, 5, 6, 7, 13, 14, 15, 8, 16, 17, 18, 19, 20, 21]) (h : gj M l t r) : al l t r := Hk (M + 1) (fun e => hk (by simp only [List.mem_cons, List.not_mem_nil, or_false] at e ⊢; omega)) (jV M _ _ _ ⟨fun e => absurd (by simp [e]) hk, fun _ => h⟩)
theorem p_5 {t : Tree} (hk : t.kind = 5) (ht : tbulk t ≤ 1000000) : Pok t := fun l hl => by
 obtain ⟨s1, g1, b1⟩ := bc 0 ht
 have htp := bt t
 have M := 0
 refine ⟨l ++ [⟨s1, [73, 110, 116]⟩], ?_, by simp; omega, fun hq => by simp only [bH, bq]; exact ⟨hq, ⟨b1, by decide⟩, bD⟩⟩
 exact dn4 (M + 2) (by rw [hk]; decide) (kO (M + 1) _ _ _ ⟨fun _ => ⟨_, g1, by simp; omega, rfl⟩, fun h => absurd hk h⟩)
theorem p_6 {t : Tree} (hk : t.kind = 6) (ht : tbulk t ≤ 1000000) : Pok t := fun l hl => by
 obtain ⟨s1, g1, b1⟩ := bc 0 ht
 have htp := bt t
 have M := 0
 refine ⟨l ++ [⟨s1, [84, 101, 120, 116]⟩], ?_, by simp; omega, fun hq => by simp only [bH, bq]; exact ⟨hq, ⟨b1, by decide⟩, bD⟩⟩
 exact dn5 (M + 2) (by rw [hk]; decide) (ko (M + 1) _ _ _ ⟨fun _ => ⟨_, g1, by simp; omega, rfl⟩, fun h => absurd hk h⟩)
theorem p_7 {t : Tree} (hk : t.kind = 7) (ht : tbulk t ≤ 1000000) : Pok t := fun l hl => by
 obtain ⟨s1, g1, b1⟩ := bc 0 ht
 have htp := bt t
 have M := 0
 refine ⟨l ++ [⟨s1, [66, 111, 111, 108]⟩], ?_, by simp; omega, fun hq => by simp only [bH, bq]; exact ⟨hq, ⟨b1, by decide⟩, bD⟩⟩
 exact dn6 (M + 2) (by rw [hk]; decide) (jP (M + 1) _ _ _ ⟨fun _ => ⟨_, g1, by simp; omega, rfl⟩, fun h => absurd hk h⟩)
theorem IN {t : Tree} (hk : t.kind = 13) (ht : tbulk t ≤ 1000000) : Pok t := fun l hl => by
 obtain ⟨s1, g1, b1⟩ := bc 0 ht
 have htp := bt t
 have M := 0
 refine ⟨l ++ [⟨s1, [116, 114, 117, 101]⟩], ?_, by simp; omega, fun hq => by simp only [bH, bq]; exact ⟨hq, ⟨b1, by decide⟩, bD⟩⟩
 exact dn7 (M + 2) (by rw [hk]; decide) (jT (M + 1) _ _ _ ⟨fun _ => ⟨_, g1, by simp; omega, rfl⟩, fun h => absurd hk h⟩)
theorem Jh {t : Tree} (hk : t.kind = 14) (ht : tbulk t ≤ 1000000) : Pok t := fun l hl => by
 obtain ⟨s1, g1, b1⟩ := bc 0 ht
 have htp := bt t
 have M := 0
 refine ⟨l ++ [⟨s1, [102, 97, 108, 115, 101]⟩], ?_, by simp; omega, fun hq => by simp only [bH, bq]; exact ⟨hq, ⟨b1, by decide⟩, bD⟩⟩
 exact dn8 (M + 2) (by rw [hk]; decide) (jS (M + 1) _ _ _ ⟨fun _ => ⟨_, g1, by simp; omega, rfl⟩, fun h => absurd hk h⟩)
theorem Jb {t : Tree} (hk : t.kind = 15) (ht : tbulk t ≤ 1000000) : Pok t := fun l hl => by
 obtain ⟨s1, g1, b1⟩ := bc 0 ht
 have htp := bt t
 have M := 0
 refine ⟨l ++ [⟨s1, [63]⟩], ?_, by simp; omega, fun hq => by simp only [bH, bq]; exact ⟨hq, ⟨b1, by decide⟩, bD⟩⟩
 exact dn9 (M + 2) (by rw [hk]; decide) (jQ (M + 1) _ _ _ ⟨fun _ => ⟨_, g1, by simp; omega, rfl⟩, fun h => absurd hk h⟩)
theorem qn {l : List Tree} {u : Tree} (h0 : l[0]? = some u) : tbulk u ≤ kbulk l := cd h0
theorem vz {l : List Tree} {u v : Tree} (h0 : l[0]? = some u) (h1 : l[1]? = some v) : tbulk u + tbulk v ≤ kbulk l := by
 match l, h0, h1 with
 | a :: r, h0, h1 => simp at h0; subst h0; have := cd (ks := r) (i := 0) (by simpa using h1); simp only [kbulk]; omega
theorem Fd {l : List Tree} {u v x : Tree} (h0 : l[0]? = some u) (h1 : l[1]? = some v) (h2 : l[2]? = some x) : tbulk u + tbulk v + tbulk x ≤ kbulk l := by
 match l, h0, h1, h2 with
 | a :: r, h0, h1, h2 => simp at h0; subst h0; have := vz (l := r) (by simpa using h1) (by simpa using h2); simp only [kbulk]; omega
theorem p_3 {t : Tree} (hk : t.kind = 3) (hs : shapeK t = true) (ht : tbulk t ≤ 1000000) (ih : ∀ (i : Nat) (u : Tree), t.kids[i]? = some u → Pok u) : Pok t := fun l hl => by
 have htp := bt t
 have htx := bX t
 have hn := eM hs
 have M := 0
 have hkn : t.kids.length = 1 := hn.2.2.1 (by simp [hk])
 obtain ⟨u0, hu0, _⟩ | h' := az t.kids 0
 rotate_left
 ·omega
 have hsum : tbulk u0 + 1 ≤ tbulk t := by
  have hb := bx t
  have hx := qn hu0
  omega
 obtain ⟨s1, g1, b1⟩ := bc 0 ht
 obtain ⟨s2, g2, b2⟩ := bc 1 ht
 obtain ⟨s3, g3, b3⟩ := bc 2 ht
 have q1 : Qp l → Qp (l ++ [⟨s1, [116, 121, 112, 101]⟩, ⟨s2, t.text⟩, ⟨s3, [61]⟩]) := fun hq => by simp only [bH, bq]; exact ⟨hq, ⟨b1, by decide⟩, ⟨b2, by omega⟩, ⟨b3, by decide⟩, bD⟩
 obtain ⟨r0, e0, z0, y0⟩ := ih 0 u0 hu0 (l ++ [⟨s1, [116, 121, 112, 101]⟩, ⟨s2, t.text⟩, ⟨s3, [61]⟩]) (by first | omega | (simp only [List.length_append, List.length_cons, List.length_nil]; omega))
 try simp only [List.length_append, List.length_cons, List.length_nil] at z0
 refine ⟨r0, ?_, by first | omega | (simp only [List.length_append, List.length_cons, List.length_nil]; omega), fun hq => (y0 (q1 hq))⟩
 exact dn2 (M + 2) (by rw [hk]; decide) (kw (M + 1) _ _ _ ⟨fun _ => pU (M) _ _ _ ⟨_, g1, _, g2, _, g3, by simp; omega, u0, hu0, _, e0, rfl⟩, fun h => absurd hk h⟩)
theorem p_4 {t : Tree} (hk : t.kind = 4) (hs : shapeK t = true) (ht : tbulk t ≤ 1000000) (ih : ∀ (i : Nat) (u : Tree), t.kids[i]? = some u → Pok u) : Pok t := fun l hl => by
 have htp := bt t
 have htx := bX t
 have hn := eM hs
 have M := 0
 have hkn : t.kids.length = 1 := hn.2.2.1 (by simp [hk])
 obtain ⟨u0, hu0, _⟩ | h' := az t.kids 0
 rotate_left
 ·omega
 have hsum : tbulk u0 + 1 ≤ tbulk t := by
  have hb := bx t
  have hx := qn hu0
  omega
 obtain ⟨s1, g1, b1⟩ := bc 0 ht
 obtain ⟨s2, g2, b2⟩ := bc 1 ht
 have q1 : Qp l → Qp (l ++ [⟨s1, t.text⟩, ⟨s2, [58]⟩]) := fun hq => by simp only [bH, bq]; exact ⟨hq, ⟨b1, by omega⟩, ⟨b2, by decide⟩, bD⟩
 obtain ⟨r0, e0, z0, y0⟩ := ih 0 u0 hu0 (l ++ [⟨s1, t.text⟩, ⟨s2, [58]⟩]) (by first | omega | (simp only [List.length_append, List.length_cons, List.length_nil]; omega))
 try simp only [List.length_append, List.length_cons, List.length_nil] at z0
 refine ⟨r0, ?_, by first | omega | (simp only [List.length_append, List.length_cons, List.length_nil]; omega), fun hq => (y0 (q1 hq))⟩
 exact dn3 (M + 2) (by rw [hk]; decide) (kG (M + 1) _ _ _ ⟨fun _ => pY (M) _ _ _ ⟨_, g1, _, g2, by simp; omega, u0, hu0, _, e0, rfl⟩, fun h => absurd hk h⟩)
theorem p_8 {t : Tree} (hk : t.kind = 8) (hs : shapeK t = true) (ht : tbulk t ≤ 1000000) (ih : ∀ (i : Nat) (u : Tree), t.kids[i]? = some u → Pok u) : Pok t := fun l hl => by
 have htp := bt t
 have htx := bX t
 have hn := eM hs
 have M := 0
 have hkn : t.kids.length = 1 := hn.2.2.1 (by simp [hk])
 obtain ⟨u0, hu0, _⟩ | h' := az t.kids 0
 rotate_left
 ·omega
 have hsum : tbulk u0 + 1 ≤ tbulk t := by
  have hb := bx t
  have hx := qn hu0
  omega
 obtain ⟨s1, g1, b1⟩ := bc 0 ht
 have q1 : Qp l → Qp (l ++ [⟨s1, [91]⟩]) := fun hq => by simp only [bH, bq]; exact ⟨hq, ⟨b1, by decide⟩, bD⟩
 obtain ⟨r0, e0, z0, y0⟩ := ih 0 u0 hu0 (l ++ [⟨s1, [91]⟩]) (by first | omega | (simp only [List.length_append, List.length_cons, List.length_nil]; omega))
 try simp only [List.length_append, List.length_cons, List.length_nil] at z0
 obtain ⟨s2, g2, b2⟩ := bc 1 ht
 have q3 : Qp r0 → Qp (r0 ++ [⟨s2, [93]⟩]) := fun hq => by simp only [bH, bq]; exact ⟨hq, ⟨b2, by decide⟩, bD⟩
 refine ⟨(r0 ++ [⟨s2, [93]⟩]), ?_, by first | omega | (simp only [List.length_append, List.length_cons, List.length_nil]; omega), fun hq => (q3 (y0 (q1 hq)))⟩
 exact GQ (M + 2) (by rw [hk]; decide) (jJ (M + 1) _ _ _ ⟨fun _ => pc (M) _ _ _ ⟨_, g1, by simp; omega, u0, hu0, _, e0, _, g2, by simp; omega, rfl⟩, fun h => absurd hk h⟩)
theorem IT {t : Tree} (hk : t.kind = 17) (hs : shapeK t = true) (ht : tbulk t ≤ 1000000) (ih : ∀ (i : Nat) (u : Tree), t.kids[i]? = some u → Pok u) : Pok t := fun l hl => by
 have htp := bt t
 have htx := bX t
 have hn := eM hs
 have M := 0
 have hkn : t.kids.length = 1 := hn.2.2.1 (by simp [hk])
 obtain ⟨u0, hu0, _⟩ | h' := az t.kids 0
 rotate_left
 ·omega
 have hsum : tbulk u0 + 1 ≤ tbulk t := by
  have hb := bx t
  have hx := qn hu0
  omega
 obtain ⟨r0, e0, z0, y0⟩ := ih 0 u0 hu0 l (by first | omega | (simp only [List.length_append, List.length_cons, List.length_nil]; omega))
 try simp only [List.length_append, List.length_cons, List.length_nil] at z0
 refine ⟨r0, ?_, by first | omega | (simp only [List.length_append, List.length_cons, List.length_nil]; omega), fun hq => (y0 hq)⟩
 exact GP (M + 2) (by rw [hk]; decide) (jL (M + 1) _ _ _ ⟨fun _ => ⟨u0, hu0, _, e0, rfl⟩, fun h => absurd hk h⟩)
theorem Jc {t : Tree} (hk : t.kind = 19) (hs : shapeK t = true) (ht : tbulk t ≤ 1000000) (ih : ∀ (i : Nat) (u : Tree), t.kids[i]? = some u → Pok u) : Pok t := fun l hl => by
 have htp := bt t
 have htx := bX t
 have hn := eM hs
 have M := 0
 have hkn : t.kids.length = 3 := hn.2.2.2.1 hk
 obtain ⟨u0, hu0, _⟩ | h' := az t.kids 0
 rotate_left
 ·omega
 obtain ⟨u1, hu1, _⟩ | h' := az t.kids 1
 rotate_left
 ·omega
 obtain ⟨u2, hu2, _⟩ | h' := az t.kids 2
 rotate_left
 ·omega
 have hsum : tbulk u0 + tbulk u1 + tbulk u2 + 1 ≤ tbulk t := by
  have hb := bx t
  have hx := Fd hu0 hu1 hu2
  omega
 obtain ⟨s1, g1, b1⟩ := bc 0 ht
 have q1 : Qp l → Qp (l ++ [⟨s1, [105, 102]⟩]) := fun hq => by simp only [bH, bq]; exact ⟨hq, ⟨b1, by decide⟩, bD⟩
 obtain ⟨r0, e0, z0, y0⟩ := ih 0 u0 hu0 (l ++ [⟨s1, [105, 102]⟩]) (by first | omega | (simp only [List.length_append, List.length_cons, List.length_nil]; omega))
 try simp only [List.length_append, List.length_cons, List.length_nil] at z0
 obtain ⟨s2, g2, b2⟩ := bc 1 ht
 have q3 : Qp r0 → Qp (r0 ++ [⟨s2, [116, 104, 101, 110]⟩]) := fun hq => by simp only [bH, bq]; exact ⟨hq, ⟨b2, by decide⟩, bD⟩
 obtain ⟨r1, e1, z1, y1⟩ := ih 1 u1 hu1 (r0 ++ [⟨s2, [116, 104, 101, 110]⟩]) (by first | omega | (simp only [List.length_append, List.length_cons, List.length_nil]; omega))
 try simp only [List.length_append, List.length_cons, List.length_nil] at z1
 obtain ⟨s3, g3, b3⟩ := bc 2 ht
 have q5 : Qp r1 → Qp (r1 ++ [⟨s3, [101, 108, 115, 101]⟩]) := fun hq => by simp only [bH, bq]; exact ⟨hq, ⟨b3, by decide⟩, bD⟩
 obtain ⟨r2, e2, z2, y2⟩ := ih 2 u2 hu2 (r1 ++ [⟨s3, [101, 108, 115, 101]⟩]) (by first | omega | (simp only [List.length_append, List.length_cons, List.length_nil]; omega))
 try simp only [List.length_append, List.length_cons, List.length_nil] at z2
 refine ⟨r2, ?_, by first | omega | (simp only [List.length_append, List.length_cons, List.length_nil]; omega), fun hq => (y2 (q5 (y1 (q3 (y0 (q1 hq))))))⟩
 exact Gm (M + 2) (by rw [hk]; decide) (jM (M + 1) _ _ _ ⟨fun _ => pg (M) _ _ _ ⟨u0, hu0, _, g1, by simp; omega, _, e0, u1, hu1, _, g2, by simp; omega, _, e1, u2, hu2, _, g3, by simp; omega, _, e2, rfl⟩, fun h => absurd hk h⟩)
theorem IP {t : Tree} (hk : t.kind = 20) (hs : shapeK t = true) (ht : tbulk t ≤ 1000000) (ih : ∀ (i : Nat) (u : Tree), t.kids[i]? = some u → Pok u) : Pok t := fun l hl => by
 have htp := bt t
 have htx := bX t
 have hn := eM hs
 have M := 0
 have hkn : t.kids.length = 2 := hn.2.2.2.2 (by simp [hk])
 obtain ⟨u0, hu0, _⟩ | h' := az t.kids 0
 rotate_left
 ·omega
 obtain ⟨u1, hu1, _⟩ | h' := az t.kids 1
 rotate_left
 ·omega
 have hsum : tbulk u0 + tbulk u1 + 1 ≤ tbulk t := by
  have hb := bx t
  have hx := vz hu0 hu1
  omega
 obtain ⟨s1, g1, b1⟩ := bc 0 ht
 obtain ⟨s2, g2, b2⟩ := bc 1 ht
 obtain ⟨s3, g3, b3⟩ := bc 2 ht
 have q1 : Qp l → Qp (l ++ [⟨s1, [108, 101, 116]⟩, ⟨s2, t.text⟩, ⟨s3, [61]⟩]) := fun hq => by simp only [bH, bq]; exact ⟨hq, ⟨b1, by decide⟩, ⟨b2, by omega⟩, ⟨b3, by decide⟩, bD⟩
 obtain ⟨r0, e0, z0, y0⟩ := ih 0 u0 hu0 (l ++ [⟨s1, [108, 101, 116]⟩, ⟨s2, t.text⟩, ⟨s3, [61]⟩]) (by first | omega | (simp only [List.length_append, List.length_cons, List.length_nil]; omega))
 try simp only [List.length_append, List.length_cons, List.length_nil] at z0
 obtain ⟨s4, g4, b4⟩ := bc 3 ht
 have q3 : Qp r0 → Qp (r0 ++ [⟨s4, [105, 110]⟩]) := fun hq => by simp only [bH, bq]; exact ⟨hq, ⟨b4, by decide⟩, bD⟩
 obtain ⟨r1, e1, z1, y1⟩ := ih 1 u1 hu1 (r0 ++ [⟨s4, [105, 110]⟩]) (by first | omega | (simp only [List.length_append, List.length_cons, List.length_nil]; omega))
 try simp only [List.length_append, List.length_cons, List.length_nil] at z1
 refine ⟨r1, ?_, by first | omega | (simp only [List.length_append, List.length_cons, List.length_nil]; omega), fun hq => (y1 (q3 (y0 (q1 hq))))⟩
 exact GZ (M + 2) (by rw [hk]; decide) (jR (M + 1) _ _ _ ⟨fun _ => pi (M) _ _ _ ⟨_, g1, _, g2, _, g3, by simp; omega, u0, hu0, _, e0, _, g4, by simp; omega, u1, hu1, _, e1, rfl⟩, fun h => absurd hk h⟩)
theorem IQ {t : Tree} (hk : t.kind = 21) (hs : shapeK t = true) (ht : tbulk t ≤ 1000000) (ih : ∀ (i : Nat) (u : Tree), t.kids[i]? = some u → Pok u) : Pok t := fun l hl => by
 have htp := bt t
 have htx := bX t
 have hn := eM hs
 have M := 0
 have hkn : t.kids.length = 2 := hn.2.2.2.2 (by simp [hk])
 obtain ⟨u0, hu0, _⟩ | h' := az t.kids 0
 rotate_left
 ·omega
 obtain ⟨u1, hu1, _⟩ | h' := az t.kids 1
 rotate_left
 ·omega
 have hsum : tbulk u0 + tbulk u1 + 1 ≤ tbulk t := by
  have hb := bx t
  have hx := vz hu0 hu1
  omega
 obtain ⟨r0, e0, z0, y0⟩ := ih 0 u0 hu0 l (by first | omega | (simp only [List.length_append, List.length_cons, List.length_nil]; omega))
 try simp only [List.length_append, List.length_cons, List.length_nil] at z0
 obtain ⟨s1, g1, b1⟩ := bc 0 ht
 have q2 : Qp r0 → Qp (r0 ++ [⟨s1, t.text⟩]) := fun hq => by simp only [bH, bq]; exact ⟨hq, ⟨b1, by omega⟩, bD⟩
 obtain ⟨r1, e1, z1, y1⟩ := ih 1 u1 hu1 (r0 ++ [⟨s1, t.text⟩]) (by first | omega | (simp only [List.length_append, List.length_cons, List.length_nil]; omega))
 try simp only [List.length_append, List.length_cons, List.length_nil] at z1
 refine ⟨r1, ?_, by first | omega | (simp only [List.length_append, List.length_cons, List.length_nil]; omega), fun hq => (y1 (q2 (y0 hq)))⟩
 exact Hk (M + 2) (by rw [hk]; decide) (jV (M + 1) _ _ _ ⟨fun _ => pe (M) _ _ _ ⟨u0, hu0, _, e0, _, g1, by simp; omega, u1, hu1, _, e1, rfl⟩, fun h => absurd hk h⟩)
theorem Jg {t : Tree} (hk : t.kind = 22) (hs : shapeK t = true) (ht : tbulk t ≤ 1000000) (ih : ∀ (i : Nat) (u : Tree), t.kids[i]? = some u → Pok u) : Pok t := fun l hl => by
 have htp := bt t
 have htx := bX t
 have hn := eM hs
 have M := 0
 have hkn : t.kids.length = 1 := hn.2.2.1 (by simp [hk])
 obtain ⟨u0, hu0, _⟩ | h' := az t.kids 0
 rotate_left
 ·omega
 have hsum : tbulk u0 + 1 ≤ tbulk t := by
  have hb := bx t
  have hx := qn hu0
  omega
 obtain ⟨s1, g1, b1⟩ := bc 0 ht
 have q1 : Qp l → Qp (l ++ [⟨s1, [40]⟩]) := fun hq => by simp only [bH, bq]; exact ⟨hq, ⟨b1, by decide⟩, bD⟩
 obtain ⟨r0, e0, z0, y0⟩ := ih 0 u0 hu0 (l ++ [⟨s1, [40]⟩]) (by first | omega | (simp only [List.length_append, List.length_cons, List.length_nil]; omega))
 try simp only [List.length_append, List.length_cons, List.length_nil] at z0
 obtain ⟨s2, g2, b2⟩ := bc 1 ht
 have q3 : Qp r0 → Qp (r0 ++ [⟨s2, [41]⟩]) := fun hq => by simp only [bH, bq]; exact ⟨hq, ⟨b2, by decide⟩, bD⟩
 refine ⟨(r0 ++ [⟨s2, [41]⟩]), ?_, by first | omega | (simp only [List.length_append, List.length_cons, List.length_nil]; omega), fun hq => (q3 (y0 (q1 hq)))⟩
 exact GJ (M + 2) (by rw [hk]; decide) (jW (M + 1) _ _ _ ⟨fun _ => pj (M) _ _ _ ⟨_, g1, by simp; omega, u0, hu0, _, e0, _, g2, by simp; omega, rfl⟩, fun h => absurd hk h⟩)
theorem Hv {t : Tree} (hn : ∀ c : Int, c ∈ [(1 : Int), 2, 3, 4, 5, 6, 7, 13, 14, 15, 8, 16, 17, 18, 19, 20, 21, 22] → t.kind ≠ c) (ht : tbulk t ≤ 1000000) : Pok t := fun l hl => by
 obtain ⟨s1, g1, b1⟩ := bc 0 ht
 have htp := bt t
 have htx := bX t
 have M := 0
 refine ⟨l ++ [⟨s1, t.text⟩], ?_, by simp; omega, fun hq => by simp only [bH, bq]; exact ⟨hq, ⟨b1, by omega⟩, bD⟩⟩
 exact GJ (M + 2) (fun e => hn t.kind (by simp only [List.mem_cons, List.not_mem_nil, or_false] at e ⊢; omega) rfl) (jW (M + 1) _ _ _ ⟨fun h => absurd h (hn 22 (by decide)), fun _ => ⟨_, g1, by simp; omega, rfl⟩⟩)
theorem Ba {t : Tree} (ht : tbulk t ≤ 1000000) (ih : ∀ (i : Nat) (u : Tree), t.kids[i]? = some u → Pok u) (n comma : Nat) (hn : n ≤ t.kids.length) (hc : comma ≤ 10) : ∀ l, l.length + 8 * kbulk (t.kids.take n) ≤ 899999999 → ∃ r, dz l t 0 (n : Int) (comma : Int) r ∧ r.length ≤ l.length + 8 * kbulk (t.kids.take n) ∧ (Qp l → Qp r) := by
 have hk := bM t
 have loop : ∀ k i l, n - i ≤ k → i ≤ n → l.length + 8 * kbulk ((t.kids.take n).drop i) ≤ 899999999 → ∃ r, ea (k + 1) t 0 (n : Int) (comma : Int) l (i : Int) r ∧ r.length ≤ l.length + 8 * kbulk ((t.kids.take n).drop i) ∧ (Qp l → Qp r) := fun k => by
  induction k with
  | zero =>
   intro i l hi hle hl
   exact ⟨l, fk 0 _ _ _ _ _ _ _ ⟨fun h => by omega, fun _ => rfl⟩, by omega, fun h => h⟩
  | succ k ihk =>
   intro i l hi hle hl
   by_cases hin : i < n
   ·obtain ⟨u, hu, hul⟩ | h' := az t.kids i
    ·have hu' : (t.kids.take n)[i]? = some u := by rw [List.getElem?_take, if_pos hin]; exact hu
     have hd := aQ hu'
     rw [hd, kbulk] at hl ⊢
     have hup := bt u
     by_cases h0 : 0 < i
     ·obtain ⟨s, g, b⟩ := bc (t := t) (comma + i - 1) ht
      have g' : ak t ((((comma : Int) + (i : Int)) - 0) - 1) s := by rw [show (((comma : Int) + (i : Int)) - 0) - 1 = ((comma + i - 1 : Nat) : Int) by omega]; exact g
      obtain ⟨r, e, z, y⟩ := ih i u hu (l ++ [⟨s, [44]⟩]) (by simp; omega)
      simp only [List.length_append, List.length_cons, List.length_nil] at z
      obtain ⟨r2, e2, z2, y2⟩ := ihk (i + 1) r (by omega) (by omega) (by omega)
      refine ⟨r2, fk (k + 1) _ _ _ _ _ _ _ ⟨fun _ => ⟨fun _ => ⟨by omega, by omega, by omega, s, g', by simp; omega, i, rfl, u, hu, r, e, by omega, ?_⟩, fun h => by omega⟩, fun h => by omega⟩, by omega, fun hq => y2 (y (by simp only [bH, bq]; exact ⟨hq, ⟨b, by decide⟩, bD⟩))⟩
      exact e2
     ·obtain ⟨r, e, z, y⟩ := ih i u hu l (by omega)
      obtain ⟨r2, e2, z2, y2⟩ := ihk (i + 1) r (by omega) (by omega) (by omega)
      refine ⟨r2, fk (k + 1) _ _ _ _ _ _ _ ⟨fun _ => ⟨fun h => by omega, fun _ => ⟨i, rfl, u, hu, r, e, by omega, e2⟩⟩, fun h => by omega⟩, by omega, fun hq => y2 (y hq)⟩
    ·omega
   ·exact ⟨l, fk (k + 1) _ _ _ _ _ _ _ ⟨fun h => by omega, fun _ => rfl⟩, by omega, fun h => h⟩
 intro l hl
 have h1 : kbulk (t.kids.take n) ≤ kbulk t.kids := by
  have : ∀ (l : List Tree) n, kbulk (l.take n) ≤ kbulk l := fun l => by
   induction l with
   | nil => intro n; simp
   |cons a r ih => intro n; cases n with
    | zero => simp [kbulk]
    | succ n => have := ih n; simp only [List.take_succ_cons, kbulk]; omega
  exact this _ _
 have h2 := bx t
 obtain ⟨r, e, z, y⟩ := loop n 0 l (by omega) (by omega) (by simpa using hl)
 exact ⟨r, sv (n + 1) _ _ _ _ _ _ e, by simpa using z, y⟩
theorem tl (l : List Tree) (n : Nat) : kbulk (l.take n) + kbulk (l.drop n) = kbulk l := by rw [← ec, List.take_append_drop]
theorem IS {t : Tree} (hk : t.kind = 16) (hs : shapeK t = true) (ht : tbulk t ≤ 1000000) (ih : ∀ (i : Nat) (u : Tree), t.kids[i]? = some u → Pok u) : Pok t := fun l hl => by
 have hb := bx t
 have htx := bX t
 have M := 0
 obtain ⟨s1, g1, b1⟩ := bc 0 ht
 obtain ⟨s2, g2, b2⟩ := bc 1 ht
 obtain ⟨r, e, z, y⟩ := Ba ht ih t.kids.length 3 (Nat.le_refl _) (by decide) (l ++ [⟨s1, t.text⟩, ⟨s2, [40]⟩]) (by simp only [List.length_append, List.length_cons, List.length_nil, List.take_length]; omega)
 simp only [List.length_append, List.length_cons, List.length_nil, List.take_length] at z
 obtain ⟨s9, g9, b9⟩ := bc 2 ht
 refine ⟨r ++ [⟨s9, [41]⟩], ?_, by simp only [List.length_append, List.length_cons, List.length_nil]; omega, fun hq => by
  have := y (by simp only [bH, bq]; exact ⟨hq, ⟨b1, by omega⟩, ⟨b2, by decide⟩, bD⟩)
  simp only [bH, bq]; exact ⟨this, ⟨b9, by decide⟩, bD⟩⟩
 exact Hz (M + 2) (by rw [hk]; decide) (jO (M + 1) _ _ _ ⟨fun _ => pm (M) _ _ _ ⟨_, g1, _, g2, by simp only [List.length_append, List.length_cons, List.length_nil]; omega, _, e, _, g9, by simp only [List.length_append, List.length_cons, List.length_nil]; omega, rfl⟩, fun h => absurd hk h⟩)
theorem Jj {t : Tree} (hk : t.kind = 18) (hs : shapeK t = true) (ht : tbulk t ≤ 1000000) (ih : ∀ (i : Nat) (u : Tree), t.kids[i]? = some u → Pok u) : Pok t := fun l hl => by
 have hb := bx t
 have htx := bX t
 have M := 0
 obtain ⟨s1, g1, b1⟩ := bc 0 ht
 obtain ⟨r, e, z, y⟩ := Ba ht ih t.kids.length 2 (Nat.le_refl _) (by decide) (l ++ [⟨s1, [91]⟩]) (by simp only [List.length_append, List.length_cons, List.length_nil, List.take_length]; omega)
 simp only [List.length_append, List.length_cons, List.length_nil, List.take_length] at z
 obtain ⟨s9, g9, b9⟩ := bc 1 ht
 refine ⟨r ++ [⟨s9, [93]⟩], ?_, by simp only [List.length_append, List.length_cons, List.length_nil]; omega, fun hq => by
  have := y (by simp only [bH, bq]; exact ⟨hq, ⟨b1, by decide⟩, bD⟩)
  simp only [bH, bq]; exact ⟨this, ⟨b9, by decide⟩, bD⟩⟩
 exact FX (M + 2) (by rw [hk]; decide) (jU (M + 1) _ _ _ ⟨fun _ => pn (M) _ _ _ ⟨_, g1, by simp only [List.length_append, List.length_cons, List.length_nil]; omega, _, e, _, g9, by simp only [List.length_append, List.length_cons, List.length_nil]; omega, rfl⟩, fun h => absurd hk h⟩)
theorem p_2 {t : Tree} (hk : t.kind = 2) (hs : shapeK t = true) (ht : tbulk t ≤ 1000000) (ih : ∀ (i : Nat) (u : Tree), t.kids[i]? = some u → Pok u) : Pok t := fun l hl => by
 have hb := bx t
 have htx := bX t
 have hn := (eM hs).1 hk
 have hkl := bM t
 have M := 0
 obtain ⟨s1, g1, b1⟩ := bc 0 ht
 obtain ⟨s2, g2, b2⟩ := bc 1 ht
 obtain ⟨s3, g3, b3⟩ := bc 2 ht
 obtain ⟨s4, g4, b4⟩ := bc 3 ht
 obtain ⟨s5, g5, b5⟩ := bc 4 ht
 obtain ⟨s6, g6, b6⟩ := bc 5 ht
 obtain ⟨r, e, z, y⟩ := Ba ht ih (t.kids.length - 2) 6 (by omega) (by decide) (l ++ [⟨s1, [100, 101, 102]⟩, ⟨s2, t.text⟩, ⟨s3, [40]⟩]) (by have := tl t.kids (t.kids.length - 2); simp only [List.length_append, List.length_cons, List.length_nil]; omega)
 simp only [List.length_append, List.length_cons, List.length_nil] at z
 obtain ⟨u, hu, _⟩ | h' := az t.kids (t.kids.length - 2)
 rotate_left
 ·omega
 obtain ⟨v, hv, _⟩ | h' := az t.kids (t.kids.length - 1)
 rotate_left
 ·omega
 have hsp := tl t.kids (t.kids.length - 2)
 have hd1 := aQ hu
 have hd2 : t.kids.drop (t.kids.length - 2 + 1) = v :: t.kids.drop (t.kids.length - 1 + 1) := by rw [show t.kids.length - 2 + 1 = t.kids.length - 1 by omega]; exact aQ hv
 rw [hd1, kbulk, hd2, kbulk] at hsp
 have hup := bt u
 have hvp := bt v
 have e' : dz (l ++ [⟨s1, [100, 101, 102]⟩, ⟨s2, t.text⟩, ⟨s3, [40]⟩]) t 0 (((t.kids.length : Nat) : Int) - 2) 6 r := by rw [show ((t.kids.length : Nat) : Int) - 2 = ((t.kids.length - 2 : Nat) : Int) by omega]; exact e
 obtain ⟨r1, e1, z1, y1⟩ := ih _ u hu (r ++ [⟨s4, [41]⟩, ⟨s5, [58]⟩]) (by simp only [List.length_append, List.length_cons, List.length_nil]; omega)
 simp only [List.length_append, List.length_cons, List.length_nil] at z1
 obtain ⟨r2, e2, z2, y2⟩ := ih _ v hv (r1 ++ [⟨s6, [61]⟩]) (by simp only [List.length_append, List.length_cons, List.length_nil]; omega)
 simp only [List.length_append, List.length_cons, List.length_nil] at z2
 refine ⟨r2, ?_, by omega, fun hq => ?_⟩
 ·exact dn1 (M + 2) (by rw [hk]; decide) (kH (M + 1) _ _ _ ⟨fun _ => pN (M) _ _ _ ⟨_, g1, _, g2, _, g3, by simp only [List.length_append, List.length_cons, List.length_nil]; omega, by omega, r, e', _, g4, _, g5, by simp only [List.length_append, List.length_cons, List.length_nil]; omega, by omega, t.kids.length - 2, by omega, u, hu, r1, e1, _, g6, by simp only [List.length_append, List.length_cons, List.length_nil]; omega, by omega, t.kids.length - 1, by omega, v, hv, r2, e2, rfl⟩, fun h => absurd hk h⟩)
 ·have q1 := y (by simp only [bH, bq]; exact ⟨hq, ⟨b1, by decide⟩, ⟨b2, by omega⟩, ⟨b3, by decide⟩, bD⟩)
  have q2 := y1 (by simp only [bH, bq]; exact ⟨q1, ⟨b4, by decide⟩, ⟨b5, by decide⟩, bD⟩)
  exact y2 (by simp only [bH, bq]; exact ⟨q2, ⟨b6, by decide⟩, bD⟩)
theorem p_1 {t : Tree} (hk : t.kind = 1) (hs : shapeK t = true) (ht : tbulk t ≤ 1000000) (ih : ∀ (i : Nat) (u : Tree), t.kids[i]? = some u → Pok u) : Pok t := fun l hl => by
 have hb := bx t
 have htx := bX t
 have hkl := bM t
 obtain ⟨s1, g1, b1⟩ := bc 0 ht
 obtain ⟨s2, g2, b2⟩ := bc 1 ht
 obtain ⟨s3, g3, b3⟩ := bc 2 ht
 have loop : ∀ k i l, t.kids.length - i ≤ k → l.length + 8 * kbulk (t.kids.drop i) ≤ 899999996 → ∃ r, db (k + 1) t l i r ∧ r.length ≤ l.length + 8 * kbulk (t.kids.drop i) + 1 ∧ (Qp l → Qp r) := fun k => by
  have last : ∀ k i l, ¬ i < t.kids.length → l.length ≤ 899999996 → ∃ r, db (k + 1) t l i r ∧ r.length ≤ l.length + 8 * kbulk (t.kids.drop i) + 1 ∧ (Qp l → Qp r) := fun k i l hi hl => by
   refine ⟨l ++ [⟨s3, []⟩], kr k _ _ _ _ ⟨fun h => absurd h hi, fun _ => ⟨s3, g3, by simp only [List.length_append, List.length_cons, List.length_nil]; omega, rfl⟩⟩, by simp only [List.length_append, List.length_cons, List.length_nil]; omega, fun hq => by simp only [bH, bq]; exact ⟨hq, ⟨b3, by decide⟩, bD⟩⟩
  induction k with
  | zero => intro i l hi hl; exact last 0 i l (by omega) (by omega)
  | succ k ihk =>
   intro i l hi hl
   obtain ⟨u, hu, hul⟩ | h' := az t.kids i
   ·have hd := aQ hu
    rw [hd, kbulk] at hl ⊢
    obtain ⟨r, e, z, y⟩ := ih i u hu l (by omega)
    obtain ⟨r2, e2, z2, y2⟩ := ihk (i + 1) r (by omega) (by omega)
    exact ⟨r2, kr (k + 1) _ _ _ _ ⟨fun _ => ⟨u, hu, r, e, by omega, e2⟩, fun h => absurd hul h⟩, by omega, fun hq => y2 (y hq)⟩
   ·exact last (k + 1) i l h' (by omega)
 obtain ⟨r, e, z, y⟩ := loop t.kids.length 0 (l ++ [⟨s1, [109, 111, 100, 117, 108, 101]⟩, ⟨s2, t.text⟩]) (by omega) (by simp only [List.length_append, List.length_cons, List.length_nil, List.drop_zero]; omega)
 simp only [List.length_append, List.length_cons, List.length_nil, List.drop_zero] at z
 refine ⟨r, lD (t.kids.length + 2) _ _ _ ⟨fun _ => pM (t.kids.length + 1) _ _ _ ⟨_, g1, _, g2, by simp only [List.length_append, List.length_cons, List.length_nil]; omega, e⟩, fun h => absurd hk h⟩, by omega, fun hq => y (by simp only [bH, bq]; exact ⟨hq, ⟨b1, by decide⟩, ⟨b2, by omega⟩, bD⟩)⟩
theorem Ds : ∀ t : Tree, tbulk t ≤ 1000000 → shapeK t = true → Pok t := go fun t ih ht hs => by
 have ih' : ∀ (i : Nat) (u : Tree), t.kids[i]? = some u → Pok u := fun i u hu => ih i u hu (by have := bh hu; omega) (vR hs hu).1
 by_cases h : ∃ c ∈ [(1 : Int), 2, 3, 4, 5, 6, 7, 13, 14, 15, 8, 16, 17, 18, 19, 20, 21, 22], t.kind = c
 ·obtain ⟨c, hc, e⟩ := h
  simp only [List.mem_cons, List.not_mem_nil, or_false] at hc
  rcases hc with rfl | rfl | rfl | rfl | rfl | rfl | rfl | rfl | rfl | rfl | rfl | rfl | rfl | rfl | rfl | rfl | rfl | rfl
  ·exact p_1 e hs ht ih'
  ·exact p_2 e hs ht ih'
  ·exact p_3 e hs ht ih'
  ·exact p_4 e hs ht ih'
  ·exact p_5 e ht
  ·exact p_6 e ht
  ·exact p_7 e ht
  ·exact IN e ht
  ·exact Jh e ht
  ·exact Jb e ht
  ·exact p_8 e hs ht ih'
  ·exact IS e hs ht ih'
  ·exact IT e hs ht ih'
  ·exact Jj e hs ht ih'
  ·exact Jc e hs ht ih'
  ·exact IP e hs ht ih'
  ·exact IQ e hs ht ih'
  ·exact Jg e hs ht ih'
 ·exact Hv (fun c hc e => h ⟨c, hc, e⟩) ht
theorem Dj : ∀ t : Tree, tbulk t ≤ 1000000 → ∃ b, fh t b := go fun t ih ht => by
 have hk := bM t
 have hl := vP t
 have kids : ∀ k i, t.kids.length - i ≤ k → ∃ b, eG (k + 1) t i b := fun k => by
  induction k with
  | zero => intro i hi; exact ⟨_, en 0 _ _ _ ⟨fun h => by omega, fun _ => rfl⟩⟩
  | succ k ihk =>
   intro i hi
   obtain ⟨u, hu, hul⟩ | h' := az t.kids i
   ·have := bh hu
    obtain ⟨b, hb⟩ := ih i u hu (by omega)
    cases b with
    | false => exact ⟨false, en (k + 1) _ _ _ ⟨fun _ => ⟨u, hu, _, hb, fun _ => rfl, fun h => (by cases h)⟩, fun h => absurd hul h⟩⟩
    | true =>
     obtain ⟨b2, hb2⟩ := ihk (i + 1) (by omega)
     exact ⟨b2, en (k + 1) _ _ _ ⟨fun _ => ⟨u, hu, _, hb, fun h => (by cases h), fun _ => hb2⟩, fun h => absurd hul h⟩⟩
   ·exact ⟨true, en (k + 1) _ _ _ ⟨fun h => absurd h h', fun _ => rfl⟩⟩
 have lead : ∀ k i, t.leads.length - i ≤ k → ∃ b M, cx M t i b := fun k => by
  have last : ∀ i, ¬ i < t.leads.length → ∃ b M, cx M t i b := fun i hi => by
   obtain ⟨b, hb⟩ := kids t.kids.length 0 (by omega)
   exact ⟨b, _, da _ _ _ _ ⟨fun h => absurd h hi, fun _ => hb⟩⟩
  induction k with
  | zero => intro i hi; exact last i (by omega)
  | succ k ihk =>
   intro i hi
   obtain ⟨s, hs, hsl⟩ | h' := az t.leads i
   ·have := tR hs
    have := bx t
    obtain ⟨b2, M, hb2⟩ := ihk (i + 1) (by omega)
    by_cases h1 : t.kind = 1
    ·have ht1 := vX s (((i : Nat) : Int) == 2) (by omega)
     cases hb : fH false s (((i : Nat) : Int) == 2) with
     | false => rw [hb] at ht1; exact ⟨false, 1, da 0 _ _ _ ⟨fun _ => ⟨s, hs, fun _ => ⟨_, ht1, fun _ => rfl, fun h => (by cases h)⟩, fun h => absurd h1 h⟩, fun h => absurd hsl h⟩⟩
     | true => rw [hb] at ht1; exact ⟨b2, M + 1, da M _ _ _ ⟨fun _ => ⟨s, hs, fun _ => ⟨_, ht1, fun h => (by cases h), fun _ => hb2⟩, fun h => absurd h1 h⟩, fun h => absurd hsl h⟩⟩
    ·have ht1 := vX s false (by omega)
     cases hb : fH false s false with
     | false => rw [hb] at ht1; exact ⟨false, 1, da 0 _ _ _ ⟨fun _ => ⟨s, hs, fun h => absurd h h1, fun _ => ⟨_, ht1, fun _ => rfl, fun h => (by cases h)⟩⟩, fun h => absurd hsl h⟩⟩
     | true => rw [hb] at ht1; exact ⟨b2, M + 1, da M _ _ _ ⟨fun _ => ⟨s, hs, fun h => absurd h h1, fun _ => ⟨_, ht1, fun h => (by cases h), fun _ => hb2⟩⟩, fun h => absurd hsl h⟩⟩
   ·exact last i h'
 by_cases h : ((t.leads.length : Nat) : Int) = dr t.kind t.kids.length
 ·obtain ⟨b, M, hb⟩ := lead t.leads.length 0 (by omega)
  exact ⟨b, mc M _ _ ⟨_, rE (by omega) (by omega), fun h' => absurd h h', fun _ => hb⟩⟩
 ·exact ⟨false, mc 0 _ _ ⟨_, rE (by omega) (by omega), fun _ => rfl, fun h' => absurd h' h⟩⟩
theorem Cm : ∀ t : Tree, tbulk t ≤ 1000000 → ∃ b, eL t b := go fun t ih ht => by
 have hk := bM t
 have kids : ∀ k i, t.kids.length - i ≤ k → ∃ b, aB (k + 1) t i b := fun k => by
  induction k with
  | zero => intro i hi; exact ⟨_, dT 0 _ _ _ ⟨fun h => by omega, fun _ => rfl⟩⟩
  | succ k ihk =>
   intro i hi
   obtain ⟨u, hu, hul⟩ | h' := az t.kids i
   ·have := bh hu
    obtain ⟨b, hb⟩ := ih i u hu (by omega)
    cases b with
    | false => exact ⟨false, dT (k + 1) _ _ _ ⟨fun _ => ⟨u, hu, _, hb, fun _ => rfl, fun h => (by cases h)⟩, fun h => absurd hul h⟩⟩
    | true =>
     obtain ⟨b2, hb2⟩ := ihk (i + 1) (by omega)
     exact ⟨b2, dT (k + 1) _ _ _ ⟨fun _ => ⟨u, hu, _, hb, fun h => (by cases h), fun _ => ⟨by omega, hb2⟩⟩, fun h => absurd hul h⟩⟩
   ·exact ⟨true, dT (k + 1) _ _ _ ⟨fun h => absurd h h', fun _ => rfl⟩⟩
 obtain ⟨b, hb⟩ := kids t.kids.length 0 (by omega)
 by_cases hall : (t.kind = 1 ∧ (40 : Int) < t.kids.length) ∨ (t.kind = 2 ∧ (10 : Int) < t.kids.length) ∨ (t.kind = 16 ∧ (8 : Int) < t.kids.length) ∨ (t.kind = 18 ∧ (16 : Int) < t.kids.length)
 ·refine ⟨false, lm (t.kids.length + 1) _ _ ?_⟩
  repeat' (refine And.intro (fun _ => ?_) (fun _ => ?_))
  all_goals first | rfl | (exfalso; omega)
 ·refine ⟨b, lm (t.kids.length + 1) _ _ ?_⟩
  repeat' (refine And.intro (fun _ => ?_) (fun _ => ?_))
  all_goals first | exact hb | (exfalso; omega)
theorem Do : ∀ t : Tree, tbulk t ≤ 1000000 → ∃ n, fu t n ∧ 0 ≤ n ∧ n ≤ tbulk t := go fun t ih ht => by
 have hk := bM t
 have kids : ∀ k i (z : Int), t.kids.length - i ≤ k → 0 ≤ z → z < tbulk t → ∃ n, eU (k + 1) t z i n ∧ 0 ≤ n ∧ n ≤ tbulk t := fun k => by
  induction k with
  | zero => intro i z hi h0 hz; exact ⟨_, gH 0 _ _ _ _ ⟨fun h => by omega, fun _ => ⟨by omega, rfl⟩⟩, by omega, by omega⟩
  | succ k ihk =>
   intro i z hi h0 hz
   obtain ⟨u, hu, hul⟩ | h' := az t.kids i
   ·have := bh hu
    obtain ⟨n, hn, n0, n1⟩ := ih i u hu (by omega)
    obtain ⟨r, hr, r0, r1⟩ := ihk (i + 1) (max z n) (by omega) (by omega) (by omega)
    exact ⟨r, gH (k + 1) _ _ _ _ ⟨fun _ => ⟨u, hu, _, hn, hr⟩, fun h => absurd hul h⟩, r0, r1⟩
   ·exact ⟨_, gH (k + 1) _ _ _ _ ⟨fun h => absurd h h', fun _ => ⟨by omega, rfl⟩⟩, by omega, by omega⟩
 obtain ⟨n, hn, n0, n1⟩ := kids t.kids.length 0 0 (by omega) (by omega) (by have := bt t; omega)
 exact ⟨n, rn _ _ _ hn, n0, n1⟩
theorem sC (t : Tree) (ht : tbulk t ≤ 1000000) : ∃ b, dD t b ∧ (b = true → shapeK t = true) := by
 have h1 := so t (by omega)
 cases hs : shapeK t with
 | false => rw [hs] at h1; exact ⟨false, js 0 _ _ ⟨_, h1, fun h => by (cases h), fun _ => rfl⟩, fun h => (by cases h)⟩
 | true =>
  rw [hs] at h1
  obtain ⟨b, hb⟩ := Dj t ht
  exact ⟨b, js 0 _ _ ⟨_, h1, fun _ => ⟨_, hb, rfl⟩, fun h => (by cases h)⟩, fun _ => rfl⟩
theorem CV (t : Tree) (ht : tbulk t ≤ 1000000) : ∃ s, iQ t s := by
 obtain ⟨b, hb, hs⟩ := sC t ht
 cases b with
 | false => exact ⟨[], mE 0 _ _ ⟨_, hb, fun _ => rfl, fun h => (by cases h)⟩⟩
 | true =>
  obtain ⟨l, e, z, q⟩ := Ds t ht (hs rfl) [] (by simp; omega)
  have hq := q bD
  simp only [List.length_nil] at z
  have loop : ∀ k i (s : List UInt8), l.length - i ≤ k → s.length ≤ i * 2000020 → i ≤ l.length → ∃ r, bI (k + 1) l s i r := fun k => by
   induction k with
   | zero => intro i s hi hsl hil; exact ⟨_, cj 0 _ _ _ _ ⟨fun h => by omega, fun _ => rfl⟩⟩
   | succ k ihk =>
    intro i s hi hsl hil
    obtain ⟨x, hx, hxl⟩ | h' := az l i
    ·obtain ⟨hx1, hx2⟩ := hq x (List.mem_of_getElem? hx)
     have hmul : (i + 1) * 2000020 = i * 2000020 + 2000020 := Nat.succ_mul _ _
     obtain ⟨r1, hr1⟩ := ihk (i + 1) (((s ++ [32]) ++ x.Lead) ++ x.Text) (by omega) (by simp only [List.length_append, List.length_cons, List.length_nil]; omega) (by omega)
     obtain ⟨r2, hr2⟩ := ihk (i + 1) ((s ++ x.Lead) ++ x.Text) (by omega) (by simp only [List.length_append]; omega) (by omega)
     have plain : s.length + x.Lead.length ≤ 9223372036854775807 ∧ ∃ y : Pce, l[i]? = some y ∧ (s ++ x.Lead).length + y.Text.length ≤ 9223372036854775807 ∧ bI (k + 1) l ((s ++ x.Lead) ++ y.Text) (i + 1) r2 := ⟨by omega, x, hx, by simp only [List.length_append]; omega, hr2⟩
     by_cases h0 : (0 : Int) < ((i : Nat) : Int)
     ·by_cases hle : x.Lead = []
      ·obtain ⟨y, hy, hyl⟩ | h' := az l (i - 1)
       rotate_left
       ·omega
       obtain ⟨hy1, hy2⟩ := hq y (List.mem_of_getElem? hy)
       have hf := DM y.Text x.Text (by omega) (by omega)
       cases hb2 : fusesT y.Text x.Text with
       | true =>
        rw [hb2] at hf
        exact ⟨r1, cj (k + 1) _ _ _ _ ⟨fun _ => ⟨fun _ => ⟨x, hx, fun _ => ⟨by omega, i - 1, by omega, y, hy, x, hx, _, hf, fun _ => ⟨by simp only [List.length_cons, List.length_nil]; omega, x, hx, by simp only [List.length_append, List.length_cons, List.length_nil]; omega, x, hx, by simp only [List.length_append, List.length_cons, List.length_nil]; omega, hr1⟩, fun h => by (cases h)⟩, fun h => absurd hle h⟩, fun h => absurd h0 h⟩, fun h => absurd hxl h⟩⟩
       | false =>
        rw [hb2] at hf
        exact ⟨r2, cj (k + 1) _ _ _ _ ⟨fun _ => ⟨fun _ => ⟨x, hx, fun _ => ⟨by omega, i - 1, by omega, y, hy, x, hx, _, hf, fun h => by (cases h), fun _ => ⟨x, hx, plain⟩⟩, fun h => absurd hle h⟩, fun h => absurd h0 h⟩, fun h => absurd hxl h⟩⟩
      ·exact ⟨r2, cj (k + 1) _ _ _ _ ⟨fun _ => ⟨fun _ => ⟨x, hx, fun h => absurd h hle, fun _ => ⟨x, hx, plain⟩⟩, fun h => absurd h0 h⟩, fun h => absurd hxl h⟩⟩
     ·exact ⟨r2, cj (k + 1) _ _ _ _ ⟨fun _ => ⟨fun h => absurd h h0, fun _ => ⟨x, hx, plain⟩⟩, fun h => absurd hxl h⟩⟩
    ·exact ⟨s, cj (k + 1) _ _ _ _ ⟨fun h => absurd h h', fun _ => rfl⟩⟩
  obtain ⟨r, hr⟩ := loop l.length 0 [] (by omega) (by simp) (by omega)
  exact ⟨r, mE (l.length + 1) _ _ ⟨_, hb, fun h => by (cases h), fun _ => ⟨l, qF 0 _ _ ⟨_, e, rfl⟩, hr⟩⟩⟩
theorem Eb (t : Tree) (ht : tbulk t ≤ 1000000) : ∃ b, dP t b ∧ (b = true → shapeK t = true) := by
 obtain ⟨b, hb, hsh⟩ := sC t ht
 cases b with
 | false => exact ⟨false, eT 0 _ _ ⟨_, hb, fun h => by (cases h), fun _ => rfl⟩, fun h => (by cases h)⟩
 | true =>
  obtain ⟨b2, hb2⟩ := Cm t ht
  cases b2 with
  | false => exact ⟨false, eT 0 _ _ ⟨_, hb, fun _ => ⟨_, hb2, fun h => by (cases h), fun _ => rfl⟩, fun h => (by cases h)⟩, fun h => (by cases h)⟩
  | true =>
   obtain ⟨n, hn, _, _⟩ := Do t ht
   obtain ⟨s, hs⟩ := CV t ht
   by_cases h40 : n ≤ 40
   ·exact ⟨_, eT 0 _ _ ⟨_, hb, fun _ => ⟨_, hb2, fun _ => ⟨n, hn, fun _ => ⟨s, hs, rfl⟩, fun h => absurd h40 h⟩, fun h => (by cases h)⟩, fun h => (by cases h)⟩, fun _ => hsh rfl⟩
   ·exact ⟨false, eT 0 _ _ ⟨_, hb, fun _ => ⟨_, hb2, fun _ => ⟨n, hn, fun h => absurd h h40, fun _ => rfl⟩, fun h => (by cases h)⟩, fun h => (by cases h)⟩, fun h => (by cases h)⟩
end Go.Proofs.YthnohcipianijaaGreatDoor
namespace Go.Proofs.YthnohcipianijaaGreatDoor
open Go.RowKit Lx Sx
set_option maxHeartbeats 1000000
set_option maxRecDepth 100000
theorem II {L : List Int} {a : Int} (hd : Dc L a) : Gt L (fun t a' => lf L a t L a') 500 := by
 obtain ⟨r, a1, h1, h2, h3⟩ := ef hd (n := 5) (by omega) (by omega)
 by_cases hr : r = 0
 ·obtain ⟨s, a2, g1, g2, g3⟩ := ie h3 [[84], [85]] (by decide) (by decide)
  have hs := fR g2 (by decide)
  obtain ⟨t, a3, q1, q2, q3⟩ := AL 2 g3 (by omega)
  exact ⟨_, a3, om 0 _ _ _ _ _ ⟨_, _, _, h1, fun _ => ⟨_, _, _, g1, _, _, _, q1, rfl, rfl, rfl⟩, fun h => absurd hr h⟩, q2, by rw [tb1]; omega⟩
 ·obtain ⟨s, a2, g1, g2, g3⟩ := ie h3 [[102], [103], [104]] (by decide) (by decide)
  have hs := fR g2 (by decide)
  obtain ⟨n, a3, g4, g5, g6⟩ := ef g3 (n := 4) (by omega) (by omega)
  have loop : ∀ (k : Nat) (a : Int) (l : List Tree), Dc L a → l.length + k ≤ 100 → Gt L (fun t a' => gv (k + 1) s L a l (k : Int) t L a') (s.length + 1 + kbulk l + k * 13 + 429) := fun k => by
   induction k with
   | zero =>
    intro a l hd hl
    obtain ⟨t1, b1, q1, q2, q3⟩ := AL 1 hd (by omega)
    obtain ⟨t2, b2, q4, q5, q6⟩ := FW 3 q2 (by omega)
    have : eB 3 = 422 := rfl
    refine ⟨_, b2, nX 0 _ _ _ _ _ _ _ _ ⟨fun h => by omega, fun _ => ⟨_, _, _, q1, _, _, _, q4, by simp; omega, rfl, rfl, rfl⟩⟩, q5, ?_⟩
    rw [tbK, ec]; simp only [kbulk]; omega
   | succ k ihk =>
    intro a l hd hl
    obtain ⟨x, b0, q0, q0', q0''⟩ := ie hd [[120], [121], [122]] (by decide) (by decide)
    have hx := fR q0' (by decide)
    obtain ⟨t, b, q1, q2, q3⟩ := AL 1 q0'' (by omega)
    refine (ihk b (l ++ [.node 4 x [] [t]]) q2 (by simp; omega)).map ?_ fun t' a' h => nX (k + 1) _ _ _ _ _ _ _ _ ⟨fun _ => ⟨_, _, _, q0, _, _, _, q1, by simp; omega, by omega, by rw [show ((k + 1 : Nat) : Int) - 1 = (k : Int) by omega]; exact h⟩, fun h => by omega⟩
    rw [ec]; simp only [kbulk, tb1]; omega
  exact (loop n.toNat a3 [] g6 (by simp; omega)).map (by simp only [kbulk]; omega) fun t a' h => om (n.toNat + 1) _ _ _ _ _ ⟨_, _, _, h1, fun h => absurd h hr, fun _ => ⟨_, _, _, g1, _, _, _, g4, by rw [show n = ((n.toNat : Nat) : Int) by omega]; exact h⟩⟩
def Sh (l : List (List UInt8)) (n : Nat) : Prop := l.length = n ∧ ∀ x ∈ l, x.length ≤ 2
theorem Sh.sum : ∀ {l : List (List UInt8)} {n : Nat}, Sh l n → lsum l ≤ 3 * n
 | [], n, h => by simp [lsum]
 | x :: r, n, h => by
  obtain ⟨h1, h2⟩ := h
  have := h2 x (by simp)
  have := Sh.sum (l := r) (n := n - 1) ⟨by simp at h1; omega, fun y hy => h2 y (by simp [hy])⟩
  simp only [lsum]; simp at h1; omega
theorem Sh.set {l : List (List UInt8)} {n i : Nat} {x : List UInt8} (h : Sh l n) (hx : x.length ≤ 2) : Sh (l.set i x) n := ⟨by simpa using h.1, fun y hy => by
 rcases List.mem_or_eq_of_mem_set hy with h1 | h1
 ·exact h.2 y h1
 ·subst h1; exact hx⟩
theorem Sh.get {l : List (List UInt8)} {n i : Nat} (h : Sh l n) (hi : i < n) : ∃ s, l[i]? = some s := by
 obtain ⟨s, hs, _⟩ | h' := az l i
 ·exact ⟨s, hs⟩
 ·have := h.1; omega
theorem De {n : Int} (h0 : 0 ≤ n) (h1 : n ≤ 100000000) : ∃ l, iy n l ∧ Sh l n.toNat := by
 have loop : ∀ k i (l : List (List UInt8)), n.toNat - i ≤ k → i ≤ n.toNat → Sh l i → ∃ r, ek (k + 1) n l i r ∧ Sh r n.toNat := fun k => by
  induction k with
  | zero => intro i l hi hle hl; exact ⟨l, gl 0 _ _ _ _ ⟨fun h => by omega, fun _ => rfl⟩, by rw [show n.toNat = i by omega]; exact hl⟩
  | succ k ihk =>
   intro i l hi hle hl
   by_cases h : (i : Int) < n
   ·obtain ⟨r, e, hr⟩ := ihk (i + 1) (l ++ [[32]]) (by omega) (by omega) ⟨by simp [hl.1], fun x hx => by
     rcases List.mem_append.1 hx with h1 | h1
     ·exact hl.2 x h1
     ·simp at h1; subst h1; simp⟩
    exact ⟨r, gl (k + 1) _ _ _ _ ⟨fun _ => ⟨by simp [hl.1]; omega, by omega, e⟩, fun h' => absurd h h'⟩, hr⟩
   ·exact ⟨l, gl (k + 1) _ _ _ _ ⟨fun h' => absurd h' h, fun _ => rfl⟩, by rw [show n.toNat = i by omega]; exact hl⟩
 obtain ⟨r, e, hr⟩ := loop n.toNat 0 [] (by omega) (by omega) ⟨rfl, fun x hx => by cases hx⟩
 exact ⟨r, qr _ _ _ e, hr⟩
def sV (t : Tree) (i : Int) (first : List UInt8) : List UInt8 := if t.kind = 1 then [10, 10] else if 0 < i then [32] else if t.kind = 8 ∨ t.kind = 22 ∨ t.kind = 16 ∨ t.kind = 18 then [] else if t.kind = 2 then (if (2 : Int) < t.kids.length then [] else [32]) else if t.kind = 17 ∨ t.kind = 21 then first else [32]
theorem DX (t : Tree) (i : Int) (first : List UInt8) : iw t i first (sV t i first) := by
 refine qh 1 _ _ _ _ ?_
 repeat' first | (refine And.intro (fun _ => ?_) (fun _ => ?_)) | (refine pP 0 _ _ _ _ ?_)
 all_goals simp_all [sV]
 all_goals (intro h; omega)
theorem Ab (t : Tree) (i : Int) (first : List UInt8) (hf : first.length ≤ 2) : (sV t i first).length ≤ 2 := by
 unfold sV
 repeat' split
 all_goals first | exact hf | simp
theorem nM {n : Int} (hn : 0 ≤ n) (a b c : Nat) (z : Int) : f0 n a b c z ≤ b + n := by
 unfold f0; repeat' split
 all_goals omega
theorem GD {k n : Int} (hn : 0 ≤ n) : dr k n ≤ 6 + n := by
 have a1 := nM hn 2 6 2 (-1)
 have a2 := nM hn 0 3 0 (-1)
 have a3 := nM hn 1 2 0 (-1)
 have a4 := nM hn 1 3 0 1
 have a5 := nM hn 1 2 0 1
 have a6 := nM hn 1 0 0 1
 have a7 := nM hn 3 3 0 3
 have a8 := nM hn 2 4 0 2
 have a9 := nM hn 2 1 0 2
 have a10 := nM hn 0 1 0 0
 simp only [dr]
 repeat' first | omega | split
theorem BJ {t : Tree} (hs : shapeK t = true) : (t.kind = 1 → dr t.kind t.kids.length = 3) ∧ (t.kind = 2 → 6 ≤ dr t.kind t.kids.length) ∧ (t.kind = 4 ∨ t.kind = 8 ∨ t.kind = 22 → dr t.kind t.kids.length = 2) ∧ (t.kind ≠ 17 → 1 ≤ dr t.kind t.kids.length) := by
 have h := pG hs
 refine ⟨fun hk => ?_, fun hk => ?_, fun hk => ?_, fun hk => ?_⟩
 ·rw [hk]; simp only [dr]; simp
 ·rw [hk] at h ⊢; simp only [dr, f0] at h ⊢; simp at h ⊢; repeat' split
  all_goals first | omega | (simp_all; omega)
 ·rcases hk with hk | hk | hk <;> (rw [hk] at h ⊢; simp only [dr, f0] at h ⊢; simp at h ⊢; repeat' split) <;> first | omega | (simp_all; done) | (simp_all; omega)
 ·have key : ∀ k n : Int, 0 ≤ n → k ≠ 17 → 0 ≤ dr k n → 1 ≤ dr k n := fun k n hn hk h => by
   have q : ∀ (a b c : Nat) z, 1 ≤ b → f0 n a b c z = -1 ∨ 1 ≤ f0 n a b c z := fun a b c z hb => by
    unfold f0; repeat' split
    all_goals omega
   have a1 := q 2 6 2 (-1) (by decide)
   have a2 := q 0 3 0 (-1) (by decide)
   have a3 := q 1 2 0 (-1) (by decide)
   have a4 := q 1 3 0 1 (by decide)
   have a5 := q 1 2 0 1 (by decide)
   have a7 := q 3 3 0 3 (by decide)
   have a8 := q 2 4 0 2 (by decide)
   have a9 := q 2 1 0 2 (by decide)
   have a10 := q 0 1 0 0 (by decide)
   revert h
   simp only [dr]
   repeat' first | (intro h; omega) | split
  exact key _ _ (by omega) hk h
section
variable {t : Tree} {N : Nat} {us : List Tree}
theorem FH : ∀ k i (l : List (List UInt8)), N - i ≤ k → Sh l N → ∃ l', dR (k + 1) t l i us (.node t.kind t.text l' us) ∧ Sh l' N := fun k => by
 induction k with
 | zero => intro i l hi hl; exact ⟨l, fy 0 _ _ _ _ _ ⟨fun h => by have := hl.1; omega, fun _ => rfl⟩, hl⟩
 | succ k ihk =>
  intro i l hi hl
  by_cases h : i < l.length
  ·obtain ⟨s, hs⟩ := hl.get (i := i) (by have := hl.1; omega)
   obtain ⟨l', e, h'⟩ := ihk (i + 1) (l.set i []) (by omega) (hl.set (by simp))
   exact ⟨l', fy (k + 1) _ _ _ _ _ ⟨fun _ => ⟨s, hs, e⟩, fun h' => absurd h h'⟩, h'⟩
  ·exact ⟨l, fy (k + 1) _ _ _ _ _ ⟨fun h' => absurd h' h, fun _ => rfl⟩, hl⟩
theorem yS : ∀ k i (l : List (List UInt8)), N - i ≤ k → Sh l N → ∃ l', cR (k + 1) t l i us (.node t.kind t.text l' us) ∧ Sh l' N := fun k => by
 induction k with
 | zero => intro i l hi hl; exact ⟨l, fE 0 _ _ _ _ _ ⟨fun h => by have := hl.1; omega, fun _ => rfl⟩, hl⟩
 | succ k ihk =>
  intro i l hi hl
  by_cases h : i < l.length
  ·obtain ⟨s, hs⟩ := hl.get (i := i) (by have := hl.1; omega)
   obtain ⟨l', e, h'⟩ := ihk (i + 1) (l.set i []) (by omega) (hl.set (by simp))
   exact ⟨l', fE (k + 1) _ _ _ _ _ ⟨fun _ => ⟨s, hs, e⟩, fun h' => absurd h h'⟩, h'⟩
  ·exact ⟨l, fE (k + 1) _ _ _ _ _ ⟨fun h' => absurd h' h, fun _ => rfl⟩, hl⟩
theorem uV (hs : shapeK t = true) (hN : N = (dr t.kind t.kids.length).toNat) {l : List (List UInt8)} (hl : Sh l N) : ∃ l', cO (N + 2) t l us (.node t.kind t.text l' us) ∧ Sh l' N := by
 obtain ⟨g1, g2, g3, g4⟩ := BJ hs
 have e0 : ([] : List UInt8).length ≤ 2 := by simp
 by_cases h1 : t.kind = 1
 ·have := g1 h1
  obtain ⟨s, hs⟩ := hl.get (i := 2) (by omega)
  exact ⟨_, bu (N + 1) _ _ _ _ ⟨fun _ => ⟨s, hs, rfl⟩, fun h => absurd h1 h⟩, hl.set (by simp)⟩
 by_cases h2 : t.kind = 2
 ·have := g2 h2
  have l1 := hl.set (i := 2) e0
  have l2 := l1.set (i := 3) e0
  have l3 := l2.set (i := 4) e0
  obtain ⟨s, hs⟩ := hl.get (i := 2) (by omega)
  obtain ⟨s', hs'⟩ := l1.get (i := 3) (by omega)
  obtain ⟨s2, hs2⟩ := l2.get (i := 4) (by omega)
  obtain ⟨l', e, h'⟩ := FH (t := t) (us := us) N 6 _ (by omega) l3
  exact ⟨l', bu (N + 1) _ _ _ _ ⟨fun h => absurd h h1, fun _ => ⟨fun _ => ⟨s, hs, s', hs', s2, hs2, e⟩, fun h => absurd h2 h⟩⟩, h'⟩
 by_cases h4 : t.kind = 4
 ·have := g3 (by simp [h4])
  obtain ⟨s, hs⟩ := hl.get (i := 1) (by omega)
  exact ⟨_, bu (N + 1) _ _ _ _ ⟨fun h => absurd h h1, fun _ => ⟨fun h => absurd h h2, fun _ => ⟨fun _ => ⟨s, hs, rfl⟩, fun h => absurd h4 h⟩⟩⟩, hl.set e0⟩
 by_cases h8 : t.kind = 8
 ·have := g3 (by simp [h8])
  obtain ⟨s, hs⟩ := hl.get (i := 1) (by omega)
  exact ⟨_, bu (N + 1) _ _ _ _ ⟨fun h => absurd h h1, fun _ => ⟨fun h => absurd h h2, fun _ => ⟨fun h => absurd h h4, fun _ => ⟨fun _ => ⟨s, hs, rfl⟩, fun h => absurd h8 h⟩⟩⟩⟩, hl.set e0⟩
 by_cases h22 : t.kind = 22
 ·have := g3 (by simp [h22])
  obtain ⟨s, hs⟩ := hl.get (i := 1) (by omega)
  exact ⟨_, bu (N + 1) _ _ _ _ ⟨fun h => absurd h h1, fun _ => ⟨fun h => absurd h h2, fun _ => ⟨fun h => absurd h h4, fun _ => ⟨fun h => absurd h h8, fun _ => ⟨fun _ => ⟨s, hs, rfl⟩, fun h => absurd h22 h⟩⟩⟩⟩⟩, hl.set e0⟩
 by_cases h16 : t.kind = 16
 ·obtain ⟨l', e, h'⟩ := yS (t := t) (us := us) N 1 _ (by omega) hl
  exact ⟨l', bu (N + 1) _ _ _ _ ⟨fun h => absurd h h1, fun _ => ⟨fun h => absurd h h2, fun _ => ⟨fun h => absurd h h4, fun _ => ⟨fun h => absurd h h8, fun _ => ⟨fun h => absurd h h22, fun _ => ⟨fun _ => e, fun h => absurd h16 h⟩⟩⟩⟩⟩⟩, h'⟩
 by_cases h18 : t.kind = 18
 ·obtain ⟨l', e, h'⟩ := yS (t := t) (us := us) N 1 _ (by omega) hl
  exact ⟨l', bu (N + 1) _ _ _ _ ⟨fun h => absurd h h1, fun _ => ⟨fun h => absurd h h2, fun _ => ⟨fun h => absurd h h4, fun _ => ⟨fun h => absurd h h8, fun _ => ⟨fun h => absurd h h22, fun _ => ⟨fun h => absurd h h16, fun _ => ⟨fun _ => e, fun h => absurd h18 h⟩⟩⟩⟩⟩⟩⟩, h'⟩
 ·exact ⟨l, bu (N + 1) _ _ _ _ ⟨fun h => absurd h h1, fun _ => ⟨fun h => absurd h h2, fun _ => ⟨fun h => absurd h h4, fun _ => ⟨fun h => absurd h h8, fun _ => ⟨fun h => absurd h h22, fun _ => ⟨fun h => absurd h h16, fun _ => ⟨fun h => absurd h h18, fun _ => rfl⟩⟩⟩⟩⟩⟩⟩, hl⟩
end
theorem pJ {l : List Tree} {i : Nat} {u : Tree} (h : l[i]? = some u) : kbulk (l.take (i + 1)) = kbulk (l.take i) + tbulk u := by
 rw [List.take_add_one, h, ec]; simp [kbulk]
theorem CH : ∀ t : Tree, tbulk t ≤ 1000000 → shapeK t = true → ∀ first, first.length ≤ 2 → ∃ u, ep t first u ∧ tbulk u + 3 ≤ 25 * tbulk t ∧ u.kind = t.kind := go fun t ih ht hs first hf => by
 have hk := bM t
 have hbt := bx t
 have h0 := pG hs
 have h6 := GD (k := t.kind) (n := (t.kids.length : Int)) (by omega)
 obtain ⟨g1, g2, g3, g4⟩ := BJ hs
 obtain ⟨bl, hbl, hsh⟩ := De h0 (by omega)
 have loop : ∀ k i (done rest : List Tree), t.kids.length - i ≤ k → done.length = i → i ≤ t.kids.length → rest.length = t.kids.length - i → kbulk done + 3 * i ≤ 25 * kbulk (t.kids.take i) → ∃ M r, cP M t first bl (done ++ rest) i r ∧ tbulk r + 3 ≤ 25 * tbulk t ∧ r.kind = t.kind := fun k => by
  have last : ∀ i (done rest : List Tree), ¬ i < t.kids.length → done.length = i → i ≤ t.kids.length → rest.length = t.kids.length - i → kbulk done + 3 * i ≤ 25 * kbulk (t.kids.take i) → ∃ M r, cP M t first bl (done ++ rest) i r ∧ tbulk r + 3 ≤ 25 * tbulk t ∧ r.kind = t.kind := fun i done rest hi hd hle hr hb => by
   have hr0 : rest = [] := List.length_eq_zero_iff.1 (by omega)
   subst hr0
   rw [List.append_nil]
   rw [List.take_of_length_le (by omega)] at hb
   have fin : ∀ l', Sh l' (dr t.kind t.kids.length).toNat → tbulk (.node t.kind t.text l' done) + 3 ≤ 25 * tbulk t ∧ (Tree.node t.kind t.text l' done).kind = t.kind := fun l' hl' => by
    have := hl'.sum
    exact ⟨by simp only [tbulk]; omega, rfl⟩
   by_cases h17 : t.kind = 17
   ·obtain ⟨l', e, h'⟩ := uV (us := done) hs rfl hsh
    exact ⟨_, _, dC _ _ _ _ _ _ _ ⟨fun h => absurd h hi, fun _ => ⟨fun h => absurd h17 h, fun _ => e⟩⟩, fin l' h'⟩
   ·by_cases h21 : t.kind = 21
    ·obtain ⟨l', e, h'⟩ := uV (us := done) hs rfl hsh
     exact ⟨_, _, dC _ _ _ _ _ _ _ ⟨fun h => absurd h hi, fun _ => ⟨fun _ => ⟨fun h => absurd h21 h, fun _ => e⟩, fun h => absurd h h17⟩⟩, fin l' h'⟩
    ·obtain ⟨l', e, h'⟩ := uV (us := done) hs rfl (hsh.set (i := 0) hf)
     have := g4 h17
     obtain ⟨s, hs0⟩ := hsh.get (i := 0) (by omega)
     exact ⟨_, _, dC _ _ _ _ _ _ _ ⟨fun h => absurd h hi, fun _ => ⟨fun _ => ⟨fun _ => ⟨s, hs0, e⟩, fun h => absurd h h21⟩, fun h => absurd h h17⟩⟩, fin l' h'⟩
  induction k with
  | zero => intro i done rest hi hd hle hr hb; exact last i done rest (by omega) hd hle hr hb
  | succ k ihk =>
   intro i done rest hi hd hle hr hb
   obtain ⟨u, hu, hul⟩ | h' := az t.kids i
   ·have hbu := bh hu
    obtain ⟨v, hv, hvb, _⟩ := ih i u hu (by omega) (vR hs hu).1 _ (Ab t i first hf)
    match rest, hr with
    | z :: rest', hr =>
     obtain ⟨M, r, e, hb2⟩ := ihk (i + 1) (done ++ [v]) rest' (by omega) (by simp [hd]) (by omega) (by simp at hr; omega) (by rw [pJ hu, ec]; simp only [kbulk]; omega)
     refine ⟨M + 1, r, dC M _ _ _ _ _ _ ⟨fun _ => ⟨u, hu, _, DX t i first, v, hv, z, by simp [← hd], by omega, ?_⟩, fun h => absurd hul h⟩, hb2⟩
     have : (done ++ z :: rest').set i v = done ++ [v] ++ rest' := by simp [← hd]
     rw [this]; exact e
    | [], hr => simp at hr; omega
   ·exact last i done rest h' hd hle hr hb
 obtain ⟨M, r, e, hb⟩ := loop t.kids.length 0 [] (List.replicate t.kids.length (.node 0 [] [] [])) (by omega) rfl (by omega) (by simp) (by simp [kbulk])
 exact ⟨r, pS (M + 1) _ _ _ ⟨_, rE (by omega) (by omega), bl, hbl, pk M _ _ _ _ ⟨by omega, by simpa using e⟩⟩, hb⟩
theorem Cb (t : Tree) (ht : tbulk t ≤ 1000000) : ∃ u, gG t u ∧ tbulk u ≤ 25 * tbulk t ∧ (u.kind = t.kind ∨ u.kind = 0) := by
 have h1 := so t (by omega)
 have := bt t
 cases hs : shapeK t with
 | false => rw [hs] at h1; exact ⟨.node 0 [] [] [], kz 0 _ _ ⟨_, h1, fun _ => rfl, fun h => (by cases h)⟩, by rw [tb0]; simp; omega, .inr rfl⟩
 | true =>
  rw [hs] at h1
  obtain ⟨u, hu, hb, hkk⟩ := CH t ht hs [] (by simp)
  exact ⟨u, kz 0 _ _ ⟨_, h1, fun h => (by cases h), fun _ => ⟨u, hu, rfl⟩⟩, by omega, .inl hkk⟩
theorem xT : ∀ (l : List (List UInt8)) (i : Nat) (x : List UInt8), lsum (l.set i x) ≤ lsum l + x.length
 | [], i, x => by simp [lsum]
 | y :: r, 0, x => by simp only [List.set_cons_zero, lsum]; omega
 | y :: r, i + 1, x => by have := xT r i x; simp only [List.set_cons_succ, lsum]; omega
theorem DI {L : List Int} : ∀ t : Tree, tbulk t ≤ 1000000 → ∀ {a : Int}, Dc L a → Gt L (fun u a' => fX L a t u L a' ∧ u.kind = t.kind) (6 * tbulk t) := go fun t ih ht a hd => by
 have hk := bM t
 have hl := vP t
 have hbt := bx t
 have kids : ∀ k i (done : List Tree) (ls : List (List UInt8)) (a : Int), t.kids.length - i ≤ k → i ≤ t.kids.length → done.length = i → kbulk done ≤ 6 * kbulk (t.kids.take i) → lsum ls ≤ 6 * lsum t.leads → Dc L a → ∃ M, Gt L (fun u a' => dJ M t L a (done ++ t.kids.drop i) i ls u L a' ∧ u.kind = t.kind) (6 * tbulk t) := fun k => by
  have last : ∀ i (done : List Tree) (ls : List (List UInt8)) (a : Int), ¬ i < t.kids.length → i ≤ t.kids.length → done.length = i → kbulk done ≤ 6 * kbulk (t.kids.take i) → lsum ls ≤ 6 * lsum t.leads → Dc L a → ∃ M, Gt L (fun u a' => dJ M t L a (done ++ t.kids.drop i) i ls u L a' ∧ u.kind = t.kind) (6 * tbulk t) := fun i done ls a hi hle hdn hb hls hd => by
   rw [List.drop_of_length_le (by omega), List.append_nil]
   rw [List.take_of_length_le (by omega)] at hb
   exact ⟨1, _, a, ⟨lJ 0 _ _ _ _ _ _ _ _ _ ⟨fun h => absurd h (by omega), fun _ => ⟨rfl, rfl, rfl⟩⟩, rfl⟩, hd, by simp only [tbulk]; omega⟩
  induction k with
  | zero => intro i done ls a hi hle hdn hb hls hd; exact last i done ls a (by omega) hle hdn hb hls hd
  | succ k ihk =>
   intro i done ls a hi hle hdn hb hls hd
   obtain ⟨u, hu, hul⟩ | h' := az t.kids i
   ·have hbu := bh hu
    obtain ⟨v, a1, ⟨q1, _⟩, q2, q3⟩ := ih i u hu (by omega) hd
    obtain ⟨M, hM⟩ := ihk (i + 1) (done ++ [v]) ls a1 (by omega) (by omega) (by simp [hdn]) (by rw [pJ hu, ec]; simp only [kbulk]; omega) hls q2
    have hg : (done ++ t.kids.drop i)[i]? = some u := by rw [List.getElem?_append_right (by omega), hdn]; simpa using hu
    refine ⟨M + 1, hM.map (Nat.le_refl _) fun w b ⟨h, hw⟩ => ⟨lJ M _ _ _ _ _ _ _ _ _ ⟨fun _ => ⟨u, hg, _, _, _, q1, u, hg, ?_⟩, fun h' => absurd (by simp [hdn]; omega) h'⟩, hw⟩⟩
    have : (done ++ t.kids.drop i).set i v = done ++ [v] ++ t.kids.drop (i + 1) := by rw [aQ hu]; simp [← hdn]
    rw [this]; exact h
   ·exact last i done ls a h' hle hdn hb hls hd
 have lead : ∀ k i (ls : List (List UInt8)) (a : Int), t.leads.length - i ≤ k → i ≤ t.leads.length → ls.length = t.leads.length → lsum ls ≤ lsum t.leads + 5 * i → Dc L a → ∃ M, Gt L (fun u a' => cI M t L a ls i u L a' ∧ u.kind = t.kind) (6 * tbulk t) := fun k => by
  have hll := ua t.leads
  have last : ∀ i (ls : List (List UInt8)) (a : Int), ¬ i < t.leads.length → i ≤ t.leads.length → ls.length = t.leads.length → lsum ls ≤ lsum t.leads + 5 * i → Dc L a → ∃ M, Gt L (fun u a' => cI M t L a ls i u L a' ∧ u.kind = t.kind) (6 * tbulk t) := fun i ls a hi hle hlen hb hd => by
   obtain ⟨M, hM⟩ := kids t.kids.length 0 [] ls a (by omega) (by omega) rfl (by simp [kbulk]) (by omega) hd
   exact ⟨M + 1, hM.map (Nat.le_refl _) fun w b ⟨h, hw⟩ => ⟨iB M _ _ _ _ _ _ _ _ ⟨fun h' => absurd h' (by omega), fun _ => ⟨by omega, by simpa using h⟩⟩, hw⟩⟩
  induction k with
  | zero => intro i ls a hi hle hlen hb hd; exact last i ls a (by omega) hle hlen hb hd
  | succ k ihk =>
   intro i ls a hi hle hlen hb hd
   obtain ⟨x, hx, hxl⟩ | h' := az ls i
   ·obtain ⟨n, a1, h1, h2, h3⟩ := ef hd (n := 9) (by omega) (by omega)
    by_cases hn : n = 1
    ·obtain ⟨s, a2, g1, g2, g3⟩ := ie h3 [[32, 35, 32, 99, 10], [32, 32], [10, 9], [35, 10]] (by decide) (by decide)
     have hs5 := fR g2 (by decide)
     have := xT ls i s
     obtain ⟨M, hM⟩ := ihk (i + 1) (ls.set i s) a2 (by omega) (by omega) (by simpa using hlen) (by omega) g3
     exact ⟨M + 1, hM.map (Nat.le_refl _) fun w b ⟨h, hw⟩ => ⟨iB M _ _ _ _ _ _ _ _ ⟨fun _ => ⟨_, _, _, h1, fun _ => ⟨_, _, _, g1, x, hx, h⟩, fun h' => absurd hn h'⟩, fun h' => absurd hxl h'⟩, hw⟩⟩
    ·obtain ⟨M, hM⟩ := ihk (i + 1) ls a1 (by omega) (by omega) hlen (by omega) h3
     exact ⟨M + 1, hM.map (Nat.le_refl _) fun w b ⟨h, hw⟩ => ⟨iB M _ _ _ _ _ _ _ _ ⟨fun _ => ⟨_, _, _, h1, fun h' => absurd h' hn, fun _ => h⟩, fun h' => absurd hxl h'⟩, hw⟩⟩
   ·exact last i ls a (by omega) hle hlen hb hd
 obtain ⟨M, hM⟩ := lead t.leads.length 0 t.leads a (by omega) (by omega) rfl (by omega) hd
 exact hM.map (Nat.le_refl _) fun w b ⟨h, hw⟩ => ⟨rW M _ _ _ _ _ _ ⟨by omega, h⟩, hw⟩
theorem Dl {L : List Int} {a : Int} (hd : Dc L a) (name : List UInt8) (hname : name.length ≤ 5) : Gt L (fun t a' => iX L a name t L a' ∧ (t.kind = 1 ∨ t.kind = 0)) 300000 := by
 obtain ⟨n, a1, h1, h2, h3⟩ := ef hd (n := 4) (by omega) (by omega)
 have loop : ∀ (k : Nat) (a : Int) (l : List Tree), Dc L a → l.length + k ≤ 100 → kbulk l + k * 500 ≤ 1500 → Gt L (fun t a' => eR (k + 1) name L a l (k : Int) t L a' ∧ (t.kind = 1 ∨ t.kind = 0)) 300000 := fun k => by
  induction k with
  | zero =>
   intro a l hd hl hb
   have ht : tbulk (.node 1 name [] l) ≤ 1506 := by rw [tbK]; omega
   obtain ⟨u, hu, hub, huk⟩ := Cb (.node 1 name [] l) (by omega)
   obtain ⟨z, a2, g1, g2, g3⟩ := ef hd (n := 2) (by omega) (by omega)
   by_cases hz : z = 0
   ·exact (DI u (by omega) g3).map (by omega) fun w b ⟨h, hw⟩ => ⟨gP 0 _ _ _ _ _ _ _ _ ⟨fun h' => by omega, fun _ => ⟨u, hu, _, _, _, g1, fun _ => ⟨_, _, _, h, rfl, rfl, rfl⟩, fun h' => absurd hz h'⟩⟩, by rw [hw]; exact huk⟩
   ·exact ⟨u, a2, ⟨gP 0 _ _ _ _ _ _ _ _ ⟨fun h' => by omega, fun _ => ⟨u, hu, _, _, _, g1, fun h' => absurd h' hz, fun _ => ⟨rfl, rfl, rfl⟩⟩⟩, huk⟩, g3, by omega⟩
  | succ k ihk =>
   intro a l hd hl hb
   obtain ⟨t, b, q1, q2, q3⟩ := II hd
   exact (ihk b (l ++ [t]) q2 (by simp; omega) (by rw [ec]; simp only [kbulk]; omega)).map (Nat.le_refl _) fun w c ⟨h, hw⟩ => ⟨gP (k + 1) _ _ _ _ _ _ _ _ ⟨fun _ => ⟨_, _, _, q1, by simp; omega, by omega, by rw [show ((k + 1 : Nat) : Int) - 1 = (k : Int) by omega]; exact h⟩, fun h => by omega⟩, hw⟩
 exact (loop n.toNat a1 [] h3 (by simp; omega) (by simp only [kbulk]; omega)).map (Nat.le_refl _) fun w b ⟨h, hw⟩ => ⟨qX (n.toNat + 1) _ _ _ _ _ _ ⟨_, _, _, h1, by rw [show n = ((n.toNat : Nat) : Int) by omega]; exact h⟩, hw⟩
def Mok (p : List Tree) : Prop := ∀ t ∈ p, t.kind = 1 ∧ shapeK t = true
theorem Am (l : List Int) (hl : l.length ≤ 1000000) : ∃ p, iE l p ∧ kbulk p ≤ 1000000 ∧ Mok p := by
 have hd0 : Dc l 0 := ⟨by omega, by omega, by omega⟩
 obtain ⟨n, a1, h1, h2, h3⟩ := ef hd0 (n := 4) (by omega) (by omega)
 have loop : ∀ (k : Nat) (a : Int) (p : List Tree), Dc l a → p.length + k ≤ 3 → kbulk p + k * 300001 ≤ 900003 → Mok p → ∃ r, bp (k + 1) l a p (k : Int) r ∧ kbulk r ≤ 900003 ∧ Mok r := fun k => by
  induction k with
  | zero => intro a p hd hp hb hmk; exact ⟨p, gu 0 _ _ _ _ _ ⟨fun h => by omega, fun _ => rfl⟩, by omega, hmk⟩
  | succ k ihk =>
   intro a p hd hp hb hmk
   have hb2 : kbulk p + k * 300001 + 300001 ≤ 900003 := Nat.le_trans (Nat.le_of_eq (by rw [Nat.succ_mul, Nat.add_assoc])) hb
   have hb3 : kbulk p + k * 300001 ≤ 900003 := Nat.le_trans (Nat.le_add_right _ _) hb2
   obtain ⟨x, hx, _⟩ | h' := az [[(65 : UInt8)], [66], [67]] p.length
   rotate_left
   ·simp at h'; omega
   have hx5 : x.length ≤ 5 := fR (List.mem_of_getElem? hx) (by decide)
   obtain ⟨t, a2, ⟨q1, qk⟩, q2, q3⟩ := Dl hd x hx5
   obtain ⟨z, a3, g1, g2, g3⟩ := ef q2 (n := 8) (by omega) (by omega)
   have step : ∀ u : Tree, tbulk u ≤ 300001 → (u.kind = 1 ∨ u.kind = 0) → ∃ b r, dP u b ∧ ((b = true) → (p ++ [u]).length ≤ 1000000000 ∧ InI (((k + 1 : Nat) : Int) - 1) ∧ bp (k + 1) l a3 (p ++ [u]) (((k + 1 : Nat) : Int) - 1) r) ∧ ((b = false) → InI (((k + 1 : Nat) : Int) - 1) ∧ bp (k + 1) l a3 p (((k + 1 : Nat) : Int) - 1) r) ∧ kbulk r ≤ 900003 ∧ Mok r := fun u hu huk => by
    obtain ⟨b, hb', hbs⟩ := Eb u (by omega)
    have e : ((k + 1 : Nat) : Int) - 1 = (k : Int) := by omega
    rw [e]
    cases b with
    | true =>
     have hus := hbs rfl
     have hu1 : u.kind = 1 := by
      rcases huk with h | h
      ·exact h
      ·have := pG hus; rw [h] at this; simp [dr] at this
     obtain ⟨r, hr, hrb⟩ := ihk a3 (p ++ [u]) g3 (by simp; omega) (by clear hb; rw [ec]; simp only [kbulk]; omega) (fun t ht => by
      rcases List.mem_append.1 ht with h | h
      ·exact hmk t h
      ·rw [List.mem_singleton] at h; subst h; exact ⟨hu1, hus⟩)
     exact ⟨true, r, hb', fun _ => ⟨by simp; omega, by omega, hr⟩, fun h => (by cases h), hrb⟩
    | false =>
     obtain ⟨r, hr, hrb⟩ := ihk a3 p g3 (by omega) hb3 hmk
     exact ⟨false, r, hb', fun h => (by cases h), fun _ => ⟨by omega, hr⟩, hrb⟩
   by_cases hz : z = 7
   ·have hub : tbulk (.node t.kind [65] t.leads t.kids) ≤ 300001 := by have := bx t; simp only [tbulk, List.length_cons, List.length_nil]; omega
    obtain ⟨b, r, e1, e2, e3, e4⟩ := step _ hub qk
    exact ⟨r, gu (k + 1) _ _ _ _ _ ⟨fun _ => ⟨x, hx, _, _, _, q1, _, _, _, g1, fun _ => ⟨b, e1, e2, e3⟩, fun h => absurd hz h⟩, fun h => by omega⟩, e4⟩
   ·obtain ⟨b, r, e1, e2, e3, e4⟩ := step t (by omega) qk
    exact ⟨r, gu (k + 1) _ _ _ _ _ ⟨fun _ => ⟨x, hx, _, _, _, q1, _, _, _, g1, fun h => absurd h hz, fun _ => ⟨b, e1, e2, e3⟩⟩, fun h => by omega⟩, e4⟩
 obtain ⟨r, hr, hrb, hrm⟩ := loop n.toNat a1 [] h3 (by simp; omega) (by simp only [kbulk]; omega) (fun t h => by cases h)
 exact ⟨r, qL (n.toNat + 1) _ _ ⟨_, _, sK 0 _ _ _ ⟨by omega, rfl, rfl⟩, _, _, _, h1, by rw [show n = ((n.toNat : Nat) : Int) by omega]; exact hr⟩, by omega, hrm⟩
end Go.Proofs.YthnohcipianijaaGreatDoor
namespace Go.Proofs.YthnohcipianijaaGreatDoor
open Go.RowKit Lx Sx
set_option maxRecDepth 100000
set_option maxHeartbeats 1100000
theorem tL (l : List Int) : ji l (decide (((l.length : Nat) : Int) ≤ 120)) := rZ 0 _ _ rfl
theorem CS {B : Nat} {l : List GDatum} (h : mDs l ≤ B) (k : Nat) : ∀ x, x ∈ l.take k → mD x ≤ B := fun x hx => wS h x (List.mem_of_mem_take hx)
theorem nD9 {d : GDatum} (h : wD d ≤ 2000000) : nD d ≤ 1000000000 := by have := uo d; omega
theorem DY (args : List GDatum) (z : Int) : ∃ k : Nat, min ((args.length : Nat) : Int) (max 0 z) = (k : Int) ∧ k ≤ args.length := ⟨(min ((args.length : Nat) : Int) (max 0 z)).toNat, by omega, by omega⟩
theorem ve {args : List GDatum} (fuel : Int) {p : List Tree} (hb : kbulk p ≤ 1100000) (d : Int) (i : Nat) (l : List GDatum) (hl : l.length ≤ 10) (hl2 : ∀ x, x ∈ l → mD x ≤ 1000000000000000) (hd : -1 ≤ d ∧ d ≤ 1000000000) {k : Nat} (next : bT k args fuel p (d + 1) i true) : dG (k + 1) args fuel p i d l true := by
 have h := zK hb i d l fuel
 exact oM k _ _ _ _ _ _ _ ⟨_, _, _, zW hb i d l (by omega) fuel, _, _, _, Gl hb i d l (by omega) hl2 fuel, fun h => absurd rfl h, fun _ => ⟨fun h => absurd rfl h, fun _ => ⟨_, zj _ (nD9 h) _, fun h => (by rw [Bf] at h; cases h), fun _ => ⟨by constructor <;> omega, next⟩⟩⟩⟩
section
variable {args : List GDatum} (ha : args.length ≤ 10) (hm : mDs args ≤ 1000000000000000) (fuel : Int) {p : List Tree} (hb : kbulk p ≤ 1100000)
include ha hm hb
theorem Db (i : Nat) (t : Tree) (ht : p[i]? = some t) (R : Nat) (next : bU R args fuel p (i + 1) true) : ∀ (j : Nat) (d : Int), -1 ≤ d → d ≤ t.kids.length + 1 → ((t.kids.length : Int) + 1 - d).toNat ≤ j → bT (R + 3 * j + 1) args fuel p d i true := fun j => by
 have hk := bM t
 have hbt := cd ht
 have hlp := (List.getElem?_eq_some_iff.1 ht).1
 have hlen := dZ p
 have last : ∀ (Q : Nat) (d : Int), R ≤ Q → ¬ d ≤ t.kids.length → bT (Q + 1) args fuel p d i true := fun Q d hQ hd => by
  refine jz Q _ _ _ _ _ _ ⟨t, ht, fun h => absurd h hd, fun _ => ⟨by omega, fun K j1 hK h1 => next K j1 hK (by omega)⟩⟩
 induction j with
 | zero => intro d h0 h1 hj; exact last _ d (by omega) (by omega)
 | succ j ihj =>
  intro d h0 h1 hj
  by_cases hd : d ≤ t.kids.length
  ·have hn := ihj (d + 1) (by omega) (by omega) (by omega)
   rw [show R + 3 * (j + 1) + 1 = (R + 3 * j + 3) + 1 by omega]
   refine jz (R + 3 * j + 3) _ _ _ _ _ _ ⟨t, ht, fun _ => ⟨fun hd0 => ⟨t, ht, ?_⟩, fun hd0 => ?_⟩, fun h => absurd hd h⟩
   ·rw [show R + 3 * j + 3 = (R + 3 * j + 2) + 1 by omega]
    refine jq (R + 3 * j + 2) _ _ _ _ _ _ _ ⟨fun hlt => ?_, fun _ => ?_⟩
    ·have hlt' : d < (t.kids.length : Int) := of_decide_eq_true hlt
     obtain ⟨b, rfl⟩ := lK (m := d) (by omega)
     obtain ⟨a, hak, _⟩ | h' := az t.kids b
     ·obtain ⟨k, e1, e2⟩ := DY args ((a.kids.length : Int) - 2)
      exact ⟨t, ht, b, rfl, a, hak, k, e1, e2, ve fuel hb b i _ (by rw [List.length_take]; omega) (CS hm k) (by omega) hn⟩
     ·omega
    ·exact ve fuel hb d i args ha (wS hm) (by omega) hn
   ·rw [show R + 3 * j + 3 = (R + 3 * j + 2) + 1 by omega]
    refine jq (R + 3 * j + 2) _ _ _ _ _ _ _ ⟨fun h => (by cases h), fun _ => ve fuel hb d i args ha (wS hm) (by omega) hn⟩
  ·exact last _ d (by omega) hd
theorem Cn : ∀ (j i : Nat), p.length - i ≤ j → ∃ R, bU R args fuel p i true := fun j => by
 have last : ∀ i, ¬ i < p.length → ∃ R, bU R args fuel p i true := fun i hi => ⟨1, jo 0 _ _ _ _ _ ⟨fun h => absurd h hi, fun _ => ⟨_, aw9, rfl⟩⟩⟩
 induction j with
 | zero => intro i hi; exact last i (by omega)
 | succ j ihj =>
  intro i hi
  obtain ⟨t, ht, hlt⟩ | h' := az p i
  ·obtain ⟨R, hR⟩ := ihj (i + 1) (by omega)
   have := Db ha hm fuel hb i t ht R hR (t.kids.length + 2) (-1) (by omega) (by omega) (by omega)
   exact ⟨_, jo _ _ _ _ _ _ ⟨fun _ => this, fun h => absurd hlt h⟩⟩
  ·exact last i h'
end
theorem IG (l : List Int) (args : List GDatum) (hm : mDs args ≤ 1000000000000000) (fuel : Int) : ky l args fuel true := by
 have args_loop : args.length ≤ 10 → l.length ≤ 120 → ∀ (j i : Nat), args.length - i ≤ j → ∃ R, cz R l args fuel i true := fun ha hl j => by
  have last : ∀ i, ¬ i < args.length → ∃ R, cz R l args fuel i true := fun i hi => by
   obtain ⟨p, h1, h2, h3⟩ := Am l (by omega)
   obtain ⟨R, hR⟩ := Cn ha hm fuel (show kbulk p ≤ 1100000 by omega) p.length 0 (by omega)
   exact ⟨R + 1, jm R _ _ _ _ _ ⟨fun h => absurd h hi, fun _ => ⟨p, h1, hR⟩⟩⟩
  induction j with
  | zero => intro i hi; exact last i (by omega)
  | succ j ihj =>
   intro i hi
   obtain ⟨x, hx, hlt⟩ | h' := az args i
   ·obtain ⟨R, hR⟩ := ihj (i + 1) (by omega)
    exact ⟨R + 1, jm R _ _ _ _ _ ⟨fun _ => ⟨x, hx, _, FC x, fun _ => ⟨_, aw9, rfl⟩, fun _ => hR⟩, fun h => absurd hlt h⟩⟩
   ·exact last i h'
 by_cases hl : ((l.length : Nat) : Int) ≤ 120
 ·by_cases ha : args.length ≤ 10
  ·obtain ⟨R, hR⟩ := args_loop ha (by omega) args.length 0 (by omega)
   exact fD R _ _ _ _ ⟨_, tL l, fun _ => ⟨_, aw9, rfl⟩, fun _ => ⟨fun _ => ⟨_, aw9, rfl⟩, fun _ => ⟨fun _ => ⟨_, aw9, rfl⟩, fun _ => hR⟩⟩⟩
  ·exact fD 0 _ _ _ _ ⟨_, tL l, fun _ => ⟨_, aw9, rfl⟩, fun _ => ⟨fun _ => ⟨_, aw9, rfl⟩, fun h => by omega⟩⟩
 ·exact fD 0 _ _ _ _ ⟨_, tL l, fun _ => ⟨_, aw9, rfl⟩, fun h => absurd (of_decide_eq_true h) hl⟩
section
variable {args : List GDatum} (ha : args.length ≤ 10) {f k : Nat} (hf : f ≤ 1500) (hk : k ≤ 1500) {p : List Tree} (hb : kbulk p ≤ 1100000)
include ha hf hk hb
end
section
variable {args : List GDatum} (ha : args.length ≤ 10) (f : Int) {p : List Tree} (hb : kbulk p ≤ 1100000)
include ha hb
end
end Go.Proofs.YthnohcipianijaaGreatDoor
namespace Go.Proofs.YthnohcipianijaaGreatDoor
open Go.RowKit Lx Sx
abbrev iZ (W : World) : Nat → Prop := fun b => b < W.heap.size
theorem RowIn.live {W : World} {sz n : Nat} {A : Option Addr} {xs : List Value} (h : RowIn Any W sz A n xs) : RowIn (iZ W) W sz A n xs := ⟨h.1, fun hp => by
 obtain ⟨b, off, h1, _, h3, h4⟩ := h.2 hp
 exact ⟨b, off, h1, h3, h3, h4⟩⟩
mutual
theorem TreeIs.live {W : World} : ∀ {t : Tree} {c : List Value}, TreeIs Any W t c → TreeIs (iZ W) W t c
 | .node k s ls ks, c, h => by
  simp only [TreeIs] at h ⊢
  obtain ⟨A, m, B, n, h1, h2, h3, h4, h5, h6, cs, h7, h8⟩ := h
  exact ⟨A, m, B, n, h1, h2, h3, h4, h5, h6.live, cs, KidsAre.live h7, h8.live⟩
theorem KidsAre.live {W : World} : ∀ {ts : List Tree} {cs : List Value}, KidsAre Any W ts cs → KidsAre (iZ W) W ts cs
 | [], cs, h => by simp only [KidsAre] at h ⊢; exact h
 | t :: r, cs, h => by
  simp only [KidsAre] at h ⊢
  obtain ⟨c, d, h1, h2, h3⟩ := h
  exact ⟨c, d, h1, TreeIs.live h2, KidsAre.live h3⟩
end
abbrev VLive (W : World) (v : V) (x : Value) : Prop := VRel (iZ W) W (fun _ => none) v x
theorem Jl {W : World} {l : List Int} {A : Option Addr} {cap : Nat} (hc : l.length ≤ cap) (hm : cap ≤ maxLen) (hr : RowIn Any W 1 A l.length (l.map fun z => .int .i64 z)) : VLive W (.row 1 (l.map (V.int .i64))) (.slice A l.length cap) := by
 simp only [VLive, VRel]
 exact ⟨A, cap, _, by simp, by simpa using hc, hm, xc l, by simpa using hr.live⟩
theorem Jn {W : World} (z : Int) : VLive W (.int .i64 z) (.int .i64 z) := by simp only [VLive, VRel]
theorem Jm {fid : FuncId} {us : List V} {b : Bool} (h : pR Tryz.prog fid us (.bool b)) {W : World} {xs : List Value} (hx : LRel (iZ W) W (fun _ => none) us xs) : Calls Tryz.prog fid xs.toArray W fun e W' => e = .returned (.bool b) ∧ Ext W W' := by
 have h0 := Ep W
 have hr' : HRel (iZ W) W (fun _ => none) (⟨0, []⟩ : Hp).get := ⟨h0.ob, fun i b hb => by rw [pW] at hb; exact hb.elim, fun i j b hb _ => by rw [pW] at hb; exact hb.elim, fun _ h => h⟩
 refine (h.2.2 _ W _ xs hr' hx).mono ?_
 rintro e W' ⟨x, S', ρ', v, H', rfl, rfl, h1, h2, h3⟩
 simp only [VRel] at h3
 subst h3
 have hno : ∀ b, ¬ ∃ id, own (fun _ => none) id ((⟨0, []⟩ : Hp).get id) b := fun b ⟨id, hb⟩ => by rw [pW] at hb; exact hb
 exact ⟨rfl, Chg.ext ⟨h2.chg.os, h2.chg.tape, h2.chg.output, h2.chg.size, fun b hb _ => h2.chg.block b hb (hno b)⟩⟩
theorem lr1 {W : World} {u : V} {x : Value} (h : VLive W u x) : LRel (iZ W) W (fun _ => none) [u] [x] := ⟨x, [], rfl, h, rfl⟩
theorem lrc {W : World} {u : V} {us : List V} {x : Value} {xs : List Value} (h : VLive W u x) (k : LRel (iZ W) W (fun _ => none) us xs) : LRel (iZ W) W (fun _ => none) (u :: us) (x :: xs) := ⟨x, xs, rfl, h, k⟩
end Go.Proofs.YthnohcipianijaaGreatDoor
namespace Go.Proofs.YthnohcipianijaaGreatDoor
open Go.RowKit Lx Sx Go.ChangeShapes Go.WideShapes Go.Deep Go.Joins
instance : Inhabited Tree := ⟨lb⟩
theorem BR : Tryz.prog.cellsOf 3 = 1 := by kernel_rfl
theorem BT : Tryz.prog.cellsOf 9 = 1 := by kernel_rfl
theorem Bx {α : Type} {l : List α} (h : l.length = 4) : ∃ a b c d, l = [a, b, c, d] := by
 match l, h with
 | [a, b, c, d], _ => exact ⟨a, b, c, d, rfl⟩
theorem zI {α : Type} {c : Nat → List α} : ∀ (l : List Nat) (i r : Nat), (∀ j ∈ l, (c j).length = 4) → r < 4 → (l.flatMap c)[i * 4 + r]? = (l[i]?).bind fun j => (c j)[r]?
 | [], i, r, _, _ => by simp
 | j :: l, 0, r, h, hr => by
  have := h j (by simp)
  rw [List.flatMap_cons, List.getElem?_append_left (by omega)]; simp
 | j :: l, i + 1, r, h, hr => by
  have h4 := h j (by simp)
  rw [List.flatMap_cons, List.getElem?_append_right (by omega), show (i + 1) * 4 + r - (c j).length = i * 4 + r by omega, zI l i r (fun q hq => h q (by simp [hq])) hr]; simp
section
variable {H : Type} {enc : TypeId × Value → H} {W : World}
theorem zC (b off k : Nat) : (⟨b, off, none⟩ : Addr).add k = ⟨b, off + k, none⟩ := by unfold Addr.add; split <;> simp_all
end
end Go.Proofs.YthnohcipianijaaGreatDoor
namespace Go.Proofs.YthnohcipianijaaGreatDoor
open Go.RowKit Go.ChangeShapes Go.WideShapes Go.Deep Go.Joins
open Lx Sx
instance : Inhabited GDatum := ⟨GD0⟩
theorem wM : Tryz.prog.cellsOf 24 = 4 := by kernel_rfl
theorem Dh : Tryz.prog.cellsOf 2 = 1 := by kernel_rfl
theorem DD : Tryz.prog.cellsOf 22 = 1 := by kernel_rfl
theorem zz {B : Nat} : ∀ l : List GDatum, (∀ d, d ∈ l → mD d ≤ B) → mDs l ≤ B
 | [], _ => by simp [mDs]
 | a :: r, h => by
  have := h a (by simp)
  have := zz r fun x hx => h x (by simp [hx])
  simp only [mDs]; omega
section
variable {H : Type} {enc : TypeId × Value → H} {W : World}
theorem tn {T : TypeId} {y : DataW H} {n : Nat} (hn : n ∈ y.weights Tryz.prog T) : ∀ {l : List (DataW H)}, y ∈ l → n ∈ DataW.weightsAll Tryz.prog T l
 | z :: r, h => by
  simp only [DataW.weightsAll, List.mem_append]
  rcases List.mem_cons.1 h with rfl | h
  ·exact .inl hn
  ·exact .inr (tn hn h)
theorem wR {y : DataW H} : ∀ {l : List (DataW H)}, y ∈ l → Rows.uptoBulk y ≤ Rows.uptoBulkAll l
 | z :: r, h => by
  simp only [Rows.uptoBulkAll]
  rcases List.mem_cons.1 h with rfl | h
  ·omega
  ·have := wR h; omega
def wG (W : World) (y : DataW H) (d : GDatum) (cs : List Value) : Prop := (LRel (iZ W) W ρ0 (GDatum.c d) cs ∧ cs.length = 4 ∧ cs.all (·.oneCell') = true) ∧ ∀ B, (∀ k, k ∈ y.weights Tryz.prog 24 → k ≤ B) → mD d ≤ B
theorem xo {g : Nat → GDatum} {c : Nat → List Value} : ∀ (l : List Nat), (∀ i, i ∈ l → LRel (iZ W) W ρ0 (GDatum.c (g i)) (c i) ∧ (c i).length = 4 ∧ (c i).all (·.oneCell') = true) → CRel (iZ W) W ρ0 4 (GDatum.vs (l.map g)) (l.flatMap c)
 | [], _ => by simp [CRel, GDatum.vs]
 | i :: l, h => by
  obtain ⟨h1, h2, h3⟩ := h i (by simp)
  simp only [List.map_cons, List.flatMap_cons, GDatum.vs, CRel]
  refine ⟨.agg (c i).toArray, _, by simp [Value.cells], ⟨by simp [Value.cells, h2], by simpa [Value.cells] using h3⟩, ?_, xo l fun j hj => h j (by simp [hj])⟩
  rw [GDatum.v_eq]
  simp only [VRel]
  exact ⟨_, rfl, h1⟩
theorem zq {n : Nat} {v : Value} {x : DataW H × List MemPlace} (h : DataW.trod enc Tryz.prog W 0 (fun _ => true) true n 22 [v] = some x) (ih : ∀ n cs (y : DataW H × List MemPlace), Rows.uptoBulk y.1 < Rows.uptoBulk x.1 → DataW.trod enc Tryz.prog W 0 (fun _ => true) true n 24 cs = some y → ∃ d, wG W y.1 d cs) :
  ∃ ks, VRel (iZ W) W ρ0 (.row 4 (GDatum.vs ks)) v ∧ v.oneCell' = true ∧ ∀ B, (∀ k, k ∈ x.1.weights Tryz.prog 22 → k ≤ B) → mDs ks ≤ B := by
 rcases open_slice Tryz.underlying22 h with ⟨hcs, hx3⟩ | ⟨a, len, cap, m3, n3, D, Pl, hcs, hb, hl3, hm3, hmm, hx3, hi⟩
 ·simp only [List.cons.injEq, and_true] at hcs
  subst hcs
  refine ⟨[], ?_, rfl, fun B _ => by simp [mDs]⟩
  simp only [VRel]
  exact ⟨none, 0, [], rfl, Nat.le_refl _, by simp [maxLen], by simp [CRel, GDatum.vs], RowIn.none_⟩
 ·simp only [List.cons.injEq, and_true] at hcs
  simp only [if_true] at hmm
  subst hmm hcs
  rw [wM] at hi
  have hall : Rows.uptoBulk x.1 = Rows.uptoBulkAll ((List.range len).map D) + Rows.uptoBulkAll ((List.range (m3 - len)).map fun j => D (len + j)) + 1 := by
   rw [hx3]; simp only [Rows.uptoBulk]
  obtain ⟨T, hT⟩ := choose_lt (α := GDatum × List Value) (p := fun i t => i < len → W.cells? 0 (a.add (i * 4)) 4 = some t.2 ∧ wG W (D i) t.1 t.2) (n := m3) (fun i him => by
   by_cases hil : i < len
   ·obtain ⟨cs', hc, ht⟩ := hi i him
    have hb1 : Rows.uptoBulk (D i) ≤ Rows.uptoBulkAll ((List.range len).map D) := wR (List.mem_map.2 ⟨i, by simp [hil], rfl⟩)
    obtain ⟨d, g1⟩ := ih n3 cs' (D i, Pl i) (by simp only; omega) ht
    exact ⟨(d, cs'), fun _ => ⟨hc, g1⟩⟩
   ·exact ⟨(GD0, []), fun h => absurd h hil⟩)
  have hTl : ∀ i, i ∈ List.range len → W.cells? 0 (a.add (i * 4)) 4 = some (T i).2 ∧ wG W (D i) (T i).1 (T i).2 := fun i hi' => by
   have := List.mem_range.1 hi'
   exact hT i (by omega) this
  have hrow : RowIn (iZ W) W 4 (some a) len ((List.range len).flatMap fun i => (T i).2) := by
   refine ⟨?_, fun h0 => ?_⟩
   ·have e : ∀ l : List Nat, (∀ i, i ∈ l → (T i).2.length = 4) → (l.flatMap fun i => (T i).2).length = l.length * 4 := by
     intro l
     induction l with
     | nil => simp
     | cons i r ihr =>
      intro hh
      have := hh i (by simp)
      have := ihr fun j hj => hh j (by simp [hj])
      simp only [List.flatMap_cons, List.length_append, List.length_cons]; omega
    rw [e _ fun i hi' => (hTl i hi').2.1.2.1]; simp
   ·have hcell : ∀ i, i < len → ∀ r, r < 4 → W.cell? ((a.add (i * 4)).add r) = (T i).2[r]? := fun i hi' r hr => by
     have h4 := (hTl i (by simp [hi'])).2.1.2.1
     have := (World.cells?_some (hTl i (by simp [hi'])).1).2.2 r (by omega)
     rw [this]
    have hsome : ∃ v, W.cell? a = some v := by
     have h4 := (hTl 0 (by simp [h0])).2.1.2.1
     have := hcell 0 h0 0 (by omega)
     refine ⟨(T 0).2[0]'(by omega), ?_⟩
     rw [List.getElem?_eq_getElem (by omega)] at this
     simpa [Addr.add] using this
    obtain ⟨vv, hvv⟩ := hsome
    have hs : a.spot = none := World.cell?_spot (a := a) hvv
    obtain ⟨b, off, spot⟩ := a
    simp only at hs
    subst hs
    refine ⟨b, off, rfl, World.block_lt_of_cell? W ⟨b, off, none⟩ hvv, World.block_lt_of_cell? W ⟨b, off, none⟩ hvv, fun j hj => ?_⟩
    have e := hcell (j / 4) (by omega) (j % 4) (by omega)
    rw [zC, zC, show off + j / 4 * 4 + j % 4 = off + j by omega] at e
    have e2 := zI (c := fun i => (T i).2) (List.range len) (j / 4) (j % 4) (fun i hi' => (hTl i hi').2.1.2.1) (by omega)
    rw [show j / 4 * 4 + j % 4 = j by omega] at e2
    rw [e, e2]; simp [show j / 4 < len by omega]
  refine ⟨(List.range len).map fun i => (T i).1, ?_, rfl, fun B hB => ?_⟩
  ·simp only [VRel]
   refine ⟨some a, m3, (List.range len).flatMap fun i => (T i).2, ?_, ?_, hm3, xo _ fun i hi' => (hTl i hi').2.1, ?_⟩
   ·rw [GDatum.vlen]; simp
   ·rw [GDatum.vlen]; simpa using hl3
   ·rw [GDatum.vlen]; simpa using hrow
  ·refine zz _ fun d hd => ?_
   obtain ⟨i, hi', rfl⟩ := List.mem_map.1 hd
   refine (hTl i hi').2.2 B fun k hk => hB k ?_
   rw [hx3]
   simp only [DataW.weights, Tryz.underlying22, List.mem_cons, List.mem_append]
   exact .inr (.inl (tn hk (List.mem_map.2 ⟨i, hi', rfl⟩)))
theorem By : ∀ (q n : Nat) (cs : List Value) (x : DataW H × List MemPlace), Rows.uptoBulk x.1 ≤ q → DataW.trod enc Tryz.prog W 0 (fun _ => true) true n 24 cs = some x → ∃ d, wG W x.1 d cs
 | q, n, cs, x, hq, h => by
  obtain ⟨y0, y1, y2, y3, n', hx, hl, h0, h1, h2, h3⟩ := trod_struct4 Tryz.underlying24 h
  rw [wM] at hl
  obtain ⟨v0, v1, v2, v3, rfl⟩ := Bx hl
  simp only [BR, BT, Dh, DD, List.drop_zero, List.drop_succ_cons, List.take_succ_cons, List.take_zero] at h0 h1 h2 h3
  obtain ⟨k, e0, f0, _⟩ := DataW.trod_int Tryz.underlying3 h0
  obtain ⟨j, e1, f1, _⟩ := DataW.trod_int Tryz.underlying2 h1
  obtain ⟨s, e2, f2, _⟩ := DataW.trod_string Tryz.underlying9 h2
  simp only [List.cons.injEq, and_true] at e0 e1 e2
  have hbk : Rows.uptoBulk x.1 = Rows.uptoBulk y0.1 + (Rows.uptoBulk y1.1 + (Rows.uptoBulk y2.1 + (Rows.uptoBulk y3.1 + 0))) + 1 := by rw [hx]; simp only [Rows.uptoBulk, Rows.uptoBulkAll]
  obtain ⟨ks, g1, g2, g3⟩ := zq h3 fun n cs y hy hc => By (q - 1) n cs y (by omega) hc
  have hs : y2.1 = .lit (.string s.data.toList) := by rw [f2]
  refine ⟨⟨k, j, s.data.toList, ks⟩, ⟨?_, rfl, ?_⟩, fun B hB => ?_⟩
  ·subst e0 e1 e2
   simp only [GDatum.c, LRel]
   exact ⟨_, _, rfl, by simp only [VRel], _, _, rfl, by simp only [VRel], _, _, rfl, by simp only [VRel], _, _, rfl, g1, rfl⟩
  ·subst e0 e1 e2
   simp only [List.all_cons, List.all_nil, g2, Bool.and_true]; rfl
  ·have hw : ∀ k, k ∈ y2.1.weights Tryz.prog 9 ∨ k ∈ y3.1.weights Tryz.prog 22 → k ≤ B := fun k hk => hB k (by
    rw [hx]
    simp only [DataW.weights, Tryz.underlying24, List.map_cons, List.map_nil, DataW.weightsEach, List.mem_append, List.toList_toArray]
    rcases hk with hk | hk
    ·exact .inr (.inr (.inl hk))
    ·exact .inr (.inr (.inr (.inl hk))))
   rw [AN]
   have a1 : s.data.toList.length ≤ B := hw _ (.inl (by rw [hs]; simp [DataW.weights]))
   have a2 := g3 B fun k hk => hw k (.inr hk)
   show max s.data.toList.length (mDs ks) ≤ B
   omega
 termination_by q => q
 decreasing_by omega
theorem IM {v : Value} {d : DataW H} {p : List MemPlace} (h : DataW.Trod enc Tryz.prog W 0 (fun _ => true) true 22 v d p) (hv : v.cells.toList = [v]) : ∃ ks, VLive W (.row 4 (GDatum.vs ks)) v ∧ ∀ B, (∀ k, k ∈ d.weights Tryz.prog 22 → k ≤ B) → mDs ks ≤ B := by
 obtain ⟨fuel, h3⟩ := h
 rw [hv] at h3
 obtain ⟨ks, g1, _, g3⟩ := zq h3 fun n cs y hy hc => By _ n cs y (Nat.le_refl _) hc
 exact ⟨ks, g1, g3⟩
theorem IL {ts : List TypeId} {ds : List (DataW H)} (h : (DataW.weightsEach Tryz.prog ts ds).all (· ≤ reachBytes) = true) {j : Nat} {t : TypeId} {d : DataW H} (ht : ts[j]? = some t) (hd : ds[j]? = some d) : ∀ k, k ∈ d.weights Tryz.prog t → k ≤ reachBytes := fun k hk => by
 have := List.all_eq_true.1 h _ (DataW.weights_mem_each ht hd k hk)
 simpa using this
end
end Go.Proofs.YthnohcipianijaaGreatDoor
namespace Go.Proofs.YthnohcipianijaaGreatDoor
open Go.RowKit Go.ChangeShapes Go.WideShapes Go.Deep
theorem Ch : Tryz.prog.cellsOf 3 = 1 := by kernel_rfl
theorem HK {H : Type} {enc : TypeId × Value → H} {W : World} {a0 : Option Addr} {len cap : Nat} {d : DataW H} {p : List MemPlace} (h : DataW.Trod enc Tryz.prog W 0 (fun _ => true) true 29 (.slice a0 len cap) d p) :
  ∃ zs : List Int, len = zs.length ∧ len ≤ cap ∧ cap ≤ maxLen ∧ RowIn Any W 1 a0 zs.length (zs.map fun z => .int .i64 z) := by
 obtain ⟨fuel, hf⟩ := h
 rcases open_ints Tryz.underlying29 Tryz.underlying3 Ch hf with ⟨hcs, hx⟩ | ⟨a, len', cap', zs, hcs, hb, hl, hm, hlen, hx, hcell, hwf⟩
 ·simp [Value.cells] at hcs
  obtain ⟨rfl, rfl, rfl⟩ := hcs
  exact ⟨[], rfl, Nat.le_refl _, Nat.zero_le _, RowIn.none_⟩
 ·simp [Value.cells] at hcs
  obtain ⟨rfl, rfl, rfl⟩ := hcs
  simp only [if_true] at hlen
  have hlt : (zs.take len).length = len := by simp; omega
  refine ⟨zs.take len, hlt.symm, hl, hm, by simp, fun h0 => ?_⟩
  rw [hlt] at h0 ⊢
  have hs : a.spot = none := World.cell?_spot (a := a) (by have := hcell 0 (by omega); simpa [Addr.add] using this)
  obtain ⟨b, off, spot⟩ := a
  simp only at hs
  subst hs
  have hadd : ∀ k, (⟨b, off, none⟩ : Addr).add k = ⟨b, off + k, none⟩ := fun k => by unfold Addr.add; split <;> simp_all
  refine ⟨b, off, rfl, trivial, ?_, fun j hj => ?_⟩
  ·have := hcell 0 (by omega)
   exact World.block_lt_of_cell? W ⟨b, off, none⟩ (by simpa [Addr.add] using this)
  ·have hj' : j < len := by omega
   have := hcell j (by omega)
   rw [hadd] at this
   rw [this]
   simp [hj', List.getD_eq_getElem?_getD, show j < zs.length from by omega]
end Go.Proofs.YthnohcipianijaaGreatDoor
namespace Go.Proofs.YthnohcipianijaaGreatDoor
def xW (cs : Array Value) : Obj → Obj
 | .cells _ t frozen => .cells cs t frozen
 | o => o
noncomputable def Gc : Nat := (World.holding Tryz.prog default ⟨#[], #[], []⟩).heap.size
noncomputable def Bm (os : Os) : World :=
 let w0 := World.holding Tryz.prog os ⟨#[.cells #[.string ⟨#[105, 110, 118, 97, 108, 105, 100, 32, 115, 121, 110, 116, 97, 120]⟩] 242, .cells #[.string ⟨#[118, 97, 108, 117, 101, 32, 111, 117, 116, 32, 111, 102, 32, 114, 97, 110, 103, 101]⟩] 242], #[], []⟩
 { w0 with heap := ((((w0.heap.modify 3 (xW #[.iface 240 (.pointer (some ⟨Gc, 0, none⟩))])).modify 4 (xW #[.iface 240 (.pointer (some ⟨Gc + 1, 0, none⟩))])).modify 6 (xW #[.int .u64 1, .int .u64 10, .int .u64 100, .int .u64 1000, .int .u64 10000, .int .u64 100000, .int .u64 1000000, .int .u64 10000000, .int .u64 100000000, .int .u64 1000000000, .int .u64 10000000000, .int .u64 100000000000, .int .u64 1000000000000, .int .u64 10000000000000, .int .u64 100000000000000, .int .u64 1000000000000000, .int .u64 10000000000000000, .int .u64 100000000000000000, .int .u64 1000000000000000000, .int .u64 10000000000000000000])).modify 7 (xW #[.int .u8 0, .int .u8 1, .int .u8 28, .int .u8 2, .int .u8 29, .int .u8 14, .int .u8 24, .int .u8 3, .int .u8 30, .int .u8 22, .int .u8 20, .int .u8 15, .int .u8 25, .int .u8 17, .int .u8 4, .int .u8 8, .int .u8 31, .int .u8 27, .int .u8 13, .int .u8 23, .int .u8 21, .int .u8 19, .int .u8 16, .int .u8 7, .int .u8 26, .int .u8 12, .int .u8 18, .int .u8 6, .int .u8 11, .int .u8 5, .int .u8 10, .int .u8 9])).modify 8 (xW #[.int .u8 0, .int .u8 1, .int .u8 56, .int .u8 2, .int .u8 57, .int .u8 49, .int .u8 28, .int .u8 3, .int .u8 61, .int .u8 58, .int .u8 42, .int .u8 50, .int .u8 38, .int .u8 29, .int .u8 17, .int .u8 4, .int .u8 62, .int .u8 47, .int .u8 59, .int .u8 36, .int .u8 45, .int .u8 43, .int .u8 51, .int .u8 22, .int .u8 53, .int .u8 39, .int .u8 33, .int .u8 30, .int .u8 24, .int .u8 18, .int .u8 12, .int .u8 5, .int .u8 63, .int .u8 55, .int .u8 48, .int .u8 27, .int .u8 60, .int .u8 41, .int .u8 37, .int .u8 16, .int .u8 46, .int .u8 35, .int .u8 44, .int .u8 21, .int .u8 52, .int .u8 32, .int .u8 23, .int .u8 11, .int .u8 54, .int .u8 26, .int .u8 40, .int .u8 15, .int .u8 34, .int .u8 20, .int .u8 31, .int .u8 10, .int .u8 25, .int .u8 14, .int .u8 19, .int .u8 9, .int .u8 13, .int .u8 8, .int .u8 7, .int .u8 6]) }
theorem Ja (os : Os) (args : Array Value) : laidMet Tryz.prog Rows.evalDataRow.laid ((Bm os).forCall (fun _ _ => 0) ⟨#[], args, []⟩).memory :=
 laidMet_of_run' 8 (by kernel_rfl) (by kernel_rfl)
end Go.Proofs.YthnohcipianijaaGreatDoor
