/- Contracts of the functions that the law reaches, part 7. -/
import Derived.Test.YthnohcipianijaaGreatDoorFa6
set_option linter.unusedVariables false
set_option linter.unusedSimpArgs false
namespace Go.Proofs.YthnohcipianijaaGreatDoor
open Go.RowKit Lx Sx
set_option maxRecDepth 100000
set_option maxHeartbeats 1100000
theorem Bz : rr mc (vS yn 5000 27 [.str CE]) = true := by kernel_rfl
theorem qW : kbulk [mc] ≤ 1100000 := by decide +kernel
theorem Ez : (bn [mc] 0 0 [dI 2] 100).2 = (25, 0) ∧ sameD (bn [mc] 0 0 [dI 2] 100).1 (dI 3) = true ∧ gA (bn [mc] 0 0 [dI 2] 100).1 = true := by decide +kernel
theorem Ew : (bn [mc] 0 0 [dI 2] 5).2 = (5, 21) := by decide +kernel
theorem BH : kw true := by
 obtain ⟨a1, a2, a3⟩ := Ez
 have a4 := Ew
 have r1 := rA qW 0 0 [dI 2] (by simp) 100
 have r2 := rA qW 0 0 [dI 2] (by simp) 5
 have hw := tL qW 0 0 [dI 2] 100
 have hn := uR (bn [mc] 0 0 [dI 2] 100).1
 revert a1 a2 a3 a4 r1 r2 hw hn
 generalize bn [mc] 0 0 [dI 2] 100 = x
 generalize bn [mc] 0 0 [dI 2] 5 = y
 obtain ⟨x1, x2, x3⟩ := x
 obtain ⟨y1, y2, y3⟩ := y
 intro a1 a2 a3 a4 r1 r2 hw hn
 simp only [Prod.mk.injEq] at a1 a2 a3 a4 r1 r2 hw hn
 obtain ⟨rfl, rfl⟩ := a1
 obtain ⟨rfl, rfl⟩ := a4
 refine oc 5 _ ⟨mc, 0, 0, Dk Bz, _, rR 2, _, _, _, r1, nu 4 _ _ _ _ _ _ ⟨_, rR 2, _, _, _, r2, ny 3 _ _ _ _ _ _ _ ⟨fun _ => ⟨fun _ => ⟨fun _ => ⟨_, rR 3, _, tp x1 (by omega) _, fun _ => ⟨fun _ => ⟨fun _ => ⟨_, xS x1, a3⟩, fun h => absurd rfl h⟩, fun h => absurd rfl h⟩, fun h => by rw [a2] at h; cases h⟩, fun h => absurd rfl h⟩, fun h => absurd rfl h⟩, fun h => absurd rfl h⟩⟩⟩
theorem aw9 : aM true := BH
end Go.Proofs.YthnohcipianijaaGreatDoor
namespace Go.Proofs.YthnohcipianijaaGreatDoor
open Go.RowKit Lx Sx
set_option maxRecDepth 100000
set_option maxHeartbeats 4000000
def jE (p0 : List Int) (p1 : List GDatum) (p2 p3 : Int) (r0 : Bool) : Prop := qS 7 [.row 1 (List.map (V.int .i64) p0), .row 4 (GDatum.vs p1), .int .i64 p2, .int .i64 p3] (.bool r0)
def iH (p0 : List Int) (p1 : List GDatum) (p2 : Int) (r0 : Bool) : Prop := qS 8 [.row 1 (List.map (V.int .i64) p0), .row 4 (GDatum.vs p1), .int .i64 p2] (.bool r0)
def fM (p0 r0 : Tree) : Prop := qS 25 [.agg (an p0)] (.agg (an r0))
def cw (m : Nat) (p0 : List Int) (p1 : List GDatum) (p2 p3 : Int) (a : Nat) (r0 : Bool) : Prop := ∀ (K : Ctx) (j1 : Nat), aq K [] → m ≤ j1 → qLG K Tryz.f7 (fun u _ => u = .bool r0) (xI (ae Tryz.f7)) [.loop (xI (ae Tryz.f7)) j1, .blk 0, .seq (xH (ae Tryz.f7))] 152 (mkF 152 0 [(0, .row 1 (List.map (V.int .i64) p0)), (1, .row 4 (GDatum.vs p1)), (2, .int .i64 p2), (3, .int .i64 p3), (9, .int .i64 (a : Int))]) ⟨0, []⟩
def bT (m : Nat) (p1 : List GDatum) (p2 p3 : Int) (a : List Tree) (b : Nat) (r0 : Bool) : Prop := ∀ (K : Ctx) (j1 : Nat), aq K [] → m ≤ j1 → qLG K Tryz.f7 (fun u _ => u = .bool r0) (xI (xA (ae Tryz.f7))) [.loop (xI (xA (ae Tryz.f7))) j1, .blk 2, .seq (xA (xH (ae Tryz.f7)))] 152 (mkF 152 0 [(1, .row 4 (GDatum.vs p1)), (2, .int .i64 p2), (3, .int .i64 p3), (10, .row 4 (kidsV a)), (11, .int .i64 (b : Int))]) ⟨0, []⟩
def bg (m : Nat) (p1 : List GDatum) (p2 p3 : Int) (a : List Tree) (b c : Nat) (r0 : Bool) : Prop := ∀ (K : Ctx) (j1 j2 : Nat), aq K [] → m ≤ j1 → m ≤ j2 → qLG K Tryz.f7 (fun u _ => u = .bool r0) (cL (xD (cK (cA (cB (xI (xA (ae Tryz.f7)))))))) [.loop (cL (xD (cK (cA (cB (xI (xA (ae Tryz.f7)))))))) j1, .blk 4, .blk 3, .seq (xA (xI (xA (ae Tryz.f7)))), .loop (xI (xA (ae Tryz.f7))) j2, .blk 2, .seq (xA (xH (ae Tryz.f7)))] 152 (mkF 152 0 [(1, .row 4 (GDatum.vs p1)), (2, .int .i64 p2), (3, .int .i64 p3), (10, .row 4 (kidsV a)), (11, .int .i64 (c : Int)), (12, .int .i64 (b : Int))]) ⟨0, []⟩
theorem fk (m : Nat) (p0 : List Int) (p1 : List GDatum) (p2 p3 : Int) (r0 : Bool) (h : ∃ a, fJ p0 a ∧ ((a = false) → ∃ b, aM b ∧ b = r0) ∧ ((a = true) → ((10 < (p1.length : Int)) → ∃ c, aM c ∧ c = r0) ∧ ((¬ 10 < (p1.length : Int)) → ((p2 < 0) → ∃ d, aM d ∧ d = r0) ∧ ((¬ p2 < 0) → ((1500 < p2) → ∃ e, aM e ∧ e = r0) ∧ ((¬ 1500 < p2) → ((p3 < 0) → ∃ f, aM f ∧ f = r0) ∧ ((¬ p3 < 0) → ((1500 < p3) → ∃ g, aM g ∧ g = r0) ∧ ((¬ 1500 < p3) → cw m p0 p1 p2 p3 0 r0))))))) : jE p0 p1 p2 p3 r0 := by
 refine ⟨rfl, rfl, ?_⟩
 refine ak 152 [] Tryz.func7 rfl rfl rfl (az rfl) fun K hK => ?_
 refine gR 9 rfl ?_
 obtain ⟨a, hs64, h⟩ := h
 refine gC0 hs64 (by kernel_rfl) rfl rfl .rfl rfl <| gR 2 rfl <| gB 23 rfl rfl rfl ?_ ?_ <;> intro hd
 refine gT 22 rfl hd rfl ?_
 replace hd := (cr hd)
 replace h := h.1 hd
 refine gR 25 rfl ?_
 obtain ⟨b, hs65, h⟩ := h
 refine gC0 hs65 (by kernel_rfl) rfl rfl .rfl rfl <| gR 5 rfl ?_
 subst h
 exact go_end ac (rs := [.tmp 8]) rfl rfl rfl
 refine gF 22 rfl hd rfl ?_
 replace hd := (ct hd)
 replace h := h.2 hd
 refine gR 2 rfl <| gV 25 (.int .i64 (p1.length : Int)) rfl (aO (GDatum.vlen _)) rfl <| gLB 24 rfl (GDatum.vlen _) fun hl66 => gR 3 rfl <| gB 28 rfl rfl rfl ?_ ?_ <;> intro hd
 refine gT 27 rfl hd rfl ?_
 replace hd := (of_decide_eq_true hd)
 replace h := h.1 hd
 refine gR 20 rfl ?_
 obtain ⟨c, hs67, h⟩ := h
 refine gC0 hs67 (by kernel_rfl) rfl rfl .rfl rfl <| gR 5 rfl ?_
 subst h
 exact go_end ac (rs := [.tmp 8]) rfl rfl rfl
 refine gF 27 rfl hd rfl ?_
 replace hd := (of_decide_eq_false hd)
 replace h := h.2 hd
 refine gR 4 rfl <| gB 32 rfl rfl rfl ?_ ?_ <;> intro hd
 refine gT 31 rfl hd rfl ?_
 replace hd := (of_decide_eq_true hd)
 replace h := h.1 hd
 refine gR 16 rfl ?_
 obtain ⟨d, hs68, h⟩ := h
 refine gC0 hs68 (by kernel_rfl) rfl rfl .rfl rfl <| gR 5 rfl ?_
 subst h
 exact go_end ac (rs := [.tmp 8]) rfl rfl rfl
 refine gF 31 rfl hd rfl ?_
 replace hd := (of_decide_eq_false hd)
 replace h := h.2 hd
 refine gR 4 rfl <| gB 36 rfl rfl rfl ?_ ?_ <;> intro hd
 refine gT 35 rfl hd rfl ?_
 replace hd := (of_decide_eq_true hd)
 replace h := h.1 hd
 refine gR 12 rfl ?_
 obtain ⟨e, hs69, h⟩ := h
 refine gC0 hs69 (by kernel_rfl) rfl rfl .rfl rfl <| gR 5 rfl ?_
 subst h
 exact go_end ac (rs := [.tmp 8]) rfl rfl rfl
 refine gF 35 rfl hd rfl ?_
 replace hd := (of_decide_eq_false hd)
 replace h := h.2 hd
 refine gR 4 rfl <| gB 40 rfl rfl rfl ?_ ?_ <;> intro hd
 refine gT 39 rfl hd rfl ?_
 replace hd := (of_decide_eq_true hd)
 replace h := h.1 hd
 refine gR 8 rfl ?_
 obtain ⟨f, hs70, h⟩ := h
 refine gC0 hs70 (by kernel_rfl) rfl rfl .rfl rfl <| gR 5 rfl ?_
 subst h
 exact go_end ac (rs := [.tmp 8]) rfl rfl rfl
 refine gF 39 rfl hd rfl ?_
 replace hd := (of_decide_eq_false hd)
 replace h := h.2 hd
 refine gR 5 rfl <| gB 43 rfl rfl rfl ?_ ?_ <;> intro hd
 replace hd := (of_decide_eq_true hd)
 replace h := h.1 hd
 refine gR 3 rfl ?_
 obtain ⟨g, hs71, h⟩ := h
 refine gC0 hs71 (by kernel_rfl) rfl rfl .rfl rfl <| gR 5 rfl ?_
 subst h
 exact go_end ac (rs := [.tmp 8]) rfl rfl rfl
 replace hd := (of_decide_eq_false hd)
 replace h := h.2 hd
 exact gR 10 rfl <| go_loop m <| gJ (h K _ hK (by omega)) [] [] rfl hK pq5 trivial rfl
theorem iE (m : Nat) (p0 : List Int) (p1 : List GDatum) (p2 p3 : Int) (a : Nat) (r0 : Bool) (h : ((a < p1.length) → ∃ c, p1[a]? = some c ∧ ∃ b, eW c b ∧ ((b = false) → ∃ d, aM d ∧ d = r0) ∧ ((b = true) → cw m p0 p1 p2 p3 (a + 1) r0)) ∧ ((¬ a < p1.length) → ∃ e, em p0 e ∧ bT m p1 p2 p3 e 0 r0)) : cw (m + 1) p0 p1 p2 p3 a r0 := by
 intro K j1 hK hj1
 obtain ⟨j1, rfl⟩ : ∃ j, j1 = j + 1 := ⟨j1 - 1, by omega⟩
 refine gR 6 rfl <| gV 47 (.int .i64 (p1.length : Int)) rfl (aO (GDatum.vlen _)) rfl <| gLB 46 rfl (GDatum.vlen _) fun hl72 => gR 3 rfl <| gB 48 rfl rfl rfl ?_ ?_ <;> intro hd
 replace hd := (ch hd)
 replace h := h.1 hd
 refine gR 9 rfl ?_
 obtain ⟨c, hxx1_1, h⟩ := h
 refine gY (aG (GDatum.vget hxx1_1) ac rfl rfl rfl rfl) rfl rfl <| gR 1 rfl ?_
 obtain ⟨b, hs73, h⟩ := h
 refine gC0 hs73 (by kernel_rfl) rfl rfl .rfl rfl <| gR 3 rfl <| gB 56 rfl rfl rfl ?_ ?_ <;> intro hd
 replace hd := (cr hd)
 replace h := h.1 hd
 refine gR 3 rfl ?_
 obtain ⟨d, hs74, h⟩ := h
 refine gC0 hs74 (by kernel_rfl) rfl rfl .rfl rfl <| gR 6 rfl <| go_xloopR <| gR 2 rfl ?_
 subst h
 exact go_end ac (rs := [.tmp 8]) rfl rfl rfl
 replace hd := (ct hd)
 replace h := h.2 hd
 exact gR 7 rfl <| gV 50 (.int .i64 ((a + 1 : Nat) : Int)) rfl (ao (by have := hl72; omega) (by omega)) rfl <| gR 2 rfl <| go_xloop <| gJ (h K _ hK (by omega)) [] [] rfl hK pq5 trivial rfl
 replace hd := (cg hd)
 replace h := h.2 hd
 refine gR 3 rfl <| go_xloopE <| gR 5 rfl ?_
 obtain ⟨e, hs75, h⟩ := h
 exact gC0 hs75 (by kernel_rfl) rfl rfl .rfl rfl <| gR 10 rfl <| go_loop m <| gJ (h K _ hK (by omega)) [] [] rfl hK pq5 trivial rfl
theorem iB (m : Nat) (p1 : List GDatum) (p2 p3 : Int) (a : List Tree) (b : Nat) (r0 : Bool) (h : ((b < a.length) → bg m p1 p2 p3 a 0 b r0) ∧ ((¬ b < a.length) → ∃ c, aM c ∧ c = r0)) : bT (m + 1) p1 p2 p3 a b r0 := by
 intro K j1 hK hj1
 obtain ⟨j1, rfl⟩ : ∃ j, j1 = j + 1 := ⟨j1 - 1, by omega⟩
 refine gR 6 rfl <| gV 62 (.int .i64 (a.length : Int)) rfl (aO (aI _)) rfl <| gLB 61 rfl (aI _) fun hl76 => gR 3 rfl <| gB 63 rfl rfl rfl ?_ ?_ <;> intro hd
 replace hd := (ch hd)
 replace h := h.1 hd
 exact gR 11 rfl <| go_loop m <| gJ (h K _ _ hK (by omega) (by omega)) [] [] rfl hK pq6 trivial rfl
 replace hd := (cg hd)
 replace h := h.2 hd
 refine gR 3 rfl <| go_xloopE <| gR 4 rfl ?_
 obtain ⟨c, hs77, h⟩ := h
 refine gC0 hs77 (by kernel_rfl) rfl rfl .rfl rfl <| gR 4 rfl ?_
 subst h
 exact go_end ac (rs := [.tmp 8]) rfl rfl rfl
theorem rL2_semvcslaw09_EvalFuel (m : Nat) (p1 : List GDatum) (p2 p3 : Int) (f : List Tree) (a b : Nat) (r0 : Bool) (h : ∃ o, f[b]? = some o ∧ ((a < o.kids.length) → ∃ s, f[b]? = some s ∧ ∃ p, s.kids[a]? = some p ∧ ∃ k, (min (p1.length : Int) (max 0 ((p.kids.length : Int) - 2))) = ((k : Nat) : Int) ∧ k ≤ p1.length ∧ ∃ q d e, fL f (b : Int) (a : Int) (p1.take k) p2 q d e ∧ InI (p2 + p3) ∧ ∃ r i g, fL f (b : Int) (a : Int) (p1.take k) (p2 + p3) r i g ∧ ((d < 0) → false = r0) ∧ ((¬ d < 0) → ((p2 < d) → false = r0) ∧ ((¬ p2 < d) → ((e = 21) → ((d ≠ p2) → false = r0) ∧ ((d = p2) → ((e ≠ 21) → ((e ≠ g) → false = r0) ∧ ((e = g) → ((d ≠ i) → false = r0) ∧ ((d = i) → ∃ l, dN q r l ∧ ((l = false) → false = r0) ∧ ((l = true) → bg m p1 p2 p3 f (a + 1) b r0)))) ∧ ((e = 21) → bg m p1 p2 p3 f (a + 1) b r0))) ∧ ((e ≠ 21) → ((e ≠ 21) → ((e ≠ g) → false = r0) ∧ ((e = g) → ((d ≠ i) → false = r0) ∧ ((d = i) → ∃ n, dN q r n ∧ ((n = false) → false = r0) ∧ ((n = true) → bg m p1 p2 p3 f (a + 1) b r0)))) ∧ ((e = 21) → bg m p1 p2 p3 f (a + 1) b r0))))) ∧ ((¬ a < o.kids.length) → b + 1 ≤ 9223372036854775807 ∧ bT m p1 p2 p3 f (b + 1) r0)) : bg (m + 1) p1 p2 p3 f a b r0 := by
 intro K j1 j2 hK hj1 hj2
 obtain ⟨j1, rfl⟩ : ∃ j, j1 = j + 1 := ⟨j1 - 1, by omega⟩
 obtain ⟨j2, rfl⟩ : ∃ j, j2 = j + 1 := ⟨j2 - 1, by omega⟩
 refine gR 6 rfl ?_
 obtain ⟨o, hxt3_1, h⟩ := h
 refine gY (aG (av hxt3_1) ac rfl rfl rfl rfl) rfl rfl <| gR 3 rfl <| gV 72 (.int .i64 (o.kids.length : Int)) rfl (aO (aI _)) rfl <| gLB 71 rfl (aI _) fun hl78 => gR 3 rfl <| gB 73 rfl rfl rfl ?_ ?_ <;> intro hd
 replace hd := (ch hd)
 replace h := h.1 hd
 refine gR 10 rfl <| gV 78 (.int .i64 (p1.length : Int)) rfl (aO (GDatum.vlen _)) rfl <| gLB 77 rfl (GDatum.vlen _) fun hl79 => gR 2 rfl ?_
 obtain ⟨s, hxt3_2, h⟩ := h
 refine gY (aG (av hxt3_2) ac rfl rfl rfl rfl) rfl rfl <| gR 3 rfl ?_
 obtain ⟨p, hxt3_3, h⟩ := h
 refine gY (aG (av hxt3_3) ac rfl rfl rfl rfl) rfl rfl <| gR 3 rfl <| gV 88 (.int .i64 (p.kids.length : Int)) rfl (aO (aI _)) rfl <| gLB 87 rfl (aI _) fun hl80 => gR 1 rfl <| gV 89 (.int .i64 ((p.kids.length : Int) - 2)) rfl (ao (by have := hl80; omega) rfl) rfl <| gR 1 rfl <| gY (EV rfl rfl rfl) rfl rfl ?_
 obtain ⟨k, t, h⟩ := h
 refine gV 91 (.int .i64 ((k : Nat) : Int)) rfl (cO t) rfl ?_
 obtain ⟨hb', h⟩ := h
 refine gY (Bo (GDatum.vlen p1) ac rfl rfl vE (se rfl) (Nat.zero_le _) hb' (((GDatum.vsub _ _ _).trans (congrArg _ (sq _ _))))) rfl rfl <| gR 10 rfl ?_
 obtain ⟨q, d, e, hs81, h⟩ := h
 refine gC0 hs81 (by kernel_rfl) rfl rfl .rfl rfl <| gR 18 rfl ?_
 obtain ⟨hb, h⟩ := h
 refine gR 1 rfl <| gV 110 (.int .i64 (p2 + p3)) rfl (ao hb rfl) rfl ?_
 obtain ⟨r, i, g, hs82, h⟩ := h
 refine gC0 hs82 (by kernel_rfl) rfl rfl .rfl rfl <| gR 10 rfl <| go_sub (F' := (mkF 152 0 [(1, .row 4 (GDatum.vs p1)), (2, .int .i64 p2), (3, .int .i64 p3), (10, .row 4 (kidsV f)), (11, .int .i64 (b : Int)), (12, .int .i64 (a : Int)), (14, .ptr 0 0), (15, .int .i64 d), (16, .int .i64 e), (17, .ptr 1 0), (18, .int .i64 i), (19, .int .i64 g)])) (H' := ⟨2, [(1, .var 24 (GDatum.c r)), (0, .var 24 (GDatum.c q))]⟩) [0, 1] [] rfl hK pq12 (pqo2 rfl rfl rfl rfl) rfl <| gR 5 rfl <| gB 117 rfl rfl rfl ?_ ?_ <;> intro hd
 refine gT 116 rfl hd rfl ?_
 replace hd := (of_decide_eq_true hd)
 replace h := h.1 hd
 refine gR 44 rfl <| go_xloopR <| gR 3 rfl <| go_xloopR <| gR 2 rfl ?_
 subst h
 exact go_end ac (rs := [.tmp 8]) rfl rfl rfl
 refine gF 116 rfl hd rfl ?_
 replace hd := (of_decide_eq_false hd)
 replace h := h.2 hd
 refine gR 5 rfl <| gB 122 rfl rfl rfl ?_ ?_ <;> intro hd
 refine gT 121 rfl hd rfl ?_
 replace hd := (of_decide_eq_true hd)
 replace h := h.1 hd
 refine gR 39 rfl <| go_xloopR <| gR 3 rfl <| go_xloopR <| gR 2 rfl ?_
 subst h
 exact go_end ac (rs := [.tmp 8]) rfl rfl rfl
 refine gF 121 rfl hd rfl ?_
 replace hd := (of_decide_eq_false hd)
 replace h := h.2 hd
 refine gR 3 rfl <| gB 125 rfl rfl rfl ?_ ?_ <;> intro hd
 refine gT 124 rfl hd rfl ?_
 replace hd := (eq_of_beq hd)
 replace h := h.1 hd
 refine gR 6 rfl <| gB 131 rfl rfl rfl ?_ ?_ <;> intro hd
 refine gT 130 rfl hd rfl ?_
 replace hd := (cz hd)
 replace h := h.1 hd
 refine gR 30 rfl <| go_xloopR <| gR 3 rfl <| go_xloopR <| gR 2 rfl ?_
 subst h
 exact go_end ac (rs := [.tmp 8]) rfl rfl rfl
 refine gF 130 rfl hd rfl ?_
 replace hd := (bN hd)
 replace h := h.2 hd
 refine gR 3 rfl <| gB 134 rfl rfl rfl ?_ ?_ <;> intro hd
 refine gT 133 rfl hd rfl ?_
 replace hd := (cz hd)
 replace h := h.1 hd
 refine gR 4 rfl <| gB 138 rfl rfl rfl ?_ ?_ <;> intro hd
 refine gT 137 rfl hd rfl ?_
 replace hd := (cz hd)
 replace h := h.1 hd
 refine gR 23 rfl <| go_xloopR <| gR 3 rfl <| go_xloopR <| gR 2 rfl ?_
 subst h
 exact go_end ac (rs := [.tmp 8]) rfl rfl rfl
 refine gF 137 rfl hd rfl ?_
 replace hd := (bN hd)
 replace h := h.2 hd
 refine gR 5 rfl <| gB 143 rfl rfl rfl ?_ ?_ <;> intro hd
 refine gT 142 rfl hd rfl ?_
 replace hd := (cz hd)
 replace h := h.1 hd
 refine gR 18 rfl <| go_xloopR <| gR 3 rfl <| go_xloopR <| gR 2 rfl ?_
 subst h
 exact go_end ac (rs := [.tmp 8]) rfl rfl rfl
 refine gF 142 rfl hd rfl ?_
 replace hd := (bN hd)
 replace h := h.2 hd
 refine gR 2 rfl ?_
 obtain ⟨l, hs83, h⟩ := h
 refine gC0 hs83 (by kernel_rfl) rfl rfl .rfl rfl <| gR 6 rfl <| gB 150 rfl rfl rfl ?_ ?_ <;> intro hd
 replace hd := (cr hd)
 replace h := h.1 hd
 refine gR 9 rfl <| go_xloopR <| gR 3 rfl <| go_xloopR <| gR 2 rfl ?_
 subst h
 exact go_end ac (rs := [.tmp 8]) rfl rfl rfl
 replace hd := (ct hd)
 replace h := h.2 hd
 exact gR 7 rfl <| gV 75 (.int .i64 ((a + 1 : Nat) : Int)) rfl (ao (by have := hl78; omega) (by omega)) rfl <| gR 2 rfl <| go_xloop <| gJ (h K _ _ hK (by omega) (by omega)) [] [] rfl hK pq6 trivial rfl
 refine gF 133 rfl hd rfl ?_
 replace hd := (bN hd)
 replace h := h.2 hd
 exact gR 25 rfl <| gV 75 (.int .i64 ((a + 1 : Nat) : Int)) rfl (ao (by have := hl78; omega) (by omega)) rfl <| gR 2 rfl <| go_xloop <| gJ (h K _ _ hK (by omega) (by omega)) [] [] rfl hK pq6 trivial rfl
 refine gF 124 rfl hd rfl ?_
 replace hd := (ne_of_beq_false hd)
 replace h := h.2 hd
 refine gR 9 rfl <| gB 134 rfl rfl rfl ?_ ?_ <;> intro hd
 refine gT 133 rfl hd rfl ?_
 replace hd := (cz hd)
 replace h := h.1 hd
 refine gR 4 rfl <| gB 138 rfl rfl rfl ?_ ?_ <;> intro hd
 refine gT 137 rfl hd rfl ?_
 replace hd := (cz hd)
 replace h := h.1 hd
 refine gR 23 rfl <| go_xloopR <| gR 3 rfl <| go_xloopR <| gR 2 rfl ?_
 subst h
 exact go_end ac (rs := [.tmp 8]) rfl rfl rfl
 refine gF 137 rfl hd rfl ?_
 replace hd := (bN hd)
 replace h := h.2 hd
 refine gR 5 rfl <| gB 143 rfl rfl rfl ?_ ?_ <;> intro hd
 refine gT 142 rfl hd rfl ?_
 replace hd := (cz hd)
 replace h := h.1 hd
 refine gR 18 rfl <| go_xloopR <| gR 3 rfl <| go_xloopR <| gR 2 rfl ?_
 subst h
 exact go_end ac (rs := [.tmp 8]) rfl rfl rfl
 refine gF 142 rfl hd rfl ?_
 replace hd := (bN hd)
 replace h := h.2 hd
 refine gR 2 rfl ?_
 obtain ⟨n, hs84, h⟩ := h
 refine gC0 hs84 (by kernel_rfl) rfl rfl .rfl rfl <| gR 6 rfl <| gB 150 rfl rfl rfl ?_ ?_ <;> intro hd
 replace hd := (cr hd)
 replace h := h.1 hd
 refine gR 9 rfl <| go_xloopR <| gR 3 rfl <| go_xloopR <| gR 2 rfl ?_
 subst h
 exact go_end ac (rs := [.tmp 8]) rfl rfl rfl
 replace hd := (ct hd)
 replace h := h.2 hd
 exact gR 7 rfl <| gV 75 (.int .i64 ((a + 1 : Nat) : Int)) rfl (ao (by have := hl78; omega) (by omega)) rfl <| gR 2 rfl <| go_xloop <| gJ (h K _ _ hK (by omega) (by omega)) [] [] rfl hK pq6 trivial rfl
 refine gF 133 rfl hd rfl ?_
 replace hd := (bN hd)
 replace h := h.2 hd
 exact gR 25 rfl <| gV 75 (.int .i64 ((a + 1 : Nat) : Int)) rfl (ao (by have := hl78; omega) (by omega)) rfl <| gR 2 rfl <| go_xloop <| gJ (h K _ _ hK (by omega) (by omega)) [] [] rfl hK pq6 trivial rfl
 replace hd := (cg hd)
 replace h := h.2 hd
 refine gR 3 rfl <| go_xloopE <| gR 5 rfl ?_
 obtain ⟨hb, h⟩ := h
 exact gR 1 rfl <| gV 65 (.int .i64 ((b + 1 : Nat) : Int)) rfl (ao (by omega) (by omega)) rfl <| gR 2 rfl <| go_xloop <| gJ (h K _ hK (by omega)) [] [] rfl hK pq5 trivial rfl
def cd (m : Nat) (p0 : List Int) (p1 : List GDatum) (p2 : Int) (a : Nat) (r0 : Bool) : Prop := ∀ (K : Ctx) (j1 : Nat), aq K [] → m ≤ j1 → qLG K Tryz.f8 (fun u _ => u = .bool r0) (xI (ae Tryz.f8)) [.loop (xI (ae Tryz.f8)) j1, .blk 0, .seq (xH (ae Tryz.f8))] 134 (mkF 134 0 [(0, .row 1 (List.map (V.int .i64) p0)), (1, .row 4 (GDatum.vs p1)), (2, .int .i64 p2), (7, .int .i64 (a : Int))]) ⟨0, []⟩
def ca (m : Nat) (p1 : List GDatum) (p2 : Int) (a b : List Tree) (c : Nat) (r0 : Bool) : Prop := ∀ (K : Ctx) (j1 : Nat), aq K [] → m ≤ j1 → qLG K Tryz.f8 (fun u _ => u = .bool r0) (xI (xH (ae Tryz.f8))) [.loop (xI (xH (ae Tryz.f8))) j1, .blk 2, .seq (xJ (xA (ae Tryz.f8)))] 134 (mkF 134 0 [(1, .row 4 (GDatum.vs p1)), (2, .int .i64 p2), (8, .row 4 (kidsV a)), (9, .sl 0), (10, .int .i64 (c : Int))]) ⟨1, [(0, .row 35 4 (kidsV b))]⟩
def bv (m : Nat) (p1 : List GDatum) (p2 : Int) (a : List Tree) (b : Nat) (c : List Tree) (r0 : Bool) : Prop := ∀ (K : Ctx) (j1 : Nat), aq K [] → m ≤ j1 → qLG K Tryz.f8 (fun u _ => u = .bool r0) (xI (xJ (ae Tryz.f8))) [.loop (xI (xJ (ae Tryz.f8))) j1, .blk 4, .seq (xJ (xH (ae Tryz.f8)))] 134 (mkF 134 0 [(1, .row 4 (GDatum.vs p1)), (2, .int .i64 p2), (8, .row 4 (kidsV a)), (9, .row 4 (kidsV c)), (11, .int .i64 (b : Int))]) ⟨0, []⟩
def cc (m : Nat) (p1 : List GDatum) (p2 : Int) (a : List Tree) (b c : Nat) (d : List Tree) (r0 : Bool) : Prop := ∀ (K : Ctx) (j1 j2 : Nat), aq K [] → m ≤ j1 → m ≤ j2 → qLG K Tryz.f8 (fun u _ => u = .bool r0) (cL (xD (cK (cA (cB (xI (xJ (ae Tryz.f8)))))))) [.loop (cL (xD (cK (cA (cB (xI (xJ (ae Tryz.f8)))))))) j1, .blk 6, .blk 5, .seq (xA (xI (xJ (ae Tryz.f8)))), .loop (xI (xJ (ae Tryz.f8))) j2, .blk 4, .seq (xJ (xH (ae Tryz.f8)))] 134 (mkF 134 0 [(1, .row 4 (GDatum.vs p1)), (2, .int .i64 p2), (8, .row 4 (kidsV a)), (9, .row 4 (kidsV d)), (11, .int .i64 (c : Int)), (12, .int .i64 (b : Int))]) ⟨0, []⟩
theorem eI (m : Nat) (p0 : List Int) (p1 : List GDatum) (p2 : Int) (r0 : Bool) (h : ∃ a, fJ p0 a ∧ ((a = false) → ∃ b, aM b ∧ b = r0) ∧ ((a = true) → ((10 < (p1.length : Int)) → ∃ c, aM c ∧ c = r0) ∧ ((¬ 10 < (p1.length : Int)) → ((p2 < 0) → ∃ d, aM d ∧ d = r0) ∧ ((¬ p2 < 0) → ((1500 < p2) → ∃ e, aM e ∧ e = r0) ∧ ((¬ 1500 < p2) → cd m p0 p1 p2 0 r0))))) : iH p0 p1 p2 r0 := by
 refine ⟨rfl, rfl, ?_⟩
 refine ak 134 [] Tryz.func8 rfl rfl rfl (az rfl) fun K hK => ?_
 refine gR 9 rfl ?_
 obtain ⟨a, hs81, h⟩ := h
 refine gC0 hs81 (by kernel_rfl) rfl rfl .rfl rfl <| gR 2 rfl <| gB 23 rfl rfl rfl ?_ ?_ <;> intro hd
 refine gT 22 rfl hd rfl ?_
 replace hd := (cr hd)
 replace h := h.1 hd
 refine gR 17 rfl ?_
 obtain ⟨b, hs82, h⟩ := h
 refine gC0 hs82 (by kernel_rfl) rfl rfl .rfl rfl <| gR 5 rfl ?_
 subst h
 exact go_end ac (rs := [.tmp 6]) rfl rfl rfl
 refine gF 22 rfl hd rfl ?_
 replace hd := (ct hd)
 replace h := h.2 hd
 refine gR 2 rfl <| gV 25 (.int .i64 (p1.length : Int)) rfl (aO (GDatum.vlen _)) rfl <| gLB 24 rfl (GDatum.vlen _) fun hl83 => gR 3 rfl <| gB 28 rfl rfl rfl ?_ ?_ <;> intro hd
 refine gT 27 rfl hd rfl ?_
 replace hd := (of_decide_eq_true hd)
 replace h := h.1 hd
 refine gR 12 rfl ?_
 obtain ⟨c, hs84, h⟩ := h
 refine gC0 hs84 (by kernel_rfl) rfl rfl .rfl rfl <| gR 5 rfl ?_
 subst h
 exact go_end ac (rs := [.tmp 6]) rfl rfl rfl
 refine gF 27 rfl hd rfl ?_
 replace hd := (of_decide_eq_false hd)
 replace h := h.2 hd
 refine gR 4 rfl <| gB 32 rfl rfl rfl ?_ ?_ <;> intro hd
 refine gT 31 rfl hd rfl ?_
 replace hd := (of_decide_eq_true hd)
 replace h := h.1 hd
 refine gR 8 rfl ?_
 obtain ⟨d, hs85, h⟩ := h
 refine gC0 hs85 (by kernel_rfl) rfl rfl .rfl rfl <| gR 5 rfl ?_
 subst h
 exact go_end ac (rs := [.tmp 6]) rfl rfl rfl
 refine gF 31 rfl hd rfl ?_
 replace hd := (of_decide_eq_false hd)
 replace h := h.2 hd
 refine gR 5 rfl <| gB 35 rfl rfl rfl ?_ ?_ <;> intro hd
 replace hd := (of_decide_eq_true hd)
 replace h := h.1 hd
 refine gR 3 rfl ?_
 obtain ⟨e, hs86, h⟩ := h
 refine gC0 hs86 (by kernel_rfl) rfl rfl .rfl rfl <| gR 5 rfl ?_
 subst h
 exact go_end ac (rs := [.tmp 6]) rfl rfl rfl
 replace hd := (of_decide_eq_false hd)
 replace h := h.2 hd
 exact gR 10 rfl <| go_loop m <| gJ (h K _ hK (by omega)) [] [] rfl hK pq4 trivial rfl
theorem hU (m : Nat) (p0 : List Int) (p1 : List GDatum) (p2 : Int) (a : Nat) (r0 : Bool) (h : ((a < p1.length) → ∃ c, p1[a]? = some c ∧ ∃ b, eW c b ∧ ((b = false) → ∃ d, aM d ∧ d = r0) ∧ ((b = true) → cd m p0 p1 p2 (a + 1) r0)) ∧ ((¬ a < p1.length) → ∃ e, em p0 e ∧ ca m p1 p2 e ([] : List Tree) 0 r0)) : cd (m + 1) p0 p1 p2 a r0 := by
 intro K j1 hK hj1
 obtain ⟨j1, rfl⟩ : ∃ j, j1 = j + 1 := ⟨j1 - 1, by omega⟩
 refine gR 6 rfl <| gV 39 (.int .i64 (p1.length : Int)) rfl (aO (GDatum.vlen _)) rfl <| gLB 38 rfl (GDatum.vlen _) fun hl87 => gR 3 rfl <| gB 40 rfl rfl rfl ?_ ?_ <;> intro hd
 replace hd := (ch hd)
 replace h := h.1 hd
 refine gR 9 rfl ?_
 obtain ⟨c, hxx1_1, h⟩ := h
 refine gY (aG (GDatum.vget hxx1_1) ac rfl rfl rfl rfl) rfl rfl <| gR 1 rfl ?_
 obtain ⟨b, hs88, h⟩ := h
 refine gC0 hs88 (by kernel_rfl) rfl rfl .rfl rfl <| gR 3 rfl <| gB 48 rfl rfl rfl ?_ ?_ <;> intro hd
 replace hd := (cr hd)
 replace h := h.1 hd
 refine gR 3 rfl ?_
 obtain ⟨d, hs89, h⟩ := h
 refine gC0 hs89 (by kernel_rfl) rfl rfl .rfl rfl <| gR 6 rfl <| go_xloopR <| gR 2 rfl ?_
 subst h
 exact go_end ac (rs := [.tmp 6]) rfl rfl rfl
 replace hd := (ct hd)
 replace h := h.2 hd
 exact gR 7 rfl <| gV 42 (.int .i64 ((a + 1 : Nat) : Int)) rfl (ao (by have := hl87; omega) (by omega)) rfl <| gR 2 rfl <| go_xloop <| gJ (h K _ hK (by omega)) [] [] rfl hK pq4 trivial rfl
 replace hd := (cg hd)
 replace h := h.2 hd
 refine gR 3 rfl <| go_xloopE <| gR 5 rfl ?_
 obtain ⟨e, hs90, h⟩ := h
 exact gC0 hs90 (by kernel_rfl) rfl rfl .rfl rfl <| gR 15 rfl <| go_loop m <| gNS 9 35 4 rfl rfl rfl rfl <| gJ (h K _ hK (by omega)) [0] [] rfl hK pq5 ⟨⟨_, rfl, rfl, rfl, rfl⟩, trivial⟩ rfl
theorem hZ (m : Nat) (p1 : List GDatum) (p2 : Int) (b c : List Tree) (d : Nat) (r0 : Bool) (h : ((d < b.length) → ∃ e, b[d]? = some e ∧ ∃ a, fM e a ∧ (c ++ [a]).length ≤ 1000000000 ∧ ca m p1 p2 b (c ++ [a]) (d + 1) r0) ∧ ((¬ d < b.length) → bv m p1 p2 b 0 c r0)) : ca (m + 1) p1 p2 b c d r0 := by
 intro K j1 hK hj1
 obtain ⟨j1, rfl⟩ : ∃ j, j1 = j + 1 := ⟨j1 - 1, by omega⟩
 refine gR 6 rfl <| gV 54 (.int .i64 (b.length : Int)) rfl (aO (aI _)) rfl <| gLB 53 rfl (aI _) fun hl91 => gR 3 rfl <| gB 55 rfl rfl rfl ?_ ?_ <;> intro hd
 replace hd := (ch hd)
 replace h := h.1 hd
 refine gR 9 rfl ?_
 obtain ⟨e, hxt2_1, h⟩ := h
 refine gY (aG (av hxt2_1) ac rfl rfl rfl rfl) rfl rfl <| gR 1 rfl ?_
 obtain ⟨a, hs92, h⟩ := h
 refine gC0 hs92 (by kernel_rfl) rfl rfl .rfl rfl <| gR 1 rfl <| gHR 1 (kidsV [a]) rfl (cI a) rfl ?_
 obtain ⟨hb, h⟩ := h
 exact gDo (.repl 0 (.row 35 4 (kidsV (c ++ [a])))) (bu ac rfl rfl rfl rfl rfl (eN c [a]).symm (by rw [aI]; exact hb)) (okR rfl) rfl rfl rfl <| gR 7 rfl <| gV 57 (.int .i64 ((d + 1 : Nat) : Int)) rfl (ao (by have := hl91; omega) (by omega)) rfl <| gR 2 rfl <| go_xloop <| gJ (h K _ hK (by omega)) [2] [] rfl hK pq5 ⟨⟨_, rfl, rfl, rfl, (eR _ (c ++ [a])).symm⟩, trivial⟩ rfl
 replace hd := (cg hd)
 replace h := h.2 hd
 exact gR 3 rfl <| go_xloopE <| gR 9 rfl <| go_loop m <| gFR 0 rfl (aU _) rfl rfl <| gJ (h K _ hK (by omega)) [] [] rfl hK pq5 trivial rfl
theorem hO (m : Nat) (p1 : List GDatum) (p2 : Int) (a : List Tree) (b : Nat) (d : List Tree) (r0 : Bool) (h : ((b < a.length) → cc m p1 p2 a 0 b d r0) ∧ ((¬ b < a.length) → ∃ c, aM c ∧ c = r0)) : bv (m + 1) p1 p2 a b d r0 := by
 intro K j1 hK hj1
 obtain ⟨j1, rfl⟩ : ∃ j, j1 = j + 1 := ⟨j1 - 1, by omega⟩
 refine gR 6 rfl <| gV 68 (.int .i64 (a.length : Int)) rfl (aO (aI _)) rfl <| gLB 67 rfl (aI _) fun hl93 => gR 3 rfl <| gB 69 rfl rfl rfl ?_ ?_ <;> intro hd
 replace hd := (ch hd)
 replace h := h.1 hd
 exact gR 11 rfl <| go_loop m <| gJ (h K _ _ hK (by omega) (by omega)) [] [] rfl hK pq6 trivial rfl
 replace hd := (cg hd)
 replace h := h.2 hd
 refine gR 3 rfl <| go_xloopE <| gR 4 rfl ?_
 obtain ⟨c, hs94, h⟩ := h
 refine gC0 hs94 (by kernel_rfl) rfl rfl .rfl rfl <| gR 4 rfl ?_
 subst h
 exact go_end ac (rs := [.tmp 6]) rfl rfl rfl
theorem rL3_semvcslaw09_EvalLayout (m : Nat) (p1 : List GDatum) (p2 : Int) (d : List Tree) (b a : Nat) (i : List Tree) (r0 : Bool) (h : ∃ k, d[a]? = some k ∧ ((b < k.kids.length) → ∃ s, d[a]? = some s ∧ ∃ l, s.kids[b]? = some l ∧ ∃ f, (min (p1.length : Int) (max 0 ((l.kids.length : Int) - 2))) = ((f : Nat) : Int) ∧ f ≤ p1.length ∧ ∃ q n o, fL d (a : Int) (b : Int) (p1.take f) p2 q n o ∧ ∃ r p e, fL i (a : Int) (b : Int) (p1.take f) p2 r p e ∧ ((o ≠ e) → false = r0) ∧ ((o = e) → ((n ≠ p) → false = r0) ∧ ((n = p) → ∃ g, dN q r g ∧ ((g = false) → false = r0) ∧ ((g = true) → cc m p1 p2 d (b + 1) a i r0)))) ∧ ((¬ b < k.kids.length) → a + 1 ≤ 9223372036854775807 ∧ bv m p1 p2 d (a + 1) i r0)) : cc (m + 1) p1 p2 d b a i r0 := by
 intro K j1 j2 hK hj1 hj2
 obtain ⟨j1, rfl⟩ : ∃ j, j1 = j + 1 := ⟨j1 - 1, by omega⟩
 obtain ⟨j2, rfl⟩ : ∃ j, j2 = j + 1 := ⟨j2 - 1, by omega⟩
 refine gR 6 rfl ?_
 obtain ⟨k, hxt4_1, h⟩ := h
 refine gY (aG (av hxt4_1) ac rfl rfl rfl rfl) rfl rfl <| gR 3 rfl <| gV 78 (.int .i64 (k.kids.length : Int)) rfl (aO (aI _)) rfl <| gLB 77 rfl (aI _) fun hl95 => gR 3 rfl <| gB 79 rfl rfl rfl ?_ ?_ <;> intro hd
 replace hd := (ch hd)
 replace h := h.1 hd
 refine gR 10 rfl <| gV 84 (.int .i64 (p1.length : Int)) rfl (aO (GDatum.vlen _)) rfl <| gLB 83 rfl (GDatum.vlen _) fun hl96 => gR 2 rfl ?_
 obtain ⟨s, hxt4_2, h⟩ := h
 refine gY (aG (av hxt4_2) ac rfl rfl rfl rfl) rfl rfl <| gR 3 rfl ?_
 obtain ⟨l, hxt4_3, h⟩ := h
 refine gY (aG (av hxt4_3) ac rfl rfl rfl rfl) rfl rfl <| gR 3 rfl <| gV 94 (.int .i64 (l.kids.length : Int)) rfl (aO (aI _)) rfl <| gLB 93 rfl (aI _) fun hl97 => gR 1 rfl <| gV 95 (.int .i64 ((l.kids.length : Int) - 2)) rfl (ao (by have := hl97; omega) rfl) rfl <| gR 1 rfl <| gY (EV rfl rfl rfl) rfl rfl ?_
 obtain ⟨f, t, h⟩ := h
 refine gV 97 (.int .i64 ((f : Nat) : Int)) rfl (cO t) rfl ?_
 obtain ⟨hb', h⟩ := h
 refine gY (Bo (GDatum.vlen p1) ac rfl rfl vE (se rfl) (Nat.zero_le _) hb' (((GDatum.vsub _ _ _).trans (congrArg _ (sq _ _))))) rfl rfl <| gR 10 rfl ?_
 obtain ⟨q, n, o, hs98, h⟩ := h
 refine gC0 hs98 (by kernel_rfl) rfl rfl .rfl rfl <| gR 17 rfl ?_
 obtain ⟨r, p, e, hs99, h⟩ := h
 refine gC0 hs99 (by kernel_rfl) rfl rfl .rfl rfl <| gR 10 rfl <| go_sub (F' := (mkF 134 0 [(1, .row 4 (GDatum.vs p1)), (2, .int .i64 p2), (8, .row 4 (kidsV d)), (9, .row 4 (kidsV i)), (11, .int .i64 (a : Int)), (12, .int .i64 (b : Int)), (14, .ptr 0 0), (15, .int .i64 n), (16, .int .i64 o), (17, .ptr 1 0), (18, .int .i64 p), (19, .int .i64 e)])) (H' := ⟨2, [(1, .var 24 (GDatum.c r)), (0, .var 24 (GDatum.c q))]⟩) [0, 1] [] rfl hK pq12 (pqo2 rfl rfl rfl rfl) rfl <| gR 6 rfl <| gB 122 rfl rfl rfl ?_ ?_ <;> intro hd
 refine gT 121 rfl hd rfl ?_
 replace hd := (cz hd)
 replace h := h.1 hd
 refine gR 21 rfl <| go_xloopR <| gR 3 rfl <| go_xloopR <| gR 2 rfl ?_
 subst h
 exact go_end ac (rs := [.tmp 6]) rfl rfl rfl
 refine gF 121 rfl hd rfl ?_
 replace hd := (bN hd)
 replace h := h.2 hd
 refine gR 5 rfl <| gB 127 rfl rfl rfl ?_ ?_ <;> intro hd
 refine gT 126 rfl hd rfl ?_
 replace hd := (cz hd)
 replace h := h.1 hd
 refine gR 16 rfl <| go_xloopR <| gR 3 rfl <| go_xloopR <| gR 2 rfl ?_
 subst h
 exact go_end ac (rs := [.tmp 6]) rfl rfl rfl
 refine gF 126 rfl hd rfl ?_
 replace hd := (bN hd)
 replace h := h.2 hd
 refine gR 2 rfl ?_
 obtain ⟨g, hs100, h⟩ := h
 refine gC0 hs100 (by kernel_rfl) rfl rfl .rfl rfl <| gR 4 rfl <| gB 132 rfl rfl rfl ?_ ?_ <;> intro hd
 replace hd := (cr hd)
 replace h := h.1 hd
 refine gR 9 rfl <| go_xloopR <| gR 3 rfl <| go_xloopR <| gR 2 rfl ?_
 subst h
 exact go_end ac (rs := [.tmp 6]) rfl rfl rfl
 replace hd := (ct hd)
 replace h := h.2 hd
 exact gR 7 rfl <| gV 81 (.int .i64 ((b + 1 : Nat) : Int)) rfl (ao (by have := hl95; omega) (by omega)) rfl <| gR 2 rfl <| go_xloop <| gJ (h K _ _ hK (by omega) (by omega)) [] [] rfl hK pq6 trivial rfl
 replace hd := (cg hd)
 replace h := h.2 hd
 refine gR 3 rfl <| go_xloopE <| gR 5 rfl ?_
 obtain ⟨hb, h⟩ := h
 exact gR 1 rfl <| gV 71 (.int .i64 ((a + 1 : Nat) : Int)) rfl (ao (by omega) (by omega)) rfl <| gR 2 rfl <| go_xloop <| gJ (h K _ hK (by omega)) [] [] rfl hK pq5 trivial rfl
def eX (m : Nat) (p0 : Tree) (a : List Tree) (b : Nat) (r0 : Tree) : Prop := ∀ (K : Ctx) (j1 : Nat), aq K [] → m ≤ j1 → qLG K Tryz.f25 (fun u _ => u = .agg (an r0)) (xI (ae Tryz.f25)) [.loop (xI (ae Tryz.f25)) j1, .blk 0, .seq (xH (ae Tryz.f25))] 29 (mkF 29 0 [(1, .box (an p0) 0), (2, .ptr 0 0), (3, .ptr 1 0), (4, .int .i64 (b : Int))]) ⟨3, [(2, .row 35 4 (kidsV a)), (1, .var 35 [.int .i64 p0.kind, .str p0.text, .nils, .sl 2]), (0, .var 35 [.int .i64 0, .str [], .nils, .nils])]⟩
theorem qu (m : Nat) (p0 r0 : Tree) (h : eX m p0 ([] : List Tree) 0 r0) : fM p0 r0 := by
 refine ⟨rfl, rfl, ?_⟩
 refine ak 29 [] Tryz.func25 rfl rfl rfl (az rfl) fun K hK => ?_
 exact gR 3 rfl <| gFP 0 rfl rfl rfl rfl <| gR 21 rfl <| go_loop m <| gNC 2 3 35 4 rfl rfl rfl rfl <| gJ (h K _ hK (by omega)) [1, 2, 3] [] rfl hK pq4 ⟨⟨_, rfl, rfl, rfl, rfl⟩, (pqo2 rfl rfl rfl rfl)⟩ rfl
theorem lp (m : Nat) (p0 : Tree) (a : List Tree) (c : Nat) (r0 : Tree) (h : ((c < p0.kids.length) → ∃ d, p0.kids[c]? = some d ∧ ∃ b, fM d b ∧ (a ++ [b]).length ≤ 1000000000 ∧ eX m p0 (a ++ [b]) (c + 1) r0) ∧ ((¬ c < p0.kids.length) → (Tree.node p0.kind p0.text [] a) = r0)) : eX (m + 1) p0 a c r0 := by
 intro K j1 hK hj1
 obtain ⟨j1, rfl⟩ : ∃ j, j1 = j + 1 := ⟨j1 - 1, by omega⟩
 refine gR 7 rfl <| gV 13 (.int .i64 (p0.kids.length : Int)) rfl (aO (aI _)) rfl <| gLB 12 rfl (aI _) fun hl5 => gR 3 rfl <| gB 14 rfl rfl rfl ?_ ?_ <;> intro hd
 replace hd := (ch hd)
 replace h := h.1 hd
 refine gR 5 rfl <| gDs [1] 11 12 rfl (by kernel_rfl) (by kernel_rfl) <| gDr [(0, 2), (1, 3), (2, 2), (3, 2), (4, 0)] (by kernel_rfl) rfl rfl ?_
 obtain ⟨d, hxt1_1, h⟩ := h
 refine ev 5 rfl (by kernel_rfl) (aG (av hxt1_1) ac rfl rfl rfl rfl) rfl rfl ?_
 refine gDr [(6, 0)] (by kernel_rfl) rfl rfl ?_
 obtain ⟨b, hs6, h⟩ := h
 refine aN 7 hs6 (by kernel_rfl) rfl (by kernel_rfl) rfl rfl .rfl rfl rfl ?_
 refine gDr [(8, 0)] (by kernel_rfl) rfl rfl <| gHR 3 (kidsV [b]) rfl (cI b) rfl ?_
 obtain ⟨hb, h⟩ := h
 refine bW 9 (.repl 2 (.row 35 4 (kidsV (a ++ [b])))) rfl (by kernel_rfl) (bu ac rfl rfl rfl rfl rfl (eN a [b]).symm (by rw [aI]; exact hb)) (okR rfl) rfl (by kernel_rfl) rfl rfl ?_
 exact gDr [(10, 0), (11, 1)] (by kernel_rfl) rfl rfl <| gDe (by kernel_rfl) <| gR 5 rfl <| gV 16 (.int .i64 ((c + 1 : Nat) : Int)) rfl (ao (by have := hl5; omega) (by omega)) rfl <| gR 2 rfl <| go_xloop <| gJ (h K _ hK (by omega)) [0, 1, 4] [] rfl hK pq4 ⟨⟨_, rfl, rfl, rfl, (eR _ (a ++ [b])).symm⟩, (pqo2 rfl rfl rfl rfl)⟩ rfl
 replace hd := (cg hd)
 replace h := h.2 hd
 refine gR 3 rfl <| go_xloopE <| gR 9 rfl <| gFR 2 rfl (aU _) rfl rfl ?_
 subst h
 exact go_sub (F' := (mkF 29 0 [(2, .ptr 0 0)])) (H' := ⟨1, [(0, .var 35 [.int .i64 ((Tree.node p0.kind p0.text [] a).kind), .str ((Tree.node p0.kind p0.text [] a).text), .row 1 (List.map V.str ((Tree.node p0.kind p0.text [] a).leads)), .row 4 (kidsV ((Tree.node p0.kind p0.text [] a).kids))])]⟩) [0] [] rfl hK pq1 ⟨⟨_, rfl, rfl, (.cons .rfl (.cons .rfl (.cons (.nil 1) (.cons .rfl .nil))))⟩, trivial⟩ rfl <| go_end ac (rs := [.cell 2 35]) rfl rfl rfl
end Go.Proofs.YthnohcipianijaaGreatDoor
namespace Go.Proofs.YthnohcipianijaaGreatDoor
open Go.RowKit Lx Sx
set_option maxHeartbeats 1000000
def Dc (L : List Int) (a : Int) : Prop := 0 ≤ a ∧ a ≤ L.length ∧ L.length ≤ 1000000000
theorem Gr {a n : Int} (hn : 0 < n) (hn2 : n ≤ 1000000000) : ∃ r, jX a n r ∧ 0 ≤ r ∧ r < n := by
 have h1 := Int.lt_tmod_of_pos a hn
 have h2 := Int.tmod_lt_of_pos a hn
 by_cases h : Int.tmod a n < 0
 ·exact ⟨_, mE 0 _ _ _ ⟨by omega, fun _ => ⟨by omega, rfl⟩, fun h' => absurd h h'⟩, by omega, by omega⟩
 ·exact ⟨_, mE 0 _ _ _ ⟨by omega, fun h' => absurd h' h, fun _ => rfl⟩, by omega, by omega⟩
theorem dT {L : List Int} {a n : Int} (hd : Dc L a) (hn : 0 < n) (hn2 : n ≤ 1000000000) : ∃ r a', aA L a n r L a' ∧ (0 ≤ r ∧ r < n) ∧ Dc L a' := by
 obtain ⟨h0, h1, h2⟩ := hd
 by_cases h : (L.length : Int) ≤ a
 ·exact ⟨0, a, jb 0 _ _ _ _ _ _ ⟨fun _ => ⟨rfl, rfl, rfl⟩, fun h' => absurd h h'⟩, by omega, h0, h1, h2⟩
 ·obtain ⟨x, hx, _⟩ | h' := aB L a.toNat
  ·obtain ⟨r, hr, hr1⟩ := Gr (a := x) hn hn2
   exact ⟨r, a + 1, jb 0 _ _ _ _ _ _ ⟨fun h' => absurd h' h, fun _ => ⟨by omega, by omega, a.toNat, by omega, x, hx, r, hr, rfl, rfl, rfl⟩⟩, hr1, by omega, by omega, h2⟩
  ·omega
theorem gG {L : List Int} {a : Int} (hd : Dc L a) (l : List (List UInt8)) (hl : 0 < l.length) (hl2 : l.length ≤ 1000000000) : ∃ s a', aT L a l s L a' ∧ s ∈ l ∧ Dc L a' := by
 obtain ⟨r, a', h1, h2, h3⟩ := dT hd (n := (l.length : Int)) (by omega) (by omega)
 obtain ⟨x, hx, _⟩ | h' := aB l r.toNat
 ·exact ⟨x, a', rb 0 _ _ _ _ _ _ ⟨_, _, _, h1, r.toNat, by omega, x, hx, rfl, rfl, rfl⟩, List.mem_of_getElem? hx, h3⟩
 ·omega
def Gt (L : List Int) (C : Tree → Int → Prop) (B : Nat) : Prop := ∃ t a', C t a' ∧ Dc L a' ∧ tbulk t ≤ B
theorem Gt.map {L : List Int} {C C' : Tree → Int → Prop} {B B' : Nat} (h : Gt L C B) (hb : B ≤ B') (k : ∀ t a', C t a' → C' t a') : Gt L C' B' := by
 obtain ⟨t, a', h1, h2, h3⟩ := h; exact ⟨t, a', k t a' h1, h2, by omega⟩
theorem fB {l : List (List UInt8)} {s : List UInt8} (h : s ∈ l) (hl : l.all (fun x => decide (x.length ≤ 5)) = true) : s.length ≤ 5 := by
 have := List.all_eq_true.1 hl s h; simpa using this
theorem tb0 (k : Int) (s : List UInt8) : tbulk (.node k s [] []) = s.length + 1 := by simp [tbulk, lsum, kbulk]
theorem tb1 (k : Int) (s : List UInt8) (t : Tree) : tbulk (.node k s [] [t]) = s.length + tbulk t + 1 := by simp [tbulk, lsum, kbulk]
theorem tb2 (k : Int) (s : List UInt8) (t u : Tree) : tbulk (.node k s [] [t, u]) = s.length + tbulk t + tbulk u + 1 := by simp [tbulk, lsum, kbulk]; omega
theorem tb3 (k : Int) (s : List UInt8) (t u v : Tree) : tbulk (.node k s [] [t, u, v]) = s.length + tbulk t + tbulk u + tbulk v + 1 := by simp [tbulk, lsum, kbulk]; omega
theorem tbK (k : Int) (s : List UInt8) (l : List Tree) : tbulk (.node k s [] l) = s.length + kbulk l + 1 := by simp [tbulk, lsum]
theorem yC {L : List Int} : ∀ (d : Nat) {a : Int}, Dc L a → d ≤ 100 → Gt L (fun t a' => bU L a d t L a') (6 + d) := fun d => by
 induction d with
 | zero =>
  intro a hd _
  obtain ⟨r, a1, h1, h2, h3⟩ := dT hd (n := 7) (by omega) (by omega)
  have top : ∀ {t a'}, eg 1 0 r L a1 false t L a' → r ≠ 0 → r ≠ 1 → bU L a 0 t L a' := fun h n0 n1 => gn 1 _ _ _ _ _ _ ⟨_, _, _, h1, fun e => absurd e n0, fun _ => by rw [show (r == 1) = false by simpa using n1]; exact h⟩
  by_cases e0 : r = 0 ∨ r = 1
  ·refine ⟨_, a1, gn 1 _ _ _ _ _ _ ⟨_, _, _, h1, fun e => bd 0 _ _ _ _ _ _ _ _ ⟨fun _ => ⟨rfl, rfl, rfl⟩, fun h => nomatch h⟩, fun e => bd 0 _ _ _ _ _ _ _ _ ⟨fun _ => ⟨rfl, rfl, rfl⟩, fun h => ?_⟩⟩, h3, by rw [tb0]; simp only [List.length_nil]; omega⟩
   rcases e0 with e0 | e0
   ·exact absurd e0 e
   ·rw [e0] at h; cases h
  ·by_cases e2 : r = 2
   ·exact ⟨_, a1, top (bd 0 _ _ _ _ _ _ _ _ ⟨fun h => (nomatch h), fun _ => ⟨fun _ => ⟨rfl, rfl, rfl⟩, fun h => absurd e2 h⟩⟩) (by omega) (by omega), h3, by rw [tb0]; simp only [List.length_nil]; omega⟩
   ·by_cases e3 : r = 3
    ·exact ⟨_, a1, top (bd 0 _ _ _ _ _ _ _ _ ⟨fun h => (nomatch h), fun _ => ⟨fun h => absurd h e2, fun _ => ⟨fun _ => ⟨rfl, rfl, rfl⟩, fun h => absurd e3 h⟩⟩⟩) (by omega) (by omega), h3, by rw [tb0]; simp only [List.length_nil]; omega⟩
    ·by_cases e4 : r = 4
     ·obtain ⟨s, a2, g1, g2, g3⟩ := gG h3 [[84], [85], [65, 46, 84], [66, 46, 85]] (by decide) (by decide)
      have := fB g2 (by decide)
      exact ⟨_, a2, top (bd 0 _ _ _ _ _ _ _ _ ⟨fun h => (nomatch h), fun _ => ⟨fun h => absurd h e2, fun _ => ⟨fun h => absurd h e3, fun _ => ⟨fun _ => ⟨_, _, _, g1, rfl, rfl, rfl⟩, fun h => absurd e4 h⟩⟩⟩⟩) (by omega) (by omega), g3, by rw [tb0]; omega⟩
     ·exact ⟨_, a1, top (bd 0 _ _ _ _ _ _ _ _ ⟨fun h => (nomatch h), fun _ => ⟨fun h => absurd h e2, fun _ => ⟨fun h => absurd h e3, fun _ => ⟨fun h => absurd h e4, fun _ => ⟨fun _ => ⟨rfl, rfl, rfl⟩, fun h => by omega⟩⟩⟩⟩⟩) (by omega) (by omega), h3, by rw [tb0]; simp only [List.length_nil]; omega⟩
 | succ d ih =>
  intro a hd hd100
  obtain ⟨r, a1, h1, h2, h3⟩ := dT hd (n := 7) (by omega) (by omega)
  have top : ∀ {t a'}, eg 1 ((d + 1 : Nat) : Int) r L a1 false t L a' → r ≠ 0 → r ≠ 1 → bU L a ((d + 1 : Nat) : Int) t L a' := fun h n0 n1 => gn 1 _ _ _ _ _ _ ⟨_, _, _, h1, fun e => absurd e n0, fun _ => by rw [show (r == 1) = false by simpa using n1]; exact h⟩
  by_cases e0 : r = 0 ∨ r = 1
  ·refine ⟨_, a1, gn 1 _ _ _ _ _ _ ⟨_, _, _, h1, fun e => bd 0 _ _ _ _ _ _ _ _ ⟨fun _ => ⟨rfl, rfl, rfl⟩, fun h => nomatch h⟩, fun e => bd 0 _ _ _ _ _ _ _ _ ⟨fun _ => ⟨rfl, rfl, rfl⟩, fun h => ?_⟩⟩, h3, by rw [tb0]; simp only [List.length_nil]; omega⟩
   rcases e0 with e0 | e0
   ·exact absurd e0 e
   ·rw [e0] at h; cases h
  ·by_cases e2 : r = 2
   ·exact ⟨_, a1, top (bd 0 _ _ _ _ _ _ _ _ ⟨fun h => (nomatch h), fun _ => ⟨fun _ => ⟨rfl, rfl, rfl⟩, fun h => absurd e2 h⟩⟩) (by omega) (by omega), h3, by rw [tb0]; simp only [List.length_nil]; omega⟩
   ·by_cases e3 : r = 3
    ·exact ⟨_, a1, top (bd 0 _ _ _ _ _ _ _ _ ⟨fun h => (nomatch h), fun _ => ⟨fun h => absurd h e2, fun _ => ⟨fun _ => ⟨rfl, rfl, rfl⟩, fun h => absurd e3 h⟩⟩⟩) (by omega) (by omega), h3, by rw [tb0]; simp only [List.length_nil]; omega⟩
    ·by_cases e4 : r = 4
     ·obtain ⟨s, a2, g1, g2, g3⟩ := gG h3 [[84], [85], [65, 46, 84], [66, 46, 85]] (by decide) (by decide)
      have := fB g2 (by decide)
      exact ⟨_, a2, top (bd 0 _ _ _ _ _ _ _ _ ⟨fun h => (nomatch h), fun _ => ⟨fun h => absurd h e2, fun _ => ⟨fun h => absurd h e3, fun _ => ⟨fun _ => ⟨_, _, _, g1, rfl, rfl, rfl⟩, fun h => absurd e4 h⟩⟩⟩⟩) (by omega) (by omega), g3, by rw [tb0]; omega⟩
     ·obtain ⟨t, a2, g1, g2, g3⟩ := ih h3 (by omega)
      have g1' : bU L a1 (((d + 1 : Nat) : Int) - 1) t L a2 := by rw [show ((d + 1 : Nat) : Int) - 1 = (d : Int) by omega]; exact g1
      exact ⟨_, a2, top (bd 0 _ _ _ _ _ _ _ _ ⟨fun h => (nomatch h), fun _ => ⟨fun h => absurd h e2, fun _ => ⟨fun h => absurd h e3, fun _ => ⟨fun h => absurd h e4, fun _ => ⟨fun h => by omega, fun _ => ⟨by omega, _, _, _, g1', rfl, rfl, rfl⟩⟩⟩⟩⟩⟩) (by omega) (by omega), g2, by rw [tb1]; simp only [List.length_nil]; omega⟩
def eB : Nat → Nat
 | 0 => 6
 | d + 1 => 3 * eB d + 20
section
variable {L : List Int} {d a z : Int} {t : Tree} {a' : Int} {m : Nat}
theorem up2 (h0 : z ≠ 0) (h1 : z ≠ 1) (h : fP m d L a z t L a') : bS (m + 2) d L a z t L a' :=
 rL0_semvcsmake_Expr (m + 1) _ _ _ _ _ _ _ ⟨fun e => absurd e h0, fun _ => ig m _ _ _ _ _ _ _ _ ⟨fun e => absurd (eq_of_beq e) h1, fun _ => h⟩⟩
theorem up6 (h2 : z ≠ 2) (h3 : z ≠ 3) (h4 : z ≠ 4) (h5 : z ≠ 5) (h : fK m d L a z t L a') : fP (m + 4) d L a z t L a' :=
 rL2_semvcsmake_Expr (m + 3) _ _ _ _ _ _ _ ⟨fun e => absurd e h2, fun _ => dD (m + 2) _ _ _ _ _ _ _ ⟨fun e => absurd e h3, fun _ => fg (m + 1) _ _ _ _ _ _ _ ⟨fun e => absurd e h4, fun _ => ij m _ _ _ _ _ _ _ ⟨fun e => absurd e h5, fun _ => h⟩⟩⟩⟩
theorem up9 (h6 : z ≠ 6) (h7 : z ≠ 7) (h : dR m d L a z t L a') : fK (m + 2) d L a z t L a' :=
 rL6_semvcsmake_Expr (m + 1) _ _ _ _ _ _ _ ⟨fun e => absurd e h6, fun _ => il m _ _ _ _ _ _ _ _ ⟨fun e => absurd (eq_of_beq e) h7, fun _ => h⟩⟩
theorem Et (h8 : z ≠ 8) (h : fe m d L a z t L a') : dR (m + 1) d L a z t L a' := lH m _ _ _ _ _ _ _ ⟨fun e => absurd e h8, fun _ => h⟩
theorem He (h9 : z ≠ 9) (h : dC m d L a z t L a') : fe (m + 1) d L a z t L a' := kL m _ _ _ _ _ _ _ ⟨fun e => absurd e h9, fun _ => h⟩
theorem GQ (h10 : z ≠ 10) (h11 : z ≠ 11) (h : eZ m d L a z t L a') : dC (m + 2) d L a z t L a' :=
 rL14_semvcsmake_Expr (m + 1) _ _ _ _ _ _ _ ⟨fun e => absurd e h10, fun _ => gO m _ _ _ _ _ _ _ _ ⟨fun e => absurd (eq_of_beq e) h11, fun _ => h⟩⟩
end
theorem sE {L : List Int} {d a z : Int} (M : Nat) (hd : Dc L a) (h0 : 0 ≤ z) (h5 : z ≤ 5) : Gt L (fun t a' => bS (M + 8) d L a z t L a') 6 := by
 by_cases e0 : z = 0 ∨ z = 1
 ·obtain ⟨s, a2, g1, g2, g3⟩ := gG hd [[120], [121], [122]] (by decide) (by decide)
  have := fB g2 (by decide)
  refine ⟨_, a2, rL0_semvcsmake_Expr (M + 7) _ _ _ _ _ _ _ ⟨fun e => ig (M + 6) _ _ _ _ _ _ _ _ ⟨fun _ => ⟨_, _, _, g1, rfl, rfl, rfl⟩, fun h => nomatch h⟩, fun e => ig (M + 6) _ _ _ _ _ _ _ _ ⟨fun _ => ⟨_, _, _, g1, rfl, rfl, rfl⟩, fun h => ?_⟩⟩, g3, by rw [tb0]; omega⟩
  rcases e0 with e0 | e0
  ·exact absurd e0 e
  ·rw [e0] at h; exact absurd h (by decide)
 have n0 : z ≠ 0 := by omega
 have n1 : z ≠ 1 := by omega
 by_cases e2 : z = 2
 ·obtain ⟨s, a2, g1, g2, g3⟩ := gG hd [[48], [49], [50], [49, 48]] (by decide) (by decide)
  have := fB g2 (by decide)
  exact ⟨_, a2, up2 n0 n1 (rL2_semvcsmake_Expr (M + 5) _ _ _ _ _ _ _ ⟨fun _ => ⟨_, _, _, g1, rfl, rfl, rfl⟩, fun h => absurd e2 h⟩), g3, by rw [tb0]; omega⟩
 by_cases e3 : z = 3
 ·obtain ⟨s, a2, g1, g2, g3⟩ := gG hd [[34, 34], [34, 97, 34], [34, 35, 32, 98, 34]] (by decide) (by decide)
  have := fB g2 (by decide)
  exact ⟨_, a2, up2 n0 n1 (rL2_semvcsmake_Expr (M + 5) _ _ _ _ _ _ _ ⟨fun h => absurd h e2, fun _ => dD (M + 4) _ _ _ _ _ _ _ ⟨fun _ => ⟨_, _, _, g1, rfl, rfl, rfl⟩, fun h => absurd e3 h⟩⟩), g3, by rw [tb0]; omega⟩
 by_cases e4 : z = 4
 ·obtain ⟨r, a2, g1, g2, g3⟩ := dT hd (n := 2) (by omega) (by omega)
  exact ⟨_, a2, up2 n0 n1 (rL2_semvcsmake_Expr (M + 5) _ _ _ _ _ _ _ ⟨fun h => absurd h e2, fun _ => dD (M + 4) _ _ _ _ _ _ _ ⟨fun h => absurd h e3, fun _ => fg (M + 3) _ _ _ _ _ _ _ ⟨fun _ => ⟨_, _, _, g1, by omega, rfl, rfl, rfl⟩, fun h => absurd e4 h⟩⟩⟩), g3, by rw [tb0]; simp only [List.length_nil]; omega⟩
 have e5 : z = 5 := by omega
 obtain ⟨r, a2, g1, g2, g3⟩ := dT hd (n := 3) (by omega) (by omega)
 by_cases er : r = 0
 ·exact ⟨_, a2, up2 n0 n1 (rL2_semvcsmake_Expr (M + 5) _ _ _ _ _ _ _ ⟨fun h => absurd h e2, fun _ => dD (M + 4) _ _ _ _ _ _ _ ⟨fun h => absurd h e3, fun _ => fg (M + 3) _ _ _ _ _ _ _ ⟨fun h => absurd h e4, fun _ => ij (M + 2) _ _ _ _ _ _ _ ⟨fun _ => ⟨_, _, _, g1, fun _ => ⟨rfl, rfl, rfl⟩, fun h => absurd er h⟩, fun h => absurd e5 h⟩⟩⟩⟩), g3, by rw [tb0]; simp only [List.length_nil]; omega⟩
 ·exact ⟨_, a2, up2 n0 n1 (rL2_semvcsmake_Expr (M + 5) _ _ _ _ _ _ _ ⟨fun h => absurd h e2, fun _ => dD (M + 4) _ _ _ _ _ _ _ ⟨fun h => absurd h e3, fun _ => fg (M + 3) _ _ _ _ _ _ _ ⟨fun h => absurd h e4, fun _ => ij (M + 2) _ _ _ _ _ _ _ ⟨fun _ => ⟨_, _, _, g1, fun h => absurd h er, fun _ => ⟨rfl, rfl, rfl⟩⟩, fun h => absurd e5 h⟩⟩⟩⟩), g3, by rw [tb0]; simp⟩
theorem xz {L : List Int} {a : Int} (hd : Dc L a) : Gt L (fun t a' => aH L a 0 t L a') 6 := by
 obtain ⟨r, a1, h1, h2, h3⟩ := dT hd (n := 14) (by omega) (by omega)
 by_cases e1 : 5 < r
 ·by_cases e2 : 5 < r - 6
  ·exact (sE 0 (d := 0) h3 (z := 0) (by omega) (by omega)).map (Nat.le_refl _) fun t a' h => fG 8 _ _ _ _ _ _ ⟨_, _, _, h1, fun _ => ⟨fun _ => ⟨by omega, fun _ => h, fun h' => absurd e2 h'⟩, fun h' => absurd e1 h'⟩, fun h' => by omega⟩
  ·exact (sE 0 (d := 0) h3 (z := r - 6) (by omega) (by omega)).map (Nat.le_refl _) fun t a' h => fG 8 _ _ _ _ _ _ ⟨_, _, _, h1, fun _ => ⟨fun _ => ⟨by omega, fun h' => absurd h' e2, fun _ => h⟩, fun h' => absurd e1 h'⟩, fun h' => by omega⟩
 ·exact (sE 0 (d := 0) h3 (z := r) (by omega) (by omega)).map (Nat.le_refl _) fun t a' h => fG 8 _ _ _ _ _ _ ⟨_, _, _, h1, fun _ => ⟨fun h' => absurd h' e1, fun _ => h⟩, fun h' => by omega⟩
theorem tr {L : List Int} {k : Int} {B : Nat} {a : Int} (h : Gt L (fun t a' => aH L a k t L a') B) : Gt L (fun t a' => dq L a k t L a') (B + 1) := by
 obtain ⟨t, a2, g1, g2, g3⟩ := h
 cases hu : pC t.kind with
 | true => exact ⟨t, a2, mo 0 _ _ _ _ _ _ ⟨_, _, _, g1, _, qV _, fun h => absurd (hu.symm.trans h) (by decide), fun _ => ⟨rfl, rfl, rfl⟩⟩, g2, by omega⟩
 | false => exact ⟨_, a2, mo 0 _ _ _ _ _ _ ⟨_, _, _, g1, _, qV _, fun _ => ⟨rfl, rfl, rfl⟩, fun h => absurd (hu.symm.trans h) (by decide)⟩, g2, by rw [tb1]; simp only [List.length_nil]; omega⟩
theorem AS : ∀ d, 6 ≤ eB d
 | 0 => Nat.le_refl _
 | d + 1 => by have := AS d; simp only [eB]; omega
theorem Fk {L : List Int} : ∀ (d : Nat) {a : Int}, Dc L a → d ≤ 5 → Gt L (fun t a' => aH L a d t L a') (eB d) := fun d => by
 induction d with
 | zero => intro a hd _; exact xz hd
 | succ d ih =>
  intro a hd hd5
  obtain ⟨z, a1, h1, h2, h3⟩ := dT hd (n := 14) (by omega) (by omega)
  have top : ∀ {M t a'}, bS M ((d + 1 : Nat) : Int) L a1 z t L a' → aH L a ((d + 1 : Nat) : Int) t L a' := fun {M} {t} {a'} h => fG M _ _ _ _ _ _ ⟨_, _, _, h1, fun h' => by omega, fun _ => h⟩
  have sub : ∀ {a}, Dc L a → Gt L (fun t a' => aH L a (((d + 1 : Nat) : Int) - 1) t L a') (eB d) := fun {a} h => by rw [show ((d + 1 : Nat) : Int) - 1 = (d : Int) by omega]; exact ih h (by omega)
  have hB : eB (d + 1) = 3 * eB d + 20 := rfl
  have hp := AS d
  by_cases c5 : z ≤ 5
  ·exact (sE 0 (d := ((d + 1 : Nat) : Int)) h3 (by omega) c5).map (by omega) fun t a' h => top h
  have n0 : z ≠ 0 := by omega
  have n1 : z ≠ 1 := by omega
  have n2 : z ≠ 2 := by omega
  have n3 : z ≠ 3 := by omega
  have n4 : z ≠ 4 := by omega
  have n5 : z ≠ 5 := by omega
  by_cases c7 : z ≤ 7
  · -- a call
   obtain ⟨s, a2, g1, g2, g3⟩ := gG h3 [[102], [103], [104], [65, 46, 102], [66, 46, 103], [65, 46, 104]] (by decide) (by decide)
   have hs := fB g2 (by decide)
   obtain ⟨n, a3, g4, g5, g6⟩ := dT g3 (n := 4) (by omega) (by omega)
   have loop : ∀ (k : Nat) (a : Int) (l : List Tree), Dc L a → l.length + k ≤ 100 → Gt L (fun t a' => fb (k + 1) ((d + 1 : Nat) : Int) s L a l (k : Int) t L a') (s.length + 1 + kbulk l + k * (eB d + 1)) := fun k => by
    induction k with
    | zero => intro a l hd hl; exact ⟨_, a, ln 0 _ _ _ _ _ _ _ _ _ ⟨fun h => by omega, fun _ => ⟨rfl, rfl, rfl⟩⟩, hd, by rw [tbK]; omega⟩
    | succ k ihk =>
     intro a l hd hl
     obtain ⟨t, b, q1, q2, q3⟩ := sub hd
     refine (ihk b (l ++ [.node 17 [] [] [t]]) q2 (by simp; omega)).map ?_ fun t' a' h => ln (k + 1) _ _ _ _ _ _ _ _ _ ⟨fun _ => ⟨by omega, _, _, _, q1, by simp; omega, by omega, by rw [show ((k + 1 : Nat) : Int) - 1 = (k : Int) by omega]; exact h⟩, fun h => by omega⟩
     rw [dS, Nat.succ_mul]; simp only [kbulk, tb1, List.length_nil]
     omega
   refine (loop n.toNat a3 [] g6 (by simp; omega)).map (by
    have : n.toNat * (eB d + 1) ≤ 3 * (eB d + 1) := Nat.mul_le_mul_right _ (by omega)
    simp only [kbulk]; omega) fun t a' h => ?_
   have h8 : iJ (n.toNat + 2) ((d + 1 : Nat) : Int) L a1 t L a' := qy (n.toNat + 1) _ _ _ _ _ _ ⟨_, _, _, g1, _, _, _, g4, by rw [show n = ((n.toNat : Nat) : Int) by omega]; exact h⟩
   refine top (up2 n0 n1 (up6 n2 n3 n4 n5 (rL6_semvcsmake_Expr (n.toNat + 3) _ _ _ _ _ _ _ ⟨fun _ => il (n.toNat + 2) _ _ _ _ _ _ _ _ ⟨fun _ => h8, fun h => nomatch h⟩, fun h => il (n.toNat + 2) _ _ _ _ _ _ _ _ ⟨fun _ => h8, fun h' => ?_⟩⟩)))
   have : z ≠ 7 := by simpa using h'
   omega
  have n6 : z ≠ 6 := by omega
  have n7 : z ≠ 7 := by omega
  have t9 : ∀ {M t a'}, dR M ((d + 1 : Nat) : Int) L a1 z t L a' → aH L a ((d + 1 : Nat) : Int) t L a' := fun h => top (up2 n0 n1 (up6 n2 n3 n4 n5 (up9 n6 n7 h)))
  by_cases c8 : z = 8
  · -- a list
   obtain ⟨n, a3, g4, g5, g6⟩ := dT h3 (n := 3) (by omega) (by omega)
   have loop : ∀ (k : Nat) (a : Int) (l : List Tree), Dc L a → l.length + k ≤ 100 → Gt L (fun t a' => fi (k + 1) ((d + 1 : Nat) : Int) L a l (k : Int) t L a') (1 + kbulk l + k * (eB d)) := fun k => by
    induction k with
    | zero => intro a l hd hl; exact ⟨_, a, kU 0 _ _ _ _ _ _ _ _ ⟨fun h => by omega, fun _ => ⟨rfl, rfl, rfl⟩⟩, hd, by rw [tbK]; simp only [List.length_nil]; omega⟩
    | succ k ihk =>
     intro a l hd hl
     obtain ⟨t, b, q1, q2, q3⟩ := sub hd
     refine (ihk b (l ++ [t]) q2 (by simp; omega)).map ?_ fun t' a' h => kU (k + 1) _ _ _ _ _ _ _ _ ⟨fun _ => ⟨by omega, _, _, _, q1, by simp; omega, by omega, by rw [show ((k + 1 : Nat) : Int) - 1 = (k : Int) by omega]; exact h⟩, fun h => by omega⟩
     rw [dS, Nat.succ_mul]; simp only [kbulk]
     omega
   exact (loop (1 + n).toNat a3 [] g6 (by simp; omega)).map (by
    have : (1 + n).toNat * eB d ≤ 3 * eB d := Nat.mul_le_mul_right _ (by omega)
    simp only [kbulk]; omega) fun t a' h => t9 (lH ((1 + n).toNat + 1) _ _ _ _ _ _ _ ⟨fun _ => ⟨_, _, _, g4, by omega, by rw [show (((1 + n).toNat : Nat) : Int) = 1 + n by omega] at h; exact h⟩, fun h' => absurd c8 h'⟩)
  by_cases c9 : z = 9
  ·obtain ⟨t1, b1, q1, r1, s1⟩ := sub h3
   obtain ⟨t2, b2, q2, r2, s2⟩ := sub r1
   obtain ⟨t3, b3, q3, r3, s3⟩ := sub r2
   exact ⟨_, b3, t9 (Et c8 (kL 1 _ _ _ _ _ _ _ ⟨fun _ => pw 0 _ _ _ _ _ _ ⟨by omega, _, _, _, q1, by omega, _, _, _, q2, by omega, _, _, _, q3, rfl, rfl, rfl⟩, fun h => absurd c9 h⟩)), r3, by rw [tb3]; simp only [List.length_nil]; omega⟩
  have t14 : ∀ {M t a'}, dC M ((d + 1 : Nat) : Int) L a1 z t L a' → aH L a ((d + 1 : Nat) : Int) t L a' := fun h => t9 (Et c8 (He c9 h))
  by_cases c11 : z ≤ 11
  ·obtain ⟨s, b0, g1, g2, g3⟩ := gG h3 [[120], [121], [122]] (by decide) (by decide)
   have hs := fB g2 (by decide)
   obtain ⟨t1, b1, q1, r1, s1⟩ := sub g3
   obtain ⟨t2, b2, q2, r2, s2⟩ := sub r1
   refine ⟨.node 20 s [] [t1, t2], b2, ?_, r2, by rw [tb2]; omega⟩
   have h16 : ik 1 ((d + 1 : Nat) : Int) L a1 (.node 20 s [] [t1, t2]) L b2 := qg 0 _ _ _ _ _ _ ⟨_, _, _, g1, by omega, _, _, _, q1, by omega, _, _, _, q2, rfl, rfl, rfl⟩
   refine t14 (rL14_semvcsmake_Expr 2 _ _ _ _ _ _ _ ⟨fun _ => gO 1 _ _ _ _ _ _ _ _ ⟨fun _ => h16, fun h => nomatch h⟩, fun h => gO 1 _ _ _ _ _ _ _ _ ⟨fun _ => h16, fun h' => ?_⟩⟩)
   have : z ≠ 11 := by simpa using h'
   omega
  have t17 : ∀ {M t a'}, eZ M ((d + 1 : Nat) : Int) L a1 z t L a' → aH L a ((d + 1 : Nat) : Int) t L a' := fun h => t14 (GQ (by omega) (by omega) h)
  by_cases c12 : z = 12
  ·obtain ⟨s, b0, g1, g2, g3⟩ := gG h3 [[43], [45], [42], [60], [61, 61]] (by decide) (by decide)
   have hs := fB g2 (by decide)
   obtain ⟨t1, b1, q1, r1, s1⟩ := tr (sub g3)
   obtain ⟨n, b2, q2, q3, q4⟩ := dT r1 (n := 3) (by omega) (by omega)
   by_cases hn : n = 0
   ·obtain ⟨s', b3, g4, g5, g6⟩ := gG q4 [[43], [42]] (by decide) (by decide)
    have hs' := fB g5 (by decide)
    obtain ⟨t2, b4, q5, r5, s5⟩ := tr (xz g6)
    obtain ⟨t3, b5, q6, r6, s6⟩ := tr (sub r5)
    exact ⟨_, b5, t17 (hD 1 _ _ _ _ _ _ _ ⟨fun _ => kD 0 _ _ _ _ _ _ ⟨_, _, _, g1, by omega, _, _, _, q1, _, _, _, q2, fun _ => ⟨_, _, _, g4, _, _, _, q5, by omega, _, _, _, q6, rfl, rfl, rfl⟩, fun h => absurd hn h⟩, fun h => absurd c12 h⟩), r6, by rw [tb2, tb2]; omega⟩
   ·obtain ⟨t3, b5, q6, r6, s6⟩ := tr (sub q4)
    exact ⟨_, b5, t17 (hD 1 _ _ _ _ _ _ _ ⟨fun _ => kD 0 _ _ _ _ _ _ ⟨_, _, _, g1, by omega, _, _, _, q1, _, _, _, q2, fun h => absurd h hn, fun _ => ⟨by omega, _, _, _, q6, rfl, rfl, rfl⟩⟩, fun h => absurd c12 h⟩), r6, by rw [tb2]; omega⟩
  ·obtain ⟨t1, b1, q1, r1, s1⟩ := sub h3
   exact ⟨_, b1, t17 (hD 1 _ _ _ _ _ _ _ ⟨fun h => absurd h c12, fun _ => ⟨by omega, _, _, _, q1, rfl, rfl, rfl⟩⟩), r1, by rw [tb1]; simp only [List.length_nil]; omega⟩
end Go.Proofs.YthnohcipianijaaGreatDoor
namespace Go.Proofs.YthnohcipianijaaGreatDoor
open Go.RowKit Lx
set_option maxRecDepth 100000
def hI : Bool → List UInt8 → Bool
 | c, [] => c
 | c, x :: r => hI (if x.toNat = 10 then false else if x.toNat = 35 then true else c) r
theorem lB : ∀ (b : Bool) (l : List UInt8) (n m : Nat), aE b l (n + m) = ((aE b l n).1 + m, (aE b l n).2.map (· + m))
 | b, [], n, m => by cases b <;> simp [aE]
 | false, c :: r, n, m => by
  have h1 := lB false r (n + 1) m
  have h2 := lB true r (n + 1) m
  unfold aE
  split
  ·rw [← h1]; congr 1; omega
  ·split
   ·rw [← h2]; congr 1; omega
   ·simp
 | true, c :: r, n, m => by
  have h1 := lB false r (n + 1) m
  have h2 := lB true r (n + 1) m
  unfold aE
  split
  ·rw [← h1]; congr 1; omega
  ·split
   ·simp
   ·rw [← h2]; congr 1; omega
def ia (c : Bool) (l : List UInt8) : Bool := (aE c l 0).2.isNone && (aE c l 0).1 == l.length
theorem me {c d : Bool} {x : UInt8} {r : List UInt8} (h : aE c (x :: r) 0 = aE d r 1) : ia c (x :: r) = ia d r := by
 unfold ia
 rw [h, show (1 : Nat) = 0 + 1 from rfl, lB]
 simp
theorem sF : ∀ (l : List UInt8) (c fin : Bool), fu c l fin = (ia c l && (!hI c l || fin))
 | [], c, fin => by cases c <;> cases fin <;> rfl
 | x :: r, c, fin => by
  have ih := sF r
  unfold fu hI
  cases c with
  | true =>
   by_cases ha : aL x = false
   ·have h10 : ¬ x.toNat = 10 := fun h => by simp [aL, bD, h] at ha
    have : ia true (x :: r) = false := by simp [ia, aE, h10, ha]
    rw [if_pos ha, this]; rfl
   ·have ha' : aL x = true := by simpa using ha
    rw [if_neg ha, if_pos rfl, ih]
    by_cases h10 : x.toNat = 10
    ·rw [me (d := false) (by simp [aE, h10])]; simp [h10]
    ·have hb : (x.toNat == 10) = false := by simpa using h10
     rw [me (d := true) (by simp [aE, h10, ha']), hb]; simp [h10]
  | false =>
   by_cases ha : aL x = false
   ·have hw : bD x = false := by cases h : bD x <;> simp_all [aL]
    have h35 : ¬ x.toNat = 35 := fun h => by simp [aL, cQ, h] at ha
    have : ia false (x :: r) = false := by simp [ia, aE, hw, h35]
    rw [if_pos ha, this]; rfl
   ·rw [if_neg ha, if_neg (by simp)]
    by_cases h35 : x.toNat = 35
    ·have hw : bD x = false := by simp [bD, h35]
     rw [if_pos h35, ih, me (d := true) (by simp [aE, h35, hw])]; simp [h35]
    ·rw [if_neg h35]
     by_cases hw : bD x = false
     ·have : ia false (x :: r) = false := by simp [ia, aE, hw, h35]
      rw [if_pos hw, this]; rfl
     ·have hw' : bD x = true := by simpa using hw
      rw [if_neg hw, ih, me (d := false) (by simp [aE, hw'])]
      by_cases h10 : x.toNat = 10 <;> simp [h10, h35]
theorem uM {l : List UInt8} {k : Nat} {x : UInt8} {c : Bool} (h : k < l.length) (hc : l[k] = x) : hI c (l.drop k) = hI (if x.toNat = 10 then false else if x.toNat = 35 then true else c) (l.drop (k + 1)) := by
 rw [List.drop_eq_getElem_cons h, hc]; rfl
theorem ws {l : List UInt8} {k : Nat} {c : Bool} (h : l.length ≤ k) : hI c (l.drop k) = c := by
 rw [List.drop_of_length_le h]; rfl
end Go.Proofs.YthnohcipianijaaGreatDoor
namespace Go.Proofs.YthnohcipianijaaGreatDoor
open Go.RowKit Lx
set_option maxRecDepth 100000
set_option maxHeartbeats 1000000 in
theorem Dd (l : List UInt8) (fin : Bool) (w : World) (hl : l.length ≤ 281474976710656) : Calls Tryz.prog 138 #[.string ⟨l.toArray⟩, .bool fin] w fun e w' => e = .returned (.bool (fu false l fin)) ∧ w = w' := by
  obtain ⟨n, b, hLd⟩ : ∃ n b, aE false l 0 = (n, b) := ⟨_, _, rfl⟩
  have hnl : n ≤ l.length := by have h := lN false l 0; rw [hLd] at h; simpa using h
  have HLd := Lib.hid hLd
  have HW := Lib.hid (show ia false l = (b.isNone && n == l.length) from by rw [ia, hLd])
  have HT := Lib.hid (sF l false fin)
  clear hLd
  go_enter Tryz.func138, Tryz.ntmps138
  go_wp2_with fail
  refine (CL l 0 0 rfl _ (Nat.zero_le _) hl).mono ?_
  rintro e w' ⟨rfl, rfl⟩
  rw [List.drop_zero, HLd.out]
  cases b with
  | some q =>
    have hq2 : st 0 (some q) = ((0 + q : Nat) : Int) := rfl
    rw [hq2, Nat.zero_add]
    have hq : (0 : Int) ≤ (q : Int) := by omega
    have HF := Lib.hid (show fu false l fin = false from by rw [HT.out, HW.out]; rfl)
    go_wp2
    go_ret
    exact ⟨bm HF.out.symm, rfl⟩
  | none =>
    have hq2 : st 0 none = -1 := rfl
    rw [hq2]
    clear hq2
    by_cases hn : n < l.length
    · have HF := Lib.hid (show fu      false l fin = false from by rw [HT.out, HW.out]; have : (n == l.length) = false := by simp; omega
                                                                   rw [this]; rfl)
      go_wp2
      go_ret
      exact ⟨bm HF.out.symm, rfl⟩
    · have hnb : decide (n < l.length) = false := by simpa using hn
      have HF := Lib.hid (show fu false l fin = (!hI false l || fin) from by
        rw [HT.out, HW.out]; have : (n == l.length) = true := by simp; omega
        rw [this]; rfl)
      cases fin with
      | true =>
        go_wp2
        go_ret
        exact ⟨bm (by rw [HF.out]; simp), rfl⟩
      | false =>
        obtain ⟨r, hr⟩ : ∃ r, hI false l = r := ⟨_, rfl⟩
        have HR := Lib.hid hr; clear hr
        go_wp2
        go_loopg [7, 8] l.length (fun g s7 s8 wx => ∃ (i : Nat) (c : Bool), g = l.length - i ∧ wx = w ∧ i ≤ l.length ∧ s7 = .bool c ∧ s8 = .int .i64 i ∧ Hid (hI c (l.drop i) = r))
        case atStart => exact ⟨0, false, rfl, rfl, Nat.zero_le _, rfl, rfl, Lib.hid (by simpa using HR.out)⟩
        case round =>
          obtain ⟨i, c, rfl, rfl, hil, rfl, rfl, HC⟩ := hrel
          by_cases hit : i < l.length
          rotate_left
          · have HF2 := Lib.hid (show c = r from by rw [← HC.out, ws (by omega)])
            go_wp2_with fail
            go_ret
            exact ⟨bm (by rw [HF.out, HR.out, HF2.out]; simp), rfl⟩
          obtain ⟨x, hx⟩ : ∃ c, ({ data := l.toArray } : ByteArray)[i]'hit = c := ⟨_, rfl⟩
          have HXi := Lib.hid (show l[i] = x from hx)
          have HS := Lib.hid (HC.out.symm.trans (uM hit HXi.out))
          clear HC
          cases h35 : ((x.toNat : Int) == 35) <;> cases h10 : ((x.toNat : Int) == 10)
          · go_wp2
            go_roundg (l.length - (i + 1))
            case measure => omega
            case rel => exact ⟨i + 1, c, rfl, rfl, by omega, rfl, by go_num, Lib.hid (by rw [HS.out, if_neg (bE (m := 10) h10), if_neg (bE (m := 35) h35)])⟩
          · go_wp2
            go_roundg (l.length - (i + 1))
            case measure => omega
            case rel => exact ⟨i + 1, false, rfl, rfl, by omega, rfl, by go_num, Lib.hid (by rw [HS.out, if_pos (cC (m := 10) h10)])⟩
          · go_wp2
            go_roundg (l.length - (i + 1))
            case measure => omega
            case rel => exact ⟨i + 1, true, rfl, rfl, by omega, rfl, by go_num, Lib.hid (by rw [HS.out, if_neg (bE (m := 10) h10), if_pos (cC (m := 35) h35)])⟩
          · have h1 := cC (m := 10) h10
            have h2 := cC (m := 35) h35
            omega
end Go.Proofs.YthnohcipianijaaGreatDoor
namespace Go.Proofs.YthnohcipianijaaGreatDoor
open Go.RowKit Lx
set_option maxRecDepth 100000
theorem Cx (a b : List UInt8) : (ByteArray.mk a.toArray) ++ (ByteArray.mk b.toArray) = ⟨(a ++ b).toArray⟩ := by
 apply ByteArray.ext; simp
theorem um {a b : List UInt8} (h : aV a = 0 ∨ aV b = 0) : fusesT a b = false := by simp [fusesT, h]
theorem nc {a b : List UInt8} (h : ¬ (aV a = 0 ∨ aV b = 0)) (h2 : ¬ ((scan (a ++ b)).err = 0 ∧ (scan (a ++ b)).toks.length = 2 ∧ (scan (a ++ b)).tail = [])) : fusesT a b = true := by
 unfold fusesT; rw [if_neg h]; simp only; rw [if_neg h2]
theorem yX {a b : List UInt8} {t0 t1 : TokZ} (h : ¬ (aV a = 0 ∨ aV b = 0)) (h1 : (scan (a ++ b)).err = 0) (h2 : (scan (a ++ b)).toks = [t0, t1]) (h3 : (scan (a ++ b)).tail = []) :
  fusesT a b = !(t0.lead == [] && t0.text == a && t1.lead == [] && t1.text == b) := by
 unfold fusesT; rw [if_neg h]; simp only; rw [h1, h2, h3]; simp
theorem yH {l : List UInt8} {b : Bool} (h : (l == []) = b) : l.isEmpty = b := by rw [← h]; cases l <;> rfl
theorem vb {l : List TokZ} (h : l.length = 2) : ∃ t0 t1, l = [t0, t1] := by
 match l, h with
 | [a, b], _ => exact ⟨a, b, rfl⟩
set_option maxHeartbeats 2000000 in
theorem EB (a b : List UInt8) (w : World) (ha : a.length ≤ 140737488355328) (hb : b.length ≤ 140737488355328) : Calls Tryz.prog 96 #[.string ⟨a.toArray⟩, .string ⟨b.toArray⟩] w fun e w' => e = .returned (.bool (fusesT a b)) ∧ Ext w w' := by
 have hx := Cx
 obtain ⟨ka, hka⟩ : ∃ k, aV a = k := ⟨_, rfl⟩
 obtain ⟨kb, hkb⟩ : ∃ k, aV b = k := ⟨_, rfl⟩
 have HKa := Lib.hid hka
 have HKb := Lib.hid hkb
 clear hka hkb
 go_enter Tryz.func96, Tryz.ntmps96
 go_wp2_with fail
 refine (vh _ _ (by omega)).mono ?_
 rintro e1 w1 ⟨rfl, hx1⟩
 rw [HKa.out]
 have HX1 := Lib.hid hx1; clear hx1
 by_cases h1 : ka = 0
 ·subst h1
  go_wp2_with fail
  go_ret
  exact ⟨bm (um (.inl HKa.out)).symm, HX1.out⟩
 have h1b : ((ka : Int) == 0) = false := by simp; omega
 go_wp2_with fail
 refine (vh _ _ (by omega)).mono ?_
 rintro e2 w2 ⟨rfl, hx2⟩
 rw [HKb.out]
 have HX2 := Lib.hid (HX1.out.trans hx2); clear hx2
 by_cases h2 : kb = 0
 ·subst h2
  go_wp2_with fail
  go_ret
  exact ⟨bm (um (.inr HKb.out)).symm, HX2.out⟩
 have h2b : ((kb : Int) == 0) = false := by simp; omega
 have HN := Lib.hid (show ¬ (aV a = 0 ∨ aV b = 0) from by rw [HKa.out, HKb.out]; omega)
 obtain ⟨Rs, hRs⟩ : ∃ Rs, scan (a ++ b) = Rs := ⟨_, rfl⟩
 have HRs := Lib.hid hRs
 clear hRs
 go_wp2_with fail
 refine (Gi _ _ (by simp; omega)).mono ?_
 rintro e3 w3 ⟨v, rfl, htr, hx3⟩
 rw [HRs.out] at htr ⊢
 obtain ⟨A, c, rfl, hc1, hc2, hrow⟩ := htr
 unfold maxLen at hc2
 have HX3 := Lib.hid (HX2.out.trans hx3); clear hx3
 have HRow := Lib.hid hrow; clear hrow
 obtain ⟨toks, tail, place, er⟩ := Rs
 simp only at HRow hc1 hc2 ⊢
 by_cases h3 : er = 0
 rotate_left
 ·have h3b : ((er : Int) != 0) = true := by simp; omega
  have HF := Lib.hid (nc HN.out (fun h => h3 (by rw [HRs.out] at h; exact h.1)))
  go_wp2_with fail
  go_ret
  exact ⟨bm HF.out.symm, HX3.out⟩
 subst h3
 by_cases h4 : toks.length = 2
 rotate_left
 ·have h4b : ((toks.length : Int) != 2) = true := by simp; omega
  have HF := Lib.hid (nc HN.out (fun h => h4 (by rw [HRs.out] at h; exact h.2.1)))
  go_wp2_with fail
  go_ret
  exact ⟨bm HF.out.symm, HX3.out⟩
 by_cases h5 : tail = []
 rotate_left
 ·have h5b : (tail == []) = false := by simpa using h5
  have h5c : tail.isEmpty = false := by simpa using h5
  obtain ⟨t0, t1, rfl⟩ := vb h4
  have HF := Lib.hid (nc HN.out (fun h => h5 (by rw [HRs.out] at h; exact h.2.2)))
  clear h5 h4
  go_wp2_with fail
  go_ret
  exact ⟨bm HF.out.symm, HX3.out⟩
 subst h5
 obtain ⟨t0, t1, rfl⟩ := vb h4
 clear h4
 obtain ⟨b0, off, rfl, hb0, p0, p1, p2⟩ := un HRow.out (k := 0) (by simp)
 obtain ⟨b0', off', heq, _, q0, q1, q2⟩ := un HRow.out (k := 1) (by simp)
 obtain ⟨rfl, rfl⟩ : b0 = b0' ∧ off = off' := by simpa using heq
 clear heq
 have HF := Lib.hid (yX HN.out (by rw [HRs.out]) (by rw [HRs.out]) (by rw [HRs.out]))
 simp only [Nat.zero_mul, Nat.one_mul, Nat.add_zero, List.getElem_cons_zero, List.getElem_cons_succ] at p0 p1 p2 q0 q1 q2
 cases g1 : (t0.text == a)
 ·skip
  go_wp2_with fail
  go_ret
  exact ⟨bm (by rw [HF.out, g1]; simp), HX3.out⟩
 cases g0 : (t0.lead == [])
 ·skip
  have g0' : t0.lead.isEmpty = false := by simpa using g0
  go_wp2_with fail
  go_ret
  exact ⟨bm (by rw [HF.out, g1, g0]; simp), HX3.out⟩
 have g0' : t0.lead.isEmpty = true := by simpa using g0
 cases g3 : (t1.text == b)
 ·skip
  go_wp2_with fail
  go_ret
  exact ⟨bm (by rw [HF.out, g1, g0, g3]; simp), HX3.out⟩
 cases g2 : (t1.lead == [])
 all_goals
  have g2' := yH g2
  go_wp2_with fail
  go_ret
  exact ⟨bm (by rw [HF.out, g1, g0, g3, g2]; simp), HX3.out⟩
end Go.Proofs.YthnohcipianijaaGreatDoor
namespace Go.Proofs.YthnohcipianijaaGreatDoor
open Go.RowKit Lx Sx
set_option maxHeartbeats 1000000
theorem BV (a b : List UInt8) (ha : a.length ≤ 140737488355328) (hb : b.length ≤ 140737488355328) : lD a b (fusesT a b) := sum0_calls rfl rfl fun S w ρ xs hx => by
 simp only [LRel] at hx
 obtain ⟨x, ys, rfl, h1, y, zs, rfl, h2, rfl⟩ := hx
 simp only [VRel] at h1 h2; subst h1 h2
 exact (EB a b w ha hb).mono fun e w' ⟨h1, h2⟩ => ⟨_, h1, by simp only [VRel], tP h2⟩
theorem ug (a : List UInt8) (f : Bool) (ha : a.length ≤ 140737488351232) : gN a f (fu false a f) := sum0_calls rfl rfl fun S w ρ xs hx => by
 simp only [LRel] at hx
 obtain ⟨x, ys, rfl, h1, y, zs, rfl, h2, rfl⟩ := hx
 simp only [VRel] at h1 h2; subst h1 h2
 exact (Dd a f w (by omega)).mono fun e w' ⟨h1, h2⟩ => ⟨_, h1, by simp only [VRel], h2 ▸ Chg.refl _ _⟩
abbrev Pce := aa
def Qp (l : List Pce) : Prop := ∀ x ∈ l, x.Lead.length ≤ 1000000 ∧ x.Text.length ≤ 1000010
theorem bG {a b : List Pce} : Qp (a ++ b) ↔ Qp a ∧ Qp b := ⟨fun h => ⟨fun x hx => h x (by simp [hx]), fun x hx => h x (by simp [hx])⟩, fun h x hx => by rcases List.mem_append.1 hx with h1 | h1; exact h.1 x h1; exact h.2 x h1⟩
theorem bo {x : Pce} {a : List Pce} : Qp (x :: a) ↔ (x.Lead.length ≤ 1000000 ∧ x.Text.length ≤ 1000010) ∧ Qp a := ⟨fun h => ⟨h x (by simp), fun y hy => h y (by simp [hy])⟩, fun h y hy => by rcases List.mem_cons.1 hy with h1 | h1; subst h1; exact h.1; exact h.2 y h1⟩
theorem bC : Qp [] := fun x hx => by cases hx
theorem bc {t : Tree} (k : Nat) (ht : tbulk t ≤ 1000000) : ∃ s, ai t (k : Int) s ∧ s.length ≤ 1000000 := by
 by_cases h : (k : Int) < (t.leads.length : Nat)
 ·obtain ⟨s, hs, _⟩ | h' := aB t.leads k
  ·have := sj hs
   have := bk t
   exact ⟨s, lE 0 _ _ _ ⟨fun _ => ⟨k, rfl, s, hs, rfl⟩, fun h' => absurd h h'⟩, by omega⟩
  ·omega
 ·exact ⟨[], lE 0 _ _ _ ⟨fun h' => absurd h' h, fun _ => rfl⟩, by simp⟩
def Pok (t : Tree) : Prop := ∀ l, l.length + 8 * tbulk t ≤ 900000000 → ∃ r, aj l t r ∧ r.length + 1 ≤ l.length + 8 * tbulk t ∧ (Qp l → Qp r)
theorem rO {k n : Int} : ∀ {l : List Tree} {i : Nat}, shapeKs k n i l = true → ∀ j u, l[j]? = some u → iS k n ((i + j : Nat) : Int) u.kind = true ∧ shapeK u = true
 | [], _, _, j, u, h => by simp at h
 | t :: r, i, hs, 0, u, h => by
  simp only [shapeKs, Bool.and_eq_true] at hs
  simp at h; subst h
  exact ⟨hs.1.1, hs.1.2⟩
 | t :: r, i, hs, j + 1, u, h => by
  simp only [shapeKs, Bool.and_eq_true] at hs
  have := rO hs.2 j u (by simpa using h)
  rw [show i + 1 + j = i + (j + 1) by omega] at this
  exact this
theorem ut {t u : Tree} {i : Nat} (hs : shapeK t = true) (hu : t.kids[i]? = some u) : shapeK u = true ∧ iS t.kind t.kids.length i u.kind = true := by
 rw [bQ] at hs
 simp only [Bool.and_eq_true] at hs
 have := rO hs.2 i u hu
 rw [Nat.zero_add] at this
 exact ⟨this.2, this.1⟩
theorem nL {t : Tree} (hs : shapeK t = true) : 0 ≤ dj t.kind t.kids.length := by
 rw [bQ] at hs
 simp only [Bool.and_eq_true, decide_eq_true_eq] at hs
 exact hs.1.1
theorem eG {t : Tree} (hs : shapeK t = true) : (t.kind = 2 → 2 ≤ t.kids.length) ∧ (t.kind = 18 → 1 ≤ t.kids.length) ∧ (t.kind = 3 ∨ t.kind = 4 ∨ t.kind = 8 ∨ t.kind = 17 ∨ t.kind = 22 → t.kids.length = 1) ∧ (t.kind = 19 → t.kids.length = 3) ∧ (t.kind = 20 ∨ t.kind = 21 → t.kids.length = 2) := by
 have h := nL hs
 refine ⟨fun hk => ?_, fun hk => ?_, fun hk => ?_, fun hk => ?_, fun hk => ?_⟩
 ·rw [hk] at h; simp only [dj, f0] at h; simp at h; omega
 ·rw [hk] at h; simp only [dj, f0] at h; simp at h; omega
 ·rcases hk with hk | hk | hk | hk | hk <;> (rw [hk] at h; simp only [dj, f0] at h; simp at h; omega)
 ·rw [hk] at h; simp only [dj, f0] at h; simp at h; omega
 ·rcases hk with hk | hk <;> (rw [hk] at h; simp only [dj, f0] at h; simp at h; omega)
theorem dn1 {l r : List Pce} {t : Tree} (M : Nat) (hk : t.kind ∉ [(1 : Int)]) (h : gx M l t r) : aj l t r := ko M _ _ _ ⟨fun e => absurd (by simp [e]) hk, fun _ => h⟩
theorem dn2 {l r : List Pce} {t : Tree} (M : Nat) (hk : t.kind ∉ [(1 : Int), 2]) (h : gH M l t r) : aj l t r := dn1 (M + 1) (fun e => hk (by simp only [List.mem_cons, List.not_mem_nil, or_false] at e ⊢; omega)) (jw M _ _ _ ⟨fun e => absurd (by simp [e]) hk, fun _ => h⟩)
theorem dn3 {l r : List Pce} {t : Tree} (M : Nat) (hk : t.kind ∉ [(1 : Int), 2, 3]) (h : gq M l t r) : aj l t r := dn2 (M + 1) (fun e => hk (by simp only [List.mem_cons, List.not_mem_nil, or_false] at e ⊢; omega)) (jp M _ _ _ ⟨fun e => absurd (by simp [e]) hk, fun _ => h⟩)
theorem dn4 {l r : List Pce} {t : Tree} (M : Nat) (hk : t.kind ∉ [(1 : Int), 2, 3, 4]) (h : gE M l t r) : aj l t r := dn3 (M + 1) (fun e => hk (by simp only [List.mem_cons, List.not_mem_nil, or_false] at e ⊢; omega)) (jH M _ _ _ ⟨fun e => absurd (by simp [e]) hk, fun _ => h⟩)
theorem dn5 {l r : List Pce} {t : Tree} (M : Nat) (hk : t.kind ∉ [(1 : Int), 2, 3, 4, 5]) (h : gu M l t r) : aj l t r := dn4 (M + 1) (fun e => hk (by simp only [List.mem_cons, List.not_mem_nil, or_false] at e ⊢; omega)) (jn M _ _ _ ⟨fun e => absurd (by simp [e]) hk, fun _ => h⟩)
theorem dn6 {l r : List Pce} {t : Tree} (M : Nat) (hk : t.kind ∉ [(1 : Int), 2, 3, 4, 5, 6]) (h : gb M l t r) : aj l t r := dn5 (M + 1) (fun e => hk (by simp only [List.mem_cons, List.not_mem_nil, or_false] at e ⊢; omega)) (ju M _ _ _ ⟨fun e => absurd (by simp [e]) hk, fun _ => h⟩)
theorem dn7 {l r : List Pce} {t : Tree} (M : Nat) (hk : t.kind ∉ [(1 : Int), 2, 3, 4, 5, 6, 7]) (h : gd M l t r) : aj l t r := dn6 (M + 1) (fun e => hk (by simp only [List.mem_cons, List.not_mem_nil, or_false] at e ⊢; omega)) (iX M _ _ _ ⟨fun e => absurd (by simp [e]) hk, fun _ => h⟩)
theorem dn8 {l r : List Pce} {t : Tree} (M : Nat) (hk : t.kind ∉ [(1 : Int), 2, 3, 4, 5, 6, 7, 13]) (h : gc M l t r) : aj l t r := dn7 (M + 1) (fun e => hk (by simp only [List.mem_cons, List.not_mem_nil, or_false] at e ⊢; omega)) (je M _ _ _ ⟨fun e => absurd (by simp [e]) hk, fun _ => h⟩)
theorem dn9 {l r : List Pce} {t : Tree} (M : Nat) (hk : t.kind ∉ [(1 : Int), 2, 3, 4, 5, 6, 7, 13, 14]) (h : gf M l t r) : aj l t r := dn8 (M + 1) (fun e => hk (by simp only [List.mem_cons, List.not_mem_nil, or_false] at e ⊢; omega)) (iZ M _ _ _ ⟨fun e => absurd (by simp [e]) hk, fun _ => h⟩)
theorem Fx {l r : List Pce} {t : Tree} (M : Nat) (hk : t.kind ∉ [(1 : Int), 2, 3, 4, 5, 6, 7, 13, 14, 15]) (h : fW M l t r) : aj l t r := dn9 (M + 1) (fun e => hk (by simp only [List.mem_cons, List.not_mem_nil, or_false] at e ⊢; omega)) (iW M _ _ _ ⟨fun e => absurd (by simp [e]) hk, fun _ => h⟩)
theorem EJ {l r : List Pce} {t : Tree} (M : Nat) (hk : t.kind ∉ [(1 : Int), 2, 3, 4, 5, 6, 7, 13, 14, 15, 8]) (h : fT M l t r) : aj l t r := Fx (M + 1) (fun e => hk (by simp only [List.mem_cons, List.not_mem_nil, or_false] at e ⊢; omega)) (jh M _ _ _ ⟨fun e => absurd (by simp [e]) hk, fun _ => h⟩)
theorem Fh {l r : List Pce} {t : Tree} (M : Nat) (hk : t.kind ∉ [(1 : Int), 2, 3, 4, 5, 6, 7, 13, 14, 15, 8, 16]) (h : fS M l t r) : aj l t r := EJ (M + 1) (fun e => hk (by simp only [List.mem_cons, List.not_mem_nil, or_false] at e ⊢; omega)) (iY M _ _ _ ⟨fun e => absurd (by simp [e]) hk, fun _ => h⟩)
theorem En {l r : List Pce} {t : Tree} (M : Nat) (hk : t.kind ∉ [(1 : Int), 2, 3, 4, 5, 6, 7, 13, 14, 15, 8, 16, 17]) (h : fV M l t r) : aj l t r := Fh (M + 1) (fun e => hk (by simp only [List.mem_cons, List.not_mem_nil, or_false] at e ⊢; omega)) (jf M _ _ _ ⟨fun e => absurd (by simp [e]) hk, fun _ => h⟩)
theorem Eq {l r : List Pce} {t : Tree} (M : Nat) (hk : t.kind ∉ [(1 : Int), 2, 3, 4, 5, 6, 7, 13, 14, 15, 8, 16, 17, 18]) (h : fX M l t r) : aj l t r := En (M + 1) (fun e => hk (by simp only [List.mem_cons, List.not_mem_nil, or_false] at e ⊢; omega)) (iU M _ _ _ ⟨fun e => absurd (by simp [e]) hk, fun _ => h⟩)
theorem EY {l r : List Pce} {t : Tree} (M : Nat) (hk : t.kind ∉ [(1 : Int), 2, 3, 4, 5, 6, 7, 13, 14, 15, 8, 16, 17, 18, 19]) (h : ga M l t r) : aj l t r := Eq (M + 1) (fun e => hk (by simp only [List.mem_cons, List.not_mem_nil, or_false] at e ⊢; omega)) (ji M _ _ _ ⟨fun e => absurd (by simp [e]) hk, fun _ => h⟩)
theorem Fl {l r : List Pce} {t : Tree} (M : Nat) (hk : t.kind ∉ [(1 : Int), 2, 3, 4, 5, 6, 7, 13, 14, 15, 8, 16, 17, 18, 19, 20]) (h : fZ M l t r) : aj l t r := EY (M + 1) (fun e => hk (by simp only [List.mem_cons, List.not_mem_nil, or_false] at e ⊢; omega)) (jc M _ _ _ ⟨fun e => absurd (by simp [e]) hk, fun _ => h⟩)
theorem Ej {l r : List Pce} {t : Tree} (M : Nat) (hk : t.kind ∉ [(1 : Int), 2, 3, 4, 5, 6, 7, 13, 14, 15, 8, 16, 17, 18, 19, 20, 21]) (h : gj M l t r) : aj l t r := Fl (M + 1) (fun e => hk (by simp only [List.mem_cons, List.not_mem_nil, or_false] at e ⊢; omega)) (ja M _ _ _ ⟨fun e => absurd (by simp [e]) hk, fun _ => h⟩)
theorem p_5 {t : Tree} (hk : t.kind = 5) (ht : tbulk t ≤ 1000000) : Pok t := fun l hl => by
 obtain ⟨s1, g1, b1⟩ := bc 0 ht
 have htp := bt t
 have M := 0
 refine ⟨l ++ [⟨s1, [73, 110, 116]⟩], ?_, by simp; omega, fun hq => by simp only [bG, bo]; exact ⟨hq, ⟨b1, by decide⟩, bC⟩⟩
 exact dn4 (M + 2) (by rw [hk]; decide) (jn (M + 1) _ _ _ ⟨fun _ => ⟨_, g1, by simp; omega, rfl⟩, fun h => absurd hk h⟩)
theorem p_6 {t : Tree} (hk : t.kind = 6) (ht : tbulk t ≤ 1000000) : Pok t := fun l hl => by
 obtain ⟨s1, g1, b1⟩ := bc 0 ht
 have htp := bt t
 have M := 0
 refine ⟨l ++ [⟨s1, [84, 101, 120, 116]⟩], ?_, by simp; omega, fun hq => by simp only [bG, bo]; exact ⟨hq, ⟨b1, by decide⟩, bC⟩⟩
 exact dn5 (M + 2) (by rw [hk]; decide) (ju (M + 1) _ _ _ ⟨fun _ => ⟨_, g1, by simp; omega, rfl⟩, fun h => absurd hk h⟩)
theorem p_7 {t : Tree} (hk : t.kind = 7) (ht : tbulk t ≤ 1000000) : Pok t := fun l hl => by
 obtain ⟨s1, g1, b1⟩ := bc 0 ht
 have htp := bt t
 have M := 0
 refine ⟨l ++ [⟨s1, [66, 111, 111, 108]⟩], ?_, by simp; omega, fun hq => by simp only [bG, bo]; exact ⟨hq, ⟨b1, by decide⟩, bC⟩⟩
 exact dn6 (M + 2) (by rw [hk]; decide) (iX (M + 1) _ _ _ ⟨fun _ => ⟨_, g1, by simp; omega, rfl⟩, fun h => absurd hk h⟩)
theorem GL {t : Tree} (hk : t.kind = 13) (ht : tbulk t ≤ 1000000) : Pok t := fun l hl => by
 obtain ⟨s1, g1, b1⟩ := bc 0 ht
 have htp := bt t
 have M := 0
 refine ⟨l ++ [⟨s1, [116, 114, 117, 101]⟩], ?_, by simp; omega, fun hq => by simp only [bG, bo]; exact ⟨hq, ⟨b1, by decide⟩, bC⟩⟩
 exact dn7 (M + 2) (by rw [hk]; decide) (je (M + 1) _ _ _ ⟨fun _ => ⟨_, g1, by simp; omega, rfl⟩, fun h => absurd hk h⟩)
theorem GR {t : Tree} (hk : t.kind = 14) (ht : tbulk t ≤ 1000000) : Pok t := fun l hl => by
 obtain ⟨s1, g1, b1⟩ := bc 0 ht
 have htp := bt t
 have M := 0
 refine ⟨l ++ [⟨s1, [102, 97, 108, 115, 101]⟩], ?_, by simp; omega, fun hq => by simp only [bG, bo]; exact ⟨hq, ⟨b1, by decide⟩, bC⟩⟩
 exact dn8 (M + 2) (by rw [hk]; decide) (iZ (M + 1) _ _ _ ⟨fun _ => ⟨_, g1, by simp; omega, rfl⟩, fun h => absurd hk h⟩)
theorem Hd {t : Tree} (hk : t.kind = 15) (ht : tbulk t ≤ 1000000) : Pok t := fun l hl => by
 obtain ⟨s1, g1, b1⟩ := bc 0 ht
 have htp := bt t
 have M := 0
 refine ⟨l ++ [⟨s1, [63]⟩], ?_, by simp; omega, fun hq => by simp only [bG, bo]; exact ⟨hq, ⟨b1, by decide⟩, bC⟩⟩
 exact dn9 (M + 2) (by rw [hk]; decide) (iW (M + 1) _ _ _ ⟨fun _ => ⟨_, g1, by simp; omega, rfl⟩, fun h => absurd hk h⟩)
theorem oS {l : List Tree} {u : Tree} (h0 : l[0]? = some u) : tbulk u ≤ kbulk l := db h0
theorem tE {l : List Tree} {u v : Tree} (h0 : l[0]? = some u) (h1 : l[1]? = some v) : tbulk u + tbulk v ≤ kbulk l := by
 match l, h0, h1 with
 | a :: r, h0, h1 => simp at h0; subst h0; have := db (ks := r) (i := 0) (by simpa using h1); simp only [kbulk]; omega
theorem DA {l : List Tree} {u v x : Tree} (h0 : l[0]? = some u) (h1 : l[1]? = some v) (h2 : l[2]? = some x) : tbulk u + tbulk v + tbulk x ≤ kbulk l := by
 match l, h0, h1, h2 with
 | a :: r, h0, h1, h2 => simp at h0; subst h0; have := tE (l := r) (by simpa using h1) (by simpa using h2); simp only [kbulk]; omega
theorem p_3 {t : Tree} (hk : t.kind = 3) (hs : shapeK t = true) (ht : tbulk t ≤ 1000000) (ih : ∀ (i : Nat) (u : Tree), t.kids[i]? = some u → Pok u) : Pok t := fun l hl => by
 have htp := bt t
 have htx := bY t
 have hn := eG hs
 have M := 0
 have hkn : t.kids.length = 1 := hn.2.2.1 (by simp [hk])
 obtain ⟨u0, hu0, _⟩ | h' := aB t.kids 0
 rotate_left
 ·omega
 have hsum : tbulk u0 + 1 ≤ tbulk t := by
  have hb := bk t
  have hx := oS hu0
  omega
 obtain ⟨s1, g1, b1⟩ := bc 0 ht
 obtain ⟨s2, g2, b2⟩ := bc 1 ht
 obtain ⟨s3, g3, b3⟩ := bc 2 ht
 have q1 : Qp l → Qp (l ++ [⟨s1, [116, 121, 112, 101]⟩, ⟨s2, t.text⟩, ⟨s3, [61]⟩]) := fun hq => by simp only [bG, bo]; exact ⟨hq, ⟨b1, by decide⟩, ⟨b2, by omega⟩, ⟨b3, by decide⟩, bC⟩
 obtain ⟨r0, e0, z0, y0⟩ := ih 0 u0 hu0 (l ++ [⟨s1, [116, 121, 112, 101]⟩, ⟨s2, t.text⟩, ⟨s3, [61]⟩]) (by first | omega | (simp only [List.length_append, List.length_cons, List.length_nil]; omega))
 try simp only [List.length_append, List.length_cons, List.length_nil] at z0
 refine ⟨r0, ?_, by first | omega | (simp only [List.length_append, List.length_cons, List.length_nil]; omega), fun hq => (y0 (q1 hq))⟩
 exact dn2 (M + 2) (by rw [hk]; decide) (jp (M + 1) _ _ _ ⟨fun _ => oh (M) _ _ _ ⟨_, g1, _, g2, _, g3, by simp; omega, u0, hu0, _, e0, rfl⟩, fun h => absurd hk h⟩)
theorem p_4 {t : Tree} (hk : t.kind = 4) (hs : shapeK t = true) (ht : tbulk t ≤ 1000000) (ih : ∀ (i : Nat) (u : Tree), t.kids[i]? = some u → Pok u) : Pok t := fun l hl => by
 have htp := bt t
 have htx := bY t
 have hn := eG hs
 have M := 0
 have hkn : t.kids.length = 1 := hn.2.2.1 (by simp [hk])
 obtain ⟨u0, hu0, _⟩ | h' := aB t.kids 0
 rotate_left
 ·omega
 have hsum : tbulk u0 + 1 ≤ tbulk t := by
  have hb := bk t
  have hx := oS hu0
  omega
 obtain ⟨s1, g1, b1⟩ := bc 0 ht
 obtain ⟨s2, g2, b2⟩ := bc 1 ht
 have q1 : Qp l → Qp (l ++ [⟨s1, t.text⟩, ⟨s2, [58]⟩]) := fun hq => by simp only [bG, bo]; exact ⟨hq, ⟨b1, by omega⟩, ⟨b2, by decide⟩, bC⟩
 obtain ⟨r0, e0, z0, y0⟩ := ih 0 u0 hu0 (l ++ [⟨s1, t.text⟩, ⟨s2, [58]⟩]) (by first | omega | (simp only [List.length_append, List.length_cons, List.length_nil]; omega))
 try simp only [List.length_append, List.length_cons, List.length_nil] at z0
 refine ⟨r0, ?_, by first | omega | (simp only [List.length_append, List.length_cons, List.length_nil]; omega), fun hq => (y0 (q1 hq))⟩
 exact dn3 (M + 2) (by rw [hk]; decide) (jH (M + 1) _ _ _ ⟨fun _ => nX (M) _ _ _ ⟨_, g1, _, g2, by simp; omega, u0, hu0, _, e0, rfl⟩, fun h => absurd hk h⟩)
theorem p_8 {t : Tree} (hk : t.kind = 8) (hs : shapeK t = true) (ht : tbulk t ≤ 1000000) (ih : ∀ (i : Nat) (u : Tree), t.kids[i]? = some u → Pok u) : Pok t := fun l hl => by
 have htp := bt t
 have htx := bY t
 have hn := eG hs
 have M := 0
 have hkn : t.kids.length = 1 := hn.2.2.1 (by simp [hk])
 obtain ⟨u0, hu0, _⟩ | h' := aB t.kids 0
 rotate_left
 ·omega
 have hsum : tbulk u0 + 1 ≤ tbulk t := by
  have hb := bk t
  have hx := oS hu0
  omega
 obtain ⟨s1, g1, b1⟩ := bc 0 ht
 have q1 : Qp l → Qp (l ++ [⟨s1, [91]⟩]) := fun hq => by simp only [bG, bo]; exact ⟨hq, ⟨b1, by decide⟩, bC⟩
 obtain ⟨r0, e0, z0, y0⟩ := ih 0 u0 hu0 (l ++ [⟨s1, [91]⟩]) (by first | omega | (simp only [List.length_append, List.length_cons, List.length_nil]; omega))
 try simp only [List.length_append, List.length_cons, List.length_nil] at z0
 obtain ⟨s2, g2, b2⟩ := bc 1 ht
 have q3 : Qp r0 → Qp (r0 ++ [⟨s2, [93]⟩]) := fun hq => by simp only [bG, bo]; exact ⟨hq, ⟨b2, by decide⟩, bC⟩
 refine ⟨(r0 ++ [⟨s2, [93]⟩]), ?_, by first | omega | (simp only [List.length_append, List.length_cons, List.length_nil]; omega), fun hq => (q3 (y0 (q1 hq)))⟩
 exact Fx (M + 2) (by rw [hk]; decide) (jh (M + 1) _ _ _ ⟨fun _ => nw (M) _ _ _ ⟨_, g1, by simp; omega, u0, hu0, _, e0, _, g2, by simp; omega, rfl⟩, fun h => absurd hk h⟩)
theorem GP {t : Tree} (hk : t.kind = 17) (hs : shapeK t = true) (ht : tbulk t ≤ 1000000) (ih : ∀ (i : Nat) (u : Tree), t.kids[i]? = some u → Pok u) : Pok t := fun l hl => by
 have htp := bt t
 have htx := bY t
 have hn := eG hs
 have M := 0
 have hkn : t.kids.length = 1 := hn.2.2.1 (by simp [hk])
 obtain ⟨u0, hu0, _⟩ | h' := aB t.kids 0
 rotate_left
 ·omega
 have hsum : tbulk u0 + 1 ≤ tbulk t := by
  have hb := bk t
  have hx := oS hu0
  omega
 obtain ⟨r0, e0, z0, y0⟩ := ih 0 u0 hu0 l (by first | omega | (simp only [List.length_append, List.length_cons, List.length_nil]; omega))
 try simp only [List.length_append, List.length_cons, List.length_nil] at z0
 refine ⟨r0, ?_, by first | omega | (simp only [List.length_append, List.length_cons, List.length_nil]; omega), fun hq => (y0 hq)⟩
 exact Fh (M + 2) (by rw [hk]; decide) (jf (M + 1) _ _ _ ⟨fun _ => ⟨u0, hu0, _, e0, rfl⟩, fun h => absurd hk h⟩)
theorem GO {t : Tree} (hk : t.kind = 19) (hs : shapeK t = true) (ht : tbulk t ≤ 1000000) (ih : ∀ (i : Nat) (u : Tree), t.kids[i]? = some u → Pok u) : Pok t := fun l hl => by
 have htp := bt t
 have htx := bY t
 have hn := eG hs
 have M := 0
 have hkn : t.kids.length = 3 := hn.2.2.2.1 hk
 obtain ⟨u0, hu0, _⟩ | h' := aB t.kids 0
 rotate_left
 ·omega
 obtain ⟨u1, hu1, _⟩ | h' := aB t.kids 1
 rotate_left
 ·omega
 obtain ⟨u2, hu2, _⟩ | h' := aB t.kids 2
 rotate_left
 ·omega
 have hsum : tbulk u0 + tbulk u1 + tbulk u2 + 1 ≤ tbulk t := by
  have hb := bk t
  have hx := DA hu0 hu1 hu2
  omega
 obtain ⟨s1, g1, b1⟩ := bc 0 ht
 have q1 : Qp l → Qp (l ++ [⟨s1, [105, 102]⟩]) := fun hq => by simp only [bG, bo]; exact ⟨hq, ⟨b1, by decide⟩, bC⟩
 obtain ⟨r0, e0, z0, y0⟩ := ih 0 u0 hu0 (l ++ [⟨s1, [105, 102]⟩]) (by first | omega | (simp only [List.length_append, List.length_cons, List.length_nil]; omega))
 try simp only [List.length_append, List.length_cons, List.length_nil] at z0
 obtain ⟨s2, g2, b2⟩ := bc 1 ht
 have q3 : Qp r0 → Qp (r0 ++ [⟨s2, [116, 104, 101, 110]⟩]) := fun hq => by simp only [bG, bo]; exact ⟨hq, ⟨b2, by decide⟩, bC⟩
 obtain ⟨r1, e1, z1, y1⟩ := ih 1 u1 hu1 (r0 ++ [⟨s2, [116, 104, 101, 110]⟩]) (by first | omega | (simp only [List.length_append, List.length_cons, List.length_nil]; omega))
 try simp only [List.length_append, List.length_cons, List.length_nil] at z1
 obtain ⟨s3, g3, b3⟩ := bc 2 ht
 have q5 : Qp r1 → Qp (r1 ++ [⟨s3, [101, 108, 115, 101]⟩]) := fun hq => by simp only [bG, bo]; exact ⟨hq, ⟨b3, by decide⟩, bC⟩
 obtain ⟨r2, e2, z2, y2⟩ := ih 2 u2 hu2 (r1 ++ [⟨s3, [101, 108, 115, 101]⟩]) (by first | omega | (simp only [List.length_append, List.length_cons, List.length_nil]; omega))
 try simp only [List.length_append, List.length_cons, List.length_nil] at z2
 refine ⟨r2, ?_, by first | omega | (simp only [List.length_append, List.length_cons, List.length_nil]; omega), fun hq => (y2 (q5 (y1 (q3 (y0 (q1 hq))))))⟩
 exact Eq (M + 2) (by rw [hk]; decide) (ji (M + 1) _ _ _ ⟨fun _ => nE (M) _ _ _ ⟨u0, hu0, _, g1, by simp; omega, _, e0, u1, hu1, _, g2, by simp; omega, _, e1, u2, hu2, _, g3, by simp; omega, _, e2, rfl⟩, fun h => absurd hk h⟩)
theorem GN {t : Tree} (hk : t.kind = 20) (hs : shapeK t = true) (ht : tbulk t ≤ 1000000) (ih : ∀ (i : Nat) (u : Tree), t.kids[i]? = some u → Pok u) : Pok t := fun l hl => by
 have htp := bt t
 have htx := bY t
 have hn := eG hs
 have M := 0
 have hkn : t.kids.length = 2 := hn.2.2.2.2 (by simp [hk])
 obtain ⟨u0, hu0, _⟩ | h' := aB t.kids 0
 rotate_left
 ·omega
 obtain ⟨u1, hu1, _⟩ | h' := aB t.kids 1
 rotate_left
 ·omega
 have hsum : tbulk u0 + tbulk u1 + 1 ≤ tbulk t := by
  have hb := bk t
  have hx := tE hu0 hu1
  omega
 obtain ⟨s1, g1, b1⟩ := bc 0 ht
 obtain ⟨s2, g2, b2⟩ := bc 1 ht
 obtain ⟨s3, g3, b3⟩ := bc 2 ht
 have q1 : Qp l → Qp (l ++ [⟨s1, [108, 101, 116]⟩, ⟨s2, t.text⟩, ⟨s3, [61]⟩]) := fun hq => by simp only [bG, bo]; exact ⟨hq, ⟨b1, by decide⟩, ⟨b2, by omega⟩, ⟨b3, by decide⟩, bC⟩
 obtain ⟨r0, e0, z0, y0⟩ := ih 0 u0 hu0 (l ++ [⟨s1, [108, 101, 116]⟩, ⟨s2, t.text⟩, ⟨s3, [61]⟩]) (by first | omega | (simp only [List.length_append, List.length_cons, List.length_nil]; omega))
 try simp only [List.length_append, List.length_cons, List.length_nil] at z0
 obtain ⟨s4, g4, b4⟩ := bc 3 ht
 have q3 : Qp r0 → Qp (r0 ++ [⟨s4, [105, 110]⟩]) := fun hq => by simp only [bG, bo]; exact ⟨hq, ⟨b4, by decide⟩, bC⟩
 obtain ⟨r1, e1, z1, y1⟩ := ih 1 u1 hu1 (r0 ++ [⟨s4, [105, 110]⟩]) (by first | omega | (simp only [List.length_append, List.length_cons, List.length_nil]; omega))
 try simp only [List.length_append, List.length_cons, List.length_nil] at z1
 refine ⟨r1, ?_, by first | omega | (simp only [List.length_append, List.length_cons, List.length_nil]; omega), fun hq => (y1 (q3 (y0 (q1 hq))))⟩
 exact EY (M + 2) (by rw [hk]; decide) (jc (M + 1) _ _ _ ⟨fun _ => nq (M) _ _ _ ⟨_, g1, _, g2, _, g3, by simp; omega, u0, hu0, _, e0, _, g4, by simp; omega, u1, hu1, _, e1, rfl⟩, fun h => absurd hk h⟩)
theorem GK {t : Tree} (hk : t.kind = 21) (hs : shapeK t = true) (ht : tbulk t ≤ 1000000) (ih : ∀ (i : Nat) (u : Tree), t.kids[i]? = some u → Pok u) : Pok t := fun l hl => by
 have htp := bt t
 have htx := bY t
 have hn := eG hs
 have M := 0
 have hkn : t.kids.length = 2 := hn.2.2.2.2 (by simp [hk])
 obtain ⟨u0, hu0, _⟩ | h' := aB t.kids 0
 rotate_left
 ·omega
 obtain ⟨u1, hu1, _⟩ | h' := aB t.kids 1
 rotate_left
 ·omega
 have hsum : tbulk u0 + tbulk u1 + 1 ≤ tbulk t := by
  have hb := bk t
  have hx := tE hu0 hu1
  omega
 obtain ⟨r0, e0, z0, y0⟩ := ih 0 u0 hu0 l (by first | omega | (simp only [List.length_append, List.length_cons, List.length_nil]; omega))
 try simp only [List.length_append, List.length_cons, List.length_nil] at z0
 obtain ⟨s1, g1, b1⟩ := bc 0 ht
 have q2 : Qp r0 → Qp (r0 ++ [⟨s1, t.text⟩]) := fun hq => by simp only [bG, bo]; exact ⟨hq, ⟨b1, by omega⟩, bC⟩
 obtain ⟨r1, e1, z1, y1⟩ := ih 1 u1 hu1 (r0 ++ [⟨s1, t.text⟩]) (by first | omega | (simp only [List.length_append, List.length_cons, List.length_nil]; omega))
 try simp only [List.length_append, List.length_cons, List.length_nil] at z1
 refine ⟨r1, ?_, by first | omega | (simp only [List.length_append, List.length_cons, List.length_nil]; omega), fun hq => (y1 (q2 (y0 hq)))⟩
 exact Fl (M + 2) (by rw [hk]; decide) (ja (M + 1) _ _ _ ⟨fun _ => nC (M) _ _ _ ⟨u0, hu0, _, e0, _, g1, by simp; omega, u1, hu1, _, e1, rfl⟩, fun h => absurd hk h⟩)
theorem GW {t : Tree} (hk : t.kind = 22) (hs : shapeK t = true) (ht : tbulk t ≤ 1000000) (ih : ∀ (i : Nat) (u : Tree), t.kids[i]? = some u → Pok u) : Pok t := fun l hl => by
 have htp := bt t
 have htx := bY t
 have hn := eG hs
 have M := 0
 have hkn : t.kids.length = 1 := hn.2.2.1 (by simp [hk])
 obtain ⟨u0, hu0, _⟩ | h' := aB t.kids 0
 rotate_left
 ·omega
 have hsum : tbulk u0 + 1 ≤ tbulk t := by
  have hb := bk t
  have hx := oS hu0
  omega
 obtain ⟨s1, g1, b1⟩ := bc 0 ht
 have q1 : Qp l → Qp (l ++ [⟨s1, [40]⟩]) := fun hq => by simp only [bG, bo]; exact ⟨hq, ⟨b1, by decide⟩, bC⟩
 obtain ⟨r0, e0, z0, y0⟩ := ih 0 u0 hu0 (l ++ [⟨s1, [40]⟩]) (by first | omega | (simp only [List.length_append, List.length_cons, List.length_nil]; omega))
 try simp only [List.length_append, List.length_cons, List.length_nil] at z0
 obtain ⟨s2, g2, b2⟩ := bc 1 ht
 have q3 : Qp r0 → Qp (r0 ++ [⟨s2, [41]⟩]) := fun hq => by simp only [bG, bo]; exact ⟨hq, ⟨b2, by decide⟩, bC⟩
 refine ⟨(r0 ++ [⟨s2, [41]⟩]), ?_, by first | omega | (simp only [List.length_append, List.length_cons, List.length_nil]; omega), fun hq => (q3 (y0 (q1 hq)))⟩
 exact Ej (M + 2) (by rw [hk]; decide) (jg (M + 1) _ _ _ ⟨fun _ => nr (M) _ _ _ ⟨_, g1, by simp; omega, u0, hu0, _, e0, _, g2, by simp; omega, rfl⟩, fun h => absurd hk h⟩)
theorem FB {t : Tree} (hn : ∀ c : Int, c ∈ [(1 : Int), 2, 3, 4, 5, 6, 7, 13, 14, 15, 8, 16, 17, 18, 19, 20, 21, 22] → t.kind ≠ c) (ht : tbulk t ≤ 1000000) : Pok t := fun l hl => by
 obtain ⟨s1, g1, b1⟩ := bc 0 ht
 have htp := bt t
 have htx := bY t
 have M := 0
 refine ⟨l ++ [⟨s1, t.text⟩], ?_, by simp; omega, fun hq => by simp only [bG, bo]; exact ⟨hq, ⟨b1, by omega⟩, bC⟩⟩
 exact Ej (M + 2) (fun e => hn t.kind (by simp only [List.mem_cons, List.not_mem_nil, or_false] at e ⊢; omega) rfl) (jg (M + 1) _ _ _ ⟨fun h => absurd h (hn 22 (by decide)), fun _ => ⟨_, g1, by simp; omega, rfl⟩⟩)
theorem yZ {t : Tree} (ht : tbulk t ≤ 1000000) (ih : ∀ (i : Nat) (u : Tree), t.kids[i]? = some u → Pok u) (n comma : Nat) (hn : n ≤ t.kids.length) (hc : comma ≤ 10) : ∀ l, l.length + 8 * kbulk (t.kids.take n) ≤ 899999999 → ∃ r, dr l t 0 (n : Int) (comma : Int) r ∧ r.length ≤ l.length + 8 * kbulk (t.kids.take n) ∧ (Qp l → Qp r) := by
 have hk := cj t
 have loop : ∀ k i l, n - i ≤ k → i ≤ n → l.length + 8 * kbulk ((t.kids.take n).drop i) ≤ 899999999 → ∃ r, dQ (k + 1) t 0 (n : Int) (comma : Int) l (i : Int) r ∧ r.length ≤ l.length + 8 * kbulk ((t.kids.take n).drop i) ∧ (Qp l → Qp r) := fun k => by
  induction k with
  | zero =>
   intro i l hi hle hl
   exact ⟨l, ff 0 _ _ _ _ _ _ _ ⟨fun h => by omega, fun _ => rfl⟩, by omega, fun h => h⟩
  | succ k ihk =>
   intro i l hi hle hl
   by_cases hin : i < n
   ·obtain ⟨u, hu, hul⟩ | h' := aB t.kids i
    ·have hu' : (t.kids.take n)[i]? = some u := by rw [List.getElem?_take, if_pos hin]; exact hu
     have hd := bz hu'
     rw [hd, kbulk] at hl ⊢
     have hup := bt u
     by_cases h0 : 0 < i
     ·obtain ⟨s, g, b⟩ := bc (t := t) (comma + i - 1) ht
      have g' : ai t ((((comma : Int) + (i : Int)) - 0) - 1) s := by rw [show (((comma : Int) + (i : Int)) - 0) - 1 = ((comma + i - 1 : Nat) : Int) by omega]; exact g
      obtain ⟨r, e, z, y⟩ := ih i u hu (l ++ [⟨s, [44]⟩]) (by simp; omega)
      simp only [List.length_append, List.length_cons, List.length_nil] at z
      obtain ⟨r2, e2, z2, y2⟩ := ihk (i + 1) r (by omega) (by omega) (by omega)
      refine ⟨r2, ff (k + 1) _ _ _ _ _ _ _ ⟨fun _ => ⟨fun _ => ⟨by omega, by omega, by omega, s, g', by simp; omega, i, rfl, u, hu, r, e, by omega, ?_⟩, fun h => by omega⟩, fun h => by omega⟩, by omega, fun hq => y2 (y (by simp only [bG, bo]; exact ⟨hq, ⟨b, by decide⟩, bC⟩))⟩
      exact e2
     ·obtain ⟨r, e, z, y⟩ := ih i u hu l (by omega)
      obtain ⟨r2, e2, z2, y2⟩ := ihk (i + 1) r (by omega) (by omega) (by omega)
      refine ⟨r2, ff (k + 1) _ _ _ _ _ _ _ ⟨fun _ => ⟨fun h => by omega, fun _ => ⟨i, rfl, u, hu, r, e, by omega, e2⟩⟩, fun h => by omega⟩, by omega, fun hq => y2 (y hq)⟩
    ·omega
   ·exact ⟨l, ff (k + 1) _ _ _ _ _ _ _ ⟨fun h => by omega, fun _ => rfl⟩, by omega, fun h => h⟩
 intro l hl
 have h1 : kbulk (t.kids.take n) ≤ kbulk t.kids := by
  have : ∀ (l : List Tree) n, kbulk (l.take n) ≤ kbulk l := fun l => by
   induction l with
   | nil => intro n; simp
   |cons a r ih => intro n; cases n with
    | zero => simp [kbulk]
    | succ n => have := ih n; simp only [List.take_succ_cons, kbulk]; omega
  exact this _ _
 have h2 := bk t
 obtain ⟨r, e, z, y⟩ := loop n 0 l (by omega) (by omega) (by simpa using hl)
 exact ⟨r, qM (n + 1) _ _ _ _ _ _ e, by simpa using z, y⟩
theorem rQ (l : List Tree) (n : Nat) : kbulk (l.take n) + kbulk (l.drop n) = kbulk l := by rw [← dS, List.take_append_drop]
theorem GH {t : Tree} (hk : t.kind = 16) (hs : shapeK t = true) (ht : tbulk t ≤ 1000000) (ih : ∀ (i : Nat) (u : Tree), t.kids[i]? = some u → Pok u) : Pok t := fun l hl => by
 have hb := bk t
 have htx := bY t
 have M := 0
 obtain ⟨s1, g1, b1⟩ := bc 0 ht
 obtain ⟨s2, g2, b2⟩ := bc 1 ht
 obtain ⟨r, e, z, y⟩ := yZ ht ih t.kids.length 3 (Nat.le_refl _) (by decide) (l ++ [⟨s1, t.text⟩, ⟨s2, [40]⟩]) (by simp only [List.length_append, List.length_cons, List.length_nil, List.take_length]; omega)
 simp only [List.length_append, List.length_cons, List.length_nil, List.take_length] at z
 obtain ⟨s9, g9, b9⟩ := bc 2 ht
 refine ⟨r ++ [⟨s9, [41]⟩], ?_, by simp only [List.length_append, List.length_cons, List.length_nil]; omega, fun hq => by
  have := y (by simp only [bG, bo]; exact ⟨hq, ⟨b1, by omega⟩, ⟨b2, by decide⟩, bC⟩)
  simp only [bG, bo]; exact ⟨this, ⟨b9, by decide⟩, bC⟩⟩
 exact EJ (M + 2) (by rw [hk]; decide) (iY (M + 1) _ _ _ ⟨fun _ => nt (M) _ _ _ ⟨_, g1, _, g2, by simp only [List.length_append, List.length_cons, List.length_nil]; omega, _, e, _, g9, by simp only [List.length_append, List.length_cons, List.length_nil]; omega, rfl⟩, fun h => absurd hk h⟩)
theorem GY {t : Tree} (hk : t.kind = 18) (hs : shapeK t = true) (ht : tbulk t ≤ 1000000) (ih : ∀ (i : Nat) (u : Tree), t.kids[i]? = some u → Pok u) : Pok t := fun l hl => by
 have hb := bk t
 have htx := bY t
 have M := 0
 obtain ⟨s1, g1, b1⟩ := bc 0 ht
 obtain ⟨r, e, z, y⟩ := yZ ht ih t.kids.length 2 (Nat.le_refl _) (by decide) (l ++ [⟨s1, [91]⟩]) (by simp only [List.length_append, List.length_cons, List.length_nil, List.take_length]; omega)
 simp only [List.length_append, List.length_cons, List.length_nil, List.take_length] at z
 obtain ⟨s9, g9, b9⟩ := bc 1 ht
 refine ⟨r ++ [⟨s9, [93]⟩], ?_, by simp only [List.length_append, List.length_cons, List.length_nil]; omega, fun hq => by
  have := y (by simp only [bG, bo]; exact ⟨hq, ⟨b1, by decide⟩, bC⟩)
  simp only [bG, bo]; exact ⟨this, ⟨b9, by decide⟩, bC⟩⟩
 exact En (M + 2) (by rw [hk]; decide) (iU (M + 1) _ _ _ ⟨fun _ => nz (M) _ _ _ ⟨_, g1, by simp only [List.length_append, List.length_cons, List.length_nil]; omega, _, e, _, g9, by simp only [List.length_append, List.length_cons, List.length_nil]; omega, rfl⟩, fun h => absurd hk h⟩)
theorem p_2 {t : Tree} (hk : t.kind = 2) (hs : shapeK t = true) (ht : tbulk t ≤ 1000000) (ih : ∀ (i : Nat) (u : Tree), t.kids[i]? = some u → Pok u) : Pok t := fun l hl => by
 have hb := bk t
 have htx := bY t
 have hn := (eG hs).1 hk
 have hkl := cj t
 have M := 0
 obtain ⟨s1, g1, b1⟩ := bc 0 ht
 obtain ⟨s2, g2, b2⟩ := bc 1 ht
 obtain ⟨s3, g3, b3⟩ := bc 2 ht
 obtain ⟨s4, g4, b4⟩ := bc 3 ht
 obtain ⟨s5, g5, b5⟩ := bc 4 ht
 obtain ⟨s6, g6, b6⟩ := bc 5 ht
 obtain ⟨r, e, z, y⟩ := yZ ht ih (t.kids.length - 2) 6 (by omega) (by decide) (l ++ [⟨s1, [100, 101, 102]⟩, ⟨s2, t.text⟩, ⟨s3, [40]⟩]) (by have := rQ t.kids (t.kids.length - 2); simp only [List.length_append, List.length_cons, List.length_nil]; omega)
 simp only [List.length_append, List.length_cons, List.length_nil] at z
 obtain ⟨u, hu, _⟩ | h' := aB t.kids (t.kids.length - 2)
 rotate_left
 ·omega
 obtain ⟨v, hv, _⟩ | h' := aB t.kids (t.kids.length - 1)
 rotate_left
 ·omega
 have hsp := rQ t.kids (t.kids.length - 2)
 have hd1 := bz hu
 have hd2 : t.kids.drop (t.kids.length - 2 + 1) = v :: t.kids.drop (t.kids.length - 1 + 1) := by rw [show t.kids.length - 2 + 1 = t.kids.length - 1 by omega]; exact bz hv
 rw [hd1, kbulk, hd2, kbulk] at hsp
 have hup := bt u
 have hvp := bt v
 have e' : dr (l ++ [⟨s1, [100, 101, 102]⟩, ⟨s2, t.text⟩, ⟨s3, [40]⟩]) t 0 (((t.kids.length : Nat) : Int) - 2) 6 r := by rw [show ((t.kids.length : Nat) : Int) - 2 = ((t.kids.length - 2 : Nat) : Int) by omega]; exact e
 obtain ⟨r1, e1, z1, y1⟩ := ih _ u hu (r ++ [⟨s4, [41]⟩, ⟨s5, [58]⟩]) (by simp only [List.length_append, List.length_cons, List.length_nil]; omega)
 simp only [List.length_append, List.length_cons, List.length_nil] at z1
 obtain ⟨r2, e2, z2, y2⟩ := ih _ v hv (r1 ++ [⟨s6, [61]⟩]) (by simp only [List.length_append, List.length_cons, List.length_nil]; omega)
 simp only [List.length_append, List.length_cons, List.length_nil] at z2
 refine ⟨r2, ?_, by omega, fun hq => ?_⟩
 ·exact dn1 (M + 2) (by rw [hk]; decide) (jw (M + 1) _ _ _ ⟨fun _ => nZ (M) _ _ _ ⟨_, g1, _, g2, _, g3, by simp only [List.length_append, List.length_cons, List.length_nil]; omega, by omega, r, e', _, g4, _, g5, by simp only [List.length_append, List.length_cons, List.length_nil]; omega, by omega, t.kids.length - 2, by omega, u, hu, r1, e1, _, g6, by simp only [List.length_append, List.length_cons, List.length_nil]; omega, by omega, t.kids.length - 1, by omega, v, hv, r2, e2, rfl⟩, fun h => absurd hk h⟩)
 ·have q1 := y (by simp only [bG, bo]; exact ⟨hq, ⟨b1, by decide⟩, ⟨b2, by omega⟩, ⟨b3, by decide⟩, bC⟩)
  have q2 := y1 (by simp only [bG, bo]; exact ⟨q1, ⟨b4, by decide⟩, ⟨b5, by decide⟩, bC⟩)
  exact y2 (by simp only [bG, bo]; exact ⟨q2, ⟨b6, by decide⟩, bC⟩)
theorem p_1 {t : Tree} (hk : t.kind = 1) (hs : shapeK t = true) (ht : tbulk t ≤ 1000000) (ih : ∀ (i : Nat) (u : Tree), t.kids[i]? = some u → Pok u) : Pok t := fun l hl => by
 have hb := bk t
 have htx := bY t
 have hkl := cj t
 obtain ⟨s1, g1, b1⟩ := bc 0 ht
 obtain ⟨s2, g2, b2⟩ := bc 1 ht
 obtain ⟨s3, g3, b3⟩ := bc 2 ht
 have loop : ∀ k i l, t.kids.length - i ≤ k → l.length + 8 * kbulk (t.kids.drop i) ≤ 899999996 → ∃ r, dc (k + 1) t l i r ∧ r.length ≤ l.length + 8 * kbulk (t.kids.drop i) + 1 ∧ (Qp l → Qp r) := fun k => by
  have last : ∀ k i l, ¬ i < t.kids.length → l.length ≤ 899999996 → ∃ r, dc (k + 1) t l i r ∧ r.length ≤ l.length + 8 * kbulk (t.kids.drop i) + 1 ∧ (Qp l → Qp r) := fun k i l hi hl => by
   refine ⟨l ++ [⟨s3, []⟩], jJ k _ _ _ _ ⟨fun h => absurd h hi, fun _ => ⟨s3, g3, by simp only [List.length_append, List.length_cons, List.length_nil]; omega, rfl⟩⟩, by simp only [List.length_append, List.length_cons, List.length_nil]; omega, fun hq => by simp only [bG, bo]; exact ⟨hq, ⟨b3, by decide⟩, bC⟩⟩
  induction k with
  | zero => intro i l hi hl; exact last 0 i l (by omega) (by omega)
  | succ k ihk =>
   intro i l hi hl
   obtain ⟨u, hu, hul⟩ | h' := aB t.kids i
   ·have hd := bz hu
    rw [hd, kbulk] at hl ⊢
    obtain ⟨r, e, z, y⟩ := ih i u hu l (by omega)
    obtain ⟨r2, e2, z2, y2⟩ := ihk (i + 1) r (by omega) (by omega)
    exact ⟨r2, jJ (k + 1) _ _ _ _ ⟨fun _ => ⟨u, hu, r, e, by omega, e2⟩, fun h => absurd hul h⟩, by omega, fun hq => y2 (y hq)⟩
   ·exact last (k + 1) i l h' (by omega)
 obtain ⟨r, e, z, y⟩ := loop t.kids.length 0 (l ++ [⟨s1, [109, 111, 100, 117, 108, 101]⟩, ⟨s2, t.text⟩]) (by omega) (by simp only [List.length_append, List.length_cons, List.length_nil, List.drop_zero]; omega)
 simp only [List.length_append, List.length_cons, List.length_nil, List.drop_zero] at z
 refine ⟨r, ko (t.kids.length + 2) _ _ _ ⟨fun _ => oa (t.kids.length + 1) _ _ _ ⟨_, g1, _, g2, by simp only [List.length_append, List.length_cons, List.length_nil]; omega, e⟩, fun h => absurd hk h⟩, by omega, fun hq => y (by simp only [bG, bo]; exact ⟨hq, ⟨b1, by decide⟩, ⟨b2, by omega⟩, bC⟩)⟩
theorem Cu : ∀ t : Tree, tbulk t ≤ 1000000 → shapeK t = true → Pok t := dJ fun t ih ht hs => by
 have ih' : ∀ (i : Nat) (u : Tree), t.kids[i]? = some u → Pok u := fun i u hu => ih i u hu (by have := bB hu; omega) (ut hs hu).1
 by_cases h : ∃ c ∈ [(1 : Int), 2, 3, 4, 5, 6, 7, 13, 14, 15, 8, 16, 17, 18, 19, 20, 21, 22], t.kind = c
 ·obtain ⟨c, hc, e⟩ := h
  simp only [List.mem_cons, List.not_mem_nil, or_false] at hc
  rcases hc with rfl | rfl | rfl | rfl | rfl | rfl | rfl | rfl | rfl | rfl | rfl | rfl | rfl | rfl | rfl | rfl | rfl | rfl
  ·exact p_1 e hs ht ih'
  ·exact p_2 e hs ht ih'
  ·exact p_3 e hs ht ih'
  ·exact p_4 e hs ht ih'
  ·exact p_5 e ht
  ·exact p_6 e ht
  ·exact p_7 e ht
  ·exact GL e ht
  ·exact GR e ht
  ·exact Hd e ht
  ·exact p_8 e hs ht ih'
  ·exact GH e hs ht ih'
  ·exact GP e hs ht ih'
  ·exact GY e hs ht ih'
  ·exact GO e hs ht ih'
  ·exact GN e hs ht ih'
  ·exact GK e hs ht ih'
  ·exact GW e hs ht ih'
 ·exact FB (fun c hc e => h ⟨c, hc, e⟩) ht
theorem Bp : ∀ t : Tree, tbulk t ≤ 1000000 → ∃ b, eY t b := dJ fun t ih ht => by
 have hk := cj t
 have hl := uG t
 have kids : ∀ k i, t.kids.length - i ≤ k → ∃ b, eF (k + 1) t i b := fun k => by
  induction k with
  | zero => intro i hi; exact ⟨_, dX 0 _ _ _ ⟨fun h => by omega, fun _ => rfl⟩⟩
  | succ k ihk =>
   intro i hi
   obtain ⟨u, hu, hul⟩ | h' := aB t.kids i
   ·have := bB hu
    obtain ⟨b, hb⟩ := ih i u hu (by omega)
    cases b with
    | false => exact ⟨false, dX (k + 1) _ _ _ ⟨fun _ => ⟨u, hu, _, hb, fun _ => rfl, fun h => (by cases h)⟩, fun h => absurd hul h⟩⟩
    | true =>
     obtain ⟨b2, hb2⟩ := ihk (i + 1) (by omega)
     exact ⟨b2, dX (k + 1) _ _ _ ⟨fun _ => ⟨u, hu, _, hb, fun h => (by cases h), fun _ => hb2⟩, fun h => absurd hul h⟩⟩
   ·exact ⟨true, dX (k + 1) _ _ _ ⟨fun h => absurd h h', fun _ => rfl⟩⟩
 have lead : ∀ k i, t.leads.length - i ≤ k → ∃ b M, cq M t i b := fun k => by
  have last : ∀ i, ¬ i < t.leads.length → ∃ b M, cq M t i b := fun i hi => by
   obtain ⟨b, hb⟩ := kids t.kids.length 0 (by omega)
   exact ⟨b, _, df _ _ _ _ ⟨fun h => absurd h hi, fun _ => hb⟩⟩
  induction k with
  | zero => intro i hi; exact last i (by omega)
  | succ k ihk =>
   intro i hi
   obtain ⟨s, hs, hsl⟩ | h' := aB t.leads i
   ·have := sj hs
    have := bk t
    obtain ⟨b2, M, hb2⟩ := ihk (i + 1) (by omega)
    by_cases h1 : t.kind = 1
    ·have ht1 := ug s (((i : Nat) : Int) == 2) (by omega)
     cases hb : fu false s (((i : Nat) : Int) == 2) with
     | false => rw [hb] at ht1; exact ⟨false, 1, df 0 _ _ _ ⟨fun _ => ⟨s, hs, fun _ => ⟨_, ht1, fun _ => rfl, fun h => (by cases h)⟩, fun h => absurd h1 h⟩, fun h => absurd hsl h⟩⟩
     | true => rw [hb] at ht1; exact ⟨b2, M + 1, df M _ _ _ ⟨fun _ => ⟨s, hs, fun _ => ⟨_, ht1, fun h => (by cases h), fun _ => hb2⟩, fun h => absurd h1 h⟩, fun h => absurd hsl h⟩⟩
    ·have ht1 := ug s false (by omega)
     cases hb : fu false s false with
     | false => rw [hb] at ht1; exact ⟨false, 1, df 0 _ _ _ ⟨fun _ => ⟨s, hs, fun h => absurd h h1, fun _ => ⟨_, ht1, fun _ => rfl, fun h => (by cases h)⟩⟩, fun h => absurd hsl h⟩⟩
     | true => rw [hb] at ht1; exact ⟨b2, M + 1, df M _ _ _ ⟨fun _ => ⟨s, hs, fun h => absurd h h1, fun _ => ⟨_, ht1, fun h => (by cases h), fun _ => hb2⟩⟩, fun h => absurd hsl h⟩⟩
   ·exact last i h'
 by_cases h : ((t.leads.length : Nat) : Int) = dj t.kind t.kids.length
 ·obtain ⟨b, M, hb⟩ := lead t.leads.length 0 (by omega)
  exact ⟨b, lb M _ _ ⟨_, pN (by omega) (by omega), fun h' => absurd h h', fun _ => hb⟩⟩
 ·exact ⟨false, lb 0 _ _ ⟨_, pN (by omega) (by omega), fun _ => rfl, fun h' => absurd h' h⟩⟩
theorem AG : ∀ t : Tree, tbulk t ≤ 1000000 → ∃ b, eo t b := dJ fun t ih ht => by
 have hk := cj t
 have kids : ∀ k i, t.kids.length - i ≤ k → ∃ b, ax (k + 1) t i b := fun k => by
  induction k with
  | zero => intro i hi; exact ⟨_, dM 0 _ _ _ ⟨fun h => by omega, fun _ => rfl⟩⟩
  | succ k ihk =>
   intro i hi
   obtain ⟨u, hu, hul⟩ | h' := aB t.kids i
   ·have := bB hu
    obtain ⟨b, hb⟩ := ih i u hu (by omega)
    cases b with
    | false => exact ⟨false, dM (k + 1) _ _ _ ⟨fun _ => ⟨u, hu, _, hb, fun _ => rfl, fun h => (by cases h)⟩, fun h => absurd hul h⟩⟩
    | true =>
     obtain ⟨b2, hb2⟩ := ihk (i + 1) (by omega)
     exact ⟨b2, dM (k + 1) _ _ _ ⟨fun _ => ⟨u, hu, _, hb, fun h => (by cases h), fun _ => ⟨by omega, hb2⟩⟩, fun h => absurd hul h⟩⟩
   ·exact ⟨true, dM (k + 1) _ _ _ ⟨fun h => absurd h h', fun _ => rfl⟩⟩
 obtain ⟨b, hb⟩ := kids t.kids.length 0 (by omega)
 by_cases hall : (t.kind = 1 ∧ (40 : Int) < t.kids.length) ∨ (t.kind = 2 ∧ (10 : Int) < t.kids.length) ∨ (t.kind = 16 ∧ (8 : Int) < t.kids.length) ∨ (t.kind = 18 ∧ (16 : Int) < t.kids.length)
 ·refine ⟨false, kn (t.kids.length + 1) _ _ ?_⟩
  repeat' (refine And.intro (fun _ => ?_) (fun _ => ?_))
  all_goals first | rfl | (exfalso; omega)
 ·refine ⟨b, kn (t.kids.length + 1) _ _ ?_⟩
  repeat' (refine And.intro (fun _ => ?_) (fun _ => ?_))
  all_goals first | exact hb | (exfalso; omega)
theorem Bg : ∀ t : Tree, tbulk t ≤ 1000000 → ∃ n, fh t n ∧ 0 ≤ n ∧ n ≤ tbulk t := dJ fun t ih ht => by
 have hk := cj t
 have kids : ∀ k i (z : Int), t.kids.length - i ≤ k → 0 ≤ z → z < tbulk t → ∃ n, ey (k + 1) t z i n ∧ 0 ≤ n ∧ n ≤ tbulk t := fun k => by
  induction k with
  | zero => intro i z hi h0 hz; exact ⟨_, gI 0 _ _ _ _ ⟨fun h => by omega, fun _ => ⟨by omega, rfl⟩⟩, by omega, by omega⟩
  | succ k ihk =>
   intro i z hi h0 hz
   obtain ⟨u, hu, hul⟩ | h' := aB t.kids i
   ·have := bB hu
    obtain ⟨n, hn, n0, n1⟩ := ih i u hu (by omega)
    obtain ⟨r, hr, r0, r1⟩ := ihk (i + 1) (max z n) (by omega) (by omega) (by omega)
    exact ⟨r, gI (k + 1) _ _ _ _ ⟨fun _ => ⟨u, hu, _, hn, hr⟩, fun h => absurd hul h⟩, r0, r1⟩
   ·exact ⟨_, gI (k + 1) _ _ _ _ ⟨fun h => absurd h h', fun _ => ⟨by omega, rfl⟩⟩, by omega, by omega⟩
 obtain ⟨n, hn, n0, n1⟩ := kids t.kids.length 0 0 (by omega) (by omega) (by have := bt t; omega)
 exact ⟨n, pj _ _ _ hn, n0, n1⟩
theorem qH (t : Tree) (ht : tbulk t ≤ 1000000) : ∃ b, dx t b ∧ (b = true → shapeK t = true) := by
 have h1 := uv t (by omega)
 cases hs : shapeK t with
 | false => rw [hs] at h1; exact ⟨false, iG 0 _ _ ⟨_, h1, fun h => by (cases h), fun _ => rfl⟩, fun h => (by cases h)⟩
 | true =>
  rw [hs] at h1
  obtain ⟨b, hb⟩ := Bp t ht
  exact ⟨b, iG 0 _ _ ⟨_, h1, fun _ => ⟨_, hb, rfl⟩, fun h => (by cases h)⟩, fun _ => rfl⟩
theorem BR (t : Tree) (ht : tbulk t ≤ 1000000) : ∃ s, ie t s := by
 obtain ⟨b, hb, hs⟩ := qH t ht
 cases b with
 | false => exact ⟨[], lv 0 _ _ ⟨_, hb, fun _ => rfl, fun h => (by cases h)⟩⟩
 | true =>
  obtain ⟨l, e, z, q⟩ := Cu t ht (hs rfl) [] (by simp; omega)
  have hq := q bC
  simp only [List.length_nil] at z
  have loop : ∀ k i (s : List UInt8), l.length - i ≤ k → s.length ≤ i * 2000020 → i ≤ l.length → ∃ r, bI (k + 1) l s i r := fun k => by
   induction k with
   | zero => intro i s hi hsl hil; exact ⟨_, ce 0 _ _ _ _ ⟨fun h => by omega, fun _ => rfl⟩⟩
   | succ k ihk =>
    intro i s hi hsl hil
    obtain ⟨x, hx, hxl⟩ | h' := aB l i
    ·obtain ⟨hx1, hx2⟩ := hq x (List.mem_of_getElem? hx)
     have hmul : (i + 1) * 2000020 = i * 2000020 + 2000020 := Nat.succ_mul _ _
     obtain ⟨r1, hr1⟩ := ihk (i + 1) (((s ++ [32]) ++ x.Lead) ++ x.Text) (by omega) (by simp only [List.length_append, List.length_cons, List.length_nil]; omega) (by omega)
     obtain ⟨r2, hr2⟩ := ihk (i + 1) ((s ++ x.Lead) ++ x.Text) (by omega) (by simp only [List.length_append]; omega) (by omega)
     have plain : s.length + x.Lead.length ≤ 9223372036854775807 ∧ ∃ y : Pce, l[i]? = some y ∧ (s ++ x.Lead).length + y.Text.length ≤ 9223372036854775807 ∧ bI (k + 1) l ((s ++ x.Lead) ++ y.Text) (i + 1) r2 := ⟨by omega, x, hx, by simp only [List.length_append]; omega, hr2⟩
     by_cases h0 : (0 : Int) < ((i : Nat) : Int)
     ·by_cases hle : x.Lead = []
      ·obtain ⟨y, hy, hyl⟩ | h' := aB l (i - 1)
       rotate_left
       ·omega
       obtain ⟨hy1, hy2⟩ := hq y (List.mem_of_getElem? hy)
       have hf := BV y.Text x.Text (by omega) (by omega)
       cases hb2 : fusesT y.Text x.Text with
       | true =>
        rw [hb2] at hf
        exact ⟨r1, ce (k + 1) _ _ _ _ ⟨fun _ => ⟨fun _ => ⟨x, hx, fun _ => ⟨by omega, i - 1, by omega, y, hy, x, hx, _, hf, fun _ => ⟨by simp only [List.length_cons, List.length_nil]; omega, x, hx, by simp only [List.length_append, List.length_cons, List.length_nil]; omega, x, hx, by simp only [List.length_append, List.length_cons, List.length_nil]; omega, hr1⟩, fun h => by (cases h)⟩, fun h => absurd hle h⟩, fun h => absurd h0 h⟩, fun h => absurd hxl h⟩⟩
       | false =>
        rw [hb2] at hf
        exact ⟨r2, ce (k + 1) _ _ _ _ ⟨fun _ => ⟨fun _ => ⟨x, hx, fun _ => ⟨by omega, i - 1, by omega, y, hy, x, hx, _, hf, fun h => by (cases h), fun _ => ⟨x, hx, plain⟩⟩, fun h => absurd hle h⟩, fun h => absurd h0 h⟩, fun h => absurd hxl h⟩⟩
      ·exact ⟨r2, ce (k + 1) _ _ _ _ ⟨fun _ => ⟨fun _ => ⟨x, hx, fun h => absurd h hle, fun _ => ⟨x, hx, plain⟩⟩, fun h => absurd h0 h⟩, fun h => absurd hxl h⟩⟩
     ·exact ⟨r2, ce (k + 1) _ _ _ _ ⟨fun _ => ⟨fun h => absurd h h0, fun _ => ⟨x, hx, plain⟩⟩, fun h => absurd hxl h⟩⟩
    ·exact ⟨s, ce (k + 1) _ _ _ _ ⟨fun h => absurd h h', fun _ => rfl⟩⟩
  obtain ⟨r, hr⟩ := loop l.length 0 [] (by omega) (by simp) (by omega)
  exact ⟨r, lv (l.length + 1) _ _ ⟨_, hb, fun h => by (cases h), fun _ => ⟨l, oN 0 _ _ ⟨_, e, rfl⟩, hr⟩⟩⟩
theorem Cs (t : Tree) (ht : tbulk t ≤ 1000000) : ∃ b, dE t b ∧ (b = true → shapeK t = true) := by
 obtain ⟨b, hb, hsh⟩ := qH t ht
 cases b with
 | false => exact ⟨false, ep 0 _ _ ⟨_, hb, fun h => by (cases h), fun _ => rfl⟩, fun h => (by cases h)⟩
 | true =>
  obtain ⟨b2, hb2⟩ := AG t ht
  cases b2 with
  | false => exact ⟨false, ep 0 _ _ ⟨_, hb, fun _ => ⟨_, hb2, fun h => by (cases h), fun _ => rfl⟩, fun h => (by cases h)⟩, fun h => (by cases h)⟩
  | true =>
   obtain ⟨n, hn, _, _⟩ := Bg t ht
   obtain ⟨s, hs⟩ := BR t ht
   by_cases h40 : n ≤ 40
   ·exact ⟨_, ep 0 _ _ ⟨_, hb, fun _ => ⟨_, hb2, fun _ => ⟨n, hn, fun _ => ⟨s, hs, rfl⟩, fun h => absurd h40 h⟩, fun h => (by cases h)⟩, fun h => (by cases h)⟩, fun _ => hsh rfl⟩
   ·exact ⟨false, ep 0 _ _ ⟨_, hb, fun _ => ⟨_, hb2, fun _ => ⟨n, hn, fun h => absurd h h40, fun _ => rfl⟩, fun h => (by cases h)⟩, fun h => (by cases h)⟩, fun h => (by cases h)⟩
end Go.Proofs.YthnohcipianijaaGreatDoor
namespace Go.Proofs.YthnohcipianijaaGreatDoor
open Go.RowKit Lx Sx
set_option maxHeartbeats 1000000
set_option maxRecDepth 100000
theorem FS {L : List Int} {a : Int} (hd : Dc L a) : Gt L (fun t a' => jW L a t L a') 500 := by
 obtain ⟨r, a1, h1, h2, h3⟩ := dT hd (n := 5) (by omega) (by omega)
 by_cases hr : r = 0
 ·obtain ⟨s, a2, g1, g2, g3⟩ := gG h3 [[84], [85]] (by decide) (by decide)
  have hs := fB g2 (by decide)
  obtain ⟨t, a3, q1, q2, q3⟩ := yC 2 g3 (by omega)
  exact ⟨_, a3, mG 0 _ _ _ _ _ ⟨_, _, _, h1, fun _ => ⟨_, _, _, g1, _, _, _, q1, rfl, rfl, rfl⟩, fun h => absurd hr h⟩, q2, by rw [tb1]; omega⟩
 ·obtain ⟨s, a2, g1, g2, g3⟩ := gG h3 [[102], [103], [104]] (by decide) (by decide)
  have hs := fB g2 (by decide)
  obtain ⟨n, a3, g4, g5, g6⟩ := dT g3 (n := 4) (by omega) (by omega)
  have loop : ∀ (k : Nat) (a : Int) (l : List Tree), Dc L a → l.length + k ≤ 100 → Gt L (fun t a' => go (k + 1) s L a l (k : Int) t L a') (s.length + 1 + kbulk l + k * 13 + 429) := fun k => by
   induction k with
   | zero =>
    intro a l hd hl
    obtain ⟨t1, b1, q1, q2, q3⟩ := yC 1 hd (by omega)
    obtain ⟨t2, b2, q4, q5, q6⟩ := Fk 3 q2 (by omega)
    have : eB 3 = 422 := rfl
    refine ⟨_, b2, mq 0 _ _ _ _ _ _ _ _ ⟨fun h => by omega, fun _ => ⟨_, _, _, q1, _, _, _, q4, by simp; omega, rfl, rfl, rfl⟩⟩, q5, ?_⟩
    rw [tbK, dS]; simp only [kbulk]; omega
   | succ k ihk =>
    intro a l hd hl
    obtain ⟨x, b0, q0, q0', q0''⟩ := gG hd [[120], [121], [122]] (by decide) (by decide)
    have hx := fB q0' (by decide)
    obtain ⟨t, b, q1, q2, q3⟩ := yC 1 q0'' (by omega)
    refine (ihk b (l ++ [.node 4 x [] [t]]) q2 (by simp; omega)).map ?_ fun t' a' h => mq (k + 1) _ _ _ _ _ _ _ _ ⟨fun _ => ⟨_, _, _, q0, _, _, _, q1, by simp; omega, by omega, by rw [show ((k + 1 : Nat) : Int) - 1 = (k : Int) by omega]; exact h⟩, fun h => by omega⟩
    rw [dS]; simp only [kbulk, tb1]; omega
  exact (loop n.toNat a3 [] g6 (by simp; omega)).map (by simp only [kbulk]; omega) fun t a' h => mG (n.toNat + 1) _ _ _ _ _ ⟨_, _, _, h1, fun h => absurd h hr, fun _ => ⟨_, _, _, g1, _, _, _, g4, by rw [show n = ((n.toNat : Nat) : Int) by omega]; exact h⟩⟩
def Sh (l : List (List UInt8)) (n : Nat) : Prop := l.length = n ∧ ∀ x ∈ l, x.length ≤ 2
theorem Sh.sum : ∀ {l : List (List UInt8)} {n : Nat}, Sh l n → lsum l ≤ 3 * n
 | [], n, h => by simp [lsum]
 | x :: r, n, h => by
  obtain ⟨h1, h2⟩ := h
  have := h2 x (by simp)
  have := Sh.sum (l := r) (n := n - 1) ⟨by simp at h1; omega, fun y hy => h2 y (by simp [hy])⟩
  simp only [lsum]; simp at h1; omega
theorem Sh.set {l : List (List UInt8)} {n i : Nat} {x : List UInt8} (h : Sh l n) (hx : x.length ≤ 2) : Sh (l.set i x) n := ⟨by simpa using h.1, fun y hy => by
 rcases List.mem_or_eq_of_mem_set hy with h1 | h1
 ·exact h.2 y h1
 ·subst h1; exact hx⟩
theorem Sh.get {l : List (List UInt8)} {n i : Nat} (h : Sh l n) (hi : i < n) : ∃ s, l[i]? = some s := by
 obtain ⟨s, hs, _⟩ | h' := aB l i
 ·exact ⟨s, hs⟩
 ·have := h.1; omega
theorem Cm {n : Int} (h0 : 0 ≤ n) (h1 : n ≤ 100000000) : ∃ l, gP n l ∧ Sh l n.toNat := by
 have loop : ∀ k i (l : List (List UInt8)), n.toNat - i ≤ k → i ≤ n.toNat → Sh l i → ∃ r, dZ (k + 1) n l i r ∧ Sh r n.toNat := fun k => by
  induction k with
  | zero => intro i l hi hle hl; exact ⟨l, fY 0 _ _ _ _ ⟨fun h => by omega, fun _ => rfl⟩, by rw [show n.toNat = i by omega]; exact hl⟩
  | succ k ihk =>
   intro i l hi hle hl
   by_cases h : (i : Int) < n
   ·obtain ⟨r, e, hr⟩ := ihk (i + 1) (l ++ [[32]]) (by omega) (by omega) ⟨by simp [hl.1], fun x hx => by
     rcases List.mem_append.1 hx with h1 | h1
     ·exact hl.2 x h1
     ·simp at h1; subst h1; simp⟩
    exact ⟨r, fY (k + 1) _ _ _ _ ⟨fun _ => ⟨by simp [hl.1]; omega, by omega, e⟩, fun h' => absurd h h'⟩, hr⟩
   ·exact ⟨l, fY (k + 1) _ _ _ _ ⟨fun h' => absurd h' h, fun _ => rfl⟩, by rw [show n.toNat = i by omega]; exact hl⟩
 obtain ⟨r, e, hr⟩ := loop n.toNat 0 [] (by omega) (by omega) ⟨rfl, fun x hx => by cases hx⟩
 exact ⟨r, oQ _ _ _ e, hr⟩
def rv (t : Tree) (i : Int) (first : List UInt8) : List UInt8 := if t.kind = 1 then [10, 10] else if 0 < i then [32] else if t.kind = 8 ∨ t.kind = 22 ∨ t.kind = 16 ∨ t.kind = 18 then [] else if t.kind = 2 then (if (2 : Int) < t.kids.length then [] else [32]) else if t.kind = 17 ∨ t.kind = 21 then first else [32]
theorem Bx (t : Tree) (i : Int) (first : List UInt8) : hJ t i first (rv t i first) := by
 refine oJ 1 _ _ _ _ ?_
 repeat' first | (refine And.intro (fun _ => ?_) (fun _ => ?_)) | (refine ot 0 _ _ _ _ ?_)
 all_goals simp_all [rv]
 all_goals (intro h; omega)
theorem yw (t : Tree) (i : Int) (first : List UInt8) (hf : first.length ≤ 2) : (rv t i first).length ≤ 2 := by
 unfold rv
 repeat' split
 all_goals first | exact hf | simp
theorem mi {n : Int} (hn : 0 ≤ n) (a b c : Nat) (z : Int) : f0 n a b c z ≤ b + n := by
 unfold f0; repeat' split
 all_goals omega
theorem Ft {k n : Int} (hn : 0 ≤ n) : dj k n ≤ 6 + n := by
 have a1 := mi hn 2 6 2 (-1)
 have a2 := mi hn 0 3 0 (-1)
 have a3 := mi hn 1 2 0 (-1)
 have a4 := mi hn 1 3 0 1
 have a5 := mi hn 1 2 0 1
 have a6 := mi hn 1 0 0 1
 have a7 := mi hn 3 3 0 3
 have a8 := mi hn 2 4 0 2
 have a9 := mi hn 2 1 0 2
 have a10 := mi hn 0 1 0 0
 simp only [dj]
 repeat' first | omega | split
theorem AV {t : Tree} (hs : shapeK t = true) : (t.kind = 1 → dj t.kind t.kids.length = 3) ∧ (t.kind = 2 → 6 ≤ dj t.kind t.kids.length) ∧ (t.kind = 4 ∨ t.kind = 8 ∨ t.kind = 22 → dj t.kind t.kids.length = 2) ∧ (t.kind ≠ 17 → 1 ≤ dj t.kind t.kids.length) := by
 have h := nL hs
 refine ⟨fun hk => ?_, fun hk => ?_, fun hk => ?_, fun hk => ?_⟩
 ·rw [hk]; simp only [dj]; simp
 ·rw [hk] at h ⊢; simp only [dj, f0] at h ⊢; simp at h ⊢; repeat' split
  all_goals first | omega | (simp_all; omega)
 ·rcases hk with hk | hk | hk <;> (rw [hk] at h ⊢; simp only [dj, f0] at h ⊢; simp at h ⊢; repeat' split) <;> first | omega | (simp_all; done) | (simp_all; omega)
 ·have key : ∀ k n : Int, 0 ≤ n → k ≠ 17 → 0 ≤ dj k n → 1 ≤ dj k n := fun k n hn hk h => by
   have q : ∀ (a b c : Nat) z, 1 ≤ b → f0 n a b c z = -1 ∨ 1 ≤ f0 n a b c z := fun a b c z hb => by
    unfold f0; repeat' split
    all_goals omega
   have a1 := q 2 6 2 (-1) (by decide)
   have a2 := q 0 3 0 (-1) (by decide)
   have a3 := q 1 2 0 (-1) (by decide)
   have a4 := q 1 3 0 1 (by decide)
   have a5 := q 1 2 0 1 (by decide)
   have a7 := q 3 3 0 3 (by decide)
   have a8 := q 2 4 0 2 (by decide)
   have a9 := q 2 1 0 2 (by decide)
   have a10 := q 0 1 0 0 (by decide)
   revert h
   simp only [dj]
   repeat' first | (intro h; omega) | split
  exact key _ _ (by omega) hk h
section
variable {t : Tree} {N : Nat} {us : List Tree}
theorem CX : ∀ k i (l : List (List UInt8)), N - i ≤ k → Sh l N → ∃ l', dO (k + 1) t l i us (.node t.kind t.text l' us) ∧ Sh l' N := fun k => by
 induction k with
 | zero => intro i l hi hl; exact ⟨l, fq 0 _ _ _ _ _ ⟨fun h => by have := hl.1; omega, fun _ => rfl⟩, hl⟩
 | succ k ihk =>
  intro i l hi hl
  by_cases h : i < l.length
  ·obtain ⟨s, hs⟩ := hl.get (i := i) (by have := hl.1; omega)
   obtain ⟨l', e, h'⟩ := ihk (i + 1) (l.set i []) (by omega) (hl.set (by simp))
   exact ⟨l', fq (k + 1) _ _ _ _ _ ⟨fun _ => ⟨s, hs, e⟩, fun h' => absurd h h'⟩, h'⟩
  ·exact ⟨l, fq (k + 1) _ _ _ _ _ ⟨fun h' => absurd h' h, fun _ => rfl⟩, hl⟩
theorem xu : ∀ k i (l : List (List UInt8)), N - i ≤ k → Sh l N → ∃ l', cM (k + 1) t l i us (.node t.kind t.text l' us) ∧ Sh l' N := fun k => by
 induction k with
 | zero => intro i l hi hl; exact ⟨l, fo 0 _ _ _ _ _ ⟨fun h => by have := hl.1; omega, fun _ => rfl⟩, hl⟩
 | succ k ihk =>
  intro i l hi hl
  by_cases h : i < l.length
  ·obtain ⟨s, hs⟩ := hl.get (i := i) (by have := hl.1; omega)
   obtain ⟨l', e, h'⟩ := ihk (i + 1) (l.set i []) (by omega) (hl.set (by simp))
   exact ⟨l', fo (k + 1) _ _ _ _ _ ⟨fun _ => ⟨s, hs, e⟩, fun h' => absurd h h'⟩, h'⟩
  ·exact ⟨l, fo (k + 1) _ _ _ _ _ ⟨fun h' => absurd h' h, fun _ => rfl⟩, hl⟩
theorem tI (hs : shapeK t = true) (hN : N = (dj t.kind t.kids.length).toNat) {l : List (List UInt8)} (hl : Sh l N) : ∃ l', cG (N + 2) t l us (.node t.kind t.text l' us) ∧ Sh l' N := by
 obtain ⟨g1, g2, g3, g4⟩ := AV hs
 have e0 : ([] : List UInt8).length ≤ 2 := by simp
 by_cases h1 : t.kind = 1
 ·have := g1 h1
  obtain ⟨s, hs⟩ := hl.get (i := 2) (by omega)
  exact ⟨_, br (N + 1) _ _ _ _ ⟨fun _ => ⟨s, hs, rfl⟩, fun h => absurd h1 h⟩, hl.set (by simp)⟩
 by_cases h2 : t.kind = 2
 ·have := g2 h2
  have l1 := hl.set (i := 2) e0
  have l2 := l1.set (i := 3) e0
  have l3 := l2.set (i := 4) e0
  obtain ⟨s, hs⟩ := hl.get (i := 2) (by omega)
  obtain ⟨s', hs'⟩ := l1.get (i := 3) (by omega)
  obtain ⟨s2, hs2⟩ := l2.get (i := 4) (by omega)
  obtain ⟨l', e, h'⟩ := CX (t := t) (us := us) N 6 _ (by omega) l3
  exact ⟨l', br (N + 1) _ _ _ _ ⟨fun h => absurd h h1, fun _ => ⟨fun _ => ⟨s, hs, s', hs', s2, hs2, e⟩, fun h => absurd h2 h⟩⟩, h'⟩
 by_cases h4 : t.kind = 4
 ·have := g3 (by simp [h4])
  obtain ⟨s, hs⟩ := hl.get (i := 1) (by omega)
  exact ⟨_, br (N + 1) _ _ _ _ ⟨fun h => absurd h h1, fun _ => ⟨fun h => absurd h h2, fun _ => ⟨fun _ => ⟨s, hs, rfl⟩, fun h => absurd h4 h⟩⟩⟩, hl.set e0⟩
 by_cases h8 : t.kind = 8
 ·have := g3 (by simp [h8])
  obtain ⟨s, hs⟩ := hl.get (i := 1) (by omega)
  exact ⟨_, br (N + 1) _ _ _ _ ⟨fun h => absurd h h1, fun _ => ⟨fun h => absurd h h2, fun _ => ⟨fun h => absurd h h4, fun _ => ⟨fun _ => ⟨s, hs, rfl⟩, fun h => absurd h8 h⟩⟩⟩⟩, hl.set e0⟩
 by_cases h22 : t.kind = 22
 ·have := g3 (by simp [h22])
  obtain ⟨s, hs⟩ := hl.get (i := 1) (by omega)
  exact ⟨_, br (N + 1) _ _ _ _ ⟨fun h => absurd h h1, fun _ => ⟨fun h => absurd h h2, fun _ => ⟨fun h => absurd h h4, fun _ => ⟨fun h => absurd h h8, fun _ => ⟨fun _ => ⟨s, hs, rfl⟩, fun h => absurd h22 h⟩⟩⟩⟩⟩, hl.set e0⟩
 by_cases h16 : t.kind = 16
 ·obtain ⟨l', e, h'⟩ := xu (t := t) (us := us) N 1 _ (by omega) hl
  exact ⟨l', br (N + 1) _ _ _ _ ⟨fun h => absurd h h1, fun _ => ⟨fun h => absurd h h2, fun _ => ⟨fun h => absurd h h4, fun _ => ⟨fun h => absurd h h8, fun _ => ⟨fun h => absurd h h22, fun _ => ⟨fun _ => e, fun h => absurd h16 h⟩⟩⟩⟩⟩⟩, h'⟩
 by_cases h18 : t.kind = 18
 ·obtain ⟨l', e, h'⟩ := xu (t := t) (us := us) N 1 _ (by omega) hl
  exact ⟨l', br (N + 1) _ _ _ _ ⟨fun h => absurd h h1, fun _ => ⟨fun h => absurd h h2, fun _ => ⟨fun h => absurd h h4, fun _ => ⟨fun h => absurd h h8, fun _ => ⟨fun h => absurd h h22, fun _ => ⟨fun h => absurd h h16, fun _ => ⟨fun _ => e, fun h => absurd h18 h⟩⟩⟩⟩⟩⟩⟩, h'⟩
 ·exact ⟨l, br (N + 1) _ _ _ _ ⟨fun h => absurd h h1, fun _ => ⟨fun h => absurd h h2, fun _ => ⟨fun h => absurd h h4, fun _ => ⟨fun h => absurd h h8, fun _ => ⟨fun h => absurd h h22, fun _ => ⟨fun h => absurd h h16, fun _ => ⟨fun h => absurd h h18, fun _ => rfl⟩⟩⟩⟩⟩⟩⟩, hl⟩
end
theorem nK {l : List Tree} {i : Nat} {u : Tree} (h : l[i]? = some u) : kbulk (l.take (i + 1)) = kbulk (l.take i) + tbulk u := by
 rw [List.take_add_one, h, dS]; simp [kbulk]
theorem zT : ∀ t : Tree, tbulk t ≤ 1000000 → shapeK t = true → ∀ first, first.length ≤ 2 → ∃ u, dY t first u ∧ tbulk u + 3 ≤ 25 * tbulk t ∧ u.kind = t.kind := dJ fun t ih ht hs first hf => by
 have hk := cj t
 have hbt := bk t
 have h0 := nL hs
 have h6 := Ft (k := t.kind) (n := (t.kids.length : Int)) (by omega)
 obtain ⟨g1, g2, g3, g4⟩ := AV hs
 obtain ⟨bl, hbl, hsh⟩ := Cm h0 (by omega)
 have loop : ∀ k i (done rest : List Tree), t.kids.length - i ≤ k → done.length = i → i ≤ t.kids.length → rest.length = t.kids.length - i → kbulk done + 3 * i ≤ 25 * kbulk (t.kids.take i) → ∃ M r, cN M t first bl (done ++ rest) i r ∧ tbulk r + 3 ≤ 25 * tbulk t ∧ r.kind = t.kind := fun k => by
  have last : ∀ i (done rest : List Tree), ¬ i < t.kids.length → done.length = i → i ≤ t.kids.length → rest.length = t.kids.length - i → kbulk done + 3 * i ≤ 25 * kbulk (t.kids.take i) → ∃ M r, cN M t first bl (done ++ rest) i r ∧ tbulk r + 3 ≤ 25 * tbulk t ∧ r.kind = t.kind := fun i done rest hi hd hle hr hb => by
   have hr0 : rest = [] := List.length_eq_zero_iff.1 (by omega)
   subst hr0
   rw [List.append_nil]
   rw [List.take_of_length_le (by omega)] at hb
   have fin : ∀ l', Sh l' (dj t.kind t.kids.length).toNat → tbulk (.node t.kind t.text l' done) + 3 ≤ 25 * tbulk t ∧ (Tree.node t.kind t.text l' done).kind = t.kind := fun l' hl' => by
    have := hl'.sum
    exact ⟨by simp only [tbulk]; omega, rfl⟩
   by_cases h17 : t.kind = 17
   ·obtain ⟨l', e, h'⟩ := tI (us := done) hs rfl hsh
    exact ⟨_, _, dw _ _ _ _ _ _ _ ⟨fun h => absurd h hi, fun _ => ⟨fun h => absurd h17 h, fun _ => e⟩⟩, fin l' h'⟩
   ·by_cases h21 : t.kind = 21
    ·obtain ⟨l', e, h'⟩ := tI (us := done) hs rfl hsh
     exact ⟨_, _, dw _ _ _ _ _ _ _ ⟨fun h => absurd h hi, fun _ => ⟨fun _ => ⟨fun h => absurd h21 h, fun _ => e⟩, fun h => absurd h h17⟩⟩, fin l' h'⟩
    ·obtain ⟨l', e, h'⟩ := tI (us := done) hs rfl (hsh.set (i := 0) hf)
     have := g4 h17
     obtain ⟨s, hs0⟩ := hsh.get (i := 0) (by omega)
     exact ⟨_, _, dw _ _ _ _ _ _ _ ⟨fun h => absurd h hi, fun _ => ⟨fun _ => ⟨fun _ => ⟨s, hs0, e⟩, fun h => absurd h h21⟩, fun h => absurd h h17⟩⟩, fin l' h'⟩
  induction k with
  | zero => intro i done rest hi hd hle hr hb; exact last i done rest (by omega) hd hle hr hb
  | succ k ihk =>
   intro i done rest hi hd hle hr hb
   obtain ⟨u, hu, hul⟩ | h' := aB t.kids i
   ·have hbu := bB hu
    obtain ⟨v, hv, hvb, _⟩ := ih i u hu (by omega) (ut hs hu).1 _ (yw t i first hf)
    match rest, hr with
    | z :: rest', hr =>
     obtain ⟨M, r, e, hb2⟩ := ihk (i + 1) (done ++ [v]) rest' (by omega) (by simp [hd]) (by omega) (by simp at hr; omega) (by rw [nK hu, dS]; simp only [kbulk]; omega)
     refine ⟨M + 1, r, dw M _ _ _ _ _ _ ⟨fun _ => ⟨u, hu, _, Bx t i first, v, hv, z, by simp [← hd], by omega, ?_⟩, fun h => absurd hul h⟩, hb2⟩
     have : (done ++ z :: rest').set i v = done ++ [v] ++ rest' := by simp [← hd]
     rw [this]; exact e
    | [], hr => simp at hr; omega
   ·exact last i done rest h' hd hle hr hb
 obtain ⟨M, r, e, hb⟩ := loop t.kids.length 0 [] (List.replicate t.kids.length (.node 0 [] [] [])) (by omega) rfl (by omega) (by simp) (by simp [kbulk])
 exact ⟨r, ox (M + 1) _ _ _ ⟨_, pN (by omega) (by omega), bl, hbl, nB M _ _ _ _ ⟨by omega, by simpa using e⟩⟩, hb⟩
theorem AK (t : Tree) (ht : tbulk t ≤ 1000000) : ∃ u, gr t u ∧ tbulk u ≤ 25 * tbulk t ∧ (u.kind = t.kind ∨ u.kind = 0) := by
 have h1 := uv t (by omega)
 have := bt t
 cases hs : shapeK t with
 | false => rw [hs] at h1; exact ⟨.node 0 [] [] [], jo 0 _ _ ⟨_, h1, fun _ => rfl, fun h => (by cases h)⟩, by rw [tb0]; simp; omega, .inr rfl⟩
 | true =>
  rw [hs] at h1
  obtain ⟨u, hu, hb, hkk⟩ := zT t ht hs [] (by simp)
  exact ⟨u, jo 0 _ _ ⟨_, h1, fun h => (by cases h), fun _ => ⟨u, hu, rfl⟩⟩, by omega, .inl hkk⟩
theorem vj : ∀ (l : List (List UInt8)) (i : Nat) (x : List UInt8), lsum (l.set i x) ≤ lsum l + x.length
 | [], i, x => by simp [lsum]
 | y :: r, 0, x => by simp only [List.set_cons_zero, lsum]; omega
 | y :: r, i + 1, x => by have := vj r i x; simp only [List.set_cons_succ, lsum]; omega
theorem Cf {L : List Int} : ∀ t : Tree, tbulk t ≤ 1000000 → ∀ {a : Int}, Dc L a → Gt L (fun u a' => fz L a t u L a' ∧ u.kind = t.kind) (6 * tbulk t) := dJ fun t ih ht a hd => by
 have hk := cj t
 have hl := uG t
 have hbt := bk t
 have kids : ∀ k i (done : List Tree) (ls : List (List UInt8)) (a : Int), t.kids.length - i ≤ k → i ≤ t.kids.length → done.length = i → kbulk done ≤ 6 * kbulk (t.kids.take i) → lsum ls ≤ 6 * lsum t.leads → Dc L a → ∃ M, Gt L (fun u a' => dG M t L a (done ++ t.kids.drop i) i ls u L a' ∧ u.kind = t.kind) (6 * tbulk t) := fun k => by
  have last : ∀ i (done : List Tree) (ls : List (List UInt8)) (a : Int), ¬ i < t.kids.length → i ≤ t.kids.length → done.length = i → kbulk done ≤ 6 * kbulk (t.kids.take i) → lsum ls ≤ 6 * lsum t.leads → Dc L a → ∃ M, Gt L (fun u a' => dG M t L a (done ++ t.kids.drop i) i ls u L a' ∧ u.kind = t.kind) (6 * tbulk t) := fun i done ls a hi hle hdn hb hls hd => by
   rw [List.drop_of_length_le (by omega), List.append_nil]
   rw [List.take_of_length_le (by omega)] at hb
   exact ⟨1, _, a, ⟨lx 0 _ _ _ _ _ _ _ _ _ ⟨fun h => absurd h (by omega), fun _ => ⟨rfl, rfl, rfl⟩⟩, rfl⟩, hd, by simp only [tbulk]; omega⟩
  induction k with
  | zero => intro i done ls a hi hle hdn hb hls hd; exact last i done ls a (by omega) hle hdn hb hls hd
  | succ k ihk =>
   intro i done ls a hi hle hdn hb hls hd
   obtain ⟨u, hu, hul⟩ | h' := aB t.kids i
   ·have hbu := bB hu
    obtain ⟨v, a1, ⟨q1, _⟩, q2, q3⟩ := ih i u hu (by omega) hd
    obtain ⟨M, hM⟩ := ihk (i + 1) (done ++ [v]) ls a1 (by omega) (by omega) (by simp [hdn]) (by rw [nK hu, dS]; simp only [kbulk]; omega) hls q2
    have hg : (done ++ t.kids.drop i)[i]? = some u := by rw [List.getElem?_append_right (by omega), hdn]; simpa using hu
    refine ⟨M + 1, hM.map (Nat.le_refl _) fun w b ⟨h, hw⟩ => ⟨lx M _ _ _ _ _ _ _ _ _ ⟨fun _ => ⟨u, hg, _, _, _, q1, u, hg, ?_⟩, fun h' => absurd (by simp [hdn]; omega) h'⟩, hw⟩⟩
    have : (done ++ t.kids.drop i).set i v = done ++ [v] ++ t.kids.drop (i + 1) := by rw [bz hu]; simp [← hdn]
    rw [this]; exact h
   ·exact last i done ls a h' hle hdn hb hls hd
 have lead : ∀ k i (ls : List (List UInt8)) (a : Int), t.leads.length - i ≤ k → i ≤ t.leads.length → ls.length = t.leads.length → lsum ls ≤ lsum t.leads + 5 * i → Dc L a → ∃ M, Gt L (fun u a' => cF M t L a ls i u L a' ∧ u.kind = t.kind) (6 * tbulk t) := fun k => by
  have hll := sy t.leads
  have last : ∀ i (ls : List (List UInt8)) (a : Int), ¬ i < t.leads.length → i ≤ t.leads.length → ls.length = t.leads.length → lsum ls ≤ lsum t.leads + 5 * i → Dc L a → ∃ M, Gt L (fun u a' => cF M t L a ls i u L a' ∧ u.kind = t.kind) (6 * tbulk t) := fun i ls a hi hle hlen hb hd => by
   obtain ⟨M, hM⟩ := kids t.kids.length 0 [] ls a (by omega) (by omega) rfl (by simp [kbulk]) (by omega) hd
   exact ⟨M + 1, hM.map (Nat.le_refl _) fun w b ⟨h, hw⟩ => ⟨hG M _ _ _ _ _ _ _ _ ⟨fun h' => absurd h' (by omega), fun _ => ⟨by omega, by simpa using h⟩⟩, hw⟩⟩
  induction k with
  | zero => intro i ls a hi hle hlen hb hd; exact last i ls a (by omega) hle hlen hb hd
  | succ k ihk =>
   intro i ls a hi hle hlen hb hd
   obtain ⟨x, hx, hxl⟩ | h' := aB ls i
   ·obtain ⟨n, a1, h1, h2, h3⟩ := dT hd (n := 9) (by omega) (by omega)
    by_cases hn : n = 1
    ·obtain ⟨s, a2, g1, g2, g3⟩ := gG h3 [[32, 35, 32, 99, 10], [32, 32], [10, 9], [35, 10]] (by decide) (by decide)
     have hs5 := fB g2 (by decide)
     have := vj ls i s
     obtain ⟨M, hM⟩ := ihk (i + 1) (ls.set i s) a2 (by omega) (by omega) (by simpa using hlen) (by omega) g3
     exact ⟨M + 1, hM.map (Nat.le_refl _) fun w b ⟨h, hw⟩ => ⟨hG M _ _ _ _ _ _ _ _ ⟨fun _ => ⟨_, _, _, h1, fun _ => ⟨_, _, _, g1, x, hx, h⟩, fun h' => absurd hn h'⟩, fun h' => absurd hxl h'⟩, hw⟩⟩
    ·obtain ⟨M, hM⟩ := ihk (i + 1) ls a1 (by omega) (by omega) hlen (by omega) h3
     exact ⟨M + 1, hM.map (Nat.le_refl _) fun w b ⟨h, hw⟩ => ⟨hG M _ _ _ _ _ _ _ _ ⟨fun _ => ⟨_, _, _, h1, fun h' => absurd h' hn, fun _ => h⟩, fun h' => absurd hxl h'⟩, hw⟩⟩
   ·exact last i ls a (by omega) hle hlen hb hd
 obtain ⟨M, hM⟩ := lead t.leads.length 0 t.leads a (by omega) (by omega) rfl (by omega) hd
 exact hM.map (Nat.le_refl _) fun w b ⟨h, hw⟩ => ⟨qz M _ _ _ _ _ _ ⟨by omega, h⟩, hw⟩
theorem Cw {L : List Int} {a : Int} (hd : Dc L a) (name : List UInt8) (hname : name.length ≤ 5) : Gt L (fun t a' => ib L a name t L a' ∧ (t.kind = 1 ∨ t.kind = 0)) 300000 := by
 obtain ⟨n, a1, h1, h2, h3⟩ := dT hd (n := 4) (by omega) (by omega)
 have loop : ∀ (k : Nat) (a : Int) (l : List Tree), Dc L a → l.length + k ≤ 100 → kbulk l + k * 500 ≤ 1500 → Gt L (fun t a' => en (k + 1) name L a l (k : Int) t L a' ∧ (t.kind = 1 ∨ t.kind = 0)) 300000 := fun k => by
  induction k with
  | zero =>
   intro a l hd hl hb
   have ht : tbulk (.node 1 name [] l) ≤ 1506 := by rw [tbK]; omega
   obtain ⟨u, hu, hub, huk⟩ := AK (.node 1 name [] l) (by omega)
   obtain ⟨z, a2, g1, g2, g3⟩ := dT hd (n := 2) (by omega) (by omega)
   by_cases hz : z = 0
   ·exact (Cf u (by omega) g3).map (by omega) fun w b ⟨h, hw⟩ => ⟨gy 0 _ _ _ _ _ _ _ _ ⟨fun h' => by omega, fun _ => ⟨u, hu, _, _, _, g1, fun _ => ⟨_, _, _, h, rfl, rfl, rfl⟩, fun h' => absurd hz h'⟩⟩, by rw [hw]; exact huk⟩
   ·exact ⟨u, a2, ⟨gy 0 _ _ _ _ _ _ _ _ ⟨fun h' => by omega, fun _ => ⟨u, hu, _, _, _, g1, fun h' => absurd h' hz, fun _ => ⟨rfl, rfl, rfl⟩⟩⟩, huk⟩, g3, by omega⟩
  | succ k ihk =>
   intro a l hd hl hb
   obtain ⟨t, b, q1, q2, q3⟩ := FS hd
   exact (ihk b (l ++ [t]) q2 (by simp; omega) (by rw [dS]; simp only [kbulk]; omega)).map (Nat.le_refl _) fun w c ⟨h, hw⟩ => ⟨gy (k + 1) _ _ _ _ _ _ _ _ ⟨fun _ => ⟨_, _, _, q1, by simp; omega, by omega, by rw [show ((k + 1 : Nat) : Int) - 1 = (k : Int) by omega]; exact h⟩, fun h => by omega⟩, hw⟩
 exact (loop n.toNat a1 [] h3 (by simp; omega) (by simp only [kbulk]; omega)).map (Nat.le_refl _) fun w b ⟨h, hw⟩ => ⟨pI (n.toNat + 1) _ _ _ _ _ _ ⟨_, _, _, h1, by rw [show n = ((n.toNat : Nat) : Int) by omega]; exact h⟩, hw⟩
def Mok (p : List Tree) : Prop := ∀ t ∈ p, t.kind = 1 ∧ shapeK t = true
theorem sK (l : List Int) (hl : l.length ≤ 1000000) : ∃ p, em l p ∧ kbulk p ≤ 1000000 ∧ Mok p := by
 have hd0 : Dc l 0 := ⟨by omega, by omega, by omega⟩
 obtain ⟨n, a1, h1, h2, h3⟩ := dT hd0 (n := 4) (by omega) (by omega)
 have loop : ∀ (k : Nat) (a : Int) (p : List Tree), Dc l a → p.length + k ≤ 3 → kbulk p + k * 300001 ≤ 900003 → Mok p → ∃ r, bp (k + 1) l a p (k : Int) r ∧ kbulk r ≤ 900003 ∧ Mok r := fun k => by
  induction k with
  | zero => intro a p hd hp hb hmk; exact ⟨p, fR 0 _ _ _ _ _ ⟨fun h => by omega, fun _ => rfl⟩, by omega, hmk⟩
  | succ k ihk =>
   intro a p hd hp hb hmk
   have hb2 : kbulk p + k * 300001 + 300001 ≤ 900003 := Nat.le_trans (Nat.le_of_eq (by rw [Nat.succ_mul, Nat.add_assoc])) hb
   have hb3 : kbulk p + k * 300001 ≤ 900003 := Nat.le_trans (Nat.le_add_right _ _) hb2
   obtain ⟨x, hx, _⟩ | h' := aB [[(65 : UInt8)], [66], [67]] p.length
   rotate_left
   ·simp at h'; omega
   have hx5 : x.length ≤ 5 := fB (List.mem_of_getElem? hx) (by decide)
   obtain ⟨t, a2, ⟨q1, qk⟩, q2, q3⟩ := Cw hd x hx5
   obtain ⟨z, a3, g1, g2, g3⟩ := dT q2 (n := 8) (by omega) (by omega)
   have step : ∀ u : Tree, tbulk u ≤ 300001 → (u.kind = 1 ∨ u.kind = 0) → ∃ b r, dE u b ∧ ((b = true) → (p ++ [u]).length ≤ 1000000000 ∧ InI (((k + 1 : Nat) : Int) - 1) ∧ bp (k + 1) l a3 (p ++ [u]) (((k + 1 : Nat) : Int) - 1) r) ∧ ((b = false) → InI (((k + 1 : Nat) : Int) - 1) ∧ bp (k + 1) l a3 p (((k + 1 : Nat) : Int) - 1) r) ∧ kbulk r ≤ 900003 ∧ Mok r := fun u hu huk => by
    obtain ⟨b, hb', hbs⟩ := Cs u (by omega)
    have e : ((k + 1 : Nat) : Int) - 1 = (k : Int) := by omega
    rw [e]
    cases b with
    | true =>
     have hus := hbs rfl
     have hu1 : u.kind = 1 := by
      rcases huk with h | h
      ·exact h
      ·have := nL hus; rw [h] at this; simp [dj] at this
     obtain ⟨r, hr, hrb⟩ := ihk a3 (p ++ [u]) g3 (by simp; omega) (by clear hb; rw [dS]; simp only [kbulk]; omega) (fun t ht => by
      rcases List.mem_append.1 ht with h | h
      ·exact hmk t h
      ·rw [List.mem_singleton] at h; subst h; exact ⟨hu1, hus⟩)
     exact ⟨true, r, hb', fun _ => ⟨by simp; omega, by omega, hr⟩, fun h => (by cases h), hrb⟩
    | false =>
     obtain ⟨r, hr, hrb⟩ := ihk a3 p g3 (by omega) hb3 hmk
     exact ⟨false, r, hb', fun h => (by cases h), fun _ => ⟨by omega, hr⟩, hrb⟩
   by_cases hz : z = 7
   ·have hub : tbulk (.node t.kind [65] t.leads t.kids) ≤ 300001 := by have := bk t; simp only [tbulk, List.length_cons, List.length_nil]; omega
    obtain ⟨b, r, e1, e2, e3, e4⟩ := step _ hub qk
    exact ⟨r, fR (k + 1) _ _ _ _ _ ⟨fun _ => ⟨x, hx, _, _, _, q1, _, _, _, g1, fun _ => ⟨b, e1, e2, e3⟩, fun h => absurd hz h⟩, fun h => by omega⟩, e4⟩
   ·obtain ⟨b, r, e1, e2, e3, e4⟩ := step t (by omega) qk
    exact ⟨r, fR (k + 1) _ _ _ _ _ ⟨fun _ => ⟨x, hx, _, _, _, q1, _, _, _, g1, fun h => absurd h hz, fun _ => ⟨b, e1, e2, e3⟩⟩, fun h => by omega⟩, e4⟩
 obtain ⟨r, hr, hrb, hrm⟩ := loop n.toNat a1 [] h3 (by simp; omega) (by simp only [kbulk]; omega) (fun t h => by cases h)
 exact ⟨r, oB (n.toNat + 1) _ _ ⟨_, _, re 0 _ _ _ ⟨by omega, rfl, rfl⟩, _, _, _, h1, by rw [show n = ((n.toNat : Nat) : Int) by omega]; exact hr⟩, by omega, hrm⟩
end Go.Proofs.YthnohcipianijaaGreatDoor
namespace Go.Proofs.YthnohcipianijaaGreatDoor
open Go.RowKit Lx Sx
set_option maxRecDepth 100000
set_option maxHeartbeats 1100000
theorem lS (l : List Int) : fJ l (decide (((l.length : Nat) : Int) ≤ 120)) := qt 0 _ _ rfl
theorem nD9 {d : GDatum} (h : wD d ≤ 2000000) : nD d ≤ 1000000000 := by have := uR d; omega
theorem wg (args : List GDatum) (z : Int) : ∃ k : Nat, min ((args.length : Nat) : Int) (max 0 z) = (k : Int) ∧ k ≤ args.length := ⟨(min ((args.length : Nat) : Int) (max 0 z)).toNat, by omega, by omega⟩
section
variable {args : List GDatum} (ha : args.length ≤ 10) (hm : mDs args ≤ 1000000000000000) (fuel : Int) {p : List Tree} (hb : kbulk p ≤ 1100000)
include ha hm hb
end
theorem AX {p : List Tree} (hb : kbulk p ≤ 1100000) {m d : Int} {l : List GDatum} {f k : Nat} (hf : f ≤ 1500) (hk : k ≤ 1500) :
  0 ≤ (bn p m d l f).2.1 ∧ (bn p m d l f).2.1 ≤ f ∧ ((bn p m d l f).2.2 = 21 → (bn p m d l f).2.1 = f) ∧ (¬ (bn p m d l f).2.2 = 21 → bn p m d l ((f : Int) + (k : Int)) = bn p m d l f) := by
 by_cases h : mL p m d l.length = true ∧ l.all gA = true
 ·obtain ⟨m1, m2⟩ := Dv (p := p) 16385 f k m (aK (di p m d) (l.length + 1)) (dh (di p m d).kids l)
  have hle := (mn hb 16385 f m (aK (di p m d) (l.length + 1)) (dh (di p m d).kids l) (Nat.le_trans (fO _ _) (qE hb (by omega) _ _)) (pg (th h.2) _)).2
  rw [bn, if_pos ⟨h.1, by omega, by omega, h.2⟩, Int.toNat_natCast, bn, if_pos ⟨h.1, by omega, by omega, h.2⟩, show ((f : Int) + (k : Int)).toNat = f + k by omega]
  refine ⟨by simp only; omega, by simp only; omega, fun h21 => ?_, fun h21 => ?_⟩
  ·simp only at h21 ⊢
   rw [m1 h21]; simp
  ·simp only at h21
   rw [m2 h21]
   simp only [Prod.mk.injEq, true_and, and_true]
   omega
 ·have hx : ∀ z : Int, bn p m d l z = (GD0, 0, 5) := fun z => rz fun hh => h ⟨hh.1, hh.2.2.2⟩
  rw [hx, hx]
  exact ⟨by decide, by simp only; omega, fun h => by simp at h, fun _ => rfl⟩
section
variable {args : List GDatum} (ha : args.length ≤ 10) {f k : Nat} (hf : f ≤ 1500) (hk : k ≤ 1500) {p : List Tree} (hb : kbulk p ≤ 1100000)
include ha hf hk hb
theorem BC (i : Nat) (t : Tree) (ht : p[i]? = some t) (R : Nat) (next : bT R args f k p (i + 1) true) : ∀ (j d : Nat), t.kids.length - d ≤ j → bg (R + j + 1) args f k p d i true := fun j => by
 have hlp := (List.getElem?_eq_some_iff.1 ht).1
 have hlen := eL p
 have last : ∀ (Q d : Nat), R ≤ Q → ¬ d < t.kids.length → bg (Q + 1) args f k p d i true := fun Q d hQ hd =>
  rL2_semvcslaw09_EvalFuel Q _ _ _ _ _ _ _ ⟨t, ht, fun h => absurd h hd, fun _ => ⟨by omega, fun K j1 hK h1 => next K j1 hK (by omega)⟩⟩
 induction j with
 | zero => intro d hj; exact last _ d (by omega) (by omega)
 | succ j ihj =>
  intro d hj
  obtain ⟨a, hak, hlt⟩ | h' := aB t.kids d
  ·obtain ⟨q, e1, e2⟩ := wg args ((a.kids.length : Int) - 2)
   obtain ⟨g1, g2, g3, g4⟩ := AX hb (m := i) (d := d) (l := args.take q) hf hk
   have hl : (args.take q).length ≤ 1000000000 := by rw [List.length_take]; omega
   have hw := tL hb i d (args.take q) f
   have r1 := rA hb i d (args.take q) hl f
   have r2 := rA hb i d (args.take q) hl ((f : Int) + (k : Int))
   have hn := ihj (d + 1) (by omega)
   have same : ¬ (bn p i d (args.take q) f).2.2 = 21 → ((bn p i d (args.take q) f).2.2 ≠ (bn p i d (args.take q) ((f : Int) + (k : Int))).2.2 → false = true) ∧ ((bn p i d (args.take q) f).2.2 = (bn p i d (args.take q) ((f : Int) + (k : Int))).2.2 → ((bn p i d (args.take q) f).2.1 ≠ (bn p i d (args.take q) ((f : Int) + (k : Int))).2.1 → false = true) ∧ ((bn p i d (args.take q) f).2.1 = (bn p i d (args.take q) ((f : Int) + (k : Int))).2.1 → ∃ b : Bool, dN (bn p i d (args.take q) f).1 (bn p i d (args.take q) ((f : Int) + (k : Int))).1 b ∧ (b = false → false = true) ∧ (b = true → bg (R + j + 1) args f k p (d + 1) i true))) := fun h21 => by
    rw [g4 h21]
    exact ⟨fun h => absurd rfl h, fun _ => ⟨fun h => absurd rfl h, fun _ => ⟨_, tp _ (nD9 hw) _, fun h => (by rw [te] at h; cases h), fun _ => hn⟩⟩⟩
   rw [show R + (j + 1) + 1 = (R + j + 1) + 1 by omega]
   exact rL2_semvcslaw09_EvalFuel (R + j + 1) _ _ _ _ _ _ _ ⟨t, ht, fun _ => ⟨t, ht, a, hak, q, e1, e2, _, _, _, r1, by constructor <;> omega, _, _, _, r2, fun h => by omega, fun _ => ⟨fun h => by omega, fun _ => ⟨fun h21 => ⟨fun h => absurd (g3 h21) h, fun _ => ⟨fun h => absurd h21 h, fun _ => hn⟩⟩, fun h21 => ⟨fun _ => same h21, fun h => absurd h h21⟩⟩⟩⟩, fun h => absurd hlt h⟩
  ·exact last _ d (by omega) h'
theorem zG : ∀ (j i : Nat), p.length - i ≤ j → ∃ R, bT R args f k p i true := fun j => by
 have last : ∀ i, ¬ i < p.length → ∃ R, bT R args f k p i true := fun i hi => ⟨1, iB 0 _ _ _ _ _ _ ⟨fun h => absurd h hi, fun _ => ⟨_, aw9, rfl⟩⟩⟩
 induction j with
 | zero => intro i hi; exact last i (by omega)
 | succ j ihj =>
  intro i hi
  obtain ⟨t, ht, hlt⟩ | h' := aB p i
  ·obtain ⟨R, hR⟩ := ihj (i + 1) (by omega)
   have := BC ha hf hk hb i t ht R hR t.kids.length 0 (by omega)
   exact ⟨_, iB _ _ _ _ _ _ _ ⟨fun _ => this, fun h => absurd hlt h⟩⟩
  ·exact last i h'
end
theorem Gq (l : List Int) (args : List GDatum) (fuel more : Int) : jE l args fuel more true := by
 by_cases hl : ((l.length : Nat) : Int) ≤ 120
 ·by_cases hc : args.length ≤ 10 ∧ 0 ≤ fuel ∧ fuel ≤ 1500 ∧ 0 ≤ more ∧ more ≤ 1500
  ·obtain ⟨f, rfl⟩ := nb (m := fuel) (by omega)
   obtain ⟨k, rfl⟩ := nb (m := more) (by omega)
   have loop : ∀ (j i : Nat), args.length - i ≤ j → ∃ R, cw R l args f k i true := fun j => by
    have last : ∀ i, ¬ i < args.length → ∃ R, cw R l args f k i true := fun i hi => by
     obtain ⟨p, h1, h2, h3⟩ := sK l (by omega)
     obtain ⟨R, hR⟩ := zG hc.1 (show f ≤ 1500 by omega) (show k ≤ 1500 by omega) (show kbulk p ≤ 1100000 by omega) p.length 0 (by omega)
     exact ⟨R + 1, iE R _ _ _ _ _ _ ⟨fun h => absurd h hi, fun _ => ⟨p, h1, hR⟩⟩⟩
    induction j with
    | zero => intro i hi; exact last i (by omega)
    | succ j ihj =>
     intro i hi
     obtain ⟨x, hx, hlt⟩ | h' := aB args i
     ·obtain ⟨R, hR⟩ := ihj (i + 1) (by omega)
      exact ⟨R + 1, iE R _ _ _ _ _ _ ⟨fun _ => ⟨x, hx, _, xW x, fun _ => ⟨_, aw9, rfl⟩, fun _ => hR⟩, fun h => absurd hlt h⟩⟩
     ·exact last i h'
   obtain ⟨R, hR⟩ := loop args.length 0 (by omega)
   exact fk R _ _ _ _ _ ⟨_, lS l, fun _ => ⟨_, aw9, rfl⟩, fun _ => ⟨fun _ => ⟨_, aw9, rfl⟩, fun _ => ⟨fun _ => ⟨_, aw9, rfl⟩, fun _ => ⟨fun _ => ⟨_, aw9, rfl⟩, fun _ => ⟨fun _ => ⟨_, aw9, rfl⟩, fun _ => ⟨fun _ => ⟨_, aw9, rfl⟩, fun _ => hR⟩⟩⟩⟩⟩⟩
  ·exact fk 0 _ _ _ _ _ ⟨_, lS l, fun _ => ⟨_, aw9, rfl⟩, fun _ => ⟨fun _ => ⟨_, aw9, rfl⟩, fun _ => ⟨fun _ => ⟨_, aw9, rfl⟩, fun _ => ⟨fun _ => ⟨_, aw9, rfl⟩, fun _ => ⟨fun _ => ⟨_, aw9, rfl⟩, fun _ => ⟨fun _ => ⟨_, aw9, rfl⟩, fun h => absurd (by omega) hc⟩⟩⟩⟩⟩⟩
 ·exact fk 0 _ _ _ _ _ ⟨_, lS l, fun _ => ⟨_, aw9, rfl⟩, fun h => absurd (of_decide_eq_true h) hl⟩
theorem Da : ∀ t : Tree, tbulk t ≤ 1000000000 → fM t (bareK t) := dJ fun t ih hb => by
 have hk := cj t
 have loop : ∀ m i l, t.kids.length - i ≤ m → l.length = i → i ≤ t.kids.length → eX (m + 1) t l i (.node t.kind t.text [] (l ++ baresK (t.kids.drop i))) := fun m => by
  induction m with
  | zero =>
   intro i l hi hl hle
   refine lp 0 _ _ _ _ ⟨fun h => by omega, fun h => ?_⟩
   rw [List.drop_of_length_le (by omega), baresK, List.append_nil]
  | succ m ihm =>
   intro i l hi hl hle
   refine lp (m + 1) _ _ _ _ ⟨fun h => ?_, fun h => ?_⟩
   ·obtain ⟨u, hu, _⟩ | h' := aB t.kids i
    ·have := bB hu
     rw [bz hu, baresK]
     refine ⟨u, hu, _, ih i u hu (by omega), by simp; omega, ?_⟩
     have := ihm (i + 1) (l ++ [bareK u]) (by omega) (by simp [hl]) (by omega)
     rw [List.append_assoc] at this
     exact this
    ·exact absurd h h'
   ·rw [List.drop_of_length_le (by omega), baresK, List.append_nil]
 rw [ng]
 exact qu _ _ _ (loop t.kids.length 0 [] (by omega) rfl (by omega))
theorem Az : ∀ t : Tree, tbulk (bareK t) ≤ tbulk t := dJ fun t ih => by
 have h : ∀ l : List Tree, (∀ u, u ∈ l → tbulk (bareK u) ≤ tbulk u) → kbulk (l.map bareK) ≤ kbulk l := fun l => by
  induction l with
  | nil => intro _; exact Nat.le_refl _
  | cons u r ihr =>
   intro hh
   have h1 := hh u (by simp)
   have h2 := ihr fun x hx => hh x (by simp [hx])
   simp only [List.map_cons, kbulk]; omega
 have := h t.kids fun u hu => by
  obtain ⟨i, hi⟩ := List.getElem?_of_mem hu
  exact ih i u hi
 rw [bk, bk t, eM, fx]
 have e : (bareK t).leads = [] := by rw [ng]; rfl
 rw [e]; simp only [lsum]; omega
theorem sC : ∀ p : List Tree, kbulk (p.map bareK) ≤ kbulk p
 | [] => Nat.le_refl _
 | t :: r => by have := Az t; have := sC r; simp only [List.map_cons, kbulk]; omega
theorem yU (p : List Tree) (m d : Int) (n : Nat) : ml (p.map bareK) m d n = ml p m d n := by
 unfold ml
 rw [qJ, bM, fx, List.length_map, List.length_map, qB, fx, List.length_map]
theorem At (p : List Tree) (m d : Int) (l : List GDatum) (f : Int) : bn (p.map bareK) m d l f = bn p m d l f := by
 unfold bn mL
 rw [yU, uA, qJ, eK, fx, uu, DC]
section
variable {args : List GDatum} (ha : args.length ≤ 10) (f : Int) {p : List Tree} (hb : kbulk p ≤ 1100000)
include ha hb
theorem Dw (i : Nat) (t : Tree) (ht : p[i]? = some t) (R : Nat) (next : bv R args f p (i + 1) (p.map bareK) true) : ∀ (j d : Nat), t.kids.length - d ≤ j → cc (R + j + 1) args f p d i (p.map bareK) true := fun j => by
 have hlp := (List.getElem?_eq_some_iff.1 ht).1
 have hlen := eL p
 have last : ∀ (Q d : Nat), R ≤ Q → ¬ d < t.kids.length → cc (Q + 1) args f p d i (p.map bareK) true := fun Q d hQ hd =>
  rL3_semvcslaw09_EvalLayout Q _ _ _ _ _ _ _ ⟨t, ht, fun h => absurd h hd, fun _ => ⟨by omega, fun K j1 hK h1 => next K j1 hK (by omega)⟩⟩
 induction j with
 | zero => intro d hj; exact last _ d (by omega) (by omega)
 | succ j ihj =>
  intro d hj
  obtain ⟨a, hak, hlt⟩ | h' := aB t.kids d
  ·obtain ⟨q, e1, e2⟩ := wg args ((a.kids.length : Int) - 2)
   have hl : (args.take q).length ≤ 1000000000 := by rw [List.length_take]; omega
   have hw := tL hb i d (args.take q) f
   have r1 := rA hb i d (args.take q) hl f
   have r2 := rA (p := p.map bareK) (Nat.le_trans (sC p) hb) i d (args.take q) hl f
   rw [At] at r2
   have hn := ihj (d + 1) (by omega)
   rw [show R + (j + 1) + 1 = (R + j + 1) + 1 by omega]
   exact rL3_semvcslaw09_EvalLayout (R + j + 1) _ _ _ _ _ _ _ ⟨t, ht, fun _ => ⟨t, ht, a, hak, q, e1, e2, _, _, _, r1, _, _, _, r2, fun h => absurd rfl h, fun _ => ⟨fun h => absurd rfl h, fun _ => ⟨_, tp _ (nD9 hw) _, fun h => (by rw [te] at h; cases h), fun _ => hn⟩⟩⟩, fun h => absurd hlt h⟩
  ·exact last _ d (by omega) h'
theorem BD : ∀ (j i : Nat), p.length - i ≤ j → ∃ R, bv R args f p i (p.map bareK) true := fun j => by
 have last : ∀ i, ¬ i < p.length → ∃ R, bv R args f p i (p.map bareK) true := fun i hi => ⟨1, hO 0 _ _ _ _ _ _ ⟨fun h => absurd h hi, fun _ => ⟨_, aw9, rfl⟩⟩⟩
 induction j with
 | zero => intro i hi; exact last i (by omega)
 | succ j ihj =>
  intro i hi
  obtain ⟨t, ht, hlt⟩ | h' := aB p i
  ·obtain ⟨R, hR⟩ := ihj (i + 1) (by omega)
   have := Dw ha f hb i t ht R hR t.kids.length 0 (by omega)
   exact ⟨_, hO _ _ _ _ _ _ _ ⟨fun _ => this, fun h => absurd hlt h⟩⟩
  ·exact last i h'
end
theorem Cq {args : List GDatum} (f : Int) {p : List Tree} (hb : kbulk p ≤ 1100000) (R : Nat) (hR : bv R args f p 0 (p.map bareK) true) : ∀ (j i : Nat) (q : List Tree), p.length - i ≤ j → i ≤ p.length → q = (p.take i).map bareK → ca (R + j + 1) args f p q i true := fun j => by
 have hlen := eL p
 have last : ∀ (Q i : Nat) (q : List Tree), R ≤ Q → ¬ i < p.length → q = (p.take i).map bareK → ca (Q + 1) args f p q i true := fun Q i q hQ hi hq => by
  rw [List.take_of_length_le (by omega)] at hq
  subst hq
  exact hZ Q _ _ _ _ _ _ ⟨fun h => absurd h hi, fun _ K j1 hK h1 => hR K j1 hK (by omega)⟩
 induction j with
 | zero => intro i q hj hi hq; exact last _ i q (by omega) (by omega) hq
 | succ j ihj =>
  intro i q hj hi hq
  obtain ⟨t, ht, hlt⟩ | h' := aB p i
  ·have hbt := db ht
   have hq2 : q ++ [bareK t] = (p.take (i + 1)).map bareK := by rw [hq, List.take_add_one, ht]; simp
   rw [show R + (j + 1) + 1 = (R + j + 1) + 1 by omega]
   refine hZ (R + j + 1) _ _ _ _ _ _ ⟨fun _ => ⟨t, ht, _, Da t (by omega), ?_, ihj (i + 1) _ (by omega) (by omega) hq2⟩, fun h => absurd hlt h⟩
   rw [hq2, List.length_map, List.length_take]; omega
  ·exact last _ i q (by omega) h' hq
theorem ER (l : List Int) (args : List GDatum) (fuel : Int) : iH l args fuel true := by
 by_cases hl : ((l.length : Nat) : Int) ≤ 120
 ·by_cases ha : args.length ≤ 10
  ·have loop : ∀ (j i : Nat), args.length - i ≤ j → ∃ R, cd R l args fuel i true := fun j => by
    have last : ∀ i, ¬ i < args.length → ∃ R, cd R l args fuel i true := fun i hi => by
     obtain ⟨p, h1, h2, h3⟩ := sK l (by omega)
     obtain ⟨R, hR⟩ := BD ha fuel (show kbulk p ≤ 1100000 by omega) p.length 0 (by omega)
     have := Cq fuel (show kbulk p ≤ 1100000 by omega) R hR p.length 0 [] (by omega) (by omega) (by simp)
     exact ⟨_, hU _ _ _ _ _ _ ⟨fun h => absurd h hi, fun _ => ⟨p, h1, this⟩⟩⟩
    induction j with
    | zero => intro i hi; exact last i (by omega)
    | succ j ihj =>
     intro i hi
     obtain ⟨x, hx, hlt⟩ | h' := aB args i
     ·obtain ⟨R, hR⟩ := ihj (i + 1) (by omega)
      exact ⟨R + 1, hU R _ _ _ _ _ ⟨fun _ => ⟨x, hx, _, xW x, fun _ => ⟨_, aw9, rfl⟩, fun _ => hR⟩, fun h => absurd hlt h⟩⟩
     ·exact last i h'
   obtain ⟨R, hR⟩ := loop args.length 0 (by omega)
   exact eI R _ _ _ _ ⟨_, lS l, fun _ => ⟨_, aw9, rfl⟩, fun _ => ⟨fun _ => ⟨_, aw9, rfl⟩, fun _ => ⟨fun _ => ⟨_, aw9, rfl⟩, fun _ => ⟨fun _ => ⟨_, aw9, rfl⟩, fun _ => hR⟩⟩⟩⟩
  ·exact eI 0 _ _ _ _ ⟨_, lS l, fun _ => ⟨_, aw9, rfl⟩, fun _ => ⟨fun _ => ⟨_, aw9, rfl⟩, fun h => by omega⟩⟩
 ·exact eI 0 _ _ _ _ ⟨_, lS l, fun _ => ⟨_, aw9, rfl⟩, fun h => absurd (of_decide_eq_true h) hl⟩
end Go.Proofs.YthnohcipianijaaGreatDoor
namespace Go.Proofs.YthnohcipianijaaGreatDoor
open Go.RowKit Lx Sx
abbrev it (W : World) : Nat → Prop := fun b => b < W.heap.size
theorem RowIn.live {W : World} {sz n : Nat} {A : Option Addr} {xs : List Value} (h : RowIn Any W sz A n xs) : RowIn (it W) W sz A n xs := ⟨h.1, fun hp => by
 obtain ⟨b, off, h1, _, h3, h4⟩ := h.2 hp
 exact ⟨b, off, h1, h3, h3, h4⟩⟩
mutual
theorem TreeIs.live {W : World} : ∀ {t : Tree} {c : List Value}, TreeIs Any W t c → TreeIs (it W) W t c
 | .node k s ls ks, c, h => by
  simp only [TreeIs] at h ⊢
  obtain ⟨A, m, B, n, h1, h2, h3, h4, h5, h6, cs, h7, h8⟩ := h
  exact ⟨A, m, B, n, h1, h2, h3, h4, h5, h6.live, cs, KidsAre.live h7, h8.live⟩
theorem KidsAre.live {W : World} : ∀ {ts : List Tree} {cs : List Value}, KidsAre Any W ts cs → KidsAre (it W) W ts cs
 | [], cs, h => by simp only [KidsAre] at h ⊢; exact h
 | t :: r, cs, h => by
  simp only [KidsAre] at h ⊢
  obtain ⟨c, d, h1, h2, h3⟩ := h
  exact ⟨c, d, h1, TreeIs.live h2, KidsAre.live h3⟩
end
abbrev VLive (W : World) (v : V) (x : Value) : Prop := VRel (it W) W (fun _ => none) v x
theorem Hg {W : World} {l : List Int} {A : Option Addr} {cap : Nat} (hc : l.length ≤ cap) (hm : cap ≤ maxLen) (hr : RowIn Any W 1 A l.length (l.map fun z => .int .i64 z)) : VLive W (.row 1 (l.map (V.int .i64))) (.slice A l.length cap) := by
 simp only [VLive, VRel]
 exact ⟨A, cap, _, by simp, by simpa using hc, hm, vu l, by simpa using hr.live⟩
theorem Hh {W : World} (z : Int) : VLive W (.int .i64 z) (.int .i64 z) := by simp only [VLive, VRel]
theorem Hf {fid : FuncId} {us : List V} {b : Bool} (h : om Tryz.prog fid us (.bool b)) {W : World} {xs : List Value} (hx : LRel (it W) W (fun _ => none) us xs) : Calls Tryz.prog fid xs.toArray W fun e W' => e = .returned (.bool b) ∧ Ext W W' := by
 have h0 := CO W
 have hr' : HRel (it W) W (fun _ => none) (⟨0, []⟩ : Hp).get := ⟨h0.ob, fun i b hb => by rw [oq] at hb; exact hb.elim, fun i j b hb _ => by rw [oq] at hb; exact hb.elim, fun _ h => h⟩
 refine (h.2.2 _ W _ xs hr' hx).mono ?_
 rintro e W' ⟨x, S', ρ', v, H', rfl, rfl, h1, h2, h3⟩
 simp only [VRel] at h3
 subst h3
 have hno : ∀ b, ¬ ∃ id, own (fun _ => none) id ((⟨0, []⟩ : Hp).get id) b := fun b ⟨id, hb⟩ => by rw [oq] at hb; exact hb
 exact ⟨rfl, Chg.ext ⟨h2.chg.os, h2.chg.tape, h2.chg.output, h2.chg.size, fun b hb _ => h2.chg.block b hb (hno b)⟩⟩
theorem lr1 {W : World} {u : V} {x : Value} (h : VLive W u x) : LRel (it W) W (fun _ => none) [u] [x] := ⟨x, [], rfl, h, rfl⟩
theorem lrc {W : World} {u : V} {us : List V} {x : Value} {xs : List Value} (h : VLive W u x) (k : LRel (it W) W (fun _ => none) us xs) : LRel (it W) W (fun _ => none) (u :: us) (x :: xs) := ⟨x, xs, rfl, h, k⟩
end Go.Proofs.YthnohcipianijaaGreatDoor
namespace Go.Proofs.YthnohcipianijaaGreatDoor
open Go.RowKit Lx Sx Go.ChangeShapes Go.WideShapes Go.Deep Go.Joins
instance : Inhabited Tree := ⟨jT⟩
theorem zI : Tryz.prog.cellsOf 3 = 1 := by kernel_rfl
theorem AI : Tryz.prog.cellsOf 9 = 1 := by kernel_rfl
theorem Al {α : Type} {l : List α} (h : l.length = 4) : ∃ a b c d, l = [a, b, c, d] := by
 match l, h with
 | [a, b, c, d], _ => exact ⟨a, b, c, d, rfl⟩
theorem xg {α : Type} {c : Nat → List α} : ∀ (l : List Nat) (i r : Nat), (∀ j ∈ l, (c j).length = 4) → r < 4 → (l.flatMap c)[i * 4 + r]? = (l[i]?).bind fun j => (c j)[r]?
 | [], i, r, _, _ => by simp
 | j :: l, 0, r, h, hr => by
  have := h j (by simp)
  rw [List.flatMap_cons, List.getElem?_append_left (by omega)]; simp
 | j :: l, i + 1, r, h, hr => by
  have h4 := h j (by simp)
  rw [List.flatMap_cons, List.getElem?_append_right (by omega), show (i + 1) * 4 + r - (c j).length = i * 4 + r by omega, xg l i r (fun q hq => h q (by simp [hq])) hr]; simp
section
variable {H : Type} {enc : TypeId × Value → H} {W : World}
theorem xo (b off k : Nat) : (⟨b, off, none⟩ : Addr).add k = ⟨b, off + k, none⟩ := by unfold Addr.add; split <;> simp_all
end
end Go.Proofs.YthnohcipianijaaGreatDoor
namespace Go.Proofs.YthnohcipianijaaGreatDoor
open Go.RowKit Go.ChangeShapes Go.WideShapes Go.Deep Go.Joins
open Lx Sx
instance : Inhabited GDatum := ⟨GD0⟩
theorem vC : Tryz.prog.cellsOf 24 = 4 := by kernel_rfl
theorem BE : Tryz.prog.cellsOf 2 = 1 := by kernel_rfl
theorem Cg : Tryz.prog.cellsOf 22 = 1 := by kernel_rfl
theorem yg {B : Nat} : ∀ l : List GDatum, (∀ d, d ∈ l → mD d ≤ B) → mDs l ≤ B
 | [], _ => by simp [mDs]
 | a :: r, h => by
  have := h a (by simp)
  have := yg r fun x hx => h x (by simp [hx])
  simp only [mDs]; omega
section
variable {H : Type} {enc : TypeId × Value → H} {W : World}
theorem rK {T : TypeId} {y : DataW H} {n : Nat} (hn : n ∈ y.weights Tryz.prog T) : ∀ {l : List (DataW H)}, y ∈ l → n ∈ DataW.weightsAll Tryz.prog T l
 | z :: r, h => by
  simp only [DataW.weightsAll, List.mem_append]
  rcases List.mem_cons.1 h with rfl | h
  ·exact .inl hn
  ·exact .inr (rK hn h)
theorem wl {y : DataW H} : ∀ {l : List (DataW H)}, y ∈ l → Rows.uptoBulk y ≤ Rows.uptoBulkAll l
 | z :: r, h => by
  simp only [Rows.uptoBulkAll]
  rcases List.mem_cons.1 h with rfl | h
  ·omega
  ·have := wl h; omega
def uV (W : World) (y : DataW H) (d : GDatum) (cs : List Value) : Prop := (LRel (it W) W ρ0 (GDatum.c d) cs ∧ cs.length = 4 ∧ cs.all (·.oneCell') = true) ∧ ∀ B, (∀ k, k ∈ y.weights Tryz.prog 24 → k ≤ B) → mD d ≤ B
theorem vH {g : Nat → GDatum} {c : Nat → List Value} : ∀ (l : List Nat), (∀ i, i ∈ l → LRel (it W) W ρ0 (GDatum.c (g i)) (c i) ∧ (c i).length = 4 ∧ (c i).all (·.oneCell') = true) → CRel (it W) W ρ0 4 (GDatum.vs (l.map g)) (l.flatMap c)
 | [], _ => by simp [CRel, GDatum.vs]
 | i :: l, h => by
  obtain ⟨h1, h2, h3⟩ := h i (by simp)
  simp only [List.map_cons, List.flatMap_cons, GDatum.vs, CRel]
  refine ⟨.agg (c i).toArray, _, by simp [Value.cells], ⟨by simp [Value.cells, h2], by simpa [Value.cells] using h3⟩, ?_, vH l fun j hj => h j (by simp [hj])⟩
  rw [GDatum.v_eq]
  simp only [VRel]
  exact ⟨_, rfl, h1⟩
theorem xv {n : Nat} {v : Value} {x : DataW H × List MemPlace} (h : DataW.trod enc Tryz.prog W 0 (fun _ => true) true n 22 [v] = some x) (ih : ∀ n cs (y : DataW H × List MemPlace), Rows.uptoBulk y.1 < Rows.uptoBulk x.1 → DataW.trod enc Tryz.prog W 0 (fun _ => true) true n 24 cs = some y → ∃ d, uV W y.1 d cs) :
  ∃ ks, VRel (it W) W ρ0 (.row 4 (GDatum.vs ks)) v ∧ v.oneCell' = true ∧ ∀ B, (∀ k, k ∈ x.1.weights Tryz.prog 22 → k ≤ B) → mDs ks ≤ B := by
 rcases open_slice Tryz.underlying22 h with ⟨hcs, hx3⟩ | ⟨a, len, cap, m3, n3, D, Pl, hcs, hb, hl3, hm3, hmm, hx3, hi⟩
 ·simp only [List.cons.injEq, and_true] at hcs
  subst hcs
  refine ⟨[], ?_, rfl, fun B _ => by simp [mDs]⟩
  simp only [VRel]
  exact ⟨none, 0, [], rfl, Nat.le_refl _, by simp [maxLen], by simp [CRel, GDatum.vs], RowIn.none_⟩
 ·simp only [List.cons.injEq, and_true] at hcs
  simp only [if_true] at hmm
  subst hmm hcs
  rw [vC] at hi
  have hall : Rows.uptoBulk x.1 = Rows.uptoBulkAll ((List.range len).map D) + Rows.uptoBulkAll ((List.range (m3 - len)).map fun j => D (len + j)) + 1 := by
   rw [hx3]; simp only [Rows.uptoBulk]
  obtain ⟨T, hT⟩ := choose_lt (α := GDatum × List Value) (p := fun i t => i < len → W.cells? 0 (a.add (i * 4)) 4 = some t.2 ∧ uV W (D i) t.1 t.2) (n := m3) (fun i him => by
   by_cases hil : i < len
   ·obtain ⟨cs', hc, ht⟩ := hi i him
    have hb1 : Rows.uptoBulk (D i) ≤ Rows.uptoBulkAll ((List.range len).map D) := wl (List.mem_map.2 ⟨i, by simp [hil], rfl⟩)
    obtain ⟨d, g1⟩ := ih n3 cs' (D i, Pl i) (by simp only; omega) ht
    exact ⟨(d, cs'), fun _ => ⟨hc, g1⟩⟩
   ·exact ⟨(GD0, []), fun h => absurd h hil⟩)
  have hTl : ∀ i, i ∈ List.range len → W.cells? 0 (a.add (i * 4)) 4 = some (T i).2 ∧ uV W (D i) (T i).1 (T i).2 := fun i hi' => by
   have := List.mem_range.1 hi'
   exact hT i (by omega) this
  have hrow : RowIn (it W) W 4 (some a) len ((List.range len).flatMap fun i => (T i).2) := by
   refine ⟨?_, fun h0 => ?_⟩
   ·have e : ∀ l : List Nat, (∀ i, i ∈ l → (T i).2.length = 4) → (l.flatMap fun i => (T i).2).length = l.length * 4 := by
     intro l
     induction l with
     | nil => simp
     | cons i r ihr =>
      intro hh
      have := hh i (by simp)
      have := ihr fun j hj => hh j (by simp [hj])
      simp only [List.flatMap_cons, List.length_append, List.length_cons]; omega
    rw [e _ fun i hi' => (hTl i hi').2.1.2.1]; simp
   ·have hcell : ∀ i, i < len → ∀ r, r < 4 → W.cell? ((a.add (i * 4)).add r) = (T i).2[r]? := fun i hi' r hr => by
     have h4 := (hTl i (by simp [hi'])).2.1.2.1
     have := (World.cells?_some (hTl i (by simp [hi'])).1).2.2 r (by omega)
     rw [this]
    have hsome : ∃ v, W.cell? a = some v := by
     have h4 := (hTl 0 (by simp [h0])).2.1.2.1
     have := hcell 0 h0 0 (by omega)
     refine ⟨(T 0).2[0]'(by omega), ?_⟩
     rw [List.getElem?_eq_getElem (by omega)] at this
     simpa [Addr.add] using this
    obtain ⟨vv, hvv⟩ := hsome
    have hs : a.spot = none := World.cell?_spot (a := a) hvv
    obtain ⟨b, off, spot⟩ := a
    simp only at hs
    subst hs
    refine ⟨b, off, rfl, World.block_lt_of_cell? W ⟨b, off, none⟩ hvv, World.block_lt_of_cell? W ⟨b, off, none⟩ hvv, fun j hj => ?_⟩
    have e := hcell (j / 4) (by omega) (j % 4) (by omega)
    rw [xo, xo, show off + j / 4 * 4 + j % 4 = off + j by omega] at e
    have e2 := xg (c := fun i => (T i).2) (List.range len) (j / 4) (j % 4) (fun i hi' => (hTl i hi').2.1.2.1) (by omega)
    rw [show j / 4 * 4 + j % 4 = j by omega] at e2
    rw [e, e2]; simp [show j / 4 < len by omega]
  refine ⟨(List.range len).map fun i => (T i).1, ?_, rfl, fun B hB => ?_⟩
  ·simp only [VRel]
   refine ⟨some a, m3, (List.range len).flatMap fun i => (T i).2, ?_, ?_, hm3, vH _ fun i hi' => (hTl i hi').2.1, ?_⟩
   ·rw [GDatum.vlen]; simp
   ·rw [GDatum.vlen]; simpa using hl3
   ·rw [GDatum.vlen]; simpa using hrow
  ·refine yg _ fun d hd => ?_
   obtain ⟨i, hi', rfl⟩ := List.mem_map.1 hd
   refine (hTl i hi').2.2 B fun k hk => hB k ?_
   rw [hx3]
   simp only [DataW.weights, Tryz.underlying22, List.mem_cons, List.mem_append]
   exact .inr (.inl (rK hk (List.mem_map.2 ⟨i, hi', rfl⟩)))
theorem AT : ∀ (q n : Nat) (cs : List Value) (x : DataW H × List MemPlace), Rows.uptoBulk x.1 ≤ q → DataW.trod enc Tryz.prog W 0 (fun _ => true) true n 24 cs = some x → ∃ d, uV W x.1 d cs
 | q, n, cs, x, hq, h => by
  obtain ⟨y0, y1, y2, y3, n', hx, hl, h0, h1, h2, h3⟩ := trod_struct4 Tryz.underlying24 h
  rw [vC] at hl
  obtain ⟨v0, v1, v2, v3, rfl⟩ := Al hl
  simp only [zI, AI, BE, Cg, List.drop_zero, List.drop_succ_cons, List.take_succ_cons, List.take_zero] at h0 h1 h2 h3
  obtain ⟨k, e0, f0, _⟩ := DataW.trod_int Tryz.underlying3 h0
  obtain ⟨j, e1, f1, _⟩ := DataW.trod_int Tryz.underlying2 h1
  obtain ⟨s, e2, f2, _⟩ := DataW.trod_string Tryz.underlying9 h2
  simp only [List.cons.injEq, and_true] at e0 e1 e2
  have hbk : Rows.uptoBulk x.1 = Rows.uptoBulk y0.1 + (Rows.uptoBulk y1.1 + (Rows.uptoBulk y2.1 + (Rows.uptoBulk y3.1 + 0))) + 1 := by rw [hx]; simp only [Rows.uptoBulk, Rows.uptoBulkAll]
  obtain ⟨ks, g1, g2, g3⟩ := xv h3 fun n cs y hy hc => AT (q - 1) n cs y (by omega) hc
  have hs : y2.1 = .lit (.string s.data.toList) := by rw [f2]
  refine ⟨⟨k, j, s.data.toList, ks⟩, ⟨?_, rfl, ?_⟩, fun B hB => ?_⟩
  ·subst e0 e1 e2
   simp only [GDatum.c, LRel]
   exact ⟨_, _, rfl, by simp only [VRel], _, _, rfl, by simp only [VRel], _, _, rfl, by simp only [VRel], _, _, rfl, g1, rfl⟩
  ·subst e0 e1 e2
   simp only [List.all_cons, List.all_nil, g2, Bool.and_true]; rfl
  ·have hw : ∀ k, k ∈ y2.1.weights Tryz.prog 9 ∨ k ∈ y3.1.weights Tryz.prog 22 → k ≤ B := fun k hk => hB k (by
    rw [hx]
    simp only [DataW.weights, Tryz.underlying24, List.map_cons, List.map_nil, DataW.weightsEach, List.mem_append, List.toList_toArray]
    rcases hk with hk | hk
    ·exact .inr (.inr (.inl hk))
    ·exact .inr (.inr (.inr (.inl hk))))
   rw [FT]
   have a1 : s.data.toList.length ≤ B := hw _ (.inl (by rw [hs]; simp [DataW.weights]))
   have a2 := g3 B fun k hk => hw k (.inr hk)
   show max s.data.toList.length (mDs ks) ≤ B
   omega
 termination_by q => q
 decreasing_by omega
theorem GE {v : Value} {d : DataW H} {p : List MemPlace} (h : DataW.Trod enc Tryz.prog W 0 (fun _ => true) true 22 v d p) (hv : v.cells.toList = [v]) : ∃ ks, VLive W (.row 4 (GDatum.vs ks)) v ∧ ∀ B, (∀ k, k ∈ d.weights Tryz.prog 22 → k ≤ B) → mDs ks ≤ B := by
 obtain ⟨fuel, h3⟩ := h
 rw [hv] at h3
 obtain ⟨ks, g1, _, g3⟩ := xv h3 fun n cs y hy hc => AT _ n cs y (Nat.le_refl _) hc
 exact ⟨ks, g1, g3⟩
theorem GD {ts : List TypeId} {ds : List (DataW H)} (h : (DataW.weightsEach Tryz.prog ts ds).all (· ≤ reachBytes) = true) {j : Nat} {t : TypeId} {d : DataW H} (ht : ts[j]? = some t) (hd : ds[j]? = some d) : ∀ k, k ∈ d.weights Tryz.prog t → k ≤ reachBytes := fun k hk => by
 have := List.all_eq_true.1 h _ (DataW.weights_mem_each ht hd k hk)
 simpa using this
end
end Go.Proofs.YthnohcipianijaaGreatDoor
namespace Go.Proofs.YthnohcipianijaaGreatDoor
open Go.RowKit Go.ChangeShapes Go.WideShapes Go.Deep
theorem zE : Tryz.prog.cellsOf 3 = 1 := by kernel_rfl
theorem FN {H : Type} {enc : TypeId × Value → H} {W : World} {a0 : Option Addr} {len cap : Nat} {d : DataW H} {p : List MemPlace} (h : DataW.Trod enc Tryz.prog W 0 (fun _ => true) true 29 (.slice a0 len cap) d p) :
  ∃ zs : List Int, len = zs.length ∧ len ≤ cap ∧ cap ≤ maxLen ∧ RowIn Any W 1 a0 zs.length (zs.map fun z => .int .i64 z) := by
 obtain ⟨fuel, hf⟩ := h
 rcases open_ints Tryz.underlying29 Tryz.underlying3 zE hf with ⟨hcs, hx⟩ | ⟨a, len', cap', zs, hcs, hb, hl, hm, hlen, hx, hcell, hwf⟩
 ·simp [Value.cells] at hcs
  obtain ⟨rfl, rfl, rfl⟩ := hcs
  exact ⟨[], rfl, Nat.le_refl _, Nat.zero_le _, RowIn.none_⟩
 ·simp [Value.cells] at hcs
  obtain ⟨rfl, rfl, rfl⟩ := hcs
  simp only [if_true] at hlen
  have hlt : (zs.take len).length = len := by simp; omega
  refine ⟨zs.take len, hlt.symm, hl, hm, by simp, fun h0 => ?_⟩
  rw [hlt] at h0 ⊢
  have hs : a.spot = none := World.cell?_spot (a := a) (by have := hcell 0 (by omega); simpa [Addr.add] using this)
  obtain ⟨b, off, spot⟩ := a
  simp only at hs
  subst hs
  have hadd : ∀ k, (⟨b, off, none⟩ : Addr).add k = ⟨b, off + k, none⟩ := fun k => by unfold Addr.add; split <;> simp_all
  refine ⟨b, off, rfl, trivial, ?_, fun j hj => ?_⟩
  ·have := hcell 0 (by omega)
   exact World.block_lt_of_cell? W ⟨b, off, none⟩ (by simpa [Addr.add] using this)
  ·have hj' : j < len := by omega
   have := hcell j (by omega)
   rw [hadd] at this
   rw [this]
   simp [hj', List.getD_eq_getElem?_getD, show j < zs.length from by omega]
end Go.Proofs.YthnohcipianijaaGreatDoor
namespace Go.Proofs.YthnohcipianijaaGreatDoor
def vI (cs : Array Value) : Obj → Obj
 | .cells _ t frozen => .cells cs t frozen
 | o => o
noncomputable def Ey : Nat := (World.holding Tryz.prog default ⟨#[], #[], []⟩).heap.size
noncomputable def zM (os : Os) : World :=
 let w0 := World.holding Tryz.prog os ⟨#[.cells #[.string ⟨#[105, 110, 118, 97, 108, 105, 100, 32, 115, 121, 110, 116, 97, 120]⟩] 242, .cells #[.string ⟨#[118, 97, 108, 117, 101, 32, 111, 117, 116, 32, 111, 102, 32, 114, 97, 110, 103, 101]⟩] 242], #[], []⟩
 { w0 with heap := ((((w0.heap.modify 3 (vI #[.iface 240 (.pointer (some ⟨Ey, 0, none⟩))])).modify 4 (vI #[.iface 240 (.pointer (some ⟨Ey + 1, 0, none⟩))])).modify 6 (vI #[.int .u64 1, .int .u64 10, .int .u64 100, .int .u64 1000, .int .u64 10000, .int .u64 100000, .int .u64 1000000, .int .u64 10000000, .int .u64 100000000, .int .u64 1000000000, .int .u64 10000000000, .int .u64 100000000000, .int .u64 1000000000000, .int .u64 10000000000000, .int .u64 100000000000000, .int .u64 1000000000000000, .int .u64 10000000000000000, .int .u64 100000000000000000, .int .u64 1000000000000000000, .int .u64 10000000000000000000])).modify 7 (vI #[.int .u8 0, .int .u8 1, .int .u8 28, .int .u8 2, .int .u8 29, .int .u8 14, .int .u8 24, .int .u8 3, .int .u8 30, .int .u8 22, .int .u8 20, .int .u8 15, .int .u8 25, .int .u8 17, .int .u8 4, .int .u8 8, .int .u8 31, .int .u8 27, .int .u8 13, .int .u8 23, .int .u8 21, .int .u8 19, .int .u8 16, .int .u8 7, .int .u8 26, .int .u8 12, .int .u8 18, .int .u8 6, .int .u8 11, .int .u8 5, .int .u8 10, .int .u8 9])).modify 8 (vI #[.int .u8 0, .int .u8 1, .int .u8 56, .int .u8 2, .int .u8 57, .int .u8 49, .int .u8 28, .int .u8 3, .int .u8 61, .int .u8 58, .int .u8 42, .int .u8 50, .int .u8 38, .int .u8 29, .int .u8 17, .int .u8 4, .int .u8 62, .int .u8 47, .int .u8 59, .int .u8 36, .int .u8 45, .int .u8 43, .int .u8 51, .int .u8 22, .int .u8 53, .int .u8 39, .int .u8 33, .int .u8 30, .int .u8 24, .int .u8 18, .int .u8 12, .int .u8 5, .int .u8 63, .int .u8 55, .int .u8 48, .int .u8 27, .int .u8 60, .int .u8 41, .int .u8 37, .int .u8 16, .int .u8 46, .int .u8 35, .int .u8 44, .int .u8 21, .int .u8 52, .int .u8 32, .int .u8 23, .int .u8 11, .int .u8 54, .int .u8 26, .int .u8 40, .int .u8 15, .int .u8 34, .int .u8 20, .int .u8 31, .int .u8 10, .int .u8 25, .int .u8 14, .int .u8 19, .int .u8 9, .int .u8 13, .int .u8 8, .int .u8 7, .int .u8 6]) }
theorem GG (os : Os) (args : Array Value) : laidMet Tryz.prog Rows.evalDataRow.laid ((zM os).forCall (fun _ _ => 0) ⟨#[], args, []⟩).memory :=
 laidMet_of_run' 8 (by kernel_rfl) (by kernel_rfl)
end Go.Proofs.YthnohcipianijaaGreatDoor
