/- Contracts of the functions that the law reaches, part 3. -/
import Derived.Test.YtkkkpdbnnjoepaaGreatDoorTa2
set_option linter.unusedVariables false
set_option linter.unusedSimpArgs false
namespace Go.Proofs.YtkkkpdbnnjoepaaGreatDoor
open Go.RowKit Lx Sx
set_option maxRecDepth 100000
set_option maxHeartbeats 4000000
structure ae where
 At : GPlace
 Kind : Int
abbrev ae.c (x : ae) : List V := [.int .i64 x.At.Module, .row 1 (List.map (V.int .i64) x.At.Path), .int .i64 x.Kind]
abbrev ae.w (x : ae) : V := .agg x.c
theorem vF (σ : List Nat) (l) : renL σ (List.map ae.w l) = List.map ae.w l := pP σ ae.w (fun _ => rfl) l
def ic (p0 : Int) (r0 : Bool) : Prop := qS 40 [.int .i64 p0] (.bool r0)
def dT (p0 p1 r0 : Int) : Prop := qS 23 [.int .i64 p0, .int .i64 p1] (.int .i64 r0)
def iM (p0 p1 : List Int) (r0 : Int) : Prop := qS 24 [.row 1 (List.map (V.int .i64) p0), .row 1 (List.map (V.int .i64) p1)] (.int .i64 r0)
def cM (p0 p1 : ae) (r0 : Int) : Prop := qS 22 [.agg (ae.c p0), .agg (ae.c p1)] (.int .i64 r0)
def bn (p0 : List ae) (p1 p2 : Int) (m0 : List ae) : Prop := aY [0] Tryz.prog 64 [.sl 0, .int .i64 p1, .int .i64 p2, .clo 22 []] ⟨1, [(0, .row 42 3 (List.map ae.w p0))]⟩ (fun u G => u = .tup [] ∧ G = ⟨1, [(0, .row 42 3 (List.map ae.w m0))]⟩)
def fv (p0 : List ae) (p1 : Int) (m0 : List ae) : Prop := aY [0] Tryz.prog 39 [.sl 0, .int .i64 p1, .clo 22 []] ⟨1, [(0, .row 42 3 (List.map ae.w p0))]⟩ (fun u G => u = .tup [] ∧ G = ⟨1, [(0, .row 42 3 (List.map ae.w m0))]⟩)
def aR (p0 m0 : List ae) : Prop := aY [0] Tryz.prog 21 [.sl 0, .clo 22 []] ⟨1, [(0, .row 42 3 (List.map ae.w p0))]⟩ (fun u G => u = .tup [] ∧ G = ⟨1, [(0, .row 42 3 (List.map ae.w m0))]⟩)
theorem pn (m : Nat) (p0 : Int) (r0 : Bool) (h : (p0 != p0) = r0) : ic p0 r0 := by
 refine ⟨rfl, rfl, ?_⟩
 refine am 6 [] Tryz.func40 rfl rfl rfl (aA rfl) fun K hK => ?_
 refine gR 14 rfl ?_
 subst h
 exact go_end ah (rs := [.tmp 2]) rfl rfl rfl
theorem nI (m : Nat) (p0 p1 r0 : Int) (h : ∃ b, ic p0 b ∧ ∃ a, ic p1 a ∧ ((b = true) → ((a = true) → 0 = r0) ∧ ((a = false) → (-1) = r0)) ∧ ((b = false) → ((a = true) → 1 = r0) ∧ ((a = false) → ((p0 < p1) → (-1) = r0) ∧ ((¬ p0 < p1) → ((p1 < p0) → 1 = r0) ∧ ((¬ p1 < p0) → 0 = r0))))) : dT p0 p1 r0 := by
 refine ⟨rfl, rfl, ?_⟩
 refine am 20 [] Tryz.func23 rfl rfl rfl (aA rfl) fun K hK => ?_
 refine gR 8 rfl ?_
 obtain ⟨b, hs3, h⟩ := h
 refine gC0 hs3 (by kernel_rfl) rfl rfl .rfl rfl <| gR 6 rfl ?_
 obtain ⟨a, hs4, h⟩ := h
 refine gC0 hs4 (by kernel_rfl) rfl rfl .rfl rfl <| gR 9 rfl <| gB 11 rfl rfl rfl ?_ ?_ <;> intro hd
 refine gT 5 rfl hd rfl ?_
 refine gT 8 rfl hd rfl ?_
 replace h := h.1 hd
 refine gR 7 rfl <| gB 12 rfl rfl rfl ?_ ?_ <;> intro hd
 refine gT 6 rfl hd rfl ?_
 refine gT 10 rfl hd rfl ?_
 replace h := h.1 hd
 refine gR 9 rfl ?_
 subst h
 exact go_end ah (rs := [.tmp 4]) rfl rfl rfl
 refine gF 6 rfl hd rfl ?_
 refine gF 10 rfl hd rfl ?_
 replace h := h.2 hd
 refine gR 10 rfl ?_
 subst h
 exact go_end ah (rs := [.tmp 4]) rfl rfl rfl
 refine gF 5 rfl hd rfl ?_
 refine gF 8 rfl hd rfl ?_
 replace h := h.2 hd
 refine gR 9 rfl <| gB 13 rfl rfl rfl ?_ ?_ <;> intro hd
 refine gT 6 rfl hd rfl ?_
 refine gT 10 rfl hd rfl ?_
 replace h := h.1 hd
 refine gR 8 rfl ?_
 subst h
 exact go_end ah (rs := [.tmp 4]) rfl rfl rfl
 refine gF 6 rfl hd rfl ?_
 refine gF 10 rfl hd rfl ?_
 replace h := h.2 hd
 refine gR 11 rfl <| qBd 16 rfl rfl rfl h (fun h => ?_) fun h => ?_
 refine gR 8 rfl ?_
 subst h
 exact go_end ah (rs := [.tmp 4]) rfl rfl rfl
 refine gR 11 rfl <| qBd 19 rfl rfl rfl h (fun h => ?_) fun h => ?_
 refine gR 8 rfl ?_
 subst h
 exact go_end ah (rs := [.tmp 4]) rfl rfl rfl
 refine gR 9 rfl ?_
 subst h
 exact go_end ah (rs := [.tmp 4]) rfl rfl rfl
def fi (m : Nat) (p0 p1 : List Int) (a : Nat) (r0 : Int) : Prop := ∀ (K : Ctx) (j1 : Nat), aG K [] → m ≤ j1 → qLG K Tryz.f24 (fun u _ => u = .int .i64 r0) (xC (cA (cB (aj Tryz.f24)))) [.loop (xC (cA (cB (aj Tryz.f24)))) j1, .blk 0, .seq (xA (aj Tryz.f24))] 36 (mkF 36 0 [(0, .row 1 (List.map (V.int .i64) p0)), (1, .row 1 (List.map (V.int .i64) p1)), (9, .row 1 (List.map (V.int .i64) p0)), (10, .int .i64 (p0.length : Int)), (11, .int .i64 (a : Int))]) ⟨0, []⟩
theorem lY (m : Nat) (p0 p1 : List Int) (r0 : Int) (h : fi m p0 p1 0 r0) : iM p0 p1 r0 := by
 refine ⟨rfl, rfl, ?_⟩
 refine am 36 [] Tryz.func24 rfl rfl rfl (aA rfl) fun K hK => ?_
 exact gR 10 rfl <| gV 10 (.int .i64 (p0.length : Int)) rfl (aM (aJ (V.int .i64) _)) rfl <| gLB 9 rfl (aJ (V.int .i64) _) fun hl11 => gR 4 rfl <| go_loop m <| gJ (h K _ hK (by omega)) [] [] rfl hK pq5 trivial rfl
theorem la (m : Nat) (p0 p1 : List Int) (a : Nat) (r0 : Int) (h : ((a < p0.length) → ∃ c, p0[a]? = some c ∧ ((p1.length ≤ a) → 1 = r0) ∧ ((¬ p1.length ≤ a) → ∃ d, p1[a]? = some d ∧ ∃ b, dT c d b ∧ ((b ≠ 0) → b = r0) ∧ ((b = 0) → a + 1 ≤ 9223372036854775807 ∧ fi m p0 p1 (a + 1) r0))) ∧ ((¬ a < p0.length) → ((p0.length < p1.length) → (-1) = r0) ∧ ((¬ p0.length < p1.length) → 0 = r0))) : fi (m + 1) p0 p1 a r0 := by
 intro K j1 hK hj1
 obtain ⟨j1, rfl⟩ : ∃ j, j1 = j + 1 := ⟨j1 - 1, by omega⟩
 refine gR 6 rfl <| gB 12 rfl rfl rfl ?_ ?_ <;> intro hd
 replace hd := (dn hd)
 replace h := h.1 hd
 refine gR 8 rfl ?_
 obtain ⟨c, hxn1_1, h⟩ := h
 refine gY (bC (mapget (f := (V.int .i64)) hxn1_1) ah rfl rfl rfl rfl) rfl rfl <| gR 11 rfl <| gV 18 (.int .i64 (p1.length : Int)) rfl (aM (aJ (V.int .i64) _)) rfl <| gLB 17 rfl (aJ (V.int .i64) _) fun hl12 => gR 3 rfl <| gB 19 rfl rfl rfl ?_ ?_ <;> intro hd
 replace hd := (zw hd)
 replace h := h.1 hd
 refine gR 10 rfl <| go_xloopR <| gR 2 rfl ?_
 subst h
 exact go_end ah (rs := [.tmp 4]) rfl rfl rfl
 replace hd := (zu hd)
 replace h := h.2 hd
 refine gR 7 rfl ?_
 obtain ⟨d, hxn1_2, h⟩ := h
 refine gY (bC (mapget (f := (V.int .i64)) hxn1_2) ah rfl rfl rfl rfl) rfl rfl <| gR 8 rfl ?_
 obtain ⟨b, hs13, h⟩ := h
 refine gC0 hs13 (by kernel_rfl) rfl rfl .rfl rfl <| gR 9 rfl <| gB 28 rfl rfl rfl ?_ ?_ <;> intro hd
 replace hd := (eG hd)
 replace h := h.1 hd
 refine gR 10 rfl <| go_xloopR <| gR 2 rfl ?_
 subst h
 exact go_end ah (rs := [.tmp 4]) rfl rfl rfl
 replace hd := (dj hd)
 replace h := h.2 hd
 refine gR 5 rfl ?_
 obtain ⟨hb, h⟩ := h
 exact gR 1 rfl <| gV 30 (.int .i64 ((a + 1 : Nat) : Int)) rfl (ax (by omega) (by omega)) rfl <| gR 2 rfl <| go_xloop <| gJ (h K _ hK (by omega)) [] [] rfl hK pq5 trivial rfl
 replace hd := (dp hd)
 replace h := h.2 hd
 refine gR 3 rfl <| go_xloopE <| gR 7 rfl <| gV 32 (.int .i64 (p0.length : Int)) rfl (aM (aJ (V.int .i64) _)) rfl <| gLB 31 rfl (aJ (V.int .i64) _) fun hl14 => gR 2 rfl <| gV 34 (.int .i64 (p1.length : Int)) rfl (aM (aJ (V.int .i64) _)) rfl <| gLB 33 rfl (aJ (V.int .i64) _) fun hl15 => gR 3 rfl <| gB 35 rfl rfl rfl ?_ ?_ <;> intro hd
 replace hd := (dn hd)
 replace h := h.1 hd
 refine gR 8 rfl ?_
 subst h
 exact go_end ah (rs := [.tmp 4]) rfl rfl rfl
 replace hd := (dp hd)
 replace h := h.2 hd
 refine gR 9 rfl ?_
 subst h
 exact go_end ah (rs := [.tmp 4]) rfl rfl rfl
theorem lw (m : Nat) (p0 p1 : ae) (r0 : Int) (h : ∃ a, dT p0.At.Module p1.At.Module a ∧ ((a ≠ 0) → a = r0) ∧ ((a = 0) → ∃ b, iM p0.At.Path p1.At.Path b ∧ ((b ≠ 0) → b = r0) ∧ ((b = 0) → ∃ c, dT p0.Kind p1.Kind c ∧ c = r0))) : cM p0 p1 r0 := by
 refine ⟨rfl, rfl, ?_⟩
 refine am 32 [] Tryz.func22 rfl rfl rfl (aA rfl) fun K hK => ?_
 refine gR 3 rfl <| gFP 0 rfl rfl rfl rfl <| gR 1 rfl <| gFP 1 rfl rfl rfl rfl <| gR 12 rfl ?_
 obtain ⟨a, hs4, h⟩ := h
 refine gC0 hs4 (by kernel_rfl) rfl rfl .rfl rfl <| gR 9 rfl <| qBh 15 rfl rfl rfl h eG dj (fun h => ?_) fun h => ?_
 refine gR 9 rfl ?_
 subst h
 exact go_end ah (rs := [.tmp 4]) rfl rfl rfl
 refine gR 12 rfl ?_
 obtain ⟨b, hs5, h⟩ := h
 refine gC0 hs5 (by kernel_rfl) rfl rfl .rfl rfl <| gR 9 rfl <| qBh 25 rfl rfl rfl h eG dj (fun h => ?_) fun h => ?_
 refine gR 9 rfl ?_
 subst h
 exact go_end ah (rs := [.tmp 4]) rfl rfl rfl
 refine gR 9 rfl ?_
 obtain ⟨c, hs6, h⟩ := h
 refine gC0 hs6 (by kernel_rfl) rfl rfl .rfl rfl <| gR 4 rfl ?_
 subst h
 exact go_end ah (rs := [.tmp 4]) rfl rfl rfl
def aT (m : Nat) (p1 p2 a : Int) (b m0 : List ae) : Prop := ∀ (K : Ctx) (j1 : Nat), aG K [0] → m ≤ j1 → qLG K Tryz.f64 (fun u G => u = .tup [] ∧ G = ⟨1, [(0, .row 42 3 (List.map ae.w m0))]⟩) (xC (aj Tryz.f64)) [.loop (xC (aj Tryz.f64)) j1, .blk 0] 53 (mkF 53 0 [(0, .sl 0), (1, .int .i64 p1), (2, .int .i64 p2), (3, .clo 22 []), (8, .int .i64 a)]) ⟨1, [(0, .row 42 3 (List.map ae.w b))]⟩
def bV (m : Nat) (p1 p2 : Int) (a : List ae) (b c : Int) (m0 : List ae) : Prop := ∀ (K : Ctx) (j1 j2 : Nat), aG K [0] → m ≤ j1 → m ≤ j2 → qLG K Tryz.f64 (fun u G => u = .tup [] ∧ G = ⟨1, [(0, .row 42 3 (List.map ae.w m0))]⟩) (xC (cK (cA (cB (xC (aj Tryz.f64)))))) [.loop (xC (cK (cA (cB (xC (aj Tryz.f64)))))) j1, .blk 2, .blk 1, .seq (xA (xC (aj Tryz.f64))), .loop (xC (aj Tryz.f64)) j2, .blk 0] 53 (mkF 53 0 [(0, .sl 0), (1, .int .i64 p1), (2, .int .i64 p2), (3, .clo 22 []), (8, .int .i64 c), (9, .int .i64 b)]) ⟨1, [(0, .row 42 3 (List.map ae.w a))]⟩
theorem gu (m : Nat) (p0 : List ae) (p1 p2 : Int) (m0 : List ae) (h : InI (p1 + 1) ∧ aT m p1 p2 (p1 + 1) p0 m0) : bn p0 p1 p2 m0 := by
 refine am 53 [0] Tryz.func64 rfl rfl rfl (aA rfl) fun K hK => ?_
 refine gR 3 rfl ?_
 obtain ⟨hb, h⟩ := h
 exact gR 1 rfl <| gV 11 (.int .i64 (p1 + 1)) rfl (ax hb rfl) rfl <| gR 4 rfl <| go_loop m <| gJ (h K _ hK (by omega)) [0] [0] rfl hK pq5 ⟨⟨_, rfl, rfl, rfl, (vF _ p0).symm⟩, trivial⟩ rfl
theorem df (m : Nat) (p1 p2 b : Int) (a m0 : List ae) (h : ((b < p2) → bV m p1 p2 a b b m0) ∧ ((¬ b < p2) → a = m0)) : aT (m + 1) p1 p2 b a m0 := by
 intro K j1 hK hj1
 obtain ⟨j1, rfl⟩ : ∃ j, j1 = j + 1 := ⟨j1 - 1, by omega⟩
 refine gR 8 rfl <| gB 14 rfl rfl rfl ?_ ?_ <;> intro hd
 replace hd := (of_decide_eq_true hd)
 replace h := h.1 hd
 exact gR 12 rfl <| go_loop m <| gJ (h K _ _ hK (by omega) (by omega)) [0] [0] rfl hK pq6 ⟨⟨_, rfl, rfl, rfl, (vF _ a).symm⟩, trivial⟩ rfl
 replace hd := (of_decide_eq_false hd)
 replace h := h.2 hd
 refine gR 3 rfl <| go_xloopE <| gR 1 rfl ?_
 subst h
 exact go_sub (F' := (mkF 53 0 [])) (H' := ⟨1, [(0, .row 42 3 (List.map ae.w a))]⟩) [0] [0] rfl hK trivial ⟨⟨_, rfl, rfl, rfl, (vF _ a).symm⟩, trivial⟩ rfl <| go_endD [] ah (rs := []) rfl rfl ⟨rfl, rfl⟩
theorem fW (m : Nat) (p1 p2 : Int) (b : List ae) (a g : Int) (m0 : List ae) (h : ((p1 < a) → ∃ k, a = ((k : Nat) : Int) ∧ ∃ q, b[k]? = some q ∧ InI (a - 1) ∧ ∃ l, (a - 1) = ((l : Nat) : Int) ∧ ∃ r, b[l]? = some r ∧ ∃ n, cM q r n ∧ ((n < 0) → InI (a - 1) ∧ InI (a - 1) ∧ ∃ o, (a - 1) = ((o : Nat) : Int) ∧ ∃ e, b[o]? = some e ∧ ∃ p, a = ((p : Nat) : Int) ∧ ∃ i, b[p]? = some i ∧ ∃ c, a = ((c : Nat) : Int) ∧ ∃ s, b[c]? = some s ∧ ∃ d, (a - 1) = ((d : Nat) : Int) ∧ ∃ t, (b.set c e)[d]? = some t ∧ InI (a - 1) ∧ bV m p1 p2 ((b.set c e).set d i) (a - 1) g m0) ∧ ((¬ n < 0) → InI (g + 1) ∧ aT m p1 p2 (g + 1) b m0)) ∧ ((¬ p1 < a) → InI (g + 1) ∧ aT m p1 p2 (g + 1) b m0)) : bV (m + 1) p1 p2 b a g m0 := by
 intro K j1 j2 hK hj1 hj2
 obtain ⟨j1, rfl⟩ : ∃ j, j1 = j + 1 := ⟨j1 - 1, by omega⟩
 obtain ⟨j2, rfl⟩ : ∃ j, j2 = j + 1 := ⟨j2 - 1, by omega⟩
 refine gR 2 rfl <| gDs [0] 14 17 rfl (by kernel_rfl) (by kernel_rfl) <| gDr [(0, 2), (1, 0), (2, 0), (3, 0)] (by kernel_rfl) rfl rfl <| gB 21 rfl rfl rfl ?_ ?_ <;> intro hd
 refine gT 20 rfl hd rfl ?_
 replace hd := (of_decide_eq_true hd)
 replace h := h.1 hd
 refine gDr [(4, 2), (5, 2), (6, 2)] (by kernel_rfl) rfl rfl ?_
 obtain ⟨k, y, h⟩ := h
 refine gV 24 (.int .i64 ((k : Nat) : Int)) rfl (cx y) rfl ?_
 obtain ⟨q, hxx2_2, h⟩ := h
 refine gYd 7 rfl (by kernel_rfl) (yIO ah rfl rfl rfl rfl (by have := (mapget (f := ae.w) hxx2_2); exact (List.getElem?_eq_some_iff.1 this).1)) rfl rfl ?_
 refine uP 8 rfl (by kernel_rfl) rfl ah rfl rfl rfl (mapget (f := ae.w) hxx2_2) rfl rfl ?_
 refine gDr [(9, 2), (10, 0)] (by kernel_rfl) rfl rfl ?_
 obtain ⟨hb, h⟩ := h
 refine gDr [(11, 0)] (by kernel_rfl) rfl rfl <| gV 29 (.int .i64 (a - 1)) rfl (ax hb rfl) rfl ?_
 obtain ⟨l, z, h⟩ := h
 refine gV 29 (.int .i64 ((l : Nat) : Int)) rfl (cx z) rfl ?_
 obtain ⟨r, hxx2_4, h⟩ := h
 refine kW 12 rfl (by kernel_rfl) (yIO ah rfl rfl rfl rfl (by have := (mapget (f := ae.w) hxx2_4); exact (List.getElem?_eq_some_iff.1 this).1)) rfl rfl ?_
 refine dw 13 (.nop) rfl (by kernel_rfl) (dLe ah rfl rfl rfl (mapget (f := ae.w) hxx2_4) rfl) trivial rfl (by kernel_rfl) rfl rfl ?_
 obtain ⟨n, hs4, h⟩ := h
 refine yO 14 hs4 (by kernel_rfl) rfl (by kernel_rfl) rfl rfl rfl .rfl rfl rfl ?_
 refine gDr [(15, 1), (16, 1)] (by kernel_rfl) rfl rfl <| gDe (by kernel_rfl) <| gR 1 rfl <| gB 34 rfl rfl rfl ?_ ?_ <;> intro hd
 replace hd := (of_decide_eq_true hd)
 replace h := h.1 hd
 refine gR 5 rfl <| gDs [0] 15 18 rfl (by kernel_rfl) (by kernel_rfl) <| gDr [(0, 2), (1, 2), (2, 2), (3, 2)] (by kernel_rfl) rfl rfl ?_
 obtain ⟨hb, h⟩ := h
 refine gDr [(4, 2)] (by kernel_rfl) rfl rfl <| gV 41 (.int .i64 (a - 1)) rfl (ax hb rfl) rfl <| gDr [(5, 2), (6, 2)] (by kernel_rfl) rfl rfl ?_
 obtain ⟨hb, h⟩ := h
 refine gDr [(7, 2)] (by kernel_rfl) rfl rfl <| gV 44 (.int .i64 (a - 1)) rfl (ax hb rfl) rfl ?_
 obtain ⟨o, α, h⟩ := h
 refine gV 44 (.int .i64 ((o : Nat) : Int)) rfl (cx α) rfl ?_
 obtain ⟨e, hxx2_7, h⟩ := h
 refine gYd 8 rfl (by kernel_rfl) (yIO ah rfl rfl rfl rfl (by have := (mapget (f := ae.w) hxx2_7); exact (List.getElem?_eq_some_iff.1 this).1)) rfl rfl ?_
 refine uP 9 rfl (by kernel_rfl) rfl ah rfl rfl rfl (mapget (f := ae.w) hxx2_7) rfl rfl ?_
 refine gDr [(10, 2), (11, 0)] (by kernel_rfl) rfl rfl ?_
 obtain ⟨p, β, h⟩ := h
 refine gV 48 (.int .i64 ((p : Nat) : Int)) rfl (cx β) rfl ?_
 obtain ⟨i, hxx2_9, h⟩ := h
 refine kW 12 rfl (by kernel_rfl) (yIO ah rfl rfl rfl rfl (by have := (mapget (f := ae.w) hxx2_9); exact (List.getElem?_eq_some_iff.1 this).1)) rfl rfl ?_
 refine dw 13 (.nop) rfl (by kernel_rfl) (dLe ah rfl rfl rfl (mapget (f := ae.w) hxx2_9) rfl) trivial rfl (by kernel_rfl) rfl rfl ?_
 obtain ⟨c, v, h⟩ := h
 refine gV 38 (.int .i64 ((c : Nat) : Int)) rfl (cx v) rfl ?_
 obtain ⟨s, hxx2_11, h⟩ := h
 refine kW 14 rfl (by kernel_rfl) (yIO ah rfl rfl rfl rfl (by have := (mapget (f := ae.w) hxx2_11); exact (List.getElem?_eq_some_iff.1 this).1)) rfl rfl ?_
 refine dw 15 (.set 0 (.row 42 3 (List.map ae.w (b.set c e)))) rfl (by kernel_rfl) (dSe ah rfl rfl rfl rfl (mapget (f := ae.w) hxx2_11) rfl (yv ae.w b c e)) (okS rfl) rfl (by kernel_rfl) rfl rfl ?_
 obtain ⟨d, x, h⟩ := h
 refine gV 41 (.int .i64 ((d : Nat) : Int)) rfl (cx x) rfl ?_
 obtain ⟨t, hxx2_13, h⟩ := h
 refine kW 16 rfl (by kernel_rfl) (yIO ah rfl rfl rfl rfl (by have := (mapget (f := ae.w) hxx2_13); exact (List.getElem?_eq_some_iff.1 this).1)) rfl rfl ?_
 refine dw 17 (.set 0 (.row 42 3 (List.map ae.w ((b.set c e).set d i)))) rfl (by kernel_rfl) (dSe ah rfl rfl rfl rfl (mapget (f := ae.w) hxx2_13) rfl (yv ae.w (b.set c e) d i)) (okS rfl) rfl (by kernel_rfl) rfl rfl ?_
 refine gDe (by kernel_rfl) <| gR 4 rfl ?_
 obtain ⟨hb, h⟩ := h
 exact gR 1 rfl <| gV 36 (.int .i64 (a - 1)) rfl (ax hb rfl) rfl <| gR 2 rfl <| go_xloop <| gJ (h K _ _ hK (by omega) (by omega)) [0] [0] rfl hK pq6 ⟨⟨_, rfl, rfl, rfl, (vF _ ((b.set c e).set d i)).symm⟩, trivial⟩ rfl
 replace hd := (of_decide_eq_false hd)
 replace h := h.2 hd
 refine gR 3 rfl <| go_xloopE <| gR 5 rfl ?_
 obtain ⟨hb, h⟩ := h
 exact gR 1 rfl <| gV 16 (.int .i64 (g + 1)) rfl (ax hb rfl) rfl <| gR 2 rfl <| go_xloop <| gJ (h K _ hK (by omega)) [0] [0] rfl hK pq5 ⟨⟨_, rfl, rfl, rfl, (vF _ b).symm⟩, trivial⟩ rfl
 refine gF 20 rfl hd rfl ?_
 replace hd := (of_decide_eq_false hd)
 replace h := h.2 hd
 refine gDr [(4, 2), (5, 2), (6, 2), (7, 2), (8, 2), (9, 2), (10, 0), (11, 0), (12, 0), (13, 0), (14, 0), (15, 0), (16, 1)] (by kernel_rfl) rfl rfl <| gDe (by kernel_rfl) <| gR 4 rfl <| go_xloopE <| gR 5 rfl ?_
 obtain ⟨hb, h⟩ := h
 exact gR 1 rfl <| gV 16 (.int .i64 (g + 1)) rfl (ax hb rfl) rfl <| gR 2 rfl <| go_xloop <| gJ (h K _ hK (by omega)) [0] [0] rfl hK pq5 ⟨⟨_, rfl, rfl, rfl, (vF _ b).symm⟩, trivial⟩ rfl
def dg (m : Nat) (p1 : Int) (a : List ae) (b c : Nat) (m0 : List ae) : Prop := ∀ (K : Ctx) (j1 : Nat), aG K [0] → m ≤ j1 → qLG K Tryz.f39 (fun u G => u = .tup [] ∧ G = ⟨1, [(0, .row 42 3 (List.map ae.w m0))]⟩) (xB (xD (aj Tryz.f39))) [.loop (xB (xD (aj Tryz.f39))) j1, .blk 0, .seq (xF (aj Tryz.f39))] 63 (mkF 63 0 [(0, .sl 0), (1, .int .i64 p1), (2, .clo 22 []), (6, .int .i64 20), (7, .int .i64 (b : Int)), (8, .int .i64 (c : Int))]) ⟨1, [(0, .row 42 3 (List.map ae.w a))]⟩
def eW (m : Nat) (p1 : Int) (a : List ae) (b : Int) (m0 : List ae) : Prop := ∀ (K : Ctx) (j1 : Nat), aG K [0] → m ≤ j1 → qLG K Tryz.f39 (fun u G => u = .tup [] ∧ G = ⟨1, [(0, .row 42 3 (List.map ae.w m0))]⟩) (xB (xG (aj Tryz.f39))) [.loop (xB (xG (aj Tryz.f39))) j1, .blk 2] 63 (mkF 63 0 [(0, .sl 0), (1, .int .i64 p1), (2, .clo 22 []), (6, .int .i64 b)]) ⟨1, [(0, .row 42 3 (List.map ae.w a))]⟩
def jm (m : Nat) (p1 : Int) (a : List ae) (b c d : Int) (m0 : List ae) : Prop := ∀ (K : Ctx) (j1 j2 : Nat), aG K [0] → m ≤ j1 → m ≤ j2 → qLG K Tryz.f39 (fun u G => u = .tup [] ∧ G = ⟨1, [(0, .row 42 3 (List.map ae.w m0))]⟩) (xB (cA (cB (cK (cB (xB (xG (aj Tryz.f39)))))))) [.loop (xB (cA (cB (cK (cB (xB (xG (aj Tryz.f39)))))))) j1, .blk 4, .seq (xA (cK (cB (xB (xG (aj Tryz.f39)))))), .blk 3, .loop (xB (xG (aj Tryz.f39))) j2, .blk 2] 63 (mkF 63 0 [(0, .sl 0), (1, .int .i64 p1), (2, .clo 22 []), (6, .int .i64 d), (7, .int .i64 b), (8, .int .i64 c)]) ⟨1, [(0, .row 42 3 (List.map ae.w a))]⟩
theorem jj (m : Nat) (p0 : List ae) (p1 : Int) (m0 : List ae) (h : dg m p1 p0 0 20 m0) : fv p0 p1 m0 := by
 refine am 63 [0] Tryz.func39 rfl rfl rfl (aA rfl) fun K hK => ?_
 exact gR 14 rfl <| go_loop m <| gJ (h K _ hK (by omega)) [0] [0] rfl hK pq6 ⟨⟨_, rfl, rfl, rfl, (vF _ p0).symm⟩, trivial⟩ rfl
theorem iN (m : Nat) (p1 : Int) (d : List ae) (e a : Nat) (m0 : List ae) (h : (((a : Int) ≤ p1) → ∃ b, bn d (e : Int) (a : Int) b ∧ a + 20 ≤ 9223372036854775807 ∧ dg m p1 b a (a + 20) m0) ∧ ((¬ (a : Int) ≤ p1) → ∃ c, bn d (e : Int) p1 c ∧ eW m p1 c 20 m0)) : dg (m + 1) p1 d e a m0 := by
 intro K j1 hK hj1
 obtain ⟨j1, rfl⟩ : ∃ j, j1 = j + 1 := ⟨j1 - 1, by omega⟩
 refine gR 8 rfl <| gB 13 rfl rfl rfl ?_ ?_ <;> intro hd
 replace hd := (of_decide_eq_true hd)
 replace h := h.1 hd
 refine gR 10 rfl ?_
 obtain ⟨b, hs13, h⟩ := h
 refine gCZ hs13 [0] ⟨⟨_, rfl, ⟨rfl, rfl, (vF _ d).symm⟩⟩, trivial⟩ ?_
 refine gHR 0 (List.map ae.w b) rfl (vF _ b) rfl <| gR 11 rfl ?_
 obtain ⟨hb, h⟩ := h
 exact gR 1 rfl <| gV 22 (.int .i64 ((a + 20 : Nat) : Int)) rfl (ax (by omega) (by omega)) rfl <| gR 3 rfl <| go_xloop <| gJ (h K _ hK (by omega)) [0] [0] rfl hK pq6 ⟨⟨_, rfl, rfl, rfl, (vF _ b).symm⟩, trivial⟩ rfl
 replace hd := (of_decide_eq_false hd)
 replace h := h.2 hd
 refine gR 3 rfl <| go_xloopE <| gR 8 rfl ?_
 obtain ⟨c, hs14, h⟩ := h
 refine gCZ hs14 [0] ⟨⟨_, rfl, ⟨rfl, rfl, (vF _ d).symm⟩⟩, trivial⟩ ?_
 exact gHR 0 (List.map ae.w c) rfl (vF _ c) rfl <| gR 3 rfl <| go_loop m <| gJ (h K _ hK (by omega)) [0] [0] rfl hK pq4 ⟨⟨_, rfl, rfl, rfl, (vF _ c).symm⟩, trivial⟩ rfl
theorem iV (m : Nat) (p1 : Int) (a : List ae) (b : Int) (m0 : List ae) (h : ((b < p1) → InI (2 * b) ∧ jm m p1 a 0 (2 * b) b m0) ∧ ((¬ b < p1) → a = m0)) : eW (m + 1) p1 a b m0 := by
 intro K j1 hK hj1
 obtain ⟨j1, rfl⟩ : ∃ j, j1 = j + 1 := ⟨j1 - 1, by omega⟩
 refine gR 8 rfl <| gB 30 rfl rfl rfl ?_ ?_ <;> intro hd
 replace hd := (of_decide_eq_true hd)
 replace h := h.1 hd
 refine gR 7 rfl ?_
 obtain ⟨hb, h⟩ := h
 exact gY (zt rfl rfl hb) rfl rfl <| gR 6 rfl <| go_loop m <| gJ (h K _ _ hK (by omega) (by omega)) [0] [0] rfl hK pq6 ⟨⟨_, rfl, rfl, rfl, (vF _ a).symm⟩, trivial⟩ rfl
 replace hd := (of_decide_eq_false hd)
 replace h := h.2 hd
 refine gR 3 rfl <| go_xloopE <| gR 1 rfl ?_
 subst h
 exact go_sub (F' := (mkF 63 0 [])) (H' := ⟨1, [(0, .row 42 3 (List.map ae.w a))]⟩) [0] [0] rfl hK trivial ⟨⟨_, rfl, rfl, rfl, (vF _ a).symm⟩, trivial⟩ rfl <| go_endD [] ah (rs := []) rfl rfl ⟨rfl, rfl⟩
theorem iP (m : Nat) (p0 m0 : List ae) (h : ∃ a, fv p0 (p0.length : Int) a ∧ a = m0) : aR p0 m0 := by
 refine am 9 [0] Tryz.func21 rfl rfl rfl (aA rfl) fun K hK => ?_
 refine gR 4 rfl <| gV 6 (.int .i64 (p0.length : Int)) rfl (aM (aJ ae.w _)) rfl <| gLO 0 rfl (aJ ae.w _) fun hl3 => gR 1 rfl ?_
 obtain ⟨a, hs4, h⟩ := h
 refine gCZ hs4 [0] ⟨⟨_, rfl, ⟨rfl, rfl, (vF _ p0).symm⟩⟩, trivial⟩ ?_
 refine gHR 0 (List.map ae.w a) rfl (vF _ a) rfl <| gR 1 rfl ?_
 subst h
 exact go_sub (F' := (mkF 9 0 [])) (H' := ⟨1, [(0, .row 42 3 (List.map ae.w a))]⟩) [0] [0] rfl hK trivial ⟨⟨_, rfl, rfl, rfl, (vF _ a).symm⟩, trivial⟩ rfl <| go_endD [] ah (rs := []) rfl rfl ⟨rfl, rfl⟩
structure ac where
 simple : Int
 lists : Int
abbrev ac.c (x : ac) : List V := [.int .i64 x.simple, .int .i64 x.lists]
abbrev ac.w (x : ac) : V := .agg x.c
structure aa where
 params : (List ac)
 result : ac
abbrev aa.c (x : aa) : List V := [.row 2 (List.map ac.w x.params), .int .i64 x.result.simple, .int .i64 x.result.lists]
abbrev aa.w (x : aa) : V := .agg x.c
structure ak where
 name : (List UInt8)
 typ : ac
abbrev ak.c (x : ak) : List V := [.str x.name, .int .i64 x.typ.simple, .int .i64 x.typ.lists]
abbrev ak.w (x : ak) : V := .agg x.c
abbrev vA (a0 : List Tree) (a1 : V) (a2 : Int) (a3 : Int) (a4 : List Int) (a5 : Int) (a6 : Int) : Ob := .var 63 [.row 4 (kidsV a0), a1, .sl 1, .sl 2, .int .i64 a2, .sl 3, .sl 4, .int .i64 a3, .row 1 (List.map (V.int .i64) a4), .int .i64 a5, .int .i64 a6]
abbrev vC (a0 : List Tree) (a1 : V) (a2 : Int) (a3 : Int) (a4 : List Int) (a5 : Int) (a6 : Int) : Ob := .var 63 [.row 4 (kidsV a0), a1, .sl 1, .sl 2, .int .i64 a2, .sl 9, .sl 10, .int .i64 a3, .row 1 (List.map (V.int .i64) a4), .int .i64 a5, .int .i64 a6]
abbrev vB (a0 : Int) (a1 : Int) : Ob := .var 61 [.int .i64 a0, .int .i64 a1]
def kP (p1 : Int) (r0 : List Int) : Prop := aY [] Tryz.prog 88 [.nils, .int .i64 p1] ⟨0, []⟩ (fun u G => u = .sl 0 ∧ G = ⟨1, [(0, .row 3 1 (List.map (V.int .i64) r0))]⟩)
def cc (β : List Tree) (q : List GTarget) (n : (List ((Int × (List UInt8)) × ac))) (a : (List ((Int × Int) × aa))) (s : Int) (z : List Int) (t : List ae) (d : Int) (k : List Int) (e i p1 : Int) (p2 : Tree) (r0 : ac) (γ : List Tree) (r : List GTarget) (o : (List ((Int × (List UInt8)) × ac))) (b : (List ((Int × Int) × aa))) (v : Int) (α : List Int) (y : List ae) (f : Int) (l : List Int) (g j : Int) : Prop := aY [] Tryz.prog 57 [.ptr 0 0, .int .i64 p1, .agg (aq p2)] ⟨5, [(4, .row 42 3 (List.map ae.w t)), (3, .row 3 1 (List.map (V.int .i64) z)), (2, .mp 84 81 (List.map (fun p => (fun x => V.agg [(V.int .i64 x.1), (V.int .i64 x.2)]) p.1) a) (List.map (fun p => aa.w p.2) a)), (1, .mp 137 61 (List.map (fun p => (fun x => V.agg [(V.int .i64 x.1), (V.str x.2)]) p.1) n) (List.map (fun p => ac.w p.2) n)), (0, vA β (.row 5 (List.map GTarget.w q)) s d k e i)]⟩ (fun u G => u = .agg (ac.c r0) ∧ G = ⟨6, [(4, .row 42 3 (List.map ae.w y)), (3, .row 3 1 (List.map (V.int .i64) α)), (2, .mp 84 81 (List.map (fun p => (fun x => V.agg [(V.int .i64 x.1), (V.int .i64 x.2)]) p.1) b) (List.map (fun p => aa.w p.2) b)), (1, .mp 137 61 (List.map (fun p => (fun x => V.agg [(V.int .i64 x.1), (V.str x.2)]) p.1) o) (List.map (fun p => ac.w p.2) o)), (0, vA γ (.row 5 (List.map GTarget.w r)) v f l g j)]⟩)
def dy (β : List Tree) (q : List GTarget) (n : (List ((Int × (List UInt8)) × ac))) (a : (List ((Int × Int) × aa))) (s : Int) (z : List Int) (t : List ae) (d : Int) (k : List Int) (e i p1 : Int) (p2 : Tree) (r0 : aa) (γ : List Tree) (r : List GTarget) (o : (List ((Int × (List UInt8)) × ac))) (b : (List ((Int × Int) × aa))) (v : Int) (α : List Int) (y : List ae) (f : Int) (l : List Int) (g j : Int) : Prop := aY [] Tryz.prog 32 [.ptr 0 0, .int .i64 p1, .agg (aq p2)] ⟨5, [(4, .row 42 3 (List.map ae.w t)), (3, .row 3 1 (List.map (V.int .i64) z)), (2, .mp 84 81 (List.map (fun p => (fun x => V.agg [(V.int .i64 x.1), (V.int .i64 x.2)]) p.1) a) (List.map (fun p => aa.w p.2) a)), (1, .mp 137 61 (List.map (fun p => (fun x => V.agg [(V.int .i64 x.1), (V.str x.2)]) p.1) n) (List.map (fun p => ac.w p.2) n)), (0, vA β (.row 5 (List.map GTarget.w q)) s d k e i)]⟩ (fun u G => u = .agg (aa.c r0) ∧ G = ⟨6, [(4, .row 42 3 (List.map ae.w y)), (3, .row 3 1 (List.map (V.int .i64) α)), (2, .mp 84 81 (List.map (fun p => (fun x => V.agg [(V.int .i64 x.1), (V.int .i64 x.2)]) p.1) b) (List.map (fun p => aa.w p.2) b)), (1, .mp 137 61 (List.map (fun p => (fun x => V.agg [(V.int .i64 x.1), (V.str x.2)]) p.1) o) (List.map (fun p => ac.w p.2) o)), (0, vA γ (.row 5 (List.map GTarget.w r)) v f l g j)]⟩)
def bR (β : List Tree) (q : List GTarget) (n : (List ((Int × (List UInt8)) × ac))) (a : (List ((Int × Int) × aa))) (s : Int) (z : List Int) (t : List ae) (d : Int) (k : List Int) (e i : Int) (p1 : Tree) (p2 : aa) (γ : List Tree) (r : List GTarget) (o : (List ((Int × (List UInt8)) × ac))) (b : (List ((Int × Int) × aa))) (v : Int) (α : List Int) (y : List ae) (f : Int) (l : List Int) (g j : Int) : Prop := aY [] Tryz.prog 34 [.ptr 0 0, .agg (aq p1), .agg (aa.c p2)] ⟨5, [(4, .row 42 3 (List.map ae.w t)), (3, .row 3 1 (List.map (V.int .i64) z)), (2, .mp 84 81 (List.map (fun p => (fun x => V.agg [(V.int .i64 x.1), (V.int .i64 x.2)]) p.1) a) (List.map (fun p => aa.w p.2) a)), (1, .mp 137 61 (List.map (fun p => (fun x => V.agg [(V.int .i64 x.1), (V.str x.2)]) p.1) n) (List.map (fun p => ac.w p.2) n)), (0, vA β (.row 5 (List.map GTarget.w q)) s d k e i)]⟩ (fun u G => u = .tup [] ∧ G = ⟨5, [(4, .row 42 3 (List.map ae.w y)), (3, .row 3 1 (List.map (V.int .i64) α)), (2, .mp 84 81 (List.map (fun p => (fun x => V.agg [(V.int .i64 x.1), (V.int .i64 x.2)]) p.1) b) (List.map (fun p => aa.w p.2) b)), (1, .mp 137 61 (List.map (fun p => (fun x => V.agg [(V.int .i64 x.1), (V.str x.2)]) p.1) o) (List.map (fun p => ac.w p.2) o)), (0, vA γ (.row 5 (List.map GTarget.w r)) v f l g j)]⟩)
def aC (β : List Tree) (q : List GTarget) (n : (List ((Int × (List UInt8)) × ac))) (a : (List ((Int × Int) × aa))) (s : Int) (z : List Int) (t : List ae) (d : Int) (k : List Int) (e i : Int) (p1 : Tree) (p2 : Int) (p3 : List ak) (r0 : ac) (γ : List Tree) (r : List GTarget) (o : (List ((Int × (List UInt8)) × ac))) (b : (List ((Int × Int) × aa))) (v : Int) (α : List Int) (y : List ae) (f : Int) (l : List Int) (g j : Int) : Prop := aY [] Tryz.prog 59 [.ptr 0 0, .agg (aq p1), .int .i64 p2, .lk (List.map ak.c p3)] ⟨5, [(4, .row 42 3 (List.map ae.w t)), (3, .row 3 1 (List.map (V.int .i64) z)), (2, .mp 84 81 (List.map (fun p => (fun x => V.agg [(V.int .i64 x.1), (V.int .i64 x.2)]) p.1) a) (List.map (fun p => aa.w p.2) a)), (1, .mp 137 61 (List.map (fun p => (fun x => V.agg [(V.int .i64 x.1), (V.str x.2)]) p.1) n) (List.map (fun p => ac.w p.2) n)), (0, vA β (.row 5 (List.map GTarget.w q)) s d k e i)]⟩ (fun u G => u = .agg (ac.c r0) ∧ G = ⟨6, [(4, .row 42 3 (List.map ae.w y)), (3, .row 3 1 (List.map (V.int .i64) α)), (2, .mp 84 81 (List.map (fun p => (fun x => V.agg [(V.int .i64 x.1), (V.int .i64 x.2)]) p.1) b) (List.map (fun p => aa.w p.2) b)), (1, .mp 137 61 (List.map (fun p => (fun x => V.agg [(V.int .i64 x.1), (V.str x.2)]) p.1) o) (List.map (fun p => ac.w p.2) o)), (0, vA γ (.row 5 (List.map GTarget.w r)) v f l g j)]⟩)
def co (β : List Tree) (q : List GTarget) (n : (List ((Int × (List UInt8)) × ac))) (a : (List ((Int × Int) × aa))) (s : Int) (z : List Int) (t : List ae) (d : Int) (k : List Int) (e i : Int) (p1 : Tree) (p2 : List ak) (r0 : ac) (γ : List Tree) (r : List GTarget) (o : (List ((Int × (List UInt8)) × ac))) (b : (List ((Int × Int) × aa))) (v : Int) (α : List Int) (y : List ae) (f : Int) (l : List Int) (g j : Int) : Prop := aY [] Tryz.prog 86 [.ptr 0 0, .agg (aq p1), .lk (List.map ak.c p2)] ⟨5, [(4, .row 42 3 (List.map ae.w t)), (3, .row 3 1 (List.map (V.int .i64) z)), (2, .mp 84 81 (List.map (fun p => (fun x => V.agg [(V.int .i64 x.1), (V.int .i64 x.2)]) p.1) a) (List.map (fun p => aa.w p.2) a)), (1, .mp 137 61 (List.map (fun p => (fun x => V.agg [(V.int .i64 x.1), (V.str x.2)]) p.1) n) (List.map (fun p => ac.w p.2) n)), (0, vA β (.row 5 (List.map GTarget.w q)) s d k e i)]⟩ (fun u G => u = .agg (ac.c r0) ∧ G = ⟨6, [(4, .row 42 3 (List.map ae.w y)), (3, .row 3 1 (List.map (V.int .i64) α)), (2, .mp 84 81 (List.map (fun p => (fun x => V.agg [(V.int .i64 x.1), (V.int .i64 x.2)]) p.1) b) (List.map (fun p => aa.w p.2) b)), (1, .mp 137 61 (List.map (fun p => (fun x => V.agg [(V.int .i64 x.1), (V.str x.2)]) p.1) o) (List.map (fun p => ac.w p.2) o)), (0, vA γ (.row 5 (List.map GTarget.w r)) v f l g j)]⟩)
def dD (β : List Tree) (q : List GTarget) (n : (List ((Int × (List UInt8)) × ac))) (a : (List ((Int × Int) × aa))) (s : Int) (z : List Int) (t : List ae) (d : Int) (k : List Int) (e i : Int) (p1 : Tree) (p2 : List ak) (r0 : ac) (γ : List Tree) (r : List GTarget) (o : (List ((Int × (List UInt8)) × ac))) (b : (List ((Int × Int) × aa))) (v : Int) (α : List Int) (y : List ae) (f : Int) (l : List Int) (g j : Int) : Prop := aY [] Tryz.prog 101 [.ptr 0 0, .agg (aq p1), .lk (List.map ak.c p2)] ⟨5, [(4, .row 42 3 (List.map ae.w t)), (3, .row 3 1 (List.map (V.int .i64) z)), (2, .mp 84 81 (List.map (fun p => (fun x => V.agg [(V.int .i64 x.1), (V.int .i64 x.2)]) p.1) a) (List.map (fun p => aa.w p.2) a)), (1, .mp 137 61 (List.map (fun p => (fun x => V.agg [(V.int .i64 x.1), (V.str x.2)]) p.1) n) (List.map (fun p => ac.w p.2) n)), (0, vA β (.row 5 (List.map GTarget.w q)) s d k e i)]⟩ (fun u G => u = .agg (ac.c r0) ∧ G = ⟨6, [(4, .row 42 3 (List.map ae.w y)), (3, .row 3 1 (List.map (V.int .i64) α)), (2, .mp 84 81 (List.map (fun p => (fun x => V.agg [(V.int .i64 x.1), (V.int .i64 x.2)]) p.1) b) (List.map (fun p => aa.w p.2) b)), (1, .mp 137 61 (List.map (fun p => (fun x => V.agg [(V.int .i64 x.1), (V.str x.2)]) p.1) o) (List.map (fun p => ac.w p.2) o)), (0, vA γ (.row 5 (List.map GTarget.w r)) v f l g j)]⟩)
def fV (β : List Tree) (q : List GTarget) (n : (List ((Int × (List UInt8)) × ac))) (a : (List ((Int × Int) × aa))) (s : Int) (z : List Int) (t : List ae) (d : Int) (k : List Int) (e i : Int) (p1 : Tree) (p2 : List ak) (r0 : ac) (γ : List Tree) (r : List GTarget) (o : (List ((Int × (List UInt8)) × ac))) (b : (List ((Int × Int) × aa))) (v : Int) (α : List Int) (y : List ae) (f : Int) (l : List Int) (g j : Int) : Prop := aY [] Tryz.prog 102 [.ptr 0 0, .agg (aq p1), .lk (List.map ak.c p2)] ⟨5, [(4, .row 42 3 (List.map ae.w t)), (3, .row 3 1 (List.map (V.int .i64) z)), (2, .mp 84 81 (List.map (fun p => (fun x => V.agg [(V.int .i64 x.1), (V.int .i64 x.2)]) p.1) a) (List.map (fun p => aa.w p.2) a)), (1, .mp 137 61 (List.map (fun p => (fun x => V.agg [(V.int .i64 x.1), (V.str x.2)]) p.1) n) (List.map (fun p => ac.w p.2) n)), (0, vA β (.row 5 (List.map GTarget.w q)) s d k e i)]⟩ (fun u G => u = .agg (ac.c r0) ∧ G = ⟨6, [(4, .row 42 3 (List.map ae.w y)), (3, .row 3 1 (List.map (V.int .i64) α)), (2, .mp 84 81 (List.map (fun p => (fun x => V.agg [(V.int .i64 x.1), (V.int .i64 x.2)]) p.1) b) (List.map (fun p => aa.w p.2) b)), (1, .mp 137 61 (List.map (fun p => (fun x => V.agg [(V.int .i64 x.1), (V.str x.2)]) p.1) o) (List.map (fun p => ac.w p.2) o)), (0, vA γ (.row 5 (List.map GTarget.w r)) v f l g j)]⟩)
def cR (β : List Tree) (q : List GTarget) (n : (List ((Int × (List UInt8)) × ac))) (a : (List ((Int × Int) × aa))) (s : Int) (z : List Int) (t : List ae) (d : Int) (k : List Int) (e i : Int) (p1 : Tree) (p2 : List ak) (r0 : ac) (γ : List Tree) (r : List GTarget) (o : (List ((Int × (List UInt8)) × ac))) (b : (List ((Int × Int) × aa))) (v : Int) (α : List Int) (y : List ae) (f : Int) (l : List Int) (g j : Int) : Prop := aY [] Tryz.prog 103 [.ptr 0 0, .agg (aq p1), .lk (List.map ak.c p2)] ⟨5, [(4, .row 42 3 (List.map ae.w t)), (3, .row 3 1 (List.map (V.int .i64) z)), (2, .mp 84 81 (List.map (fun p => (fun x => V.agg [(V.int .i64 x.1), (V.int .i64 x.2)]) p.1) a) (List.map (fun p => aa.w p.2) a)), (1, .mp 137 61 (List.map (fun p => (fun x => V.agg [(V.int .i64 x.1), (V.str x.2)]) p.1) n) (List.map (fun p => ac.w p.2) n)), (0, vA β (.row 5 (List.map GTarget.w q)) s d k e i)]⟩ (fun u G => u = .agg (ac.c r0) ∧ G = ⟨6, [(4, .row 42 3 (List.map ae.w y)), (3, .row 3 1 (List.map (V.int .i64) α)), (2, .mp 84 81 (List.map (fun p => (fun x => V.agg [(V.int .i64 x.1), (V.int .i64 x.2)]) p.1) b) (List.map (fun p => aa.w p.2) b)), (1, .mp 137 61 (List.map (fun p => (fun x => V.agg [(V.int .i64 x.1), (V.str x.2)]) p.1) o) (List.map (fun p => ac.w p.2) o)), (0, vA γ (.row 5 (List.map GTarget.w r)) v f l g j)]⟩)
def cJ (β : List Tree) (q : List GTarget) (n : (List ((Int × (List UInt8)) × ac))) (a : (List ((Int × Int) × aa))) (s : Int) (z : List Int) (t : List ae) (d : Int) (k : List Int) (e i : Int) (p1 : Tree) (p2 : List ak) (r0 : ac) (γ : List Tree) (r : List GTarget) (o : (List ((Int × (List UInt8)) × ac))) (b : (List ((Int × Int) × aa))) (v : Int) (α : List Int) (y : List ae) (f : Int) (l : List Int) (g j : Int) : Prop := aY [] Tryz.prog 104 [.ptr 0 0, .agg (aq p1), .lk (List.map ak.c p2)] ⟨5, [(4, .row 42 3 (List.map ae.w t)), (3, .row 3 1 (List.map (V.int .i64) z)), (2, .mp 84 81 (List.map (fun p => (fun x => V.agg [(V.int .i64 x.1), (V.int .i64 x.2)]) p.1) a) (List.map (fun p => aa.w p.2) a)), (1, .mp 137 61 (List.map (fun p => (fun x => V.agg [(V.int .i64 x.1), (V.str x.2)]) p.1) n) (List.map (fun p => ac.w p.2) n)), (0, vA β (.row 5 (List.map GTarget.w q)) s d k e i)]⟩ (fun u G => u = .agg (ac.c r0) ∧ G = ⟨6, [(4, .row 42 3 (List.map ae.w y)), (3, .row 3 1 (List.map (V.int .i64) α)), (2, .mp 84 81 (List.map (fun p => (fun x => V.agg [(V.int .i64 x.1), (V.int .i64 x.2)]) p.1) b) (List.map (fun p => aa.w p.2) b)), (1, .mp 137 61 (List.map (fun p => (fun x => V.agg [(V.int .i64 x.1), (V.str x.2)]) p.1) o) (List.map (fun p => ac.w p.2) o)), (0, vA γ (.row 5 (List.map GTarget.w r)) v f l g j)]⟩)
def dS (β : List Tree) (q : List GTarget) (n : (List ((Int × (List UInt8)) × ac))) (a : (List ((Int × Int) × aa))) (s : Int) (z : List Int) (t : List ae) (d : Int) (k : List Int) (e i : Int) (p1 : (ac × ac)) (r0 : ac) (γ : List Tree) (r : List GTarget) (o : (List ((Int × (List UInt8)) × ac))) (b : (List ((Int × Int) × aa))) (v : Int) (α : List Int) (y : List ae) (f : Int) (l : List Int) (g j : Int) : Prop := aY [] Tryz.prog 112 [.ptr 0 0, .agg [.int .i64 p1.1.simple, .int .i64 p1.1.lists, .int .i64 p1.2.simple, .int .i64 p1.2.lists]] ⟨5, [(4, .row 42 3 (List.map ae.w t)), (3, .row 3 1 (List.map (V.int .i64) z)), (2, .mp 84 81 (List.map (fun p => (fun x => V.agg [(V.int .i64 x.1), (V.int .i64 x.2)]) p.1) a) (List.map (fun p => aa.w p.2) a)), (1, .mp 137 61 (List.map (fun p => (fun x => V.agg [(V.int .i64 x.1), (V.str x.2)]) p.1) n) (List.map (fun p => ac.w p.2) n)), (0, vA β (.row 5 (List.map GTarget.w q)) s d k e i)]⟩ (fun u G => u = .agg (ac.c r0) ∧ G = ⟨6, [(4, .row 42 3 (List.map ae.w y)), (3, .row 3 1 (List.map (V.int .i64) α)), (2, .mp 84 81 (List.map (fun p => (fun x => V.agg [(V.int .i64 x.1), (V.int .i64 x.2)]) p.1) b) (List.map (fun p => aa.w p.2) b)), (1, .mp 137 61 (List.map (fun p => (fun x => V.agg [(V.int .i64 x.1), (V.str x.2)]) p.1) o) (List.map (fun p => ac.w p.2) o)), (0, vA γ (.row 5 (List.map GTarget.w r)) v f l g j)]⟩)
def aO (p0 p1 : ac) (r0 : Bool) : Prop := qS 58 [.agg (ac.c p0), .agg (ac.c p1)] (.bool r0)
def dM (p0 : List Tree) (r0 : Bool) : Prop := qS 17 [.row 4 (kidsV p0)] (.bool r0)
def gx (p0 r0 : Tree) (r1 : Int) : Prop := qS 84 [.agg (aq p0)] (.tup [.agg (aq r0), .int .i64 r1])
def ga (p0 : (List (List Int))) (r0 : List Int) : Prop := aY [] Tryz.prog 62 [.row 1 (List.map (fun l => V.row 1 (List.map (V.int .i64) l)) p0)] ⟨0, []⟩ (fun u G => u = .sl 0 ∧ G = ⟨1, [(0, .row 3 1 (List.map (V.int .i64) r0))]⟩)
def fG (p0 p1 : List Int) (r0 : Bool) : Prop := aY [0] Tryz.prog 87 [.sl 0, .row 1 (List.map (V.int .i64) p1)] ⟨1, [(0, .row 3 1 (List.map (V.int .i64) p0))]⟩ (fun u G => u = .bool r0 ∧ G = ⟨1, [(0, .row 3 1 (List.map (V.int .i64) p0))]⟩)
def ao (α : List Tree) (o : List GTarget) (l : (List ((Int × (List UInt8)) × ac))) (a : (List ((Int × Int) × aa))) (r : Int) (y : List Int) (s : List ae) (c : Int) (j : List Int) (d g p1 : Int) (p2 : List Int) (β : List Tree) (q : List GTarget) (n : (List ((Int × (List UInt8)) × ac))) (b : (List ((Int × Int) × aa))) (t : Int) (z : List Int) (v : List ae) (e : Int) (k : List Int) (f i : Int) : Prop := aY [] Tryz.prog 36 [.ptr 0 0, .int .i64 p1, .row 1 (List.map (V.int .i64) p2)] ⟨5, [(4, .row 42 3 (List.map ae.w s)), (3, .row 3 1 (List.map (V.int .i64) y)), (2, .mp 84 81 (List.map (fun p => (fun x => V.agg [(V.int .i64 x.1), (V.int .i64 x.2)]) p.1) a) (List.map (fun p => aa.w p.2) a)), (1, .mp 137 61 (List.map (fun p => (fun x => V.agg [(V.int .i64 x.1), (V.str x.2)]) p.1) l) (List.map (fun p => ac.w p.2) l)), (0, vA α (.row 5 (List.map GTarget.w o)) r c j d g)]⟩ (fun u G => u = .tup [] ∧ G = ⟨5, [(4, .row 42 3 (List.map ae.w v)), (3, .row 3 1 (List.map (V.int .i64) z)), (2, .mp 84 81 (List.map (fun p => (fun x => V.agg [(V.int .i64 x.1), (V.int .i64 x.2)]) p.1) b) (List.map (fun p => aa.w p.2) b)), (1, .mp 137 61 (List.map (fun p => (fun x => V.agg [(V.int .i64 x.1), (V.str x.2)]) p.1) n) (List.map (fun p => ac.w p.2) n)), (0, vA β (.row 5 (List.map GTarget.w q)) t e k f i)]⟩)
def cO (β : List Tree) (q : List GTarget) (n : (List ((Int × (List UInt8)) × ac))) (a : (List ((Int × Int) × aa))) (s : Int) (z : List Int) (t : List ae) (d : Int) (k : List Int) (e i : Int) (r0 : GTarget) (γ : List Tree) (r : List GTarget) (o : (List ((Int × (List UInt8)) × ac))) (b : (List ((Int × Int) × aa))) (v : Int) (α : List Int) (y : List ae) (f : Int) (l : List Int) (g j : Int) : Prop := aY [] Tryz.prog 63 [.ptr 0 0] ⟨5, [(4, .row 42 3 (List.map ae.w t)), (3, .row 3 1 (List.map (V.int .i64) z)), (2, .mp 84 81 (List.map (fun p => (fun x => V.agg [(V.int .i64 x.1), (V.int .i64 x.2)]) p.1) a) (List.map (fun p => aa.w p.2) a)), (1, .mp 137 61 (List.map (fun p => (fun x => V.agg [(V.int .i64 x.1), (V.str x.2)]) p.1) n) (List.map (fun p => ac.w p.2) n)), (0, vA β (.row 5 (List.map GTarget.w q)) s d k e i)]⟩ (fun u G => u = .agg (GTarget.c r0) ∧ G = ⟨6, [(4, .row 42 3 (List.map ae.w y)), (3, .row 3 1 (List.map (V.int .i64) α)), (2, .mp 84 81 (List.map (fun p => (fun x => V.agg [(V.int .i64 x.1), (V.int .i64 x.2)]) p.1) b) (List.map (fun p => aa.w p.2) b)), (1, .mp 137 61 (List.map (fun p => (fun x => V.agg [(V.int .i64 x.1), (V.str x.2)]) p.1) o) (List.map (fun p => ac.w p.2) o)), (0, vA γ (.row 5 (List.map GTarget.w r)) v f l g j)]⟩)
def aV (α : List Tree) (o : List GTarget) (l : (List ((Int × (List UInt8)) × ac))) (a : (List ((Int × Int) × aa))) (r : Int) (y : List Int) (s : List ae) (c : Int) (j : List Int) (d g p1 : Int) (β : List Tree) (q : List GTarget) (n : (List ((Int × (List UInt8)) × ac))) (b : (List ((Int × Int) × aa))) (t : Int) (z : List Int) (v : List ae) (e : Int) (k : List Int) (f i : Int) : Prop := aY [] Tryz.prog 33 [.ptr 0 0, .int .i64 p1] ⟨5, [(4, .row 42 3 (List.map ae.w s)), (3, .row 3 1 (List.map (V.int .i64) y)), (2, .mp 84 81 (List.map (fun p => (fun x => V.agg [(V.int .i64 x.1), (V.int .i64 x.2)]) p.1) a) (List.map (fun p => aa.w p.2) a)), (1, .mp 137 61 (List.map (fun p => (fun x => V.agg [(V.int .i64 x.1), (V.str x.2)]) p.1) l) (List.map (fun p => ac.w p.2) l)), (0, vA α (.row 5 (List.map GTarget.w o)) r c j d g)]⟩ (fun u G => u = .tup [] ∧ G = ⟨5, [(4, .row 42 3 (List.map ae.w v)), (3, .row 3 1 (List.map (V.int .i64) z)), (2, .mp 84 81 (List.map (fun p => (fun x => V.agg [(V.int .i64 x.1), (V.int .i64 x.2)]) p.1) b) (List.map (fun p => aa.w p.2) b)), (1, .mp 137 61 (List.map (fun p => (fun x => V.agg [(V.int .i64 x.1), (V.str x.2)]) p.1) n) (List.map (fun p => ac.w p.2) n)), (0, vA β (.row 5 (List.map GTarget.w q)) t e k f i)]⟩)
def ay (α : List Tree) (o : List GTarget) (l : (List ((Int × (List UInt8)) × ac))) (a : (List ((Int × Int) × aa))) (r : Int) (y : List Int) (s : List ae) (c : Int) (j : List Int) (d g : Int) (β : List Tree) (q : List GTarget) (n : (List ((Int × (List UInt8)) × ac))) (b : (List ((Int × Int) × aa))) (t : Int) (z : List Int) (v : List ae) (e : Int) (k : List Int) (f i : Int) : Prop := aY [] Tryz.prog 38 [.ptr 0 0] ⟨5, [(4, .row 42 3 (List.map ae.w s)), (3, .row 3 1 (List.map (V.int .i64) y)), (2, .mp 84 81 (List.map (fun p => (fun x => V.agg [(V.int .i64 x.1), (V.int .i64 x.2)]) p.1) a) (List.map (fun p => aa.w p.2) a)), (1, .mp 137 61 (List.map (fun p => (fun x => V.agg [(V.int .i64 x.1), (V.str x.2)]) p.1) l) (List.map (fun p => ac.w p.2) l)), (0, vA α (.row 5 (List.map GTarget.w o)) r c j d g)]⟩ (fun u G => u = .tup [] ∧ G = ⟨5, [(4, .row 42 3 (List.map ae.w v)), (3, .row 3 1 (List.map (V.int .i64) z)), (2, .mp 84 81 (List.map (fun p => (fun x => V.agg [(V.int .i64 x.1), (V.int .i64 x.2)]) p.1) b) (List.map (fun p => aa.w p.2) b)), (1, .mp 137 61 (List.map (fun p => (fun x => V.agg [(V.int .i64 x.1), (V.str x.2)]) p.1) n) (List.map (fun p => ac.w p.2) n)), (0, vA β (.row 5 (List.map GTarget.w q)) t e k f i)]⟩)
def ba (α : List Tree) (o : List GTarget) (l : (List ((Int × (List UInt8)) × ac))) (a : (List ((Int × Int) × aa))) (r : Int) (y : List Int) (s : List ae) (c : Int) (j : List Int) (d g : Int) (p1 : Tree) (p2 : Int) (β : List Tree) (q : List GTarget) (n : (List ((Int × (List UInt8)) × ac))) (b : (List ((Int × Int) × aa))) (t : Int) (z : List Int) (v : List ae) (e : Int) (k : List Int) (f i : Int) : Prop := aY [] Tryz.prog 37 [.ptr 0 0, .agg (aq p1), .int .i64 p2] ⟨5, [(4, .row 42 3 (List.map ae.w s)), (3, .row 3 1 (List.map (V.int .i64) y)), (2, .mp 84 81 (List.map (fun p => (fun x => V.agg [(V.int .i64 x.1), (V.int .i64 x.2)]) p.1) a) (List.map (fun p => aa.w p.2) a)), (1, .mp 137 61 (List.map (fun p => (fun x => V.agg [(V.int .i64 x.1), (V.str x.2)]) p.1) l) (List.map (fun p => ac.w p.2) l)), (0, vA α (.row 5 (List.map GTarget.w o)) r c j d g)]⟩ (fun u G => u = .tup [] ∧ G = ⟨5, [(4, .row 42 3 (List.map ae.w v)), (3, .row 3 1 (List.map (V.int .i64) z)), (2, .mp 84 81 (List.map (fun p => (fun x => V.agg [(V.int .i64 x.1), (V.int .i64 x.2)]) p.1) b) (List.map (fun p => aa.w p.2) b)), (1, .mp 137 61 (List.map (fun p => (fun x => V.agg [(V.int .i64 x.1), (V.str x.2)]) p.1) n) (List.map (fun p => ac.w p.2) n)), (0, vA β (.row 5 (List.map GTarget.w q)) t e k f i)]⟩)
def cS (β : List Tree) (q : List GTarget) (n : (List ((Int × (List UInt8)) × ac))) (a : (List ((Int × Int) × aa))) (s : Int) (z : List Int) (t : List ae) (d : Int) (k : List Int) (e i : Int) (p1 : Tree) (p2 : List ak) (r0 : ac) (γ : List Tree) (r : List GTarget) (o : (List ((Int × (List UInt8)) × ac))) (b : (List ((Int × Int) × aa))) (v : Int) (α : List Int) (y : List ae) (f : Int) (l : List Int) (g j : Int) : Prop := aY [] Tryz.prog 100 [.ptr 0 0, .agg (aq p1), .lk (List.map ak.c p2)] ⟨5, [(4, .row 42 3 (List.map ae.w t)), (3, .row 3 1 (List.map (V.int .i64) z)), (2, .mp 84 81 (List.map (fun p => (fun x => V.agg [(V.int .i64 x.1), (V.int .i64 x.2)]) p.1) a) (List.map (fun p => aa.w p.2) a)), (1, .mp 137 61 (List.map (fun p => (fun x => V.agg [(V.int .i64 x.1), (V.str x.2)]) p.1) n) (List.map (fun p => ac.w p.2) n)), (0, vA β (.row 5 (List.map GTarget.w q)) s d k e i)]⟩ (fun u G => u = .agg (ac.c r0) ∧ G = ⟨6, [(4, .row 42 3 (List.map ae.w y)), (3, .row 3 1 (List.map (V.int .i64) α)), (2, .mp 84 81 (List.map (fun p => (fun x => V.agg [(V.int .i64 x.1), (V.int .i64 x.2)]) p.1) b) (List.map (fun p => aa.w p.2) b)), (1, .mp 137 61 (List.map (fun p => (fun x => V.agg [(V.int .i64 x.1), (V.str x.2)]) p.1) o) (List.map (fun p => ac.w p.2) o)), (0, vA γ (.row 5 (List.map GTarget.w r)) v f l g j)]⟩)
theorem mf (m : Nat) (p0 p1 : ac) (r0 : Bool) (h : ((p0.simple ≠ 0) → ((p1.simple ≠ 0) → (!(p0.simple == p1.simple && p0.lists == p1.lists)) = r0) ∧ ((p1.simple = 0) → false = r0)) ∧ ((p0.simple = 0) → false = r0)) : aO p0 p1 r0 := by
 refine ⟨rfl, rfl, ?_⟩
 refine am 18 [] Tryz.func58 rfl rfl rfl (aA rfl) fun K hK => ?_
 refine gR 3 rfl <| gFP 0 rfl rfl rfl rfl <| gR 1 rfl <| gFP 1 rfl rfl rfl rfl <| gR 9 rfl <| qBhZ 8 7 rfl rfl rfl rfl h eG dj (fun h => ?_) fun h => ?_
 refine gR 5 rfl <| qBhZ 13 12 rfl rfl rfl rfl h eG dj (fun h => ?_) fun h => ?_
 refine gR 2 rfl <| gY (v := .bool (!(p0.simple == p1.simple && p0.lists == p1.lists))) (pS (neg := true) Tryz.underlying61 (by kernel_rfl) (by kernel_rfl) (by decide) (by decide) rfl rfl (by kernel_rfl) (by kernel_rfl) rfl rfl qI qI qI qI (eI Tryz.underlying3) (eI Tryz.underlying3)) rfl rfl <| gR 5 rfl ?_
 subst h
 exact go_end ah (rs := [.tmp 4]) rfl rfl rfl
 refine gR 8 rfl ?_
 subst h
 exact go_end ah (rs := [.tmp 4]) rfl rfl rfl
 refine gR 13 rfl ?_
 subst h
 exact go_end ah (rs := [.tmp 4]) rfl rfl rfl
def dt (m : Nat) (p0 : List Tree) (a : Nat) (r0 : Bool) : Prop := ∀ (K : Ctx) (j1 : Nat), aG K [] → m ≤ j1 → qLG K Tryz.f17 (fun u _ => u = .bool r0) (xC (cA (cB (aj Tryz.f17)))) [.loop (xC (cA (cB (aj Tryz.f17)))) j1, .blk 0, .seq (xA (aj Tryz.f17))] 20 (mkF 20 0 [(5, .row 4 (kidsV p0)), (6, .int .i64 (p0.length : Int)), (7, .int .i64 (a : Int))]) ⟨0, []⟩
theorem lX (m : Nat) (p0 : List Tree) (r0 : Bool) (h : dt m p0 0 r0) : dM p0 r0 := by
 refine ⟨rfl, rfl, ?_⟩
 refine am 20 [] Tryz.func17 rfl rfl rfl (aA rfl) fun K hK => ?_
 exact gR 10 rfl <| gV 6 (.int .i64 (p0.length : Int)) rfl (aM (aK _)) rfl <| gLB 5 rfl (aK _) fun hl5 => gR 4 rfl <| go_loop m <| gJ (h K _ hK (by omega)) [] [] rfl hK pq3 trivial rfl
theorem ii (m : Nat) (p0 : List Tree) (a : Nat) (r0 : Bool) (h : ((a < p0.length) → ∃ b, p0[a]? = some b ∧ ((b.kind ≠ 1) → false = r0) ∧ ((b.kind = 1) → ∃ c, dk b c ∧ ((c = false) → false = r0) ∧ ((c = true) → a + 1 ≤ 9223372036854775807 ∧ dt m p0 (a + 1) r0))) ∧ ((¬ a < p0.length) → true = r0)) : dt (m + 1) p0 a r0 := by
 intro K j1 hK hj1
 obtain ⟨j1, rfl⟩ : ∃ j, j1 = j + 1 := ⟨j1 - 1, by omega⟩
 refine gR 6 rfl <| gB 8 rfl rfl rfl ?_ ?_ <;> intro hd
 replace hd := (dn hd)
 replace h := h.1 hd
 refine gR 7 rfl ?_
 obtain ⟨b, hxt1_1, h⟩ := h
 refine gY (bC (aI hxt1_1) ah rfl rfl rfl rfl) rfl rfl <| gR 11 rfl <| gB 14 rfl rfl rfl ?_ ?_ <;> intro hd
 refine gT 13 rfl hd rfl ?_
 replace hd := (eG hd)
 replace h := h.1 hd
 refine gR 15 rfl <| go_xloopR <| gR 2 rfl ?_
 subst h
 exact go_end ah (rs := [.tmp 2]) rfl rfl rfl
 refine gF 13 rfl hd rfl ?_
 replace hd := (dj hd)
 replace h := h.2 hd
 refine gR 1 rfl ?_
 obtain ⟨c, hs6, h⟩ := h
 refine gC0 hs6 (by kernel_rfl) rfl rfl .rfl rfl <| gR 4 rfl <| gB 18 rfl rfl rfl ?_ ?_ <;> intro hd
 replace hd := (ib hd)
 replace h := h.1 hd
 refine gR 9 rfl <| go_xloopR <| gR 2 rfl ?_
 subst h
 exact go_end ah (rs := [.tmp 2]) rfl rfl rfl
 replace hd := (hW hd)
 replace h := h.2 hd
 refine gR 5 rfl ?_
 obtain ⟨hb, h⟩ := h
 exact gR 1 rfl <| gV 19 (.int .i64 ((a + 1 : Nat) : Int)) rfl (ax (by omega) (by omega)) rfl <| gR 2 rfl <| go_xloop <| gJ (h K _ hK (by omega)) [] [] rfl hK pq3 trivial rfl
 replace hd := (dp hd)
 replace h := h.2 hd
 refine gR 3 rfl <| go_xloopE <| gR 8 rfl ?_
 subst h
 exact go_end ah (rs := [.tmp 2]) rfl rfl rfl
def ee (m : Nat) (a : Tree) (b : Nat) (r0 : Tree) (r1 : Int) : Prop := ∀ (K : Ctx) (j1 : Nat), aG K [] → m ≤ j1 → qLG K Tryz.f84 (fun u _ => u = .tup [.agg (aq r0), .int .i64 r1]) (xB (xD (aj Tryz.f84))) [.loop (xB (xD (aj Tryz.f84))) j1, .blk 0, .seq (xF (aj Tryz.f84))] 16 (mkF 16 0 [(1, .ptr 0 0), (2, .ptr 1 0), (4, .int .i64 (b : Int))]) ⟨2, [(1, .var 29 [.int .i64 0, .str [], .nils, .nils]), (0, .var 29 (aq a))]⟩
theorem nh (m : Nat) (p0 r0 : Tree) (r1 : Int) (h : ee m p0 0 r0 r1) : gx p0 r0 r1 := by
 refine ⟨rfl, rfl, ?_⟩
 refine am 16 [] Tryz.func84 rfl rfl rfl (aA rfl) fun K hK => ?_
 exact gR 14 rfl <| go_loop m <| gJ (h K _ hK (by omega)) [0, 1] [] rfl hK pq3 (pqo2 rfl rfl rfl rfl) rfl
theorem iY (m : Nat) (a : Tree) (b : Nat) (r0 : Tree) (r1 : Int) (h : ((a.kind = 8) → ∃ c, a.kids[0]? = some c ∧ b + 1 ≤ 9223372036854775807 ∧ ee m c (b + 1) r0 r1) ∧ ((a.kind ≠ 8) → a = r0 ∧ (b : Int) = r1)) : ee (m + 1) a b r0 r1 := by
 intro K j1 hK hj1
 obtain ⟨j1, rfl⟩ : ∃ j, j1 = j + 1 := ⟨j1 - 1, by omega⟩
 refine gR 8 rfl <| gB 7 rfl rfl rfl ?_ ?_ <;> intro hd
 replace hd := (eq_of_beq hd)
 replace h := h.1 hd
 refine gR 8 rfl ?_
 obtain ⟨c, hxt1_1, h⟩ := h
 refine gY (bC (aI hxt1_1) ah rfl rfl rfl rfl) rfl rfl <| gR 6 rfl ?_
 obtain ⟨hb, h⟩ := h
 exact gR 1 rfl <| gV 13 (.int .i64 ((b + 1 : Nat) : Int)) rfl (ax (by omega) (by omega)) rfl <| gR 3 rfl <| go_xloop <| gJ (h K _ hK (by omega)) [0, 1] [] rfl hK pq3 (pqo2 rfl rfl rfl rfl) rfl
 replace hd := (ne_of_beq_false hd)
 replace h := h.2 hd
 refine gR 3 rfl <| go_xloopE <| gR 11 rfl ?_
 obtain ⟨rfl, rfl⟩ := h
 exact go_sub (F' := (mkF 16 0 [(2, .ptr 0 0), (3, .int .i64 (b : Int))])) (H' := ⟨1, [(0, .var 29 [.int .i64 a.kind, .str a.text, .row 1 (List.map V.str a.leads), .row 4 (kidsV a.kids)])]⟩) [1] [] rfl hK pq2 (pqo1 rfl rfl) rfl <| go_end ah (rs := [.cell 2 29, .tmp 3]) rfl rfl rfl
def fF (m : Nat) (p0 : (List (List Int))) (a b : Nat) (r0 : List Int) : Prop := ∀ (K : Ctx) (j1 : Nat), aG K [] → m ≤ j1 → qLG K Tryz.f62 (fun u G => u = .sl 0 ∧ G = ⟨1, [(0, .row 3 1 (List.map (V.int .i64) r0))]⟩) (xE (aj Tryz.f62)) [.loop (xE (aj Tryz.f62)) j1, .blk 0, .seq (xF (aj Tryz.f62))] 36 (mkF 36 0 [(0, .row 1 (List.map (fun l => V.row 1 (List.map (V.int .i64) l)) p0)), (3, .int .i64 (a : Int)), (9, .row 1 (List.map (fun l => V.row 1 (List.map (V.int .i64) l)) p0)), (10, .int .i64 (p0.length : Int)), (11, .int .i64 (b : Int))]) ⟨0, []⟩
def fE (m : Nat) (p0 : (List (List Int))) (a : List Int) (b : Nat) (r0 : List Int) : Prop := ∀ (K : Ctx) (j1 : Nat), aG K [] → m ≤ j1 → qLG K Tryz.f62 (fun u G => u = .sl 0 ∧ G = ⟨1, [(0, .row 3 1 (List.map (V.int .i64) r0))]⟩) (xE (xA (aj Tryz.f62))) [.loop (xE (xA (aj Tryz.f62))) j1, .blk 2, .seq (xA (xF (aj Tryz.f62)))] 36 (mkF 36 0 [(6, .sl 0), (25, .row 1 (List.map (fun l => V.row 1 (List.map (V.int .i64) l)) p0)), (26, .int .i64 (p0.length : Int)), (27, .int .i64 (b : Int))]) ⟨1, [(0, .row 3 1 (List.map (V.int .i64) a))]⟩
theorem mv (m : Nat) (p0 : (List (List Int))) (r0 : List Int) (h : fF m p0 0 0 r0) : ga p0 r0 := by
 refine am 36 [] Tryz.func62 rfl rfl rfl (aA rfl) fun K hK => ?_
 exact gR 15 rfl <| gV 10 (.int .i64 (p0.length : Int)) rfl (aM (aJ (fun l => V.row 1 (List.map (V.int .i64) l)) _)) rfl <| gLB 9 rfl (aJ (fun l => V.row 1 (List.map (V.int .i64) l)) _) fun hl9 => gR 4 rfl <| go_loop m <| gJ (h K _ hK (by omega)) [] [] rfl hK pq5 trivial rfl
theorem fc (m : Nat) (p0 : (List (List Int))) (b c : Nat) (r0 : List Int) (h : ((c < p0.length) → ∃ a, p0[c]? = some a ∧ b + a.length ≤ 9223372036854775807 ∧ ((((b + a.length : Nat) : Int) < 0) → False) ∧ ((¬ ((b + a.length : Nat) : Int) < 0) → c + 1 ≤ 9223372036854775807 ∧ fF m p0 (b + a.length) (c + 1) r0)) ∧ ((¬ c < p0.length) → ∃ d, kP (b : Int) d ∧ fE m p0 d 0 r0)) : fF (m + 1) p0 b c r0 := by
 intro K j1 hK hj1
 obtain ⟨j1, rfl⟩ : ∃ j, j1 = j + 1 := ⟨j1 - 1, by omega⟩
 refine gR 6 rfl <| gB 12 rfl rfl rfl ?_ ?_ <;> intro hd
 replace hd := (dn hd)
 replace h := h.1 hd
 refine gR 7 rfl ?_
 obtain ⟨a, hxx1_1, h⟩ := h
 refine gY (bC (mapget (f := (fun l => V.row 1 (List.map (V.int .i64) l))) hxx1_1) ah rfl rfl rfl rfl) rfl rfl <| gR 9 rfl <| gV 17 (.int .i64 (a.length : Int)) rfl (aM (aJ (V.int .i64) _)) rfl <| gLB 16 rfl (aJ (V.int .i64) _) fun hl10 => ?_
 obtain ⟨hb, h⟩ := h
 refine gR 1 rfl <| gV 18 (.int .i64 ((b + a.length : Nat) : Int)) rfl (ax (by omega) (by omega)) rfl <| gR 9 rfl <| gB 20 rfl rfl rfl ?_ ?_ <;> intro hd
 replace hd := (of_decide_eq_true hd)
 replace h := h.1 hd
 exact h.elim
 replace hd := (of_decide_eq_false hd)
 replace h := h.2 hd
 refine gR 5 rfl ?_
 obtain ⟨hb, h⟩ := h
 exact gR 1 rfl <| gV 22 (.int .i64 ((c + 1 : Nat) : Int)) rfl (ax (by omega) (by omega)) rfl <| gR 2 rfl <| go_xloop <| gJ (h K _ hK (by omega)) [] [] rfl hK pq5 trivial rfl
 replace hd := (dp hd)
 replace h := h.2 hd
 refine gR 3 rfl <| go_xloopE <| gR 5 rfl ?_
 obtain ⟨d, hs11, h⟩ := h
 refine gC hs11 [] (by kernel_rfl) rfl rfl .rfl trivial rfl ?_
 rintro _ _ ⟨rfl, rfl⟩
 exact gHR 0 (List.map (V.int .i64) d) rfl (vD _ d) rfl <| gR 8 rfl <| gV 26 (.int .i64 (p0.length : Int)) rfl (aM (aJ (fun l => V.row 1 (List.map (V.int .i64) l)) _)) rfl <| gLB 25 rfl (aJ (fun l => V.row 1 (List.map (V.int .i64) l)) _) fun hl12 => gR 4 rfl <| go_loop m <| gJ (h K _ hK (by omega)) [0] [] rfl hK pq4 ⟨⟨_, rfl, rfl, rfl, (vD _ d).symm⟩, trivial⟩ rfl
theorem fh (m : Nat) (p0 : (List (List Int))) (a : List Int) (b : Nat) (r0 : List Int) (h : ((b < p0.length) → ∃ c, p0[b]? = some c ∧ (a ++ c).length ≤ 1000000000 ∧ b + 1 ≤ 9223372036854775807 ∧ fE m p0 (a ++ c) (b + 1) r0) ∧ ((¬ b < p0.length) → a = r0)) : fE (m + 1) p0 a b r0 := by
 intro K j1 hK hj1
 obtain ⟨j1, rfl⟩ : ∃ j, j1 = j + 1 := ⟨j1 - 1, by omega⟩
 refine gR 6 rfl <| gB 28 rfl rfl rfl ?_ ?_ <;> intro hd
 replace hd := (dn hd)
 replace h := h.1 hd
 refine gR 7 rfl ?_
 obtain ⟨c, hxx2_1, h⟩ := h
 refine gY (bC (mapget (f := (fun l => V.row 1 (List.map (V.int .i64) l))) hxx2_1) ah rfl rfl rfl rfl) rfl rfl <| gR 7 rfl ?_
 obtain ⟨hb, h⟩ := h
 refine gDo (.repl 0 (.row 3 1 (List.map (V.int .i64) (a ++ c)))) (mz ah rfl rfl rfl rfl rfl (List.map_append (f := (V.int .i64)) (l₁ := a) (l₂ := c)).symm (by rw [aJ]; exact hb)) (okR rfl) rfl rfl rfl <| gR 5 rfl ?_
 obtain ⟨hb, h⟩ := h
 exact gR 1 rfl <| gV 34 (.int .i64 ((b + 1 : Nat) : Int)) rfl (ax (by omega) (by omega)) rfl <| gR 2 rfl <| go_xloop <| gJ (h K _ hK (by omega)) [1] [] rfl hK pq4 ⟨⟨_, rfl, rfl, rfl, (vD _ (a ++ c)).symm⟩, trivial⟩ rfl
 replace hd := (dp hd)
 replace h := h.2 hd
 refine gR 3 rfl <| go_xloopE <| gR 9 rfl ?_
 subst h
 exact go_sub (F' := (mkF 36 0 [(2, .sl 0)])) (H' := ⟨1, [(0, .row 3 1 (List.map (V.int .i64) a))]⟩) [0] [] rfl hK pq1 ⟨⟨_, rfl, rfl, rfl, (vD _ a).symm⟩, trivial⟩ rfl <| go_endD [] ah (rs := [.tmp 2]) rfl rfl ⟨rfl, rfl⟩
def ds (m : Nat) (p0 p1 : List Int) (a : Nat) (r0 : Bool) : Prop := ∀ (K : Ctx) (j1 : Nat), aG K [0] → m ≤ j1 → qLG K Tryz.f87 (fun u G => u = .bool r0 ∧ G = ⟨1, [(0, .row 3 1 (List.map (V.int .i64) p0))]⟩) (xE (aj Tryz.f87)) [.loop (xE (aj Tryz.f87)) j1, .blk 0, .seq (xF (aj Tryz.f87))] 26 (mkF 26 0 [(0, .sl 0), (1, .row 1 (List.map (V.int .i64) p1)), (12, .int .i64 (p0.length : Int)), (13, .int .i64 (a : Int))]) ⟨1, [(0, .row 3 1 (List.map (V.int .i64) p0))]⟩
theorem iB (m : Nat) (p0 p1 : List Int) (r0 : Bool) (h : ((p0.length ≠ p1.length) → false = r0) ∧ ((p0.length = p1.length) → ds m p0 p1 0 r0)) : fG p0 p1 r0 := by
 refine am 26 [0] Tryz.func87 rfl rfl rfl (aA rfl) fun K hK => ?_
 refine gR 10 rfl <| gV 7 (.int .i64 (p0.length : Int)) rfl (aM (aJ (V.int .i64) _)) rfl <| gLO 0 rfl (aJ (V.int .i64) _) fun hl5 => gR 2 rfl <| gV 9 (.int .i64 (p1.length : Int)) rfl (aM (aJ (V.int .i64) _)) rfl <| gLB 8 rfl (aJ (V.int .i64) _) fun hl6 => gR 3 rfl <| gB 10 rfl rfl rfl ?_ ?_ <;> intro hd
 replace hd := (uy hd)
 replace h := h.1 hd
 refine gR 8 rfl ?_
 subst h
 exact go_sub (F' := (mkF 26 0 [(4, .bool false)])) (H' := ⟨1, [(0, .row 3 1 (List.map (V.int .i64) p0))]⟩) [0] [0] rfl hK pq1 ⟨⟨_, rfl, rfl, rfl, (vD _ p0).symm⟩, trivial⟩ rfl <| go_endD [] ah (rs := [.tmp 4]) rfl rfl ⟨rfl, rfl⟩
 replace hd := (vb hd)
 replace h := h.2 hd
 exact gR 8 rfl <| gV 12 (.int .i64 (p0.length : Int)) rfl (aM (aJ (V.int .i64) _)) rfl <| gR 4 rfl <| go_loop m <| gJ (h K _ hK (by omega)) [0] [0] rfl hK pq4 ⟨⟨_, rfl, rfl, rfl, (vD _ p0).symm⟩, trivial⟩ rfl
theorem ij (m : Nat) (p0 p1 : List Int) (a : Nat) (r0 : Bool) (h : ((a < p0.length) → ∃ b, p0[a]? = some b ∧ ∃ c, p1[a]? = some c ∧ ((b ≠ c) → false = r0) ∧ ((b = c) → a + 1 ≤ 9223372036854775807 ∧ ds m p0 p1 (a + 1) r0)) ∧ ((¬ a < p0.length) → true = r0)) : ds (m + 1) p0 p1 a r0 := by
 intro K j1 hK hj1
 obtain ⟨j1, rfl⟩ : ∃ j, j1 = j + 1 := ⟨j1 - 1, by omega⟩
 refine gR 6 rfl <| gB 14 rfl rfl rfl ?_ ?_ <;> intro hd
 replace hd := (dn hd)
 replace h := h.1 hd
 refine gR 12 rfl <| gDs [0] 8 9 rfl (by kernel_rfl) (by kernel_rfl) <| gDr [(0, 2), (1, 2)] (by kernel_rfl) rfl rfl ?_
 obtain ⟨b, hxn1_1, h⟩ := h
 refine gYd 2 rfl (by kernel_rfl) (yIO ah rfl rfl rfl rfl (by have := (mapget (f := (V.int .i64)) hxn1_1); exact (List.getElem?_eq_some_iff.1 this).1)) rfl rfl ?_
 refine uP 3 rfl (by kernel_rfl) rfl ah rfl rfl rfl (mapget (f := (V.int .i64)) hxn1_1) rfl rfl ?_
 refine gDr [(4, 2), (5, 0)] (by kernel_rfl) rfl rfl ?_
 obtain ⟨c, hxn1_2, h⟩ := h
 refine kW 6 rfl (by kernel_rfl) (bC (mapget (f := (V.int .i64)) hxn1_2) ah rfl rfl rfl rfl) rfl rfl ?_
 refine gDr [(7, 0), (8, 1)] (by kernel_rfl) rfl rfl <| gDe (by kernel_rfl) <| gR 1 rfl <| gB 24 rfl rfl rfl ?_ ?_ <;> intro hd
 replace hd := (eG hd)
 replace h := h.1 hd
 refine gR 9 rfl <| go_xloopR <| gR 2 rfl ?_
 subst h
 exact go_sub (F' := (mkF 26 0 [(4, .bool false)])) (H' := ⟨1, [(0, .row 3 1 (List.map (V.int .i64) p0))]⟩) [0] [0] rfl hK pq1 ⟨⟨_, rfl, rfl, rfl, (vD _ p0).symm⟩, trivial⟩ rfl <| go_endD [] ah (rs := [.tmp 4]) rfl rfl ⟨rfl, rfl⟩
 replace hd := (dj hd)
 replace h := h.2 hd
 refine gR 5 rfl ?_
 obtain ⟨hb, h⟩ := h
 exact gR 1 rfl <| gV 25 (.int .i64 ((a + 1 : Nat) : Int)) rfl (ax (by omega) (by omega)) rfl <| gR 2 rfl <| go_xloop <| gJ (h K _ hK (by omega)) [0] [0] rfl hK pq4 ⟨⟨_, rfl, rfl, rfl, (vD _ p0).symm⟩, trivial⟩ rfl
 replace hd := (dp hd)
 replace h := h.2 hd
 refine gR 3 rfl <| go_xloopE <| gR 8 rfl ?_
 subst h
 exact go_sub (F' := (mkF 26 0 [(4, .bool true)])) (H' := ⟨1, [(0, .row 3 1 (List.map (V.int .i64) p0))]⟩) [0] [0] rfl hK pq1 ⟨⟨_, rfl, rfl, rfl, (vD _ p0).symm⟩, trivial⟩ rfl <| go_endD [] ah (rs := [.tmp 4]) rfl rfl ⟨rfl, rfl⟩
theorem rS_typing_checker_fault (m : Nat) (β : List Tree) (n : List GTarget) (r : (List ((Int × (List UInt8)) × ac))) (c : (List ((Int × Int) × aa))) (a : Int) (o : List Int) (b : List ae) (d : Int) (g : List Int) (e f p1 : Int) (p2 : List Int) (γ : List Tree) (s : List GTarget) (z : (List ((Int × (List UInt8)) × ac))) (q : (List ((Int × Int) × aa))) (v : Int) (α : List Int) (y : List ae) (i : Int) (l : List Int) (j k : Int) (h : ∃ t, ga [o, p2] t ∧ (b ++ [(ae.mk (GPlace.mk a t) p1)]).length ≤ 1000000000 ∧ β = γ ∧ n = s ∧ r = z ∧ c = q ∧ a = v ∧ o = α ∧ (b ++ [(ae.mk (GPlace.mk a t) p1)]) = y ∧ d = i ∧ g = l ∧ e = j ∧ f = k) : ao β n r c a o b d g e f p1 p2 γ s z q v α y i l j k := by
 refine am 31 [2, 1, 0] Tryz.func36 rfl rfl rfl (aA rfl) fun K hK => ?_
 refine gR 8 rfl ?_
 obtain ⟨t, hs2, h⟩ := h
 refine zA 5 hs2 (by kernel_rfl) rfl rfl rfl rfl rfl (lR _ (fun _ => rfl) _) rfl rfl ?_
 refine gR 3 rfl <| gDs [0] 17 18 rfl (by kernel_rfl) (by kernel_rfl) <| gDr [(0, 2), (1, 2), (2, 2), (3, 2), (4, 3), (5, 2), (6, 2), (7, 2), (8, 3), (9, 2), (10, 2), (11, 0), (12, 0)] (by kernel_rfl) rfl rfl <| gFR 6 rfl (lR _ (fun _ => rfl) _) rfl rfl <| gDr [(13, 0)] (by kernel_rfl) rfl rfl ?_
 obtain ⟨hb, h⟩ := h
 refine dw 14 (.repl 4 (.row 42 3 (List.map ae.w (b ++ [(ae.mk (GPlace.mk a t) p1)])))) rfl (by kernel_rfl) (mz ah rfl rfl rfl rfl rfl (apM ae.w b (ae.mk (GPlace.mk a t) p1)) (by rw [aJ]; exact hb)) (okR rfl) rfl (by kernel_rfl) rfl rfl ?_
 refine gDr [(15, 0), (16, 0), (17, 1)] (by kernel_rfl) rfl rfl <| gDe (by kernel_rfl) ?_
 obtain ⟨rfl, rfl, rfl, rfl, rfl, rfl, rfl, rfl, rfl, rfl, rfl⟩ := h
 refine go_sub (F' := (mkF 31 0 [])) (H' := ⟨5, [(4, .row 42 3 (List.map ae.w (b ++ [(ae.mk (GPlace.mk a t) p1)]))), (3, .row 3 1 (List.map (V.int .i64) o)), (2, .mp 84 81 (List.map (fun p => (fun x => V.agg [(V.int .i64 x.1), (V.int .i64 x.2)]) p.1) c) (List.map (fun p => aa.w p.2) c)), (1, .mp 137 61 (List.map (fun p => (fun x => V.agg [(V.int .i64 x.1), (V.str x.2)]) p.1) r) (List.map (fun p => ac.w p.2) r)), (0, vA β (.row 5 (List.map GTarget.w n)) a d g e f)]⟩) [0, 1, 2, 3, 8] [2, 1, 0] rfl hK trivial ⟨⟨_, rfl, rfl, rfl, (vF _ (b ++ [(ae.mk (GPlace.mk a t) p1)])).symm⟩, ⟨_, rfl, rfl, rfl, (vD _ o).symm⟩, ⟨_, rfl, rfl, rfl, rfl, rfl⟩, ⟨_, rfl, rfl, rfl, rfl, rfl⟩, (pqo1 rfl rfl)⟩ rfl ?_
 exact go_endD [] ah (rs := []) rfl rfl ⟨rfl, rfl⟩
theorem kb (m : Nat) (γ : List Tree) (a : List GTarget) (q : (List ((Int × (List UInt8)) × ac))) (b : (List ((Int × Int) × aa))) (r : Int) (s : List Int) (l : List ae) (c : Int) (g : List Int) (d e : Int) (r0 : GTarget) (δ : List Tree) (t : List GTarget) (α : (List ((Int × (List UInt8)) × ac))) (o : (List ((Int × Int) × aa))) (y : Int) (β : List Int) (z : List ae) (i : Int) (n : List Int) (j k : Int) (h : ∃ v, a[0]? = some v ∧ 1 ≤ a.length ∧ v = r0 ∧ γ = δ ∧ (a.drop 1) = t ∧ q = α ∧ b = o ∧ r = y ∧ s = β ∧ l = z ∧ c = i ∧ g = n ∧ d = j ∧ e = k) : cO γ a q b r s l c g d e r0 δ t α o y β z i n j k := by
 refine am 19 [2, 1, 0] Tryz.func63 rfl rfl rfl (aA rfl) fun K hK => ?_
 refine gR 11 rfl ?_
 obtain ⟨v, hxx0_1, h⟩ := h
 refine gY (bC (mapget (f := GTarget.w) hxx0_1) ah rfl rfl rfl rfl) rfl rfl <| gR 12 rfl ?_
 obtain ⟨hb, h⟩ := h
 refine gY (vd (aJ GTarget.w a) ah rfl rfl (pK rfl) ql hb (Nat.le_refl _) ((zB _ _ _ _).trans (congrArg _ (oP _ _)))) rfl rfl <| gR 12 rfl ?_
 obtain ⟨rfl, rfl, rfl, rfl, rfl, rfl, rfl, rfl, rfl, rfl, rfl, rfl⟩ := h
 refine go_sub (F' := (mkF 19 0 [(2, .ptr 5 0)])) (H' := ⟨6, [(5, .var 120 (GTarget.c v)), (4, .row 42 3 (List.map ae.w l)), (3, .row 3 1 (List.map (V.int .i64) s)), (2, .mp 84 81 (List.map (fun p => (fun x => V.agg [(V.int .i64 x.1), (V.int .i64 x.2)]) p.1) b) (List.map (fun p => aa.w p.2) b)), (1, .mp 137 61 (List.map (fun p => (fun x => V.agg [(V.int .i64 x.1), (V.str x.2)]) p.1) q) (List.map (fun p => ac.w p.2) q)), (0, vA γ (.row 5 (List.map GTarget.w (a.drop 1))) r c g d e)]⟩) [0, 1, 2, 3, 4, 5] [2, 1, 0] rfl hK pq1 ⟨pqo rfl rfl, ⟨_, rfl, rfl, rfl, (vF _ l).symm⟩, ⟨_, rfl, rfl, rfl, (vD _ s).symm⟩, ⟨_, rfl, rfl, rfl, rfl, rfl⟩, ⟨_, rfl, rfl, rfl, rfl, rfl⟩, (pqo1 rfl rfl)⟩ rfl ?_
 exact go_endD [5] ah (rs := [.cell 2 120]) rfl rfl ⟨rfl, rfl⟩
theorem jk (m : Nat) (α : List Tree) (n : List GTarget) (q : (List ((Int × (List UInt8)) × ac))) (a : (List ((Int × Int) × aa))) (r : Int) (f : List Int) (k : List ae) (b : Int) (e : List Int) (c d p1 : Int) (β : List Tree) (s : List GTarget) (y : (List ((Int × (List UInt8)) × ac))) (o : (List ((Int × Int) × aa))) (t : Int) (z : List Int) (v : List ae) (g : Int) (l : List Int) (i j : Int) (h : (f ++ [p1]).length ≤ 1000000000 ∧ α = β ∧ n = s ∧ q = y ∧ a = o ∧ r = t ∧ (f ++ [p1]) = z ∧ k = v ∧ b = g ∧ e = l ∧ c = i ∧ d = j) : aV α n q a r f k b e c d p1 β s y o t z v g l i j := by
 refine am 14 [2, 1, 0] Tryz.func33 rfl rfl rfl (aA rfl) fun K hK => ?_
 refine gR 8 rfl ?_
 obtain ⟨hb, h⟩ := h
 refine gDo (.repl 3 (.row 3 1 (List.map (V.int .i64) (f ++ [p1])))) (mz ah rfl rfl rfl rfl rfl (apM (V.int .i64) f p1) (by rw [aJ]; exact hb)) (okR rfl) rfl rfl rfl <| gR 4 rfl ?_
 obtain ⟨rfl, rfl, rfl, rfl, rfl, rfl, rfl, rfl, rfl, rfl, rfl⟩ := h
 refine go_sub (F' := (mkF 14 0 [])) (H' := ⟨5, [(4, .row 42 3 (List.map ae.w k)), (3, .row 3 1 (List.map (V.int .i64) (f ++ [p1]))), (2, .mp 84 81 (List.map (fun p => (fun x => V.agg [(V.int .i64 x.1), (V.int .i64 x.2)]) p.1) a) (List.map (fun p => aa.w p.2) a)), (1, .mp 137 61 (List.map (fun p => (fun x => V.agg [(V.int .i64 x.1), (V.str x.2)]) p.1) q) (List.map (fun p => ac.w p.2) q)), (0, vA α (.row 5 (List.map GTarget.w n)) r b e c d)]⟩) [0, 1, 2, 6, 4] [2, 1, 0] rfl hK trivial ⟨⟨_, rfl, rfl, rfl, (vF _ k).symm⟩, ⟨_, rfl, rfl, rfl, (vD _ (f ++ [p1])).symm⟩, ⟨_, rfl, rfl, rfl, rfl, rfl⟩, ⟨_, rfl, rfl, rfl, rfl, rfl⟩, (pqo1 rfl rfl)⟩ rfl ?_
 exact go_endD [] ah (rs := []) rfl rfl ⟨rfl, rfl⟩
theorem ji (m : Nat) (β : List Tree) (n : List GTarget) (q : (List ((Int × (List UInt8)) × ac))) (a : (List ((Int × Int) × aa))) (r : Int) (b : List Int) (k : List ae) (c : Int) (f : List Int) (d e : Int) (γ : List Tree) (s : List GTarget) (z : (List ((Int × (List UInt8)) × ac))) (o : (List ((Int × Int) × aa))) (v : Int) (α : List Int) (y : List ae) (g : Int) (l : List Int) (i j : Int) (h : ∃ t, ((b.length : Int) - 1) = ((t : Nat) : Int) ∧ t ≤ b.length ∧ β = γ ∧ n = s ∧ q = z ∧ a = o ∧ r = v ∧ (b.take t) = α ∧ k = y ∧ c = g ∧ f = l ∧ d = i ∧ e = j) : ay β n q a r b k c f d e γ s z o v α y g l i j := by
 refine am 16 [2, 1, 0] Tryz.func38 rfl rfl rfl (aA rfl) fun K hK => ?_
 refine gDs [0] 14 15 rfl (by kernel_rfl) (by kernel_rfl) ?_
 refine gDr [(0, 2), (1, 2), (2, 2), (3, 2), (4, 3), (5, 0), (6, 0), (7, 0), (8, 0), (9, 0)] (by kernel_rfl) rfl rfl <| gV 11 (.int .i64 (b.length : Int)) rfl (aM (aJ (V.int .i64) _)) rfl <| gLO 3 rfl (aJ (V.int .i64) _) fun hl8 => gDr [(10, 0)] (by kernel_rfl) rfl rfl <| gV 12 (.int .i64 ((b.length : Int) - 1)) rfl (ax (by have := hl8; omega) rfl) rfl ?_
 obtain ⟨t, δ, h⟩ := h
 refine gV 12 (.int .i64 ((t : Nat) : Int)) rfl (cx δ) rfl ?_
 obtain ⟨hb, h⟩ := h
 refine dw 11 (.repl 3 (.row 3 1 (List.map (V.int .i64) (b.take t)))) rfl (by kernel_rfl) (dTr ah rfl rfl rfl rfl (by rw [aJ]; exact hb) (vv _ _ _)) (okR rfl) rfl (by kernel_rfl) rfl rfl ?_
 refine gDr [(12, 0), (13, 0), (14, 1)] (by kernel_rfl) rfl rfl <| gDe (by kernel_rfl) ?_
 obtain ⟨rfl, rfl, rfl, rfl, rfl, rfl, rfl, rfl, rfl, rfl, rfl⟩ := h
 refine go_sub (F' := (mkF 16 0 [])) (H' := ⟨5, [(4, .row 42 3 (List.map ae.w k)), (3, .row 3 1 (List.map (V.int .i64) (b.take t))), (2, .mp 84 81 (List.map (fun p => (fun x => V.agg [(V.int .i64 x.1), (V.int .i64 x.2)]) p.1) a) (List.map (fun p => aa.w p.2) a)), (1, .mp 137 61 (List.map (fun p => (fun x => V.agg [(V.int .i64 x.1), (V.str x.2)]) p.1) q) (List.map (fun p => ac.w p.2) q)), (0, vA β (.row 5 (List.map GTarget.w n)) r c f d e)]⟩) [0, 1, 2, 5, 4] [2, 1, 0] rfl hK trivial ⟨⟨_, rfl, rfl, rfl, (vF _ k).symm⟩, ⟨_, rfl, rfl, rfl, (vD _ (b.take t)).symm⟩, ⟨_, rfl, rfl, rfl, rfl, rfl⟩, ⟨_, rfl, rfl, rfl, rfl, rfl⟩, (pqo1 rfl rfl)⟩ rfl ?_
 exact go_endD [] ah (rs := []) rfl rfl ⟨rfl, rfl⟩
theorem cC (m : Nat) (p0_p : List Tree) (p0_targets : List GTarget) (p0_names : (List ((Int × (List UInt8)) × ac))) (t : (List ((Int × Int) × aa))) (p0_module : Int) (p0_path : List Int) (ι : List ae) (k : Int) (s : List Int) (l n : Int) (p1 : Tree) (p2 : Int) (q0_p : List Tree) (g : List GTarget) (o : (List ((Int × (List UInt8)) × ac))) (e : (List ((Int × Int) × aa))) (i : Int) (v : List Int) (j : List ae) (a : Int) (d : List Int) (b c : Int) (h : ∃ r0_1 r0_2, ∃ (r0_3 : (List ((Int × (List UInt8)) × ac))), ∃ (r0_4 : (List ((Int × Int) × aa))), ∃ n0_5 y z n0_8 r0_9 n0_10 n0_11, aV p0_p p0_targets p0_names t p0_module p0_path ι k s l n p2 r0_1 r0_2 r0_3 r0_4 n0_5 y z n0_8 r0_9 n0_10 n0_11 ∧ ∃ k0_12, p2 = ((k0_12 : Nat) : Int) ∧ ∃ f, p1.kids[k0_12]? = some f ∧ ((f.kind = 9) → ∃ r0_14 r0_15 r0_16, ∃ (r0_17 : (List ((Int × (List UInt8)) × ac))), ∃ (r0_18 : (List ((Int × Int) × aa))), ∃ n0_19 q r n0_22 r0_23 n0_24 n0_25, cO r0_1 r0_2 r0_3 r0_4 n0_5 y z n0_8 r0_9 n0_10 n0_11 r0_14 r0_15 r0_16 r0_17 r0_18 n0_19 q r n0_22 r0_23 n0_24 n0_25 ∧ ((r0_14.Free = true) → ∃ r0_26 r0_27, ∃ (r0_28 : (List ((Int × (List UInt8)) × ac))), ∃ (r0_29 : (List ((Int × Int) × aa))), ∃ n0_30 κ μ n0_33 r0_34 n0_35 n0_36, ao r0_15 r0_16 r0_17 r0_18 n0_19 q r n0_22 r0_23 n0_24 n0_25 1 [] r0_26 r0_27 r0_28 r0_29 n0_30 κ μ n0_33 r0_34 n0_35 n0_36 ∧ ∃ r0_37 r0_38, ∃ (ν : (List ((Int × (List UInt8)) × ac))), ∃ (ξ : (List ((Int × Int) × aa))), ∃ n0_41 α β n0_44 r0_45 n0_46 n0_47, ay r0_26 r0_27 r0_28 r0_29 n0_30 κ μ n0_33 r0_34 n0_35 n0_36 r0_37 r0_38 ν ξ n0_41 α β n0_44 r0_45 n0_46 n0_47 ∧ r0_37 = q0_p ∧ r0_38 = g ∧ ν = o ∧ ξ = e ∧ n0_41 = i ∧ α = v ∧ β = j ∧ n0_44 = a ∧ r0_45 = d ∧ n0_46 = b ∧ n0_47 = c) ∧ ((r0_14.Free = false) → ∃ r0_48 r0_49, ∃ (ο : (List ((Int × (List UInt8)) × ac))), ∃ (π : (List ((Int × Int) × aa))), ∃ n0_52 γ δ n0_55 r0_56 n0_57 n0_58, ay r0_15 r0_16 r0_17 r0_18 n0_19 q r n0_22 r0_23 n0_24 n0_25 r0_48 r0_49 ο π n0_52 γ δ n0_55 r0_56 n0_57 n0_58 ∧ r0_48 = q0_p ∧ r0_49 = g ∧ ο = o ∧ π = e ∧ n0_52 = i ∧ γ = v ∧ δ = j ∧ n0_55 = a ∧ r0_56 = d ∧ n0_57 = b ∧ n0_58 = c)) ∧ ((f.kind ≠ 9) → ((f.kind = 8) → ∃ r0_59 r0_60, ∃ (r0_61 : (List ((Int × (List UInt8)) × ac))), ∃ (r0_62 : (List ((Int × Int) × aa))), ∃ n0_63 τ υ n0_66 r0_67 n0_68 n0_69, ba r0_1 r0_2 r0_3 r0_4 n0_5 y z n0_8 r0_9 n0_10 n0_11 f 0 r0_59 r0_60 r0_61 r0_62 n0_63 τ υ n0_66 r0_67 n0_68 n0_69 ∧ ∃ r0_70 r0_71, ∃ (φ : (List ((Int × (List UInt8)) × ac))), ∃ (χ : (List ((Int × Int) × aa))), ∃ n0_74 ε ζ n0_77 r0_78 n0_79 n0_80, ay r0_59 r0_60 r0_61 r0_62 n0_63 τ υ n0_66 r0_67 n0_68 n0_69 r0_70 r0_71 φ χ n0_74 ε ζ n0_77 r0_78 n0_79 n0_80 ∧ r0_70 = q0_p ∧ r0_71 = g ∧ φ = o ∧ χ = e ∧ n0_74 = i ∧ ε = v ∧ ζ = j ∧ n0_77 = a ∧ r0_78 = d ∧ n0_79 = b ∧ n0_80 = c) ∧ ((f.kind ≠ 8) → ∃ r0_81 r0_82, ∃ (ψ : (List ((Int × (List UInt8)) × ac))), ∃ (ω : (List ((Int × Int) × aa))), ∃ n0_85 η θ n0_88 r0_89 n0_90 n0_91, ay r0_1 r0_2 r0_3 r0_4 n0_5 y z n0_8 r0_9 n0_10 n0_11 r0_81 r0_82 ψ ω n0_85 η θ n0_88 r0_89 n0_90 n0_91 ∧ r0_81 = q0_p ∧ r0_82 = g ∧ ψ = o ∧ ω = e ∧ n0_85 = i ∧ η = v ∧ θ = j ∧ n0_88 = a ∧ r0_89 = d ∧ n0_90 = b ∧ n0_91 = c))) : ba p0_p p0_targets p0_names t p0_module p0_path ι k s l n p1 p2 q0_p g o e i v j a d b c := by
 refine am 31 [2, 1, 0] Tryz.func37 rfl rfl rfl (aA rfl) fun K hK => ?_
 refine gR 3 rfl <| gFP 5 rfl rfl rfl rfl <| gR 6 rfl ?_
 obtain ⟨r0_1, r0_2, r0_3, r0_4, n0_5, y, z, n0_8, r0_9, n0_10, n0_11, hs9, h⟩ := h
 refine gCZ hs9 [0, 1, 2, 3, 4] ⟨⟨_, rfl, ⟨rfl, rfl, (vF _ ι).symm⟩⟩, ⟨⟨_, rfl, ⟨rfl, rfl, (vD _ p0_path).symm⟩⟩, ⟨⟨_, rfl, ⟨rfl, rfl, rfl, rfl⟩⟩, ⟨⟨_, rfl, ⟨rfl, rfl, rfl, rfl⟩⟩, ⟨⟨_, rfl, ⟨rfl, an.rfl⟩⟩, trivial⟩⟩⟩⟩⟩ ?_
 refine gHR 9 (List.map (V.int .i64) y) rfl (vD _ y) rfl <| gHR 10 (List.map ae.w z) rfl (vF _ z) rfl <| gHn ⟨11, [(10, .row 42 3 (List.map ae.w z)), (9, .row 3 1 (List.map (V.int .i64) y)), (2, .mp 84 81 (List.map (fun p => (fun x => V.agg [(V.int .i64 x.1), (V.int .i64 x.2)]) p.1) r0_4) (List.map (fun p => aa.w p.2) r0_4)), (1, .mp 137 61 (List.map (fun p => (fun x => V.agg [(V.int .i64 x.1), (V.str x.2)]) p.1) r0_3) (List.map (fun p => ac.w p.2) r0_3)), (0, vC r0_1 (.row 5 (List.map GTarget.w r0_2)) n0_5 n0_8 r0_9 n0_10 n0_11)]⟩ rfl ⟨rfl, rfl, rfl, rfl, rfl, trivial⟩ ?_
 refine gR 7 rfl ?_
 obtain ⟨k0_12, ek0_12, h⟩ := h
 refine gV 12 (.int .i64 ((k0_12 : Nat) : Int)) rfl (cx ek0_12) rfl ?_
 obtain ⟨f, hxt0_13, h⟩ := h
 refine gY (bC (aI hxt0_13) ah rfl rfl rfl rfl) rfl rfl <| gR 19 rfl <| qBeZ 17 18 rfl rfl rfl rfl h (fun h => ?_) fun h => ?_
 refine gR 4 rfl ?_
 obtain ⟨r0_14, r0_15, r0_16, r0_17, r0_18, n0_19, q, r, n0_22, r0_23, n0_24, n0_25, hs10, h⟩ := h
 refine gCZ hs10 [0, 1, 2, 9, 10] ⟨⟨_, rfl, ⟨rfl, rfl, (vF _ z).symm⟩⟩, ⟨⟨_, rfl, ⟨rfl, rfl, (vD _ y).symm⟩⟩, ⟨⟨_, rfl, ⟨rfl, rfl, rfl, rfl⟩⟩, ⟨⟨_, rfl, ⟨rfl, rfl, rfl, rfl⟩⟩, ⟨⟨_, rfl, ⟨rfl, an.rfl⟩⟩, trivial⟩⟩⟩⟩⟩ ?_
 refine gHR 15 (List.map (V.int .i64) q) rfl (vD _ q) rfl <| gHR 16 (List.map ae.w r) rfl (vF _ r) rfl <| gHn ⟨18, [(16, .row 42 3 (List.map ae.w r)), (15, .row 3 1 (List.map (V.int .i64) q)), (11, .var 29 (aq f)), (2, .mp 84 81 (List.map (fun p => (fun x => V.agg [(V.int .i64 x.1), (V.int .i64 x.2)]) p.1) r0_18) (List.map (fun p => aa.w p.2) r0_18)), (1, .mp 137 61 (List.map (fun p => (fun x => V.agg [(V.int .i64 x.1), (V.str x.2)]) p.1) r0_17) (List.map (fun p => ac.w p.2) r0_17)), (0, .var 63 [.row 4 (kidsV r0_15), .row 5 (List.map GTarget.w r0_16), .sl 1, .sl 2, .int .i64 n0_19, .sl 15, .sl 16, .int .i64 n0_22, .row 1 (List.map (V.int .i64) r0_23), .int .i64 n0_24, .int .i64 n0_25])]⟩ rfl ⟨rfl, rfl, rfl, rfl, rfl, rfl, trivial⟩ ?_
 refine gR 3 rfl <| qBi 21 rfl rfl rfl h (fun h => ?_) fun h => ?_
 refine gR 3 rfl ?_
 obtain ⟨r0_26, r0_27, r0_28, r0_29, n0_30, κ, μ, n0_33, r0_34, n0_35, n0_36, hs11, h⟩ := h
 refine gC hs11 [0, 1, 2, 15, 16] (by kernel_rfl) rfl rfl (.cons .rfl (.cons .rfl (.cons (.nil 1) .nil))) ⟨⟨_, rfl, ⟨rfl, rfl, (vF _ r).symm⟩⟩, ⟨⟨_, rfl, ⟨rfl, rfl, (vD _ q).symm⟩⟩, ⟨⟨_, rfl, ⟨rfl, rfl, rfl, rfl⟩⟩, ⟨⟨_, rfl, ⟨rfl, rfl, rfl, rfl⟩⟩, ⟨⟨_, rfl, ⟨rfl, an.rfl⟩⟩, trivial⟩⟩⟩⟩⟩ rfl ?_
 rintro _ _ ⟨rfl, rfl⟩
 refine gHR 21 (List.map (V.int .i64) κ) rfl (vD _ κ) rfl <| gHR 22 (List.map ae.w μ) rfl (vF _ μ) rfl <| gHn ⟨23, [(22, .row 42 3 (List.map ae.w μ)), (21, .row 3 1 (List.map (V.int .i64) κ)), (11, .var 29 (aq f)), (2, .mp 84 81 (List.map (fun p => (fun x => V.agg [(V.int .i64 x.1), (V.int .i64 x.2)]) p.1) r0_29) (List.map (fun p => aa.w p.2) r0_29)), (1, .mp 137 61 (List.map (fun p => (fun x => V.agg [(V.int .i64 x.1), (V.str x.2)]) p.1) r0_28) (List.map (fun p => ac.w p.2) r0_28)), (0, .var 63 [.row 4 (kidsV r0_26), .row 5 (List.map GTarget.w r0_27), .sl 1, .sl 2, .int .i64 n0_30, .sl 21, .sl 22, .int .i64 n0_33, .row 1 (List.map (V.int .i64) r0_34), .int .i64 n0_35, .int .i64 n0_36])]⟩ rfl ⟨rfl, rfl, rfl, rfl, rfl, rfl, trivial⟩ ?_
 refine gR 5 rfl ?_
 obtain ⟨r0_37, r0_38, ν, ξ, n0_41, α, β, n0_44, r0_45, n0_46, n0_47, hs12, h⟩ := h
 refine gCZ hs12 [0, 1, 2, 21, 22] ⟨⟨_, rfl, ⟨rfl, rfl, (vF _ μ).symm⟩⟩, ⟨⟨_, rfl, ⟨rfl, rfl, (vD _ κ).symm⟩⟩, ⟨⟨_, rfl, ⟨rfl, rfl, rfl, rfl⟩⟩, ⟨⟨_, rfl, ⟨rfl, rfl, rfl, rfl⟩⟩, ⟨⟨_, rfl, ⟨rfl, an.rfl⟩⟩, trivial⟩⟩⟩⟩⟩ ?_
 refine gHR 26 (List.map (V.int .i64) α) rfl (vD _ α) rfl <| gHR 27 (List.map ae.w β) rfl (vF _ β) rfl <| gHn ⟨28, [(27, .row 42 3 (List.map ae.w β)), (26, .row 3 1 (List.map (V.int .i64) α)), (11, .var 29 (aq f)), (2, .mp 84 81 (List.map (fun p => (fun x => V.agg [(V.int .i64 x.1), (V.int .i64 x.2)]) p.1) ξ) (List.map (fun p => aa.w p.2) ξ)), (1, .mp 137 61 (List.map (fun p => (fun x => V.agg [(V.int .i64 x.1), (V.str x.2)]) p.1) ν) (List.map (fun p => ac.w p.2) ν)), (0, .var 63 [.row 4 (kidsV r0_37), .row 5 (List.map GTarget.w r0_38), .sl 1, .sl 2, .int .i64 n0_41, .sl 26, .sl 27, .int .i64 n0_44, .row 1 (List.map (V.int .i64) r0_45), .int .i64 n0_46, .int .i64 n0_47])]⟩ rfl ⟨rfl, rfl, rfl, rfl, rfl, rfl, trivial⟩ ?_
 refine gR 1 rfl ?_
 obtain ⟨rfl, rfl, rfl, rfl, rfl, rfl, rfl, rfl, rfl, rfl, rfl⟩ := h
 refine go_sub (F' := (mkF 31 0 [])) (H' := ⟨5, [(4, .row 42 3 (List.map ae.w β)), (3, .row 3 1 (List.map (V.int .i64) α)), (2, .mp 84 81 (List.map (fun p => (fun x => V.agg [(V.int .i64 x.1), (V.int .i64 x.2)]) p.1) ξ) (List.map (fun p => aa.w p.2) ξ)), (1, .mp 137 61 (List.map (fun p => (fun x => V.agg [(V.int .i64 x.1), (V.str x.2)]) p.1) ν) (List.map (fun p => ac.w p.2) ν)), (0, vA r0_37 (.row 5 (List.map GTarget.w r0_38)) n0_41 n0_44 r0_45 n0_46 n0_47)]⟩) [0, 1, 2, 26, 27] [2, 1, 0] rfl hK trivial ⟨⟨_, rfl, rfl, rfl, (vF _ β).symm⟩, ⟨_, rfl, rfl, rfl, (vD _ α).symm⟩, ⟨_, rfl, rfl, rfl, rfl, rfl⟩, ⟨_, rfl, rfl, rfl, rfl, rfl⟩, (pqo1 rfl rfl)⟩ rfl ?_
 exact go_endD [] ah (rs := []) rfl rfl ⟨rfl, rfl⟩
 refine gR 6 rfl ?_
 obtain ⟨r0_48, r0_49, ο, π, n0_52, γ, δ, n0_55, r0_56, n0_57, n0_58, hs13, h⟩ := h
 refine gCZ hs13 [0, 1, 2, 15, 16] ⟨⟨_, rfl, ⟨rfl, rfl, (vF _ r).symm⟩⟩, ⟨⟨_, rfl, ⟨rfl, rfl, (vD _ q).symm⟩⟩, ⟨⟨_, rfl, ⟨rfl, rfl, rfl, rfl⟩⟩, ⟨⟨_, rfl, ⟨rfl, rfl, rfl, rfl⟩⟩, ⟨⟨_, rfl, ⟨rfl, an.rfl⟩⟩, trivial⟩⟩⟩⟩⟩ ?_
 refine gHR 21 (List.map (V.int .i64) γ) rfl (vD _ γ) rfl <| gHR 22 (List.map ae.w δ) rfl (vF _ δ) rfl <| gHn ⟨23, [(22, .row 42 3 (List.map ae.w δ)), (21, .row 3 1 (List.map (V.int .i64) γ)), (11, .var 29 (aq f)), (2, .mp 84 81 (List.map (fun p => (fun x => V.agg [(V.int .i64 x.1), (V.int .i64 x.2)]) p.1) π) (List.map (fun p => aa.w p.2) π)), (1, .mp 137 61 (List.map (fun p => (fun x => V.agg [(V.int .i64 x.1), (V.str x.2)]) p.1) ο) (List.map (fun p => ac.w p.2) ο)), (0, .var 63 [.row 4 (kidsV r0_48), .row 5 (List.map GTarget.w r0_49), .sl 1, .sl 2, .int .i64 n0_52, .sl 21, .sl 22, .int .i64 n0_55, .row 1 (List.map (V.int .i64) r0_56), .int .i64 n0_57, .int .i64 n0_58])]⟩ rfl ⟨rfl, rfl, rfl, rfl, rfl, rfl, trivial⟩ ?_
 refine gR 1 rfl ?_
 obtain ⟨rfl, rfl, rfl, rfl, rfl, rfl, rfl, rfl, rfl, rfl, rfl⟩ := h
 refine go_sub (F' := (mkF 31 0 [])) (H' := ⟨5, [(4, .row 42 3 (List.map ae.w δ)), (3, .row 3 1 (List.map (V.int .i64) γ)), (2, .mp 84 81 (List.map (fun p => (fun x => V.agg [(V.int .i64 x.1), (V.int .i64 x.2)]) p.1) π) (List.map (fun p => aa.w p.2) π)), (1, .mp 137 61 (List.map (fun p => (fun x => V.agg [(V.int .i64 x.1), (V.str x.2)]) p.1) ο) (List.map (fun p => ac.w p.2) ο)), (0, vA r0_48 (.row 5 (List.map GTarget.w r0_49)) n0_52 n0_55 r0_56 n0_57 n0_58)]⟩) [0, 1, 2, 21, 22] [2, 1, 0] rfl hK trivial ⟨⟨_, rfl, rfl, rfl, (vF _ δ).symm⟩, ⟨_, rfl, rfl, rfl, (vD _ γ).symm⟩, ⟨_, rfl, rfl, rfl, rfl, rfl⟩, ⟨_, rfl, rfl, rfl, rfl, rfl⟩, (pqo1 rfl rfl)⟩ rfl ?_
 exact go_endD [] ah (rs := []) rfl rfl ⟨rfl, rfl⟩
 refine gR 7 rfl <| qBeZ 24 25 rfl rfl rfl rfl h (fun h => ?_) fun h => ?_
 refine gR 4 rfl ?_
 obtain ⟨r0_59, r0_60, r0_61, r0_62, n0_63, τ, υ, n0_66, r0_67, n0_68, n0_69, hs14, h⟩ := h
 refine gCZ hs14 [0, 1, 2, 9, 10] ⟨⟨_, rfl, ⟨rfl, rfl, (vF _ z).symm⟩⟩, ⟨⟨_, rfl, ⟨rfl, rfl, (vD _ y).symm⟩⟩, ⟨⟨_, rfl, ⟨rfl, rfl, rfl, rfl⟩⟩, ⟨⟨_, rfl, ⟨rfl, rfl, rfl, rfl⟩⟩, ⟨⟨_, rfl, ⟨rfl, an.rfl⟩⟩, trivial⟩⟩⟩⟩⟩ ?_
 refine gHR 15 (List.map (V.int .i64) τ) rfl (vD _ τ) rfl <| gHR 16 (List.map ae.w υ) rfl (vF _ υ) rfl <| gHn ⟨17, [(16, .row 42 3 (List.map ae.w υ)), (15, .row 3 1 (List.map (V.int .i64) τ)), (11, .var 29 (aq f)), (2, .mp 84 81 (List.map (fun p => (fun x => V.agg [(V.int .i64 x.1), (V.int .i64 x.2)]) p.1) r0_62) (List.map (fun p => aa.w p.2) r0_62)), (1, .mp 137 61 (List.map (fun p => (fun x => V.agg [(V.int .i64 x.1), (V.str x.2)]) p.1) r0_61) (List.map (fun p => ac.w p.2) r0_61)), (0, .var 63 [.row 4 (kidsV r0_59), .row 5 (List.map GTarget.w r0_60), .sl 1, .sl 2, .int .i64 n0_63, .sl 15, .sl 16, .int .i64 n0_66, .row 1 (List.map (V.int .i64) r0_67), .int .i64 n0_68, .int .i64 n0_69])]⟩ rfl ⟨rfl, rfl, rfl, rfl, rfl, rfl, trivial⟩ ?_
 refine gR 5 rfl ?_
 obtain ⟨r0_70, r0_71, φ, χ, n0_74, ε, ζ, n0_77, r0_78, n0_79, n0_80, hs15, h⟩ := h
 refine gCZ hs15 [0, 1, 2, 15, 16] ⟨⟨_, rfl, ⟨rfl, rfl, (vF _ υ).symm⟩⟩, ⟨⟨_, rfl, ⟨rfl, rfl, (vD _ τ).symm⟩⟩, ⟨⟨_, rfl, ⟨rfl, rfl, rfl, rfl⟩⟩, ⟨⟨_, rfl, ⟨rfl, rfl, rfl, rfl⟩⟩, ⟨⟨_, rfl, ⟨rfl, an.rfl⟩⟩, trivial⟩⟩⟩⟩⟩ ?_
 refine gHR 20 (List.map (V.int .i64) ε) rfl (vD _ ε) rfl <| gHR 21 (List.map ae.w ζ) rfl (vF _ ζ) rfl <| gHn ⟨22, [(21, .row 42 3 (List.map ae.w ζ)), (20, .row 3 1 (List.map (V.int .i64) ε)), (11, .var 29 (aq f)), (2, .mp 84 81 (List.map (fun p => (fun x => V.agg [(V.int .i64 x.1), (V.int .i64 x.2)]) p.1) χ) (List.map (fun p => aa.w p.2) χ)), (1, .mp 137 61 (List.map (fun p => (fun x => V.agg [(V.int .i64 x.1), (V.str x.2)]) p.1) φ) (List.map (fun p => ac.w p.2) φ)), (0, .var 63 [.row 4 (kidsV r0_70), .row 5 (List.map GTarget.w r0_71), .sl 1, .sl 2, .int .i64 n0_74, .sl 20, .sl 21, .int .i64 n0_77, .row 1 (List.map (V.int .i64) r0_78), .int .i64 n0_79, .int .i64 n0_80])]⟩ rfl ⟨rfl, rfl, rfl, rfl, rfl, rfl, trivial⟩ ?_
 refine gR 1 rfl ?_
 obtain ⟨rfl, rfl, rfl, rfl, rfl, rfl, rfl, rfl, rfl, rfl, rfl⟩ := h
 refine go_sub (F' := (mkF 31 0 [])) (H' := ⟨5, [(4, .row 42 3 (List.map ae.w ζ)), (3, .row 3 1 (List.map (V.int .i64) ε)), (2, .mp 84 81 (List.map (fun p => (fun x => V.agg [(V.int .i64 x.1), (V.int .i64 x.2)]) p.1) χ) (List.map (fun p => aa.w p.2) χ)), (1, .mp 137 61 (List.map (fun p => (fun x => V.agg [(V.int .i64 x.1), (V.str x.2)]) p.1) φ) (List.map (fun p => ac.w p.2) φ)), (0, vA r0_70 (.row 5 (List.map GTarget.w r0_71)) n0_74 n0_77 r0_78 n0_79 n0_80)]⟩) [0, 1, 2, 20, 21] [2, 1, 0] rfl hK trivial ⟨⟨_, rfl, rfl, rfl, (vF _ ζ).symm⟩, ⟨_, rfl, rfl, rfl, (vD _ ε).symm⟩, ⟨_, rfl, rfl, rfl, rfl, rfl⟩, ⟨_, rfl, rfl, rfl, rfl, rfl⟩, (pqo1 rfl rfl)⟩ rfl ?_
 exact go_endD [] ah (rs := []) rfl rfl ⟨rfl, rfl⟩
 refine gR 6 rfl ?_
 obtain ⟨r0_81, r0_82, ψ, ω, n0_85, η, θ, n0_88, r0_89, n0_90, n0_91, hs16, h⟩ := h
 refine gCZ hs16 [0, 1, 2, 9, 10] ⟨⟨_, rfl, ⟨rfl, rfl, (vF _ z).symm⟩⟩, ⟨⟨_, rfl, ⟨rfl, rfl, (vD _ y).symm⟩⟩, ⟨⟨_, rfl, ⟨rfl, rfl, rfl, rfl⟩⟩, ⟨⟨_, rfl, ⟨rfl, rfl, rfl, rfl⟩⟩, ⟨⟨_, rfl, ⟨rfl, an.rfl⟩⟩, trivial⟩⟩⟩⟩⟩ ?_
 refine gHR 15 (List.map (V.int .i64) η) rfl (vD _ η) rfl <| gHR 16 (List.map ae.w θ) rfl (vF _ θ) rfl <| gHn ⟨17, [(16, .row 42 3 (List.map ae.w θ)), (15, .row 3 1 (List.map (V.int .i64) η)), (11, .var 29 (aq f)), (2, .mp 84 81 (List.map (fun p => (fun x => V.agg [(V.int .i64 x.1), (V.int .i64 x.2)]) p.1) ω) (List.map (fun p => aa.w p.2) ω)), (1, .mp 137 61 (List.map (fun p => (fun x => V.agg [(V.int .i64 x.1), (V.str x.2)]) p.1) ψ) (List.map (fun p => ac.w p.2) ψ)), (0, .var 63 [.row 4 (kidsV r0_81), .row 5 (List.map GTarget.w r0_82), .sl 1, .sl 2, .int .i64 n0_85, .sl 15, .sl 16, .int .i64 n0_88, .row 1 (List.map (V.int .i64) r0_89), .int .i64 n0_90, .int .i64 n0_91])]⟩ rfl ⟨rfl, rfl, rfl, rfl, rfl, rfl, trivial⟩ ?_
 refine gR 1 rfl ?_
 obtain ⟨rfl, rfl, rfl, rfl, rfl, rfl, rfl, rfl, rfl, rfl, rfl⟩ := h
 refine go_sub (F' := (mkF 31 0 [])) (H' := ⟨5, [(4, .row 42 3 (List.map ae.w θ)), (3, .row 3 1 (List.map (V.int .i64) η)), (2, .mp 84 81 (List.map (fun p => (fun x => V.agg [(V.int .i64 x.1), (V.int .i64 x.2)]) p.1) ω) (List.map (fun p => aa.w p.2) ω)), (1, .mp 137 61 (List.map (fun p => (fun x => V.agg [(V.int .i64 x.1), (V.str x.2)]) p.1) ψ) (List.map (fun p => ac.w p.2) ψ)), (0, vA r0_81 (.row 5 (List.map GTarget.w r0_82)) n0_85 n0_88 r0_89 n0_90 n0_91)]⟩) [0, 1, 2, 15, 16] [2, 1, 0] rfl hK trivial ⟨⟨_, rfl, rfl, rfl, (vF _ θ).symm⟩, ⟨_, rfl, rfl, rfl, (vD _ η).symm⟩, ⟨_, rfl, rfl, rfl, rfl, rfl⟩, ⟨_, rfl, rfl, rfl, rfl, rfl⟩, (pqo1 rfl rfl)⟩ rfl ?_
 exact go_endD [] ah (rs := []) rfl rfl ⟨rfl, rfl⟩
def bE (m : Nat) (β : List Tree) (q : List GTarget) (n : (List ((Int × (List UInt8)) × ac))) (a : (List ((Int × Int) × aa))) (s : Int) (z : List Int) (t : List ae) (d : Int) (k : List Int) (e i : Int) (p1 : Tree) (γ : List ak) (r0 : ac) (δ : List Tree) (r : List GTarget) (o : (List ((Int × (List UInt8)) × ac))) (b : (List ((Int × Int) × aa))) (v : Int) (α : List Int) (y : List ae) (f : Int) (l : List Int) (g j : Int) : Prop := ∀ (K : Ctx) (j1 : Nat), aG K [2, 1, 0] → m ≤ j1 → qLG K Tryz.f100 (fun u G => u = .agg (ac.c r0) ∧ G = ⟨6, [(4, .row 42 3 (List.map ae.w y)), (3, .row 3 1 (List.map (V.int .i64) α)), (2, .mp 84 81 (List.map (fun p => (fun x => V.agg [(V.int .i64 x.1), (V.int .i64 x.2)]) p.1) b) (List.map (fun p => aa.w p.2) b)), (1, .mp 137 61 (List.map (fun p => (fun x => V.agg [(V.int .i64 x.1), (V.str x.2)]) p.1) o) (List.map (fun p => ac.w p.2) o)), (0, vA δ (.row 5 (List.map GTarget.w r)) v f l g j)]⟩) (xC (cA (cB (aj Tryz.f100)))) [.loop (xC (cA (cB (aj Tryz.f100)))) j1, .blk 0, .seq (xA (aj Tryz.f100))] 29 (mkF 29 0 [(0, .ptr 0 0), (4, .box (aq p1) 0), (6, .ptr 3 0), (7, .lk (List.map ak.c γ))]) ⟨6, [(5, .row 42 3 (List.map ae.w t)), (4, .row 3 1 (List.map (V.int .i64) z)), (3, vB 0 0), (2, .mp 84 81 (List.map (fun p => (fun x => V.agg [(V.int .i64 x.1), (V.int .i64 x.2)]) p.1) a) (List.map (fun p => aa.w p.2) a)), (1, .mp 137 61 (List.map (fun p => (fun x => V.agg [(V.int .i64 x.1), (V.str x.2)]) p.1) n) (List.map (fun p => ac.w p.2) n)), (0, .var 63 [.row 4 (kidsV β), .row 5 (List.map GTarget.w q), .sl 1, .sl 2, .int .i64 s, .sl 4, .sl 5, .int .i64 d, .row 1 (List.map (V.int .i64) k), .int .i64 e, .int .i64 i])]⟩
theorem rS_typing_checker_variable (m : Nat) (y : List Tree) (n : List GTarget) (t : (List ((Int × (List UInt8)) × ac))) (j : (List ((Int × Int) × aa))) (p : Int) (q : List Int) (l : List ae) (a : Int) (g : List Int) (b e : Int) (p1 : Tree) (p2 : List ak) (r0 : ac) (z : List Tree) (o : List GTarget) (v : (List ((Int × (List UInt8)) × ac))) (k : (List ((Int × Int) × aa))) (r : Int) (x : List Int) (s : List ae) (c : Int) (i : List Int) (d f : Int) (h : bE m y n t j p q l a g b e p1 p2 r0 z o v k r x s c i d f) : cS y n t j p q l a g b e p1 p2 r0 z o v k r x s c i d f := by
 refine am 29 [2, 1, 0] Tryz.func100 rfl rfl rfl (aA rfl) fun K hK => ?_
 exact gR 3 rfl <| gFP 5 rfl rfl rfl rfl <| gR 11 rfl <| go_loop m <| gJ (h K _ hK (by omega)) [0, 1, 2, 6, 3, 4] [2, 1, 0] rfl hK pq4 ⟨⟨_, rfl, rfl, rfl, (vF _ l).symm⟩, ⟨_, rfl, rfl, rfl, (vD _ q).symm⟩, pqo rfl rfl, ⟨_, rfl, rfl, rfl, rfl, rfl⟩, ⟨_, rfl, rfl, rfl, rfl, rfl⟩, (pqo1 rfl rfl)⟩ rfl
theorem dH (m : Nat) (ξ : List Tree) (q : List GTarget) (s : (List ((Int × (List UInt8)) × ac))) (d : (List ((Int × Int) × aa))) (t : Int) (r : List Int) (k : List ae) (a : Int) (f : List Int) (b e : Int) (p1 : Tree) (υ : List ak) (r0 : ac) (φ : List Tree) (v : List GTarget) (β : (List ((Int × (List UInt8)) × ac))) (o : (List ((Int × Int) × aa))) (z : Int) (γ : List Int) (α : List ae) (g : Int) (n : List Int) (i l : Int) (h : ((υ = []) → ∃ ο π, ∃ (ζ : (List ((Int × (List UInt8)) × ac))), ∃ (η : (List ((Int × Int) × aa))), ∃ τ δ ε θ ι κ μ, ao ξ q s d t r k a f b e 1 [] ο π ζ η τ δ ε θ ι κ μ ∧ (ac.mk 0 0) = r0 ∧ ο = φ ∧ π = v ∧ ζ = β ∧ η = o ∧ τ = z ∧ δ = γ ∧ ε = α ∧ θ = g ∧ ι = n ∧ κ = i ∧ μ = l) ∧ (∀ (y : ak) (ν : List ak), υ = y :: ν → ((y.name = p1.text) → y.typ = r0 ∧ ξ = φ ∧ q = v ∧ s = β ∧ d = o ∧ t = z ∧ r = γ ∧ k = α ∧ a = g ∧ f = n ∧ b = i ∧ e = l) ∧ ((y.name ≠ p1.text) → bE m ξ q s d t r k a f b e p1 ν r0 φ v β o z γ α g n i l))) : bE (m + 1) ξ q s d t r k a f b e p1 υ r0 φ v β o z γ α g n i l := by
 intro K j1 hK hj1
 obtain ⟨j1, rfl⟩ : ∃ j, j1 = j + 1 := ⟨j1 - 1, by omega⟩
 refine gR 4 rfl ?_
 rcases υ with _ | ⟨y, ν⟩
 replace h := h.1 rfl
 refine gS 7 (.nilp) rfl xm rfl <| gS 9 (.nilp) rfl xm rfl <| gY (zq Tryz.underlying107 rfl) rfl rfl <| gR 5 rfl <| go_xloopE <| gR 5 rfl ?_
 obtain ⟨ο, π, ζ, η, τ, δ, ε, θ, ι, κ, μ, hs3, h⟩ := h
 refine gC hs3 [0, 1, 2, 4, 5] (by kernel_rfl) rfl rfl (.cons .rfl (.cons .rfl (.cons (.nil 1) .nil))) ⟨⟨_, rfl, ⟨rfl, rfl, (vF _ k).symm⟩⟩, ⟨⟨_, rfl, ⟨rfl, rfl, (vD _ r).symm⟩⟩, ⟨⟨_, rfl, ⟨rfl, rfl, rfl, rfl⟩⟩, ⟨⟨_, rfl, ⟨rfl, rfl, rfl, rfl⟩⟩, ⟨⟨_, rfl, ⟨rfl, an.rfl⟩⟩, trivial⟩⟩⟩⟩⟩ rfl ?_
 rintro _ _ ⟨rfl, rfl⟩
 refine gHR 9 (List.map (V.int .i64) δ) rfl (vD _ δ) rfl <| gHR 10 (List.map ae.w ε) rfl (vF _ ε) rfl <| gHn ⟨11, [(10, .row 42 3 (List.map ae.w ε)), (9, .row 3 1 (List.map (V.int .i64) δ)), (3, vB 0 0), (2, .mp 84 81 (List.map (fun p => (fun x => V.agg [(V.int .i64 x.1), (V.int .i64 x.2)]) p.1) η) (List.map (fun p => aa.w p.2) η)), (1, .mp 137 61 (List.map (fun p => (fun x => V.agg [(V.int .i64 x.1), (V.str x.2)]) p.1) ζ) (List.map (fun p => ac.w p.2) ζ)), (0, vC ο (.row 5 (List.map GTarget.w π)) τ θ ι κ μ)]⟩ rfl ⟨rfl, rfl, rfl, rfl, rfl, rfl, trivial⟩ ?_
 refine gR 9 rfl ?_
 obtain ⟨rfl, rfl, rfl, rfl, rfl, rfl, rfl, rfl, rfl, rfl, rfl, rfl⟩ := h
 refine go_sub (F' := (mkF 29 0 [(6, .ptr 5 0)])) (H' := ⟨6, [(5, .var 61 (ac.c (ac.mk 0 0))), (4, .row 42 3 (List.map ae.w ε)), (3, .row 3 1 (List.map (V.int .i64) δ)), (2, .mp 84 81 (List.map (fun p => (fun x => V.agg [(V.int .i64 x.1), (V.int .i64 x.2)]) p.1) η) (List.map (fun p => aa.w p.2) η)), (1, .mp 137 61 (List.map (fun p => (fun x => V.agg [(V.int .i64 x.1), (V.str x.2)]) p.1) ζ) (List.map (fun p => ac.w p.2) ζ)), (0, vA ο (.row 5 (List.map GTarget.w π)) τ θ ι κ μ)]⟩) [0, 1, 2, 9, 10, 3] [2, 1, 0] rfl hK pq1 ⟨pqo rfl rfl, ⟨_, rfl, rfl, rfl, (vF _ ε).symm⟩, ⟨_, rfl, rfl, rfl, (vD _ δ).symm⟩, ⟨_, rfl, rfl, rfl, rfl, rfl⟩, ⟨_, rfl, rfl, rfl, rfl, rfl⟩, (pqo1 rfl rfl)⟩ rfl ?_
 exact go_endD [5] ah (rs := [.cell 6 61]) rfl rfl ⟨rfl, rfl⟩
 replace h := h.2 y ν rfl
 refine gS 7 (.box [.str y.name, .int .i64 y.typ.simple, .int .i64 y.typ.lists, .lk (List.map ak.c ν)] 0) rfl (xo rfl) rfl <| gS 9 (.box [.str y.name, .int .i64 y.typ.simple, .int .i64 y.typ.lists, .lk (List.map ak.c ν)] 0) rfl (xo rfl) rfl <| gY (zz Tryz.underlying107 rfl) rfl rfl <| gR 8 rfl <| gDs [] 7 7 rfl (by kernel_rfl) (by kernel_rfl) <| gDr [(0, 2), (1, 2), (2, 2), (3, 2), (4, 0), (5, 0), (6, 0)] (by kernel_rfl) rfl rfl <| gDe (by kernel_rfl) <| gR 1 rfl <| gB 21 rfl rfl rfl ?_ ?_ <;> intro hd
 replace hd := (eq_of_beq hd)
 replace h := h.1 hd
 refine gR 13 rfl <| go_xloopR <| gR 2 rfl ?_
 obtain ⟨rfl, rfl, rfl, rfl, rfl, rfl, rfl, rfl, rfl, rfl, rfl, rfl⟩ := h
 refine go_sub (F' := (mkF 29 0 [(6, .ptr 5 0)])) (H' := ⟨6, [(5, .var 61 (ac.c y.typ)), (4, .row 42 3 (List.map ae.w k)), (3, .row 3 1 (List.map (V.int .i64) r)), (2, .mp 84 81 (List.map (fun p => (fun x => V.agg [(V.int .i64 x.1), (V.int .i64 x.2)]) p.1) d) (List.map (fun p => aa.w p.2) d)), (1, .mp 137 61 (List.map (fun p => (fun x => V.agg [(V.int .i64 x.1), (V.str x.2)]) p.1) s) (List.map (fun p => ac.w p.2) s)), (0, vA ξ (.row 5 (List.map GTarget.w q)) t a f b e)]⟩) [0, 1, 2, 4, 5, 3] [2, 1, 0] rfl hK pq1 ⟨pqo rfl rfl, ⟨_, rfl, rfl, rfl, (vF _ k).symm⟩, ⟨_, rfl, rfl, rfl, (vD _ r).symm⟩, ⟨_, rfl, rfl, rfl, rfl, rfl⟩, ⟨_, rfl, rfl, rfl, rfl, rfl⟩, (pqo1 rfl rfl)⟩ rfl ?_
 exact go_endD [5] ah (rs := [.cell 6 61]) rfl rfl ⟨rfl, rfl⟩
 replace hd := (ne_of_beq_false hd)
 replace h := h.2 hd
 exact gR 11 rfl <| go_xloop <| gJ (h K _ hK (by omega)) [0, 1, 2, 3, 4, 5] [2, 1, 0] rfl hK pq4 ⟨⟨_, rfl, rfl, rfl, (vF _ k).symm⟩, ⟨_, rfl, rfl, rfl, (vD _ r).symm⟩, pqo rfl rfl, ⟨_, rfl, rfl, rfl, rfl, rfl⟩, ⟨_, rfl, rfl, rfl, rfl, rfl⟩, (pqo1 rfl rfl)⟩ rfl
theorem dF (m : Nat) (p0_p : List Tree) (p0_targets : List GTarget) (p0_names : (List ((Int × (List UInt8)) × ac))) (β : (List ((Int × Int) × aa))) (p0_module : Int) (p0_path : List Int) (ν : List ae) (n : Int) (α : List Int) (o t : Int) (p1 : Tree) (p2 : Int) (p3 : List ak) (r0 : ac) (q0_p : List Tree) (q : List GTarget) (μ : (List ((Int × (List UInt8)) × ac))) (i : (List ((Int × Int) × aa))) (v : Int) (χ : List Int) (y : List ae) (d : Int) (g : List Int) (e f : Int) (h : ∃ r0_1 r0_2, ∃ (r0_3 : (List ((Int × (List UInt8)) × ac))), ∃ (r0_4 : (List ((Int × Int) × aa))), ∃ n0_5 r0_6 r0_7 n0_8 r0_9 n0_10 n0_11, aV p0_p p0_targets p0_names β p0_module p0_path ν n α o t p2 r0_1 r0_2 r0_3 r0_4 n0_5 r0_6 r0_7 n0_8 r0_9 n0_10 n0_11 ∧ ∃ k0_12, p2 = ((k0_12 : Nat) : Int) ∧ ∃ t0_13, p1.kids[k0_12]? = some t0_13 ∧ ∃ a γ δ, ∃ (k : (List ((Int × (List UInt8)) × ac))), ∃ (l : (List ((Int × Int) × aa))), ∃ r b j s z ψ ω, co r0_1 r0_2 r0_3 r0_4 n0_5 r0_6 r0_7 n0_8 r0_9 n0_10 n0_11 t0_13 p3 a γ δ k l r b j s z ψ ω ∧ ((r = s) → ∃ b0_26, fG b z b0_26 ∧ ((b0_26 = true) → ∃ r0_27 r0_28, ∃ (ξ : (List ((Int × (List UInt8)) × ac))), ∃ (ο : (List ((Int × Int) × aa))), ∃ n0_31 ε ζ n0_34 r0_35 n0_36 n0_37, ay γ δ k l r b j s z a.simple a.lists r0_27 r0_28 ξ ο n0_31 ε ζ n0_34 r0_35 n0_36 n0_37 ∧ a = r0 ∧ r0_27 = q0_p ∧ r0_28 = q ∧ ξ = μ ∧ ο = i ∧ n0_31 = v ∧ ε = χ ∧ ζ = y ∧ n0_34 = d ∧ r0_35 = g ∧ n0_36 = e ∧ n0_37 = f) ∧ ((b0_26 = false) → ∃ r0_38 r0_39, ∃ (π : (List ((Int × (List UInt8)) × ac))), ∃ (τ : (List ((Int × Int) × aa))), ∃ n0_42 η θ n0_45 r0_46 n0_47 n0_48, ay γ δ k l r b j s z ψ ω r0_38 r0_39 π τ n0_42 η θ n0_45 r0_46 n0_47 n0_48 ∧ a = r0 ∧ r0_38 = q0_p ∧ r0_39 = q ∧ π = μ ∧ τ = i ∧ n0_42 = v ∧ η = χ ∧ θ = y ∧ n0_45 = d ∧ r0_46 = g ∧ n0_47 = e ∧ n0_48 = f)) ∧ ((r ≠ s) → ∃ r0_49 r0_50, ∃ (υ : (List ((Int × (List UInt8)) × ac))), ∃ (φ : (List ((Int × Int) × aa))), ∃ n0_53 ι κ n0_56 r0_57 n0_58 n0_59, ay γ δ k l r b j s z ψ ω r0_49 r0_50 υ φ n0_53 ι κ n0_56 r0_57 n0_58 n0_59 ∧ a = r0 ∧ r0_49 = q0_p ∧ r0_50 = q ∧ υ = μ ∧ φ = i ∧ n0_53 = v ∧ ι = χ ∧ κ = y ∧ n0_56 = d ∧ r0_57 = g ∧ n0_58 = e ∧ n0_59 = f)) : aC p0_p p0_targets p0_names β p0_module p0_path ν n α o t p1 p2 p3 r0 q0_p q μ i v χ y d g e f := by
 refine am 50 [2, 1, 0] Tryz.func59 rfl rfl rfl (aA rfl) fun K hK => ?_
 refine gR 3 rfl <| gFP 5 rfl rfl rfl rfl <| gR 7 rfl ?_
 obtain ⟨r0_1, r0_2, r0_3, r0_4, n0_5, r0_6, r0_7, n0_8, r0_9, n0_10, n0_11, hs7, h⟩ := h
 refine gCZ hs7 [0, 1, 2, 3, 4] ⟨⟨_, rfl, ⟨rfl, rfl, (vF _ ν).symm⟩⟩, ⟨⟨_, rfl, ⟨rfl, rfl, (vD _ p0_path).symm⟩⟩, ⟨⟨_, rfl, ⟨rfl, rfl, rfl, rfl⟩⟩, ⟨⟨_, rfl, ⟨rfl, rfl, rfl, rfl⟩⟩, ⟨⟨_, rfl, ⟨rfl, an.rfl⟩⟩, trivial⟩⟩⟩⟩⟩ ?_
 refine gHR 10 (List.map (V.int .i64) r0_6) rfl (vD _ r0_6) rfl <| gHR 11 (List.map ae.w r0_7) rfl (vF _ r0_7) rfl <| gHn ⟨12, [(11, .row 42 3 (List.map ae.w r0_7)), (10, .row 3 1 (List.map (V.int .i64) r0_6)), (6, vB 0 0), (2, .mp 84 81 (List.map (fun p => (fun x => V.agg [(V.int .i64 x.1), (V.int .i64 x.2)]) p.1) r0_4) (List.map (fun p => aa.w p.2) r0_4)), (1, .mp 137 61 (List.map (fun p => (fun x => V.agg [(V.int .i64 x.1), (V.str x.2)]) p.1) r0_3) (List.map (fun p => ac.w p.2) r0_3)), (0, .var 63 [.row 4 (kidsV r0_1), .row 5 (List.map GTarget.w r0_2), .sl 1, .sl 2, .int .i64 n0_5, .sl 10, .sl 11, .int .i64 n0_8, .row 1 (List.map (V.int .i64) r0_9), .int .i64 n0_10, .int .i64 n0_11])]⟩ rfl ⟨rfl, rfl, rfl, rfl, rfl, rfl, trivial⟩ ?_
 refine gR 8 rfl ?_
 obtain ⟨k0_12, ek0_12, h⟩ := h
 refine gV 16 (.int .i64 ((k0_12 : Nat) : Int)) rfl (cx ek0_12) rfl ?_
 obtain ⟨t0_13, hxt0_13, h⟩ := h
 refine gY (bC (aI hxt0_13) ah rfl rfl rfl rfl) rfl rfl <| gR 2 rfl ?_
 obtain ⟨a, γ, δ, k, l, r, b, j, s, z, ψ, ω, hs8, h⟩ := h
 refine gCZ hs8 [0, 1, 2, 10, 11] ⟨⟨_, rfl, ⟨rfl, rfl, (vF _ r0_7).symm⟩⟩, ⟨⟨_, rfl, ⟨rfl, rfl, (vD _ r0_6).symm⟩⟩, ⟨⟨_, rfl, ⟨rfl, rfl, rfl, rfl⟩⟩, ⟨⟨_, rfl, ⟨rfl, rfl, rfl, rfl⟩⟩, ⟨⟨_, rfl, ⟨rfl, an.rfl⟩⟩, trivial⟩⟩⟩⟩⟩ ?_
 refine gHR 15 (List.map (V.int .i64) b) rfl (vD _ b) rfl <| gHR 16 (List.map ae.w j) rfl (vF _ j) rfl <| gHn ⟨18, [(16, .row 42 3 (List.map ae.w j)), (15, .row 3 1 (List.map (V.int .i64) b)), (6, vB 0 0), (2, .mp 84 81 (List.map (fun p => (fun x => V.agg [(V.int .i64 x.1), (V.int .i64 x.2)]) p.1) l) (List.map (fun p => aa.w p.2) l)), (1, .mp 137 61 (List.map (fun p => (fun x => V.agg [(V.int .i64 x.1), (V.str x.2)]) p.1) k) (List.map (fun p => ac.w p.2) k)), (0, .var 63 [.row 4 (kidsV γ), .row 5 (List.map GTarget.w δ), .sl 1, .sl 2, .int .i64 r, .sl 15, .sl 16, .int .i64 s, .row 1 (List.map (V.int .i64) z), .int .i64 ψ, .int .i64 ω])]⟩ rfl ⟨rfl, rfl, rfl, rfl, rfl, rfl, trivial⟩ ?_
 refine gR 6 rfl <| gDs [0] 22 22 rfl (by kernel_rfl) (by kernel_rfl) <| gDr [(0, 2), (1, 2), (2, 2), (3, 3), (4, 0), (5, 0), (6, 0), (7, 0), (8, 0), (9, 0), (10, 0)] (by kernel_rfl) rfl rfl <| qBeZ 31 30 rfl rfl rfl rfl h (fun h => ?_) fun h => ?_
 refine gDr [(11, 2), (12, 2), (13, 2), (14, 3), (15, 0), (16, 0), (17, 0), (18, 0), (19, 0)] (by kernel_rfl) rfl rfl ?_
 obtain ⟨b0_26, hs9, h⟩ := h
 refine gDCZ 20 hs9 [15] rfl ⟨⟨_, rfl, ⟨rfl, rfl, (vD _ b).symm⟩⟩, trivial⟩ ?_
 refine gHR 15 (List.map (V.int .i64) b) rfl (vD _ b) rfl <| gHn ⟨20, [(18, .var 61 (ac.c a)), (16, .row 42 3 (List.map ae.w j)), (15, .row 3 1 (List.map (V.int .i64) b)), (6, vB 0 0), (2, .mp 84 81 (List.map (fun p => (fun x => V.agg [(V.int .i64 x.1), (V.int .i64 x.2)]) p.1) l) (List.map (fun p => aa.w p.2) l)), (1, .mp 137 61 (List.map (fun p => (fun x => V.agg [(V.int .i64 x.1), (V.str x.2)]) p.1) k) (List.map (fun p => ac.w p.2) k)), (0, .var 63 [.row 4 (kidsV γ), .row 5 (List.map GTarget.w δ), .sl 1, .sl 2, .int .i64 r, .sl 15, .sl 16, .int .i64 s, .row 1 (List.map (V.int .i64) z), .int .i64 ψ, .int .i64 ω])]⟩ rfl ⟨rfl, rfl, rfl, rfl, rfl, rfl, rfl, trivial⟩ ?_
 refine gDr [(21, 0)] (by kernel_rfl) rfl rfl <| gDe (by kernel_rfl) <| gR 1 rfl <| qBi 42 rfl rfl rfl h (fun h => ?_) fun h => ?_
 refine gR 9 rfl <| go_sub (F' := (mkF 50 0 [(0, .ptr 0 0), (8, .ptr 3 0), (9, .ptr 4 0)])) (H' := ⟨7, [(6, .row 42 3 (List.map ae.w j)), (5, .row 3 1 (List.map (V.int .i64) b)), (4, .var 61 (ac.c a)), (3, vB 0 0), (2, .mp 84 81 (List.map (fun p => (fun x => V.agg [(V.int .i64 x.1), (V.int .i64 x.2)]) p.1) l) (List.map (fun p => aa.w p.2) l)), (1, .mp 137 61 (List.map (fun p => (fun x => V.agg [(V.int .i64 x.1), (V.str x.2)]) p.1) k) (List.map (fun p => ac.w p.2) k)), (0, .var 63 [.row 4 (kidsV γ), .row 5 (List.map GTarget.w δ), .sl 1, .sl 2, .int .i64 r, .sl 5, .sl 6, .int .i64 s, .row 1 (List.map (V.int .i64) z), .int .i64 a.simple, .int .i64 a.lists])]⟩) [0, 1, 2, 6, 18, 15, 16] [2, 1, 0] rfl hK pq3 ⟨⟨_, rfl, rfl, rfl, (vF _ j).symm⟩, ⟨_, rfl, rfl, rfl, (vD _ b).symm⟩, pqo rfl rfl, pqo rfl rfl, ⟨_, rfl, rfl, rfl, rfl, rfl⟩, ⟨_, rfl, rfl, rfl, rfl, rfl⟩, (pqo1 rfl rfl)⟩ rfl ?_
 refine gR 3 rfl ?_
 obtain ⟨r0_27, r0_28, ξ, ο, n0_31, ε, ζ, n0_34, r0_35, n0_36, n0_37, hs10, h⟩ := h
 refine gCZ hs10 [0, 1, 2, 5, 6] ⟨⟨_, rfl, ⟨rfl, rfl, (vF _ j).symm⟩⟩, ⟨⟨_, rfl, ⟨rfl, rfl, (vD _ b).symm⟩⟩, ⟨⟨_, rfl, ⟨rfl, rfl, rfl, rfl⟩⟩, ⟨⟨_, rfl, ⟨rfl, rfl, rfl, rfl⟩⟩, ⟨⟨_, rfl, ⟨rfl, an.rfl⟩⟩, trivial⟩⟩⟩⟩⟩ ?_
 refine gHR 10 (List.map (V.int .i64) ε) rfl (vD _ ε) rfl <| gHR 11 (List.map ae.w ζ) rfl (vF _ ζ) rfl <| gHn ⟨12, [(11, .row 42 3 (List.map ae.w ζ)), (10, .row 3 1 (List.map (V.int .i64) ε)), (4, .var 61 (ac.c a)), (3, vB 0 0), (2, .mp 84 81 (List.map (fun p => (fun x => V.agg [(V.int .i64 x.1), (V.int .i64 x.2)]) p.1) ο) (List.map (fun p => aa.w p.2) ο)), (1, .mp 137 61 (List.map (fun p => (fun x => V.agg [(V.int .i64 x.1), (V.str x.2)]) p.1) ξ) (List.map (fun p => ac.w p.2) ξ)), (0, .var 63 [.row 4 (kidsV r0_27), .row 5 (List.map GTarget.w r0_28), .sl 1, .sl 2, .int .i64 n0_31, .sl 10, .sl 11, .int .i64 n0_34, .row 1 (List.map (V.int .i64) r0_35), .int .i64 n0_36, .int .i64 n0_37])]⟩ rfl ⟨rfl, rfl, rfl, rfl, rfl, rfl, rfl, trivial⟩ ?_
 refine gR 9 rfl ?_
 obtain ⟨rfl, rfl, rfl, rfl, rfl, rfl, rfl, rfl, rfl, rfl, rfl, rfl⟩ := h
 refine go_sub (F' := (mkF 50 0 [(8, .ptr 5 0)])) (H' := ⟨6, [(5, .var 61 (ac.c a)), (4, .row 42 3 (List.map ae.w ζ)), (3, .row 3 1 (List.map (V.int .i64) ε)), (2, .mp 84 81 (List.map (fun p => (fun x => V.agg [(V.int .i64 x.1), (V.int .i64 x.2)]) p.1) ο) (List.map (fun p => aa.w p.2) ο)), (1, .mp 137 61 (List.map (fun p => (fun x => V.agg [(V.int .i64 x.1), (V.str x.2)]) p.1) ξ) (List.map (fun p => ac.w p.2) ξ)), (0, vA r0_27 (.row 5 (List.map GTarget.w r0_28)) n0_31 n0_34 r0_35 n0_36 n0_37)]⟩) [0, 1, 2, 10, 11, 3] [2, 1, 0] rfl hK pq1 ⟨pqo rfl rfl, ⟨_, rfl, rfl, rfl, (vF _ ζ).symm⟩, ⟨_, rfl, rfl, rfl, (vD _ ε).symm⟩, ⟨_, rfl, rfl, rfl, rfl, rfl⟩, ⟨_, rfl, rfl, rfl, rfl, rfl⟩, (pqo1 rfl rfl)⟩ rfl ?_
 exact go_endD [5] ah (rs := [.cell 8 61]) rfl rfl ⟨rfl, rfl⟩
 refine gR 6 rfl ?_
 obtain ⟨r0_38, r0_39, π, τ, n0_42, η, θ, n0_45, r0_46, n0_47, n0_48, hs11, h⟩ := h
 refine gCZ hs11 [0, 1, 2, 15, 16] ⟨⟨_, rfl, ⟨rfl, rfl, (vF _ j).symm⟩⟩, ⟨⟨_, rfl, ⟨rfl, rfl, (vD _ b).symm⟩⟩, ⟨⟨_, rfl, ⟨rfl, rfl, rfl, rfl⟩⟩, ⟨⟨_, rfl, ⟨rfl, rfl, rfl, rfl⟩⟩, ⟨⟨_, rfl, ⟨rfl, an.rfl⟩⟩, trivial⟩⟩⟩⟩⟩ ?_
 refine gHR 23 (List.map (V.int .i64) η) rfl (vD _ η) rfl <| gHR 24 (List.map ae.w θ) rfl (vF _ θ) rfl <| gHn ⟨25, [(24, .row 42 3 (List.map ae.w θ)), (23, .row 3 1 (List.map (V.int .i64) η)), (18, .var 61 (ac.c a)), (6, vB 0 0), (2, .mp 84 81 (List.map (fun p => (fun x => V.agg [(V.int .i64 x.1), (V.int .i64 x.2)]) p.1) τ) (List.map (fun p => aa.w p.2) τ)), (1, .mp 137 61 (List.map (fun p => (fun x => V.agg [(V.int .i64 x.1), (V.str x.2)]) p.1) π) (List.map (fun p => ac.w p.2) π)), (0, .var 63 [.row 4 (kidsV r0_38), .row 5 (List.map GTarget.w r0_39), .sl 1, .sl 2, .int .i64 n0_42, .sl 23, .sl 24, .int .i64 n0_45, .row 1 (List.map (V.int .i64) r0_46), .int .i64 n0_47, .int .i64 n0_48])]⟩ rfl ⟨rfl, rfl, rfl, rfl, rfl, rfl, rfl, trivial⟩ ?_
 refine gR 9 rfl ?_
 obtain ⟨rfl, rfl, rfl, rfl, rfl, rfl, rfl, rfl, rfl, rfl, rfl, rfl⟩ := h
 refine go_sub (F' := (mkF 50 0 [(8, .ptr 5 0)])) (H' := ⟨6, [(5, .var 61 (ac.c a)), (4, .row 42 3 (List.map ae.w θ)), (3, .row 3 1 (List.map (V.int .i64) η)), (2, .mp 84 81 (List.map (fun p => (fun x => V.agg [(V.int .i64 x.1), (V.int .i64 x.2)]) p.1) τ) (List.map (fun p => aa.w p.2) τ)), (1, .mp 137 61 (List.map (fun p => (fun x => V.agg [(V.int .i64 x.1), (V.str x.2)]) p.1) π) (List.map (fun p => ac.w p.2) π)), (0, vA r0_38 (.row 5 (List.map GTarget.w r0_39)) n0_42 n0_45 r0_46 n0_47 n0_48)]⟩) [0, 1, 2, 23, 24, 6] [2, 1, 0] rfl hK pq1 ⟨pqo rfl rfl, ⟨_, rfl, rfl, rfl, (vF _ θ).symm⟩, ⟨_, rfl, rfl, rfl, (vD _ η).symm⟩, ⟨_, rfl, rfl, rfl, rfl, rfl⟩, ⟨_, rfl, rfl, rfl, rfl, rfl⟩, (pqo1 rfl rfl)⟩ rfl ?_
 exact go_endD [5] ah (rs := [.cell 8 61]) rfl rfl ⟨rfl, rfl⟩
 refine gDr [(11, 2), (12, 2), (13, 2), (14, 2), (15, 0), (16, 0), (17, 0), (18, 0), (19, 0), (20, 0), (21, 0)] (by kernel_rfl) rfl rfl <| gDe (by kernel_rfl) <| gR 7 rfl ?_
 obtain ⟨r0_49, r0_50, υ, φ, n0_53, ι, κ, n0_56, r0_57, n0_58, n0_59, hs12, h⟩ := h
 refine gCZ hs12 [0, 1, 2, 15, 16] ⟨⟨_, rfl, ⟨rfl, rfl, (vF _ j).symm⟩⟩, ⟨⟨_, rfl, ⟨rfl, rfl, (vD _ b).symm⟩⟩, ⟨⟨_, rfl, ⟨rfl, rfl, rfl, rfl⟩⟩, ⟨⟨_, rfl, ⟨rfl, rfl, rfl, rfl⟩⟩, ⟨⟨_, rfl, ⟨rfl, an.rfl⟩⟩, trivial⟩⟩⟩⟩⟩ ?_
 refine gHR 22 (List.map (V.int .i64) ι) rfl (vD _ ι) rfl <| gHR 23 (List.map ae.w κ) rfl (vF _ κ) rfl <| gHn ⟨24, [(23, .row 42 3 (List.map ae.w κ)), (22, .row 3 1 (List.map (V.int .i64) ι)), (18, .var 61 (ac.c a)), (6, vB 0 0), (2, .mp 84 81 (List.map (fun p => (fun x => V.agg [(V.int .i64 x.1), (V.int .i64 x.2)]) p.1) φ) (List.map (fun p => aa.w p.2) φ)), (1, .mp 137 61 (List.map (fun p => (fun x => V.agg [(V.int .i64 x.1), (V.str x.2)]) p.1) υ) (List.map (fun p => ac.w p.2) υ)), (0, .var 63 [.row 4 (kidsV r0_49), .row 5 (List.map GTarget.w r0_50), .sl 1, .sl 2, .int .i64 n0_53, .sl 22, .sl 23, .int .i64 n0_56, .row 1 (List.map (V.int .i64) r0_57), .int .i64 n0_58, .int .i64 n0_59])]⟩ rfl ⟨rfl, rfl, rfl, rfl, rfl, rfl, rfl, trivial⟩ ?_
 refine gR 9 rfl ?_
 obtain ⟨rfl, rfl, rfl, rfl, rfl, rfl, rfl, rfl, rfl, rfl, rfl, rfl⟩ := h
 refine go_sub (F' := (mkF 50 0 [(8, .ptr 5 0)])) (H' := ⟨6, [(5, .var 61 (ac.c a)), (4, .row 42 3 (List.map ae.w κ)), (3, .row 3 1 (List.map (V.int .i64) ι)), (2, .mp 84 81 (List.map (fun p => (fun x => V.agg [(V.int .i64 x.1), (V.int .i64 x.2)]) p.1) φ) (List.map (fun p => aa.w p.2) φ)), (1, .mp 137 61 (List.map (fun p => (fun x => V.agg [(V.int .i64 x.1), (V.str x.2)]) p.1) υ) (List.map (fun p => ac.w p.2) υ)), (0, vA r0_49 (.row 5 (List.map GTarget.w r0_50)) n0_53 n0_56 r0_57 n0_58 n0_59)]⟩) [0, 1, 2, 22, 23, 6] [2, 1, 0] rfl hK pq1 ⟨pqo rfl rfl, ⟨_, rfl, rfl, rfl, (vF _ κ).symm⟩, ⟨_, rfl, rfl, rfl, (vD _ ι).symm⟩, ⟨_, rfl, rfl, rfl, rfl, rfl⟩, ⟨_, rfl, rfl, rfl, rfl, rfl⟩, (pqo1 rfl rfl)⟩ rfl ?_
 exact go_endD [5] ah (rs := [.cell 8 61]) rfl rfl ⟨rfl, rfl⟩
def br (m : Nat) (β : List Tree) (q : List GTarget) (n : (List ((Int × (List UInt8)) × ac))) (a : (List ((Int × Int) × aa))) (s : Int) (z : List Int) (t : List ae) (d : Int) (k : List Int) (e i : Int) (p1 : Tree) (p2 : List ak) (γ : Bool) (r0 : ac) (δ : List Tree) (r : List GTarget) (o : (List ((Int × (List UInt8)) × ac))) (b : (List ((Int × Int) × aa))) (v : Int) (α : List Int) (y : List ae) (f : Int) (l : List Int) (g j : Int) : Prop := ∀ (K : Ctx), aG K [2, 1, 0] → qLG K Tryz.f86 (fun u G => u = .agg (ac.c r0) ∧ G = ⟨6, [(4, .row 42 3 (List.map ae.w y)), (3, .row 3 1 (List.map (V.int .i64) α)), (2, .mp 84 81 (List.map (fun p => (fun x => V.agg [(V.int .i64 x.1), (V.int .i64 x.2)]) p.1) b) (List.map (fun p => aa.w p.2) b)), (1, .mp 137 61 (List.map (fun p => (fun x => V.agg [(V.int .i64 x.1), (V.str x.2)]) p.1) o) (List.map (fun p => ac.w p.2) o)), (0, vA δ (.row 5 (List.map GTarget.w r)) v f l g j)]⟩) (cB (cE (cB (cE (cB (cK (cB (cA (cB (aj Tryz.f86)))))))))) [.blk 0, .seq (xA (aj Tryz.f86))] 72 (mkF 72 0 [(0, .ptr 0 0), (2, .lk (List.map ak.c p2)), (4, .box (aq p1) 0), (6, .ptr 3 0), (9, .int .i64 p1.kind), (16, .bool γ)]) ⟨6, [(5, .row 42 3 (List.map ae.w t)), (4, .row 3 1 (List.map (V.int .i64) z)), (3, vB 0 0), (2, .mp 84 81 (List.map (fun p => (fun x => V.agg [(V.int .i64 x.1), (V.int .i64 x.2)]) p.1) a) (List.map (fun p => aa.w p.2) a)), (1, .mp 137 61 (List.map (fun p => (fun x => V.agg [(V.int .i64 x.1), (V.str x.2)]) p.1) n) (List.map (fun p => ac.w p.2) n)), (0, .var 63 [.row 4 (kidsV β), .row 5 (List.map GTarget.w q), .sl 1, .sl 2, .int .i64 s, .sl 4, .sl 5, .int .i64 d, .row 1 (List.map (V.int .i64) k), .int .i64 e, .int .i64 i])]⟩
theorem ch (m : Nat) (α : List Tree) (l : List GTarget) (q : (List ((Int × (List UInt8)) × ac))) (a : (List ((Int × Int) × aa))) (r : Int) (n : List Int) (f : List ae) (b : Int) (e : List Int) (c d : Int) (p1 : Tree) (p2 : List ak) (r0 : ac) (β : List Tree) (s : List GTarget) (y : (List ((Int × (List UInt8)) × ac))) (o : (List ((Int × Int) × aa))) (t : Int) (z : List Int) (v : List ae) (g : Int) (k : List Int) (i j : Int) (h : ((p1.kind = 10) → (ac.mk 5 0) = r0 ∧ α = β ∧ l = s ∧ q = y ∧ a = o ∧ r = t ∧ n = z ∧ f = v ∧ b = g ∧ e = k ∧ c = i ∧ d = j) ∧ ((p1.kind ≠ 10) → ((p1.kind = 11) → (ac.mk 6 0) = r0 ∧ α = β ∧ l = s ∧ q = y ∧ a = o ∧ r = t ∧ n = z ∧ f = v ∧ b = g ∧ e = k ∧ c = i ∧ d = j) ∧ ((p1.kind ≠ 11) → ((p1.kind = 13) → br m α l q a r n f b e c d p1 p2 true r0 β s y o t z v g k i j) ∧ ((p1.kind ≠ 13) → br m α l q a r n f b e c d p1 p2 (p1.kind == 14) r0 β s y o t z v g k i j)))) : co α l q a r n f b e c d p1 p2 r0 β s y o t z v g k i j := by
 refine am 72 [2, 1, 0] Tryz.func86 rfl rfl rfl (aA rfl) fun K hK => ?_
 refine gR 3 rfl <| gFP 5 rfl rfl rfl rfl <| gR 17 rfl <| qBeZ 10 11 rfl rfl rfl rfl h (fun h => ?_) fun h => ?_
 refine gR 10 rfl ?_
 obtain ⟨rfl, rfl, rfl, rfl, rfl, rfl, rfl, rfl, rfl, rfl, rfl, rfl⟩ := h
 refine go_sub (F' := (mkF 72 0 [(6, .ptr 5 0)])) (H' := ⟨6, [(5, .var 61 (ac.c (ac.mk 5 0))), (4, .row 42 3 (List.map ae.w f)), (3, .row 3 1 (List.map (V.int .i64) n)), (2, .mp 84 81 (List.map (fun p => (fun x => V.agg [(V.int .i64 x.1), (V.int .i64 x.2)]) p.1) a) (List.map (fun p => aa.w p.2) a)), (1, .mp 137 61 (List.map (fun p => (fun x => V.agg [(V.int .i64 x.1), (V.str x.2)]) p.1) q) (List.map (fun p => ac.w p.2) q)), (0, vA α (.row 5 (List.map GTarget.w l)) r b e c d)]⟩) [0, 1, 2, 3, 4, 6] [2, 1, 0] rfl hK pq1 ⟨pqo rfl rfl, ⟨_, rfl, rfl, rfl, (vF _ f).symm⟩, ⟨_, rfl, rfl, rfl, (vD _ n).symm⟩, ⟨_, rfl, rfl, rfl, rfl, rfl⟩, ⟨_, rfl, rfl, rfl, rfl, rfl⟩, (pqo1 rfl rfl)⟩ rfl ?_
 exact go_endD [5] ah (rs := [.cell 6 61]) rfl rfl ⟨rfl, rfl⟩
 refine gR 7 rfl <| qBeZ 13 14 rfl rfl rfl rfl h (fun h => ?_) fun h => ?_
 refine gR 10 rfl ?_
 obtain ⟨rfl, rfl, rfl, rfl, rfl, rfl, rfl, rfl, rfl, rfl, rfl, rfl⟩ := h
 refine go_sub (F' := (mkF 72 0 [(6, .ptr 5 0)])) (H' := ⟨6, [(5, .var 61 (ac.c (ac.mk 6 0))), (4, .row 42 3 (List.map ae.w f)), (3, .row 3 1 (List.map (V.int .i64) n)), (2, .mp 84 81 (List.map (fun p => (fun x => V.agg [(V.int .i64 x.1), (V.int .i64 x.2)]) p.1) a) (List.map (fun p => aa.w p.2) a)), (1, .mp 137 61 (List.map (fun p => (fun x => V.agg [(V.int .i64 x.1), (V.str x.2)]) p.1) q) (List.map (fun p => ac.w p.2) q)), (0, vA α (.row 5 (List.map GTarget.w l)) r b e c d)]⟩) [0, 1, 2, 3, 4, 6] [2, 1, 0] rfl hK pq1 ⟨pqo rfl rfl, ⟨_, rfl, rfl, rfl, (vF _ f).symm⟩, ⟨_, rfl, rfl, rfl, (vD _ n).symm⟩, ⟨_, rfl, rfl, rfl, rfl, rfl⟩, ⟨_, rfl, rfl, rfl, rfl, rfl⟩, (pqo1 rfl rfl)⟩ rfl ?_
 exact go_endD [5] ah (rs := [.cell 6 61]) rfl rfl ⟨rfl, rfl⟩
 refine gR 8 rfl <| qBeZ 16 17 rfl rfl rfl rfl h (fun h => ?_) fun h => ?_
 exact gR 3 rfl <| gJ (h K hK) [0, 1, 2, 6, 3, 4] [2, 1, 0] rfl hK pq6 ⟨⟨_, rfl, rfl, rfl, (vF _ f).symm⟩, ⟨_, rfl, rfl, rfl, (vD _ n).symm⟩, pqo rfl rfl, ⟨_, rfl, rfl, rfl, rfl, rfl⟩, ⟨_, rfl, rfl, rfl, rfl, rfl⟩, (pqo1 rfl rfl)⟩ rfl
 exact gR 6 rfl <| gJ (h K hK) [0, 1, 2, 6, 3, 4] [2, 1, 0] rfl hK pq6 ⟨⟨_, rfl, rfl, rfl, (vF _ f).symm⟩, ⟨_, rfl, rfl, rfl, (vD _ n).symm⟩, pqo rfl rfl, ⟨_, rfl, rfl, rfl, rfl, rfl⟩, ⟨_, rfl, rfl, rfl, rfl, rfl⟩, (pqo1 rfl rfl)⟩ rfl
theorem aB (m : Nat) (β : List Tree) (q : List GTarget) (r : (List ((Int × (List UInt8)) × ac))) (e : (List ((Int × Int) × aa))) (s : Int) (n : List Int) (f : List ae) (a : Int) (g : List Int) (b d : Int) (p1 : Tree) (p2 : List ak) (b1v1 : Bool) (r0 : ac) (π : List Tree) (t : List GTarget) (z : (List ((Int × (List UInt8)) × ac))) (o : (List ((Int × Int) × aa))) (v : Int) (α : List Int) (y : List ae) (i : Int) (l : List Int) (j k : Int) (h : ((b1v1 = true) → (ac.mk 7 0) = r0 ∧ β = π ∧ q = t ∧ r = z ∧ e = o ∧ s = v ∧ n = α ∧ f = y ∧ a = i ∧ g = l ∧ b = j ∧ d = k) ∧ ((b1v1 = false) → ((p1.kind = 12) → ∃ r1_1 r1_2 r1_3, ∃ (r1_4 : (List ((Int × (List UInt8)) × ac))), ∃ (r1_5 : (List ((Int × Int) × aa))), ∃ n1_6 r1_7 r1_8 n1_9 r1_10 n1_11 n1_12, cS β q r e s n f a g b d p1 p2 r1_1 r1_2 r1_3 r1_4 r1_5 n1_6 r1_7 r1_8 n1_9 r1_10 n1_11 n1_12 ∧ r1_1 = r0 ∧ r1_2 = π ∧ r1_3 = t ∧ r1_4 = z ∧ r1_5 = o ∧ n1_6 = v ∧ r1_7 = α ∧ r1_8 = y ∧ n1_9 = i ∧ r1_10 = l ∧ n1_11 = j ∧ n1_12 = k) ∧ ((p1.kind ≠ 12) → ((p1.kind = 16) → ∃ r1_13 r1_14 r1_15, ∃ (τ : (List ((Int × (List UInt8)) × ac))), ∃ (υ : (List ((Int × Int) × aa))), ∃ n1_18 γ δ n1_21 r1_22 n1_23 n1_24, dD β q r e s n f a g b d p1 p2 r1_13 r1_14 r1_15 τ υ n1_18 γ δ n1_21 r1_22 n1_23 n1_24 ∧ r1_13 = r0 ∧ r1_14 = π ∧ r1_15 = t ∧ τ = z ∧ υ = o ∧ n1_18 = v ∧ γ = α ∧ δ = y ∧ n1_21 = i ∧ r1_22 = l ∧ n1_23 = j ∧ n1_24 = k) ∧ ((p1.kind ≠ 16) → ((p1.kind = 18) → ∃ r1_25 r1_26 r1_27, ∃ (φ : (List ((Int × (List UInt8)) × ac))), ∃ (χ : (List ((Int × Int) × aa))), ∃ n1_30 ε ζ n1_33 r1_34 n1_35 n1_36, fV β q r e s n f a g b d p1 p2 r1_25 r1_26 r1_27 φ χ n1_30 ε ζ n1_33 r1_34 n1_35 n1_36 ∧ r1_25 = r0 ∧ r1_26 = π ∧ r1_27 = t ∧ φ = z ∧ χ = o ∧ n1_30 = v ∧ ε = α ∧ ζ = y ∧ n1_33 = i ∧ r1_34 = l ∧ n1_35 = j ∧ n1_36 = k) ∧ ((p1.kind ≠ 18) → ((p1.kind = 19) → ∃ r1_37 r1_38 r1_39, ∃ (ψ : (List ((Int × (List UInt8)) × ac))), ∃ (ω : (List ((Int × Int) × aa))), ∃ n1_42 η θ n1_45 r1_46 n1_47 n1_48, cR β q r e s n f a g b d p1 p2 r1_37 r1_38 r1_39 ψ ω n1_42 η θ n1_45 r1_46 n1_47 n1_48 ∧ r1_37 = r0 ∧ r1_38 = π ∧ r1_39 = t ∧ ψ = z ∧ ω = o ∧ n1_42 = v ∧ η = α ∧ θ = y ∧ n1_45 = i ∧ r1_46 = l ∧ n1_47 = j ∧ n1_48 = k) ∧ ((p1.kind ≠ 19) → ((p1.kind = 20) → ∃ r1_49 r1_50 r1_51, ∃ (r1_52 : (List ((Int × (List UInt8)) × ac))), ∃ (r1_53 : (List ((Int × Int) × aa))), ∃ n1_54 r1_55 r1_56 n1_57 r1_58 n1_59 n1_60, aC β q r e s n f a g b d p1 0 p2 r1_49 r1_50 r1_51 r1_52 r1_53 n1_54 r1_55 r1_56 n1_57 r1_58 n1_59 n1_60 ∧ ∃ r1_61 r1_62 r1_63, ∃ (r1_64 : (List ((Int × (List UInt8)) × ac))), ∃ (r1_65 : (List ((Int × Int) × aa))), ∃ n1_66 ι κ n1_69 r1_70 n1_71 n1_72, aC r1_50 r1_51 r1_52 r1_53 n1_54 r1_55 r1_56 n1_57 r1_58 n1_59 n1_60 p1 1 (ak.mk p1.text r1_49 :: p2) r1_61 r1_62 r1_63 r1_64 r1_65 n1_66 ι κ n1_69 r1_70 n1_71 n1_72 ∧ r1_61 = r0 ∧ r1_62 = π ∧ r1_63 = t ∧ r1_64 = z ∧ r1_65 = o ∧ n1_66 = v ∧ ι = α ∧ κ = y ∧ n1_69 = i ∧ r1_70 = l ∧ n1_71 = j ∧ n1_72 = k) ∧ ((p1.kind ≠ 20) → ((p1.kind = 21) → ∃ r1_73 r1_74 r1_75, ∃ (r1_76 : (List ((Int × (List UInt8)) × ac))), ∃ (r1_77 : (List ((Int × Int) × aa))), ∃ n1_78 μ ν n1_81 r1_82 n1_83 n1_84, cJ β q r e s n f a g b d p1 p2 r1_73 r1_74 r1_75 r1_76 r1_77 n1_78 μ ν n1_81 r1_82 n1_83 n1_84 ∧ r1_73 = r0 ∧ r1_74 = π ∧ r1_75 = t ∧ r1_76 = z ∧ r1_77 = o ∧ n1_78 = v ∧ μ = α ∧ ν = y ∧ n1_81 = i ∧ r1_82 = l ∧ n1_83 = j ∧ n1_84 = k) ∧ ((p1.kind ≠ 21) → ((p1.kind = 22) → ∃ r1_85 r1_86 r1_87, ∃ (r1_88 : (List ((Int × (List UInt8)) × ac))), ∃ (r1_89 : (List ((Int × Int) × aa))), ∃ n1_90 ξ ο n1_93 r1_94 n1_95 n1_96, aC β q r e s n f a g b d p1 0 p2 r1_85 r1_86 r1_87 r1_88 r1_89 n1_90 ξ ο n1_93 r1_94 n1_95 n1_96 ∧ r1_85 = r0 ∧ r1_86 = π ∧ r1_87 = t ∧ r1_88 = z ∧ r1_89 = o ∧ n1_90 = v ∧ ξ = α ∧ ο = y ∧ n1_93 = i ∧ r1_94 = l ∧ n1_95 = j ∧ n1_96 = k) ∧ ((p1.kind ≠ 22) → (ac.mk 0 0) = r0 ∧ β = π ∧ q = t ∧ r = z ∧ e = o ∧ s = v ∧ n = α ∧ f = y ∧ a = i ∧ g = l ∧ b = j ∧ d = k))))))))) : br (m + 1) β q r e s n f a g b d p1 p2 b1v1 r0 π t z o v α y i l j k := by
 intro K hK
 refine qBi 16 rfl rfl rfl h (fun h => ?_) fun h => ?_
 refine gR 10 rfl ?_
 obtain ⟨rfl, rfl, rfl, rfl, rfl, rfl, rfl, rfl, rfl, rfl, rfl, rfl⟩ := h
 refine go_sub (F' := (mkF 72 0 [(6, .ptr 5 0)])) (H' := ⟨6, [(5, .var 61 (ac.c (ac.mk 7 0))), (4, .row 42 3 (List.map ae.w f)), (3, .row 3 1 (List.map (V.int .i64) n)), (2, .mp 84 81 (List.map (fun p => (fun x => V.agg [(V.int .i64 x.1), (V.int .i64 x.2)]) p.1) e) (List.map (fun p => aa.w p.2) e)), (1, .mp 137 61 (List.map (fun p => (fun x => V.agg [(V.int .i64 x.1), (V.str x.2)]) p.1) r) (List.map (fun p => ac.w p.2) r)), (0, vA β (.row 5 (List.map GTarget.w q)) s a g b d)]⟩) [0, 1, 2, 4, 5, 3] [2, 1, 0] rfl hK pq1 ⟨pqo rfl rfl, ⟨_, rfl, rfl, rfl, (vF _ f).symm⟩, ⟨_, rfl, rfl, rfl, (vD _ n).symm⟩, ⟨_, rfl, rfl, rfl, rfl, rfl⟩, ⟨_, rfl, rfl, rfl, rfl, rfl⟩, (pqo1 rfl rfl)⟩ rfl ?_
 exact go_endD [5] ah (rs := [.cell 6 61]) rfl rfl ⟨rfl, rfl⟩
 refine gR 7 rfl <| qBeZ 20 21 rfl rfl rfl rfl h (fun h => ?_) fun h => ?_
 refine gR 6 rfl ?_
 obtain ⟨r1_1, r1_2, r1_3, r1_4, r1_5, n1_6, r1_7, r1_8, n1_9, r1_10, n1_11, n1_12, hs17, h⟩ := h
 refine gCZ hs17 [0, 1, 2, 4, 5] ⟨⟨_, rfl, ⟨rfl, rfl, (vF _ f).symm⟩⟩, ⟨⟨_, rfl, ⟨rfl, rfl, (vD _ n).symm⟩⟩, ⟨⟨_, rfl, ⟨rfl, rfl, rfl, rfl⟩⟩, ⟨⟨_, rfl, ⟨rfl, rfl, rfl, rfl⟩⟩, ⟨⟨_, rfl, ⟨rfl, an.rfl⟩⟩, trivial⟩⟩⟩⟩⟩ ?_
 refine gHR 9 (List.map (V.int .i64) r1_7) rfl (vD _ r1_7) rfl <| gHR 10 (List.map ae.w r1_8) rfl (vF _ r1_8) rfl <| gHn ⟨12, [(10, .row 42 3 (List.map ae.w r1_8)), (9, .row 3 1 (List.map (V.int .i64) r1_7)), (3, vB 0 0), (2, .mp 84 81 (List.map (fun p => (fun x => V.agg [(V.int .i64 x.1), (V.int .i64 x.2)]) p.1) r1_5) (List.map (fun p => aa.w p.2) r1_5)), (1, .mp 137 61 (List.map (fun p => (fun x => V.agg [(V.int .i64 x.1), (V.str x.2)]) p.1) r1_4) (List.map (fun p => ac.w p.2) r1_4)), (0, vC r1_2 (.row 5 (List.map GTarget.w r1_3)) n1_6 n1_9 r1_10 n1_11 n1_12)]⟩ rfl ⟨rfl, rfl, rfl, rfl, rfl, rfl, trivial⟩ ?_
 refine gR 6 rfl ?_
 obtain ⟨rfl, rfl, rfl, rfl, rfl, rfl, rfl, rfl, rfl, rfl, rfl, rfl⟩ := h
 refine go_sub (F' := (mkF 72 0 [(6, .ptr 5 0)])) (H' := ⟨6, [(5, .var 61 (ac.c r1_1)), (4, .row 42 3 (List.map ae.w r1_8)), (3, .row 3 1 (List.map (V.int .i64) r1_7)), (2, .mp 84 81 (List.map (fun p => (fun x => V.agg [(V.int .i64 x.1), (V.int .i64 x.2)]) p.1) r1_5) (List.map (fun p => aa.w p.2) r1_5)), (1, .mp 137 61 (List.map (fun p => (fun x => V.agg [(V.int .i64 x.1), (V.str x.2)]) p.1) r1_4) (List.map (fun p => ac.w p.2) r1_4)), (0, vA r1_2 (.row 5 (List.map GTarget.w r1_3)) n1_6 n1_9 r1_10 n1_11 n1_12)]⟩) [0, 1, 2, 9, 10, 3] [2, 1, 0] rfl hK pq1 ⟨pqo rfl rfl, ⟨_, rfl, rfl, rfl, (vF _ r1_8).symm⟩, ⟨_, rfl, rfl, rfl, (vD _ r1_7).symm⟩, ⟨_, rfl, rfl, rfl, rfl, rfl⟩, ⟨_, rfl, rfl, rfl, rfl, rfl⟩, (pqo1 rfl rfl)⟩ rfl ?_
 exact go_endD [5] ah (rs := [.cell 6 61]) rfl rfl ⟨rfl, rfl⟩
 refine gR 7 rfl <| qBeZ 26 27 rfl rfl rfl rfl h (fun h => ?_) fun h => ?_
 refine gR 6 rfl ?_
 obtain ⟨r1_13, r1_14, r1_15, τ, υ, n1_18, γ, δ, n1_21, r1_22, n1_23, n1_24, hs18, h⟩ := h
 refine gCZ hs18 [0, 1, 2, 4, 5] ⟨⟨_, rfl, ⟨rfl, rfl, (vF _ f).symm⟩⟩, ⟨⟨_, rfl, ⟨rfl, rfl, (vD _ n).symm⟩⟩, ⟨⟨_, rfl, ⟨rfl, rfl, rfl, rfl⟩⟩, ⟨⟨_, rfl, ⟨rfl, rfl, rfl, rfl⟩⟩, ⟨⟨_, rfl, ⟨rfl, an.rfl⟩⟩, trivial⟩⟩⟩⟩⟩ ?_
 refine gHR 9 (List.map (V.int .i64) γ) rfl (vD _ γ) rfl <| gHR 10 (List.map ae.w δ) rfl (vF _ δ) rfl <| gHn ⟨12, [(10, .row 42 3 (List.map ae.w δ)), (9, .row 3 1 (List.map (V.int .i64) γ)), (3, vB 0 0), (2, .mp 84 81 (List.map (fun p => (fun x => V.agg [(V.int .i64 x.1), (V.int .i64 x.2)]) p.1) υ) (List.map (fun p => aa.w p.2) υ)), (1, .mp 137 61 (List.map (fun p => (fun x => V.agg [(V.int .i64 x.1), (V.str x.2)]) p.1) τ) (List.map (fun p => ac.w p.2) τ)), (0, vC r1_14 (.row 5 (List.map GTarget.w r1_15)) n1_18 n1_21 r1_22 n1_23 n1_24)]⟩ rfl ⟨rfl, rfl, rfl, rfl, rfl, rfl, trivial⟩ ?_
 refine gR 6 rfl ?_
 obtain ⟨rfl, rfl, rfl, rfl, rfl, rfl, rfl, rfl, rfl, rfl, rfl, rfl⟩ := h
 refine go_sub (F' := (mkF 72 0 [(6, .ptr 5 0)])) (H' := ⟨6, [(5, .var 61 (ac.c r1_13)), (4, .row 42 3 (List.map ae.w δ)), (3, .row 3 1 (List.map (V.int .i64) γ)), (2, .mp 84 81 (List.map (fun p => (fun x => V.agg [(V.int .i64 x.1), (V.int .i64 x.2)]) p.1) υ) (List.map (fun p => aa.w p.2) υ)), (1, .mp 137 61 (List.map (fun p => (fun x => V.agg [(V.int .i64 x.1), (V.str x.2)]) p.1) τ) (List.map (fun p => ac.w p.2) τ)), (0, vA r1_14 (.row 5 (List.map GTarget.w r1_15)) n1_18 n1_21 r1_22 n1_23 n1_24)]⟩) [0, 1, 2, 9, 10, 3] [2, 1, 0] rfl hK pq1 ⟨pqo rfl rfl, ⟨_, rfl, rfl, rfl, (vF _ δ).symm⟩, ⟨_, rfl, rfl, rfl, (vD _ γ).symm⟩, ⟨_, rfl, rfl, rfl, rfl, rfl⟩, ⟨_, rfl, rfl, rfl, rfl, rfl⟩, (pqo1 rfl rfl)⟩ rfl ?_
 exact go_endD [5] ah (rs := [.cell 6 61]) rfl rfl ⟨rfl, rfl⟩
 refine gR 7 rfl <| qBeZ 32 33 rfl rfl rfl rfl h (fun h => ?_) fun h => ?_
 refine gR 6 rfl ?_
 obtain ⟨r1_25, r1_26, r1_27, φ, χ, n1_30, ε, ζ, n1_33, r1_34, n1_35, n1_36, hs19, h⟩ := h
 refine gCZ hs19 [0, 1, 2, 4, 5] ⟨⟨_, rfl, ⟨rfl, rfl, (vF _ f).symm⟩⟩, ⟨⟨_, rfl, ⟨rfl, rfl, (vD _ n).symm⟩⟩, ⟨⟨_, rfl, ⟨rfl, rfl, rfl, rfl⟩⟩, ⟨⟨_, rfl, ⟨rfl, rfl, rfl, rfl⟩⟩, ⟨⟨_, rfl, ⟨rfl, an.rfl⟩⟩, trivial⟩⟩⟩⟩⟩ ?_
 refine gHR 9 (List.map (V.int .i64) ε) rfl (vD _ ε) rfl <| gHR 10 (List.map ae.w ζ) rfl (vF _ ζ) rfl <| gHn ⟨12, [(10, .row 42 3 (List.map ae.w ζ)), (9, .row 3 1 (List.map (V.int .i64) ε)), (3, vB 0 0), (2, .mp 84 81 (List.map (fun p => (fun x => V.agg [(V.int .i64 x.1), (V.int .i64 x.2)]) p.1) χ) (List.map (fun p => aa.w p.2) χ)), (1, .mp 137 61 (List.map (fun p => (fun x => V.agg [(V.int .i64 x.1), (V.str x.2)]) p.1) φ) (List.map (fun p => ac.w p.2) φ)), (0, vC r1_26 (.row 5 (List.map GTarget.w r1_27)) n1_30 n1_33 r1_34 n1_35 n1_36)]⟩ rfl ⟨rfl, rfl, rfl, rfl, rfl, rfl, trivial⟩ ?_
 refine gR 6 rfl ?_
 obtain ⟨rfl, rfl, rfl, rfl, rfl, rfl, rfl, rfl, rfl, rfl, rfl, rfl⟩ := h
 refine go_sub (F' := (mkF 72 0 [(6, .ptr 5 0)])) (H' := ⟨6, [(5, .var 61 (ac.c r1_25)), (4, .row 42 3 (List.map ae.w ζ)), (3, .row 3 1 (List.map (V.int .i64) ε)), (2, .mp 84 81 (List.map (fun p => (fun x => V.agg [(V.int .i64 x.1), (V.int .i64 x.2)]) p.1) χ) (List.map (fun p => aa.w p.2) χ)), (1, .mp 137 61 (List.map (fun p => (fun x => V.agg [(V.int .i64 x.1), (V.str x.2)]) p.1) φ) (List.map (fun p => ac.w p.2) φ)), (0, vA r1_26 (.row 5 (List.map GTarget.w r1_27)) n1_30 n1_33 r1_34 n1_35 n1_36)]⟩) [0, 1, 2, 9, 10, 3] [2, 1, 0] rfl hK pq1 ⟨pqo rfl rfl, ⟨_, rfl, rfl, rfl, (vF _ ζ).symm⟩, ⟨_, rfl, rfl, rfl, (vD _ ε).symm⟩, ⟨_, rfl, rfl, rfl, rfl, rfl⟩, ⟨_, rfl, rfl, rfl, rfl, rfl⟩, (pqo1 rfl rfl)⟩ rfl ?_
 exact go_endD [5] ah (rs := [.cell 6 61]) rfl rfl ⟨rfl, rfl⟩
 refine gR 7 rfl <| qBeZ 38 39 rfl rfl rfl rfl h (fun h => ?_) fun h => ?_
 refine gR 6 rfl ?_
 obtain ⟨r1_37, r1_38, r1_39, ψ, ω, n1_42, η, θ, n1_45, r1_46, n1_47, n1_48, hs20, h⟩ := h
 refine gCZ hs20 [0, 1, 2, 4, 5] ⟨⟨_, rfl, ⟨rfl, rfl, (vF _ f).symm⟩⟩, ⟨⟨_, rfl, ⟨rfl, rfl, (vD _ n).symm⟩⟩, ⟨⟨_, rfl, ⟨rfl, rfl, rfl, rfl⟩⟩, ⟨⟨_, rfl, ⟨rfl, rfl, rfl, rfl⟩⟩, ⟨⟨_, rfl, ⟨rfl, an.rfl⟩⟩, trivial⟩⟩⟩⟩⟩ ?_
 refine gHR 9 (List.map (V.int .i64) η) rfl (vD _ η) rfl <| gHR 10 (List.map ae.w θ) rfl (vF _ θ) rfl <| gHn ⟨12, [(10, .row 42 3 (List.map ae.w θ)), (9, .row 3 1 (List.map (V.int .i64) η)), (3, vB 0 0), (2, .mp 84 81 (List.map (fun p => (fun x => V.agg [(V.int .i64 x.1), (V.int .i64 x.2)]) p.1) ω) (List.map (fun p => aa.w p.2) ω)), (1, .mp 137 61 (List.map (fun p => (fun x => V.agg [(V.int .i64 x.1), (V.str x.2)]) p.1) ψ) (List.map (fun p => ac.w p.2) ψ)), (0, vC r1_38 (.row 5 (List.map GTarget.w r1_39)) n1_42 n1_45 r1_46 n1_47 n1_48)]⟩ rfl ⟨rfl, rfl, rfl, rfl, rfl, rfl, trivial⟩ ?_
 refine gR 6 rfl ?_
 obtain ⟨rfl, rfl, rfl, rfl, rfl, rfl, rfl, rfl, rfl, rfl, rfl, rfl⟩ := h
 refine go_sub (F' := (mkF 72 0 [(6, .ptr 5 0)])) (H' := ⟨6, [(5, .var 61 (ac.c r1_37)), (4, .row 42 3 (List.map ae.w θ)), (3, .row 3 1 (List.map (V.int .i64) η)), (2, .mp 84 81 (List.map (fun p => (fun x => V.agg [(V.int .i64 x.1), (V.int .i64 x.2)]) p.1) ω) (List.map (fun p => aa.w p.2) ω)), (1, .mp 137 61 (List.map (fun p => (fun x => V.agg [(V.int .i64 x.1), (V.str x.2)]) p.1) ψ) (List.map (fun p => ac.w p.2) ψ)), (0, vA r1_38 (.row 5 (List.map GTarget.w r1_39)) n1_42 n1_45 r1_46 n1_47 n1_48)]⟩) [0, 1, 2, 9, 10, 3] [2, 1, 0] rfl hK pq1 ⟨pqo rfl rfl, ⟨_, rfl, rfl, rfl, (vF _ θ).symm⟩, ⟨_, rfl, rfl, rfl, (vD _ η).symm⟩, ⟨_, rfl, rfl, rfl, rfl, rfl⟩, ⟨_, rfl, rfl, rfl, rfl, rfl⟩, (pqo1 rfl rfl)⟩ rfl ?_
 exact go_endD [5] ah (rs := [.cell 6 61]) rfl rfl ⟨rfl, rfl⟩
 refine gR 7 rfl <| qBeZ 44 45 rfl rfl rfl rfl h (fun h => ?_) fun h => ?_
 refine gR 6 rfl ?_
 obtain ⟨r1_49, r1_50, r1_51, r1_52, r1_53, n1_54, r1_55, r1_56, n1_57, r1_58, n1_59, n1_60, hs21, h⟩ := h
 refine gCZ hs21 [0, 1, 2, 4, 5] ⟨⟨_, rfl, ⟨rfl, rfl, (vF _ f).symm⟩⟩, ⟨⟨_, rfl, ⟨rfl, rfl, (vD _ n).symm⟩⟩, ⟨⟨_, rfl, ⟨rfl, rfl, rfl, rfl⟩⟩, ⟨⟨_, rfl, ⟨rfl, rfl, rfl, rfl⟩⟩, ⟨⟨_, rfl, ⟨rfl, an.rfl⟩⟩, trivial⟩⟩⟩⟩⟩ ?_
 refine gHR 9 (List.map (V.int .i64) r1_55) rfl (vD _ r1_55) rfl <| gHR 10 (List.map ae.w r1_56) rfl (vF _ r1_56) rfl <| gHn ⟨12, [(10, .row 42 3 (List.map ae.w r1_56)), (9, .row 3 1 (List.map (V.int .i64) r1_55)), (3, vB 0 0), (2, .mp 84 81 (List.map (fun p => (fun x => V.agg [(V.int .i64 x.1), (V.int .i64 x.2)]) p.1) r1_53) (List.map (fun p => aa.w p.2) r1_53)), (1, .mp 137 61 (List.map (fun p => (fun x => V.agg [(V.int .i64 x.1), (V.str x.2)]) p.1) r1_52) (List.map (fun p => ac.w p.2) r1_52)), (0, vC r1_50 (.row 5 (List.map GTarget.w r1_51)) n1_54 n1_57 r1_58 n1_59 n1_60)]⟩ rfl ⟨rfl, rfl, rfl, rfl, rfl, rfl, trivial⟩ ?_
 refine gR 14 rfl <| gFP 13 rfl rfl rfl rfl ?_
 obtain ⟨r1_61, r1_62, r1_63, r1_64, r1_65, n1_66, ι, κ, n1_69, r1_70, n1_71, n1_72, hs22, h⟩ := h
 refine gC hs22 [0, 1, 2, 9, 10] (by kernel_rfl) rfl rfl (.cons .rfl (.cons .rfl (.cons .rfl (.cons (lkC rfl) .nil)))) ⟨⟨_, rfl, ⟨rfl, rfl, (vF _ r1_56).symm⟩⟩, ⟨⟨_, rfl, ⟨rfl, rfl, (vD _ r1_55).symm⟩⟩, ⟨⟨_, rfl, ⟨rfl, rfl, rfl, rfl⟩⟩, ⟨⟨_, rfl, ⟨rfl, rfl, rfl, rfl⟩⟩, ⟨⟨_, rfl, ⟨rfl, an.rfl⟩⟩, trivial⟩⟩⟩⟩⟩ rfl ?_
 rintro _ _ ⟨rfl, rfl⟩
 refine gHR 17 (List.map (V.int .i64) ι) rfl (vD _ ι) rfl <| gHR 18 (List.map ae.w κ) rfl (vF _ κ) rfl <| gHn ⟨20, [(18, .row 42 3 (List.map ae.w κ)), (17, .row 3 1 (List.map (V.int .i64) ι)), (12, .var 61 (ac.c r1_49)), (3, vB 0 0), (2, .mp 84 81 (List.map (fun p => (fun x => V.agg [(V.int .i64 x.1), (V.int .i64 x.2)]) p.1) r1_65) (List.map (fun p => aa.w p.2) r1_65)), (1, .mp 137 61 (List.map (fun p => (fun x => V.agg [(V.int .i64 x.1), (V.str x.2)]) p.1) r1_64) (List.map (fun p => ac.w p.2) r1_64)), (0, .var 63 [.row 4 (kidsV r1_62), .row 5 (List.map GTarget.w r1_63), .sl 1, .sl 2, .int .i64 n1_66, .sl 17, .sl 18, .int .i64 n1_69, .row 1 (List.map (V.int .i64) r1_70), .int .i64 n1_71, .int .i64 n1_72])]⟩ rfl ⟨rfl, rfl, rfl, rfl, rfl, rfl, rfl, trivial⟩ ?_
 refine gR 6 rfl ?_
 obtain ⟨rfl, rfl, rfl, rfl, rfl, rfl, rfl, rfl, rfl, rfl, rfl, rfl⟩ := h
 refine go_sub (F' := (mkF 72 0 [(6, .ptr 5 0)])) (H' := ⟨6, [(5, .var 61 (ac.c r1_61)), (4, .row 42 3 (List.map ae.w κ)), (3, .row 3 1 (List.map (V.int .i64) ι)), (2, .mp 84 81 (List.map (fun p => (fun x => V.agg [(V.int .i64 x.1), (V.int .i64 x.2)]) p.1) r1_65) (List.map (fun p => aa.w p.2) r1_65)), (1, .mp 137 61 (List.map (fun p => (fun x => V.agg [(V.int .i64 x.1), (V.str x.2)]) p.1) r1_64) (List.map (fun p => ac.w p.2) r1_64)), (0, vA r1_62 (.row 5 (List.map GTarget.w r1_63)) n1_66 n1_69 r1_70 n1_71 n1_72)]⟩) [0, 1, 2, 17, 18, 3] [2, 1, 0] rfl hK pq1 ⟨pqo rfl rfl, ⟨_, rfl, rfl, rfl, (vF _ κ).symm⟩, ⟨_, rfl, rfl, rfl, (vD _ ι).symm⟩, ⟨_, rfl, rfl, rfl, rfl, rfl⟩, ⟨_, rfl, rfl, rfl, rfl, rfl⟩, (pqo1 rfl rfl)⟩ rfl ?_
 exact go_endD [5] ah (rs := [.cell 6 61]) rfl rfl ⟨rfl, rfl⟩
 refine gR 7 rfl <| qBeZ 59 60 rfl rfl rfl rfl h (fun h => ?_) fun h => ?_
 refine gR 6 rfl ?_
 obtain ⟨r1_73, r1_74, r1_75, r1_76, r1_77, n1_78, μ, ν, n1_81, r1_82, n1_83, n1_84, hs23, h⟩ := h
 refine gCZ hs23 [0, 1, 2, 4, 5] ⟨⟨_, rfl, ⟨rfl, rfl, (vF _ f).symm⟩⟩, ⟨⟨_, rfl, ⟨rfl, rfl, (vD _ n).symm⟩⟩, ⟨⟨_, rfl, ⟨rfl, rfl, rfl, rfl⟩⟩, ⟨⟨_, rfl, ⟨rfl, rfl, rfl, rfl⟩⟩, ⟨⟨_, rfl, ⟨rfl, an.rfl⟩⟩, trivial⟩⟩⟩⟩⟩ ?_
 refine gHR 9 (List.map (V.int .i64) μ) rfl (vD _ μ) rfl <| gHR 10 (List.map ae.w ν) rfl (vF _ ν) rfl <| gHn ⟨12, [(10, .row 42 3 (List.map ae.w ν)), (9, .row 3 1 (List.map (V.int .i64) μ)), (3, vB 0 0), (2, .mp 84 81 (List.map (fun p => (fun x => V.agg [(V.int .i64 x.1), (V.int .i64 x.2)]) p.1) r1_77) (List.map (fun p => aa.w p.2) r1_77)), (1, .mp 137 61 (List.map (fun p => (fun x => V.agg [(V.int .i64 x.1), (V.str x.2)]) p.1) r1_76) (List.map (fun p => ac.w p.2) r1_76)), (0, vC r1_74 (.row 5 (List.map GTarget.w r1_75)) n1_78 n1_81 r1_82 n1_83 n1_84)]⟩ rfl ⟨rfl, rfl, rfl, rfl, rfl, rfl, trivial⟩ ?_
 refine gR 6 rfl ?_
 obtain ⟨rfl, rfl, rfl, rfl, rfl, rfl, rfl, rfl, rfl, rfl, rfl, rfl⟩ := h
 refine go_sub (F' := (mkF 72 0 [(6, .ptr 5 0)])) (H' := ⟨6, [(5, .var 61 (ac.c r1_73)), (4, .row 42 3 (List.map ae.w ν)), (3, .row 3 1 (List.map (V.int .i64) μ)), (2, .mp 84 81 (List.map (fun p => (fun x => V.agg [(V.int .i64 x.1), (V.int .i64 x.2)]) p.1) r1_77) (List.map (fun p => aa.w p.2) r1_77)), (1, .mp 137 61 (List.map (fun p => (fun x => V.agg [(V.int .i64 x.1), (V.str x.2)]) p.1) r1_76) (List.map (fun p => ac.w p.2) r1_76)), (0, vA r1_74 (.row 5 (List.map GTarget.w r1_75)) n1_78 n1_81 r1_82 n1_83 n1_84)]⟩) [0, 1, 2, 9, 10, 3] [2, 1, 0] rfl hK pq1 ⟨pqo rfl rfl, ⟨_, rfl, rfl, rfl, (vF _ ν).symm⟩, ⟨_, rfl, rfl, rfl, (vD _ μ).symm⟩, ⟨_, rfl, rfl, rfl, rfl, rfl⟩, ⟨_, rfl, rfl, rfl, rfl, rfl⟩, (pqo1 rfl rfl)⟩ rfl ?_
 exact go_endD [5] ah (rs := [.cell 6 61]) rfl rfl ⟨rfl, rfl⟩
 refine gR 7 rfl <| qBeZ 65 66 rfl rfl rfl rfl h (fun h => ?_) fun h => ?_
 refine gR 6 rfl ?_
 obtain ⟨r1_85, r1_86, r1_87, r1_88, r1_89, n1_90, ξ, ο, n1_93, r1_94, n1_95, n1_96, hs24, h⟩ := h
 refine gCZ hs24 [0, 1, 2, 4, 5] ⟨⟨_, rfl, ⟨rfl, rfl, (vF _ f).symm⟩⟩, ⟨⟨_, rfl, ⟨rfl, rfl, (vD _ n).symm⟩⟩, ⟨⟨_, rfl, ⟨rfl, rfl, rfl, rfl⟩⟩, ⟨⟨_, rfl, ⟨rfl, rfl, rfl, rfl⟩⟩, ⟨⟨_, rfl, ⟨rfl, an.rfl⟩⟩, trivial⟩⟩⟩⟩⟩ ?_
 refine gHR 9 (List.map (V.int .i64) ξ) rfl (vD _ ξ) rfl <| gHR 10 (List.map ae.w ο) rfl (vF _ ο) rfl <| gHn ⟨12, [(10, .row 42 3 (List.map ae.w ο)), (9, .row 3 1 (List.map (V.int .i64) ξ)), (3, vB 0 0), (2, .mp 84 81 (List.map (fun p => (fun x => V.agg [(V.int .i64 x.1), (V.int .i64 x.2)]) p.1) r1_89) (List.map (fun p => aa.w p.2) r1_89)), (1, .mp 137 61 (List.map (fun p => (fun x => V.agg [(V.int .i64 x.1), (V.str x.2)]) p.1) r1_88) (List.map (fun p => ac.w p.2) r1_88)), (0, vC r1_86 (.row 5 (List.map GTarget.w r1_87)) n1_90 n1_93 r1_94 n1_95 n1_96)]⟩ rfl ⟨rfl, rfl, rfl, rfl, rfl, rfl, trivial⟩ ?_
 refine gR 6 rfl ?_
 obtain ⟨rfl, rfl, rfl, rfl, rfl, rfl, rfl, rfl, rfl, rfl, rfl, rfl⟩ := h
 refine go_sub (F' := (mkF 72 0 [(6, .ptr 5 0)])) (H' := ⟨6, [(5, .var 61 (ac.c r1_85)), (4, .row 42 3 (List.map ae.w ο)), (3, .row 3 1 (List.map (V.int .i64) ξ)), (2, .mp 84 81 (List.map (fun p => (fun x => V.agg [(V.int .i64 x.1), (V.int .i64 x.2)]) p.1) r1_89) (List.map (fun p => aa.w p.2) r1_89)), (1, .mp 137 61 (List.map (fun p => (fun x => V.agg [(V.int .i64 x.1), (V.str x.2)]) p.1) r1_88) (List.map (fun p => ac.w p.2) r1_88)), (0, vA r1_86 (.row 5 (List.map GTarget.w r1_87)) n1_90 n1_93 r1_94 n1_95 n1_96)]⟩) [0, 1, 2, 9, 10, 3] [2, 1, 0] rfl hK pq1 ⟨pqo rfl rfl, ⟨_, rfl, rfl, rfl, (vF _ ο).symm⟩, ⟨_, rfl, rfl, rfl, (vD _ ξ).symm⟩, ⟨_, rfl, rfl, rfl, rfl, rfl⟩, ⟨_, rfl, rfl, rfl, rfl, rfl⟩, (pqo1 rfl rfl)⟩ rfl ?_
 exact go_endD [5] ah (rs := [.cell 6 61]) rfl rfl ⟨rfl, rfl⟩
 refine gR 11 rfl ?_
 obtain ⟨rfl, rfl, rfl, rfl, rfl, rfl, rfl, rfl, rfl, rfl, rfl, rfl⟩ := h
 refine go_sub (F' := (mkF 72 0 [(6, .ptr 5 0)])) (H' := ⟨6, [(5, .var 61 (ac.c (ac.mk 0 0))), (4, .row 42 3 (List.map ae.w f)), (3, .row 3 1 (List.map (V.int .i64) n)), (2, .mp 84 81 (List.map (fun p => (fun x => V.agg [(V.int .i64 x.1), (V.int .i64 x.2)]) p.1) e) (List.map (fun p => aa.w p.2) e)), (1, .mp 137 61 (List.map (fun p => (fun x => V.agg [(V.int .i64 x.1), (V.str x.2)]) p.1) r) (List.map (fun p => ac.w p.2) r)), (0, vA β (.row 5 (List.map GTarget.w q)) s a g b d)]⟩) [0, 1, 2, 4, 5, 3] [2, 1, 0] rfl hK pq1 ⟨pqo rfl rfl, ⟨_, rfl, rfl, rfl, (vF _ f).symm⟩, ⟨_, rfl, rfl, rfl, (vD _ n).symm⟩, ⟨_, rfl, rfl, rfl, rfl, rfl⟩, ⟨_, rfl, rfl, rfl, rfl, rfl⟩, (pqo1 rfl rfl)⟩ rfl ?_
 exact go_endD [5] ah (rs := [.cell 6 61]) rfl rfl ⟨rfl, rfl⟩
def ej : KeyT Tryz.prog 137 (Int × (List UInt8)) (fun x => V.agg [(V.int .i64 x.1), (V.str x.2)]) := yJ (fun x => x.1) (fun x => x.2) (fun x y h1 h2 => Prod.ext h1 h2) Tryz.underlying137 (by kernel_rfl) (by decide) (by decide) rfl rfl Tryz.underlying3 Tryz.underlying9
def bc : KeyT Tryz.prog 84 (Int × Int) (fun x => V.agg [(V.int .i64 x.1), (V.int .i64 x.2)]) := zi (fun x => x.1) (fun x => x.2) (fun x y h1 h2 => Prod.ext h1 h2) Tryz.underlying84 (by kernel_rfl) (by decide) (by decide) rfl rfl Tryz.underlying3 Tryz.underlying3
def dc (p0 l : List Tree) (g : List GTarget) (f : (List ((Int × (List UInt8)) × ac))) (a : (List ((Int × Int) × aa))) (i : Int) (k : List Int) (j : List ae) (b : Int) (e : List Int) (c d : Int) : Prop := aY [] Tryz.prog 19 [.row 4 (kidsV p0)] ⟨0, []⟩ (fun u G => u = .ptr 0 0 ∧ G = ⟨5, [(4, .row 42 3 (List.map ae.w j)), (3, .row 3 1 (List.map (V.int .i64) k)), (2, .mp 84 81 (List.map (fun p => (fun x => V.agg [(V.int .i64 x.1), (V.int .i64 x.2)]) p.1) a) (List.map (fun p => aa.w p.2) a)), (1, .mp 137 61 (List.map (fun p => (fun x => V.agg [(V.int .i64 x.1), (V.str x.2)]) p.1) f) (List.map (fun p => ac.w p.2) f)), (0, vA l (.row 5 (List.map GTarget.w g)) i b e c d)]⟩)
def eN (m : Nat) (γ : List Tree) (q : List GTarget) (n : (List ((Int × (List UInt8)) × ac))) (a : (List ((Int × Int) × aa))) (s : Int) (z : List Int) (t : List ae) (d : Int) (k : List Int) (e i p1 : Int) (β : Tree) (δ ε ζ : Int) (η : Bool) (r0 : ac) (θ : List Tree) (r : List GTarget) (o : (List ((Int × (List UInt8)) × ac))) (b : (List ((Int × Int) × aa))) (v : Int) (α : List Int) (y : List ae) (f : Int) (l : List Int) (g j : Int) : Prop := ∀ (K : Ctx), aG K [2, 1, 0] → Go Tryz.prog K (bodyPost Tryz.prog Tryz.f57 (SP K (fun u G => u = .agg (ac.c r0) ∧ G = ⟨6, [(4, .row 42 3 (List.map ae.w y)), (3, .row 3 1 (List.map (V.int .i64) α)), (2, .mp 84 81 (List.map (fun p => (fun x => V.agg [(V.int .i64 x.1), (V.int .i64 x.2)]) p.1) b) (List.map (fun p => aa.w p.2) b)), (1, .mp 137 61 (List.map (fun p => (fun x => V.agg [(V.int .i64 x.1), (V.str x.2)]) p.1) o) (List.map (fun p => ac.w p.2) o)), (0, vA θ (.row 5 (List.map GTarget.w r)) v f l g j)]⟩))) (.ex .normal) [.seq (xA (xF (aj Tryz.f57)))] 79 (mkF 79 0 [(0, .ptr 0 0), (1, .int .i64 p1), (6, .ptr 3 0), (7, .ptr 4 0), (8, .int .i64 δ), (9, .ptr 5 0), (10, .ptr 6 0), (11, .bool η)]) ⟨9, [(8, .row 42 3 (List.map ae.w t)), (7, .row 3 1 (List.map (V.int .i64) z)), (6, vB ε ζ), (5, .var 137 [.int .i64 p1, .str β.text]), (4, .var 29 (aq β)), (3, vB 0 0), (2, .mp 84 81 (List.map (fun p => (fun x => V.agg [(V.int .i64 x.1), (V.int .i64 x.2)]) p.1) a) (List.map (fun p => aa.w p.2) a)), (1, .mp 137 61 (List.map (fun p => (fun x => V.agg [(V.int .i64 x.1), (V.str x.2)]) p.1) n) (List.map (fun p => ac.w p.2) n)), (0, .var 63 [.row 4 (kidsV γ), .row 5 (List.map GTarget.w q), .sl 1, .sl 2, .int .i64 s, .sl 7, .sl 8, .int .i64 d, .row 1 (List.map (V.int .i64) k), .int .i64 e, .int .i64 i])]⟩
theorem rS_typing_checker_expand (m : Nat) (η : List Tree) (v : List GTarget) (a : (List ((Int × (List UInt8)) × ac))) (e : (List ((Int × Int) × aa))) (z : Int) (r : List Int) (d : List ae) (b : Int) (g : List Int) (c f p1 : Int) (p2 : Tree) (r0 : ac) (ι : List Tree) (α : List GTarget) (δ : (List ((Int × (List UInt8)) × ac))) (t : (List ((Int × Int) × aa))) (β : Int) (ε : List Int) (γ : List ae) (n : Int) (s : List Int) (o q : Int) (h : ∃ y ζ, gx p2 y ζ ∧ ((y.kind ≠ 9) → (ac.mk y.kind ζ) = r0 ∧ η = ι ∧ v = α ∧ a = δ ∧ e = t ∧ z = β ∧ r = ε ∧ d = γ ∧ b = n ∧ g = s ∧ c = o ∧ f = q) ∧ ((y.kind = 9) → ((mlook (p1, y.text) a = none) → eN m η v a e z r d b g c f p1 y ζ 0 0 false r0 ι α δ t β ε γ n s o q) ∧ (∀ (θ : ac), mlook (p1, y.text) a = some θ → eN m η v a e z r d b g c f p1 y ζ θ.simple θ.lists true r0 ι α δ t β ε γ n s o q))) : cc η v a e z r d b g c f p1 p2 r0 ι α δ t β ε γ n s o q := by
 refine am 79 [2, 1, 0] Tryz.func57 rfl rfl rfl (aA rfl) fun K hK => ?_
 refine gR 3 rfl <| gFP 5 rfl rfl rfl rfl <| gR 6 rfl ?_
 obtain ⟨y, ζ, hs9, h⟩ := h
 refine gC0 hs9 (by kernel_rfl) rfl rfl .rfl rfl <| gR 16 rfl <| qBh 23 rfl rfl rfl h eG dj (fun h => ?_) fun h => ?_
 refine gR 12 rfl ?_
 obtain ⟨rfl, rfl, rfl, rfl, rfl, rfl, rfl, rfl, rfl, rfl, rfl, rfl⟩ := h
 refine go_sub (F' := (mkF 79 0 [(6, .ptr 5 0)])) (H' := ⟨6, [(5, .var 61 (ac.c (ac.mk y.kind ζ))), (4, .row 42 3 (List.map ae.w d)), (3, .row 3 1 (List.map (V.int .i64) r)), (2, .mp 84 81 (List.map (fun p => (fun x => V.agg [(V.int .i64 x.1), (V.int .i64 x.2)]) p.1) e) (List.map (fun p => aa.w p.2) e)), (1, .mp 137 61 (List.map (fun p => (fun x => V.agg [(V.int .i64 x.1), (V.str x.2)]) p.1) a) (List.map (fun p => ac.w p.2) a)), (0, vA η (.row 5 (List.map GTarget.w v)) z b g c f)]⟩) [0, 1, 2, 3, 4, 6] [2, 1, 0] rfl hK pq1 ⟨pqo rfl rfl, ⟨_, rfl, rfl, rfl, (vF _ d).symm⟩, ⟨_, rfl, rfl, rfl, (vD _ r).symm⟩, ⟨_, rfl, rfl, rfl, rfl, rfl⟩, ⟨_, rfl, rfl, rfl, rfl, rfl⟩, (pqo1 rfl rfl)⟩ rfl ?_
 exact go_endD [5] ah (rs := [.cell 6 61]) rfl rfl ⟨rfl, rfl⟩
 refine gR 14 rfl <| gDs [0, 8] 10 12 rfl (by kernel_rfl) (by kernel_rfl) <| gDr [(0, 2), (1, 2), (2, 2), (3, 3), (4, 3)] (by kernel_rfl) rfl rfl ?_
 rcases hq10 : mlook (p1, y.text) a with _ | θ
 replace h := h.1 hq10
 apply cD (i := 5) (j := 9) (by kernel_rfl) rfl rfl rfl rfl
 exact (jB (.nop) (nT ej (encV := ac.w) (k := (p1, y.text)) (l := a) (zv := .agg [.int .i64 0, .int .i64 0]) hq10 Tryz.underlying58 Tryz.zeroValue61 (by kernel_rfl) rfl rfl rfl rfl) trivial (by kernel_rfl))
 exact (bT ah rfl rfl)
 exact gDr [(6, 2), (7, 2), (8, 2), (9, 0), (10, 1), (11, 1)] (by kernel_rfl) rfl rfl <| gDe (by kernel_rfl) <| gJ (h K hK) [0, 1, 2, 6, 7, 8, 9, 3, 4] [2, 1, 0] rfl hK pq8 ⟨⟨_, rfl, rfl, rfl, (vF _ d).symm⟩, ⟨_, rfl, rfl, rfl, (vD _ r).symm⟩, pqo rfl rfl, pqo rfl rfl, pqo rfl rfl, pqo rfl rfl, ⟨_, rfl, rfl, rfl, rfl, rfl⟩, ⟨_, rfl, rfl, rfl, rfl, rfl⟩, (pqo1 rfl rfl)⟩ rfl
 refine dw 5 (.nop) rfl (by kernel_rfl) (nT ej (encV := ac.w) (k := (p1, y.text)) (l := a) (zv := .agg [.int .i64 0, .int .i64 0]) hq10 Tryz.underlying58 Tryz.zeroValue61 (by kernel_rfl) rfl rfl rfl rfl) trivial rfl (by kernel_rfl) rfl rfl ?_
 exact gDr [(6, 0), (7, 2), (8, 2), (10, 1), (11, 1)] (by kernel_rfl) rfl rfl <| gDe (by kernel_rfl) <| gJ (h K hK) [0, 1, 2, 6, 7, 8, 9, 3, 4] [2, 1, 0] rfl hK pq8 ⟨⟨_, rfl, rfl, rfl, (vF _ d).symm⟩, ⟨_, rfl, rfl, rfl, (vD _ r).symm⟩, pqo rfl rfl, pqo rfl rfl, pqo rfl rfl, pqo rfl rfl, ⟨_, rfl, rfl, rfl, rfl, rfl⟩, ⟨_, rfl, rfl, rfl, rfl, rfl⟩, (pqo1 rfl rfl)⟩ rfl
 replace h := h.2 θ hq10
 apply cD (i := 5) (j := 9) (by kernel_rfl) rfl rfl rfl rfl
 exact (jB (.nop) (nF ej (encV := ac.w) (k := (p1, y.text)) (l := a) (zv := .agg [.int .i64 0, .int .i64 0]) hq10 Tryz.underlying58 Tryz.zeroValue61 (by kernel_rfl) rfl rfl rfl rfl) trivial (by kernel_rfl))
 exact (bT ah rfl rfl)
 exact gDr [(6, 2), (7, 2), (8, 2), (9, 0), (10, 1), (11, 1)] (by kernel_rfl) rfl rfl <| gDe (by kernel_rfl) <| gJ (h K hK) [0, 1, 2, 6, 7, 8, 9, 3, 4] [2, 1, 0] rfl hK pq8 ⟨⟨_, rfl, rfl, rfl, (vF _ d).symm⟩, ⟨_, rfl, rfl, rfl, (vD _ r).symm⟩, pqo rfl rfl, pqo rfl rfl, pqo rfl rfl, pqo rfl rfl, ⟨_, rfl, rfl, rfl, rfl, rfl⟩, ⟨_, rfl, rfl, rfl, rfl, rfl⟩, (pqo1 rfl rfl)⟩ rfl
 refine dw 5 (.nop) rfl (by kernel_rfl) (nF ej (encV := ac.w) (k := (p1, y.text)) (l := a) (zv := .agg [.int .i64 0, .int .i64 0]) hq10 Tryz.underlying58 Tryz.zeroValue61 (by kernel_rfl) rfl rfl rfl rfl) trivial rfl (by kernel_rfl) rfl rfl ?_
 exact gDr [(6, 0), (7, 2), (8, 2), (10, 1), (11, 1)] (by kernel_rfl) rfl rfl <| gDe (by kernel_rfl) <| gJ (h K hK) [0, 1, 2, 6, 7, 8, 9, 3, 4] [2, 1, 0] rfl hK pq8 ⟨⟨_, rfl, rfl, rfl, (vF _ d).symm⟩, ⟨_, rfl, rfl, rfl, (vD _ r).symm⟩, pqo rfl rfl, pqo rfl rfl, pqo rfl rfl, pqo rfl rfl, ⟨_, rfl, rfl, rfl, rfl, rfl⟩, ⟨_, rfl, rfl, rfl, rfl, rfl⟩, (pqo1 rfl rfl)⟩ rfl
def cm (m : Nat) (p1 : Int) (p2 : Tree) (n : Nat) (o : (List ((Int × Int) × aa))) (q : (List ((Int × (List UInt8)) × ac))) (y : List Tree) (z : List GTarget) (α : Int) (β : List Int) (γ : List ae) (δ : Int) (ε : List Int) (r s : Int) (t : List ac) (v : Nat) (r0 : aa) (ζ : List Tree) (i : List GTarget) (g : (List ((Int × (List UInt8)) × ac))) (a : (List ((Int × Int) × aa))) (j : Int) (l : List Int) (k : List ae) (b : Int) (f : List Int) (d e : Int) : Prop := ∀ (K : Ctx) (j1 : Nat), aG K [2, 1, 0] → m ≤ j1 → qLG K Tryz.f32 (fun u G => u = .agg (aa.c r0) ∧ G = ⟨6, [(4, .row 42 3 (List.map ae.w k)), (3, .row 3 1 (List.map (V.int .i64) l)), (2, .mp 84 81 (List.map (fun p => (fun x => V.agg [(V.int .i64 x.1), (V.int .i64 x.2)]) p.1) a) (List.map (fun p => aa.w p.2) a)), (1, .mp 137 61 (List.map (fun p => (fun x => V.agg [(V.int .i64 x.1), (V.str x.2)]) p.1) g) (List.map (fun p => ac.w p.2) g)), (0, vA ζ (.row 5 (List.map GTarget.w i)) j b f d e)]⟩) (xE (cB (aj Tryz.f32))) [.loop (xE (cB (aj Tryz.f32))) j1, .blk 0, .seq (xG (aj Tryz.f32))] 47 (mkF 47 0 [(0, .ptr 0 0), (1, .int .i64 p1), (5, .box (aq p2) 0), (6, .ptr 3 0), (7, .ptr 4 0), (8, .int .i64 ((p2.kids.length : Int) - 2)), (18, .row 4 (kidsV (p2.kids.take n))), (19, .int .i64 (((p2.kids.take n).length : Nat) : Int)), (20, .int .i64 (v : Int))]) ⟨8, [(7, .row 61 2 (List.map ac.w t)), (6, .row 42 3 (List.map ae.w γ)), (5, .row 3 1 (List.map (V.int .i64) β)), (4, .var 81 [.sl 7, .int .i64 0, .int .i64 0]), (3, .var 81 [.nils, .int .i64 0, .int .i64 0]), (2, .mp 84 81 (List.map (fun p => (fun x => V.agg [(V.int .i64 x.1), (V.int .i64 x.2)]) p.1) o) (List.map (fun p => aa.w p.2) o)), (1, .mp 137 61 (List.map (fun p => (fun x => V.agg [(V.int .i64 x.1), (V.str x.2)]) p.1) q) (List.map (fun p => ac.w p.2) q)), (0, .var 63 [.row 4 (kidsV y), .row 5 (List.map GTarget.w z), .sl 1, .sl 2, .int .i64 α, .sl 5, .sl 6, .int .i64 δ, .row 1 (List.map (V.int .i64) ε), .int .i64 r, .int .i64 s])]⟩
theorem jN (m : Nat) (z : List Tree) (n : List GTarget) (t : (List ((Int × (List UInt8)) × ac))) (j : (List ((Int × Int) × aa))) (p : Int) (q : List Int) (l : List ae) (a : Int) (g : List Int) (b e p1 : Int) (p2 : Tree) (r0 : aa) (α : List Tree) (o : List GTarget) (v : (List ((Int × (List UInt8)) × ac))) (k : (List ((Int × Int) × aa))) (r : Int) (y : List Int) (s : List ae) (c : Int) (i : List Int) (d f : Int) (h : ∃ x, ((p2.kids.length : Int) - 2) = ((x : Nat) : Int) ∧ x ≤ p2.kids.length ∧ cm m p1 p2 x j t z n p q l a g b e ([] : List ac) 0 r0 α o v k r y s c i d f) : dy z n t j p q l a g b e p1 p2 r0 α o v k r y s c i d f := by
 refine am 47 [2, 1, 0] Tryz.func32 rfl rfl rfl (aA rfl) fun K hK => ?_
 refine gR 3 rfl <| gFP 5 rfl rfl rfl rfl <| gR 13 rfl <| gV 13 (.int .i64 (p2.kids.length : Int)) rfl (aM (aK _)) rfl <| gLB 12 rfl (aK _) fun hl9 => gR 1 rfl <| gV 14 (.int .i64 ((p2.kids.length : Int) - 2)) rfl (ax (by have := hl9; omega) rfl) rfl <| gR 9 rfl ?_
 obtain ⟨x, β, h⟩ := h
 refine gV 17 (.int .i64 ((x : Nat) : Int)) rfl (cx β) rfl ?_
 obtain ⟨hb', h⟩ := h
 exact gY (vd (aK p2.kids) ah rfl rfl ql (pK rfl) (Nat.zero_le _) hb' (((yB _ _ _).trans (congrArg _ (mh _ _))))) rfl rfl <| gR 1 rfl <| gV 19 (.int .i64 (((p2.kids.take x).length : Nat) : Int)) rfl (aM (aK _)) rfl <| gLB 18 rfl (aK _) fun hl10 => gR 4 rfl <| go_loop m <| gNC 7 0 61 2 rfl rfl rfl rfl <| gJ (h K _ hK (by omega)) [0, 1, 2, 6, 7, 3, 4, 8] [2, 1, 0] rfl hK pq9 ⟨⟨_, rfl, rfl, rfl, rfl⟩, ⟨_, rfl, rfl, rfl, (vF _ l).symm⟩, ⟨_, rfl, rfl, rfl, (vD _ q).symm⟩, pqo rfl rfl, pqo rfl rfl, ⟨_, rfl, rfl, rfl, rfl, rfl⟩, ⟨_, rfl, rfl, rfl, rfl, rfl⟩, (pqo1 rfl rfl)⟩ rfl
theorem eZ (m : Nat) (p1 : Int) (p2 : Tree) (ο : Nat) (l1v1 : (List ((Int × Int) × aa))) (l1v2 : (List ((Int × (List UInt8)) × ac))) (l1v3 : List Tree) (l1v4 : List GTarget) (z1v5 : Int) (π : List Int) (τ : List ae) (z1v8 : Int) (l1v9 : List Int) (χ ψ : Int) (d : List ac) (l : Nat) (r0 : aa) (q0_p : List Tree) (g : List GTarget) (t : (List ((Int × (List UInt8)) × ac))) (f : (List ((Int × Int) × aa))) (n : Int) (y : List Int) (o : List ae) (a : Int) (e : List Int) (b c : Int) (h : ((l < ((p2.kids.take ο).length)) → ∃ t1_1, (p2.kids.take ο)[l]? = some t1_1 ∧ ∃ t1_2, t1_1.kids[0]? = some t1_2 ∧ ∃ z r1_4 r1_5, ∃ (υ : (List ((Int × (List UInt8)) × ac))), ∃ (φ : (List ((Int × Int) × aa))), ∃ n1_8 α q ι κ μ ν, cc l1v3 l1v4 l1v2 l1v1 z1v5 π τ z1v8 l1v9 χ ψ p1 t1_2 z r1_4 r1_5 υ φ n1_8 α q ι κ μ ν ∧ (d ++ [z]).length ≤ 1000000000 ∧ l + 1 ≤ 9223372036854775807 ∧ cm m p1 p2 ο φ υ r1_4 r1_5 n1_8 α q ι κ μ ν (d ++ [z]) (l + 1) r0 q0_p g t f n y o a e b c) ∧ ((¬ l < ((p2.kids.take ο).length)) → ∃ ξ, ((p2.kids.length : Int) - 2) = ((ξ : Nat) : Int) ∧ ∃ ω, p2.kids[ξ]? = some ω ∧ ∃ v β γ, ∃ (r : (List ((Int × (List UInt8)) × ac))), ∃ (s : (List ((Int × Int) × aa))), ∃ δ i k ε ζ η θ, cc l1v3 l1v4 l1v2 l1v1 z1v5 π τ z1v8 l1v9 χ ψ p1 ω v β γ r s δ i k ε ζ η θ ∧ (aa.mk d v) = r0 ∧ β = q0_p ∧ γ = g ∧ r = t ∧ s = f ∧ δ = n ∧ i = y ∧ k = o ∧ ε = a ∧ ζ = e ∧ η = b ∧ θ = c)) : cm (m + 1) p1 p2 ο l1v1 l1v2 l1v3 l1v4 z1v5 π τ z1v8 l1v9 χ ψ d l r0 q0_p g t f n y o a e b c := by
 intro K j1 hK hj1
 obtain ⟨j1, rfl⟩ : ∃ j, j1 = j + 1 := ⟨j1 - 1, by omega⟩
 refine gR 6 rfl <| gB 21 rfl rfl rfl ?_ ?_ <;> intro hd
 replace hd := (dn hd)
 replace h := h.1 hd
 refine gR 7 rfl ?_
 obtain ⟨t1_1, hxt1_1, h⟩ := h
 refine gY (bC (aI hxt1_1) ah rfl rfl rfl rfl) rfl rfl <| gR 5 rfl <| gDs [4, 8] 12 13 rfl (by kernel_rfl) (by kernel_rfl) <| gDr [(0, 2), (1, 3), (2, 2), (3, 2), (4, 0), (5, 0)] (by kernel_rfl) rfl rfl ?_
 obtain ⟨t1_2, hxt1_2, h⟩ := h
 refine kW 6 rfl (by kernel_rfl) (bC (aI hxt1_2) ah rfl rfl rfl rfl) rfl rfl ?_
 refine gDr [(7, 0)] (by kernel_rfl) rfl rfl ?_
 obtain ⟨z, r1_4, r1_5, υ, φ, n1_8, α, q, ι, κ, μ, ν, hs11, h⟩ := h
 refine gDCZ 8 hs11 [0, 1, 2, 5, 6] rfl ⟨⟨_, rfl, ⟨rfl, rfl, (vF _ τ).symm⟩⟩, ⟨⟨_, rfl, ⟨rfl, rfl, (vD _ π).symm⟩⟩, ⟨⟨_, rfl, ⟨rfl, rfl, rfl, rfl⟩⟩, ⟨⟨_, rfl, ⟨rfl, rfl, rfl, rfl⟩⟩, ⟨⟨_, rfl, ⟨rfl, an.rfl⟩⟩, trivial⟩⟩⟩⟩⟩ ?_
 refine gHR 12 (List.map (V.int .i64) α) rfl (vD _ α) rfl <| gHR 13 (List.map ae.w q) rfl (vF _ q) rfl <| gHn ⟨15, [(13, .row 42 3 (List.map ae.w q)), (12, .row 3 1 (List.map (V.int .i64) α)), (8, .var 29 (aq t1_1)), (7, .row 61 2 (List.map ac.w d)), (4, .var 81 [.sl 7, .int .i64 0, .int .i64 0]), (3, .var 81 [.nils, .int .i64 0, .int .i64 0]), (2, .mp 84 81 (List.map (fun p => (fun x => V.agg [(V.int .i64 x.1), (V.int .i64 x.2)]) p.1) φ) (List.map (fun p => aa.w p.2) φ)), (1, .mp 137 61 (List.map (fun p => (fun x => V.agg [(V.int .i64 x.1), (V.str x.2)]) p.1) υ) (List.map (fun p => ac.w p.2) υ)), (0, .var 63 [.row 4 (kidsV r1_4), .row 5 (List.map GTarget.w r1_5), .sl 1, .sl 2, .int .i64 n1_8, .sl 12, .sl 13, .int .i64 ι, .row 1 (List.map (V.int .i64) κ), .int .i64 μ, .int .i64 ν])]⟩ rfl ⟨rfl, rfl, rfl, rfl, rfl, rfl, rfl, rfl, rfl, trivial⟩ ?_
 refine gDr [(9, 0)] (by kernel_rfl) rfl rfl ?_
 obtain ⟨hb, h⟩ := h
 refine dw 10 (.repl 7 (.row 61 2 (List.map ac.w (d ++ [z])))) rfl (by kernel_rfl) (mz ah rfl rfl rfl rfl rfl (apM ac.w d z) (by rw [aJ]; exact hb)) (okR rfl) rfl (by kernel_rfl) rfl rfl ?_
 refine gDr [(11, 0), (12, 1)] (by kernel_rfl) rfl rfl <| gDe (by kernel_rfl) <| gR 3 rfl ?_
 obtain ⟨hb, h⟩ := h
 exact gR 1 rfl <| gV 36 (.int .i64 ((l + 1 : Nat) : Int)) rfl (ax (by omega) (by omega)) rfl <| gR 2 rfl <| go_xloop <| gJ (h K _ hK (by omega)) [0, 1, 2, 3, 4, 12, 13, 16] [2, 1, 0] rfl hK pq9 ⟨⟨_, rfl, rfl, rfl, (pP _ ac.w (fun _ => rfl) (d ++ [z])).symm⟩, ⟨_, rfl, rfl, rfl, (vF _ q).symm⟩, ⟨_, rfl, rfl, rfl, (vD _ α).symm⟩, pqo rfl rfl, pqo rfl rfl, ⟨_, rfl, rfl, rfl, rfl, rfl⟩, ⟨_, rfl, rfl, rfl, rfl, rfl⟩, (pqo1 rfl rfl)⟩ rfl
 replace hd := (dp hd)
 replace h := h.2 hd
 refine gR 3 rfl <| go_xloopE <| gR 9 rfl ?_
 obtain ⟨ξ, ek1_15, h⟩ := h
 refine gV 41 (.int .i64 ((ξ : Nat) : Int)) rfl (cx ek1_15) rfl ?_
 obtain ⟨ω, hxt1_16, h⟩ := h
 refine gY (bC (aI hxt1_16) ah rfl rfl rfl rfl) rfl rfl <| gR 1 rfl ?_
 obtain ⟨v, β, γ, r, s, δ, i, k, ε, ζ, η, θ, hs12, h⟩ := h
 refine gCZ hs12 [0, 1, 2, 5, 6] ⟨⟨_, rfl, ⟨rfl, rfl, (vF _ τ).symm⟩⟩, ⟨⟨_, rfl, ⟨rfl, rfl, (vD _ π).symm⟩⟩, ⟨⟨_, rfl, ⟨rfl, rfl, rfl, rfl⟩⟩, ⟨⟨_, rfl, ⟨rfl, rfl, rfl, rfl⟩⟩, ⟨⟨_, rfl, ⟨rfl, an.rfl⟩⟩, trivial⟩⟩⟩⟩⟩ ?_
 refine gHR 11 (List.map (V.int .i64) i) rfl (vD _ i) rfl <| gHR 12 (List.map ae.w k) rfl (vF _ k) rfl <| gHn ⟨14, [(12, .row 42 3 (List.map ae.w k)), (11, .row 3 1 (List.map (V.int .i64) i)), (7, .row 61 2 (List.map ac.w d)), (4, .var 81 [.sl 7, .int .i64 0, .int .i64 0]), (3, .var 81 [.nils, .int .i64 0, .int .i64 0]), (2, .mp 84 81 (List.map (fun p => (fun x => V.agg [(V.int .i64 x.1), (V.int .i64 x.2)]) p.1) s) (List.map (fun p => aa.w p.2) s)), (1, .mp 137 61 (List.map (fun p => (fun x => V.agg [(V.int .i64 x.1), (V.str x.2)]) p.1) r) (List.map (fun p => ac.w p.2) r)), (0, .var 63 [.row 4 (kidsV β), .row 5 (List.map GTarget.w γ), .sl 1, .sl 2, .int .i64 δ, .sl 11, .sl 12, .int .i64 ε, .row 1 (List.map (V.int .i64) ζ), .int .i64 η, .int .i64 θ])]⟩ rfl ⟨rfl, rfl, rfl, rfl, rfl, rfl, rfl, rfl, trivial⟩ ?_
 refine gR 11 rfl <| gFR 7 rfl (lR _ (fun _ => rfl) _) rfl rfl ?_
 obtain ⟨rfl, rfl, rfl, rfl, rfl, rfl, rfl, rfl, rfl, rfl, rfl, rfl⟩ := h
 refine go_sub (F' := (mkF 47 0 [(6, .ptr 5 0)])) (H' := ⟨6, [(5, .var 81 [.row 2 (List.map ac.w ((aa.mk d v).params)), .int .i64 (((aa.mk d v).result).simple), .int .i64 (((aa.mk d v).result).lists)]), (4, .row 42 3 (List.map ae.w k)), (3, .row 3 1 (List.map (V.int .i64) i)), (2, .mp 84 81 (List.map (fun p => (fun x => V.agg [(V.int .i64 x.1), (V.int .i64 x.2)]) p.1) s) (List.map (fun p => aa.w p.2) s)), (1, .mp 137 61 (List.map (fun p => (fun x => V.agg [(V.int .i64 x.1), (V.str x.2)]) p.1) r) (List.map (fun p => ac.w p.2) r)), (0, vA β (.row 5 (List.map GTarget.w γ)) δ ε ζ η θ)]⟩) [0, 1, 2, 11, 12, 3] [2, 1, 0] rfl hK pq1 ⟨pqo rfl rfl, ⟨_, rfl, rfl, rfl, (vF _ k).symm⟩, ⟨_, rfl, rfl, rfl, (vD _ i).symm⟩, ⟨_, rfl, rfl, rfl, rfl, rfl⟩, ⟨_, rfl, rfl, rfl, rfl, rfl⟩, (pqo1 rfl rfl)⟩ rfl ?_
 exact go_endD [5] ah (rs := [.cell 6 81]) rfl rfl ⟨rfl, rfl⟩
def bS (m : Nat) (p0 : List Tree) (s : Nat) (t : List Tree) (v : List GTarget) (l : (List ((Int × (List UInt8)) × ac))) (n : (List ((Int × Int) × aa))) (y : Int) (z : List Int) (α : List ae) (β : Int) (o : List Int) (q r : Int) (γ : List Tree) (g : List GTarget) (f : (List ((Int × (List UInt8)) × ac))) (a : (List ((Int × Int) × aa))) (i : Int) (k : List Int) (j : List ae) (b : Int) (e : List Int) (c d : Int) : Prop := ∀ (K : Ctx) (j1 : Nat), aG K [] → m ≤ j1 → qLG K Tryz.f19 (fun u G => u = .ptr 0 0 ∧ G = ⟨5, [(4, .row 42 3 (List.map ae.w j)), (3, .row 3 1 (List.map (V.int .i64) k)), (2, .mp 84 81 (List.map (fun p => (fun x => V.agg [(V.int .i64 x.1), (V.int .i64 x.2)]) p.1) a) (List.map (fun p => aa.w p.2) a)), (1, .mp 137 61 (List.map (fun p => (fun x => V.agg [(V.int .i64 x.1), (V.str x.2)]) p.1) f) (List.map (fun p => ac.w p.2) f)), (0, vA γ (.row 5 (List.map GTarget.w g)) i b e c d)]⟩) (xE (aj Tryz.f19)) [.loop (xE (aj Tryz.f19)) j1, .blk 0, .seq (xF (aj Tryz.f19))] 47 (mkF 47 0 [(3, .ptr 0 0), (15, .row 4 (kidsV p0)), (16, .int .i64 (p0.length : Int)), (17, .int .i64 (s : Int))]) ⟨5, [(4, .row 42 3 (List.map ae.w α)), (3, .row 3 1 (List.map (V.int .i64) z)), (2, .mp 84 81 (List.map (fun p => (fun x => V.agg [(V.int .i64 x.1), (V.int .i64 x.2)]) p.1) n) (List.map (fun p => aa.w p.2) n)), (1, .mp 137 61 (List.map (fun p => (fun x => V.agg [(V.int .i64 x.1), (V.str x.2)]) p.1) l) (List.map (fun p => ac.w p.2) l)), (0, vA t (.row 5 (List.map GTarget.w v)) y β o q r)]⟩
def bU (m : Nat) (p0 : List Tree) (l : Tree) (y : Nat) (z : List Tree) (α : List GTarget) (n : (List ((Int × (List UInt8)) × ac))) (o : (List ((Int × Int) × aa))) (β : Int) (γ : List Int) (δ : List ae) (ε : Int) (q : List Int) (r s : Int) (t v : Nat) (ζ : List Tree) (g : List GTarget) (f : (List ((Int × (List UInt8)) × ac))) (a : (List ((Int × Int) × aa))) (i : Int) (k : List Int) (j : List ae) (b : Int) (e : List Int) (c d : Int) : Prop := ∀ (K : Ctx) (j1 j2 : Nat), aG K [] → m ≤ j1 → m ≤ j2 → qLG K Tryz.f19 (fun u G => u = .ptr 0 0 ∧ G = ⟨5, [(4, .row 42 3 (List.map ae.w j)), (3, .row 3 1 (List.map (V.int .i64) k)), (2, .mp 84 81 (List.map (fun p => (fun x => V.agg [(V.int .i64 x.1), (V.int .i64 x.2)]) p.1) a) (List.map (fun p => aa.w p.2) a)), (1, .mp 137 61 (List.map (fun p => (fun x => V.agg [(V.int .i64 x.1), (V.str x.2)]) p.1) f) (List.map (fun p => ac.w p.2) f)), (0, vA ζ (.row 5 (List.map GTarget.w g)) i b e c d)]⟩) (xB (xA (cK (xD (xE (aj Tryz.f19)))))) [.loop (xB (xA (cK (xD (xE (aj Tryz.f19)))))) j1, .blk 2, .blk 1, .seq (xF (xE (aj Tryz.f19))), .loop (xE (aj Tryz.f19)) j2, .blk 0, .seq (xF (aj Tryz.f19))] 47 (mkF 47 0 [(3, .ptr 0 0), (4, .int .i64 (t : Int)), (15, .row 4 (kidsV p0)), (16, .int .i64 (p0.length : Int)), (17, .int .i64 (v : Int)), (23, .row 4 (kidsV l.kids)), (24, .int .i64 (l.kids.length : Int)), (25, .int .i64 (y : Int))]) ⟨5, [(4, .row 42 3 (List.map ae.w δ)), (3, .row 3 1 (List.map (V.int .i64) γ)), (2, .mp 84 81 (List.map (fun p => (fun x => V.agg [(V.int .i64 x.1), (V.int .i64 x.2)]) p.1) o) (List.map (fun p => aa.w p.2) o)), (1, .mp 137 61 (List.map (fun p => (fun x => V.agg [(V.int .i64 x.1), (V.str x.2)]) p.1) n) (List.map (fun p => ac.w p.2) n)), (0, vA z (.row 5 (List.map GTarget.w α)) β ε q r s)]⟩
def gg (m : Nat) (p0 : List Tree) (l : Tree) (v : List Tree) (y : List GTarget) (n : (List ((Int × (List UInt8)) × ac))) (z : Int) (α : List Int) (β : List ae) (q : Int) (r : List Int) (s t : Int) (o : (List ((Int × Int) × aa))) (γ δ ε : Nat) (ζ : List Tree) (g : List GTarget) (f : (List ((Int × (List UInt8)) × ac))) (a : (List ((Int × Int) × aa))) (i : Int) (k : List Int) (j : List ae) (b : Int) (e : List Int) (c d : Int) : Prop := ∀ (K : Ctx) (j1 j2 : Nat), aG K [] → m ≤ j1 → m ≤ j2 → Go Tryz.prog K (bodyPost Tryz.prog Tryz.f19 (SP K (fun u G => u = .ptr 0 0 ∧ G = ⟨5, [(4, .row 42 3 (List.map ae.w j)), (3, .row 3 1 (List.map (V.int .i64) k)), (2, .mp 84 81 (List.map (fun p => (fun x => V.agg [(V.int .i64 x.1), (V.int .i64 x.2)]) p.1) a) (List.map (fun p => aa.w p.2) a)), (1, .mp 137 61 (List.map (fun p => (fun x => V.agg [(V.int .i64 x.1), (V.str x.2)]) p.1) f) (List.map (fun p => ac.w p.2) f)), (0, vA ζ (.row 5 (List.map GTarget.w g)) i b e c d)]⟩))) (.ex .normal) [.blk 3, .seq (xF (xB (xA (cK (xD (xE (aj Tryz.f19))))))), .loop (xB (xA (cK (xD (xE (aj Tryz.f19)))))) j1, .blk 2, .blk 1, .seq (xF (xE (aj Tryz.f19))), .loop (xE (aj Tryz.f19)) j2, .blk 0, .seq (xF (aj Tryz.f19))] 47 (mkF 47 0 [(3, .ptr 0 0), (4, .int .i64 ((γ : Nat) : Int)), (15, .row 4 (kidsV p0)), (16, .int .i64 (p0.length : Int)), (17, .int .i64 ((δ : Nat) : Int)), (23, .row 4 (kidsV l.kids)), (24, .int .i64 (l.kids.length : Int)), (25, .int .i64 ((ε : Nat) : Int))]) ⟨5, [(4, .row 42 3 (List.map ae.w β)), (3, .row 3 1 (List.map (V.int .i64) α)), (2, .mp 84 81 (List.map (fun p => (fun x => V.agg [(V.int .i64 x.1), (V.int .i64 x.2)]) p.1) o) (List.map (fun p => aa.w p.2) o)), (1, .mp 137 61 (List.map (fun p => (fun x => V.agg [(V.int .i64 x.1), (V.str x.2)]) p.1) n) (List.map (fun p => ac.w p.2) n)), (0, vA v (.row 5 (List.map GTarget.w y)) z q r s t)]⟩
theorem kw (m : Nat) (p0 n : List Tree) (f : List GTarget) (j : (List ((Int × (List UInt8)) × ac))) (e : (List ((Int × Int) × aa))) (g : Int) (k : List Int) (i : List ae) (a : Int) (d : List Int) (b c : Int) (h : ∃ l, gD p0 l ∧ bS m p0 0 p0 l ([] : (List ((Int × (List UInt8)) × ac))) ([] : (List ((Int × Int) × aa))) 0 ([] : List Int) ([] : List ae) 0 [] 0 0 n f j e g k i a d b c) : dc p0 n f j e g k i a d b c := by
 refine am 47 [] Tryz.func19 rfl rfl rfl (aA rfl) fun K hK => ?_
 refine gR 9 rfl ?_
 obtain ⟨l, hs16, h⟩ := h
 refine gC0 hs16 (by kernel_rfl) rfl rfl .rfl rfl <| gDo (.new (.mp 137 61 [] [])) (dMM 137 61) trivial rfl rfl rfl <| gHM 0 (List.map (fun p => (fun x => V.agg [(V.int .i64 x.1), (V.str x.2)]) p.1) ([] : (List ((Int × (List UInt8)) × ac)))) (List.map (fun p => ac.w p.2) ([] : (List ((Int × (List UInt8)) × ac)))) rfl rfl rfl rfl <| gDo (.new (.mp 84 81 [] [])) (dMM 84 81) trivial rfl rfl rfl <| gHM 1 (List.map (fun p => (fun x => V.agg [(V.int .i64 x.1), (V.int .i64 x.2)]) p.1) ([] : (List ((Int × Int) × aa)))) (List.map (fun p => aa.w p.2) ([] : (List ((Int × Int) × aa)))) rfl rfl rfl rfl <| gR 10 rfl <| gV 16 (.int .i64 (p0.length : Int)) rfl (aM (aK _)) rfl ?_
 exact gLB 15 rfl (aK _) fun hl17 => gR 4 rfl <| go_loop m <| gNC 2 5 3 1 rfl rfl rfl rfl <| gNC 2 6 42 3 rfl rfl rfl rfl <| gJ (h K _ hK (by omega)) [2, 0, 1, 3, 4] [] rfl hK pq4 ⟨⟨_, rfl, rfl, rfl, rfl⟩, ⟨_, rfl, rfl, rfl, rfl⟩, ⟨_, rfl, rfl, rfl, rfl, rfl⟩, ⟨_, rfl, rfl, rfl, rfl, rfl⟩, ⟨_, rfl, rfl, (.cons .rfl (.cons .rfl (.cons .rfl (.cons .rfl (.cons .rfl (.cons .rfl (.cons .rfl (.cons .rfl (.cons (.nil 1) (.cons .rfl (.cons .rfl .nil)))))))))))⟩, trivial⟩ rfl
theorem fR (m : Nat) (p0 : List Tree) (n : Nat) (z : List Tree) (α : List GTarget) (v : (List ((Int × (List UInt8)) × ac))) (y : (List ((Int × Int) × aa))) (β : Int) (o : List Int) (q : List ae) (γ : Int) (r : List Int) (s t : Int) (ε : List Tree) (f : List GTarget) (k : (List ((Int × (List UInt8)) × ac))) (e : (List ((Int × Int) × aa))) (g : Int) (l : List Int) (i : List ae) (a : Int) (d : List Int) (b c : Int) (h : ((n < p0.length) → ∃ δ, p0[n]? = some δ ∧ bU m p0 δ 0 z α v y β o q γ r s t n n ε f k e g l i a d b c) ∧ ((¬ n < p0.length) → z = ε ∧ α = f ∧ v = k ∧ y = e ∧ β = g ∧ o = l ∧ q = i ∧ γ = a ∧ r = d ∧ s = b ∧ t = c)) : bS (m + 1) p0 n z α v y β o q γ r s t ε f k e g l i a d b c := by
 intro K j1 hK hj1
 obtain ⟨j1, rfl⟩ : ∃ j, j1 = j + 1 := ⟨j1 - 1, by omega⟩
 refine gR 6 rfl <| gB 18 rfl rfl rfl ?_ ?_ <;> intro hd
 replace hd := (dn hd)
 replace h := h.1 hd
 refine gR 8 rfl ?_
 obtain ⟨δ, hxt1_1, h⟩ := h
 exact gY (bC (aI hxt1_1) ah rfl rfl rfl rfl) rfl rfl <| gR 11 rfl <| gV 24 (.int .i64 ((δ.kids.length : Nat) : Int)) rfl (aM (aK _)) rfl <| gLB 23 rfl (aK _) fun hl18 => gR 4 rfl <| go_loop m <| gJ (h K _ _ hK (by omega) (by omega)) [0, 1, 2, 3, 4] [] rfl hK pq8 ⟨⟨_, rfl, rfl, rfl, (vF _ q).symm⟩, ⟨_, rfl, rfl, rfl, (vD _ o).symm⟩, ⟨_, rfl, rfl, rfl, rfl, rfl⟩, ⟨_, rfl, rfl, rfl, rfl, rfl⟩, (pqo1 rfl rfl)⟩ rfl
 replace hd := (dp hd)
 replace h := h.2 hd
 refine gR 3 rfl <| go_xloopE <| gR 9 rfl ?_
 obtain ⟨rfl, rfl, rfl, rfl, rfl, rfl, rfl, rfl, rfl, rfl, rfl⟩ := h
 refine go_sub (F' := (mkF 47 0 [(2, .ptr 0 0)])) (H' := ⟨5, [(4, .row 42 3 (List.map ae.w q)), (3, .row 3 1 (List.map (V.int .i64) o)), (2, .mp 84 81 (List.map (fun p => (fun x => V.agg [(V.int .i64 x.1), (V.int .i64 x.2)]) p.1) y) (List.map (fun p => aa.w p.2) y)), (1, .mp 137 61 (List.map (fun p => (fun x => V.agg [(V.int .i64 x.1), (V.str x.2)]) p.1) v) (List.map (fun p => ac.w p.2) v)), (0, vA z (.row 5 (List.map GTarget.w α)) β γ r s t)]⟩) [0, 1, 2, 3, 4] [] rfl hK pq1 ⟨⟨_, rfl, rfl, rfl, (vF _ q).symm⟩, ⟨_, rfl, rfl, rfl, (vD _ o).symm⟩, ⟨_, rfl, rfl, rfl, rfl, rfl⟩, ⟨_, rfl, rfl, rfl, rfl, rfl⟩, (pqo1 rfl rfl)⟩ rfl ?_
 exact go_endD [] ah (rs := [.tmp 2]) rfl rfl ⟨rfl, rfl⟩
theorem fQ (m : Nat) (p0 : List Tree) (υ : Tree) (o : Nat) (ψ : List Tree) (ω : List GTarget) (φ : (List ((Int × (List UInt8)) × ac))) (χ : (List ((Int × Int) × aa))) (z2v6 : Int) (α : List Int) (β : List ae) (z2v9 : Int) (μ : List Int) (ν ξ : Int) (f κ : Nat) (r0_p : List Tree) (s : List GTarget) (z : (List ((Int × (List UInt8)) × ac))) (g : (List ((Int × Int) × aa))) (v : Int) (θ : List Int) (y : List ae) (a : Int) (e : List Int) (b c : Int) (h : ((o < υ.kids.length) → ∃ ι, υ.kids[o]? = some ι ∧ ((ι.kind = 2) → ∃ t ο π, ∃ (γ : (List ((Int × (List UInt8)) × ac))), ∃ (n : (List ((Int × Int) × aa))), ∃ τ q r δ ε ζ η, dy ψ ω φ χ z2v6 α β z2v9 μ ν ξ (f : Int) ι t ο π γ n τ q r δ ε ζ η ∧ gg m p0 υ ο π γ τ q r δ ε ζ η (mput ((f : Int), (o : Int)) t n) f κ o r0_p s z g v θ y a e b c) ∧ ((ι.kind ≠ 2) → o + 1 ≤ 9223372036854775807 ∧ bU m p0 υ (o + 1) ψ ω φ χ z2v6 α β z2v9 μ ν ξ f κ r0_p s z g v θ y a e b c)) ∧ ((¬ o < υ.kids.length) → κ + 1 ≤ 9223372036854775807 ∧ bS m p0 (κ + 1) ψ ω φ χ z2v6 α β z2v9 μ ν ξ r0_p s z g v θ y a e b c)) : bU (m + 1) p0 υ o ψ ω φ χ z2v6 α β z2v9 μ ν ξ f κ r0_p s z g v θ y a e b c := by
 intro K j1 j2 hK hj1 hj2
 obtain ⟨j1, rfl⟩ : ∃ j, j1 = j + 1 := ⟨j1 - 1, by omega⟩
 obtain ⟨j2, rfl⟩ : ∃ j, j2 = j + 1 := ⟨j2 - 1, by omega⟩
 refine gR 6 rfl <| gB 26 rfl rfl rfl ?_ ?_ <;> intro hd
 replace hd := (dn hd)
 replace h := h.1 hd
 refine gR 8 rfl ?_
 obtain ⟨ι, hxt2_1, h⟩ := h
 refine gY (bC (aI hxt2_1) ah rfl rfl rfl rfl) rfl rfl <| gR 13 rfl <| gB 32 rfl rfl rfl ?_ ?_ <;> intro hd
 replace hd := (eq_of_beq hd)
 replace h := h.1 hd
 refine gR 1 rfl <| gDs [] 12 12 rfl (by kernel_rfl) (by kernel_rfl) <| gDr [(0, 2), (1, 2), (2, 2), (4, 2), (5, 2), (6, 2), (7, 2), (8, 2)] (by kernel_rfl) rfl rfl ?_
 apply cD (i := 3) (j := 9) (by kernel_rfl) rfl rfl rfl rfl
 exact (bT ah rfl rfl)
 exact (bT ah rfl rfl)
 refine gDr [(9, 0)] (by kernel_rfl) rfl rfl ?_
 obtain ⟨t, ο, π, γ, n, τ, q, r, δ, ε, ζ, η, hs19, h⟩ := h
 refine gDCZ 10 hs19 [0, 1, 2, 3, 4] rfl ⟨⟨_, rfl, ⟨rfl, rfl, (vF _ β).symm⟩⟩, ⟨⟨_, rfl, ⟨rfl, rfl, (vD _ α).symm⟩⟩, ⟨⟨_, rfl, ⟨rfl, rfl, rfl, rfl⟩⟩, ⟨⟨_, rfl, ⟨rfl, rfl, rfl, rfl⟩⟩, ⟨⟨_, rfl, ⟨rfl, an.rfl⟩⟩, trivial⟩⟩⟩⟩⟩ ?_
 refine gHR 9 (List.map (V.int .i64) q) rfl (vD _ q) rfl <| gHR 10 (List.map ae.w r) rfl (vF _ r) rfl <| gHn ⟨12, [(10, .row 42 3 (List.map ae.w r)), (9, .row 3 1 (List.map (V.int .i64) q)), (5, .var 29 (aq ι)), (2, .mp 84 81 (List.map (fun p => (fun x => V.agg [(V.int .i64 x.1), (V.int .i64 x.2)]) p.1) n) (List.map (fun p => aa.w p.2) n)), (1, .mp 137 61 (List.map (fun p => (fun x => V.agg [(V.int .i64 x.1), (V.str x.2)]) p.1) γ) (List.map (fun p => ac.w p.2) γ)), (0, vC ο (.row 5 (List.map GTarget.w π)) τ δ ε ζ η)]⟩ rfl ⟨rfl, rfl, rfl, rfl, rfl, rfl, trivial⟩ ?_
 refine dw 11 (.set 2 (.mp 84 81 (List.map (fun p => (fun x => V.agg [(V.int .i64 x.1), (V.int .i64 x.2)]) p.1) (mput ((f : Int), (o : Int)) t n)) (List.map (fun p => aa.w p.2) (mput ((f : Int), (o : Int)) t n)))) rfl (by kernel_rfl) (uh bc (encV := aa.w) (k := ((f : Int), (o : Int))) (d := t) (l := n) Tryz.underlying59 rfl rfl rfl rfl rfl rfl rfl rfl) (okM rfl) rfl (by kernel_rfl) rfl rfl ?_
 exact gDe (by kernel_rfl) <| gJ (h K _ _ hK (by omega) (by omega)) [0, 1, 2, 9, 10] [] rfl hK pq8 ⟨⟨_, rfl, rfl, rfl, (vF _ r).symm⟩, ⟨_, rfl, rfl, rfl, (vD _ q).symm⟩, ⟨_, rfl, rfl, rfl, rfl, rfl⟩, ⟨_, rfl, rfl, rfl, rfl, rfl⟩, (pqo1 rfl rfl)⟩ rfl
 obtain ⟨t, ο, π, γ, n, τ, q, r, δ, ε, ζ, η, hs20, h⟩ := h
 apply cD (i := 3) (j := 10) (by kernel_rfl) rfl rfl rfl rfl
 exact (bT ah rfl rfl)
 exact (eC (L' := []) (by kernel_rfl) rfl rfl (jo (H := ⟨6, [(5, .var 29 (aq ι)), (4, .row 42 3 (List.map ae.w β)), (3, .row 3 1 (List.map (V.int .i64) α)), (2, .mp 84 81 (List.map (fun p => (fun x => V.agg [(V.int .i64 x.1), (V.int .i64 x.2)]) p.1) χ) (List.map (fun p => aa.w p.2) χ)), (1, .mp 137 61 (List.map (fun p => (fun x => V.agg [(V.int .i64 x.1), (V.str x.2)]) p.1) φ) (List.map (fun p => ac.w p.2) φ)), (0, vA ψ (.row 5 (List.map GTarget.w ω)) z2v6 z2v9 μ ν ξ)]⟩) hs20 [0, 1, 2, 3, 4] .rfl ⟨⟨_, rfl, ⟨rfl, rfl, (vF _ β).symm⟩⟩, ⟨⟨_, rfl, ⟨rfl, rfl, (vD _ α).symm⟩⟩, ⟨⟨_, rfl, ⟨rfl, rfl, rfl, rfl⟩⟩, ⟨⟨_, rfl, ⟨rfl, rfl, rfl, rfl⟩⟩, ⟨⟨_, rfl, ⟨rfl, an.rfl⟩⟩, trivial⟩⟩⟩⟩⟩ rfl [] rfl) (.inl rfl))
 refine gDCZ 10 hs20 [0, 1, 2, 3, 4] rfl ⟨⟨_, rfl, ⟨rfl, rfl, (vF _ β).symm⟩⟩, ⟨⟨_, rfl, ⟨rfl, rfl, (vD _ α).symm⟩⟩, ⟨⟨_, rfl, ⟨rfl, rfl, rfl, rfl⟩⟩, ⟨⟨_, rfl, ⟨rfl, rfl, rfl, rfl⟩⟩, ⟨⟨_, rfl, ⟨rfl, an.rfl⟩⟩, trivial⟩⟩⟩⟩⟩ ?_
 refine gHR 9 (List.map (V.int .i64) q) rfl (vD _ q) rfl <| gHR 10 (List.map ae.w r) rfl (vF _ r) rfl <| gHn ⟨12, [(10, .row 42 3 (List.map ae.w r)), (9, .row 3 1 (List.map (V.int .i64) q)), (5, .var 29 (aq ι)), (2, .mp 84 81 (List.map (fun p => (fun x => V.agg [(V.int .i64 x.1), (V.int .i64 x.2)]) p.1) n) (List.map (fun p => aa.w p.2) n)), (1, .mp 137 61 (List.map (fun p => (fun x => V.agg [(V.int .i64 x.1), (V.str x.2)]) p.1) γ) (List.map (fun p => ac.w p.2) γ)), (0, vC ο (.row 5 (List.map GTarget.w π)) τ δ ε ζ η)]⟩ rfl ⟨rfl, rfl, rfl, rfl, rfl, rfl, trivial⟩ ?_
 refine dw 11 (.set 2 (.mp 84 81 (List.map (fun p => (fun x => V.agg [(V.int .i64 x.1), (V.int .i64 x.2)]) p.1) (mput ((f : Int), (o : Int)) t n)) (List.map (fun p => aa.w p.2) (mput ((f : Int), (o : Int)) t n)))) rfl (by kernel_rfl) (uh bc (encV := aa.w) (k := ((f : Int), (o : Int))) (d := t) (l := n) Tryz.underlying59 rfl rfl rfl rfl rfl rfl rfl rfl) (okM rfl) rfl (by kernel_rfl) rfl rfl ?_
 exact gDe (by kernel_rfl) <| gJ (h K _ _ hK (by omega) (by omega)) [0, 1, 2, 9, 10] [] rfl hK pq8 ⟨⟨_, rfl, rfl, rfl, (vF _ r).symm⟩, ⟨_, rfl, rfl, rfl, (vD _ q).symm⟩, ⟨_, rfl, rfl, rfl, rfl, rfl⟩, ⟨_, rfl, rfl, rfl, rfl, rfl⟩, (pqo1 rfl rfl)⟩ rfl
 refine gHR 9 (List.map (V.int .i64) q) rfl (vD _ q) rfl <| gHR 10 (List.map ae.w r) rfl (vF _ r) rfl <| gHn ⟨12, [(10, .row 42 3 (List.map ae.w r)), (9, .row 3 1 (List.map (V.int .i64) q)), (5, .var 29 (aq ι)), (2, .mp 84 81 (List.map (fun p => (fun x => V.agg [(V.int .i64 x.1), (V.int .i64 x.2)]) p.1) n) (List.map (fun p => aa.w p.2) n)), (1, .mp 137 61 (List.map (fun p => (fun x => V.agg [(V.int .i64 x.1), (V.str x.2)]) p.1) γ) (List.map (fun p => ac.w p.2) γ)), (0, vC ο (.row 5 (List.map GTarget.w π)) τ δ ε ζ η)]⟩ rfl ⟨rfl, rfl, rfl, rfl, rfl, rfl, trivial⟩ ?_
 exact gDr [(3, 0)] (by kernel_rfl) rfl rfl <| dw 11 (.set 2 (.mp 84 81 (List.map (fun p => (fun x => V.agg [(V.int .i64 x.1), (V.int .i64 x.2)]) p.1) (mput ((f : Int), (o : Int)) t n)) (List.map (fun p => aa.w p.2) (mput ((f : Int), (o : Int)) t n)))) rfl (by kernel_rfl) (uh bc (encV := aa.w) (k := ((f : Int), (o : Int))) (d := t) (l := n) Tryz.underlying59 rfl rfl rfl rfl rfl rfl rfl rfl) (okM rfl) rfl (by kernel_rfl) rfl rfl <| gDe (by kernel_rfl) <| gJ (h K _ _ hK (by omega) (by omega)) [0, 1, 2, 9, 10] [] rfl hK pq8 ⟨⟨_, rfl, rfl, rfl, (vF _ r).symm⟩, ⟨_, rfl, rfl, rfl, (vD _ q).symm⟩, ⟨_, rfl, rfl, rfl, rfl, rfl⟩, ⟨_, rfl, rfl, rfl, rfl, rfl⟩, (pqo1 rfl rfl)⟩ rfl
 replace hd := (ne_of_beq_false hd)
 replace h := h.2 hd
 refine gR 5 rfl ?_
 obtain ⟨hb, h⟩ := h
 exact gR 1 rfl <| gV 44 (.int .i64 ((o + 1 : Nat) : Int)) rfl (ax (by omega) (by omega)) rfl <| gR 2 rfl <| go_xloop <| gJ (h K _ _ hK (by omega) (by omega)) [0, 1, 2, 3, 4] [] rfl hK pq8 ⟨⟨_, rfl, rfl, rfl, (vF _ β).symm⟩, ⟨_, rfl, rfl, rfl, (vD _ α).symm⟩, ⟨_, rfl, rfl, rfl, rfl, rfl⟩, ⟨_, rfl, rfl, rfl, rfl, rfl⟩, (pqo1 rfl rfl)⟩ rfl
 replace hd := (dp hd)
 replace h := h.2 hd
 refine gR 3 rfl <| go_xloopE <| gR 4 rfl ?_
 obtain ⟨hb, h⟩ := h
 exact gR 1 rfl <| gV 45 (.int .i64 ((κ + 1 : Nat) : Int)) rfl (ax (by omega) (by omega)) rfl <| gR 2 rfl <| go_xloop <| gJ (h K _ hK (by omega)) [0, 1, 2, 3, 4] [] rfl hK pq4 ⟨⟨_, rfl, rfl, rfl, (vF _ β).symm⟩, ⟨_, rfl, rfl, rfl, (vD _ α).symm⟩, ⟨_, rfl, rfl, rfl, rfl, rfl⟩, ⟨_, rfl, rfl, rfl, rfl, rfl⟩, (pqo1 rfl rfl)⟩ rfl
theorem jV (m : Nat) (p0 : List Tree) (v : Tree) (x : List Tree) (y : List GTarget) (z : (List ((Int × (List UInt8)) × ac))) (α : Int) (o : List Int) (p : List ae) (q : Int) (r : List Int) (s t : Int) (β : (List ((Int × Int) × aa))) (γ δ n : Nat) (ε : List Tree) (f : List GTarget) (k : (List ((Int × (List UInt8)) × ac))) (e : (List ((Int × Int) × aa))) (g : Int) (l : List Int) (i : List ae) (a : Int) (d : List Int) (b c : Int) (h : n + 1 ≤ 9223372036854775807 ∧ bU m p0 v (n + 1) x y z β α o p q r s t γ δ ε f k e g l i a d b c) : gg (m + 1) p0 v x y z α o p q r s t β γ δ n ε f k e g l i a d b c := by
 intro K j1 j2 hK hj1 hj2
 obtain ⟨j1, rfl⟩ : ∃ j, j1 = j + 1 := ⟨j1 - 1, by omega⟩
 obtain ⟨j2, rfl⟩ : ∃ j, j2 = j + 1 := ⟨j2 - 1, by omega⟩
 refine gR 3 rfl ?_
 obtain ⟨hb, h⟩ := h
 exact gR 1 rfl <| gV 44 (.int .i64 ((n + 1 : Nat) : Int)) rfl (ax (by omega) (by omega)) rfl <| gR 2 rfl <| go_xloop <| gJ (h K _ _ hK (by omega) (by omega)) [0, 1, 2, 3, 4] [] rfl hK pq8 ⟨⟨_, rfl, rfl, rfl, (vF _ p).symm⟩, ⟨_, rfl, rfl, rfl, (vD _ o).symm⟩, ⟨_, rfl, rfl, rfl, rfl, rfl⟩, ⟨_, rfl, rfl, rfl, rfl, rfl⟩, (pqo1 rfl rfl)⟩ rfl
def L0_typing_checker_call (m : Nat) (p1 : Tree) (p2 : List ak) (n : (List ((Int × Int) × aa))) (o : (List ((Int × (List UInt8)) × ac))) (z : List Tree) (α : List GTarget) (β : Int) (γ : List Int) (δ : List ae) (ε : Int) (ζ : List Int) (q r : Int) (s : List ac) (t v : Int) (y : Nat) (r0 : ac) (η : List Tree) (i : List GTarget) (g : (List ((Int × (List UInt8)) × ac))) (a : (List ((Int × Int) × aa))) (j : Int) (l : List Int) (k : List ae) (b : Int) (f : List Int) (d e : Int) : Prop := ∀ (K : Ctx) (j1 : Nat), aG K [2, 1, 0] → m ≤ j1 → qLG K Tryz.f101 (fun u G => u = .agg (ac.c r0) ∧ G = ⟨6, [(4, .row 42 3 (List.map ae.w k)), (3, .row 3 1 (List.map (V.int .i64) l)), (2, .mp 84 81 (List.map (fun p => (fun x => V.agg [(V.int .i64 x.1), (V.int .i64 x.2)]) p.1) a) (List.map (fun p => aa.w p.2) a)), (1, .mp 137 61 (List.map (fun p => (fun x => V.agg [(V.int .i64 x.1), (V.str x.2)]) p.1) g) (List.map (fun p => ac.w p.2) g)), (0, vA η (.row 5 (List.map GTarget.w i)) j b f d e)]⟩) (xE (xA (aj Tryz.f101))) [.loop (xE (xA (aj Tryz.f101))) j1, .blk 0, .seq (xA (xF (aj Tryz.f101)))] 75 (mkF 75 0 [(0, .ptr 0 0), (2, .lk (List.map ak.c p2)), (6, .ptr 3 0), (8, .ptr 4 0), (38, .row 4 (kidsV p1.kids)), (39, .int .i64 (p1.kids.length : Int)), (40, .int .i64 (y : Int))]) ⟨7, [(6, .row 42 3 (List.map ae.w δ)), (5, .row 3 1 (List.map (V.int .i64) γ)), (4, .var 81 [.row 2 (List.map ac.w s), .int .i64 t, .int .i64 v]), (3, vB 0 0), (2, .mp 84 81 (List.map (fun p => (fun x => V.agg [(V.int .i64 x.1), (V.int .i64 x.2)]) p.1) n) (List.map (fun p => aa.w p.2) n)), (1, .mp 137 61 (List.map (fun p => (fun x => V.agg [(V.int .i64 x.1), (V.str x.2)]) p.1) o) (List.map (fun p => ac.w p.2) o)), (0, .var 63 [.row 4 (kidsV z), .row 5 (List.map GTarget.w α), .sl 1, .sl 2, .int .i64 β, .sl 5, .sl 6, .int .i64 ε, .row 1 (List.map (V.int .i64) ζ), .int .i64 q, .int .i64 r])]⟩
theorem jR (m : Nat) (p0_p : List Tree) (τ : List GTarget) (p0_names : (List ((Int × (List UInt8)) × ac))) (δ : (List ((Int × Int) × aa))) (ω : Int) (p0_path : List Int) (θ : List ae) (t : Int) (γ : List Int) (y α : Int) (p1 : Tree) (p2 : List ak) (r0 : ac) (q0_p : List Tree) (g : List GTarget) (q : (List ((Int × (List UInt8)) × ac))) (f : (List ((Int × Int) × aa))) (j : Int) (β : List Int) (n : List ae) (a : Int) (e : List Int) (b d : Int) (h : ∃ o υ φ, ∃ (π : (List ((Int × (List UInt8)) × ac))), ∃ (z : (List ((Int × Int) × aa))), ∃ χ r s ψ ε ζ η, cO p0_p τ p0_names δ ω p0_path θ t γ y α o υ φ π z χ r s ψ ε ζ η ∧ ((o.Free = true) → ∃ r0_13 r0_14, ∃ (r0_15 : (List ((Int × (List UInt8)) × ac))), ∃ (r0_16 : (List ((Int × Int) × aa))), ∃ n0_17 ι κ n0_20 r0_21 n0_22 n0_23, ao υ φ π z χ r s ψ ε ζ η 1 [] r0_13 r0_14 r0_15 r0_16 n0_17 ι κ n0_20 r0_21 n0_22 n0_23 ∧ L0_typing_checker_call m p1 p2 r0_16 r0_15 r0_13 r0_14 n0_17 ι κ n0_20 r0_21 n0_22 n0_23 [] 0 0 0 r0 q0_p g q f j β n a e b d) ∧ ((o.Free = false) → ((mlook (o.Module, o.Def) z = none) → ((0 ≠ (p1.kids.length : Int)) → ∃ r0_25 r0_26, ∃ (r0_27 : (List ((Int × (List UInt8)) × ac))), ∃ (r0_28 : (List ((Int × Int) × aa))), ∃ n0_29 μ ν n0_32 r0_33 n0_34 n0_35, ao υ φ π z χ r s ψ ε ζ η 3 [] r0_25 r0_26 r0_27 r0_28 n0_29 μ ν n0_32 r0_33 n0_34 n0_35 ∧ L0_typing_checker_call m p1 p2 r0_28 r0_27 r0_25 r0_26 n0_29 μ ν n0_32 r0_33 n0_34 n0_35 [] 0 0 0 r0 q0_p g q f j β n a e b d) ∧ ((0 = (p1.kids.length : Int)) → L0_typing_checker_call m p1 p2 z π υ φ χ r s ψ ε ζ η [] 0 0 0 r0 q0_p g q f j β n a e b d)) ∧ (∀ (i : aa), mlook (o.Module, o.Def) z = some i → ((i.params.length ≠ p1.kids.length) → ∃ r0_36 r0_37, ∃ (r0_38 : (List ((Int × (List UInt8)) × ac))), ∃ (r0_39 : (List ((Int × Int) × aa))), ∃ n0_40 ξ ο n0_43 r0_44 n0_45 n0_46, ao υ φ π z χ r s ψ ε ζ η 3 [] r0_36 r0_37 r0_38 r0_39 n0_40 ξ ο n0_43 r0_44 n0_45 n0_46 ∧ L0_typing_checker_call m p1 p2 r0_39 r0_38 r0_36 r0_37 n0_40 ξ ο n0_43 r0_44 n0_45 n0_46 i.params i.result.simple i.result.lists 0 r0 q0_p g q f j β n a e b d) ∧ ((i.params.length = p1.kids.length) → L0_typing_checker_call m p1 p2 z π υ φ χ r s ψ ε ζ η i.params i.result.simple i.result.lists 0 r0 q0_p g q f j β n a e b d)))) : dD p0_p τ p0_names δ ω p0_path θ t γ y α p1 p2 r0 q0_p g q f j β n a e b d := by
 refine am 75 [2, 1, 0] Tryz.func101 rfl rfl rfl (aA rfl) fun K hK => ?_
 refine gR 3 rfl <| gFP 5 rfl rfl rfl rfl <| gR 6 rfl ?_
 obtain ⟨o, υ, φ, π, z, χ, r, s, ψ, ε, ζ, η, hs37, h⟩ := h
 refine gCZ hs37 [0, 1, 2, 3, 4] ⟨⟨_, rfl, ⟨rfl, rfl, (vF _ θ).symm⟩⟩, ⟨⟨_, rfl, ⟨rfl, rfl, (vD _ p0_path).symm⟩⟩, ⟨⟨_, rfl, ⟨rfl, rfl, rfl, rfl⟩⟩, ⟨⟨_, rfl, ⟨rfl, rfl, rfl, rfl⟩⟩, ⟨⟨_, rfl, ⟨rfl, an.rfl⟩⟩, trivial⟩⟩⟩⟩⟩ ?_
 refine gHR 10 (List.map (V.int .i64) r) rfl (vD _ r) rfl <| gHR 11 (List.map ae.w s) rfl (vF _ s) rfl <| gHn ⟨13, [(11, .row 42 3 (List.map ae.w s)), (10, .row 3 1 (List.map (V.int .i64) r)), (6, vB 0 0), (2, .mp 84 81 (List.map (fun p => (fun x => V.agg [(V.int .i64 x.1), (V.int .i64 x.2)]) p.1) z) (List.map (fun p => aa.w p.2) z)), (1, .mp 137 61 (List.map (fun p => (fun x => V.agg [(V.int .i64 x.1), (V.str x.2)]) p.1) π) (List.map (fun p => ac.w p.2) π)), (0, .var 63 [.row 4 (kidsV υ), .row 5 (List.map GTarget.w φ), .sl 1, .sl 2, .int .i64 χ, .sl 10, .sl 11, .int .i64 ψ, .row 1 (List.map (V.int .i64) ε), .int .i64 ζ, .int .i64 η])]⟩ rfl ⟨rfl, rfl, rfl, rfl, rfl, rfl, trivial⟩ ?_
 refine gR 16 rfl <| gB 15 rfl rfl rfl ?_ ?_ <;> intro hd
 replace h := h.1 hd
 refine gR 3 rfl ?_
 obtain ⟨r0_13, r0_14, r0_15, r0_16, n0_17, ι, κ, n0_20, r0_21, n0_22, n0_23, hs38, h⟩ := h
 refine gC hs38 [0, 1, 2, 10, 11] (by kernel_rfl) rfl rfl (.cons .rfl (.cons .rfl (.cons (.nil 1) .nil))) ⟨⟨_, rfl, ⟨rfl, rfl, (vF _ s).symm⟩⟩, ⟨⟨_, rfl, ⟨rfl, rfl, (vD _ r).symm⟩⟩, ⟨⟨_, rfl, ⟨rfl, rfl, rfl, rfl⟩⟩, ⟨⟨_, rfl, ⟨rfl, rfl, rfl, rfl⟩⟩, ⟨⟨_, rfl, ⟨rfl, an.rfl⟩⟩, trivial⟩⟩⟩⟩⟩ rfl ?_
 rintro _ _ ⟨rfl, rfl⟩
 refine gHR 18 (List.map (V.int .i64) ι) rfl (vD _ ι) rfl <| gHR 19 (List.map ae.w κ) rfl (vF _ κ) rfl <| gHn ⟨20, [(19, .row 42 3 (List.map ae.w κ)), (18, .row 3 1 (List.map (V.int .i64) ι)), (14, .var 81 [.nils, .int .i64 0, .int .i64 0]), (13, .var 120 (GTarget.c o)), (6, vB 0 0), (2, .mp 84 81 (List.map (fun p => (fun x => V.agg [(V.int .i64 x.1), (V.int .i64 x.2)]) p.1) r0_16) (List.map (fun p => aa.w p.2) r0_16)), (1, .mp 137 61 (List.map (fun p => (fun x => V.agg [(V.int .i64 x.1), (V.str x.2)]) p.1) r0_15) (List.map (fun p => ac.w p.2) r0_15)), (0, .var 63 [.row 4 (kidsV r0_13), .row 5 (List.map GTarget.w r0_14), .sl 1, .sl 2, .int .i64 n0_17, .sl 18, .sl 19, .int .i64 n0_20, .row 1 (List.map (V.int .i64) r0_21), .int .i64 n0_22, .int .i64 n0_23])]⟩ rfl ⟨rfl, rfl, rfl, rfl, rfl, rfl, rfl, rfl, trivial⟩ ?_
 exact gR 8 rfl <| gV 39 (.int .i64 (p1.kids.length : Int)) rfl (aM (aK _)) rfl <| gLB 38 rfl (aK _) fun hl39 => gR 4 rfl <| go_loop m <| gJ (h K _ hK (by omega)) [0, 1, 2, 6, 14, 18, 19] [2, 1, 0] rfl hK pq7 ⟨⟨_, rfl, rfl, rfl, (vF _ κ).symm⟩, ⟨_, rfl, rfl, rfl, (vD _ ι).symm⟩, ⟨_, rfl, rfl, (.cons (.nil 2) (.cons .rfl (.cons .rfl .nil)))⟩, pqo rfl rfl, ⟨_, rfl, rfl, rfl, rfl, rfl⟩, ⟨_, rfl, rfl, rfl, rfl, rfl⟩, (pqo1 rfl rfl)⟩ rfl
 replace h := h.2 hd
 refine gR 2 rfl <| gDs [0, 13] 10 11 rfl (by kernel_rfl) (by kernel_rfl) <| gDr [(0, 2), (1, 2), (2, 2), (3, 3), (4, 2), (5, 3), (6, 0), (7, 0), (8, 0)] (by kernel_rfl) rfl rfl ?_
 rcases hq40 : mlook (o.Module, o.Def) z with _ | i
 replace h := h.1 hq40
 refine dw (v := some (.agg [.nils, .int .i64 0, .int .i64 0])) 9 (.nop) rfl (by kernel_rfl) (nT bc (encV := aa.w) (k := (o.Module, o.Def)) (l := z) (zv := .agg [.nils, .int .i64 0, .int .i64 0]) hq40 Tryz.underlying59 Tryz.zeroValue81 (by kernel_rfl) rfl rfl rfl rfl) trivial rfl (by kernel_rfl) rfl rfl ?_
 refine gDr [(10, 1)] (by kernel_rfl) rfl rfl <| gDe (by kernel_rfl) <| gR 9 rfl <| gV 33 (.int .i64 (p1.kids.length : Int)) rfl (aM (aK _)) rfl <| gLB 32 rfl (aK _) fun hl41 => gR 3 rfl <| gB 34 rfl rfl rfl ?_ ?_ <;> intro hd
 replace hd := (eG hd)
 replace h := h.1 hd
 refine gR 3 rfl ?_
 obtain ⟨r0_25, r0_26, r0_27, r0_28, n0_29, μ, ν, n0_32, r0_33, n0_34, n0_35, hs42, h⟩ := h
 refine gC hs42 [0, 1, 2, 10, 11] (by kernel_rfl) rfl rfl (.cons .rfl (.cons .rfl (.cons (.nil 1) .nil))) ⟨⟨_, rfl, ⟨rfl, rfl, (vF _ s).symm⟩⟩, ⟨⟨_, rfl, ⟨rfl, rfl, (vD _ r).symm⟩⟩, ⟨⟨_, rfl, ⟨rfl, rfl, rfl, rfl⟩⟩, ⟨⟨_, rfl, ⟨rfl, rfl, rfl, rfl⟩⟩, ⟨⟨_, rfl, ⟨rfl, an.rfl⟩⟩, trivial⟩⟩⟩⟩⟩ rfl ?_
 rintro _ _ ⟨rfl, rfl⟩
 refine gHR 18 (List.map (V.int .i64) μ) rfl (vD _ μ) rfl <| gHR 19 (List.map ae.w ν) rfl (vF _ ν) rfl <| gHn ⟨20, [(19, .row 42 3 (List.map ae.w ν)), (18, .row 3 1 (List.map (V.int .i64) μ)), (14, .var 81 [.nils, .int .i64 0, .int .i64 0]), (13, .var 120 (GTarget.c o)), (6, vB 0 0), (2, .mp 84 81 (List.map (fun p => (fun x => V.agg [(V.int .i64 x.1), (V.int .i64 x.2)]) p.1) r0_28) (List.map (fun p => aa.w p.2) r0_28)), (1, .mp 137 61 (List.map (fun p => (fun x => V.agg [(V.int .i64 x.1), (V.str x.2)]) p.1) r0_27) (List.map (fun p => ac.w p.2) r0_27)), (0, .var 63 [.row 4 (kidsV r0_25), .row 5 (List.map GTarget.w r0_26), .sl 1, .sl 2, .int .i64 n0_29, .sl 18, .sl 19, .int .i64 n0_32, .row 1 (List.map (V.int .i64) r0_33), .int .i64 n0_34, .int .i64 n0_35])]⟩ rfl ⟨rfl, rfl, rfl, rfl, rfl, rfl, rfl, rfl, trivial⟩ ?_
 exact gR 8 rfl <| gV 39 (.int .i64 (p1.kids.length : Int)) rfl (aM (aK _)) rfl <| gR 4 rfl <| go_loop m <| gJ (h K _ hK (by omega)) [0, 1, 2, 6, 14, 18, 19] [2, 1, 0] rfl hK pq7 ⟨⟨_, rfl, rfl, rfl, (vF _ ν).symm⟩, ⟨_, rfl, rfl, rfl, (vD _ μ).symm⟩, ⟨_, rfl, rfl, (.cons (.nil 2) (.cons .rfl (.cons .rfl .nil)))⟩, pqo rfl rfl, ⟨_, rfl, rfl, rfl, rfl, rfl⟩, ⟨_, rfl, rfl, rfl, rfl, rfl⟩, (pqo1 rfl rfl)⟩ rfl
 replace hd := (dj hd)
 replace h := h.2 hd
 exact gR 9 rfl <| gV 39 (.int .i64 (p1.kids.length : Int)) rfl (aM (aK _)) rfl <| gR 4 rfl <| go_loop m <| gJ (h K _ hK (by omega)) [0, 1, 2, 6, 14, 10, 11] [2, 1, 0] rfl hK pq7 ⟨⟨_, rfl, rfl, rfl, (vF _ s).symm⟩, ⟨_, rfl, rfl, rfl, (vD _ r).symm⟩, ⟨_, rfl, rfl, (.cons (.nil 2) (.cons .rfl (.cons .rfl .nil)))⟩, pqo rfl rfl, ⟨_, rfl, rfl, rfl, rfl, rfl⟩, ⟨_, rfl, rfl, rfl, rfl, rfl⟩, (pqo1 rfl rfl)⟩ rfl
 replace h := h.2 i hq40
 refine dw (v := some (.agg (aa.c i))) 9 (.nop) rfl (by kernel_rfl) (nF bc (encV := aa.w) (k := (o.Module, o.Def)) (l := z) (zv := .agg [.nils, .int .i64 0, .int .i64 0]) hq40 Tryz.underlying59 Tryz.zeroValue81 (by kernel_rfl) rfl rfl rfl rfl) trivial rfl (by kernel_rfl) rfl rfl ?_
 refine gDr [(10, 1)] (by kernel_rfl) rfl rfl <| gDe (by kernel_rfl) <| gR 6 rfl <| gV 30 (.int .i64 (i.params.length : Int)) rfl (aM (aJ ac.w _)) rfl <| gLB 29 rfl (aJ ac.w _) fun hl43 => gR 3 rfl <| gV 33 (.int .i64 (p1.kids.length : Int)) rfl (aM (aK _)) rfl <| gLB 32 rfl (aK _) fun hl44 => gR 3 rfl <| gB 34 rfl rfl rfl ?_ ?_ <;> intro hd
 replace hd := (uy hd)
 replace h := h.1 hd
 refine gR 3 rfl ?_
 obtain ⟨r0_36, r0_37, r0_38, r0_39, n0_40, ξ, ο, n0_43, r0_44, n0_45, n0_46, hs45, h⟩ := h
 refine gC hs45 [0, 1, 2, 10, 11] (by kernel_rfl) rfl rfl (.cons .rfl (.cons .rfl (.cons (.nil 1) .nil))) ⟨⟨_, rfl, ⟨rfl, rfl, (vF _ s).symm⟩⟩, ⟨⟨_, rfl, ⟨rfl, rfl, (vD _ r).symm⟩⟩, ⟨⟨_, rfl, ⟨rfl, rfl, rfl, rfl⟩⟩, ⟨⟨_, rfl, ⟨rfl, rfl, rfl, rfl⟩⟩, ⟨⟨_, rfl, ⟨rfl, an.rfl⟩⟩, trivial⟩⟩⟩⟩⟩ rfl ?_
 rintro _ _ ⟨rfl, rfl⟩
 refine gHR 18 (List.map (V.int .i64) ξ) rfl (vD _ ξ) rfl <| gHR 19 (List.map ae.w ο) rfl (vF _ ο) rfl <| gHn ⟨20, [(19, .row 42 3 (List.map ae.w ο)), (18, .row 3 1 (List.map (V.int .i64) ξ)), (14, .var 81 (aa.c i)), (13, .var 120 (GTarget.c o)), (6, vB 0 0), (2, .mp 84 81 (List.map (fun p => (fun x => V.agg [(V.int .i64 x.1), (V.int .i64 x.2)]) p.1) r0_39) (List.map (fun p => aa.w p.2) r0_39)), (1, .mp 137 61 (List.map (fun p => (fun x => V.agg [(V.int .i64 x.1), (V.str x.2)]) p.1) r0_38) (List.map (fun p => ac.w p.2) r0_38)), (0, .var 63 [.row 4 (kidsV r0_36), .row 5 (List.map GTarget.w r0_37), .sl 1, .sl 2, .int .i64 n0_40, .sl 18, .sl 19, .int .i64 n0_43, .row 1 (List.map (V.int .i64) r0_44), .int .i64 n0_45, .int .i64 n0_46])]⟩ rfl ⟨rfl, rfl, rfl, rfl, rfl, rfl, rfl, rfl, trivial⟩ ?_
 exact gR 8 rfl <| gV 39 (.int .i64 (p1.kids.length : Int)) rfl (aM (aK _)) rfl <| gR 4 rfl <| go_loop m <| gJ (h K _ hK (by omega)) [0, 1, 2, 6, 14, 18, 19] [2, 1, 0] rfl hK pq7 ⟨⟨_, rfl, rfl, rfl, (vF _ ο).symm⟩, ⟨_, rfl, rfl, rfl, (vD _ ξ).symm⟩, pqo rfl rfl, pqo rfl rfl, ⟨_, rfl, rfl, rfl, rfl, rfl⟩, ⟨_, rfl, rfl, rfl, rfl, rfl⟩, (pqo1 rfl rfl)⟩ rfl
 replace hd := (vb hd)
 replace h := h.2 hd
 exact gR 9 rfl <| gV 39 (.int .i64 (p1.kids.length : Int)) rfl (aM (aK _)) rfl <| gR 4 rfl <| go_loop m <| gJ (h K _ hK (by omega)) [0, 1, 2, 6, 14, 10, 11] [2, 1, 0] rfl hK pq7 ⟨⟨_, rfl, rfl, rfl, (vF _ s).symm⟩, ⟨_, rfl, rfl, rfl, (vD _ r).symm⟩, pqo rfl rfl, pqo rfl rfl, ⟨_, rfl, rfl, rfl, rfl, rfl⟩, ⟨_, rfl, rfl, rfl, rfl, rfl⟩, (pqo1 rfl rfl)⟩ rfl
theorem eX (m : Nat) (p1 : Tree) (p2 : List ak) (l1v1 : (List ((Int × Int) × aa))) (l1v2 : (List ((Int × (List UInt8)) × ac))) (l1v3 : List Tree) (l1v4 : List GTarget) (z1v5 : Int) (ω : List Int) (l1v7 : List ae) (z1v8 : Int) (l1v9 : List Int) (z1v10 z1v11 : Int) (l : List ac) (n o : Int) (i : Nat) (r0 : ac) (q0_p : List Tree) (k : List GTarget) (v : (List ((Int × (List UInt8)) × ac))) (g : (List ((Int × Int) × aa))) (q : Int) (y : List Int) (r : List ae) (a : Int) (e : List Int) (b d : Int) (h : ((i < p1.kids.length) → ∃ ξ, p1.kids[i]? = some ξ ∧ ∃ r1_2 r1_3, ∃ (r1_4 : (List ((Int × (List UInt8)) × ac))), ∃ (r1_5 : (List ((Int × Int) × aa))), ∃ n1_6 ο π n1_9 r1_10 n1_11 n1_12, aV l1v3 l1v4 l1v2 l1v1 z1v5 ω l1v7 z1v8 l1v9 z1v10 z1v11 (i : Int) r1_2 r1_3 r1_4 r1_5 n1_6 ο π n1_9 r1_10 n1_11 n1_12 ∧ ∃ τ r1_14 r1_15, ∃ (υ : (List ((Int × (List UInt8)) × ac))), ∃ (φ : (List ((Int × Int) × aa))), ∃ n1_18 z α n1_21 r1_22 n1_23 n1_24, aC r1_2 r1_3 r1_4 r1_5 n1_6 ο π n1_9 r1_10 n1_11 n1_12 ξ 0 p2 τ r1_14 r1_15 υ φ n1_18 z α n1_21 r1_22 n1_23 n1_24 ∧ ∃ ζ η, ∃ (β : (List ((Int × (List UInt8)) × ac))), ∃ (γ : (List ((Int × Int) × aa))), ∃ θ s t ι κ μ ν, ay r1_14 r1_15 υ φ n1_18 z α n1_21 r1_22 n1_23 n1_24 ζ η β γ θ s t ι κ μ ν ∧ ((i < l.length) → ∃ x1_36, l[i]? = some x1_36 ∧ ∃ b1_37, aO τ x1_36 b1_37 ∧ ((b1_37 = true) → ∃ r1_38 r1_39, ∃ (χ : (List ((Int × (List UInt8)) × ac))), ∃ (ψ : (List ((Int × Int) × aa))), ∃ n1_42 δ ε n1_45 r1_46 n1_47 n1_48, ao ζ η β γ θ s t ι κ μ ν 4 [(i : Int), 0] r1_38 r1_39 χ ψ n1_42 δ ε n1_45 r1_46 n1_47 n1_48 ∧ L0_typing_checker_call m p1 p2 ψ χ r1_38 r1_39 n1_42 δ ε n1_45 r1_46 n1_47 n1_48 l n o (i + 1) r0 q0_p k v g q y r a e b d) ∧ ((b1_37 = false) → L0_typing_checker_call m p1 p2 γ β ζ η θ s t ι κ μ ν l n o (i + 1) r0 q0_p k v g q y r a e b d)) ∧ ((¬ i < l.length) → i + 1 ≤ 9223372036854775807 ∧ L0_typing_checker_call m p1 p2 γ β ζ η θ s t ι κ μ ν l n o (i + 1) r0 q0_p k v g q y r a e b d)) ∧ ((¬ i < p1.kids.length) → (ac.mk n o) = r0 ∧ l1v3 = q0_p ∧ l1v4 = k ∧ l1v2 = v ∧ l1v1 = g ∧ z1v5 = q ∧ ω = y ∧ l1v7 = r ∧ z1v8 = a ∧ l1v9 = e ∧ z1v10 = b ∧ z1v11 = d)) : L0_typing_checker_call (m + 1) p1 p2 l1v1 l1v2 l1v3 l1v4 z1v5 ω l1v7 z1v8 l1v9 z1v10 z1v11 l n o i r0 q0_p k v g q y r a e b d := by
 intro K j1 hK hj1
 obtain ⟨j1, rfl⟩ : ∃ j, j1 = j + 1 := ⟨j1 - 1, by omega⟩
 refine gR 6 rfl <| gB 41 rfl rfl rfl ?_ ?_ <;> intro hd
 replace hd := (dn hd)
 replace h := h.1 hd
 refine gR 8 rfl ?_
 obtain ⟨ξ, hxt1_1, h⟩ := h
 refine gY (bC (aI hxt1_1) ah rfl rfl rfl rfl) rfl rfl <| gR 10 rfl ?_
 obtain ⟨r1_2, r1_3, r1_4, r1_5, n1_6, ο, π, n1_9, r1_10, n1_11, n1_12, hs46, h⟩ := h
 refine gCZ hs46 [0, 1, 2, 5, 6] ⟨⟨_, rfl, ⟨rfl, rfl, (vF _ l1v7).symm⟩⟩, ⟨⟨_, rfl, ⟨rfl, rfl, (vD _ ω).symm⟩⟩, ⟨⟨_, rfl, ⟨rfl, rfl, rfl, rfl⟩⟩, ⟨⟨_, rfl, ⟨rfl, rfl, rfl, rfl⟩⟩, ⟨⟨_, rfl, ⟨rfl, an.rfl⟩⟩, trivial⟩⟩⟩⟩⟩ ?_
 refine gHR 11 (List.map (V.int .i64) ο) rfl (vD _ ο) rfl <| gHR 12 (List.map ae.w π) rfl (vF _ π) rfl <| gHn ⟨13, [(12, .row 42 3 (List.map ae.w π)), (11, .row 3 1 (List.map (V.int .i64) ο)), (7, .var 29 (aq ξ)), (4, .var 81 [.row 2 (List.map ac.w l), .int .i64 n, .int .i64 o]), (3, vB 0 0), (2, .mp 84 81 (List.map (fun p => (fun x => V.agg [(V.int .i64 x.1), (V.int .i64 x.2)]) p.1) r1_5) (List.map (fun p => aa.w p.2) r1_5)), (1, .mp 137 61 (List.map (fun p => (fun x => V.agg [(V.int .i64 x.1), (V.str x.2)]) p.1) r1_4) (List.map (fun p => ac.w p.2) r1_4)), (0, .var 63 [.row 4 (kidsV r1_2), .row 5 (List.map GTarget.w r1_3), .sl 1, .sl 2, .int .i64 n1_6, .sl 11, .sl 12, .int .i64 n1_9, .row 1 (List.map (V.int .i64) r1_10), .int .i64 n1_11, .int .i64 n1_12])]⟩ rfl ⟨rfl, rfl, rfl, rfl, rfl, rfl, rfl, rfl, trivial⟩ ?_
 refine gR 7 rfl ?_
 obtain ⟨τ, r1_14, r1_15, υ, φ, n1_18, z, α, n1_21, r1_22, n1_23, n1_24, hs47, h⟩ := h
 refine gCZ hs47 [0, 1, 2, 11, 12] ⟨⟨_, rfl, ⟨rfl, rfl, (vF _ π).symm⟩⟩, ⟨⟨_, rfl, ⟨rfl, rfl, (vD _ ο).symm⟩⟩, ⟨⟨_, rfl, ⟨rfl, rfl, rfl, rfl⟩⟩, ⟨⟨_, rfl, ⟨rfl, rfl, rfl, rfl⟩⟩, ⟨⟨_, rfl, ⟨rfl, an.rfl⟩⟩, trivial⟩⟩⟩⟩⟩ ?_
 refine gHR 16 (List.map (V.int .i64) z) rfl (vD _ z) rfl <| gHR 17 (List.map ae.w α) rfl (vF _ α) rfl <| gHn ⟨19, [(17, .row 42 3 (List.map ae.w α)), (16, .row 3 1 (List.map (V.int .i64) z)), (7, .var 29 (aq ξ)), (4, .var 81 [.row 2 (List.map ac.w l), .int .i64 n, .int .i64 o]), (3, vB 0 0), (2, .mp 84 81 (List.map (fun p => (fun x => V.agg [(V.int .i64 x.1), (V.int .i64 x.2)]) p.1) φ) (List.map (fun p => aa.w p.2) φ)), (1, .mp 137 61 (List.map (fun p => (fun x => V.agg [(V.int .i64 x.1), (V.str x.2)]) p.1) υ) (List.map (fun p => ac.w p.2) υ)), (0, .var 63 [.row 4 (kidsV r1_14), .row 5 (List.map GTarget.w r1_15), .sl 1, .sl 2, .int .i64 n1_18, .sl 16, .sl 17, .int .i64 n1_21, .row 1 (List.map (V.int .i64) r1_22), .int .i64 n1_23, .int .i64 n1_24])]⟩ rfl ⟨rfl, rfl, rfl, rfl, rfl, rfl, rfl, rfl, trivial⟩ ?_
 refine gR 7 rfl ?_
 obtain ⟨ζ, η, β, γ, θ, s, t, ι, κ, μ, ν, hs48, h⟩ := h
 refine gCZ hs48 [0, 1, 2, 16, 17] ⟨⟨_, rfl, ⟨rfl, rfl, (vF _ α).symm⟩⟩, ⟨⟨_, rfl, ⟨rfl, rfl, (vD _ z).symm⟩⟩, ⟨⟨_, rfl, ⟨rfl, rfl, rfl, rfl⟩⟩, ⟨⟨_, rfl, ⟨rfl, rfl, rfl, rfl⟩⟩, ⟨⟨_, rfl, ⟨rfl, an.rfl⟩⟩, trivial⟩⟩⟩⟩⟩ ?_
 refine gHR 23 (List.map (V.int .i64) s) rfl (vD _ s) rfl <| gHR 24 (List.map ae.w t) rfl (vF _ t) rfl <| gHn ⟨25, [(24, .row 42 3 (List.map ae.w t)), (23, .row 3 1 (List.map (V.int .i64) s)), (19, .var 61 (ac.c τ)), (7, .var 29 (aq ξ)), (4, .var 81 [.row 2 (List.map ac.w l), .int .i64 n, .int .i64 o]), (3, vB 0 0), (2, .mp 84 81 (List.map (fun p => (fun x => V.agg [(V.int .i64 x.1), (V.int .i64 x.2)]) p.1) γ) (List.map (fun p => aa.w p.2) γ)), (1, .mp 137 61 (List.map (fun p => (fun x => V.agg [(V.int .i64 x.1), (V.str x.2)]) p.1) β) (List.map (fun p => ac.w p.2) β)), (0, .var 63 [.row 4 (kidsV ζ), .row 5 (List.map GTarget.w η), .sl 1, .sl 2, .int .i64 θ, .sl 23, .sl 24, .int .i64 ι, .row 1 (List.map (V.int .i64) κ), .int .i64 μ, .int .i64 ν])]⟩ rfl ⟨rfl, rfl, rfl, rfl, rfl, rfl, rfl, rfl, rfl, trivial⟩ ?_
 refine gR 3 rfl <| gDs [4, 19] 14 14 rfl (by kernel_rfl) (by kernel_rfl) <| gDr [(0, 2), (1, 0), (2, 0), (3, 0)] (by kernel_rfl) rfl rfl <| gV 57 (.int .i64 (l.length : Int)) rfl (aM (aJ ac.w _)) rfl <| gLB 56 rfl (aJ ac.w _) fun hl52 => gDr [(4, 0), (5, 0)] (by kernel_rfl) rfl rfl <| gB 59 rfl rfl rfl ?_ ?_ <;> intro hd
 refine gT 58 rfl hd rfl ?_
 replace hd := (dn hd)
 replace h := h.1 hd
 refine gDr [(6, 3), (7, 2), (8, 3), (9, 0)] (by kernel_rfl) rfl rfl ?_
 obtain ⟨x1_36, hxx1_36, h⟩ := h
 refine kW 10 rfl (by kernel_rfl) (bC (mapget (f := ac.w) hxx1_36) ah rfl rfl rfl rfl) rfl rfl ?_
 refine gDr [(11, 0)] (by kernel_rfl) rfl rfl ?_
 obtain ⟨b1_37, hs53, h⟩ := h
 refine pc 12 hs53 (by kernel_rfl) rfl (by kernel_rfl) rfl rfl .rfl rfl rfl ?_
 refine gDr [(13, 0)] (by kernel_rfl) rfl rfl <| gDe (by kernel_rfl) <| gR 1 rfl <| gB 67 rfl rfl rfl ?_ ?_ <;> intro hd
 replace h := h.1 hd
 refine gR 5 rfl <| gFR 25 rfl rfl rfl rfl ?_
 obtain ⟨r1_38, r1_39, χ, ψ, n1_42, δ, ε, n1_45, r1_46, n1_47, n1_48, hs54, h⟩ := h
 refine gCZ hs54 [0, 1, 2, 23, 24] ⟨⟨_, rfl, ⟨rfl, rfl, (vF _ t).symm⟩⟩, ⟨⟨_, rfl, ⟨rfl, rfl, (vD _ s).symm⟩⟩, ⟨⟨_, rfl, ⟨rfl, rfl, rfl, rfl⟩⟩, ⟨⟨_, rfl, ⟨rfl, rfl, rfl, rfl⟩⟩, ⟨⟨_, rfl, ⟨rfl, an.rfl⟩⟩, trivial⟩⟩⟩⟩⟩ ?_
 refine gHR 29 (List.map (V.int .i64) δ) rfl (vD _ δ) rfl <| gHR 30 (List.map ae.w ε) rfl (vF _ ε) rfl <| gHn ⟨31, [(30, .row 42 3 (List.map ae.w ε)), (29, .row 3 1 (List.map (V.int .i64) δ)), (19, .var 61 (ac.c τ)), (7, .var 29 (aq ξ)), (4, .var 81 [.row 2 (List.map ac.w l), .int .i64 n, .int .i64 o]), (3, vB 0 0), (2, .mp 84 81 (List.map (fun p => (fun x => V.agg [(V.int .i64 x.1), (V.int .i64 x.2)]) p.1) ψ) (List.map (fun p => aa.w p.2) ψ)), (1, .mp 137 61 (List.map (fun p => (fun x => V.agg [(V.int .i64 x.1), (V.str x.2)]) p.1) χ) (List.map (fun p => ac.w p.2) χ)), (0, .var 63 [.row 4 (kidsV r1_38), .row 5 (List.map GTarget.w r1_39), .sl 1, .sl 2, .int .i64 n1_42, .sl 29, .sl 30, .int .i64 n1_45, .row 1 (List.map (V.int .i64) r1_46), .int .i64 n1_47, .int .i64 n1_48])]⟩ rfl ⟨rfl, rfl, rfl, rfl, rfl, rfl, rfl, rfl, rfl, trivial⟩ ?_
 exact gR 5 rfl <| gV 72 (.int .i64 ((i + 1 : Nat) : Int)) rfl (ax (by have := hl52; omega) (by omega)) rfl <| gR 2 rfl <| go_xloop <| gJ (h K _ hK (by omega)) [0, 1, 2, 3, 4, 29, 30] [2, 1, 0] rfl hK pq7 ⟨⟨_, rfl, rfl, rfl, (vF _ ε).symm⟩, ⟨_, rfl, rfl, rfl, (vD _ δ).symm⟩, pqo rfl rfl, pqo rfl rfl, ⟨_, rfl, rfl, rfl, rfl, rfl⟩, ⟨_, rfl, rfl, rfl, rfl, rfl⟩, (pqo1 rfl rfl)⟩ rfl
 replace h := h.2 hd
 exact gR 6 rfl <| gV 72 (.int .i64 ((i + 1 : Nat) : Int)) rfl (ax (by have := hl52; omega) (by omega)) rfl <| gR 2 rfl <| go_xloop <| gJ (h K _ hK (by omega)) [0, 1, 2, 3, 4, 23, 24] [2, 1, 0] rfl hK pq7 ⟨⟨_, rfl, rfl, rfl, (vF _ t).symm⟩, ⟨_, rfl, rfl, rfl, (vD _ s).symm⟩, pqo rfl rfl, pqo rfl rfl, ⟨_, rfl, rfl, rfl, rfl, rfl⟩, ⟨_, rfl, rfl, rfl, rfl, rfl⟩, (pqo1 rfl rfl)⟩ rfl
 refine gF 58 rfl hd rfl ?_
 replace hd := (dp hd)
 replace h := h.2 hd
 refine gDr [(6, 2), (7, 2), (8, 2), (9, 0), (10, 0), (11, 0), (12, 0), (13, 0)] (by kernel_rfl) rfl rfl <| gDe (by kernel_rfl) <| gR 6 rfl ?_
 obtain ⟨hb, h⟩ := h
 exact gR 1 rfl <| gV 72 (.int .i64 ((i + 1 : Nat) : Int)) rfl (ax (by omega) (by omega)) rfl <| gR 2 rfl <| go_xloop <| gJ (h K _ hK (by omega)) [0, 1, 2, 3, 4, 23, 24] [2, 1, 0] rfl hK pq7 ⟨⟨_, rfl, rfl, rfl, (vF _ t).symm⟩, ⟨_, rfl, rfl, rfl, (vD _ s).symm⟩, pqo rfl rfl, pqo rfl rfl, ⟨_, rfl, rfl, rfl, rfl, rfl⟩, ⟨_, rfl, rfl, rfl, rfl, rfl⟩, (pqo1 rfl rfl)⟩ rfl
 replace hd := (dp hd)
 replace h := h.2 hd
 refine gR 3 rfl <| go_xloopE <| gR 10 rfl ?_
 obtain ⟨rfl, rfl, rfl, rfl, rfl, rfl, rfl, rfl, rfl, rfl, rfl, rfl⟩ := h
 refine go_sub (F' := (mkF 75 0 [(6, .ptr 5 0)])) (H' := ⟨6, [(5, .var 61 (ac.c (ac.mk n o))), (4, .row 42 3 (List.map ae.w l1v7)), (3, .row 3 1 (List.map (V.int .i64) ω)), (2, .mp 84 81 (List.map (fun p => (fun x => V.agg [(V.int .i64 x.1), (V.int .i64 x.2)]) p.1) l1v1) (List.map (fun p => aa.w p.2) l1v1)), (1, .mp 137 61 (List.map (fun p => (fun x => V.agg [(V.int .i64 x.1), (V.str x.2)]) p.1) l1v2) (List.map (fun p => ac.w p.2) l1v2)), (0, vA l1v3 (.row 5 (List.map GTarget.w l1v4)) z1v5 z1v8 l1v9 z1v10 z1v11)]⟩) [0, 1, 2, 5, 6, 3] [2, 1, 0] rfl hK pq1 ⟨pqo rfl rfl, ⟨_, rfl, rfl, rfl, (vF _ l1v7).symm⟩, ⟨_, rfl, rfl, rfl, (vD _ ω).symm⟩, ⟨_, rfl, rfl, rfl, rfl, rfl⟩, ⟨_, rfl, rfl, rfl, rfl, rfl⟩, (pqo1 rfl rfl)⟩ rfl ?_
 exact go_endD [5] ah (rs := [.cell 6 61]) rfl rfl ⟨rfl, rfl⟩
def L0_typing_checker_list (m : Nat) (p1 : Tree) (p2 : List ak) (n : (List ((Int × Int) × aa))) (o : (List ((Int × (List UInt8)) × ac))) (y : List Tree) (z : List GTarget) (α : Int) (β : List Int) (γ : List ae) (δ : Int) (ε : List Int) (q r s t : Int) (v : Nat) (r0 : ac) (ζ : List Tree) (i : List GTarget) (g : (List ((Int × (List UInt8)) × ac))) (a : (List ((Int × Int) × aa))) (j : Int) (l : List Int) (k : List ae) (b : Int) (f : List Int) (d e : Int) : Prop := ∀ (K : Ctx) (j1 : Nat), aG K [2, 1, 0] → m ≤ j1 → qLG K Tryz.f102 (fun u G => u = .agg (ac.c r0) ∧ G = ⟨6, [(4, .row 42 3 (List.map ae.w k)), (3, .row 3 1 (List.map (V.int .i64) l)), (2, .mp 84 81 (List.map (fun p => (fun x => V.agg [(V.int .i64 x.1), (V.int .i64 x.2)]) p.1) a) (List.map (fun p => aa.w p.2) a)), (1, .mp 137 61 (List.map (fun p => (fun x => V.agg [(V.int .i64 x.1), (V.str x.2)]) p.1) g) (List.map (fun p => ac.w p.2) g)), (0, vA ζ (.row 5 (List.map GTarget.w i)) j b f d e)]⟩) (xE (aj Tryz.f102)) [.loop (xE (aj Tryz.f102)) j1, .blk 0, .seq (xF (aj Tryz.f102))] 41 (mkF 41 0 [(0, .ptr 0 0), (2, .lk (List.map ak.c p2)), (4, .box (aq p1) 0), (6, .ptr 3 0), (7, .ptr 4 0), (12, .int .i64 (p1.kids.length : Int)), (13, .int .i64 (v : Int))]) ⟨7, [(6, .row 42 3 (List.map ae.w γ)), (5, .row 3 1 (List.map (V.int .i64) β)), (4, vB s t), (3, vB 0 0), (2, .mp 84 81 (List.map (fun p => (fun x => V.agg [(V.int .i64 x.1), (V.int .i64 x.2)]) p.1) n) (List.map (fun p => aa.w p.2) n)), (1, .mp 137 61 (List.map (fun p => (fun x => V.agg [(V.int .i64 x.1), (V.str x.2)]) p.1) o) (List.map (fun p => ac.w p.2) o)), (0, .var 63 [.row 4 (kidsV y), .row 5 (List.map GTarget.w z), .sl 1, .sl 2, .int .i64 α, .sl 5, .sl 6, .int .i64 δ, .row 1 (List.map (V.int .i64) ε), .int .i64 q, .int .i64 r])]⟩
theorem jJ (m : Nat) (y : List Tree) (n : List GTarget) (t : (List ((Int × (List UInt8)) × ac))) (j : (List ((Int × Int) × aa))) (p : Int) (q : List Int) (l : List ae) (a : Int) (g : List Int) (b e : Int) (p1 : Tree) (p2 : List ak) (r0 : ac) (z : List Tree) (o : List GTarget) (v : (List ((Int × (List UInt8)) × ac))) (k : (List ((Int × Int) × aa))) (r : Int) (x : List Int) (s : List ae) (c : Int) (i : List Int) (d f : Int) (h : L0_typing_checker_list m p1 p2 j t y n p q l a g b e 0 0 0 r0 z o v k r x s c i d f) : fV y n t j p q l a g b e p1 p2 r0 z o v k r x s c i d f := by
 refine am 41 [2, 1, 0] Tryz.func102 rfl rfl rfl (aA rfl) fun K hK => ?_
 exact gR 3 rfl <| gFP 5 rfl rfl rfl rfl <| gR 14 rfl <| gV 12 (.int .i64 (p1.kids.length : Int)) rfl (aM (aK _)) rfl <| gLB 11 rfl (aK _) fun hl11 => gR 4 rfl <| go_loop m <| gJ (h K _ hK (by omega)) [0, 1, 2, 6, 7, 3, 4] [2, 1, 0] rfl hK pq7 ⟨⟨_, rfl, rfl, rfl, (vF _ l).symm⟩, ⟨_, rfl, rfl, rfl, (vD _ q).symm⟩, pqo rfl rfl, pqo rfl rfl, ⟨_, rfl, rfl, rfl, rfl, rfl⟩, ⟨_, rfl, rfl, rfl, rfl, rfl⟩, (pqo1 rfl rfl)⟩ rfl
theorem eY (m : Nat) (p1 : Tree) (p2 : List ak) (κ : (List ((Int × Int) × aa))) (μ : (List ((Int × (List UInt8)) × ac))) (l1v3 : List Tree) (l1v4 : List GTarget) (z1v5 : Int) (ζ : List Int) (η : List ae) (z1v8 : Int) (l1v9 : List Int) (θ ι k o : Int) (g : Nat) (r0 : ac) (ο : List Tree) (i : List GTarget) (q : (List ((Int × (List UInt8)) × ac))) (f : (List ((Int × Int) × aa))) (l : Int) (r : List Int) (n : List ae) (a : Int) (e : List Int) (b d : Int) (h : ((g < p1.kids.length) → ∃ v π τ, ∃ (ν : (List ((Int × (List UInt8)) × ac))), ∃ (ξ : (List ((Int × Int) × aa))), ∃ υ s t φ y z α, aC l1v3 l1v4 μ κ z1v5 ζ η z1v8 l1v9 θ ι p1 (g : Int) p2 v π τ ν ξ υ s t φ y z α ∧ ((k = 0) → ∃ b1_13, aO v v b1_13 ∧ ((b1_13 = true) → ∃ r1_14 r1_15, ∃ (χ : (List ((Int × (List UInt8)) × ac))), ∃ (ψ : (List ((Int × Int) × aa))), ∃ n1_18 β γ n1_21 r1_22 n1_23 n1_24, ao π τ ν ξ υ s t φ y z α 6 [(g : Int)] r1_14 r1_15 χ ψ n1_18 β γ n1_21 r1_22 n1_23 n1_24 ∧ g + 1 ≤ 9223372036854775807 ∧ L0_typing_checker_list m p1 p2 ψ χ r1_14 r1_15 n1_18 β γ n1_21 r1_22 n1_23 n1_24 v.simple v.lists (g + 1) r0 ο i q f l r n a e b d) ∧ ((b1_13 = false) → g + 1 ≤ 9223372036854775807 ∧ L0_typing_checker_list m p1 p2 ξ ν π τ υ s t φ y z α v.simple v.lists (g + 1) r0 ο i q f l r n a e b d)) ∧ ((k ≠ 0) → ∃ b1_25, aO v (ac.mk k o) b1_25 ∧ ((b1_25 = true) → ∃ r1_26 r1_27, ∃ (ω : (List ((Int × (List UInt8)) × ac))), ∃ (r1_29 : (List ((Int × Int) × aa))), ∃ n1_30 δ ε n1_33 r1_34 n1_35 n1_36, ao π τ ν ξ υ s t φ y z α 6 [(g : Int)] r1_26 r1_27 ω r1_29 n1_30 δ ε n1_33 r1_34 n1_35 n1_36 ∧ g + 1 ≤ 9223372036854775807 ∧ L0_typing_checker_list m p1 p2 r1_29 ω r1_26 r1_27 n1_30 δ ε n1_33 r1_34 n1_35 n1_36 k o (g + 1) r0 ο i q f l r n a e b d) ∧ ((b1_25 = false) → g + 1 ≤ 9223372036854775807 ∧ L0_typing_checker_list m p1 p2 ξ ν π τ υ s t φ y z α k o (g + 1) r0 ο i q f l r n a e b d))) ∧ ((¬ g < p1.kids.length) → ((k ≠ 0) → InI (o + 1) ∧ (ac.mk k (o + 1)) = r0 ∧ l1v3 = ο ∧ l1v4 = i ∧ μ = q ∧ κ = f ∧ z1v5 = l ∧ ζ = r ∧ η = n ∧ z1v8 = a ∧ l1v9 = e ∧ θ = b ∧ ι = d) ∧ ((k = 0) → (ac.mk k o) = r0 ∧ l1v3 = ο ∧ l1v4 = i ∧ μ = q ∧ κ = f ∧ z1v5 = l ∧ ζ = r ∧ η = n ∧ z1v8 = a ∧ l1v9 = e ∧ θ = b ∧ ι = d))) : L0_typing_checker_list (m + 1) p1 p2 κ μ l1v3 l1v4 z1v5 ζ η z1v8 l1v9 θ ι k o g r0 ο i q f l r n a e b d := by
 intro K j1 hK hj1
 obtain ⟨j1, rfl⟩ : ∃ j, j1 = j + 1 := ⟨j1 - 1, by omega⟩
 refine gR 6 rfl <| gB 14 rfl rfl rfl ?_ ?_ <;> intro hd
 replace hd := (dn hd)
 replace h := h.1 hd
 refine gR 17 rfl ?_
 obtain ⟨v, π, τ, ν, ξ, υ, s, t, φ, y, z, α, hs12, h⟩ := h
 refine gCZ hs12 [0, 1, 2, 5, 6] ⟨⟨_, rfl, ⟨rfl, rfl, (vF _ η).symm⟩⟩, ⟨⟨_, rfl, ⟨rfl, rfl, (vD _ ζ).symm⟩⟩, ⟨⟨_, rfl, ⟨rfl, rfl, rfl, rfl⟩⟩, ⟨⟨_, rfl, ⟨rfl, rfl, rfl, rfl⟩⟩, ⟨⟨_, rfl, ⟨rfl, an.rfl⟩⟩, trivial⟩⟩⟩⟩⟩ ?_
 refine gHR 10 (List.map (V.int .i64) s) rfl (vD _ s) rfl <| gHR 11 (List.map ae.w t) rfl (vF _ t) rfl <| gHn ⟨13, [(11, .row 42 3 (List.map ae.w t)), (10, .row 3 1 (List.map (V.int .i64) s)), (4, vB k o), (3, vB 0 0), (2, .mp 84 81 (List.map (fun p => (fun x => V.agg [(V.int .i64 x.1), (V.int .i64 x.2)]) p.1) ξ) (List.map (fun p => aa.w p.2) ξ)), (1, .mp 137 61 (List.map (fun p => (fun x => V.agg [(V.int .i64 x.1), (V.str x.2)]) p.1) ν) (List.map (fun p => ac.w p.2) ν)), (0, .var 63 [.row 4 (kidsV π), .row 5 (List.map GTarget.w τ), .sl 1, .sl 2, .int .i64 υ, .sl 10, .sl 11, .int .i64 φ, .row 1 (List.map (V.int .i64) y), .int .i64 z, .int .i64 α])]⟩ rfl ⟨rfl, rfl, rfl, rfl, rfl, rfl, rfl, trivial⟩ ?_
 refine gR 12 rfl <| gB 23 rfl rfl rfl ?_ ?_ <;> intro hd
 replace hd := (eq_of_beq hd)
 replace h := h.1 hd
 refine gR 10 rfl ?_
 obtain ⟨b1_13, hs13, h⟩ := h
 refine gC0 hs13 (by kernel_rfl) rfl rfl .rfl rfl <| gR 2 rfl <| gB 27 rfl rfl rfl ?_ ?_ <;> intro hd
 replace h := h.1 hd
 refine gR 5 rfl <| gFR 14 rfl rfl rfl rfl ?_
 obtain ⟨r1_14, r1_15, χ, ψ, n1_18, β, γ, n1_21, r1_22, n1_23, n1_24, hs14, h⟩ := h
 refine gCZ hs14 [0, 1, 2, 10, 11] ⟨⟨_, rfl, ⟨rfl, rfl, (vF _ t).symm⟩⟩, ⟨⟨_, rfl, ⟨rfl, rfl, (vD _ s).symm⟩⟩, ⟨⟨_, rfl, ⟨rfl, rfl, rfl, rfl⟩⟩, ⟨⟨_, rfl, ⟨rfl, rfl, rfl, rfl⟩⟩, ⟨⟨_, rfl, ⟨rfl, an.rfl⟩⟩, trivial⟩⟩⟩⟩⟩ ?_
 refine gHR 18 (List.map (V.int .i64) β) rfl (vD _ β) rfl <| gHR 19 (List.map ae.w γ) rfl (vF _ γ) rfl <| gHn ⟨20, [(19, .row 42 3 (List.map ae.w γ)), (18, .row 3 1 (List.map (V.int .i64) β)), (13, .var 61 (ac.c v)), (4, .var 61 (ac.c v)), (3, vB 0 0), (2, .mp 84 81 (List.map (fun p => (fun x => V.agg [(V.int .i64 x.1), (V.int .i64 x.2)]) p.1) ψ) (List.map (fun p => aa.w p.2) ψ)), (1, .mp 137 61 (List.map (fun p => (fun x => V.agg [(V.int .i64 x.1), (V.str x.2)]) p.1) χ) (List.map (fun p => ac.w p.2) χ)), (0, .var 63 [.row 4 (kidsV r1_14), .row 5 (List.map GTarget.w r1_15), .sl 1, .sl 2, .int .i64 n1_18, .sl 18, .sl 19, .int .i64 n1_21, .row 1 (List.map (V.int .i64) r1_22), .int .i64 n1_23, .int .i64 n1_24])]⟩ rfl ⟨rfl, rfl, rfl, rfl, rfl, rfl, rfl, rfl, trivial⟩ ?_
 refine gR 4 rfl ?_
 obtain ⟨hb, h⟩ := h
 exact gR 1 rfl <| gV 32 (.int .i64 ((g + 1 : Nat) : Int)) rfl (ax (by omega) (by omega)) rfl <| gR 2 rfl <| go_xloop <| gJ (h K _ hK (by omega)) [0, 1, 2, 3, 4, 18, 19] [2, 1, 0] rfl hK pq7 ⟨⟨_, rfl, rfl, rfl, (vF _ γ).symm⟩, ⟨_, rfl, rfl, rfl, (vD _ β).symm⟩, pqo rfl rfl, pqo rfl rfl, ⟨_, rfl, rfl, rfl, rfl, rfl⟩, ⟨_, rfl, rfl, rfl, rfl, rfl⟩, (pqo1 rfl rfl)⟩ rfl
 replace h := h.2 hd
 refine gR 5 rfl ?_
 obtain ⟨hb, h⟩ := h
 exact gR 1 rfl <| gV 32 (.int .i64 ((g + 1 : Nat) : Int)) rfl (ax (by omega) (by omega)) rfl <| gR 2 rfl <| go_xloop <| gJ (h K _ hK (by omega)) [0, 1, 2, 3, 4, 10, 11] [2, 1, 0] rfl hK pq7 ⟨⟨_, rfl, rfl, rfl, (vF _ t).symm⟩, ⟨_, rfl, rfl, rfl, (vD _ s).symm⟩, pqo rfl rfl, pqo rfl rfl, ⟨_, rfl, rfl, rfl, rfl, rfl⟩, ⟨_, rfl, rfl, rfl, rfl, rfl⟩, (pqo1 rfl rfl)⟩ rfl
 replace hd := (ne_of_beq_false hd)
 replace h := h.2 hd
 refine gR 7 rfl ?_
 obtain ⟨b1_25, hs15, h⟩ := h
 refine gC0 hs15 (by kernel_rfl) rfl rfl .rfl rfl <| gR 2 rfl <| gB 27 rfl rfl rfl ?_ ?_ <;> intro hd
 replace h := h.1 hd
 refine gR 5 rfl <| gFR 14 rfl rfl rfl rfl ?_
 obtain ⟨r1_26, r1_27, ω, r1_29, n1_30, δ, ε, n1_33, r1_34, n1_35, n1_36, hs16, h⟩ := h
 refine gCZ hs16 [0, 1, 2, 10, 11] ⟨⟨_, rfl, ⟨rfl, rfl, (vF _ t).symm⟩⟩, ⟨⟨_, rfl, ⟨rfl, rfl, (vD _ s).symm⟩⟩, ⟨⟨_, rfl, ⟨rfl, rfl, rfl, rfl⟩⟩, ⟨⟨_, rfl, ⟨rfl, rfl, rfl, rfl⟩⟩, ⟨⟨_, rfl, ⟨rfl, an.rfl⟩⟩, trivial⟩⟩⟩⟩⟩ ?_
 refine gHR 18 (List.map (V.int .i64) δ) rfl (vD _ δ) rfl <| gHR 19 (List.map ae.w ε) rfl (vF _ ε) rfl <| gHn ⟨20, [(19, .row 42 3 (List.map ae.w ε)), (18, .row 3 1 (List.map (V.int .i64) δ)), (13, .var 61 (ac.c v)), (4, vB k o), (3, vB 0 0), (2, .mp 84 81 (List.map (fun p => (fun x => V.agg [(V.int .i64 x.1), (V.int .i64 x.2)]) p.1) r1_29) (List.map (fun p => aa.w p.2) r1_29)), (1, .mp 137 61 (List.map (fun p => (fun x => V.agg [(V.int .i64 x.1), (V.str x.2)]) p.1) ω) (List.map (fun p => ac.w p.2) ω)), (0, .var 63 [.row 4 (kidsV r1_26), .row 5 (List.map GTarget.w r1_27), .sl 1, .sl 2, .int .i64 n1_30, .sl 18, .sl 19, .int .i64 n1_33, .row 1 (List.map (V.int .i64) r1_34), .int .i64 n1_35, .int .i64 n1_36])]⟩ rfl ⟨rfl, rfl, rfl, rfl, rfl, rfl, rfl, rfl, trivial⟩ ?_
 refine gR 4 rfl ?_
 obtain ⟨hb, h⟩ := h
 exact gR 1 rfl <| gV 32 (.int .i64 ((g + 1 : Nat) : Int)) rfl (ax (by omega) (by omega)) rfl <| gR 2 rfl <| go_xloop <| gJ (h K _ hK (by omega)) [0, 1, 2, 3, 4, 18, 19] [2, 1, 0] rfl hK pq7 ⟨⟨_, rfl, rfl, rfl, (vF _ ε).symm⟩, ⟨_, rfl, rfl, rfl, (vD _ δ).symm⟩, pqo rfl rfl, pqo rfl rfl, ⟨_, rfl, rfl, rfl, rfl, rfl⟩, ⟨_, rfl, rfl, rfl, rfl, rfl⟩, (pqo1 rfl rfl)⟩ rfl
 replace h := h.2 hd
 refine gR 5 rfl ?_
 obtain ⟨hb, h⟩ := h
 exact gR 1 rfl <| gV 32 (.int .i64 ((g + 1 : Nat) : Int)) rfl (ax (by omega) (by omega)) rfl <| gR 2 rfl <| go_xloop <| gJ (h K _ hK (by omega)) [0, 1, 2, 3, 4, 10, 11] [2, 1, 0] rfl hK pq7 ⟨⟨_, rfl, rfl, rfl, (vF _ t).symm⟩, ⟨_, rfl, rfl, rfl, (vD _ s).symm⟩, pqo rfl rfl, pqo rfl rfl, ⟨_, rfl, rfl, rfl, rfl, rfl⟩, ⟨_, rfl, rfl, rfl, rfl, rfl⟩, (pqo1 rfl rfl)⟩ rfl
 replace hd := (dp hd)
 replace h := h.2 hd
 refine gR 3 rfl <| go_xloopE <| gR 10 rfl <| gB 35 rfl rfl rfl ?_ ?_ <;> intro hd
 replace hd := (eG hd)
 replace h := h.1 hd
 refine gR 4 rfl ?_
 obtain ⟨hb, h⟩ := h
 refine gR 1 rfl <| gV 38 (.int .i64 (o + 1)) rfl (ax hb rfl) rfl <| gR 11 rfl ?_
 obtain ⟨rfl, rfl, rfl, rfl, rfl, rfl, rfl, rfl, rfl, rfl, rfl, rfl⟩ := h
 refine go_sub (F' := (mkF 41 0 [(6, .ptr 5 0)])) (H' := ⟨6, [(5, .var 61 (ac.c (ac.mk k (o + 1)))), (4, .row 42 3 (List.map ae.w η)), (3, .row 3 1 (List.map (V.int .i64) ζ)), (2, .mp 84 81 (List.map (fun p => (fun x => V.agg [(V.int .i64 x.1), (V.int .i64 x.2)]) p.1) κ) (List.map (fun p => aa.w p.2) κ)), (1, .mp 137 61 (List.map (fun p => (fun x => V.agg [(V.int .i64 x.1), (V.str x.2)]) p.1) μ) (List.map (fun p => ac.w p.2) μ)), (0, vA l1v3 (.row 5 (List.map GTarget.w l1v4)) z1v5 z1v8 l1v9 θ ι)]⟩) [0, 1, 2, 5, 6, 3] [2, 1, 0] rfl hK pq1 ⟨pqo rfl rfl, ⟨_, rfl, rfl, rfl, (vF _ η).symm⟩, ⟨_, rfl, rfl, rfl, (vD _ ζ).symm⟩, ⟨_, rfl, rfl, rfl, rfl, rfl⟩, ⟨_, rfl, rfl, rfl, rfl, rfl⟩, (pqo1 rfl rfl)⟩ rfl ?_
 exact go_endD [5] ah (rs := [.cell 6 61]) rfl rfl ⟨rfl, rfl⟩
 replace hd := (dj hd)
 replace h := h.2 hd
 refine gR 10 rfl ?_
 obtain ⟨rfl, rfl, rfl, rfl, rfl, rfl, rfl, rfl, rfl, rfl, rfl, rfl⟩ := h
 refine go_sub (F' := (mkF 41 0 [(6, .ptr 5 0)])) (H' := ⟨6, [(5, .var 61 (ac.c (ac.mk k o))), (4, .row 42 3 (List.map ae.w η)), (3, .row 3 1 (List.map (V.int .i64) ζ)), (2, .mp 84 81 (List.map (fun p => (fun x => V.agg [(V.int .i64 x.1), (V.int .i64 x.2)]) p.1) κ) (List.map (fun p => aa.w p.2) κ)), (1, .mp 137 61 (List.map (fun p => (fun x => V.agg [(V.int .i64 x.1), (V.str x.2)]) p.1) μ) (List.map (fun p => ac.w p.2) μ)), (0, vA l1v3 (.row 5 (List.map GTarget.w l1v4)) z1v5 z1v8 l1v9 θ ι)]⟩) [0, 1, 2, 5, 6, 3] [2, 1, 0] rfl hK pq1 ⟨pqo rfl rfl, ⟨_, rfl, rfl, rfl, (vF _ η).symm⟩, ⟨_, rfl, rfl, rfl, (vD _ ζ).symm⟩, ⟨_, rfl, rfl, rfl, rfl, rfl⟩, ⟨_, rfl, rfl, rfl, rfl, rfl⟩, (pqo1 rfl rfl)⟩ rfl ?_
 exact go_endD [5] ah (rs := [.cell 6 61]) rfl rfl ⟨rfl, rfl⟩
end Go.Proofs.YtkkkpdbnnjoepaaGreatDoor
