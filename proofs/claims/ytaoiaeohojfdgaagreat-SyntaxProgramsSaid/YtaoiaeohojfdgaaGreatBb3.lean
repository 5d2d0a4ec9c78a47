/- Contracts of the functions that the law reaches, part 3. -/
import Derived.Test.YtaoiaeohojfdgaaGreatBb2
set_option linter.unusedVariables false
set_option linter.unusedSimpArgs false
namespace Go.Proofs.YtaoiaeohojfdgaaGreat
open Go.RowKit Lx Sx
set_option maxRecDepth 100000
set_option maxHeartbeats 4000000
structure aa where
 Lead : (List UInt8)
 Text : (List UInt8)
abbrev aa.c (x : aa) : List V := [.str x.Lead, .str x.Text]
abbrev aa.w (x : aa) : V := .agg x.c
abbrev vC (a0 : List Int) (a1 : Int) : Ob := .var 86 [.row 1 (List.map (V.int .i64) a0), .int .i64 a1]
abbrev vB (a0 : Int) (a1 : List UInt8) : Ob := .var 25 [.int .i64 a0, .str a1, .nils, .nils]
abbrev vF (a0 : Int) (a1 : List UInt8) (a2 : List (List UInt8)) (a3 : List Tree) : Ob := .var 25 [.int .i64 a0, .str a1, .row 1 (List.map V.str a2), .row 4 (kidsV a3)]
abbrev vG (a0 : Int) (a1 : List UInt8) : Ob := .var 25 [.int .i64 a0, .str a1, .sl 3, .sl 4]
theorem vK (σ : List Nat) (l) : renL σ (List.map V.str l) = List.map V.str l := zA σ V.str (fun _ => rfl) l
abbrev vH (a0 : Int) (a1 : List UInt8) : Ob := .var 25 [.int .i64 a0, .str a1, .sl 3, .nils]
theorem vL (σ : List Nat) (l) : renL σ (List.map aa.w l) = List.map aa.w l := zA σ aa.w (fun _ => rfl) l
def jC (p0 : List UInt8) (p1 r0 : Bool) : Prop := qS 66 [.str p0, .bool p1] (.bool r0)
def jJ (p0 p1 : List UInt8) (r0 : Bool) : Prop := qS 42 [.str p0, .str p1] (.bool r0)
def mj (p0 p1 r0 : Int) : Prop := qS 59 [.int .i64 p0, .int .i64 p1] (.int .i64 r0)
def oA (p0 b : List Int) (a : Int) : Prop := bS [] Tryz.prog 31 [.row 1 (List.map (V.int .i64) p0)] ⟨0, []⟩ (fun u G => u = .ptr 0 0 ∧ G = ⟨1, [(0, vC b a)]⟩)
def jY (p0 : List Int) (r0 : Bool) : Prop := qS 13 [.row 1 (List.map (V.int .i64) p0)] (.bool r0)
def bp (c : List Int) (a : Int) (p1 : (List (List UInt8))) (r0 : List UInt8) (d : List Int) (b : Int) : Prop := bS [] Tryz.prog 89 [.ptr 0 0, .row 1 (List.map V.str p1)] ⟨1, [(0, vC c a)]⟩ (fun u G => u = .str r0 ∧ G = ⟨1, [(0, vC d b)]⟩)
def cO (c : List Int) (a p1 : Int) (r0 : Tree) (d : List Int) (b : Int) : Prop := bS [] Tryz.prog 90 [.ptr 0 0, .int .i64 p1] ⟨1, [(0, vC c a)]⟩ (fun u G => u = .agg (ai r0) ∧ G = ⟨2, [(0, vC d b)]⟩)
def ef (c : List Int) (a p1 : Int) (r0 : Tree) (d : List Int) (b : Int) : Prop := bS [] Tryz.prog 112 [.ptr 0 0, .int .i64 p1] ⟨1, [(0, vC c a)]⟩ (fun u G => u = .agg (ai r0) ∧ G = ⟨2, [(0, vC d b)]⟩)
def aU (c : List Int) (a p1 : Int) (r0 : Tree) (d : List Int) (b : Int) : Prop := bS [] Tryz.prog 91 [.ptr 0 0, .int .i64 p1] ⟨1, [(0, vC c a)]⟩ (fun u G => u = .agg (ai r0) ∧ G = ⟨2, [(0, vC d b)]⟩)
def me (c : List Int) (a : Int) (r0 : Tree) (d : List Int) (b : Int) : Prop := bS [] Tryz.prog 60 [.ptr 0 0] ⟨1, [(0, vC c a)]⟩ (fun u G => u = .agg (ai r0) ∧ G = ⟨2, [(0, vC d b)]⟩)
def gQ (c : List Int) (a : Int) (p1 r0 : Tree) (d : List Int) (b : Int) : Prop := bS [] Tryz.prog 62 [.ptr 0 0, .agg (ai p1)] ⟨1, [(0, vC c a)]⟩ (fun u G => u = .agg (ai r0) ∧ G = ⟨2, [(0, vC d b)]⟩)
def jI (c : List Int) (a : Int) (p1 : List UInt8) (r0 : Tree) (d : List Int) (b : Int) : Prop := bS [] Tryz.prog 33 [.ptr 0 0, .str p1] ⟨1, [(0, vC c a)]⟩ (fun u G => u = .agg (ai r0) ∧ G = ⟨2, [(0, vC d b)]⟩)
def jv (p0 : List Int) (r0 : List Tree) : Prop := qS 14 [.row 1 (List.map (V.int .i64) p0)] (.row 4 (kidsV r0))
def aK (c : List Int) (a p1 r0 : Int) (d : List Int) (b : Int) : Prop := bS [] Tryz.prog 32 [.ptr 0 0, .int .i64 p1] ⟨1, [(0, vC c a)]⟩ (fun u G => u = .int .i64 r0 ∧ G = ⟨1, [(0, vC d b)]⟩)
def jw (p0 : Int) (r0 : (List (List UInt8))) : Prop := bS [] Tryz.prog 113 [.int .i64 p0] ⟨0, []⟩ (fun u G => u = .sl 0 ∧ G = ⟨1, [(0, .row 9 1 (List.map V.str r0))]⟩)
def jz (p0 : Tree) (p1 : Int) (p2 r0 : List UInt8) : Prop := qS 114 [.agg (ai p0), .int .i64 p1, .str p2] (.str r0)
def fx (p0 : Tree) (p1 : List UInt8) (r0 : Tree) : Prop := qS 92 [.agg (ai p0), .str p1] (.agg (ai r0))
def iO (p0 r0 : Tree) : Prop := qS 61 [.agg (ai p0)] (.agg (ai r0))
def dB (p0 : Tree) (r0 : Bool) : Prop := qS 7 [.agg (ai p0)] (.bool r0)
def ep (p0 : Tree) (r0 : Bool) : Prop := qS 19 [.agg (ai p0)] (.bool r0)
def gp (p0 : Tree) (r0 : Bool) : Prop := qS 40 [.agg (ai p0)] (.bool r0)
def fL (p0 : Tree) (r0 : Bool) : Prop := qS 20 [.agg (ai p0)] (.bool r0)
def ew (p0 : Tree) (r0 : Int) : Prop := qS 21 [.agg (ai p0)] (.int .i64 r0)
def jM (p0 : Tree) (r0 : List UInt8) : Prop := qS 22 [.agg (ai p0)] (.str r0)
def jq (p0 : Tree) (r0 : List aa) : Prop := qS 41 [.agg (ai p0)] (.row 2 (List.map aa.w r0))
def al (p0 : List aa) (p1 : Tree) (r0 : List aa) : Prop := bS [] Tryz.prog 67 [.sl 0, .agg (ai p1)] ⟨1, [(0, .row 60 2 (List.map aa.w p0))]⟩ (fun u G => u = .sl 1 ∧ G = ⟨2, [(1, .row 60 2 (List.map aa.w r0))]⟩)
def ee (p0 : List aa) (p1 : Tree) (p2 p3 p4 : Int) (r0 : List aa) : Prop := bS [] Tryz.prog 100 [.sl 0, .agg (ai p1), .int .i64 p2, .int .i64 p3, .int .i64 p4] ⟨1, [(0, .row 60 2 (List.map aa.w p0))]⟩ (fun u G => u = .sl 1 ∧ G = ⟨2, [(1, .row 60 2 (List.map aa.w r0))]⟩)
def ak (p0 : Tree) (p1 : Int) (r0 : List UInt8) : Prop := qS 99 [.agg (ai p0), .int .i64 p1] (.str r0)
theorem ox (m : Nat) (p0 p1 r0 : Int) (h : p1 ≠ 0 ∧ (((Int.tmod p0 p1) < 0) → InI ((Int.tmod p0 p1) + p1) ∧ ((Int.tmod p0 p1) + p1) = r0) ∧ ((¬ (Int.tmod p0 p1) < 0) → (Int.tmod p0 p1) = r0)) : mj p0 p1 r0 := by
 refine ⟨rfl, rfl, ?_⟩
 refine am 14 [] Tryz.func59 rfl rfl rfl (aM rfl) fun K hK => ?_
 refine gR 9 rfl ?_
 obtain ⟨hb, h⟩ := h
 refine gY (GJ rfl rfl hb) rfl rfl <| gR 10 rfl <| qBd 9 rfl rfl rfl h (fun h => ?_) fun h => ?_
 refine gR 4 rfl ?_
 obtain ⟨hb, h⟩ := h
 refine gR 1 rfl <| gV 12 (.int .i64 ((Int.tmod p0 p1) + p1)) rfl (ax hb rfl) rfl <| gR 10 rfl ?_
 subst h
 exact go_end ab (rs := [.tmp 4]) rfl rfl rfl
 refine gR 10 rfl ?_
 subst h
 exact go_end ab (rs := [.tmp 4]) rfl rfl rfl
theorem sp (m : Nat) (p0 b : List Int) (a : Int) (h : p0.length ≤ 1000000000 ∧ p0 = b ∧ 0 = a) : oA p0 b a := by
 refine am 8 [] Tryz.func31 rfl rfl rfl (aM rfl) fun K hK => ?_
 refine gR 9 rfl ?_
 obtain ⟨hb, h⟩ := h
 refine gDo (.repl 0 (.row 3 1 (List.map (V.int .i64) p0))) (bm ab rfl rfl rfl rfl rfl (List.nil_append _) (by rw [aZ]; exact hb)) (okR rfl) rfl rfl rfl <| gR 6 rfl <| gFR 1 rfl (cb _ (fun _ => rfl) _) rfl rfl ?_
 obtain ⟨rfl, rfl⟩ := h
 exact go_sub (F' := (mkF 8 0 [(2, .ptr 0 0)])) (H' := ⟨1, [(0, vC p0 0)]⟩) [2] [] rfl hK pq1 (pqo1 rfl rfl) rfl <| go_endD [] ab (rs := [.tmp 2]) rfl rfl ⟨rfl, rfl⟩
theorem rK (m : Nat) (p0 : List Int) (r0 : Bool) (h : decide ((p0.length : Int) ≤ 120) = r0) : jY p0 r0 := by
 refine ⟨rfl, rfl, ?_⟩
 refine am 6 [] Tryz.func13 rfl rfl rfl (aM rfl) fun K hK => ?_
 refine gR 9 rfl <| gV 4 (.int .i64 (p0.length : Int)) rfl (bx (aZ (V.int .i64) _)) rfl <| gLB 3 rfl (aZ (V.int .i64) _) fun hl2 => gR 5 rfl ?_
 subst h
 exact go_end ab (rs := [.tmp 2]) rfl rfl rfl
theorem rX (m : Nat) (j : List Int) (e : Int) (p1 : (List (List UInt8))) (r0 : List UInt8) (k : List Int) (g : Int) (h : ∃ i a b, aK j e (p1.length : Int) i a b ∧ ∃ c, i = ((c : Nat) : Int) ∧ ∃ d, p1[c]? = some d ∧ d = r0 ∧ a = k ∧ b = g) : bp j e p1 r0 k g := by
 refine am 12 [0] Tryz.func89 rfl rfl rfl (aM rfl) fun K hK => ?_
 refine gR 11 rfl <| gV 8 (.int .i64 (p1.length : Int)) rfl (bx (aZ V.str _)) rfl <| gLB 7 rfl (aZ V.str _) fun hl3 => ?_
 obtain ⟨i, a, b, hs4, h⟩ := h
 refine gCY hs4 [0] ?_
 obtain ⟨c, l, h⟩ := h
 refine gV 9 (.int .i64 ((c : Nat) : Int)) rfl (fP l) rfl ?_
 obtain ⟨d, hxs0_5, h⟩ := h
 refine gY (az (mapget (f := V.str) hxs0_5) ab rfl rfl rfl rfl) rfl rfl <| gR 5 rfl ?_
 obtain ⟨rfl, rfl, rfl⟩ := h
 exact go_sub (F' := (mkF 12 0 [(4, .str d)])) (H' := ⟨1, [(0, vC a b)]⟩) [0] [0] rfl hK pq1 (pqo1 rfl rfl) rfl <| go_endD [] ab (rs := [.tmp 4]) rfl rfl ⟨rfl, rfl⟩
def fJ (m : Nat) (p1 b : Int) (c : List Int) (d : Int) (e : Bool) (r0 : Tree) (f : List Int) (a : Int) : Prop := ∀ (K : Ctx), av K [0] → qLG K Tryz.f90 (fun u G => u = .agg (ai r0) ∧ G = ⟨2, [(0, vC f a)]⟩) (cB (xF (cB (ac Tryz.f90)))) [.blk 0, .seq (xA (ac Tryz.f90))] 32 (mkF 32 0 [(0, .ptr 0 0), (1, .int .i64 p1), (4, .ptr 1 0), (6, .int .i64 b), (7, .bool e)]) ⟨2, [(1, vB 0 []), (0, vC c d)]⟩
theorem iG (m : Nat) (g : List Int) (e p1 : Int) (r0 : Tree) (f : List Int) (b : Int) (h : ∃ a c d, aK g e 7 a c d ∧ ((a = 0) → fJ m p1 a c d true r0 f b) ∧ ((a ≠ 0) → fJ m p1 a c d (a == 1) r0 f b)) : cO g e p1 r0 f b := by
 refine am 32 [0] Tryz.func90 rfl rfl rfl (aM rfl) fun K hK => ?_
 refine gR 9 rfl ?_
 obtain ⟨a, c, d, hs8, h⟩ := h
 refine gCY hs8 [0] ?_
 refine gR 10 rfl <| qBeZ 7 8 rfl rfl rfl rfl h (fun h => ?_) fun h => ?_
 exact gR 3 rfl <| gJ (h K hK) [0, 1] [0] rfl hK pq5 (pqo2 rfl rfl rfl rfl) rfl
 exact gR 6 rfl <| gJ (h K hK) [0, 1] [0] rfl hK pq5 (pqo2 rfl rfl rfl rfl) rfl
theorem bB (m : Nat) (p1 e : Int) (a : List Int) (b : Int) (n : Bool) (r0 : Tree) (f : List Int) (c : Int) (h : ((n = true) → (Tree.node 5 [] [] []) = r0 ∧ a = f ∧ b = c) ∧ ((n = false) → ((e = 2) → (Tree.node 7 [] [] []) = r0 ∧ a = f ∧ b = c) ∧ ((e ≠ 2) → ((e = 3) → (Tree.node 6 [] [] []) = r0 ∧ a = f ∧ b = c) ∧ ((e ≠ 3) → ((e = 4) → ∃ g i j, bp a b [[84], [85], [65, 46, 84], [66, 46, 85]] g i j ∧ (Tree.node 9 g [] []) = r0 ∧ i = f ∧ j = c) ∧ ((e ≠ 4) → ((p1 < 1) → (Tree.node 5 [] [] []) = r0 ∧ a = f ∧ b = c) ∧ ((¬ p1 < 1) → InI (p1 - 1) ∧ ∃ d k l, cO a b (p1 - 1) d k l ∧ (Tree.node 8 [] [] [d]) = r0 ∧ k = f ∧ l = c)))))) : fJ (m + 1) p1 e a b n r0 f c := by
 intro K hK
 refine qBi 7 rfl rfl rfl h (fun h => ?_) fun h => ?_
 refine gR 10 rfl ?_
 obtain ⟨rfl, rfl, rfl⟩ := h
 exact go_sub (F' := (mkF 32 0 [(4, .ptr 1 0)])) (H' := ⟨2, [(1, vF ((Tree.node 5 [] [] []).kind) ((Tree.node 5 [] [] []).text) ((Tree.node 5 [] [] []).leads) ((Tree.node 5 [] [] []).kids)), (0, vC a b)]⟩) [0, 1] [0] rfl hK pq1 ⟨⟨_, rfl, rfl, (.cons .rfl (.cons .rfl (.cons (.nil 1) (.cons (.nil 4) .nil))))⟩, (pqo1 rfl rfl)⟩ rfl <| go_endD [1] ab (rs := [.cell 4 25]) rfl rfl ⟨rfl, rfl⟩
 refine gR 7 rfl <| qBeZ 11 12 rfl rfl rfl rfl h (fun h => ?_) fun h => ?_
 refine gR 10 rfl ?_
 obtain ⟨rfl, rfl, rfl⟩ := h
 exact go_sub (F' := (mkF 32 0 [(4, .ptr 1 0)])) (H' := ⟨2, [(1, vF ((Tree.node 7 [] [] []).kind) ((Tree.node 7 [] [] []).text) ((Tree.node 7 [] [] []).leads) ((Tree.node 7 [] [] []).kids)), (0, vC a b)]⟩) [0, 1] [0] rfl hK pq1 ⟨⟨_, rfl, rfl, (.cons .rfl (.cons .rfl (.cons (.nil 1) (.cons (.nil 4) .nil))))⟩, (pqo1 rfl rfl)⟩ rfl <| go_endD [1] ab (rs := [.cell 4 25]) rfl rfl ⟨rfl, rfl⟩
 refine gR 7 rfl <| qBeZ 14 15 rfl rfl rfl rfl h (fun h => ?_) fun h => ?_
 refine gR 10 rfl ?_
 obtain ⟨rfl, rfl, rfl⟩ := h
 exact go_sub (F' := (mkF 32 0 [(4, .ptr 1 0)])) (H' := ⟨2, [(1, vF ((Tree.node 6 [] [] []).kind) ((Tree.node 6 [] [] []).text) ((Tree.node 6 [] [] []).leads) ((Tree.node 6 [] [] []).kids)), (0, vC a b)]⟩) [0, 1] [0] rfl hK pq1 ⟨⟨_, rfl, rfl, (.cons .rfl (.cons .rfl (.cons (.nil 1) (.cons (.nil 4) .nil))))⟩, (pqo1 rfl rfl)⟩ rfl <| go_endD [1] ab (rs := [.cell 4 25]) rfl rfl ⟨rfl, rfl⟩
 refine gR 7 rfl <| qBeZ 17 18 rfl rfl rfl rfl h (fun h => ?_) fun h => ?_
 refine gR 5 rfl <| gFR 2 rfl rfl rfl rfl ?_
 obtain ⟨g, i, j, hs9, h⟩ := h
 refine gCY hs9 [0] ?_
 refine gR 7 rfl ?_
 obtain ⟨rfl, rfl, rfl⟩ := h
 exact go_sub (F' := (mkF 32 0 [(4, .ptr 1 0)])) (H' := ⟨2, [(1, vF ((Tree.node 9 g [] []).kind) ((Tree.node 9 g [] []).text) ((Tree.node 9 g [] []).leads) ((Tree.node 9 g [] []).kids)), (0, vC i j)]⟩) [0, 1] [0] rfl hK pq1 ⟨⟨_, rfl, rfl, (.cons .rfl (.cons .rfl (.cons (.nil 1) (.cons (.nil 4) .nil))))⟩, (pqo1 rfl rfl)⟩ rfl <| go_endD [1] ab (rs := [.cell 4 25]) rfl rfl ⟨rfl, rfl⟩
 refine gR 11 rfl <| qBd 24 rfl rfl rfl h (fun h => ?_) fun h => ?_
 refine gR 9 rfl ?_
 obtain ⟨rfl, rfl, rfl⟩ := h
 exact go_sub (F' := (mkF 32 0 [(4, .ptr 1 0)])) (H' := ⟨2, [(1, vF ((Tree.node 5 [] [] []).kind) ((Tree.node 5 [] [] []).text) ((Tree.node 5 [] [] []).leads) ((Tree.node 5 [] [] []).kids)), (0, vC a b)]⟩) [0, 1] [0] rfl hK pq1 ⟨⟨_, rfl, rfl, (.cons .rfl (.cons .rfl (.cons (.nil 1) (.cons (.nil 4) .nil))))⟩, (pqo1 rfl rfl)⟩ rfl <| go_endD [1] ab (rs := [.cell 4 25]) rfl rfl ⟨rfl, rfl⟩
 refine gR 7 rfl ?_
 obtain ⟨hb, h⟩ := h
 refine gR 1 rfl <| gV 28 (.int .i64 (p1 - 1)) rfl (ax hb rfl) rfl ?_
 obtain ⟨d, k, l, hs10, h⟩ := h
 refine gCY hs10 [0] ?_
 refine gR 1 rfl <| gHR 4 (kidsV [d]) rfl (cI d) rfl <| gR 5 rfl <| gFR 4 rfl (bo _) rfl rfl ?_
 obtain ⟨rfl, rfl, rfl⟩ := h
 exact go_sub (F' := (mkF 32 0 [(4, .ptr 1 0)])) (H' := ⟨2, [(1, vF ((Tree.node 8 [] [] [d]).kind) ((Tree.node 8 [] [] [d]).text) ((Tree.node 8 [] [] [d]).leads) ((Tree.node 8 [] [] [d]).kids)), (0, vC k l)]⟩) [0, 1] [0] rfl hK pq1 ⟨⟨_, rfl, rfl, (.cons .rfl (.cons .rfl (.cons (.nil 1) (.cons .rfl .nil))))⟩, (pqo1 rfl rfl)⟩ rfl <| go_endD [1] ab (rs := [.cell 4 25]) rfl rfl ⟨rfl, rfl⟩
theorem oo (m : Nat) (i : List Int) (f p1 : Int) (r0 : Tree) (g : List Int) (d : Int) (h : ∃ a b c, aU i f p1 a b c ∧ ∃ e, fR a.kind e ∧ ((e = false) → (Tree.node 22 [] [] [a]) = r0 ∧ b = g ∧ c = d) ∧ ((e = true) → a = r0 ∧ b = g ∧ c = d)) : ef i f p1 r0 g d := by
 refine am 17 [0] Tryz.func112 rfl rfl rfl (aM rfl) fun K hK => ?_
 refine gR 9 rfl ?_
 obtain ⟨a, b, c, hs3, h⟩ := h
 refine gCY hs3 [0] ?_
 refine gR 9 rfl ?_
 obtain ⟨e, hs4, h⟩ := h
 refine gC0 hs4 (by kernel_rfl) rfl rfl .rfl rfl <| gR 3 rfl <| qBh 12 rfl rfl rfl h dr dn (fun h => ?_) fun h => ?_
 refine gR 5 rfl <| gHR 5 (kidsV [a]) rfl (cI a) rfl <| gR 6 rfl <| gFR 5 rfl (bo _) rfl rfl ?_
 obtain ⟨rfl, rfl, rfl⟩ := h
 exact go_sub (F' := (mkF 17 0 [(4, .ptr 1 0)])) (H' := ⟨2, [(1, vF ((Tree.node 22 [] [] [a]).kind) ((Tree.node 22 [] [] [a]).text) ((Tree.node 22 [] [] [a]).leads) ((Tree.node 22 [] [] [a]).kids)), (0, vC b c)]⟩) [0, 1] [0] rfl hK pq1 ⟨⟨_, rfl, rfl, (.cons .rfl (.cons .rfl (.cons (.nil 1) (.cons .rfl .nil))))⟩, (pqo1 rfl rfl)⟩ rfl <| go_endD [1] ab (rs := [.cell 4 25]) rfl rfl ⟨rfl, rfl⟩
 refine gR 10 rfl ?_
 obtain ⟨rfl, rfl, rfl⟩ := h
 exact go_sub (F' := (mkF 17 0 [(4, .ptr 1 0)])) (H' := ⟨2, [(1, vF a.kind a.text a.leads a.kids), (0, vC b c)]⟩) [0, 1] [0] rfl hK pq1 (pqo2 rfl rfl rfl rfl) rfl <| go_endD [1] ab (rs := [.cell 4 25]) rfl rfl ⟨rfl, rfl⟩
def cJ (m : Nat) (p1 : Int) (b : List Int) (c d : Int) (r0 : Tree) (e : List Int) (a : Int) : Prop := ∀ (K : Ctx), av K [0] → qLG K Tryz.f91 (fun u G => u = .agg (ai r0) ∧ G = ⟨2, [(0, vC e a)]⟩) (xH (ac Tryz.f91)) [] 168 (mkF 168 0 [(0, .ptr 0 0), (1, .int .i64 p1), (4, .ptr 1 0), (5, .int .i64 d)]) ⟨2, [(1, vB 0 []), (0, vC b c)]⟩
def kr (m : Nat) (p1 : Int) (b : List Int) (c d : Int) (e : Bool) (r0 : Tree) (f : List Int) (a : Int) : Prop := ∀ (K : Ctx), av K [0] → qLG K Tryz.f91 (fun u G => u = .agg (ai r0) ∧ G = ⟨2, [(0, vC f a)]⟩) (cB (xG (cB (ac Tryz.f91)))) [.blk 0, .seq (xJ (ac Tryz.f91))] 168 (mkF 168 0 [(0, .ptr 0 0), (1, .int .i64 p1), (4, .ptr 1 0), (24, .int .i64 d), (25, .bool e)]) ⟨2, [(1, vB 0 []), (0, vC b c)]⟩
def hO (m : Nat) (p1 : Int) (b : List Int) (c d : Int) (r0 : Tree) (e : List Int) (a : Int) : Prop := ∀ (K : Ctx), av K [0] → qLG K Tryz.f91 (fun u G => u = .agg (ai r0) ∧ G = ⟨2, [(0, vC e a)]⟩) (xK (cB (ac Tryz.f91))) [.blk 0, .seq (xJ (ac Tryz.f91))] 168 (mkF 168 0 [(0, .ptr 0 0), (1, .int .i64 p1), (4, .ptr 1 0), (24, .int .i64 d)]) ⟨2, [(1, vB 0 []), (0, vC b c)]⟩
def oh (m : Nat) (p1 : Int) (b : List Int) (c d : Int) (r0 : Tree) (e : List Int) (a : Int) : Prop := ∀ (K : Ctx), av K [0] → qLG K Tryz.f91 (fun u G => u = .agg (ai r0) ∧ G = ⟨2, [(0, vC e a)]⟩) (xC (xG (cB (ac Tryz.f91)))) [.blk 0, .seq (xJ (ac Tryz.f91))] 168 (mkF 168 0 [(0, .ptr 0 0), (1, .int .i64 p1), (4, .ptr 1 0), (24, .int .i64 d)]) ⟨2, [(1, vB 0 []), (0, vC b c)]⟩
def od (m : Nat) (p1 : Int) (b : List Int) (c d : Int) (r0 : Tree) (e : List Int) (a : Int) : Prop := ∀ (K : Ctx), av K [0] → qLG K Tryz.f91 (fun u G => u = .agg (ai r0) ∧ G = ⟨2, [(0, vC e a)]⟩) (xC (xK (cB (ac Tryz.f91)))) [.blk 0, .seq (xJ (ac Tryz.f91))] 168 (mkF 168 0 [(0, .ptr 0 0), (1, .int .i64 p1), (4, .ptr 1 0), (24, .int .i64 d)]) ⟨2, [(1, vB 0 []), (0, vC b c)]⟩
def oc (m : Nat) (p1 : Int) (b : List Int) (c d : Int) (r0 : Tree) (e : List Int) (a : Int) : Prop := ∀ (K : Ctx), av K [0] → qLG K Tryz.f91 (fun u G => u = .agg (ai r0) ∧ G = ⟨2, [(0, vC e a)]⟩) (xD (xG (cB (ac Tryz.f91)))) [.blk 0, .seq (xJ (ac Tryz.f91))] 168 (mkF 168 0 [(0, .ptr 0 0), (1, .int .i64 p1), (4, .ptr 1 0), (24, .int .i64 d)]) ⟨2, [(1, vB 0 []), (0, vC b c)]⟩
def hG (m : Nat) (p1 : Int) (b : List Int) (c d : Int) (r0 : Tree) (e : List Int) (a : Int) : Prop := ∀ (K : Ctx), av K [0] → qLG K Tryz.f91 (fun u G => u = .agg (ai r0) ∧ G = ⟨2, [(0, vC e a)]⟩) (xD (xK (cB (ac Tryz.f91)))) [.blk 0, .seq (xJ (ac Tryz.f91))] 168 (mkF 168 0 [(0, .ptr 0 0), (1, .int .i64 p1), (4, .ptr 1 0), (24, .int .i64 d)]) ⟨2, [(1, vB 0 []), (0, vC b c)]⟩
def jV (m : Nat) (p1 : Int) (b : List Int) (c d : Int) (e : Bool) (r0 : Tree) (f : List Int) (a : Int) : Prop := ∀ (K : Ctx), av K [0] → qLG K Tryz.f91 (fun u G => u = .agg (ai r0) ∧ G = ⟨2, [(0, vC f a)]⟩) (cB (xD (xK (cB (ac Tryz.f91))))) [.blk 0, .seq (xJ (ac Tryz.f91))] 168 (mkF 168 0 [(0, .ptr 0 0), (1, .int .i64 p1), (4, .ptr 1 0), (24, .int .i64 d), (57, .bool e)]) ⟨2, [(1, vB 0 []), (0, vC b c)]⟩
def kx (m : Nat) (p1 : Int) (b : List Int) (c : Int) (r0 : Tree) (d : List Int) (a : Int) : Prop := ∀ (K : Ctx), av K [0] → qLG K Tryz.f91 (fun u G => u = .agg (ai r0) ∧ G = ⟨2, [(0, vC d a)]⟩) (xI (xD (xK (cB (ac Tryz.f91))))) [.blk 0, .seq (xJ (ac Tryz.f91))] 168 (mkF 168 0 [(0, .ptr 0 0), (1, .int .i64 p1), (4, .ptr 1 0)]) ⟨2, [(1, vB 0 []), (0, vC b c)]⟩
def ff (m : Nat) (p1 : Int) (b : List Int) (c d : Int) (r0 : Tree) (e : List Int) (a : Int) : Prop := ∀ (K : Ctx), av K [0] → qLG K Tryz.f91 (fun u G => u = .agg (ai r0) ∧ G = ⟨2, [(0, vC e a)]⟩) (xD (xC (xG (cB (ac Tryz.f91))))) [.blk 0, .seq (xJ (ac Tryz.f91))] 168 (mkF 168 0 [(0, .ptr 0 0), (1, .int .i64 p1), (4, .ptr 1 0), (24, .int .i64 d)]) ⟨2, [(1, vB 0 []), (0, vC b c)]⟩
def gx (m : Nat) (p1 : Int) (f : List UInt8) (a : List Int) (b : Int) (c : List Tree) (d : Int) (r0 : Tree) (g : List Int) (e : Int) : Prop := ∀ (K : Ctx) (j1 : Nat), av K [0] → m ≤ j1 → qLG K Tryz.f91 (fun u G => u = .agg (ai r0) ∧ G = ⟨2, [(0, vC g e)]⟩) (cL (xF (cB (xI (xD (xK (cB (ac Tryz.f91)))))))) [.loop (cL (xF (cB (xI (xD (xK (cB (ac Tryz.f91)))))))) j1, .blk 1, .seq (xA (xI (xD (xK (cB (ac Tryz.f91)))))), .blk 0, .seq (xJ (ac Tryz.f91))] 168 (mkF 168 0 [(0, .ptr 0 0), (1, .int .i64 p1), (4, .ptr 1 0), (6, .ptr 2 0), (7, .int .i64 d)]) ⟨4, [(3, .row 25 4 (kidsV c)), (2, .var 25 [.int .i64 16, .str f, .nils, .sl 3]), (1, vB 0 []), (0, vC a b)]⟩
def gn (m : Nat) (p1 : Int) (a : List Int) (b : Int) (c : List Tree) (d : Int) (r0 : Tree) (f : List Int) (e : Int) : Prop := ∀ (K : Ctx) (j1 : Nat), av K [0] → m ≤ j1 → qLG K Tryz.f91 (fun u G => u = .agg (ai r0) ∧ G = ⟨2, [(0, vC f e)]⟩) (cL (xF (cB (xI (xD (xC (xG (cB (ac Tryz.f91))))))))) [.loop (cL (xF (cB (xI (xD (xC (xG (cB (ac Tryz.f91))))))))) j1, .blk 3, .seq (xA (xI (xD (xC (xG (cB (ac Tryz.f91))))))), .blk 0, .seq (xJ (ac Tryz.f91))] 168 (mkF 168 0 [(0, .ptr 0 0), (1, .int .i64 p1), (4, .ptr 1 0), (8, .ptr 2 0), (9, .int .i64 d)]) ⟨4, [(3, .row 25 4 (kidsV c)), (2, .var 25 [.int .i64 18, .str [], .nils, .sl 3]), (1, vB 0 []), (0, vC a b)]⟩
def gr (m : Nat) (p1 : Int) (b : List Int) (c d : Int) (r0 : Tree) (e : List Int) (a : Int) : Prop := ∀ (K : Ctx), av K [0] → qLG K Tryz.f91 (fun u G => u = .agg (ai r0) ∧ G = ⟨2, [(0, vC e a)]⟩) (xD (xC (xK (cB (ac Tryz.f91))))) [.blk 0, .seq (xJ (ac Tryz.f91))] 168 (mkF 168 0 [(0, .ptr 0 0), (1, .int .i64 p1), (4, .ptr 1 0), (24, .int .i64 d)]) ⟨2, [(1, vB 0 []), (0, vC b c)]⟩
def nB (m : Nat) (p1 : Int) (b : List Int) (c : Int) (r0 : Tree) (d : List Int) (a : Int) : Prop := ∀ (K : Ctx), av K [0] → qLG K Tryz.f91 (fun u G => u = .agg (ai r0) ∧ G = ⟨2, [(0, vC d a)]⟩) (xI (xD (xC (xK (cB (ac Tryz.f91)))))) [.blk 0, .seq (xJ (ac Tryz.f91))] 168 (mkF 168 0 [(0, .ptr 0 0), (1, .int .i64 p1), (4, .ptr 1 0)]) ⟨2, [(1, vB 0 []), (0, vC b c)]⟩
def eD (m : Nat) (p1 : Int) (b : List Int) (c d : Int) (r0 : Tree) (e : List Int) (a : Int) : Prop := ∀ (K : Ctx), av K [0] → qLG K Tryz.f91 (fun u G => u = .agg (ai r0) ∧ G = ⟨2, [(0, vC e a)]⟩) (xM (xG (cB (ac Tryz.f91)))) [.blk 0, .seq (xJ (ac Tryz.f91))] 168 (mkF 168 0 [(0, .ptr 0 0), (1, .int .i64 p1), (4, .ptr 1 0), (24, .int .i64 d)]) ⟨2, [(1, vB 0 []), (0, vC b c)]⟩
def jO (m : Nat) (p1 : Int) (c : List Int) (d e : Int) (a : Bool) (r0 : Tree) (f : List Int) (b : Int) : Prop := ∀ (K : Ctx), av K [0] → qLG K Tryz.f91 (fun u G => u = .agg (ai r0) ∧ G = ⟨2, [(0, vC f b)]⟩) (cB (xM (xG (cB (ac Tryz.f91))))) [.blk 0, .seq (xJ (ac Tryz.f91))] 168 (mkF 168 0 [(0, .ptr 0 0), (1, .int .i64 p1), (4, .ptr 1 0), (24, .int .i64 e), (118, .bool a)]) ⟨2, [(1, vB 0 []), (0, vC c d)]⟩
def jH (m : Nat) (p1 : Int) (b : List Int) (c : Int) (r0 : Tree) (d : List Int) (a : Int) : Prop := ∀ (K : Ctx), av K [0] → qLG K Tryz.f91 (fun u G => u = .agg (ai r0) ∧ G = ⟨2, [(0, vC d a)]⟩) (xI (xM (xG (cB (ac Tryz.f91))))) [.blk 0, .seq (xJ (ac Tryz.f91))] 168 (mkF 168 0 [(0, .ptr 0 0), (1, .int .i64 p1), (4, .ptr 1 0)]) ⟨2, [(1, vB 0 []), (0, vC b c)]⟩
def gu (m : Nat) (p1 : Int) (b : List Int) (c d : Int) (r0 : Tree) (e : List Int) (a : Int) : Prop := ∀ (K : Ctx), av K [0] → qLG K Tryz.f91 (fun u G => u = .agg (ai r0) ∧ G = ⟨2, [(0, vC e a)]⟩) (xM (xK (cB (ac Tryz.f91)))) [.blk 0, .seq (xJ (ac Tryz.f91))] 168 (mkF 168 0 [(0, .ptr 0 0), (1, .int .i64 p1), (4, .ptr 1 0), (24, .int .i64 d)]) ⟨2, [(1, vB 0 []), (0, vC b c)]⟩
def nz (m : Nat) (p1 : Int) (b : List Int) (c : Int) (r0 : Tree) (d : List Int) (a : Int) : Prop := ∀ (K : Ctx), av K [0] → qLG K Tryz.f91 (fun u G => u = .agg (ai r0) ∧ G = ⟨2, [(0, vC d a)]⟩) (xI (xM (xK (cB (ac Tryz.f91))))) [.blk 0, .seq (xJ (ac Tryz.f91))] 168 (mkF 168 0 [(0, .ptr 0 0), (1, .int .i64 p1), (4, .ptr 1 0)]) ⟨2, [(1, vB 0 []), (0, vC b c)]⟩
theorem hZ (m : Nat) (g : List Int) (f p1 : Int) (r0 : Tree) (e : List Int) (b : Int) (h : ∃ a c d, aK g f 14 a c d ∧ ((p1 < 1) → ((5 < a) → InI (a - 6) ∧ ((5 < (a - 6)) → cJ m p1 c d 0 r0 e b) ∧ ((¬ 5 < (a - 6)) → cJ m p1 c d (a - 6) r0 e b)) ∧ ((¬ 5 < a) → cJ m p1 c d a r0 e b)) ∧ ((¬ p1 < 1) → cJ m p1 c d a r0 e b)) : aU g f p1 r0 e b := by
 refine am 168 [0] Tryz.func91 rfl rfl rfl (aM rfl) fun K hK => ?_
 refine gR 8 rfl ?_
 obtain ⟨a, c, d, hs75, h⟩ := h
 refine gCY hs75 [0] ?_
 refine gR 9 rfl <| qBdZ 16 15 rfl rfl rfl rfl h (fun h => ?_) fun h => ?_
 refine gR 5 rfl <| qBd 19 rfl rfl rfl h (fun h => ?_) fun h => ?_
 refine gR 4 rfl ?_
 obtain ⟨hb, h⟩ := h
 refine gR 1 rfl <| gV 21 (.int .i64 (a - 6)) rfl (ax hb rfl) rfl <| gR 9 rfl <| qBd 23 rfl rfl rfl h (fun h => ?_) fun h => ?_
 exact gR 5 rfl <| gJ (h K hK) [0, 1] [0] rfl hK pq4 (pqo2 rfl rfl rfl rfl) rfl
 exact gR 3 rfl <| gJ (h K hK) [0, 1] [0] rfl hK pq4 (pqo2 rfl rfl rfl rfl) rfl
 exact gR 3 rfl <| gJ (h K hK) [0, 1] [0] rfl hK pq4 (pqo2 rfl rfl rfl rfl) rfl
 exact gR 8 rfl <| gJ (h K hK) [0, 1] [0] rfl hK pq4 (pqo2 rfl rfl rfl rfl) rfl
theorem rL0_semvcsmake_Expr (m : Nat) (p1 : Int) (c : List Int) (d a : Int) (r0 : Tree) (e : List Int) (b : Int) (h : ((a = 0) → kr m p1 c d a true r0 e b) ∧ ((a ≠ 0) → kr m p1 c d a (a == 1) r0 e b)) : cJ (m + 1) p1 c d a r0 e b := by
 intro K hK
 refine gR 14 rfl <| qBeZ 25 26 rfl rfl rfl rfl h (fun h => ?_) fun h => ?_
 exact gR 3 rfl <| gJ (h K hK) [0, 1] [0] rfl hK pq5 (pqo2 rfl rfl rfl rfl) rfl
 exact gR 6 rfl <| gJ (h K hK) [0, 1] [0] rfl hK pq5 (pqo2 rfl rfl rfl rfl) rfl
theorem jN (m : Nat) (p1 : Int) (e : List Int) (f j : Int) (g : Bool) (r0 : Tree) (i : List Int) (b : Int) (h : ((g = true) → ∃ a c d, bp e f [[120], [121], [122]] a c d ∧ (Tree.node 12 a [] []) = r0 ∧ c = i ∧ d = b) ∧ ((g = false) → hO m p1 e f j r0 i b)) : kr (m + 1) p1 e f j g r0 i b := by
 intro K hK
 refine qBi 25 rfl rfl rfl h (fun h => ?_) fun h => ?_
 refine gR 5 rfl <| gFR 2 rfl rfl rfl rfl ?_
 obtain ⟨a, c, d, hs76, h⟩ := h
 refine gCY hs76 [0] ?_
 refine gR 7 rfl ?_
 obtain ⟨rfl, rfl, rfl⟩ := h
 exact go_sub (F' := (mkF 168 0 [(4, .ptr 1 0)])) (H' := ⟨2, [(1, vF ((Tree.node 12 a [] []).kind) ((Tree.node 12 a [] []).text) ((Tree.node 12 a [] []).leads) ((Tree.node 12 a [] []).kids)), (0, vC c d)]⟩) [0, 1] [0] rfl hK pq1 ⟨⟨_, rfl, rfl, (.cons .rfl (.cons .rfl (.cons (.nil 1) (.cons (.nil 4) .nil))))⟩, (pqo1 rfl rfl)⟩ rfl <| go_endD [1] ab (rs := [.cell 4 25]) rfl rfl ⟨rfl, rfl⟩
 exact gR 1 rfl <| gJ (h K hK) [0, 1] [0] rfl hK pq4 (pqo2 rfl rfl rfl rfl) rfl
theorem rL2_semvcsmake_Expr (m : Nat) (p1 : Int) (f : List Int) (g c : Int) (r0 : Tree) (i : List Int) (b : Int) (h : ((c = 2) → ∃ a d e, bp f g [[48], [49], [50], [49, 48]] a d e ∧ (Tree.node 10 a [] []) = r0 ∧ d = i ∧ e = b) ∧ ((c ≠ 2) → oh m p1 f g c r0 i b)) : hO (m + 1) p1 f g c r0 i b := by
 intro K hK
 refine gR 6 rfl <| qBeZ 32 33 rfl rfl rfl rfl h (fun h => ?_) fun h => ?_
 refine gR 5 rfl <| gFR 2 rfl rfl rfl rfl ?_
 obtain ⟨a, d, e, hs77, h⟩ := h
 refine gCY hs77 [0] ?_
 refine gR 7 rfl ?_
 obtain ⟨rfl, rfl, rfl⟩ := h
 exact go_sub (F' := (mkF 168 0 [(4, .ptr 1 0)])) (H' := ⟨2, [(1, vF ((Tree.node 10 a [] []).kind) ((Tree.node 10 a [] []).text) ((Tree.node 10 a [] []).leads) ((Tree.node 10 a [] []).kids)), (0, vC d e)]⟩) [0, 1] [0] rfl hK pq1 ⟨⟨_, rfl, rfl, (.cons .rfl (.cons .rfl (.cons (.nil 1) (.cons (.nil 4) .nil))))⟩, (pqo1 rfl rfl)⟩ rfl <| go_endD [1] ab (rs := [.cell 4 25]) rfl rfl ⟨rfl, rfl⟩
 exact gR 1 rfl <| gJ (h K hK) [0, 1] [0] rfl hK pq4 (pqo2 rfl rfl rfl rfl) rfl
theorem eE (m : Nat) (p1 : Int) (f : List Int) (g c : Int) (r0 : Tree) (i : List Int) (b : Int) (h : ((c = 3) → ∃ a d e, bp f g [[34, 34], [34, 97, 34], [34, 35, 32, 98, 34]] a d e ∧ (Tree.node 11 a [] []) = r0 ∧ d = i ∧ e = b) ∧ ((c ≠ 3) → od m p1 f g c r0 i b)) : oh (m + 1) p1 f g c r0 i b := by
 intro K hK
 refine gR 6 rfl <| qBeZ 38 39 rfl rfl rfl rfl h (fun h => ?_) fun h => ?_
 refine gR 5 rfl <| gFR 2 rfl rfl rfl rfl ?_
 obtain ⟨a, d, e, hs78, h⟩ := h
 refine gCY hs78 [0] ?_
 refine gR 7 rfl ?_
 obtain ⟨rfl, rfl, rfl⟩ := h
 exact go_sub (F' := (mkF 168 0 [(4, .ptr 1 0)])) (H' := ⟨2, [(1, vF ((Tree.node 11 a [] []).kind) ((Tree.node 11 a [] []).text) ((Tree.node 11 a [] []).leads) ((Tree.node 11 a [] []).kids)), (0, vC d e)]⟩) [0, 1] [0] rfl hK pq1 ⟨⟨_, rfl, rfl, (.cons .rfl (.cons .rfl (.cons (.nil 1) (.cons (.nil 4) .nil))))⟩, (pqo1 rfl rfl)⟩ rfl <| go_endD [1] ab (rs := [.cell 4 25]) rfl rfl ⟨rfl, rfl⟩
 exact gR 1 rfl <| gJ (h K hK) [0, 1] [0] rfl hK pq4 (pqo2 rfl rfl rfl rfl) rfl
theorem gq (m : Nat) (p1 : Int) (f : List Int) (g c : Int) (r0 : Tree) (i : List Int) (b : Int) (h : ((c = 4) → ∃ a d e, aK f g 2 a d e ∧ InI (13 + a) ∧ (Tree.node (13 + a) [] [] []) = r0 ∧ d = i ∧ e = b) ∧ ((c ≠ 4) → oc m p1 f g c r0 i b)) : od (m + 1) p1 f g c r0 i b := by
 intro K hK
 refine gR 6 rfl <| qBeZ 44 45 rfl rfl rfl rfl h (fun h => ?_) fun h => ?_
 refine gR 4 rfl ?_
 obtain ⟨a, d, e, hs79, h⟩ := h
 refine gCY hs79 [0] ?_
 obtain ⟨hb, h⟩ := h
 refine gR 1 rfl <| gV 48 (.int .i64 (13 + a)) rfl (ax hb rfl) rfl <| gR 7 rfl ?_
 obtain ⟨rfl, rfl, rfl⟩ := h
 exact go_sub (F' := (mkF 168 0 [(4, .ptr 1 0)])) (H' := ⟨2, [(1, vF ((Tree.node (13 + a) [] [] []).kind) ((Tree.node (13 + a) [] [] []).text) ((Tree.node (13 + a) [] [] []).leads) ((Tree.node (13 + a) [] [] []).kids)), (0, vC d e)]⟩) [0, 1] [0] rfl hK pq1 ⟨⟨_, rfl, rfl, (.cons .rfl (.cons .rfl (.cons (.nil 1) (.cons (.nil 4) .nil))))⟩, (pqo1 rfl rfl)⟩ rfl <| go_endD [1] ab (rs := [.cell 4 25]) rfl rfl ⟨rfl, rfl⟩
 exact gR 1 rfl <| gJ (h K hK) [0, 1] [0] rfl hK pq4 (pqo2 rfl rfl rfl rfl) rfl
theorem jK (m : Nat) (p1 : Int) (g : List Int) (i d : Int) (r0 : Tree) (e : List Int) (c : Int) (h : ((d = 5) → ∃ f a b, aK g i 3 f a b ∧ ((f = 0) → (Tree.node 15 [] [] []) = r0 ∧ a = e ∧ b = c) ∧ ((f ≠ 0) → (Tree.node 10 [51] [] []) = r0 ∧ a = e ∧ b = c)) ∧ ((d ≠ 5) → hG m p1 g i d r0 e c)) : oc (m + 1) p1 g i d r0 e c := by
 intro K hK
 refine gR 6 rfl <| qBeZ 50 51 rfl rfl rfl rfl h (fun h => ?_) fun h => ?_
 refine gR 5 rfl ?_
 obtain ⟨f, a, b, hs80, h⟩ := h
 refine gCY hs80 [0] ?_
 refine gR 3 rfl <| qBe 54 rfl rfl rfl h (fun h => ?_) fun h => ?_
 refine gR 11 rfl ?_
 obtain ⟨rfl, rfl, rfl⟩ := h
 exact go_sub (F' := (mkF 168 0 [(4, .ptr 1 0)])) (H' := ⟨2, [(1, vF ((Tree.node 15 [] [] []).kind) ((Tree.node 15 [] [] []).text) ((Tree.node 15 [] [] []).leads) ((Tree.node 15 [] [] []).kids)), (0, vC a b)]⟩) [0, 1] [0] rfl hK pq1 ⟨⟨_, rfl, rfl, (.cons .rfl (.cons .rfl (.cons (.nil 1) (.cons (.nil 4) .nil))))⟩, (pqo1 rfl rfl)⟩ rfl <| go_endD [1] ab (rs := [.cell 4 25]) rfl rfl ⟨rfl, rfl⟩
 refine gR 12 rfl ?_
 obtain ⟨rfl, rfl, rfl⟩ := h
 exact go_sub (F' := (mkF 168 0 [(4, .ptr 1 0)])) (H' := ⟨2, [(1, vF ((Tree.node 10 [51] [] []).kind) ((Tree.node 10 [51] [] []).text) ((Tree.node 10 [51] [] []).leads) ((Tree.node 10 [51] [] []).kids)), (0, vC a b)]⟩) [0, 1] [0] rfl hK pq1 ⟨⟨_, rfl, rfl, (.cons .rfl (.cons .rfl (.cons (.nil 1) (.cons (.nil 4) .nil))))⟩, (pqo1 rfl rfl)⟩ rfl <| go_endD [1] ab (rs := [.cell 4 25]) rfl rfl ⟨rfl, rfl⟩
 exact gR 1 rfl <| gJ (h K hK) [0, 1] [0] rfl hK pq4 (pqo2 rfl rfl rfl rfl) rfl
theorem rL6_semvcsmake_Expr (m : Nat) (p1 : Int) (c : List Int) (d a : Int) (r0 : Tree) (e : List Int) (b : Int) (h : ((a = 6) → jV m p1 c d a true r0 e b) ∧ ((a ≠ 6) → jV m p1 c d a (a == 7) r0 e b)) : hG (m + 1) p1 c d a r0 e b := by
 intro K hK
 refine gR 7 rfl <| qBeZ 57 58 rfl rfl rfl rfl h (fun h => ?_) fun h => ?_
 exact gR 3 rfl <| gJ (h K hK) [0, 1] [0] rfl hK pq5 (pqo2 rfl rfl rfl rfl) rfl
 exact gR 6 rfl <| gJ (h K hK) [0, 1] [0] rfl hK pq5 (pqo2 rfl rfl rfl rfl) rfl
theorem jL (m : Nat) (p1 : Int) (b : List Int) (c f : Int) (d : Bool) (r0 : Tree) (e : List Int) (a : Int) (h : ((d = true) → kx m p1 b c r0 e a) ∧ ((d = false) → ff m p1 b c f r0 e a)) : jV (m + 1) p1 b c f d r0 e a := by
 intro K hK
 refine qBi 57 rfl rfl rfl h (fun h => ?_) fun h => ?_
 exact gR 1 rfl <| gJ (h K hK) [0, 1] [0] rfl hK pq3 (pqo2 rfl rfl rfl rfl) rfl
 exact gR 1 rfl <| gJ (h K hK) [0, 1] [0] rfl hK pq4 (pqo2 rfl rfl rfl rfl) rfl
theorem rJ (m : Nat) (p1 : Int) (i : List Int) (j : Int) (r0 : Tree) (k : List Int) (a : Int) (h : ∃ b c d, bp i j [[102], [103], [104], [65, 46, 102], [66, 46, 103], [65, 46, 104]] b c d ∧ ∃ e f g, aK c d 4 e f g ∧ gx m p1 b f g ([] : List Tree) e r0 k a) : kx (m + 1) p1 i j r0 k a := by
 intro K hK
 refine gR 4 rfl <| gFR 2 rfl rfl rfl rfl ?_
 obtain ⟨b, c, d, hs81, h⟩ := h
 refine gCY hs81 [0] ?_
 refine gR 9 rfl ?_
 obtain ⟨e, f, g, hs82, h⟩ := h
 refine gCY hs82 [0] ?_
 exact gR 4 rfl <| go_loop m <| gNC 4 3 25 4 rfl rfl rfl rfl <| gJ (h K _ hK (by omega)) [0, 1, 4, 6] [0] rfl hK pq5 ⟨⟨_, rfl, rfl, rfl, rfl⟩, (pqo3 rfl rfl rfl rfl rfl rfl)⟩ rfl
theorem nA (m : Nat) (p1 : Int) (f : List Int) (g e : Int) (r0 : Tree) (i : List Int) (b : Int) (h : ((e = 8) → ∃ a c d, aK f g 3 a c d ∧ InI (1 + a) ∧ gn m p1 c d ([] : List Tree) (1 + a) r0 i b) ∧ ((e ≠ 8) → gr m p1 f g e r0 i b)) : ff (m + 1) p1 f g e r0 i b := by
 intro K hK
 refine gR 6 rfl <| gB 82 rfl rfl rfl ?_ ?_ <;> intro hd
 refine gT 83 rfl hd rfl ?_
 replace hd := (eq_of_beq hd)
 replace h := h.1 hd
 refine gR 12 rfl ?_
 obtain ⟨a, c, d, hs83, h⟩ := h
 refine gCY hs83 [0] ?_
 obtain ⟨hb, h⟩ := h
 exact gR 1 rfl <| gV 87 (.int .i64 (1 + a)) rfl (ax hb rfl) rfl <| gR 4 rfl <| go_loop m <| gNC 2 3 25 4 rfl rfl rfl rfl <| gJ (h K _ hK (by omega)) [0, 1, 2, 4] [0] rfl hK pq5 ⟨⟨_, rfl, rfl, rfl, rfl⟩, (pqo3 rfl rfl rfl rfl rfl rfl)⟩ rfl
 refine gF 83 rfl hd rfl ?_
 replace hd := (ne_of_beq_false hd)
 replace h := h.2 hd
 exact gR 1 rfl <| gJ (h K hK) [0, 1] [0] rfl hK pq4 (pqo2 rfl rfl rfl rfl) rfl
theorem mR (m : Nat) (p1 : Int) (d : List UInt8) (e : List Int) (f : Int) (b : List Tree) (c : Int) (r0 : Tree) (l : List Int) (g : Int) (h : ((0 < c) → InI (p1 - 1) ∧ ∃ a i k, aU e f (p1 - 1) a i k ∧ (b ++ [(Tree.node 17 [] [] [a])]).length ≤ 1000000000 ∧ InI (c - 1) ∧ gx m p1 d i k (b ++ [(Tree.node 17 [] [] [a])]) (c - 1) r0 l g) ∧ ((¬ 0 < c) → (Tree.node 16 d [] b) = r0 ∧ e = l ∧ f = g)) : gx (m + 1) p1 d e f b c r0 l g := by
 intro K j1 hK hj1
 obtain ⟨j1, rfl⟩ : ∃ j, j1 = j + 1 := ⟨j1 - 1, by omega⟩
 refine gR 7 rfl <| gB 67 rfl rfl rfl ?_ ?_ <;> intro hd
 replace hd := (of_decide_eq_true hd)
 replace h := h.1 hd
 refine gR 5 rfl <| gDs [2] 11 12 rfl (by kernel_rfl) (by kernel_rfl) <| gDr [(0, 2), (1, 3), (2, 2), (3, 0)] (by kernel_rfl) rfl rfl ?_
 obtain ⟨hb, h⟩ := h
 refine gDr [(4, 0)] (by kernel_rfl) rfl rfl <| gV 74 (.int .i64 (p1 - 1)) rfl (ax hb rfl) rfl ?_
 obtain ⟨a, i, k, hs84, h⟩ := h
 refine gDCY 5 hs84 [0] rfl ?_
 refine gDr [(6, 0)] (by kernel_rfl) rfl rfl <| gHR 6 (kidsV [a]) rfl (cI a) rfl <| gDr [(7, 0)] (by kernel_rfl) rfl rfl <| gFR 6 rfl (bo _) rfl rfl <| gS 77 (.agg [.int .i64 17, .str [], .row 1 [], .row 4 (kidsV [a])]) rfl (.agg (.cons .rfl (.cons .rfl (.cons (.nil 1) (.cons .rfl .nil))))) rfl <| gDr [(8, 0)] (by kernel_rfl) rfl rfl <| gHR 7 (kidsV [(Tree.node 17 [] [] [a])]) rfl (cI (Tree.node 17 [] [] [a])) rfl ?_
 obtain ⟨hb, h⟩ := h
 refine aP 9 (.repl 3 (.row 25 4 (kidsV (b ++ [(Tree.node 17 [] [] [a])])))) rfl (by kernel_rfl) (bm ab rfl rfl rfl rfl rfl (bC b [(Tree.node 17 [] [] [a])]).symm (by rw [aG]; exact hb)) (okR rfl) rfl (by kernel_rfl) rfl rfl ?_
 refine gDr [(10, 0), (11, 1)] (by kernel_rfl) rfl rfl <| gDe (by kernel_rfl) <| gR 4 rfl ?_
 obtain ⟨hb, h⟩ := h
 exact gR 1 rfl <| gV 69 (.int .i64 (c - 1)) rfl (ax hb rfl) rfl <| gR 2 rfl <| go_xloop <| gJ (h K _ hK (by omega)) [0, 1, 2, 8] [0] rfl hK pq5 ⟨⟨_, rfl, rfl, rfl, (aC _ (b ++ [(Tree.node 17 [] [] [a])])).symm⟩, (pqo3 rfl rfl rfl rfl rfl rfl)⟩ rfl
 replace hd := (of_decide_eq_false hd)
 replace h := h.2 hd
 refine gR 3 rfl <| go_xloopE <| gR 11 rfl <| gFR 3 rfl (bo _) rfl rfl ?_
 obtain ⟨rfl, rfl, rfl⟩ := h
 exact go_sub (F' := (mkF 168 0 [(4, .ptr 1 0)])) (H' := ⟨2, [(1, vF ((Tree.node 16 d [] b).kind) ((Tree.node 16 d [] b).text) ((Tree.node 16 d [] b).leads) ((Tree.node 16 d [] b).kids)), (0, vC e f)]⟩) [0, 1] [0] rfl hK pq1 ⟨⟨_, rfl, rfl, (.cons .rfl (.cons .rfl (.cons (.nil 1) (.cons .rfl .nil))))⟩, (pqo1 rfl rfl)⟩ rfl <| go_endD [1] ab (rs := [.cell 4 25]) rfl rfl ⟨rfl, rfl⟩
theorem nn (m : Nat) (p1 : Int) (d : List Int) (e : Int) (a : List Tree) (c : Int) (r0 : Tree) (k : List Int) (f : Int) (h : ((0 < c) → InI (p1 - 1) ∧ ∃ b g i, aU d e (p1 - 1) b g i ∧ (a ++ [b]).length ≤ 1000000000 ∧ InI (c - 1) ∧ gn m p1 g i (a ++ [b]) (c - 1) r0 k f) ∧ ((¬ 0 < c) → (Tree.node 18 [] [] a) = r0 ∧ d = k ∧ e = f)) : gn (m + 1) p1 d e a c r0 k f := by
 intro K j1 hK hj1
 obtain ⟨j1, rfl⟩ : ∃ j, j1 = j + 1 := ⟨j1 - 1, by omega⟩
 refine gR 7 rfl <| gB 89 rfl rfl rfl ?_ ?_ <;> intro hd
 replace hd := (of_decide_eq_true hd)
 replace h := h.1 hd
 refine gR 5 rfl <| gDs [2] 9 10 rfl (by kernel_rfl) (by kernel_rfl) <| gDr [(0, 2), (1, 3), (2, 2), (3, 0)] (by kernel_rfl) rfl rfl ?_
 obtain ⟨hb, h⟩ := h
 refine gDr [(4, 0)] (by kernel_rfl) rfl rfl <| gV 96 (.int .i64 (p1 - 1)) rfl (ax hb rfl) rfl ?_
 obtain ⟨b, g, i, hs85, h⟩ := h
 refine gDCY 5 hs85 [0] rfl ?_
 refine gDr [(6, 0)] (by kernel_rfl) rfl rfl <| gHR 6 (kidsV [b]) rfl (cI b) rfl ?_
 obtain ⟨hb, h⟩ := h
 refine aP 7 (.repl 3 (.row 25 4 (kidsV (a ++ [b])))) rfl (by kernel_rfl) (bm ab rfl rfl rfl rfl rfl (bC a [b]).symm (by rw [aG]; exact hb)) (okR rfl) rfl (by kernel_rfl) rfl rfl ?_
 refine gDr [(8, 0), (9, 1)] (by kernel_rfl) rfl rfl <| gDe (by kernel_rfl) <| gR 4 rfl ?_
 obtain ⟨hb, h⟩ := h
 exact gR 1 rfl <| gV 91 (.int .i64 (c - 1)) rfl (ax hb rfl) rfl <| gR 2 rfl <| go_xloop <| gJ (h K _ hK (by omega)) [0, 1, 2, 7] [0] rfl hK pq5 ⟨⟨_, rfl, rfl, rfl, (aC _ (a ++ [b])).symm⟩, (pqo3 rfl rfl rfl rfl rfl rfl)⟩ rfl
 replace hd := (of_decide_eq_false hd)
 replace h := h.2 hd
 refine gR 3 rfl <| go_xloopE <| gR 11 rfl <| gFR 3 rfl (bo _) rfl rfl ?_
 obtain ⟨rfl, rfl, rfl⟩ := h
 exact go_sub (F' := (mkF 168 0 [(4, .ptr 1 0)])) (H' := ⟨2, [(1, vF ((Tree.node 18 [] [] a).kind) ((Tree.node 18 [] [] a).text) ((Tree.node 18 [] [] a).leads) ((Tree.node 18 [] [] a).kids)), (0, vC d e)]⟩) [0, 1] [0] rfl hK pq1 ⟨⟨_, rfl, rfl, (.cons .rfl (.cons .rfl (.cons (.nil 1) (.cons .rfl .nil))))⟩, (pqo1 rfl rfl)⟩ rfl <| go_endD [1] ab (rs := [.cell 4 25]) rfl rfl ⟨rfl, rfl⟩
theorem ng (m : Nat) (p1 : Int) (c : List Int) (d b : Int) (r0 : Tree) (e : List Int) (a : Int) (h : ((b = 9) → nB m p1 c d r0 e a) ∧ ((b ≠ 9) → eD m p1 c d b r0 e a)) : gr (m + 1) p1 c d b r0 e a := by
 intro K hK
 refine gR 6 rfl <| qBeZ 102 103 rfl rfl rfl rfl h (fun h => ?_) fun h => ?_
 exact gR 1 rfl <| gJ (h K hK) [0, 1] [0] rfl hK pq3 (pqo2 rfl rfl rfl rfl) rfl
 exact gR 1 rfl <| gJ (h K hK) [0, 1] [0] rfl hK pq4 (pqo2 rfl rfl rfl rfl) rfl
theorem rm (m : Nat) (p1 : Int) (l : List Int) (n : Int) (r0 : Tree) (o : List Int) (k : Int) (h : InI (p1 - 1) ∧ ∃ a f g, aU l n (p1 - 1) a f g ∧ InI (p1 - 1) ∧ ∃ b i j, aU f g (p1 - 1) b i j ∧ InI (p1 - 1) ∧ ∃ c d e, aU i j (p1 - 1) c d e ∧ (Tree.node 19 [] [] [a, b, c]) = r0 ∧ d = o ∧ e = k) : nB (m + 1) p1 l n r0 o k := by
 intro K hK
 refine gR 4 rfl ?_
 obtain ⟨hb, h⟩ := h
 refine gR 1 rfl <| gV 106 (.int .i64 (p1 - 1)) rfl (ax hb rfl) rfl ?_
 obtain ⟨a, f, g, hs86, h⟩ := h
 refine gCY hs86 [0] ?_
 refine gR 2 rfl ?_
 obtain ⟨hb, h⟩ := h
 refine gR 1 rfl <| gV 110 (.int .i64 (p1 - 1)) rfl (ax hb rfl) rfl ?_
 obtain ⟨b, i, j, hs87, h⟩ := h
 refine gCY hs87 [0] ?_
 refine gR 2 rfl ?_
 obtain ⟨hb, h⟩ := h
 refine gR 1 rfl <| gV 114 (.int .i64 (p1 - 1)) rfl (ax hb rfl) rfl ?_
 obtain ⟨c, d, e, hs88, h⟩ := h
 refine gCY hs88 [0] ?_
 refine gR 1 rfl <| gHR 8 (kidsV [a, b, c]) rfl (rD [a, b, c]) rfl <| gR 7 rfl <| gFR 8 rfl (bo _) rfl rfl ?_
 obtain ⟨rfl, rfl, rfl⟩ := h
 exact go_sub (F' := (mkF 168 0 [(4, .ptr 1 0)])) (H' := ⟨2, [(1, vF ((Tree.node 19 [] [] [a, b, c]).kind) ((Tree.node 19 [] [] [a, b, c]).text) ((Tree.node 19 [] [] [a, b, c]).leads) ((Tree.node 19 [] [] [a, b, c]).kids)), (0, vC d e)]⟩) [0, 1] [0] rfl hK pq1 ⟨⟨_, rfl, rfl, (.cons .rfl (.cons .rfl (.cons (.nil 1) (.cons .rfl .nil))))⟩, (pqo1 rfl rfl)⟩ rfl <| go_endD [1] ab (rs := [.cell 4 25]) rfl rfl ⟨rfl, rfl⟩
theorem rL14_semvcsmake_Expr (m : Nat) (p1 : Int) (c : List Int) (d a : Int) (r0 : Tree) (e : List Int) (b : Int) (h : ((a = 10) → jO m p1 c d a true r0 e b) ∧ ((a ≠ 10) → jO m p1 c d a (a == 11) r0 e b)) : eD (m + 1) p1 c d a r0 e b := by
 intro K hK
 refine gR 7 rfl <| qBeZ 118 119 rfl rfl rfl rfl h (fun h => ?_) fun h => ?_
 exact gR 3 rfl <| gJ (h K hK) [0, 1] [0] rfl hK pq5 (pqo2 rfl rfl rfl rfl) rfl
 exact gR 6 rfl <| gJ (h K hK) [0, 1] [0] rfl hK pq5 (pqo2 rfl rfl rfl rfl) rfl
theorem jx (m : Nat) (p1 : Int) (c : List Int) (d f : Int) (a : Bool) (r0 : Tree) (e : List Int) (b : Int) (h : ((a = true) → jH m p1 c d r0 e b) ∧ ((a = false) → gu m p1 c d f r0 e b)) : jO (m + 1) p1 c d f a r0 e b := by
 intro K hK
 refine qBi 118 rfl rfl rfl h (fun h => ?_) fun h => ?_
 exact gR 1 rfl <| gJ (h K hK) [0, 1] [0] rfl hK pq3 (pqo2 rfl rfl rfl rfl) rfl
 exact gR 1 rfl <| gJ (h K hK) [0, 1] [0] rfl hK pq4 (pqo2 rfl rfl rfl rfl) rfl
theorem ro (m : Nat) (p1 : Int) (l : List Int) (n : Int) (r0 : Tree) (o : List Int) (k : Int) (h : ∃ c f g, bp l n [[120], [121], [122]] c f g ∧ InI (p1 - 1) ∧ ∃ a i j, aU f g (p1 - 1) a i j ∧ InI (p1 - 1) ∧ ∃ b d e, aU i j (p1 - 1) b d e ∧ (Tree.node 20 c [] [a, b]) = r0 ∧ d = o ∧ e = k) : jH (m + 1) p1 l n r0 o k := by
 intro K hK
 refine gR 4 rfl <| gFR 2 rfl rfl rfl rfl ?_
 obtain ⟨c, f, g, hs89, h⟩ := h
 refine gCY hs89 [0] ?_
 refine gR 2 rfl ?_
 obtain ⟨hb, h⟩ := h
 refine gR 1 rfl <| gV 126 (.int .i64 (p1 - 1)) rfl (ax hb rfl) rfl ?_
 obtain ⟨a, i, j, hs90, h⟩ := h
 refine gCY hs90 [0] ?_
 refine gR 2 rfl ?_
 obtain ⟨hb, h⟩ := h
 refine gR 1 rfl <| gV 130 (.int .i64 (p1 - 1)) rfl (ax hb rfl) rfl ?_
 obtain ⟨b, d, e, hs91, h⟩ := h
 refine gCY hs91 [0] ?_
 refine gR 1 rfl <| gHR 8 (kidsV [a, b]) rfl (rD [a, b]) rfl <| gR 7 rfl <| gFR 8 rfl (bo _) rfl rfl ?_
 obtain ⟨rfl, rfl, rfl⟩ := h
 exact go_sub (F' := (mkF 168 0 [(4, .ptr 1 0)])) (H' := ⟨2, [(1, vF ((Tree.node 20 c [] [a, b]).kind) ((Tree.node 20 c [] [a, b]).text) ((Tree.node 20 c [] [a, b]).leads) ((Tree.node 20 c [] [a, b]).kids)), (0, vC d e)]⟩) [0, 1] [0] rfl hK pq1 ⟨⟨_, rfl, rfl, (.cons .rfl (.cons .rfl (.cons (.nil 1) (.cons .rfl .nil))))⟩, (pqo1 rfl rfl)⟩ rfl <| go_endD [1] ab (rs := [.cell 4 25]) rfl rfl ⟨rfl, rfl⟩
theorem jy (m : Nat) (p1 : Int) (e : List Int) (f g : Int) (r0 : Tree) (i : List Int) (d : Int) (h : ((g = 12) → nz m p1 e f r0 i d) ∧ ((g ≠ 12) → InI (p1 - 1) ∧ ∃ a b c, aU e f (p1 - 1) a b c ∧ (Tree.node 22 [] [] [a]) = r0 ∧ b = i ∧ c = d)) : gu (m + 1) p1 e f g r0 i d := by
 intro K hK
 refine gR 6 rfl <| qBeZ 134 135 rfl rfl rfl rfl h (fun h => ?_) fun h => ?_
 exact gR 1 rfl <| gJ (h K hK) [0, 1] [0] rfl hK pq3 (pqo2 rfl rfl rfl rfl) rfl
 refine gR 8 rfl ?_
 obtain ⟨hb, h⟩ := h
 refine gR 1 rfl <| gV 164 (.int .i64 (p1 - 1)) rfl (ax hb rfl) rfl ?_
 obtain ⟨a, b, c, hs92, h⟩ := h
 refine gCY hs92 [0] ?_
 refine gR 1 rfl <| gHR 4 (kidsV [a]) rfl (cI a) rfl <| gR 5 rfl <| gFR 4 rfl (bo _) rfl rfl ?_
 obtain ⟨rfl, rfl, rfl⟩ := h
 exact go_sub (F' := (mkF 168 0 [(4, .ptr 1 0)])) (H' := ⟨2, [(1, vF ((Tree.node 22 [] [] [a]).kind) ((Tree.node 22 [] [] [a]).text) ((Tree.node 22 [] [] [a]).leads) ((Tree.node 22 [] [] [a]).kids)), (0, vC b c)]⟩) [0, 1] [0] rfl hK pq1 ⟨⟨_, rfl, rfl, (.cons .rfl (.cons .rfl (.cons (.nil 1) (.cons .rfl .nil))))⟩, (pqo1 rfl rfl)⟩ rfl <| go_endD [1] ab (rs := [.cell 4 25]) rfl rfl ⟨rfl, rfl⟩
theorem nf (m : Nat) (p1 : Int) (α : List Int) (β : Int) (r0 : Tree) (z : List Int) (t : Int) (h : ∃ d v w, bp α β [[43], [45], [42], [60], [61, 61]] d v w ∧ InI (p1 - 1) ∧ ∃ a x y, ef v w (p1 - 1) a x y ∧ ∃ l n o, aK x y 3 l n o ∧ ((l = 0) → ∃ c p q, bp n o [[43], [42]] c p q ∧ ∃ b r s, ef p q 0 b r s ∧ InI (p1 - 1) ∧ ∃ e g i, ef r s (p1 - 1) e g i ∧ (Tree.node 21 d [] [(Tree.node 21 c [] [a, b]), e]) = r0 ∧ g = z ∧ i = t) ∧ ((l ≠ 0) → InI (p1 - 1) ∧ ∃ f j k, ef n o (p1 - 1) f j k ∧ (Tree.node 21 d [] [a, f]) = r0 ∧ j = z ∧ k = t)) : nz (m + 1) p1 α β r0 z t := by
 intro K hK
 refine gR 4 rfl <| gFR 2 rfl rfl rfl rfl ?_
 obtain ⟨d, v, w, hs93, h⟩ := h
 refine gCY hs93 [0] ?_
 refine gR 7 rfl ?_
 obtain ⟨hb, h⟩ := h
 refine gR 1 rfl <| gV 141 (.int .i64 (p1 - 1)) rfl (ax hb rfl) rfl ?_
 obtain ⟨a, x, y, hs94, h⟩ := h
 refine gCY hs94 [0] ?_
 refine gR 8 rfl ?_
 obtain ⟨l, n, o, hs95, h⟩ := h
 refine gCY hs95 [0] ?_
 refine gR 3 rfl <| qBe 145 rfl rfl rfl h (fun h => ?_) fun h => ?_
 refine gR 1 rfl <| gDs [6] 8 9 rfl (by kernel_rfl) (by kernel_rfl) <| gDr [(0, 2), (3, 3), (4, 2), (1, 0)] (by kernel_rfl) rfl rfl <| gFR 8 rfl rfl rfl rfl ?_
 obtain ⟨c, p, q, hs96, h⟩ := h
 refine gDCY 2 hs96 [0] rfl ?_
 obtain ⟨b, r, s, hs97, h⟩ := h
 refine gDCY 5 hs97 [0] rfl ?_
 refine gDr [(6, 0)] (by kernel_rfl) rfl rfl <| gHR 12 (kidsV [a, b]) rfl (rD [a, b]) rfl <| gDr [(7, 0), (8, 1)] (by kernel_rfl) rfl rfl <| gDe (by kernel_rfl) <| gR 2 rfl <| gDs [6] 8 9 rfl (by kernel_rfl) (by kernel_rfl) <| gDr [(0, 2), (1, 3), (2, 2), (3, 0)] (by kernel_rfl) rfl rfl ?_
 obtain ⟨hb, h⟩ := h
 refine gDr [(4, 0)] (by kernel_rfl) rfl rfl <| gV 158 (.int .i64 (p1 - 1)) rfl (ax hb rfl) rfl ?_
 obtain ⟨e, g, i, hs98, h⟩ := h
 refine gDCY 5 hs98 [0] rfl ?_
 refine gFR 12 rfl (bo _) rfl rfl <| gS 155 (.agg [.int .i64 21, .str c, .row 1 [], .row 4 (kidsV [a, b])]) rfl (.agg (.cons .rfl (.cons .rfl (.cons (.nil 1) (.cons .rfl .nil))))) rfl <| gDr [(6, 0)] (by kernel_rfl) rfl rfl <| gHR 15 (kidsV [(Tree.node 21 c [] [a, b]), e]) rfl (rD [(Tree.node 21 c [] [a, b]), e]) rfl <| gDr [(7, 0), (8, 1)] (by kernel_rfl) rfl rfl <| gDe (by kernel_rfl) <| gR 4 rfl <| gFR 15 rfl (bo _) rfl rfl ?_
 obtain ⟨rfl, rfl, rfl⟩ := h
 exact go_sub (F' := (mkF 168 0 [(4, .ptr 1 0)])) (H' := ⟨2, [(1, vF ((Tree.node 21 d [] [(Tree.node 21 c [] [a, b]), e]).kind) ((Tree.node 21 d [] [(Tree.node 21 c [] [a, b]), e]).text) ((Tree.node 21 d [] [(Tree.node 21 c [] [a, b]), e]).leads) ((Tree.node 21 d [] [(Tree.node 21 c [] [a, b]), e]).kids)), (0, vC g i)]⟩) [0, 1] [0] rfl hK pq1 ⟨⟨_, rfl, rfl, (.cons .rfl (.cons .rfl (.cons (.nil 1) (.cons .rfl .nil))))⟩, (pqo1 rfl rfl)⟩ rfl <| go_endD [1] ab (rs := [.cell 4 25]) rfl rfl ⟨rfl, rfl⟩
 refine gR 4 rfl <| gDs [6] 8 9 rfl (by kernel_rfl) (by kernel_rfl) <| gDr [(0, 2), (1, 3), (2, 2), (3, 0)] (by kernel_rfl) rfl rfl ?_
 obtain ⟨hb, h⟩ := h
 refine gDr [(4, 0)] (by kernel_rfl) rfl rfl <| gV 158 (.int .i64 (p1 - 1)) rfl (ax hb rfl) rfl ?_
 obtain ⟨f, j, k, hs99, h⟩ := h
 refine gDCY 5 hs99 [0] rfl ?_
 refine gDr [(6, 0)] (by kernel_rfl) rfl rfl <| gHR 10 (kidsV [a, f]) rfl (rD [a, f]) rfl <| gDr [(7, 0), (8, 1)] (by kernel_rfl) rfl rfl <| gDe (by kernel_rfl) <| gR 4 rfl <| gFR 10 rfl (bo _) rfl rfl ?_
 obtain ⟨rfl, rfl, rfl⟩ := h
 exact go_sub (F' := (mkF 168 0 [(4, .ptr 1 0)])) (H' := ⟨2, [(1, vF ((Tree.node 21 d [] [a, f]).kind) ((Tree.node 21 d [] [a, f]).text) ((Tree.node 21 d [] [a, f]).leads) ((Tree.node 21 d [] [a, f]).kids)), (0, vC j k)]⟩) [0, 1] [0] rfl hK pq1 ⟨⟨_, rfl, rfl, (.cons .rfl (.cons .rfl (.cons (.nil 1) (.cons .rfl .nil))))⟩, (pqo1 rfl rfl)⟩ rfl <| go_endD [1] ab (rs := [.cell 4 25]) rfl rfl ⟨rfl, rfl⟩
def iJ (m : Nat) (a : List UInt8) (c : List Int) (d : Int) (e : List Tree) (f : Int) (r0 : Tree) (g : List Int) (b : Int) : Prop := ∀ (K : Ctx) (j1 : Nat), av K [0] → m ≤ j1 → qLG K Tryz.f60 (fun u G => u = .agg (ai r0) ∧ G = ⟨2, [(0, vC g b)]⟩) (xL (cB (ac Tryz.f60))) [.loop (xL (cB (ac Tryz.f60))) j1, .blk 0, .seq (xJ (ac Tryz.f60))] 47 (mkF 47 0 [(0, .ptr 0 0), (2, .ptr 1 0), (3, .ptr 2 0), (4, .int .i64 f)]) ⟨4, [(3, .row 25 4 (kidsV e)), (2, .var 25 [.int .i64 2, .str a, .nils, .sl 3]), (1, vB 0 []), (0, vC c d)]⟩
theorem oy (m : Nat) (v : List Int) (q : Int) (r0 : Tree) (r : List Int) (c : Int) (h : ∃ k l n, aK v q 5 k l n ∧ ((k = 0) → ∃ b s t, bp l n [[84], [85]] b s t ∧ ∃ a o p, cO s t 2 a o p ∧ (Tree.node 3 b [] [a]) = r0 ∧ o = r ∧ p = c) ∧ ((k ≠ 0) → ∃ d e f, bp l n [[102], [103], [104]] d e f ∧ ∃ g i j, aK e f 4 g i j ∧ iJ m d i j ([] : List Tree) g r0 r c)) : me v q r0 r c := by
 refine am 47 [0] Tryz.func60 rfl rfl rfl (aM rfl) fun K hK => ?_
 refine gR 9 rfl ?_
 obtain ⟨k, l, n, hs19, h⟩ := h
 refine gCY hs19 [0] ?_
 refine gR 3 rfl <| gB 7 rfl rfl rfl ?_ ?_ <;> intro hd
 replace hd := (eq_of_beq hd)
 replace h := h.1 hd
 refine gR 5 rfl <| gFR 3 rfl rfl rfl rfl ?_
 obtain ⟨b, s, t, hs20, h⟩ := h
 refine gCY hs20 [0] ?_
 refine gR 1 rfl ?_
 obtain ⟨a, o, p, hs21, h⟩ := h
 refine gCY hs21 [0] ?_
 refine gR 1 rfl <| gHR 7 (kidsV [a]) rfl (cI a) rfl <| gR 6 rfl <| gFR 7 rfl (bo _) rfl rfl ?_
 obtain ⟨rfl, rfl, rfl⟩ := h
 exact go_sub (F' := (mkF 47 0 [(2, .ptr 1 0)])) (H' := ⟨2, [(1, vF ((Tree.node 3 b [] [a]).kind) ((Tree.node 3 b [] [a]).text) ((Tree.node 3 b [] [a]).leads) ((Tree.node 3 b [] [a]).kids)), (0, vC o p)]⟩) [0, 1] [0] rfl hK pq1 ⟨⟨_, rfl, rfl, (.cons .rfl (.cons .rfl (.cons (.nil 1) (.cons .rfl .nil))))⟩, (pqo1 rfl rfl)⟩ rfl <| go_endD [1] ab (rs := [.cell 2 25]) rfl rfl ⟨rfl, rfl⟩
 replace hd := (ne_of_beq_false hd)
 replace h := h.2 hd
 refine gR 7 rfl <| gFR 3 rfl rfl rfl rfl ?_
 obtain ⟨d, e, f, hs22, h⟩ := h
 refine gCY hs22 [0] ?_
 refine gR 9 rfl ?_
 obtain ⟨g, i, j, hs23, h⟩ := h
 refine gCY hs23 [0] ?_
 exact gR 4 rfl <| go_loop m <| gNC 5 3 25 4 rfl rfl rfl rfl <| gJ (h K _ hK (by omega)) [0, 1, 5, 7] [0] rfl hK pq4 ⟨⟨_, rfl, rfl, rfl, rfl⟩, (pqo3 rfl rfl rfl rfl rfl rfl)⟩ rfl
theorem ol (m : Nat) (f : List UInt8) (n : List Int) (o : Int) (b : List Tree) (g : Int) (r0 : Tree) (p : List Int) (l : Int) (h : ((0 < g) → ∃ e q r, bp n o [[120], [121], [122]] e q r ∧ ∃ c s t, cO q r 1 c s t ∧ (b ++ [(Tree.node 4 e [] [c])]).length ≤ 1000000000 ∧ InI (g - 1) ∧ iJ m f s t (b ++ [(Tree.node 4 e [] [c])]) (g - 1) r0 p l) ∧ ((¬ 0 < g) → ∃ d v w, cO n o 1 d v w ∧ ∃ a i k, aU v w 3 a i k ∧ (b ++ [d, a]).length ≤ 1000000000 ∧ (Tree.node 2 f [] (b ++ [d, a])) = r0 ∧ i = p ∧ k = l)) : iJ (m + 1) f n o b g r0 p l := by
 intro K j1 hK hj1
 obtain ⟨j1, rfl⟩ : ∃ j, j1 = j + 1 := ⟨j1 - 1, by omega⟩
 refine gR 7 rfl <| gB 22 rfl rfl rfl ?_ ?_ <;> intro hd
 replace hd := (of_decide_eq_true hd)
 replace h := h.1 hd
 refine gR 5 rfl <| gDs [2] 12 13 rfl (by kernel_rfl) (by kernel_rfl) <| gDr [(0, 2), (1, 3), (2, 2), (5, 2), (3, 0)] (by kernel_rfl) rfl rfl <| gFR 4 rfl rfl rfl rfl ?_
 obtain ⟨e, q, r, hs24, h⟩ := h
 refine gDCY 4 hs24 [0] rfl ?_
 obtain ⟨c, s, t, hs25, h⟩ := h
 refine gDCY 6 hs25 [0] rfl ?_
 refine gDr [(7, 0)] (by kernel_rfl) rfl rfl <| gHR 8 (kidsV [c]) rfl (cI c) rfl <| gDr [(8, 0)] (by kernel_rfl) rfl rfl <| gFR 8 rfl (bo _) rfl rfl <| gS 33 (.agg [.int .i64 4, .str e, .row 1 [], .row 4 (kidsV [c])]) rfl (.agg (.cons .rfl (.cons .rfl (.cons (.nil 1) (.cons .rfl .nil))))) rfl <| gDr [(9, 0)] (by kernel_rfl) rfl rfl <| gHR 9 (kidsV [(Tree.node 4 e [] [c])]) rfl (cI (Tree.node 4 e [] [c])) rfl ?_
 obtain ⟨hb, h⟩ := h
 refine aP 10 (.repl 3 (.row 25 4 (kidsV (b ++ [(Tree.node 4 e [] [c])])))) rfl (by kernel_rfl) (bm ab rfl rfl rfl rfl rfl (bC b [(Tree.node 4 e [] [c])]).symm (by rw [aG]; exact hb)) (okR rfl) rfl (by kernel_rfl) rfl rfl ?_
 refine gDr [(11, 0), (12, 1)] (by kernel_rfl) rfl rfl <| gDe (by kernel_rfl) <| gR 4 rfl ?_
 obtain ⟨hb, h⟩ := h
 exact gR 1 rfl <| gV 24 (.int .i64 (g - 1)) rfl (ax hb rfl) rfl <| gR 2 rfl <| go_xloop <| gJ (h K _ hK (by omega)) [0, 1, 2, 10] [0] rfl hK pq4 ⟨⟨_, rfl, rfl, rfl, (aC _ (b ++ [(Tree.node 4 e [] [c])])).symm⟩, (pqo3 rfl rfl rfl rfl rfl rfl)⟩ rfl
 replace hd := (of_decide_eq_false hd)
 replace h := h.2 hd
 refine gR 3 rfl <| go_xloopE <| gR 3 rfl <| gDs [2] 9 10 rfl (by kernel_rfl) (by kernel_rfl) <| gDr [(0, 2), (1, 3), (2, 2), (4, 2)] (by kernel_rfl) rfl rfl ?_
 obtain ⟨d, v, w, hs26, h⟩ := h
 refine gDCY 3 hs26 [0] rfl ?_
 obtain ⟨a, i, k, hs27, h⟩ := h
 refine gDCY 5 hs27 [0] rfl ?_
 refine gDr [(6, 0)] (by kernel_rfl) rfl rfl <| gHR 8 (kidsV [d, a]) rfl (rD [d, a]) rfl ?_
 obtain ⟨hb, h⟩ := h
 refine aP 7 (.repl 3 (.row 25 4 (kidsV (b ++ [d, a])))) rfl (by kernel_rfl) (bm ab rfl rfl rfl rfl rfl (bC _ _).symm (by rw [aG]; exact hb)) (okR rfl) rfl (by kernel_rfl) rfl rfl ?_
 refine gDr [(8, 0), (9, 1)] (by kernel_rfl) rfl rfl <| gDe (by kernel_rfl) <| gR 8 rfl <| gFR 9 rfl (bo _) rfl rfl ?_
 obtain ⟨rfl, rfl, rfl⟩ := h
 exact go_sub (F' := (mkF 47 0 [(2, .ptr 1 0)])) (H' := ⟨2, [(1, vF ((Tree.node 2 f [] (b ++ [d, a])).kind) ((Tree.node 2 f [] (b ++ [d, a])).text) ((Tree.node 2 f [] (b ++ [d, a])).leads) ((Tree.node 2 f [] (b ++ [d, a])).kids)), (0, vC i k)]⟩) [0, 1] [0] rfl hK pq1 ⟨⟨_, rfl, rfl, (.cons .rfl (.cons .rfl (.cons (.nil 1) (.cons .rfl .nil))))⟩, (pqo1 rfl rfl)⟩ rfl <| go_endD [1] ab (rs := [.cell 2 25]) rfl rfl ⟨rfl, rfl⟩
def dA (m : Nat) (p1 : Tree) (b : List Int) (c : Int) (d : (List (List UInt8))) (e : Nat) (r0 : Tree) (f : List Int) (a : Int) : Prop := ∀ (K : Ctx) (j1 : Nat), av K [0] → m ≤ j1 → qLG K Tryz.f62 (fun u G => u = .agg (ai r0) ∧ G = ⟨2, [(0, vC f a)]⟩) (xL (ac Tryz.f62)) [.loop (xL (ac Tryz.f62)) j1, .blk 0, .seq (xH (ac Tryz.f62))] 53 (mkF 53 0 [(0, .ptr 0 0), (3, .ptr 1 0), (4, .ptr 2 0), (5, .int .i64 (e : Int))]) ⟨4, [(3, .row 9 1 (List.map V.str d)), (2, vB 0 []), (1, .var 25 [.int .i64 p1.kind, .str p1.text, .sl 3, .row 4 (kidsV p1.kids)]), (0, vC b c)]⟩
def ey (m : Nat) (p1 : Tree) (b : List Int) (c : Int) (d : List Tree) (e : Nat) (f : (List (List UInt8))) (r0 : Tree) (g : List Int) (a : Int) : Prop := ∀ (K : Ctx) (j1 : Nat), av K [0] → m ≤ j1 → qLG K Tryz.f62 (fun u G => u = .agg (ai r0) ∧ G = ⟨2, [(0, vC g a)]⟩) (xL (xA (ac Tryz.f62))) [.loop (xL (xA (ac Tryz.f62))) j1, .blk 2, .seq (xN (ac Tryz.f62))] 53 (mkF 53 0 [(0, .ptr 0 0), (3, .ptr 1 0), (4, .ptr 2 0), (6, .int .i64 (e : Int))]) ⟨5, [(4, .row 25 4 (kidsV d)), (3, .row 9 1 (List.map V.str f)), (2, vB 0 []), (1, vG p1.kind p1.text), (0, vC b c)]⟩
theorem rN (m : Nat) (c : List Int) (a : Int) (p1 r0 : Tree) (d : List Int) (b : Int) (h : p1.leads.length ≤ 1000000000 ∧ dA m p1 c a p1.leads 0 r0 d b) : gQ c a p1 r0 d b := by
 refine am 53 [0] Tryz.func62 rfl rfl rfl (aM rfl) fun K hK => ?_
 refine gR 11 rfl ?_
 obtain ⟨hb, h⟩ := h
 exact gDo (.repl 3 (.row 9 1 (List.map V.str p1.leads))) (bm ab rfl rfl rfl rfl rfl (List.nil_append _) (by rw [aZ]; exact hb)) (okR rfl) rfl rfl rfl <| gR 11 rfl <| go_loop m <| gJ (h K _ hK (by omega)) [0, 1, 2, 4] [0] rfl hK pq4 ⟨⟨_, rfl, rfl, rfl, (vK _ p1.leads).symm⟩, (pqo3 rfl rfl rfl rfl rfl rfl)⟩ rfl
theorem jB (m : Nat) (p1 : Tree) (l : List Int) (n : Int) (a : (List (List UInt8))) (b : Nat) (r0 : Tree) (e : List Int) (d : Int) (h : ((b < a.length) → ∃ g i k, aK l n 9 g i k ∧ ((g = 1) → ∃ c o p, bp i k [[32, 35, 32, 99, 10], [32, 32], [10, 9], [35, 10]] c o p ∧ ∃ q, a[b]? = some q ∧ dA m p1 o p (a.set b c) (b + 1) r0 e d) ∧ ((g ≠ 1) → dA m p1 i k a (b + 1) r0 e d)) ∧ ((¬ b < a.length) → p1.kids.length ≤ 1000000000 ∧ ey m p1 l n p1.kids 0 a r0 e d)) : dA (m + 1) p1 l n a b r0 e d := by
 intro K j1 hK hj1
 obtain ⟨j1, rfl⟩ : ∃ j, j1 = j + 1 := ⟨j1 - 1, by omega⟩
 refine gR 7 rfl <| gV 15 (.int .i64 (a.length : Int)) rfl (bx (aZ V.str _)) rfl <| gLO 3 rfl (aZ V.str _) fun hl16 => gR 3 rfl <| gB 16 rfl rfl rfl ?_ ?_ <;> intro hd
 replace hd := (fg hd)
 replace h := h.1 hd
 refine gR 8 rfl ?_
 obtain ⟨g, i, k, hs17, h⟩ := h
 refine gCY hs17 [0] ?_
 refine gR 3 rfl <| gB 21 rfl rfl rfl ?_ ?_ <;> intro hd
 replace hd := (eq_of_beq hd)
 replace h := h.1 hd
 refine gR 1 rfl <| gDs [1] 7 8 rfl (by kernel_rfl) (by kernel_rfl) <| gDr [(0, 2), (1, 3), (2, 2), (3, 2), (4, 0)] (by kernel_rfl) rfl rfl <| gFR 5 rfl rfl rfl rfl ?_
 obtain ⟨c, o, p, hs18, h⟩ := h
 refine gDCY 5 hs18 [0] rfl ?_
 obtain ⟨q, hxs1_7, h⟩ := h
 refine bA 6 rfl (by kernel_rfl) (yIO ab rfl rfl rfl rfl (by have := (mapget (f := V.str) hxs1_7); exact (List.getElem?_eq_some_iff.1 this).1)) rfl rfl ?_
 refine aP 7 (.set 3 (.row 9 1 (List.map V.str (a.set b c)))) rfl (by kernel_rfl) (dSe ab rfl rfl rfl rfl (mapget (f := V.str) hxs1_7) rfl (cg V.str a b c)) (okS rfl) rfl (by kernel_rfl) rfl rfl ?_
 exact gDe (by kernel_rfl) <| gR 5 rfl <| gV 18 (.int .i64 ((b + 1 : Nat) : Int)) rfl (ax (by have := hl16; omega) (by omega)) rfl <| gR 2 rfl <| go_xloop <| gJ (h K _ hK (by omega)) [0, 1, 2, 3] [0] rfl hK pq4 ⟨⟨_, rfl, rfl, rfl, (vK _ (a.set b c)).symm⟩, (pqo3 rfl rfl rfl rfl rfl rfl)⟩ rfl
 replace hd := (ne_of_beq_false hd)
 replace h := h.2 hd
 exact gR 7 rfl <| gV 18 (.int .i64 ((b + 1 : Nat) : Int)) rfl (ax (by have := hl16; omega) (by omega)) rfl <| gR 2 rfl <| go_xloop <| gJ (h K _ hK (by omega)) [0, 1, 2, 3] [0] rfl hK pq4 ⟨⟨_, rfl, rfl, rfl, (vK _ a).symm⟩, (pqo3 rfl rfl rfl rfl rfl rfl)⟩ rfl
 replace hd := (fc hd)
 replace h := h.2 hd
 refine gR 3 rfl <| go_xloopE <| gR 7 rfl ?_
 obtain ⟨hb, h⟩ := h
 exact gDo (.repl 4 (.row 25 4 (kidsV p1.kids))) (bm ab rfl rfl rfl rfl rfl (List.nil_append _) (by rw [aG]; exact hb)) (okR rfl) rfl rfl rfl <| gR 11 rfl <| go_loop m <| gJ (h K _ hK (by omega)) [0, 1, 2, 3, 5] [0] rfl hK pq4 ⟨⟨_, rfl, rfl, rfl, (aC _ p1.kids).symm⟩, ⟨_, rfl, rfl, rfl, (vK _ a).symm⟩, (pqo3 rfl rfl rfl rfl rfl rfl)⟩ rfl
theorem nq (m : Nat) (p1 : Tree) (f : List Int) (g : Int) (a : List Tree) (b : Nat) (c : (List (List UInt8))) (r0 : Tree) (i : List Int) (e : Int) (h : ((b < a.length) → ∃ k, a[b]? = some k ∧ ∃ d l n, gQ f g k d l n ∧ ∃ o, a[b]? = some o ∧ ey m p1 l n (a.set b d) (b + 1) c r0 i e) ∧ ((¬ b < a.length) → (Tree.node p1.kind p1.text c a) = r0 ∧ f = i ∧ g = e)) : ey (m + 1) p1 f g a b c r0 i e := by
 intro K j1 hK hj1
 obtain ⟨j1, rfl⟩ : ∃ j, j1 = j + 1 := ⟨j1 - 1, by omega⟩
 refine gR 7 rfl <| gV 37 (.int .i64 (a.length : Int)) rfl (bx (aG _)) rfl <| gLO 4 rfl (aG _) fun hl19 => gR 3 rfl <| gB 38 rfl rfl rfl ?_ ?_ <;> intro hd
 replace hd := (fg hd)
 replace h := h.1 hd
 refine gR 5 rfl <| gDs [1, 4] 11 12 rfl (by kernel_rfl) (by kernel_rfl) <| gDr [(0, 2), (1, 3), (2, 2), (3, 2), (4, 2), (5, 3), (6, 0)] (by kernel_rfl) rfl rfl ?_
 obtain ⟨k, hxt2_1, h⟩ := h
 refine bA 7 rfl (by kernel_rfl) (yIO ab rfl rfl rfl rfl (by have := (aj hxt2_1); exact (List.getElem?_eq_some_iff.1 this).1)) rfl rfl ?_
 refine aP 8 (.nop) rfl (by kernel_rfl) (dLe ab rfl rfl rfl (aj hxt2_1) rfl) trivial rfl (by kernel_rfl) rfl rfl ?_
 obtain ⟨d, l, n, hs20, h⟩ := h
 refine gDCY 9 hs20 [0] rfl ?_
 obtain ⟨o, hxt2_5, h⟩ := h
 refine bA 10 rfl (by kernel_rfl) (yIO ab rfl rfl rfl rfl (by have := (aj hxt2_5); exact (List.getElem?_eq_some_iff.1 this).1)) rfl rfl ?_
 refine aP 11 (.set 4 (.row 25 4 (kidsV (a.set b d)))) rfl (by kernel_rfl) (dSe ab rfl rfl rfl rfl (aj hxt2_5) rfl (gG a b d)) (okS rfl) rfl (by kernel_rfl) rfl rfl ?_
 exact gDe (by kernel_rfl) <| gR 5 rfl <| gV 40 (.int .i64 ((b + 1 : Nat) : Int)) rfl (ax (by have := hl19; omega) (by omega)) rfl <| gR 2 rfl <| go_xloop <| gJ (h K _ hK (by omega)) [0, 1, 2, 3, 4] [0] rfl hK pq4 ⟨⟨_, rfl, rfl, rfl, (aC _ (a.set b d)).symm⟩, ⟨_, rfl, rfl, rfl, (vK _ c).symm⟩, (pqo3 rfl rfl rfl rfl rfl rfl)⟩ rfl
 replace hd := (fc hd)
 replace h := h.2 hd
 refine gR 3 rfl <| go_xloopE <| gR 9 rfl <| gFR 3 rfl (cb _ (fun _ => rfl) _) rfl rfl <| gFR 4 rfl (bo _) rfl rfl ?_
 obtain ⟨rfl, rfl, rfl⟩ := h
 exact go_sub (F' := (mkF 53 0 [(4, .ptr 1 0)])) (H' := ⟨2, [(1, vF ((Tree.node p1.kind p1.text c a).kind) ((Tree.node p1.kind p1.text c a).text) ((Tree.node p1.kind p1.text c a).leads) ((Tree.node p1.kind p1.text c a).kids)), (0, vC f g)]⟩) [0, 2] [0] rfl hK pq1 (pqo2 rfl rfl rfl rfl) rfl <| go_endD [1] ab (rs := [.cell 4 25]) rfl rfl ⟨rfl, rfl⟩
def fS (m : Nat) (p1 : List UInt8) (b : List Int) (c : Int) (d : List Tree) (e : Int) (r0 : Tree) (f : List Int) (a : Int) : Prop := ∀ (K : Ctx) (j1 : Nat), av K [0] → m ≤ j1 → qLG K Tryz.f33 (fun u G => u = .agg (ai r0) ∧ G = ⟨2, [(0, vC f a)]⟩) (xL (ac Tryz.f33)) [.loop (xL (ac Tryz.f33)) j1, .blk 0, .seq (xH (ac Tryz.f33))] 31 (mkF 31 0 [(0, .ptr 0 0), (4, .ptr 1 0), (5, .ptr 2 0), (6, .int .i64 e)]) ⟨4, [(3, .row 25 4 (kidsV d)), (2, .var 25 [.int .i64 1, .str p1, .nils, .sl 3]), (1, vB 0 []), (0, vC b c)]⟩
theorem ri (m : Nat) (f : List Int) (a : Int) (p1 : List UInt8) (r0 : Tree) (g : List Int) (b : Int) (h : ∃ c d e, aK f a 4 c d e ∧ fS m p1 d e ([] : List Tree) c r0 g b) : jI f a p1 r0 g b := by
 refine am 31 [0] Tryz.func33 rfl rfl rfl (aM rfl) fun K hK => ?_
 refine gR 17 rfl ?_
 obtain ⟨c, d, e, hs11, h⟩ := h
 refine gCY hs11 [0] ?_
 exact gR 4 rfl <| go_loop m <| gNC 2 3 25 4 rfl rfl rfl rfl <| gJ (h K _ hK (by omega)) [0, 1, 2, 4] [0] rfl hK pq4 ⟨⟨_, rfl, rfl, rfl, rfl⟩, (pqo3 rfl rfl rfl rfl rfl rfl)⟩ rfl
theorem jm (m : Nat) (p1 : List UInt8) (p : List Int) (q : Int) (c : List Tree) (e : Int) (r0 : Tree) (l : List Int) (f : Int) (h : ((0 < e) → ∃ a r s, me p q a r s ∧ (c ++ [a]).length ≤ 1000000000 ∧ InI (e - 1) ∧ fS m p1 r s (c ++ [a]) (e - 1) r0 l f) ∧ ((¬ 0 < e) → ∃ b, iO (Tree.node 1 p1 [] c) b ∧ ∃ n i k, aK p q 2 n i k ∧ ((n = 0) → ∃ d o g, gQ i k b d o g ∧ d = r0 ∧ o = l ∧ g = f) ∧ ((n ≠ 0) → b = r0 ∧ i = l ∧ k = f))) : fS (m + 1) p1 p q c e r0 l f := by
 intro K j1 hK hj1
 obtain ⟨j1, rfl⟩ : ∃ j, j1 = j + 1 := ⟨j1 - 1, by omega⟩
 refine gR 7 rfl <| gB 12 rfl rfl rfl ?_ ?_ <;> intro hd
 replace hd := (of_decide_eq_true hd)
 replace h := h.1 hd
 refine gR 5 rfl <| gDs [2] 7 8 rfl (by kernel_rfl) (by kernel_rfl) <| gDr [(0, 2), (1, 3), (2, 0)] (by kernel_rfl) rfl rfl ?_
 obtain ⟨a, r, s, hs12, h⟩ := h
 refine gDCY 3 hs12 [0] rfl ?_
 refine gDr [(4, 0)] (by kernel_rfl) rfl rfl <| gHR 6 (kidsV [a]) rfl (cI a) rfl ?_
 obtain ⟨hb, h⟩ := h
 refine aP 5 (.repl 3 (.row 25 4 (kidsV (c ++ [a])))) rfl (by kernel_rfl) (bm ab rfl rfl rfl rfl rfl (bC c [a]).symm (by rw [aG]; exact hb)) (okR rfl) rfl (by kernel_rfl) rfl rfl ?_
 refine gDr [(6, 0), (7, 1)] (by kernel_rfl) rfl rfl <| gDe (by kernel_rfl) <| gR 4 rfl ?_
 obtain ⟨hb, h⟩ := h
 exact gR 1 rfl <| gV 14 (.int .i64 (e - 1)) rfl (ax hb rfl) rfl <| gR 2 rfl <| go_xloop <| gJ (h K _ hK (by omega)) [0, 1, 2, 7] [0] rfl hK pq4 ⟨⟨_, rfl, rfl, rfl, (aC _ (c ++ [a])).symm⟩, (pqo3 rfl rfl rfl rfl rfl rfl)⟩ rfl
 replace hd := (of_decide_eq_false hd)
 replace h := h.2 hd
 refine gR 3 rfl <| go_xloopE <| gR 5 rfl <| gFR 3 rfl (bo _) rfl rfl ?_
 obtain ⟨b, hs13, h⟩ := h
 refine gC0 hs13 (by kernel_rfl) rfl rfl (.cons (.agg (.cons .rfl (.cons .rfl (.cons (.nil 1) (.cons .rfl .nil))))) .nil) rfl <| gR 7 rfl ?_
 obtain ⟨n, i, k, hs14, h⟩ := h
 refine gCY hs14 [0] ?_
 refine gR 3 rfl <| gB 26 rfl rfl rfl ?_ ?_ <;> intro hd
 replace hd := (eq_of_beq hd)
 replace h := h.1 hd
 refine gR 4 rfl ?_
 obtain ⟨d, o, g, hs15, h⟩ := h
 refine gCY hs15 [0] ?_
 refine gR 10 rfl ?_
 obtain ⟨rfl, rfl, rfl⟩ := h
 exact go_sub (F' := (mkF 31 0 [(4, .ptr 1 0)])) (H' := ⟨2, [(1, vF d.kind d.text d.leads d.kids), (0, vC o g)]⟩) [0, 1] [0] rfl hK pq1 (pqo2 rfl rfl rfl rfl) rfl <| go_endD [1] ab (rs := [.cell 4 25]) rfl rfl ⟨rfl, rfl⟩
 replace hd := (ne_of_beq_false hd)
 replace h := h.2 hd
 refine gR 10 rfl ?_
 obtain ⟨rfl, rfl, rfl⟩ := h
 exact go_sub (F' := (mkF 31 0 [(4, .ptr 1 0)])) (H' := ⟨2, [(1, vF b.kind b.text b.leads b.kids), (0, vC i k)]⟩) [0, 1] [0] rfl hK pq1 (pqo2 rfl rfl rfl rfl) rfl <| go_endD [1] ab (rs := [.cell 4 25]) rfl rfl ⟨rfl, rfl⟩
def bO (m : Nat) (a : List Int) (b : Int) (c : List Tree) (d : Int) (r0 : List Tree) : Prop := ∀ (K : Ctx) (j1 : Nat), av K [] → m ≤ j1 → qLG K Tryz.f14 (fun u _ => u = .row 4 (kidsV r0)) (xL (xA (ac Tryz.f14))) [.loop (xL (xA (ac Tryz.f14))) j1, .blk 0, .seq (xN (ac Tryz.f14))] 35 (mkF 35 0 [(3, .ptr 0 0), (4, .sl 1), (5, .sl 2), (6, .int .i64 d)]) ⟨3, [(2, .row 9 1 [.str [65], .str [66], .str [67]]), (1, .row 25 4 (kidsV c)), (0, vC a b)]⟩
theorem qK (m : Nat) (p0 : List Int) (r0 : List Tree) (h : ∃ a b, oA p0 a b ∧ ∃ c d e, aK a b 4 c d e ∧ bO m d e ([] : List Tree) c r0) : jv p0 r0 := by
 refine ⟨rfl, rfl, ?_⟩
 refine am 35 [] Tryz.func14 rfl rfl rfl (aM rfl) fun K hK => ?_
 refine gR 8 rfl ?_
 obtain ⟨a, b, hs14, h⟩ := h
 refine gC hs14 [] (by kernel_rfl) rfl rfl .rfl trivial rfl ?_
 rintro _ _ ⟨rfl, rfl⟩
 refine gR 18 rfl ?_
 obtain ⟨c, d, e, hs15, h⟩ := h
 refine gCY hs15 [0] ?_
 exact gR 4 rfl <| go_loop m <| gNS 4 25 4 rfl rfl rfl rfl <| gJ (h K _ hK (by omega)) [0, 3, 1] [] rfl hK pq4 ⟨⟨_, rfl, rfl, rfl, rfl⟩, ⟨_, rfl, rfl, rfl, rfl⟩, (pqo1 rfl rfl)⟩ rfl
theorem iA (m : Nat) (p : List Int) (q : Int) (b : List Tree) (c : Int) (r0 : List Tree) (h : ((0 < c) → ∃ l, [[65], [66], [67]][b.length]? = some l ∧ ∃ a n o, jI p q l a n o ∧ ∃ g d e, aK n o 8 g d e ∧ ((g = 7) → ∃ i, dB (Tree.node a.kind [65] a.leads a.kids) i ∧ ((i = true) → (b ++ [(Tree.node a.kind [65] a.leads a.kids)]).length ≤ 1000000000 ∧ InI (c - 1) ∧ bO m d e (b ++ [(Tree.node a.kind [65] a.leads a.kids)]) (c - 1) r0) ∧ ((i = false) → InI (c - 1) ∧ bO m d e b (c - 1) r0)) ∧ ((g ≠ 7) → ∃ k, dB a k ∧ ((k = true) → (b ++ [a]).length ≤ 1000000000 ∧ InI (c - 1) ∧ bO m d e (b ++ [a]) (c - 1) r0) ∧ ((k = false) → InI (c - 1) ∧ bO m d e b (c - 1) r0))) ∧ ((¬ 0 < c) → b = r0)) : bO (m + 1) p q b c r0 := by
 intro K j1 hK hj1
 obtain ⟨j1, rfl⟩ : ∃ j, j1 = j + 1 := ⟨j1 - 1, by omega⟩
 refine gR 7 rfl <| gB 14 rfl rfl rfl ?_ ?_ <;> intro hd
 replace hd := (of_decide_eq_true hd)
 replace h := h.1 hd
 refine gR 11 rfl <| gV 20 (.int .i64 (b.length : Int)) rfl (bx (aG _)) rfl <| gLO 1 rfl (aG _) fun hl16 => ?_
 obtain ⟨l, hxs1_1, h⟩ := h
 refine gY (yIO ab rfl rfl rfl rfl (by have := (mapget (f := V.str) hxs1_1); exact (List.getElem?_eq_some_iff.1 this).1)) rfl rfl ?_
 refine gDo (.nop) (dLe ab rfl rfl rfl (mapget (f := V.str) hxs1_1) rfl) trivial rfl rfl rfl ?_
 obtain ⟨a, n, o, hs17, h⟩ := h
 refine gCY hs17 [0] ?_
 refine gR 8 rfl ?_
 obtain ⟨g, d, e, hs18, h⟩ := h
 refine gCY hs18 [0] ?_
 refine gR 3 rfl <| gB 26 rfl rfl rfl ?_ ?_ <;> intro hd
 replace hd := (eq_of_beq hd)
 replace h := h.1 hd
 refine gR 9 rfl ?_
 obtain ⟨i, hs19, h⟩ := h
 refine gC0 hs19 (by kernel_rfl) rfl rfl .rfl rfl <| gR 2 rfl <| gB 29 rfl rfl rfl ?_ ?_ <;> intro hd
 replace h := h.1 hd
 refine gR 5 rfl <| gHR 7 (kidsV [(Tree.node a.kind [65] a.leads a.kids)]) rfl (cI (Tree.node a.kind [65] a.leads a.kids)) rfl ?_
 obtain ⟨hb, h⟩ := h
 refine gDo (.repl 1 (.row 25 4 (kidsV (b ++ [(Tree.node a.kind [65] a.leads a.kids)])))) (bm ab rfl rfl rfl rfl rfl (bC b [(Tree.node a.kind [65] a.leads a.kids)]).symm (by rw [aG]; exact hb)) (okR rfl) rfl rfl rfl <| gR 6 rfl ?_
 obtain ⟨hb, h⟩ := h
 exact gR 1 rfl <| gV 16 (.int .i64 (c - 1)) rfl (ax hb rfl) rfl <| gR 2 rfl <| go_xloop <| gJ (h K _ hK (by omega)) [0, 8, 2] [] rfl hK pq4 ⟨⟨_, rfl, rfl, rfl, rfl⟩, ⟨_, rfl, rfl, rfl, (aC _ (b ++ [(Tree.node a.kind [65] a.leads a.kids)])).symm⟩, (pqo1 rfl rfl)⟩ rfl
 replace h := h.2 hd
 refine gR 6 rfl ?_
 obtain ⟨hb, h⟩ := h
 exact gR 1 rfl <| gV 16 (.int .i64 (c - 1)) rfl (ax hb rfl) rfl <| gR 2 rfl <| go_xloop <| gJ (h K _ hK (by omega)) [0, 1, 2] [] rfl hK pq4 ⟨⟨_, rfl, rfl, rfl, rfl⟩, ⟨_, rfl, rfl, rfl, (aC _ b).symm⟩, (pqo1 rfl rfl)⟩ rfl
 replace hd := (ne_of_beq_false hd)
 replace h := h.2 hd
 refine gR 6 rfl ?_
 obtain ⟨k, hs20, h⟩ := h
 refine gC0 hs20 (by kernel_rfl) rfl rfl .rfl rfl <| gR 2 rfl <| gB 29 rfl rfl rfl ?_ ?_ <;> intro hd
 replace h := h.1 hd
 refine gR 5 rfl <| gHR 7 (kidsV [a]) rfl (cI a) rfl ?_
 obtain ⟨hb, h⟩ := h
 refine gDo (.repl 1 (.row 25 4 (kidsV (b ++ [a])))) (bm ab rfl rfl rfl rfl rfl (bC b [a]).symm (by rw [aG]; exact hb)) (okR rfl) rfl rfl rfl <| gR 6 rfl ?_
 obtain ⟨hb, h⟩ := h
 exact gR 1 rfl <| gV 16 (.int .i64 (c - 1)) rfl (ax hb rfl) rfl <| gR 2 rfl <| go_xloop <| gJ (h K _ hK (by omega)) [0, 8, 2] [] rfl hK pq4 ⟨⟨_, rfl, rfl, rfl, rfl⟩, ⟨_, rfl, rfl, rfl, (aC _ (b ++ [a])).symm⟩, (pqo1 rfl rfl)⟩ rfl
 replace h := h.2 hd
 refine gR 6 rfl ?_
 obtain ⟨hb, h⟩ := h
 exact gR 1 rfl <| gV 16 (.int .i64 (c - 1)) rfl (ax hb rfl) rfl <| gR 2 rfl <| go_xloop <| gJ (h K _ hK (by omega)) [0, 1, 2] [] rfl hK pq4 ⟨⟨_, rfl, rfl, rfl, rfl⟩, ⟨_, rfl, rfl, rfl, (aC _ b).symm⟩, (pqo1 rfl rfl)⟩ rfl
 replace hd := (of_decide_eq_false hd)
 replace h := h.2 hd
 refine gR 3 rfl <| go_xloopE <| gR 9 rfl <| gFR 1 rfl (bo _) rfl rfl ?_
 subst h
 exact go_end ab (rs := [.tmp 2]) rfl rfl rfl
theorem kR (m : Nat) (b : List Int) (a p1 r0 : Int) (g : List Int) (c : Int) (h : (((b.length : Int) ≤ a) → 0 = r0 ∧ b = g ∧ a = c) ∧ ((¬ (b.length : Int) ≤ a) → InI (a + 1) ∧ InI ((a + 1) - 1) ∧ ∃ d, ((a + 1) - 1) = ((d : Nat) : Int) ∧ ∃ i, b[d]? = some i ∧ ∃ e, mj i p1 e ∧ e = r0 ∧ b = g ∧ (a + 1) = c)) : aK b a p1 r0 g c := by
 refine am 35 [0] Tryz.func32 rfl rfl rfl (aM rfl) fun K hK => ?_
 refine gR 7 rfl <| gDs [0] 10 10 rfl (by kernel_rfl) (by kernel_rfl) <| gDr [(0, 2), (1, 2), (2, 2), (3, 3), (4, 0), (5, 0), (6, 0), (7, 0), (8, 0)] (by kernel_rfl) rfl rfl <| gV 13 (.int .i64 (b.length : Int)) rfl (bx (aZ (V.int .i64) _)) rfl <| gLB 12 rfl (aZ (V.int .i64) _) fun hl9 => gDr [(9, 0)] (by kernel_rfl) rfl rfl <| gDe (by kernel_rfl) <| gR 1 rfl <| qBd 14 rfl rfl rfl h (fun h => ?_) fun h => ?_
 refine gR 8 rfl ?_
 obtain ⟨rfl, rfl, rfl⟩ := h
 exact go_sub (F' := (mkF 35 0 [(4, .int .i64 0)])) (H' := ⟨1, [(0, vC b a)]⟩) [0] [0] rfl hK pq1 (pqo1 rfl rfl) rfl <| go_endD [] ab (rs := [.tmp 4]) rfl rfl ⟨rfl, rfl⟩
 refine gR 9 rfl ?_
 obtain ⟨hb, h⟩ := h
 refine gR 1 rfl <| gV 19 (.int .i64 (a + 1)) rfl (ax hb rfl) rfl <| gR 6 rfl <| gDs [0] 13 14 rfl (by kernel_rfl) (by kernel_rfl) <| gDr [(0, 2), (1, 2), (2, 2), (3, 3), (4, 2), (5, 2), (6, 2), (7, 3)] (by kernel_rfl) rfl rfl ?_
 obtain ⟨hb, h⟩ := h
 refine gDr [(8, 2)] (by kernel_rfl) rfl rfl <| gV 30 (.int .i64 ((a + 1) - 1)) rfl (ax hb rfl) rfl ?_
 obtain ⟨d, j, h⟩ := h
 refine gV 30 (.int .i64 ((d : Nat) : Int)) rfl (fP j) rfl ?_
 obtain ⟨i, hxn0_2, h⟩ := h
 refine gYd 9 rfl (by kernel_rfl) (az (mapget (f := (V.int .i64)) hxn0_2) ab rfl rfl rfl rfl) rfl rfl <| gDr [(10, 2), (11, 0)] (by kernel_rfl) rfl rfl ?_
 obtain ⟨e, hs10, h⟩ := h
 refine bW 12 hs10 (by kernel_rfl) rfl (by kernel_rfl) rfl rfl .rfl rfl rfl ?_
 refine gDr [(13, 1)] (by kernel_rfl) rfl rfl <| gDe (by kernel_rfl) <| gR 2 rfl ?_
 obtain ⟨rfl, rfl, rfl⟩ := h
 exact go_sub (F' := (mkF 35 0 [(4, .int .i64 e)])) (H' := ⟨1, [(0, vC b (a + 1))]⟩) [0] [0] rfl hK pq1 (pqo1 rfl rfl) rfl <| go_endD [] ab (rs := [.tmp 4]) rfl rfl ⟨rfl, rfl⟩
def fw (m : Nat) (p0 : Int) (a : (List (List UInt8))) (b : Nat) (r0 : (List (List UInt8))) : Prop := ∀ (K : Ctx) (j1 : Nat), av K [] → m ≤ j1 → qLG K Tryz.f113 (fun u G => u = .sl 0 ∧ G = ⟨1, [(0, .row 9 1 (List.map V.str r0))]⟩) (xL (ac Tryz.f113)) [.loop (xL (ac Tryz.f113)) j1, .blk 0, .seq (xH (ac Tryz.f113))] 14 (mkF 14 0 [(0, .int .i64 p0), (3, .sl 0), (4, .int .i64 (b : Int))]) ⟨1, [(0, .row 9 1 (List.map V.str a))]⟩
theorem qE (m : Nat) (p0 : Int) (r0 : (List (List UInt8))) (h : fw m p0 ([] : List (List UInt8)) 0 r0) : jw p0 r0 := by
 refine am 14 [] Tryz.func113 rfl rfl rfl (aM rfl) fun K hK => ?_
 exact gR 17 rfl <| go_loop m <| gNS 3 9 1 rfl rfl rfl rfl <| gJ (h K _ hK (by omega)) [0] [] rfl hK pq3 ⟨⟨_, rfl, rfl, rfl, rfl⟩, trivial⟩ rfl
theorem io (m : Nat) (p0 : Int) (a : (List (List UInt8))) (b : Nat) (r0 : (List (List UInt8))) (h : (((b : Int) < p0) → (a ++ [[32]]).length ≤ 1000000000 ∧ b + 1 ≤ 9223372036854775807 ∧ fw m p0 (a ++ [[32]]) (b + 1) r0) ∧ ((¬ (b : Int) < p0) → a = r0)) : fw (m + 1) p0 a b r0 := by
 intro K j1 hK hj1
 obtain ⟨j1, rfl⟩ : ∃ j, j1 = j + 1 := ⟨j1 - 1, by omega⟩
 refine gR 8 rfl <| gB 7 rfl rfl rfl ?_ ?_ <;> intro hd
 replace hd := (of_decide_eq_true hd)
 replace h := h.1 hd
 refine gR 8 rfl ?_
 obtain ⟨hb, h⟩ := h
 refine gDo (.repl 0 (.row 9 1 (List.map V.str (a ++ [[32]])))) (bm ab rfl rfl rfl rfl rfl (apM V.str a [32]) (by rw [aZ]; exact hb)) (okR rfl) rfl rfl rfl <| gR 6 rfl ?_
 obtain ⟨hb, h⟩ := h
 exact gR 1 rfl <| gV 9 (.int .i64 ((b + 1 : Nat) : Int)) rfl (ax (by omega) (by omega)) rfl <| gR 2 rfl <| go_xloop <| gJ (h K _ hK (by omega)) [2] [] rfl hK pq3 ⟨⟨_, rfl, rfl, rfl, (vK _ (a ++ [[32]])).symm⟩, trivial⟩ rfl
 replace hd := (of_decide_eq_false hd)
 replace h := h.2 hd
 refine gR 3 rfl <| go_xloopE <| gR 9 rfl ?_
 subst h
 exact go_sub (F' := (mkF 14 0 [(2, .sl 0)])) (H' := ⟨1, [(0, .row 9 1 (List.map V.str a))]⟩) [0] [] rfl hK pq1 ⟨⟨_, rfl, rfl, rfl, (vK _ a).symm⟩, trivial⟩ rfl <| go_endD [] ab (rs := [.tmp 2]) rfl rfl ⟨rfl, rfl⟩
def dP (m : Nat) (p0 : Tree) (p2 : List UInt8) (a : Bool) (r0 : List UInt8) : Prop := ∀ (K : Ctx), av K [] → qLG K Tryz.f114 (fun u _ => u = .str r0) (cB (xG (ac Tryz.f114))) [.blk 1, .seq (xH (ac Tryz.f114))] 31 (mkF 31 0 [(2, .str p2), (3, .box (ai p0) 0), (15, .int .i64 p0.kind), (16, .bool a)]) ⟨0, []⟩
theorem qo (m : Nat) (p0 : Tree) (p1 : Int) (p2 r0 : List UInt8) (h : ((p0.kind = 1) → [10, 10] = r0) ∧ ((p0.kind ≠ 1) → ((0 < p1) → [32] = r0) ∧ ((¬ 0 < p1) → ((p0.kind = 8) → dP m p0 p2 true r0) ∧ ((p0.kind ≠ 8) → ((p0.kind = 22) → dP m p0 p2 true r0) ∧ ((p0.kind ≠ 22) → ((p0.kind = 16) → dP m p0 p2 true r0) ∧ ((p0.kind ≠ 16) → dP m p0 p2 (p0.kind == 18) r0)))))) : jz p0 p1 p2 r0 := by
 refine ⟨rfl, rfl, ?_⟩
 refine am 31 [] Tryz.func114 rfl rfl rfl (aM rfl) fun K hK => ?_
 refine gR 3 rfl <| gFP 0 rfl rfl rfl rfl <| gR 13 rfl <| qBeZ 7 10 rfl rfl rfl rfl h (fun h => ?_) fun h => ?_
 refine gR 9 rfl ?_
 subst h
 exact go_end ab (rs := [.tmp 6]) rfl rfl rfl
 refine gR 8 rfl <| qBdZ 11 13 rfl rfl rfl rfl h (fun h => ?_) fun h => ?_
 refine gR 9 rfl ?_
 subst h
 exact go_end ab (rs := [.tmp 6]) rfl rfl rfl
 refine gR 19 rfl <| qBeZ 16 17 rfl rfl rfl rfl h (fun h => ?_) fun h => ?_
 exact gR 3 rfl <| gJ (h K hK) [] [] rfl hK pq4 trivial rfl
 refine gR 7 rfl <| qBeZ 16 18 rfl rfl rfl rfl h (fun h => ?_) fun h => ?_
 exact gR 3 rfl <| gJ (h K hK) [] [] rfl hK pq4 trivial rfl
 refine gR 7 rfl <| qBeZ 16 19 rfl rfl rfl rfl h (fun h => ?_) fun h => ?_
 exact gR 3 rfl <| gJ (h K hK) [] [] rfl hK pq4 trivial rfl
 exact gR 6 rfl <| gJ (h K hK) [] [] rfl hK pq4 trivial rfl
theorem qe (m : Nat) (p0 : Tree) (p2 : List UInt8) (a : Bool) (r0 : List UInt8) (h : ((a = true) → [] = r0) ∧ ((a = false) → ((p0.kind = 2) → ((2 < (p0.kids.length : Int)) → [] = r0) ∧ ((¬ 2 < (p0.kids.length : Int)) → [32] = r0)) ∧ ((p0.kind ≠ 2) → ((p0.kind = 17) → p2 = r0) ∧ ((p0.kind ≠ 17) → ((p0.kind = 21) → p2 = r0) ∧ ((p0.kind ≠ 21) → [32] = r0))))) : dP (m + 1) p0 p2 a r0 := by
 intro K hK
 refine qBi 16 rfl rfl rfl h (fun h => ?_) fun h => ?_
 refine gR 9 rfl ?_
 subst h
 exact go_end ab (rs := [.tmp 6]) rfl rfl rfl
 refine gR 7 rfl <| qBeZ 21 22 rfl rfl rfl rfl h (fun h => ?_) fun h => ?_
 refine gR 6 rfl <| gV 25 (.int .i64 (p0.kids.length : Int)) rfl (bx (aG _)) rfl <| gLB 24 rfl (aG _) fun hl3 => gR 3 rfl <| qBd 26 rfl rfl rfl h (fun h => ?_) fun h => ?_
 refine gR 9 rfl ?_
 subst h
 exact go_end ab (rs := [.tmp 6]) rfl rfl rfl
 refine gR 10 rfl ?_
 subst h
 exact go_end ab (rs := [.tmp 6]) rfl rfl rfl
 refine gR 8 rfl <| qBeZ 27 28 rfl rfl rfl rfl h (fun h => ?_) fun h => ?_
 refine gR 13 rfl ?_
 subst h
 exact go_end ab (rs := [.tmp 6]) rfl rfl rfl
 refine gR 6 rfl <| qBeZ 27 29 rfl rfl rfl rfl h (fun h => ?_) fun h => ?_
 refine gR 10 rfl ?_
 subst h
 exact go_end ab (rs := [.tmp 6]) rfl rfl rfl
 refine gR 10 rfl ?_
 subst h
 exact go_end ab (rs := [.tmp 6]) rfl rfl rfl
def lV (m : Nat) (p0 : Tree) (p1 : List UInt8) (a : (List (List UInt8))) (r0 : Tree) : Prop := ∀ (K : Ctx), av K [] → Go Tryz.prog K (bodyPost Tryz.prog Tryz.f92 (SP K (fun u _ => u = .agg (ai r0)))) (.ex .normal) [.seq (xH (ac Tryz.f92))] 109 (mkF 109 0 [(1, .str p1), (2, .box (ai p0) 0), (4, .ptr 0 0), (5, .int .i64 (p0.kids.length : Int)), (6, .ptr 1 0)]) ⟨3, [(2, .row 9 1 (List.map V.str a)), (1, .var 25 [.int .i64 p0.kind, .str p0.text, .sl 2, .nils]), (0, vB 0 [])]⟩
def dE (m : Nat) (p0 : Tree) (p1 : List UInt8) (a : (List (List UInt8))) (b : List Tree) (c : Nat) (r0 : Tree) : Prop := ∀ (K : Ctx) (j1 : Nat), av K [] → m ≤ j1 → qLG K Tryz.f92 (fun u _ => u = .agg (ai r0)) (xL (xA (ac Tryz.f92))) [.loop (xL (xA (ac Tryz.f92))) j1, .blk 0, .seq (xN (ac Tryz.f92))] 109 (mkF 109 0 [(1, .str p1), (2, .box (ai p0) 0), (4, .ptr 0 0), (5, .int .i64 (p0.kids.length : Int)), (6, .ptr 1 0), (7, .sl 2), (8, .int .i64 (c : Int))]) ⟨4, [(3, .row 9 1 (List.map V.str a)), (2, .row 25 4 (kidsV b)), (1, vH p0.kind p0.text), (0, vB 0 [])]⟩
def dC (m : Nat) (p0 : Tree) (a : (List (List UInt8))) (b : List Tree) (r0 : Tree) : Prop := ∀ (K : Ctx), av K [] → qLG K Tryz.f92 (fun u _ => u = .agg (ai r0)) (xJ (xA (ac Tryz.f92))) [] 109 (mkF 109 0 [(2, .box (ai p0) 0), (4, .ptr 0 0), (6, .ptr 1 0), (7, .sl 2)]) ⟨4, [(3, .row 9 1 (List.map V.str a)), (2, .row 25 4 (kidsV b)), (1, vH p0.kind p0.text), (0, vB 0 [])]⟩
def eN (m : Nat) (p0 : Tree) (a : (List (List UInt8))) (b : Nat) (c : List Tree) (r0 : Tree) : Prop := ∀ (K : Ctx) (j1 : Nat), av K [] → m ≤ j1 → qLG K Tryz.f92 (fun u _ => u = .agg (ai r0)) (cL (cK (xA (xI (xK (xJ (ac Tryz.f92))))))) [.loop (cL (cK (xA (xI (xK (xJ (ac Tryz.f92))))))) j1, .blk 3, .blk 2, .seq (xJ (xH (ac Tryz.f92)))] 109 (mkF 109 0 [(4, .ptr 0 0), (6, .ptr 1 0), (7, .sl 2), (9, .int .i64 (b : Int))]) ⟨4, [(3, .row 9 1 (List.map V.str a)), (2, .row 25 4 (kidsV c)), (1, vH p0.kind p0.text), (0, vB 0 [])]⟩
def dG (m : Nat) (p0 : Tree) (a : (List (List UInt8))) (b : Nat) (c : List Tree) (r0 : Tree) : Prop := ∀ (K : Ctx) (j1 : Nat), av K [] → m ≤ j1 → qLG K Tryz.f92 (fun u _ => u = .agg (ai r0)) (cL (xE (xI (xC (xK (xJ (ac Tryz.f92))))))) [.loop (cL (xE (xI (xC (xK (xJ (ac Tryz.f92))))))) j1, .blk 5, .blk 2, .seq (xJ (xH (ac Tryz.f92)))] 109 (mkF 109 0 [(4, .ptr 0 0), (6, .ptr 1 0), (7, .sl 2), (10, .int .i64 (b : Int))]) ⟨4, [(3, .row 9 1 (List.map V.str a)), (2, .row 25 4 (kidsV c)), (1, vH p0.kind p0.text), (0, vB 0 [])]⟩
theorem pW (m : Nat) (p0 : Tree) (p1 : List UInt8) (r0 : Tree) (h : ∃ b, eF p0.kind (p0.kids.length : Int) b ∧ ∃ a, jw b a ∧ lV m p0 p1 a r0) : fx p0 p1 r0 := by
 refine ⟨rfl, rfl, ?_⟩
 refine am 109 [] Tryz.func92 rfl rfl rfl (aM rfl) fun K hK => ?_
 refine gR 3 rfl <| gFP 0 rfl rfl rfl rfl <| gR 8 rfl <| gV 13 (.int .i64 (p0.kids.length : Int)) rfl (bx (aG _)) rfl <| gLB 12 rfl (aG _) fun hl31 => gR 4 rfl <| gDs [] 11 12 rfl (by kernel_rfl) (by kernel_rfl) <| gDr [(0, 2), (1, 2), (2, 2), (3, 2), (4, 2), (5, 2), (6, 2)] (by kernel_rfl) rfl rfl ?_
 obtain ⟨b, hs32, h⟩ := h
 apply mh (i := 7) (j := 10) (by kernel_rfl) rfl rfl rfl rfl
 exact (sq (L' := []) (by kernel_rfl) rfl rfl (zT hs32 .rfl [] rfl) (.inl rfl))
 exact (jp ab rfl rfl)
 obtain ⟨a, hs33, h⟩ := h
 apply mh (i := 8) (j := 10) (by kernel_rfl) rfl rfl rfl rfl
 exact (sq (L' := []) (by kernel_rfl) rfl rfl (vn (H := ⟨2, [(1, vB 0 [])]⟩) hs33 [] .rfl trivial rfl [] rfl) (.inl rfl))
 exact (jp ab rfl rfl)
 exact gHR 2 (List.map V.str a) rfl (vK _ a) rfl <| gDr [(9, 2), (10, 0), (11, 1)] (by kernel_rfl) rfl rfl <| gDe (by kernel_rfl) <| gJ (h K hK) [1, 3, 2] [] rfl hK pq5 ⟨⟨_, rfl, rfl, rfl, (vK _ a).symm⟩, (pqo2 rfl rfl rfl rfl)⟩ rfl
 refine gDC 8 hs33 [] (by kernel_rfl) rfl (by kernel_rfl) rfl rfl .rfl trivial (by kernel_rfl) rfl ?_
 rintro _ _ ⟨rfl, rfl⟩
 exact gHR 3 (List.map V.str a) rfl (vK _ a) rfl <| gDr [(9, 0), (11, 1)] (by kernel_rfl) rfl rfl <| gDe (by kernel_rfl) <| gJ (h K hK) [1, 2, 3] [] rfl hK pq5 ⟨⟨_, rfl, rfl, rfl, (vK _ a).symm⟩, (pqo2 rfl rfl rfl rfl)⟩ rfl
 refine bW 7 hs32 (by kernel_rfl) rfl (by kernel_rfl) rfl rfl .rfl rfl rfl ?_
 obtain ⟨a, hs34, h⟩ := h
 refine gDC 8 hs34 [] (by kernel_rfl) rfl (by kernel_rfl) rfl rfl .rfl trivial (by kernel_rfl) rfl ?_
 rintro _ _ ⟨rfl, rfl⟩
 exact gHR 3 (List.map V.str a) rfl (vK _ a) rfl <| gDr [(9, 0), (11, 1)] (by kernel_rfl) rfl rfl <| gDe (by kernel_rfl) <| gJ (h K hK) [1, 2, 3] [] rfl hK pq5 ⟨⟨_, rfl, rfl, rfl, (vK _ a).symm⟩, (pqo2 rfl rfl rfl rfl)⟩ rfl
theorem pw (m : Nat) (p0 : Tree) (p1 : List UInt8) (a : (List (List UInt8))) (r0 : Tree) (h : p0.kids.length ≤ 1000000000 ∧ dE m p0 p1 a (List.replicate p0.kids.length (Tree.node 0 [] [] [])) 0 r0) : lV (m + 1) p0 p1 a r0 := by
 intro K hK
 refine gR 4 rfl ?_
 obtain ⟨hb, h⟩ := h
 exact gDo (.new (.row 25 4 (List.replicate p0.kids.length (.agg [.int .i64 0, .str [], .nils, .nils])))) (dMk ab rfl rfl rfl rfl rfl rfl rfl (by kernel_rfl) hb) trivial rfl rfl rfl <| gHW 3 (List.replicate p0.kids.length (.agg [.int .i64 0, .str [], .row 1 [], .row 4 (kidsV [])])) rfl rfl (ar.rep (.agg (.cons .rfl (.cons .rfl (.cons (.nil 1) (.cons (.nil 4) .nil))))) _) rfl <| gHR 3 (kidsV (List.replicate p0.kids.length (Tree.node 0 [] [] []))) rfl (by first | (simp only [bk, List.map_replicate]; done) | (simp only [bk, List.map_replicate]; rfl)) rfl <| gR 10 rfl <| go_loop m <| gJ (h K _ hK (by omega)) [0, 1, 3, 2] [] rfl hK pq7 ⟨⟨_, rfl, rfl, rfl, (vK _ a).symm⟩, ⟨_, rfl, rfl, rfl, (aC _ (List.replicate p0.kids.length (Tree.node 0 [] [] []))).symm⟩, (pqo2 rfl rfl rfl rfl)⟩ rfl
theorem ei (m : Nat) (p0 : Tree) (p1 : List UInt8) (b : (List (List UInt8))) (c : List Tree) (a : Nat) (r0 : Tree) (h : ((a < p0.kids.length) → ∃ e, p0.kids[a]? = some e ∧ ∃ g, jz p0 (a : Int) p1 g ∧ ∃ d, fx e g d ∧ ∃ i, c[a]? = some i ∧ a + 1 ≤ 9223372036854775807 ∧ dE m p0 p1 b (c.set a d) (a + 1) r0) ∧ ((¬ a < p0.kids.length) → ((p0.kind ≠ 17) → ((p0.kind ≠ 21) → ∃ k, b[0]? = some k ∧ dC m p0 (b.set 0 p1) c r0) ∧ ((p0.kind = 21) → dC m p0 b c r0)) ∧ ((p0.kind = 17) → dC m p0 b c r0))) : dE (m + 1) p0 p1 b c a r0 := by
 intro K j1 hK hj1
 obtain ⟨j1, rfl⟩ : ∃ j, j1 = j + 1 := ⟨j1 - 1, by omega⟩
 refine gR 8 rfl <| gB 28 rfl rfl rfl ?_ ?_ <;> intro hd
 replace hd := (fg hd)
 replace h := h.1 hd
 refine gR 5 rfl <| gDs [] 13 14 rfl (by kernel_rfl) (by kernel_rfl) <| gDr [(0, 2), (1, 2), (2, 2), (3, 2), (4, 2)] (by kernel_rfl) rfl rfl ?_
 obtain ⟨e, hxt2_1, h⟩ := h
 refine gYd 5 rfl (by kernel_rfl) (az (aj hxt2_1) ab rfl rfl rfl rfl) rfl rfl <| gDr [(6, 2), (7, 2), (8, 2), (9, 0)] (by kernel_rfl) rfl rfl ?_
 obtain ⟨g, hs35, h⟩ := h
 refine bW 10 hs35 (by kernel_rfl) rfl (by kernel_rfl) rfl rfl .rfl rfl rfl ?_
 obtain ⟨d, hs36, h⟩ := h
 refine bW 11 hs36 (by kernel_rfl) rfl (by kernel_rfl) rfl rfl .rfl rfl rfl ?_
 obtain ⟨i, hxt2_4, h⟩ := h
 refine bA 12 rfl (by kernel_rfl) (yIO ab rfl rfl rfl rfl (by have := (aj hxt2_4); exact (List.getElem?_eq_some_iff.1 this).1)) rfl rfl ?_
 refine aP 13 (.set 2 (.row 25 4 (kidsV (c.set a d)))) rfl (by kernel_rfl) (dSe ab rfl rfl rfl rfl (aj hxt2_4) rfl (gG c a d)) (okS rfl) rfl (by kernel_rfl) rfl rfl ?_
 refine gDe (by kernel_rfl) <| gR 4 rfl ?_
 obtain ⟨hb, h⟩ := h
 exact gR 1 rfl <| gV 30 (.int .i64 ((a + 1 : Nat) : Int)) rfl (ax (by omega) (by omega)) rfl <| gR 2 rfl <| go_xloop <| gJ (h K _ hK (by omega)) [0, 1, 2, 3] [] rfl hK pq7 ⟨⟨_, rfl, rfl, rfl, (vK _ b).symm⟩, ⟨_, rfl, rfl, rfl, (aC _ (c.set a d)).symm⟩, (pqo2 rfl rfl rfl rfl)⟩ rfl
 replace hd := (fc hd)
 replace h := h.2 hd
 refine gR 3 rfl <| go_xloopE <| gR 9 rfl <| gB 47 rfl rfl rfl ?_ ?_ <;> intro hd
 refine gT 46 rfl hd rfl ?_
 replace hd := (fh hd)
 replace h := h.1 hd
 refine gR 6 rfl <| gB 51 rfl rfl rfl ?_ ?_ <;> intro hd
 replace hd := (fh hd)
 replace h := h.1 hd
 refine gR 5 rfl ?_
 obtain ⟨k, hxs2_5, h⟩ := h
 refine gY (yIO ab rfl rfl rfl rfl (by have := (mapget (f := V.str) hxs2_5); exact (List.getElem?_eq_some_iff.1 this).1)) rfl rfl ?_
 exact gDo (.set 3 (.row 9 1 (List.map V.str (b.set 0 p1)))) (dSe ab rfl rfl rfl rfl (mapget (f := V.str) hxs2_5) rfl (cg V.str b 0 p1)) (okS rfl) rfl rfl rfl <| gR 2 rfl <| gJ (h K hK) [0, 1, 2, 3] [] rfl hK pq4 ⟨⟨_, rfl, rfl, rfl, (vK _ (b.set 0 p1)).symm⟩, ⟨_, rfl, rfl, rfl, (aC _ c).symm⟩, (pqo2 rfl rfl rfl rfl)⟩ rfl
 replace hd := (dz hd)
 replace h := h.2 hd
 exact gR 3 rfl <| gJ (h K hK) [0, 1, 2, 3] [] rfl hK pq4 ⟨⟨_, rfl, rfl, rfl, (vK _ b).symm⟩, ⟨_, rfl, rfl, rfl, (aC _ c).symm⟩, (pqo2 rfl rfl rfl rfl)⟩ rfl
 refine gF 46 rfl hd rfl ?_
 replace hd := (dz hd)
 replace h := h.2 hd
 exact gR 9 rfl <| gJ (h K hK) [0, 1, 2, 3] [] rfl hK pq4 ⟨⟨_, rfl, rfl, rfl, (vK _ b).symm⟩, ⟨_, rfl, rfl, rfl, (aC _ c).symm⟩, (pqo2 rfl rfl rfl rfl)⟩ rfl
theorem bQ (m : Nat) (p0 : Tree) (a : (List (List UInt8))) (b : List Tree) (r0 : Tree) (h : ((p0.kind = 1) → ∃ c, a[2]? = some c ∧ (Tree.node p0.kind p0.text (a.set 2 [10]) b) = r0) ∧ ((p0.kind ≠ 1) → ((p0.kind = 2) → ∃ d, a[2]? = some d ∧ ∃ e, (a.set 2 [])[3]? = some e ∧ ∃ g, ((a.set 2 []).set 3 [])[4]? = some g ∧ eN m p0 (((a.set 2 []).set 3 []).set 4 []) 6 b r0) ∧ ((p0.kind ≠ 2) → ((p0.kind = 4) → ∃ i, a[1]? = some i ∧ (Tree.node p0.kind p0.text (a.set 1 []) b) = r0) ∧ ((p0.kind ≠ 4) → ((p0.kind = 8) → ∃ j, a[1]? = some j ∧ (Tree.node p0.kind p0.text (a.set 1 []) b) = r0) ∧ ((p0.kind ≠ 8) → ((p0.kind = 22) → ∃ k, a[1]? = some k ∧ (Tree.node p0.kind p0.text (a.set 1 []) b) = r0) ∧ ((p0.kind ≠ 22) → ((p0.kind = 16) → dG m p0 a 1 b r0) ∧ ((p0.kind ≠ 16) → ((p0.kind = 18) → dG m p0 a 1 b r0) ∧ ((p0.kind ≠ 18) → (Tree.node p0.kind p0.text a b) = r0)))))))) : dC (m + 1) p0 a b r0 := by
 intro K hK
 refine gR 14 rfl <| gB 58 rfl rfl rfl ?_ ?_ <;> intro hd
 refine gT 59 rfl hd rfl ?_
 replace hd := (eq_of_beq hd)
 replace h := h.1 hd
 refine gR 4 rfl ?_
 obtain ⟨c, hxs3_1, h⟩ := h
 refine gY (yIO ab rfl rfl rfl rfl (by have := (mapget (f := V.str) hxs3_1); exact (List.getElem?_eq_some_iff.1 this).1)) rfl rfl ?_
 refine gDo (.set 3 (.row 9 1 (List.map V.str (a.set 2 [10])))) (dSe ab rfl rfl rfl rfl (mapget (f := V.str) hxs3_1) rfl (cg V.str a 2 [10])) (okS rfl) rfl rfl rfl <| gR 17 rfl <| gFR 3 rfl (cb _ (fun _ => rfl) _) rfl rfl <| gFR 2 rfl (bo _) rfl rfl ?_
 subst h
 exact go_sub (F' := (mkF 109 0 [(4, .ptr 0 0)])) (H' := ⟨1, [(0, vF ((Tree.node p0.kind p0.text (a.set 2 [10]) b).kind) ((Tree.node p0.kind p0.text (a.set 2 [10]) b).text) ((Tree.node p0.kind p0.text (a.set 2 [10]) b).leads) ((Tree.node p0.kind p0.text (a.set 2 [10]) b).kids))]⟩) [0] [] rfl hK pq1 (pqo1 rfl rfl) rfl <| go_end ab (rs := [.cell 4 25]) rfl rfl rfl
 refine gF 59 rfl hd rfl ?_
 replace hd := (ne_of_beq_false hd)
 replace h := h.2 hd
 refine gR 7 rfl <| gB 63 rfl rfl rfl ?_ ?_ <;> intro hd
 refine gT 64 rfl hd rfl ?_
 replace hd := (eq_of_beq hd)
 replace h := h.1 hd
 refine gR 2 rfl <| gDs [1] 11 12 rfl (by kernel_rfl) (by kernel_rfl) <| gDr [(0, 2), (1, 3), (2, 2), (3, 3), (4, 2), (5, 3)] (by kernel_rfl) rfl rfl ?_
 obtain ⟨d, hxs3_2, h⟩ := h
 refine bA 6 rfl (by kernel_rfl) (yIO ab rfl rfl rfl rfl (by have := (mapget (f := V.str) hxs3_2); exact (List.getElem?_eq_some_iff.1 this).1)) rfl rfl ?_
 refine aP 7 (.set 3 (.row 9 1 (List.map V.str (a.set 2 [])))) rfl (by kernel_rfl) (dSe ab rfl rfl rfl rfl (mapget (f := V.str) hxs3_2) rfl (cg V.str a 2 [])) (okS rfl) rfl (by kernel_rfl) rfl rfl ?_
 obtain ⟨e, hxs3_3, h⟩ := h
 refine bA 8 rfl (by kernel_rfl) (yIO ab rfl rfl rfl rfl (by have := (mapget (f := V.str) hxs3_3); exact (List.getElem?_eq_some_iff.1 this).1)) rfl rfl ?_
 refine aP 9 (.set 3 (.row 9 1 (List.map V.str ((a.set 2 []).set 3 [])))) rfl (by kernel_rfl) (dSe ab rfl rfl rfl rfl (mapget (f := V.str) hxs3_3) rfl (cg V.str (a.set 2 []) 3 [])) (okS rfl) rfl (by kernel_rfl) rfl rfl ?_
 obtain ⟨g, hxs3_4, h⟩ := h
 refine bA 10 rfl (by kernel_rfl) (yIO ab rfl rfl rfl rfl (by have := (mapget (f := V.str) hxs3_4); exact (List.getElem?_eq_some_iff.1 this).1)) rfl rfl ?_
 refine aP 11 (.set 3 (.row 9 1 (List.map V.str (((a.set 2 []).set 3 []).set 4 [])))) rfl (by kernel_rfl) (dSe ab rfl rfl rfl rfl (mapget (f := V.str) hxs3_4) rfl (cg V.str ((a.set 2 []).set 3 []) 4 [])) (okS rfl) rfl (by kernel_rfl) rfl rfl ?_
 exact gDe (by kernel_rfl) <| gR 7 rfl <| go_loop m <| gJ (h K _ hK (by omega)) [0, 1, 2, 3] [] rfl hK pq4 ⟨⟨_, rfl, rfl, rfl, (vK _ (((a.set 2 []).set 3 []).set 4 [])).symm⟩, ⟨_, rfl, rfl, rfl, (aC _ b).symm⟩, (pqo2 rfl rfl rfl rfl)⟩ rfl
 refine gF 64 rfl hd rfl ?_
 replace hd := (ne_of_beq_false hd)
 replace h := h.2 hd
 refine gR 8 rfl <| gB 85 rfl rfl rfl ?_ ?_ <;> intro hd
 refine gT 86 rfl hd rfl ?_
 replace hd := (eq_of_beq hd)
 replace h := h.1 hd
 refine gR 7 rfl ?_
 obtain ⟨i, hxs3_5, h⟩ := h
 refine gY (yIO ab rfl rfl rfl rfl (by have := (mapget (f := V.str) hxs3_5); exact (List.getElem?_eq_some_iff.1 this).1)) rfl rfl ?_
 refine gDo (.set 3 (.row 9 1 (List.map V.str (a.set 1 [])))) (dSe ab rfl rfl rfl rfl (mapget (f := V.str) hxs3_5) rfl (cg V.str a 1 [])) (okS rfl) rfl rfl rfl <| gR 17 rfl <| gFR 3 rfl (cb _ (fun _ => rfl) _) rfl rfl <| gFR 2 rfl (bo _) rfl rfl ?_
 subst h
 exact go_sub (F' := (mkF 109 0 [(4, .ptr 0 0)])) (H' := ⟨1, [(0, vF ((Tree.node p0.kind p0.text (a.set 1 []) b).kind) ((Tree.node p0.kind p0.text (a.set 1 []) b).text) ((Tree.node p0.kind p0.text (a.set 1 []) b).leads) ((Tree.node p0.kind p0.text (a.set 1 []) b).kids))]⟩) [0] [] rfl hK pq1 (pqo1 rfl rfl) rfl <| go_end ab (rs := [.cell 4 25]) rfl rfl rfl
 refine gF 86 rfl hd rfl ?_
 replace hd := (ne_of_beq_false hd)
 replace h := h.2 hd
 refine gR 7 rfl <| gB 85 rfl rfl rfl ?_ ?_ <;> intro hd
 refine gT 87 rfl hd rfl ?_
 replace hd := (eq_of_beq hd)
 replace h := h.1 hd
 refine gR 7 rfl ?_
 obtain ⟨j, hxs3_6, h⟩ := h
 refine gY (yIO ab rfl rfl rfl rfl (by have := (mapget (f := V.str) hxs3_6); exact (List.getElem?_eq_some_iff.1 this).1)) rfl rfl ?_
 refine gDo (.set 3 (.row 9 1 (List.map V.str (a.set 1 [])))) (dSe ab rfl rfl rfl rfl (mapget (f := V.str) hxs3_6) rfl (cg V.str a 1 [])) (okS rfl) rfl rfl rfl <| gR 17 rfl <| gFR 3 rfl (cb _ (fun _ => rfl) _) rfl rfl <| gFR 2 rfl (bo _) rfl rfl ?_
 subst h
 exact go_sub (F' := (mkF 109 0 [(4, .ptr 0 0)])) (H' := ⟨1, [(0, vF ((Tree.node p0.kind p0.text (a.set 1 []) b).kind) ((Tree.node p0.kind p0.text (a.set 1 []) b).text) ((Tree.node p0.kind p0.text (a.set 1 []) b).leads) ((Tree.node p0.kind p0.text (a.set 1 []) b).kids))]⟩) [0] [] rfl hK pq1 (pqo1 rfl rfl) rfl <| go_end ab (rs := [.cell 4 25]) rfl rfl rfl
 refine gF 87 rfl hd rfl ?_
 replace hd := (ne_of_beq_false hd)
 replace h := h.2 hd
 refine gR 6 rfl <| gB 85 rfl rfl rfl ?_ ?_ <;> intro hd
 refine gT 88 rfl hd rfl ?_
 replace hd := (eq_of_beq hd)
 replace h := h.1 hd
 refine gR 4 rfl ?_
 obtain ⟨k, hxs3_7, h⟩ := h
 refine gY (yIO ab rfl rfl rfl rfl (by have := (mapget (f := V.str) hxs3_7); exact (List.getElem?_eq_some_iff.1 this).1)) rfl rfl ?_
 refine gDo (.set 3 (.row 9 1 (List.map V.str (a.set 1 [])))) (dSe ab rfl rfl rfl rfl (mapget (f := V.str) hxs3_7) rfl (cg V.str a 1 [])) (okS rfl) rfl rfl rfl <| gR 17 rfl <| gFR 3 rfl (cb _ (fun _ => rfl) _) rfl rfl <| gFR 2 rfl (bo _) rfl rfl ?_
 subst h
 exact go_sub (F' := (mkF 109 0 [(4, .ptr 0 0)])) (H' := ⟨1, [(0, vF ((Tree.node p0.kind p0.text (a.set 1 []) b).kind) ((Tree.node p0.kind p0.text (a.set 1 []) b).text) ((Tree.node p0.kind p0.text (a.set 1 []) b).leads) ((Tree.node p0.kind p0.text (a.set 1 []) b).kids))]⟩) [0] [] rfl hK pq1 (pqo1 rfl rfl) rfl <| go_end ab (rs := [.cell 4 25]) rfl rfl rfl
 refine gF 88 rfl hd rfl ?_
 replace hd := (ne_of_beq_false hd)
 replace h := h.2 hd
 refine gR 8 rfl <| gB 92 rfl rfl rfl ?_ ?_ <;> intro hd
 refine gT 93 rfl hd rfl ?_
 replace hd := (eq_of_beq hd)
 replace h := h.1 hd
 exact gR 10 rfl <| go_loop m <| gJ (h K _ hK (by omega)) [0, 1, 2, 3] [] rfl hK pq4 ⟨⟨_, rfl, rfl, rfl, (vK _ a).symm⟩, ⟨_, rfl, rfl, rfl, (aC _ b).symm⟩, (pqo2 rfl rfl rfl rfl)⟩ rfl
 refine gF 93 rfl hd rfl ?_
 replace hd := (ne_of_beq_false hd)
 replace h := h.2 hd
 refine gR 6 rfl <| gB 92 rfl rfl rfl ?_ ?_ <;> intro hd
 refine gT 94 rfl hd rfl ?_
 replace hd := (eq_of_beq hd)
 replace h := h.1 hd
 exact gR 7 rfl <| go_loop m <| gJ (h K _ hK (by omega)) [0, 1, 2, 3] [] rfl hK pq4 ⟨⟨_, rfl, rfl, rfl, (vK _ a).symm⟩, ⟨_, rfl, rfl, rfl, (aC _ b).symm⟩, (pqo2 rfl rfl rfl rfl)⟩ rfl
 refine gF 94 rfl hd rfl ?_
 replace hd := (ne_of_beq_false hd)
 replace h := h.2 hd
 refine gR 18 rfl <| gFR 3 rfl (cb _ (fun _ => rfl) _) rfl rfl <| gFR 2 rfl (bo _) rfl rfl ?_
 subst h
 exact go_sub (F' := (mkF 109 0 [(4, .ptr 0 0)])) (H' := ⟨1, [(0, vF ((Tree.node p0.kind p0.text a b).kind) ((Tree.node p0.kind p0.text a b).text) ((Tree.node p0.kind p0.text a b).leads) ((Tree.node p0.kind p0.text a b).kids))]⟩) [0] [] rfl hK pq1 (pqo1 rfl rfl) rfl <| go_end ab (rs := [.cell 4 25]) rfl rfl rfl
theorem gD (m : Nat) (p0 : Tree) (a : (List (List UInt8))) (b : Nat) (c : List Tree) (r0 : Tree) (h : ((b < a.length) → ∃ d, a[b]? = some d ∧ eN m p0 (a.set b []) (b + 1) c r0) ∧ ((¬ b < a.length) → (Tree.node p0.kind p0.text a c) = r0)) : eN (m + 1) p0 a b c r0 := by
 intro K j1 hK hj1
 obtain ⟨j1, rfl⟩ : ∃ j, j1 = j + 1 := ⟨j1 - 1, by omega⟩
 refine gR 7 rfl <| gV 77 (.int .i64 (a.length : Int)) rfl (bx (aZ V.str _)) rfl <| gLO 3 rfl (aZ V.str _) fun hl37 => gR 3 rfl <| gB 78 rfl rfl rfl ?_ ?_ <;> intro hd
 replace hd := (fg hd)
 replace h := h.1 hd
 refine gR 9 rfl ?_
 obtain ⟨d, hxs4_1, h⟩ := h
 refine gY (yIO ab rfl rfl rfl rfl (by have := (mapget (f := V.str) hxs4_1); exact (List.getElem?_eq_some_iff.1 this).1)) rfl rfl ?_
 exact gDo (.set 3 (.row 9 1 (List.map V.str (a.set b [])))) (dSe ab rfl rfl rfl rfl (mapget (f := V.str) hxs4_1) rfl (cg V.str a b [])) (okS rfl) rfl rfl rfl <| gR 6 rfl <| gV 80 (.int .i64 ((b + 1 : Nat) : Int)) rfl (ax (by have := hl37; omega) (by omega)) rfl <| gR 2 rfl <| go_xloop <| gJ (h K _ hK (by omega)) [0, 1, 2, 3] [] rfl hK pq4 ⟨⟨_, rfl, rfl, rfl, (vK _ (a.set b [])).symm⟩, ⟨_, rfl, rfl, rfl, (aC _ c).symm⟩, (pqo2 rfl rfl rfl rfl)⟩ rfl
 replace hd := (fc hd)
 replace h := h.2 hd
 refine gR 3 rfl <| go_xloopE <| gR 17 rfl <| gFR 3 rfl (cb _ (fun _ => rfl) _) rfl rfl <| gFR 2 rfl (bo _) rfl rfl ?_
 subst h
 exact go_sub (F' := (mkF 109 0 [(4, .ptr 0 0)])) (H' := ⟨1, [(0, vF ((Tree.node p0.kind p0.text a c).kind) ((Tree.node p0.kind p0.text a c).text) ((Tree.node p0.kind p0.text a c).leads) ((Tree.node p0.kind p0.text a c).kids))]⟩) [0] [] rfl hK pq1 (pqo1 rfl rfl) rfl <| go_end ab (rs := [.cell 4 25]) rfl rfl rfl
theorem gz (m : Nat) (p0 : Tree) (a : (List (List UInt8))) (b : Nat) (c : List Tree) (r0 : Tree) (h : ((b < a.length) → ∃ d, a[b]? = some d ∧ dG m p0 (a.set b []) (b + 1) c r0) ∧ ((¬ b < a.length) → (Tree.node p0.kind p0.text a c) = r0)) : dG (m + 1) p0 a b c r0 := by
 intro K j1 hK hj1
 obtain ⟨j1, rfl⟩ : ∃ j, j1 = j + 1 := ⟨j1 - 1, by omega⟩
 refine gR 7 rfl <| gV 98 (.int .i64 (a.length : Int)) rfl (bx (aZ V.str _)) rfl <| gLO 3 rfl (aZ V.str _) fun hl38 => gR 3 rfl <| gB 99 rfl rfl rfl ?_ ?_ <;> intro hd
 replace hd := (fg hd)
 replace h := h.1 hd
 refine gR 9 rfl ?_
 obtain ⟨d, hxs5_1, h⟩ := h
 refine gY (yIO ab rfl rfl rfl rfl (by have := (mapget (f := V.str) hxs5_1); exact (List.getElem?_eq_some_iff.1 this).1)) rfl rfl ?_
 exact gDo (.set 3 (.row 9 1 (List.map V.str (a.set b [])))) (dSe ab rfl rfl rfl rfl (mapget (f := V.str) hxs5_1) rfl (cg V.str a b [])) (okS rfl) rfl rfl rfl <| gR 6 rfl <| gV 101 (.int .i64 ((b + 1 : Nat) : Int)) rfl (ax (by have := hl38; omega) (by omega)) rfl <| gR 2 rfl <| go_xloop <| gJ (h K _ hK (by omega)) [0, 1, 2, 3] [] rfl hK pq4 ⟨⟨_, rfl, rfl, rfl, (vK _ (a.set b [])).symm⟩, ⟨_, rfl, rfl, rfl, (aC _ c).symm⟩, (pqo2 rfl rfl rfl rfl)⟩ rfl
 replace hd := (fc hd)
 replace h := h.2 hd
 refine gR 3 rfl <| go_xloopE <| gR 17 rfl <| gFR 3 rfl (cb _ (fun _ => rfl) _) rfl rfl <| gFR 2 rfl (bo _) rfl rfl ?_
 subst h
 exact go_sub (F' := (mkF 109 0 [(4, .ptr 0 0)])) (H' := ⟨1, [(0, vF ((Tree.node p0.kind p0.text a c).kind) ((Tree.node p0.kind p0.text a c).text) ((Tree.node p0.kind p0.text a c).leads) ((Tree.node p0.kind p0.text a c).kids))]⟩) [0] [] rfl hK pq1 (pqo1 rfl rfl) rfl <| go_end ab (rs := [.cell 4 25]) rfl rfl rfl
theorem lO (m : Nat) (p0 r0 : Tree) (h : ∃ b, ec p0 b ∧ ((b = false) → (Tree.node 0 [] [] []) = r0) ∧ ((b = true) → ∃ a, fx p0 [] a ∧ a = r0)) : iO p0 r0 := by
 refine ⟨rfl, rfl, ?_⟩
 refine am 9 [] Tryz.func61 rfl rfl rfl (aM rfl) fun K hK => ?_
 refine gR 3 rfl <| gFP 0 rfl rfl rfl rfl <| gR 7 rfl ?_
 obtain ⟨b, hs3, h⟩ := h
 refine gC0 hs3 (by kernel_rfl) rfl rfl .rfl rfl <| gR 3 rfl <| qBh 5 rfl rfl rfl h dr dn (fun h => ?_) fun h => ?_
 refine gR 9 rfl ?_
 subst h
 exact go_sub (F' := (mkF 9 0 [(2, .ptr 0 0)])) (H' := ⟨1, [(0, vF ((Tree.node 0 [] [] []).kind) ((Tree.node 0 [] [] []).text) ((Tree.node 0 [] [] []).leads) ((Tree.node 0 [] [] []).kids))]⟩) [1] [] rfl hK pq1 ⟨⟨_, rfl, rfl, (.cons .rfl (.cons .rfl (.cons (.nil 1) (.cons (.nil 4) .nil))))⟩, trivial⟩ rfl <| go_end ab (rs := [.cell 2 25]) rfl rfl rfl
 refine gR 6 rfl ?_
 obtain ⟨a, hs4, h⟩ := h
 refine gC0 hs4 (by kernel_rfl) rfl rfl .rfl rfl <| gR 4 rfl ?_
 subst h
 exact go_sub (F' := (mkF 9 0 [(2, .ptr 0 0)])) (H' := ⟨1, [(0, vF a.kind a.text a.leads a.kids)]⟩) [1] [] rfl hK pq1 (pqo1 rfl rfl) rfl <| go_end ab (rs := [.cell 2 25]) rfl rfl rfl
theorem fK (m : Nat) (p0 : Tree) (r0 : Bool) (h : ∃ a, ep p0 a ∧ ((a = true) → ∃ b, fL p0 b ∧ ((b = true) → ∃ c, ew p0 c ∧ ((c ≤ 40) → ∃ d, jM p0 d ∧ decide ((d.length : Int) ≤ 4096) = r0) ∧ ((¬ c ≤ 40) → false = r0)) ∧ ((b = false) → false = r0)) ∧ ((a = false) → false = r0)) : dB p0 r0 := by
 refine ⟨rfl, rfl, ?_⟩
 refine am 20 [] Tryz.func7 rfl rfl rfl (aM rfl) fun K hK => ?_
 refine gR 3 rfl <| gFP 0 rfl rfl rfl rfl <| gR 6 rfl ?_
 obtain ⟨a, hs5, h⟩ := h
 refine gC0 hs5 (by kernel_rfl) rfl rfl .rfl rfl <| gR 1 rfl <| qBiZ 5 4 rfl rfl rfl rfl h (fun h => ?_) fun h => ?_
 refine gR 1 rfl ?_
 obtain ⟨b, hs6, h⟩ := h
 refine gC0 hs6 (by kernel_rfl) rfl rfl .rfl rfl <| gR 2 rfl <| qBiZ 9 8 rfl rfl rfl rfl h (fun h => ?_) fun h => ?_
 refine gR 1 rfl ?_
 obtain ⟨c, hs7, h⟩ := h
 refine gC0 hs7 (by kernel_rfl) rfl rfl .rfl rfl <| gR 3 rfl <| qBdZ 14 13 rfl rfl rfl rfl h (fun h => ?_) fun h => ?_
 refine gR 1 rfl ?_
 obtain ⟨d, hs8, h⟩ := h
 refine gC0 hs8 (by kernel_rfl) rfl rfl .rfl rfl <| gR 7 rfl ?_
 subst h
 exact go_end ab (rs := [.tmp 2]) rfl rfl rfl
 refine gR 9 rfl ?_
 subst h
 exact go_end ab (rs := [.tmp 2]) rfl rfl rfl
 refine gR 14 rfl ?_
 subst h
 exact go_end ab (rs := [.tmp 2]) rfl rfl rfl
 refine gR 18 rfl ?_
 subst h
 exact go_end ab (rs := [.tmp 2]) rfl rfl rfl
theorem pb (m : Nat) (p0 : Tree) (r0 : Bool) (h : ∃ a, ec p0 a ∧ ((a = true) → ∃ b, gp p0 b ∧ b = r0) ∧ ((a = false) → false = r0)) : ep p0 r0 := by
 refine ⟨rfl, rfl, ?_⟩
 refine am 9 [] Tryz.func19 rfl rfl rfl (aM rfl) fun K hK => ?_
 refine gR 3 rfl <| gFP 0 rfl rfl rfl rfl <| gR 6 rfl ?_
 obtain ⟨a, hs3, h⟩ := h
 refine gC0 hs3 (by kernel_rfl) rfl rfl .rfl rfl <| gR 1 rfl <| qBiZ 5 4 rfl rfl rfl rfl h (fun h => ?_) fun h => ?_
 refine gR 1 rfl ?_
 obtain ⟨b, hs4, h⟩ := h
 refine gC0 hs4 (by kernel_rfl) rfl rfl .rfl rfl <| gR 5 rfl ?_
 subst h
 exact go_end ab (rs := [.tmp 2]) rfl rfl rfl
 refine gR 7 rfl ?_
 subst h
 exact go_end ab (rs := [.tmp 2]) rfl rfl rfl
def dp (m : Nat) (p0 : Tree) (a : Nat) (r0 : Bool) : Prop := ∀ (K : Ctx) (j1 : Nat), av K [] → m ≤ j1 → qLG K Tryz.f40 (fun u _ => u = .bool r0) (xL (ac Tryz.f40)) [.loop (xL (ac Tryz.f40)) j1, .blk 0, .seq (xH (ac Tryz.f40))] 50 (mkF 50 0 [(1, .box (ai p0) 0), (3, .int .i64 (a : Int))]) ⟨0, []⟩
def dW (m : Nat) (p0 : Tree) (a : Nat) (r0 : Bool) : Prop := ∀ (K : Ctx) (j1 : Nat), av K [] → m ≤ j1 → qLG K Tryz.f40 (fun u _ => u = .bool r0) (xL (cB (ac Tryz.f40))) [.loop (xL (cB (ac Tryz.f40))) j1, .blk 2, .seq (xJ (ac Tryz.f40))] 50 (mkF 50 0 [(1, .box (ai p0) 0), (4, .int .i64 (a : Int))]) ⟨0, []⟩
theorem nc (m : Nat) (p0 : Tree) (r0 : Bool) (h : ∃ a, eF p0.kind (p0.kids.length : Int) a ∧ (((p0.leads.length : Int) ≠ a) → false = r0) ∧ (((p0.leads.length : Int) = a) → dp m p0 0 r0)) : gp p0 r0 := by
 refine ⟨rfl, rfl, ?_⟩
 refine am 50 [] Tryz.func40 rfl rfl rfl (aM rfl) fun K hK => ?_
 refine gR 3 rfl <| gFP 0 rfl rfl rfl rfl <| gR 5 rfl <| gDs [] 10 10 rfl (by kernel_rfl) (by kernel_rfl) <| gDr [(0, 2), (1, 2), (2, 2)] (by kernel_rfl) rfl rfl <| gV 7 (.int .i64 (p0.leads.length : Int)) rfl (bx (aZ V.str _)) rfl <| gLB 6 rfl (aZ V.str _) fun hl35 => gDr [(3, 2), (4, 2), (5, 0), (6, 0), (7, 0)] (by kernel_rfl) rfl rfl <| gV 12 (.int .i64 (p0.kids.length : Int)) rfl (bx (aG _)) rfl <| gLB 11 rfl (aG _) fun hl36 => ?_
 obtain ⟨a, hs37, h⟩ := h
 refine bW 8 hs37 (by kernel_rfl) rfl (by kernel_rfl) rfl rfl .rfl rfl rfl ?_
 refine gDr [(9, 0)] (by kernel_rfl) rfl rfl <| gDe (by kernel_rfl) <| gR 1 rfl <| gB 14 rfl rfl rfl ?_ ?_ <;> intro hd
 replace hd := (fh hd)
 replace h := h.1 hd
 refine gR 8 rfl ?_
 subst h
 exact go_end ab (rs := [.tmp 2]) rfl rfl rfl
 replace hd := (dz hd)
 replace h := h.2 hd
 exact gR 10 rfl <| go_loop m <| gJ (h K _ hK (by omega)) [] [] rfl hK pq2 trivial rfl
theorem iT (m : Nat) (p0 : Tree) (a : Nat) (r0 : Bool) (h : ((a < p0.leads.length) → ∃ b, p0.leads[a]? = some b ∧ ((p0.kind = 1) → ∃ c, jC b ((a : Int) == 2) c ∧ ((c = false) → false = r0) ∧ ((c = true) → dp m p0 (a + 1) r0)) ∧ ((p0.kind ≠ 1) → ∃ d, jC b false d ∧ ((d = false) → false = r0) ∧ ((d = true) → dp m p0 (a + 1) r0))) ∧ ((¬ a < p0.leads.length) → dW m p0 0 r0)) : dp (m + 1) p0 a r0 := by
 intro K j1 hK hj1
 obtain ⟨j1, rfl⟩ : ∃ j, j1 = j + 1 := ⟨j1 - 1, by omega⟩
 refine gR 7 rfl <| gV 18 (.int .i64 (p0.leads.length : Int)) rfl (bx (aZ V.str _)) rfl <| gLB 17 rfl (aZ V.str _) fun hl38 => gR 3 rfl <| gB 19 rfl rfl rfl ?_ ?_ <;> intro hd
 replace hd := (fg hd)
 replace h := h.1 hd
 refine gR 6 rfl <| gDs [] 14 14 rfl (by kernel_rfl) (by kernel_rfl) <| gDr [(0, 2), (1, 2), (2, 2)] (by kernel_rfl) rfl rfl ?_
 obtain ⟨b, hxs1_1, h⟩ := h
 refine gYd 3 rfl (by kernel_rfl) (az (mapget (f := V.str) hxs1_1) ab rfl rfl rfl rfl) rfl rfl <| gDr [(4, 2), (5, 0), (6, 0), (7, 0), (8, 0)] (by kernel_rfl) rfl rfl <| gB 30 rfl rfl rfl ?_ ?_ <;> intro hd
 refine gT 29 rfl hd rfl ?_
 replace hd := (eq_of_beq hd)
 replace h := h.1 hd
 refine gDr [(9, 0), (10, 0), (11, 0)] (by kernel_rfl) rfl rfl ?_
 obtain ⟨c, hs39, h⟩ := h
 refine bW 12 hs39 (by kernel_rfl) rfl (by kernel_rfl) rfl rfl .rfl rfl rfl ?_
 refine gDr [(13, 0)] (by kernel_rfl) rfl rfl <| gDe (by kernel_rfl) <| gR 1 rfl <| gB 35 rfl rfl rfl ?_ ?_ <;> intro hd
 replace hd := (dr hd)
 replace h := h.1 hd
 refine gR 9 rfl <| go_xloopR <| gR 2 rfl ?_
 subst h
 exact go_end ab (rs := [.tmp 2]) rfl rfl rfl
 replace hd := (dn hd)
 replace h := h.2 hd
 exact gR 7 rfl <| gV 21 (.int .i64 ((a + 1 : Nat) : Int)) rfl (ax (by have := hl38; omega) (by omega)) rfl <| gR 2 rfl <| go_xloop <| gJ (h K _ hK (by omega)) [] [] rfl hK pq2 trivial rfl
 refine gF 29 rfl hd rfl ?_
 replace hd := (ne_of_beq_false hd)
 replace h := h.2 hd
 refine gDr [(9, 0), (10, 0), (11, 0)] (by kernel_rfl) rfl rfl ?_
 obtain ⟨d, hs40, h⟩ := h
 refine bW 12 hs40 (by kernel_rfl) rfl (by kernel_rfl) rfl rfl .rfl rfl rfl ?_
 refine gDr [(13, 0)] (by kernel_rfl) rfl rfl <| gDe (by kernel_rfl) <| gR 1 rfl <| gB 35 rfl rfl rfl ?_ ?_ <;> intro hd
 replace hd := (dr hd)
 replace h := h.1 hd
 refine gR 9 rfl <| go_xloopR <| gR 2 rfl ?_
 subst h
 exact go_end ab (rs := [.tmp 2]) rfl rfl rfl
 replace hd := (dn hd)
 replace h := h.2 hd
 exact gR 7 rfl <| gV 21 (.int .i64 ((a + 1 : Nat) : Int)) rfl (ax (by have := hl38; omega) (by omega)) rfl <| gR 2 rfl <| go_xloop <| gJ (h K _ hK (by omega)) [] [] rfl hK pq2 trivial rfl
 replace hd := (fc hd)
 replace h := h.2 hd
 exact gR 3 rfl <| go_xloopE <| gR 9 rfl <| go_loop m <| gJ (h K _ hK (by omega)) [] [] rfl hK pq2 trivial rfl
theorem mF (m : Nat) (p0 : Tree) (a : Nat) (r0 : Bool) (h : ((a < p0.kids.length) → ∃ c, p0.kids[a]? = some c ∧ ∃ b, gp c b ∧ ((b = false) → false = r0) ∧ ((b = true) → dW m p0 (a + 1) r0)) ∧ ((¬ a < p0.kids.length) → true = r0)) : dW (m + 1) p0 a r0 := by
 intro K j1 hK hj1
 obtain ⟨j1, rfl⟩ : ∃ j, j1 = j + 1 := ⟨j1 - 1, by omega⟩
 refine gR 7 rfl <| gV 39 (.int .i64 (p0.kids.length : Int)) rfl (bx (aG _)) rfl <| gLB 38 rfl (aG _) fun hl41 => gR 3 rfl <| gB 40 rfl rfl rfl ?_ ?_ <;> intro hd
 replace hd := (fg hd)
 replace h := h.1 hd
 refine gR 10 rfl ?_
 obtain ⟨c, hxt2_1, h⟩ := h
 refine gY (az (aj hxt2_1) ab rfl rfl rfl rfl) rfl rfl <| gR 1 rfl ?_
 obtain ⟨b, hs42, h⟩ := h
 refine gC0 hs42 (by kernel_rfl) rfl rfl .rfl rfl <| gR 3 rfl <| gB 49 rfl rfl rfl ?_ ?_ <;> intro hd
 replace hd := (dr hd)
 replace h := h.1 hd
 refine gR 9 rfl <| go_xloopR <| gR 2 rfl ?_
 subst h
 exact go_end ab (rs := [.tmp 2]) rfl rfl rfl
 replace hd := (dn hd)
 replace h := h.2 hd
 exact gR 7 rfl <| gV 42 (.int .i64 ((a + 1 : Nat) : Int)) rfl (ax (by have := hl41; omega) (by omega)) rfl <| gR 2 rfl <| go_xloop <| gJ (h K _ hK (by omega)) [] [] rfl hK pq2 trivial rfl
 replace hd := (fc hd)
 replace h := h.2 hd
 refine gR 3 rfl <| go_xloopE <| gR 8 rfl ?_
 subst h
 exact go_end ab (rs := [.tmp 2]) rfl rfl rfl
def aF (m : Nat) (p0 : Tree) (a : Nat) (r0 : Bool) : Prop := ∀ (K : Ctx) (j1 : Nat), av K [] → m ≤ j1 → qLG K Tryz.f20 (fun u _ => u = .bool r0) (xL (cB (ac Tryz.f20))) [.loop (xL (cB (ac Tryz.f20))) j1, .blk 0, .seq (xJ (ac Tryz.f20))] 54 (mkF 54 0 [(1, .box (ai p0) 0), (3, .int .i64 (p0.kids.length : Int)), (4, .int .i64 (a : Int))]) ⟨0, []⟩
theorem mG (m : Nat) (p0 : Tree) (r0 : Bool) (h : ((p0.kind = 1) → ((40 < (p0.kids.length : Int)) → false = r0) ∧ ((¬ 40 < (p0.kids.length : Int)) → ((p0.kind = 2) → ((10 < (p0.kids.length : Int)) → false = r0) ∧ ((¬ 10 < (p0.kids.length : Int)) → ((p0.kind = 16) → ((8 < (p0.kids.length : Int)) → false = r0) ∧ ((¬ 8 < (p0.kids.length : Int)) → ((p0.kind = 18) → ((16 < (p0.kids.length : Int)) → false = r0) ∧ ((¬ 16 < (p0.kids.length : Int)) → aF m p0 0 r0)) ∧ ((p0.kind ≠ 18) → aF m p0 0 r0))) ∧ ((p0.kind ≠ 16) → ((p0.kind = 18) → ((16 < (p0.kids.length : Int)) → false = r0) ∧ ((¬ 16 < (p0.kids.length : Int)) → aF m p0 0 r0)) ∧ ((p0.kind ≠ 18) → aF m p0 0 r0)))) ∧ ((p0.kind ≠ 2) → ((p0.kind = 16) → ((8 < (p0.kids.length : Int)) → false = r0) ∧ ((¬ 8 < (p0.kids.length : Int)) → ((p0.kind = 18) → ((16 < (p0.kids.length : Int)) → false = r0) ∧ ((¬ 16 < (p0.kids.length : Int)) → aF m p0 0 r0)) ∧ ((p0.kind ≠ 18) → aF m p0 0 r0))) ∧ ((p0.kind ≠ 16) → ((p0.kind = 18) → ((16 < (p0.kids.length : Int)) → false = r0) ∧ ((¬ 16 < (p0.kids.length : Int)) → aF m p0 0 r0)) ∧ ((p0.kind ≠ 18) → aF m p0 0 r0))))) ∧ ((p0.kind ≠ 1) → ((p0.kind = 2) → ((10 < (p0.kids.length : Int)) → false = r0) ∧ ((¬ 10 < (p0.kids.length : Int)) → ((p0.kind = 16) → ((8 < (p0.kids.length : Int)) → false = r0) ∧ ((¬ 8 < (p0.kids.length : Int)) → ((p0.kind = 18) → ((16 < (p0.kids.length : Int)) → false = r0) ∧ ((¬ 16 < (p0.kids.length : Int)) → aF m p0 0 r0)) ∧ ((p0.kind ≠ 18) → aF m p0 0 r0))) ∧ ((p0.kind ≠ 16) → ((p0.kind = 18) → ((16 < (p0.kids.length : Int)) → false = r0) ∧ ((¬ 16 < (p0.kids.length : Int)) → aF m p0 0 r0)) ∧ ((p0.kind ≠ 18) → aF m p0 0 r0)))) ∧ ((p0.kind ≠ 2) → ((p0.kind = 16) → ((8 < (p0.kids.length : Int)) → false = r0) ∧ ((¬ 8 < (p0.kids.length : Int)) → ((p0.kind = 18) → ((16 < (p0.kids.length : Int)) → false = r0) ∧ ((¬ 16 < (p0.kids.length : Int)) → aF m p0 0 r0)) ∧ ((p0.kind ≠ 18) → aF m p0 0 r0))) ∧ ((p0.kind ≠ 16) → ((p0.kind = 18) → ((16 < (p0.kids.length : Int)) → false = r0) ∧ ((¬ 16 < (p0.kids.length : Int)) → aF m p0 0 r0)) ∧ ((p0.kind ≠ 18) → aF m p0 0 r0))))) : fL p0 r0 := by
 refine ⟨rfl, rfl, ?_⟩
 refine am 54 [] Tryz.func20 rfl rfl rfl (aM rfl) fun K hK => ?_
 refine gR 3 rfl <| gFP 0 rfl rfl rfl rfl <| gR 8 rfl <| gV 7 (.int .i64 (p0.kids.length : Int)) rfl (bx (aG _)) rfl <| gLB 6 rfl (aG _) fun hl5 => gR 10 rfl <| gB 11 rfl rfl rfl ?_ ?_ <;> intro hd
 refine gT 10 rfl hd rfl ?_
 replace hd := (eq_of_beq hd)
 replace h := h.1 hd
 refine gR 4 rfl <| gB 15 rfl rfl rfl ?_ ?_ <;> intro hd
 refine gT 14 rfl hd rfl ?_
 replace hd := (of_decide_eq_true hd)
 replace h := h.1 hd
 refine gR 36 rfl ?_
 subst h
 exact go_end ab (rs := [.tmp 2]) rfl rfl rfl
 refine gF 14 rfl hd rfl ?_
 replace hd := (of_decide_eq_false hd)
 replace h := h.2 hd
 refine gR 4 rfl <| gB 19 rfl rfl rfl ?_ ?_ <;> intro hd
 refine gT 18 rfl hd rfl ?_
 replace hd := (eq_of_beq hd)
 replace h := h.1 hd
 refine gR 5 rfl <| gB 24 rfl rfl rfl ?_ ?_ <;> intro hd
 refine gT 23 rfl hd rfl ?_
 replace hd := (of_decide_eq_true hd)
 replace h := h.1 hd
 refine gR 27 rfl ?_
 subst h
 exact go_end ab (rs := [.tmp 2]) rfl rfl rfl
 refine gF 23 rfl hd rfl ?_
 replace hd := (of_decide_eq_false hd)
 replace h := h.2 hd
 refine gR 4 rfl <| gB 28 rfl rfl rfl ?_ ?_ <;> intro hd
 refine gT 27 rfl hd rfl ?_
 replace hd := (eq_of_beq hd)
 replace h := h.1 hd
 refine gR 5 rfl <| gB 33 rfl rfl rfl ?_ ?_ <;> intro hd
 refine gT 32 rfl hd rfl ?_
 replace hd := (of_decide_eq_true hd)
 replace h := h.1 hd
 refine gR 18 rfl ?_
 subst h
 exact go_end ab (rs := [.tmp 2]) rfl rfl rfl
 refine gF 32 rfl hd rfl ?_
 replace hd := (of_decide_eq_false hd)
 replace h := h.2 hd
 refine gR 4 rfl <| gB 37 rfl rfl rfl ?_ ?_ <;> intro hd
 refine gT 36 rfl hd rfl ?_
 replace hd := (eq_of_beq hd)
 replace h := h.1 hd
 refine gR 6 rfl <| gB 41 rfl rfl rfl ?_ ?_ <;> intro hd
 replace hd := (of_decide_eq_true hd)
 replace h := h.1 hd
 refine gR 8 rfl ?_
 subst h
 exact go_end ab (rs := [.tmp 2]) rfl rfl rfl
 replace hd := (of_decide_eq_false hd)
 replace h := h.2 hd
 exact gR 10 rfl <| go_loop m <| gJ (h K _ hK (by omega)) [] [] rfl hK pq3 trivial rfl
 refine gF 36 rfl hd rfl ?_
 replace hd := (ne_of_beq_false hd)
 replace h := h.2 hd
 exact gR 16 rfl <| go_loop m <| gJ (h K _ hK (by omega)) [] [] rfl hK pq3 trivial rfl
 refine gF 27 rfl hd rfl ?_
 replace hd := (ne_of_beq_false hd)
 replace h := h.2 hd
 refine gR 9 rfl <| gB 37 rfl rfl rfl ?_ ?_ <;> intro hd
 refine gT 36 rfl hd rfl ?_
 replace hd := (eq_of_beq hd)
 replace h := h.1 hd
 refine gR 6 rfl <| gB 41 rfl rfl rfl ?_ ?_ <;> intro hd
 replace hd := (of_decide_eq_true hd)
 replace h := h.1 hd
 refine gR 8 rfl ?_
 subst h
 exact go_end ab (rs := [.tmp 2]) rfl rfl rfl
 replace hd := (of_decide_eq_false hd)
 replace h := h.2 hd
 exact gR 10 rfl <| go_loop m <| gJ (h K _ hK (by omega)) [] [] rfl hK pq3 trivial rfl
 refine gF 36 rfl hd rfl ?_
 replace hd := (ne_of_beq_false hd)
 replace h := h.2 hd
 exact gR 16 rfl <| go_loop m <| gJ (h K _ hK (by omega)) [] [] rfl hK pq3 trivial rfl
 refine gF 18 rfl hd rfl ?_
 replace hd := (ne_of_beq_false hd)
 replace h := h.2 hd
 refine gR 9 rfl <| gB 28 rfl rfl rfl ?_ ?_ <;> intro hd
 refine gT 27 rfl hd rfl ?_
 replace hd := (eq_of_beq hd)
 replace h := h.1 hd
 refine gR 5 rfl <| gB 33 rfl rfl rfl ?_ ?_ <;> intro hd
 refine gT 32 rfl hd rfl ?_
 replace hd := (of_decide_eq_true hd)
 replace h := h.1 hd
 refine gR 18 rfl ?_
 subst h
 exact go_end ab (rs := [.tmp 2]) rfl rfl rfl
 refine gF 32 rfl hd rfl ?_
 replace hd := (of_decide_eq_false hd)
 replace h := h.2 hd
 refine gR 4 rfl <| gB 37 rfl rfl rfl ?_ ?_ <;> intro hd
 refine gT 36 rfl hd rfl ?_
 replace hd := (eq_of_beq hd)
 replace h := h.1 hd
 refine gR 6 rfl <| gB 41 rfl rfl rfl ?_ ?_ <;> intro hd
 replace hd := (of_decide_eq_true hd)
 replace h := h.1 hd
 refine gR 8 rfl ?_
 subst h
 exact go_end ab (rs := [.tmp 2]) rfl rfl rfl
 replace hd := (of_decide_eq_false hd)
 replace h := h.2 hd
 exact gR 10 rfl <| go_loop m <| gJ (h K _ hK (by omega)) [] [] rfl hK pq3 trivial rfl
 refine gF 36 rfl hd rfl ?_
 replace hd := (ne_of_beq_false hd)
 replace h := h.2 hd
 exact gR 16 rfl <| go_loop m <| gJ (h K _ hK (by omega)) [] [] rfl hK pq3 trivial rfl
 refine gF 27 rfl hd rfl ?_
 replace hd := (ne_of_beq_false hd)
 replace h := h.2 hd
 refine gR 9 rfl <| gB 37 rfl rfl rfl ?_ ?_ <;> intro hd
 refine gT 36 rfl hd rfl ?_
 replace hd := (eq_of_beq hd)
 replace h := h.1 hd
 refine gR 6 rfl <| gB 41 rfl rfl rfl ?_ ?_ <;> intro hd
 replace hd := (of_decide_eq_true hd)
 replace h := h.1 hd
 refine gR 8 rfl ?_
 subst h
 exact go_end ab (rs := [.tmp 2]) rfl rfl rfl
 replace hd := (of_decide_eq_false hd)
 replace h := h.2 hd
 exact gR 10 rfl <| go_loop m <| gJ (h K _ hK (by omega)) [] [] rfl hK pq3 trivial rfl
 refine gF 36 rfl hd rfl ?_
 replace hd := (ne_of_beq_false hd)
 replace h := h.2 hd
 exact gR 16 rfl <| go_loop m <| gJ (h K _ hK (by omega)) [] [] rfl hK pq3 trivial rfl
 refine gF 10 rfl hd rfl ?_
 replace hd := (ne_of_beq_false hd)
 replace h := h.2 hd
 refine gR 8 rfl <| gB 19 rfl rfl rfl ?_ ?_ <;> intro hd
 refine gT 18 rfl hd rfl ?_
 replace hd := (eq_of_beq hd)
 replace h := h.1 hd
 refine gR 5 rfl <| gB 24 rfl rfl rfl ?_ ?_ <;> intro hd
 refine gT 23 rfl hd rfl ?_
 replace hd := (of_decide_eq_true hd)
 replace h := h.1 hd
 refine gR 27 rfl ?_
 subst h
 exact go_end ab (rs := [.tmp 2]) rfl rfl rfl
 refine gF 23 rfl hd rfl ?_
 replace hd := (of_decide_eq_false hd)
 replace h := h.2 hd
 refine gR 4 rfl <| gB 28 rfl rfl rfl ?_ ?_ <;> intro hd
 refine gT 27 rfl hd rfl ?_
 replace hd := (eq_of_beq hd)
 replace h := h.1 hd
 refine gR 5 rfl <| gB 33 rfl rfl rfl ?_ ?_ <;> intro hd
 refine gT 32 rfl hd rfl ?_
 replace hd := (of_decide_eq_true hd)
 replace h := h.1 hd
 refine gR 18 rfl ?_
 subst h
 exact go_end ab (rs := [.tmp 2]) rfl rfl rfl
 refine gF 32 rfl hd rfl ?_
 replace hd := (of_decide_eq_false hd)
 replace h := h.2 hd
 refine gR 4 rfl <| gB 37 rfl rfl rfl ?_ ?_ <;> intro hd
 refine gT 36 rfl hd rfl ?_
 replace hd := (eq_of_beq hd)
 replace h := h.1 hd
 refine gR 6 rfl <| gB 41 rfl rfl rfl ?_ ?_ <;> intro hd
 replace hd := (of_decide_eq_true hd)
 replace h := h.1 hd
 refine gR 8 rfl ?_
 subst h
 exact go_end ab (rs := [.tmp 2]) rfl rfl rfl
 replace hd := (of_decide_eq_false hd)
 replace h := h.2 hd
 exact gR 10 rfl <| go_loop m <| gJ (h K _ hK (by omega)) [] [] rfl hK pq3 trivial rfl
 refine gF 36 rfl hd rfl ?_
 replace hd := (ne_of_beq_false hd)
 replace h := h.2 hd
 exact gR 16 rfl <| go_loop m <| gJ (h K _ hK (by omega)) [] [] rfl hK pq3 trivial rfl
 refine gF 27 rfl hd rfl ?_
 replace hd := (ne_of_beq_false hd)
 replace h := h.2 hd
 refine gR 9 rfl <| gB 37 rfl rfl rfl ?_ ?_ <;> intro hd
 refine gT 36 rfl hd rfl ?_
 replace hd := (eq_of_beq hd)
 replace h := h.1 hd
 refine gR 6 rfl <| gB 41 rfl rfl rfl ?_ ?_ <;> intro hd
 replace hd := (of_decide_eq_true hd)
 replace h := h.1 hd
 refine gR 8 rfl ?_
 subst h
 exact go_end ab (rs := [.tmp 2]) rfl rfl rfl
 replace hd := (of_decide_eq_false hd)
 replace h := h.2 hd
 exact gR 10 rfl <| go_loop m <| gJ (h K _ hK (by omega)) [] [] rfl hK pq3 trivial rfl
 refine gF 36 rfl hd rfl ?_
 replace hd := (ne_of_beq_false hd)
 replace h := h.2 hd
 exact gR 16 rfl <| go_loop m <| gJ (h K _ hK (by omega)) [] [] rfl hK pq3 trivial rfl
 refine gF 18 rfl hd rfl ?_
 replace hd := (ne_of_beq_false hd)
 replace h := h.2 hd
 refine gR 9 rfl <| gB 28 rfl rfl rfl ?_ ?_ <;> intro hd
 refine gT 27 rfl hd rfl ?_
 replace hd := (eq_of_beq hd)
 replace h := h.1 hd
 refine gR 5 rfl <| gB 33 rfl rfl rfl ?_ ?_ <;> intro hd
 refine gT 32 rfl hd rfl ?_
 replace hd := (of_decide_eq_true hd)
 replace h := h.1 hd
 refine gR 18 rfl ?_
 subst h
 exact go_end ab (rs := [.tmp 2]) rfl rfl rfl
 refine gF 32 rfl hd rfl ?_
 replace hd := (of_decide_eq_false hd)
 replace h := h.2 hd
 refine gR 4 rfl <| gB 37 rfl rfl rfl ?_ ?_ <;> intro hd
 refine gT 36 rfl hd rfl ?_
 replace hd := (eq_of_beq hd)
 replace h := h.1 hd
 refine gR 6 rfl <| gB 41 rfl rfl rfl ?_ ?_ <;> intro hd
 replace hd := (of_decide_eq_true hd)
 replace h := h.1 hd
 refine gR 8 rfl ?_
 subst h
 exact go_end ab (rs := [.tmp 2]) rfl rfl rfl
 replace hd := (of_decide_eq_false hd)
 replace h := h.2 hd
 exact gR 10 rfl <| go_loop m <| gJ (h K _ hK (by omega)) [] [] rfl hK pq3 trivial rfl
 refine gF 36 rfl hd rfl ?_
 replace hd := (ne_of_beq_false hd)
 replace h := h.2 hd
 exact gR 16 rfl <| go_loop m <| gJ (h K _ hK (by omega)) [] [] rfl hK pq3 trivial rfl
 refine gF 27 rfl hd rfl ?_
 replace hd := (ne_of_beq_false hd)
 replace h := h.2 hd
 refine gR 9 rfl <| gB 37 rfl rfl rfl ?_ ?_ <;> intro hd
 refine gT 36 rfl hd rfl ?_
 replace hd := (eq_of_beq hd)
 replace h := h.1 hd
 refine gR 6 rfl <| gB 41 rfl rfl rfl ?_ ?_ <;> intro hd
 replace hd := (of_decide_eq_true hd)
 replace h := h.1 hd
 refine gR 8 rfl ?_
 subst h
 exact go_end ab (rs := [.tmp 2]) rfl rfl rfl
 replace hd := (of_decide_eq_false hd)
 replace h := h.2 hd
 exact gR 10 rfl <| go_loop m <| gJ (h K _ hK (by omega)) [] [] rfl hK pq3 trivial rfl
 refine gF 36 rfl hd rfl ?_
 replace hd := (ne_of_beq_false hd)
 replace h := h.2 hd
 exact gR 16 rfl <| go_loop m <| gJ (h K _ hK (by omega)) [] [] rfl hK pq3 trivial rfl
theorem ig (m : Nat) (p0 : Tree) (a : Nat) (r0 : Bool) (h : ((a < p0.kids.length) → ∃ c, p0.kids[a]? = some c ∧ ∃ b, fL c b ∧ ((b = false) → false = r0) ∧ ((b = true) → a + 1 ≤ 9223372036854775807 ∧ aF m p0 (a + 1) r0)) ∧ ((¬ a < p0.kids.length) → true = r0)) : aF (m + 1) p0 a r0 := by
 intro K j1 hK hj1
 obtain ⟨j1, rfl⟩ : ∃ j, j1 = j + 1 := ⟨j1 - 1, by omega⟩
 refine gR 8 rfl <| gB 44 rfl rfl rfl ?_ ?_ <;> intro hd
 replace hd := (fg hd)
 replace h := h.1 hd
 refine gR 10 rfl ?_
 obtain ⟨c, hxt1_1, h⟩ := h
 refine gY (az (aj hxt1_1) ab rfl rfl rfl rfl) rfl rfl <| gR 1 rfl ?_
 obtain ⟨b, hs6, h⟩ := h
 refine gC0 hs6 (by kernel_rfl) rfl rfl .rfl rfl <| gR 3 rfl <| gB 53 rfl rfl rfl ?_ ?_ <;> intro hd
 replace hd := (dr hd)
 replace h := h.1 hd
 refine gR 9 rfl <| go_xloopR <| gR 2 rfl ?_
 subst h
 exact go_end ab (rs := [.tmp 2]) rfl rfl rfl
 replace hd := (dn hd)
 replace h := h.2 hd
 refine gR 6 rfl ?_
 obtain ⟨hb, h⟩ := h
 exact gR 1 rfl <| gV 46 (.int .i64 ((a + 1 : Nat) : Int)) rfl (ax (by omega) (by omega)) rfl <| gR 2 rfl <| go_xloop <| gJ (h K _ hK (by omega)) [] [] rfl hK pq3 trivial rfl
 replace hd := (fc hd)
 replace h := h.2 hd
 refine gR 3 rfl <| go_xloopE <| gR 8 rfl ?_
 subst h
 exact go_end ab (rs := [.tmp 2]) rfl rfl rfl
def fT (m : Nat) (p0 : Tree) (a : Int) (b : Nat) (r0 : Int) : Prop := ∀ (K : Ctx) (j1 : Nat), av K [] → m ≤ j1 → qLG K Tryz.f21 (fun u _ => u = .int .i64 r0) (xL (ac Tryz.f21)) [.loop (xL (ac Tryz.f21)) j1, .blk 0, .seq (xH (ac Tryz.f21))] 22 (mkF 22 0 [(1, .box (ai p0) 0), (3, .int .i64 a), (4, .int .i64 (b : Int))]) ⟨0, []⟩
theorem rc (m : Nat) (p0 : Tree) (r0 : Int) (h : fT m p0 0 0 r0) : ew p0 r0 := by
 refine ⟨rfl, rfl, ?_⟩
 refine am 22 [] Tryz.func21 rfl rfl rfl (aM rfl) fun K hK => ?_
 exact gR 3 rfl <| gFP 0 rfl rfl rfl rfl <| gR 15 rfl <| go_loop m <| gJ (h K _ hK (by omega)) [] [] rfl hK pq3 trivial rfl
theorem qx (m : Nat) (p0 : Tree) (b : Int) (a : Nat) (r0 : Int) (h : ((a < p0.kids.length) → ∃ c, p0.kids[a]? = some c ∧ ∃ d, ew c d ∧ fT m p0 (max b d) (a + 1) r0) ∧ ((¬ a < p0.kids.length) → InI (b + 1) ∧ (b + 1) = r0)) : fT (m + 1) p0 b a r0 := by
 intro K j1 hK hj1
 obtain ⟨j1, rfl⟩ : ∃ j, j1 = j + 1 := ⟨j1 - 1, by omega⟩
 refine gR 7 rfl <| gV 8 (.int .i64 (p0.kids.length : Int)) rfl (bx (aG _)) rfl <| gLB 7 rfl (aG _) fun hl5 => gR 3 rfl <| gB 9 rfl rfl rfl ?_ ?_ <;> intro hd
 replace hd := (fg hd)
 replace h := h.1 hd
 refine gR 10 rfl ?_
 obtain ⟨c, hxt1_1, h⟩ := h
 refine gY (az (aj hxt1_1) ab rfl rfl rfl rfl) rfl rfl <| gR 1 rfl ?_
 obtain ⟨d, hs6, h⟩ := h
 exact gC0 hs6 (by kernel_rfl) rfl rfl .rfl rfl <| gR 8 rfl <| gV 11 (.int .i64 ((a + 1 : Nat) : Int)) rfl (ax (by have := hl5; omega) (by omega)) rfl <| gR 2 rfl <| go_xloop <| gJ (h K _ hK (by omega)) [] [] rfl hK pq3 trivial rfl
 replace hd := (fc hd)
 replace h := h.2 hd
 refine gR 3 rfl <| go_xloopE <| gR 5 rfl ?_
 obtain ⟨hb, h⟩ := h
 refine gR 1 rfl <| gV 21 (.int .i64 (b + 1)) rfl (ax hb rfl) rfl <| gR 4 rfl ?_
 subst h
 exact go_end ab (rs := [.tmp 2]) rfl rfl rfl
def bY (m : Nat) (a : List aa) (b : List UInt8) (c : Nat) (r0 : List UInt8) : Prop := ∀ (K : Ctx) (j1 : Nat), av K [] → m ≤ j1 → qLG K Tryz.f22 (fun u _ => u = .str r0) (xL (xA (ac Tryz.f22))) [.loop (xL (xA (ac Tryz.f22))) j1, .blk 0, .seq (xN (ac Tryz.f22))] 57 (mkF 57 0 [(3, .row 2 (List.map aa.w a)), (4, .str b), (5, .int .i64 (c : Int))]) ⟨0, []⟩
theorem nb (m : Nat) (p0 : Tree) (r0 : List UInt8) (h : ∃ a, ep p0 a ∧ ((a = false) → [] = r0) ∧ ((a = true) → ∃ b, jq p0 b ∧ bY m b [] 0 r0)) : jM p0 r0 := by
 refine ⟨rfl, rfl, ?_⟩
 refine am 57 [] Tryz.func22 rfl rfl rfl (aM rfl) fun K hK => ?_
 refine gR 3 rfl <| gFP 0 rfl rfl rfl rfl <| gR 7 rfl ?_
 obtain ⟨a, hs8, h⟩ := h
 refine gC0 hs8 (by kernel_rfl) rfl rfl .rfl rfl <| gR 3 rfl <| gB 8 rfl rfl rfl ?_ ?_ <;> intro hd
 replace hd := (dr hd)
 replace h := h.1 hd
 refine gR 8 rfl ?_
 subst h
 exact go_end ab (rs := [.tmp 2]) rfl rfl rfl
 replace hd := (dn hd)
 replace h := h.2 hd
 refine gR 6 rfl ?_
 obtain ⟨b, hs9, h⟩ := h
 exact gC0 hs9 (by kernel_rfl) rfl rfl .rfl rfl <| gR 15 rfl <| go_loop m <| gJ (h K _ hK (by omega)) [] [] rfl hK pq3 trivial rfl
theorem db (m : Nat) (b : List aa) (c : List UInt8) (a : Nat) (r0 : List UInt8) (h : ((a < b.length) → ((0 < (a : Int)) → ∃ n, b[a]? = some n ∧ ((n.Lead = []) → InI ((a : Int) - 1) ∧ ∃ o, ((a : Int) - 1) = ((o : Nat) : Int) ∧ ∃ s, b[o]? = some s ∧ ∃ t, b[a]? = some t ∧ ∃ p, jJ s.Text t.Text p ∧ ((p = true) → c.length + [32].length ≤ 9223372036854775807 ∧ ∃ k, b[a]? = some k ∧ (c ++ [32]).length + k.Lead.length ≤ 9223372036854775807 ∧ ∃ q, b[a]? = some q ∧ ((c ++ [32]) ++ k.Lead).length + q.Text.length ≤ 9223372036854775807 ∧ bY m b (((c ++ [32]) ++ k.Lead) ++ q.Text) (a + 1) r0) ∧ ((p = false) → ∃ l, b[a]? = some l ∧ c.length + l.Lead.length ≤ 9223372036854775807 ∧ ∃ r, b[a]? = some r ∧ (c ++ l.Lead).length + r.Text.length ≤ 9223372036854775807 ∧ bY m b ((c ++ l.Lead) ++ r.Text) (a + 1) r0)) ∧ ((n.Lead ≠ []) → ∃ d, b[a]? = some d ∧ c.length + d.Lead.length ≤ 9223372036854775807 ∧ ∃ g, b[a]? = some g ∧ (c ++ d.Lead).length + g.Text.length ≤ 9223372036854775807 ∧ bY m b ((c ++ d.Lead) ++ g.Text) (a + 1) r0)) ∧ ((¬ 0 < (a : Int)) → ∃ e, b[a]? = some e ∧ c.length + e.Lead.length ≤ 9223372036854775807 ∧ ∃ i, b[a]? = some i ∧ (c ++ e.Lead).length + i.Text.length ≤ 9223372036854775807 ∧ bY m b ((c ++ e.Lead) ++ i.Text) (a + 1) r0)) ∧ ((¬ a < b.length) → c = r0)) : bY (m + 1) b c a r0 := by
 intro K j1 hK hj1
 obtain ⟨j1, rfl⟩ : ∃ j, j1 = j + 1 := ⟨j1 - 1, by omega⟩
 refine gR 6 rfl <| gV 13 (.int .i64 (b.length : Int)) rfl (bx (aZ aa.w _)) rfl <| gLB 12 rfl (aZ aa.w _) fun hl10 => gR 3 rfl <| gB 14 rfl rfl rfl ?_ ?_ <;> intro hd
 replace hd := (fg hd)
 replace h := h.1 hd
 refine gR 7 rfl <| gDs [] 24 24 rfl (by kernel_rfl) (by kernel_rfl) <| gDr [(0, 0), (1, 0), (2, 0)] (by kernel_rfl) rfl rfl <| gB 19 rfl rfl rfl ?_ ?_ <;> intro hd
 refine gT 18 rfl hd rfl ?_
 replace hd := (of_decide_eq_true hd)
 replace h := h.1 hd
 refine gDr [(3, 2), (4, 0)] (by kernel_rfl) rfl rfl ?_
 obtain ⟨n, hxx1_1, h⟩ := h
 refine bA 5 rfl (by kernel_rfl) (az (mapget (f := aa.w) hxx1_1) ab rfl rfl rfl rfl) rfl rfl ?_
 refine gDr [(6, 0), (7, 0), (8, 0), (9, 0), (10, 0)] (by kernel_rfl) rfl rfl <| gB 27 rfl rfl rfl ?_ ?_ <;> intro hd
 refine gT 26 rfl hd rfl ?_
 replace hd := (eq_of_beq hd)
 replace h := h.1 hd
 refine gDr [(11, 2), (12, 2)] (by kernel_rfl) rfl rfl ?_
 obtain ⟨hb, h⟩ := h
 refine gDr [(13, 2)] (by kernel_rfl) rfl rfl <| gV 30 (.int .i64 ((a : Int) - 1)) rfl (ax hb rfl) rfl ?_
 obtain ⟨o, v, h⟩ := h
 refine gV 30 (.int .i64 ((o : Nat) : Int)) rfl (fP v) rfl ?_
 obtain ⟨s, hxx1_3, h⟩ := h
 refine gYd 14 rfl (by kernel_rfl) (az (mapget (f := aa.w) hxx1_3) ab rfl rfl rfl rfl) rfl rfl <| gDr [(15, 2), (16, 2), (17, 2), (18, 0)] (by kernel_rfl) rfl rfl ?_
 obtain ⟨t, hxx1_4, h⟩ := h
 refine bA 19 rfl (by kernel_rfl) (az (mapget (f := aa.w) hxx1_4) ab rfl rfl rfl rfl) rfl rfl ?_
 refine gDr [(20, 0), (21, 0)] (by kernel_rfl) rfl rfl ?_
 obtain ⟨p, hs11, h⟩ := h
 refine bW 22 hs11 (by kernel_rfl) rfl (by kernel_rfl) rfl rfl .rfl rfl rfl ?_
 refine gDr [(23, 0)] (by kernel_rfl) rfl rfl <| gDe (by kernel_rfl) <| gR 1 rfl <| gB 40 rfl rfl rfl ?_ ?_ <;> intro hd
 replace h := h.1 hd
 refine gR 3 rfl ?_
 obtain ⟨hb, h⟩ := h
 refine gY (rg rfl rfl hb) rfl rfl <| gR 3 rfl <| gDs [] 14 14 rfl (by kernel_rfl) (by kernel_rfl) <| gDr [(0, 2), (1, 2), (2, 2)] (by kernel_rfl) rfl rfl ?_
 obtain ⟨k, hxx1_6, h⟩ := h
 refine gYd 3 rfl (by kernel_rfl) (az (mapget (f := aa.w) hxx1_6) ab rfl rfl rfl rfl) rfl rfl <| gDr [(4, 2), (5, 2)] (by kernel_rfl) rfl rfl ?_
 obtain ⟨hb, h⟩ := h
 refine gYd 6 rfl (by kernel_rfl) (rg rfl rfl hb) rfl rfl <| gDr [(7, 2), (8, 0)] (by kernel_rfl) rfl rfl ?_
 obtain ⟨q, hxx1_7, h⟩ := h
 refine bA 9 rfl (by kernel_rfl) (az (mapget (f := aa.w) hxx1_7) ab rfl rfl rfl rfl) rfl rfl ?_
 refine gDr [(10, 0), (11, 0)] (by kernel_rfl) rfl rfl ?_
 obtain ⟨hb, h⟩ := h
 refine bA 12 rfl (by kernel_rfl) (rg rfl rfl hb) rfl rfl ?_
 exact gDr [(13, 0)] (by kernel_rfl) rfl rfl <| gDe (by kernel_rfl) <| gR 5 rfl <| gV 16 (.int .i64 ((a + 1 : Nat) : Int)) rfl (ax (by have := hl10; omega) (by omega)) rfl <| gR 2 rfl <| go_xloop <| gJ (h K _ hK (by omega)) [] [] rfl hK pq3 trivial rfl
 replace h := h.2 hd
 refine gR 3 rfl <| gDs [] 14 14 rfl (by kernel_rfl) (by kernel_rfl) <| gDr [(0, 2), (1, 2), (2, 2)] (by kernel_rfl) rfl rfl ?_
 obtain ⟨l, hxx1_8, h⟩ := h
 refine gYd 3 rfl (by kernel_rfl) (az (mapget (f := aa.w) hxx1_8) ab rfl rfl rfl rfl) rfl rfl <| gDr [(4, 2), (5, 2)] (by kernel_rfl) rfl rfl ?_
 obtain ⟨hb, h⟩ := h
 refine gYd 6 rfl (by kernel_rfl) (rg rfl rfl hb) rfl rfl <| gDr [(7, 2), (8, 0)] (by kernel_rfl) rfl rfl ?_
 obtain ⟨r, hxx1_9, h⟩ := h
 refine bA 9 rfl (by kernel_rfl) (az (mapget (f := aa.w) hxx1_9) ab rfl rfl rfl rfl) rfl rfl ?_
 refine gDr [(10, 0), (11, 0)] (by kernel_rfl) rfl rfl ?_
 obtain ⟨hb, h⟩ := h
 refine bA 12 rfl (by kernel_rfl) (rg rfl rfl hb) rfl rfl ?_
 exact gDr [(13, 0)] (by kernel_rfl) rfl rfl <| gDe (by kernel_rfl) <| gR 5 rfl <| gV 16 (.int .i64 ((a + 1 : Nat) : Int)) rfl (ax (by have := hl10; omega) (by omega)) rfl <| gR 2 rfl <| go_xloop <| gJ (h K _ hK (by omega)) [] [] rfl hK pq3 trivial rfl
 refine gF 26 rfl hd rfl ?_
 replace hd := (ne_of_beq_false hd)
 replace h := h.2 hd
 refine gDr [(11, 2), (12, 2), (13, 2), (14, 2), (15, 2), (16, 2), (17, 2), (18, 0), (19, 0), (20, 0), (21, 0), (22, 0), (23, 0)] (by kernel_rfl) rfl rfl <| gDe (by kernel_rfl) <| gR 4 rfl <| gDs [] 14 14 rfl (by kernel_rfl) (by kernel_rfl) <| gDr [(0, 2), (1, 2), (2, 2)] (by kernel_rfl) rfl rfl ?_
 obtain ⟨d, hxx1_10, h⟩ := h
 refine gYd 3 rfl (by kernel_rfl) (az (mapget (f := aa.w) hxx1_10) ab rfl rfl rfl rfl) rfl rfl <| gDr [(4, 2), (5, 2)] (by kernel_rfl) rfl rfl ?_
 obtain ⟨hb, h⟩ := h
 refine gYd 6 rfl (by kernel_rfl) (rg rfl rfl hb) rfl rfl <| gDr [(7, 2), (8, 0)] (by kernel_rfl) rfl rfl ?_
 obtain ⟨g, hxx1_11, h⟩ := h
 refine bA 9 rfl (by kernel_rfl) (az (mapget (f := aa.w) hxx1_11) ab rfl rfl rfl rfl) rfl rfl ?_
 refine gDr [(10, 0), (11, 0)] (by kernel_rfl) rfl rfl ?_
 obtain ⟨hb, h⟩ := h
 refine bA 12 rfl (by kernel_rfl) (rg rfl rfl hb) rfl rfl ?_
 exact gDr [(13, 0)] (by kernel_rfl) rfl rfl <| gDe (by kernel_rfl) <| gR 5 rfl <| gV 16 (.int .i64 ((a + 1 : Nat) : Int)) rfl (ax (by have := hl10; omega) (by omega)) rfl <| gR 2 rfl <| go_xloop <| gJ (h K _ hK (by omega)) [] [] rfl hK pq3 trivial rfl
 refine gF 18 rfl hd rfl ?_
 replace hd := (of_decide_eq_false hd)
 replace h := h.2 hd
 refine gDr [(3, 2), (4, 0), (5, 0), (6, 0), (7, 0), (8, 0), (9, 0), (10, 0), (11, 2), (12, 2), (13, 2), (14, 2), (15, 2), (16, 2), (17, 2), (18, 0), (19, 0), (20, 0), (21, 0), (22, 0), (23, 0)] (by kernel_rfl) rfl rfl <| gDe (by kernel_rfl) <| gR 4 rfl <| gDs [] 14 14 rfl (by kernel_rfl) (by kernel_rfl) <| gDr [(0, 2), (1, 2), (2, 2)] (by kernel_rfl) rfl rfl ?_
 obtain ⟨e, hxx1_12, h⟩ := h
 refine gYd 3 rfl (by kernel_rfl) (az (mapget (f := aa.w) hxx1_12) ab rfl rfl rfl rfl) rfl rfl <| gDr [(4, 2), (5, 2)] (by kernel_rfl) rfl rfl ?_
 obtain ⟨hb, h⟩ := h
 refine gYd 6 rfl (by kernel_rfl) (rg rfl rfl hb) rfl rfl <| gDr [(7, 2), (8, 0)] (by kernel_rfl) rfl rfl ?_
 obtain ⟨i, hxx1_13, h⟩ := h
 refine bA 9 rfl (by kernel_rfl) (az (mapget (f := aa.w) hxx1_13) ab rfl rfl rfl rfl) rfl rfl ?_
 refine gDr [(10, 0), (11, 0)] (by kernel_rfl) rfl rfl ?_
 obtain ⟨hb, h⟩ := h
 refine bA 12 rfl (by kernel_rfl) (rg rfl rfl hb) rfl rfl ?_
 exact gDr [(13, 0)] (by kernel_rfl) rfl rfl <| gDe (by kernel_rfl) <| gR 5 rfl <| gV 16 (.int .i64 ((a + 1 : Nat) : Int)) rfl (ax (by have := hl10; omega) (by omega)) rfl <| gR 2 rfl <| go_xloop <| gJ (h K _ hK (by omega)) [] [] rfl hK pq3 trivial rfl
 replace hd := (fc hd)
 replace h := h.2 hd
 refine gR 3 rfl <| go_xloopE <| gR 9 rfl ?_
 subst h
 exact go_end ab (rs := [.tmp 2]) rfl rfl rfl
theorem mJ (m : Nat) (p0 : Tree) (r0 : List aa) (h : ∃ a, al ([] : List aa) p0 a ∧ a = r0) : jq p0 r0 := by
 refine ⟨rfl, rfl, ?_⟩
 refine am 5 [] Tryz.func41 rfl rfl rfl (aM rfl) fun K hK => ?_
 refine gR 3 rfl <| gFP 0 rfl rfl rfl rfl <| gR 6 rfl ?_
 obtain ⟨a, hs2, h⟩ := h
 refine gCn 0 60 2 hs2 [1] (by kernel_rfl) rfl rfl rfl rfl .rfl ⟨⟨_, rfl, ⟨rfl, rfl, rfl⟩⟩, trivial⟩ rfl ?_
 rintro _ _ ⟨rfl, rfl⟩
 refine gHR 3 (List.map aa.w a) rfl (vL _ a) rfl <| gR 4 rfl <| gFR 3 rfl (cb _ (fun _ => rfl) _) rfl rfl ?_
 subst h
 exact go_end ab (rs := [.tmp 2]) rfl rfl rfl
def my (m : Nat) (p0 : List aa) (p1 : Tree) (r0 : List aa) : Prop := ∀ (K : Ctx), av K [] → qLG K Tryz.f67 (fun u G => u = .sl 1 ∧ G = ⟨2, [(1, .row 60 2 (List.map aa.w r0))]⟩) (xI (xG (ac Tryz.f67))) [.blk 0, .seq (xH (ac Tryz.f67))] 365 (mkF 365 0 [(0, .sl 0), (3, .box (ai p1) 0), (5, .int .i64 (p1.kids.length : Int))]) ⟨1, [(0, .row 60 2 (List.map aa.w p0))]⟩
def iQ (m : Nat) (p0 : List aa) (p1 : Tree) (r0 : List aa) : Prop := ∀ (K : Ctx), av K [] → qLG K Tryz.f67 (fun u G => u = .sl 1 ∧ G = ⟨2, [(1, .row 60 2 (List.map aa.w r0))]⟩) (xK (ac Tryz.f67)) [.blk 0, .seq (xH (ac Tryz.f67))] 365 (mkF 365 0 [(0, .sl 0), (3, .box (ai p1) 0), (5, .int .i64 (p1.kids.length : Int)), (11, .int .i64 p1.kind)]) ⟨1, [(0, .row 60 2 (List.map aa.w p0))]⟩
def dR (m : Nat) (p1 : Tree) (a : List aa) (b : Nat) (r0 : List aa) : Prop := ∀ (K : Ctx) (j1 : Nat), av K [] → m ≤ j1 → qLG K Tryz.f67 (fun u G => u = .sl 1 ∧ G = ⟨2, [(1, .row 60 2 (List.map aa.w r0))]⟩) (cL (xF (cB (xI (xG (ac Tryz.f67)))))) [.loop (cL (xF (cB (xI (xG (ac Tryz.f67)))))) j1, .blk 1, .seq (xA (xI (xG (ac Tryz.f67)))), .blk 0, .seq (xH (ac Tryz.f67))] 365 (mkF 365 0 [(0, .sl 0), (3, .box (ai p1) 0), (5, .int .i64 (p1.kids.length : Int)), (6, .int .i64 (b : Int))]) ⟨1, [(0, .row 60 2 (List.map aa.w a))]⟩
def mK (m : Nat) (p0 : List aa) (p1 : Tree) (r0 : List aa) : Prop := ∀ (K : Ctx), av K [] → qLG K Tryz.f67 (fun u G => u = .sl 1 ∧ G = ⟨2, [(1, .row 60 2 (List.map aa.w r0))]⟩) (xI (xK (ac Tryz.f67))) [.blk 0, .seq (xH (ac Tryz.f67))] 365 (mkF 365 0 [(0, .sl 0), (3, .box (ai p1) 0), (5, .int .i64 (p1.kids.length : Int))]) ⟨1, [(0, .row 60 2 (List.map aa.w p0))]⟩
def ji (m : Nat) (p0 : List aa) (p1 : Tree) (r0 : List aa) : Prop := ∀ (K : Ctx), av K [] → qLG K Tryz.f67 (fun u G => u = .sl 1 ∧ G = ⟨2, [(1, .row 60 2 (List.map aa.w r0))]⟩) (xC (xG (ac Tryz.f67))) [.blk 0, .seq (xH (ac Tryz.f67))] 365 (mkF 365 0 [(0, .sl 0), (3, .box (ai p1) 0), (5, .int .i64 (p1.kids.length : Int)), (11, .int .i64 p1.kind)]) ⟨1, [(0, .row 60 2 (List.map aa.w p0))]⟩
def mz (m : Nat) (p0 : List aa) (p1 : Tree) (r0 : List aa) : Prop := ∀ (K : Ctx), av K [] → qLG K Tryz.f67 (fun u G => u = .sl 1 ∧ G = ⟨2, [(1, .row 60 2 (List.map aa.w r0))]⟩) (xI (xC (xG (ac Tryz.f67)))) [.blk 0, .seq (xH (ac Tryz.f67))] 365 (mkF 365 0 [(0, .sl 0), (3, .box (ai p1) 0)]) ⟨1, [(0, .row 60 2 (List.map aa.w p0))]⟩
def jh (m : Nat) (p0 : List aa) (p1 : Tree) (r0 : List aa) : Prop := ∀ (K : Ctx), av K [] → qLG K Tryz.f67 (fun u G => u = .sl 1 ∧ G = ⟨2, [(1, .row 60 2 (List.map aa.w r0))]⟩) (xC (xK (ac Tryz.f67))) [.blk 0, .seq (xH (ac Tryz.f67))] 365 (mkF 365 0 [(0, .sl 0), (3, .box (ai p1) 0), (5, .int .i64 (p1.kids.length : Int)), (11, .int .i64 p1.kind)]) ⟨1, [(0, .row 60 2 (List.map aa.w p0))]⟩
def mo (m : Nat) (p0 : List aa) (p1 : Tree) (r0 : List aa) : Prop := ∀ (K : Ctx), av K [] → qLG K Tryz.f67 (fun u G => u = .sl 1 ∧ G = ⟨2, [(1, .row 60 2 (List.map aa.w r0))]⟩) (xI (xC (xK (ac Tryz.f67)))) [.blk 0, .seq (xH (ac Tryz.f67))] 365 (mkF 365 0 [(0, .sl 0), (3, .box (ai p1) 0)]) ⟨1, [(0, .row 60 2 (List.map aa.w p0))]⟩
def jl (m : Nat) (p0 : List aa) (p1 : Tree) (r0 : List aa) : Prop := ∀ (K : Ctx), av K [] → qLG K Tryz.f67 (fun u G => u = .sl 1 ∧ G = ⟨2, [(1, .row 60 2 (List.map aa.w r0))]⟩) (xD (xG (ac Tryz.f67))) [.blk 0, .seq (xH (ac Tryz.f67))] 365 (mkF 365 0 [(0, .sl 0), (3, .box (ai p1) 0), (5, .int .i64 (p1.kids.length : Int)), (11, .int .i64 p1.kind)]) ⟨1, [(0, .row 60 2 (List.map aa.w p0))]⟩
def iZ (m : Nat) (p0 : List aa) (p1 : Tree) (r0 : List aa) : Prop := ∀ (K : Ctx), av K [] → qLG K Tryz.f67 (fun u G => u = .sl 1 ∧ G = ⟨2, [(1, .row 60 2 (List.map aa.w r0))]⟩) (xD (xK (ac Tryz.f67))) [.blk 0, .seq (xH (ac Tryz.f67))] 365 (mkF 365 0 [(0, .sl 0), (3, .box (ai p1) 0), (5, .int .i64 (p1.kids.length : Int)), (11, .int .i64 p1.kind)]) ⟨1, [(0, .row 60 2 (List.map aa.w p0))]⟩
def ib (m : Nat) (p0 : List aa) (p1 : Tree) (r0 : List aa) : Prop := ∀ (K : Ctx), av K [] → qLG K Tryz.f67 (fun u G => u = .sl 1 ∧ G = ⟨2, [(1, .row 60 2 (List.map aa.w r0))]⟩) (xD (xC (xG (ac Tryz.f67)))) [.blk 0, .seq (xH (ac Tryz.f67))] 365 (mkF 365 0 [(0, .sl 0), (3, .box (ai p1) 0), (5, .int .i64 (p1.kids.length : Int)), (11, .int .i64 p1.kind)]) ⟨1, [(0, .row 60 2 (List.map aa.w p0))]⟩
def it (m : Nat) (p0 : List aa) (p1 : Tree) (r0 : List aa) : Prop := ∀ (K : Ctx), av K [] → qLG K Tryz.f67 (fun u G => u = .sl 1 ∧ G = ⟨2, [(1, .row 60 2 (List.map aa.w r0))]⟩) (xD (xC (xK (ac Tryz.f67)))) [.blk 0, .seq (xH (ac Tryz.f67))] 365 (mkF 365 0 [(0, .sl 0), (3, .box (ai p1) 0), (5, .int .i64 (p1.kids.length : Int)), (11, .int .i64 p1.kind)]) ⟨1, [(0, .row 60 2 (List.map aa.w p0))]⟩
def im (m : Nat) (p0 : List aa) (p1 : Tree) (r0 : List aa) : Prop := ∀ (K : Ctx), av K [] → qLG K Tryz.f67 (fun u G => u = .sl 1 ∧ G = ⟨2, [(1, .row 60 2 (List.map aa.w r0))]⟩) (xM (xG (ac Tryz.f67))) [.blk 0, .seq (xH (ac Tryz.f67))] 365 (mkF 365 0 [(0, .sl 0), (3, .box (ai p1) 0), (5, .int .i64 (p1.kids.length : Int)), (11, .int .i64 p1.kind)]) ⟨1, [(0, .row 60 2 (List.map aa.w p0))]⟩
def iq (m : Nat) (p0 : List aa) (p1 : Tree) (r0 : List aa) : Prop := ∀ (K : Ctx), av K [] → qLG K Tryz.f67 (fun u G => u = .sl 1 ∧ G = ⟨2, [(1, .row 60 2 (List.map aa.w r0))]⟩) (xM (xK (ac Tryz.f67))) [.blk 0, .seq (xH (ac Tryz.f67))] 365 (mkF 365 0 [(0, .sl 0), (3, .box (ai p1) 0), (5, .int .i64 (p1.kids.length : Int)), (11, .int .i64 p1.kind)]) ⟨1, [(0, .row 60 2 (List.map aa.w p0))]⟩
def il (m : Nat) (p0 : List aa) (p1 : Tree) (r0 : List aa) : Prop := ∀ (K : Ctx), av K [] → qLG K Tryz.f67 (fun u G => u = .sl 1 ∧ G = ⟨2, [(1, .row 60 2 (List.map aa.w r0))]⟩) (xM (xC (xG (ac Tryz.f67)))) [.blk 0, .seq (xH (ac Tryz.f67))] 365 (mkF 365 0 [(0, .sl 0), (3, .box (ai p1) 0), (5, .int .i64 (p1.kids.length : Int)), (11, .int .i64 p1.kind)]) ⟨1, [(0, .row 60 2 (List.map aa.w p0))]⟩
def lJ (m : Nat) (p0 : List aa) (p1 : Tree) (r0 : List aa) : Prop := ∀ (K : Ctx), av K [] → qLG K Tryz.f67 (fun u G => u = .sl 1 ∧ G = ⟨2, [(1, .row 60 2 (List.map aa.w r0))]⟩) (xI (xM (xC (xG (ac Tryz.f67))))) [.blk 0, .seq (xH (ac Tryz.f67))] 365 (mkF 365 0 [(0, .sl 0), (3, .box (ai p1) 0)]) ⟨1, [(0, .row 60 2 (List.map aa.w p0))]⟩
def iy (m : Nat) (p0 : List aa) (p1 : Tree) (r0 : List aa) : Prop := ∀ (K : Ctx), av K [] → qLG K Tryz.f67 (fun u G => u = .sl 1 ∧ G = ⟨2, [(1, .row 60 2 (List.map aa.w r0))]⟩) (xM (xC (xK (ac Tryz.f67)))) [.blk 0, .seq (xH (ac Tryz.f67))] 365 (mkF 365 0 [(0, .sl 0), (3, .box (ai p1) 0), (5, .int .i64 (p1.kids.length : Int)), (11, .int .i64 p1.kind)]) ⟨1, [(0, .row 60 2 (List.map aa.w p0))]⟩
def lF (m : Nat) (p0 : List aa) (p1 : Tree) (r0 : List aa) : Prop := ∀ (K : Ctx), av K [] → qLG K Tryz.f67 (fun u G => u = .sl 1 ∧ G = ⟨2, [(1, .row 60 2 (List.map aa.w r0))]⟩) (xI (xM (xC (xK (ac Tryz.f67))))) [.blk 0, .seq (xH (ac Tryz.f67))] 365 (mkF 365 0 [(0, .sl 0), (3, .box (ai p1) 0), (5, .int .i64 (p1.kids.length : Int))]) ⟨1, [(0, .row 60 2 (List.map aa.w p0))]⟩
def ic (m : Nat) (p0 : List aa) (p1 : Tree) (r0 : List aa) : Prop := ∀ (K : Ctx), av K [] → qLG K Tryz.f67 (fun u G => u = .sl 1 ∧ G = ⟨2, [(1, .row 60 2 (List.map aa.w r0))]⟩) (xM (xD (xG (ac Tryz.f67)))) [.blk 0, .seq (xH (ac Tryz.f67))] 365 (mkF 365 0 [(0, .sl 0), (3, .box (ai p1) 0), (5, .int .i64 (p1.kids.length : Int)), (11, .int .i64 p1.kind)]) ⟨1, [(0, .row 60 2 (List.map aa.w p0))]⟩
def iz (m : Nat) (p0 : List aa) (p1 : Tree) (r0 : List aa) : Prop := ∀ (K : Ctx), av K [] → qLG K Tryz.f67 (fun u G => u = .sl 1 ∧ G = ⟨2, [(1, .row 60 2 (List.map aa.w r0))]⟩) (xM (xD (xK (ac Tryz.f67)))) [.blk 0, .seq (xH (ac Tryz.f67))] 365 (mkF 365 0 [(0, .sl 0), (3, .box (ai p1) 0), (5, .int .i64 (p1.kids.length : Int)), (11, .int .i64 p1.kind)]) ⟨1, [(0, .row 60 2 (List.map aa.w p0))]⟩
def ly (m : Nat) (p0 : List aa) (p1 : Tree) (r0 : List aa) : Prop := ∀ (K : Ctx), av K [] → qLG K Tryz.f67 (fun u G => u = .sl 1 ∧ G = ⟨2, [(1, .row 60 2 (List.map aa.w r0))]⟩) (xI (xM (xD (xK (ac Tryz.f67))))) [.blk 0, .seq (xH (ac Tryz.f67))] 365 (mkF 365 0 [(0, .sl 0), (3, .box (ai p1) 0), (5, .int .i64 (p1.kids.length : Int))]) ⟨1, [(0, .row 60 2 (List.map aa.w p0))]⟩
def iu (m : Nat) (p0 : List aa) (p1 : Tree) (r0 : List aa) : Prop := ∀ (K : Ctx), av K [] → qLG K Tryz.f67 (fun u G => u = .sl 1 ∧ G = ⟨2, [(1, .row 60 2 (List.map aa.w r0))]⟩) (xM (xD (xC (xG (ac Tryz.f67))))) [.blk 0, .seq (xH (ac Tryz.f67))] 365 (mkF 365 0 [(0, .sl 0), (3, .box (ai p1) 0), (11, .int .i64 p1.kind)]) ⟨1, [(0, .row 60 2 (List.map aa.w p0))]⟩
def lE (m : Nat) (p0 : List aa) (p1 : Tree) (r0 : List aa) : Prop := ∀ (K : Ctx), av K [] → qLG K Tryz.f67 (fun u G => u = .sl 1 ∧ G = ⟨2, [(1, .row 60 2 (List.map aa.w r0))]⟩) (xI (xM (xD (xC (xG (ac Tryz.f67)))))) [.blk 0, .seq (xH (ac Tryz.f67))] 365 (mkF 365 0 [(0, .sl 0), (3, .box (ai p1) 0)]) ⟨1, [(0, .row 60 2 (List.map aa.w p0))]⟩
def iB (m : Nat) (p0 : List aa) (p1 : Tree) (r0 : List aa) : Prop := ∀ (K : Ctx), av K [] → qLG K Tryz.f67 (fun u G => u = .sl 1 ∧ G = ⟨2, [(1, .row 60 2 (List.map aa.w r0))]⟩) (xM (xD (xC (xK (ac Tryz.f67))))) [.blk 0, .seq (xH (ac Tryz.f67))] 365 (mkF 365 0 [(0, .sl 0), (3, .box (ai p1) 0), (11, .int .i64 p1.kind)]) ⟨1, [(0, .row 60 2 (List.map aa.w p0))]⟩
def lQ (m : Nat) (p0 : List aa) (p1 : Tree) (r0 : List aa) : Prop := ∀ (K : Ctx), av K [] → qLG K Tryz.f67 (fun u G => u = .sl 1 ∧ G = ⟨2, [(1, .row 60 2 (List.map aa.w r0))]⟩) (xI (xM (xD (xC (xK (ac Tryz.f67)))))) [.blk 0, .seq (xH (ac Tryz.f67))] 365 (mkF 365 0 [(0, .sl 0), (3, .box (ai p1) 0)]) ⟨1, [(0, .row 60 2 (List.map aa.w p0))]⟩
def ie (m : Nat) (p0 : List aa) (p1 : Tree) (r0 : List aa) : Prop := ∀ (K : Ctx), av K [] → qLG K Tryz.f67 (fun u G => u = .sl 1 ∧ G = ⟨2, [(1, .row 60 2 (List.map aa.w r0))]⟩) (xM (xM (xG (ac Tryz.f67)))) [.blk 0, .seq (xH (ac Tryz.f67))] 365 (mkF 365 0 [(0, .sl 0), (3, .box (ai p1) 0), (11, .int .i64 p1.kind)]) ⟨1, [(0, .row 60 2 (List.map aa.w p0))]⟩
def lq (m : Nat) (p0 : List aa) (p1 : Tree) (r0 : List aa) : Prop := ∀ (K : Ctx), av K [] → qLG K Tryz.f67 (fun u G => u = .sl 1 ∧ G = ⟨2, [(1, .row 60 2 (List.map aa.w r0))]⟩) (xI (xM (xM (xG (ac Tryz.f67))))) [.blk 0, .seq (xH (ac Tryz.f67))] 365 (mkF 365 0 [(0, .sl 0), (3, .box (ai p1) 0)]) ⟨1, [(0, .row 60 2 (List.map aa.w p0))]⟩
def ip (m : Nat) (p0 : List aa) (p1 : Tree) (r0 : List aa) : Prop := ∀ (K : Ctx), av K [] → qLG K Tryz.f67 (fun u G => u = .sl 1 ∧ G = ⟨2, [(1, .row 60 2 (List.map aa.w r0))]⟩) (xM (xM (xK (ac Tryz.f67)))) [.blk 0, .seq (xH (ac Tryz.f67))] 365 (mkF 365 0 [(0, .sl 0), (3, .box (ai p1) 0), (11, .int .i64 p1.kind)]) ⟨1, [(0, .row 60 2 (List.map aa.w p0))]⟩
def lK (m : Nat) (p0 : List aa) (p1 : Tree) (r0 : List aa) : Prop := ∀ (K : Ctx), av K [] → qLG K Tryz.f67 (fun u G => u = .sl 1 ∧ G = ⟨2, [(1, .row 60 2 (List.map aa.w r0))]⟩) (xI (xM (xM (xK (ac Tryz.f67))))) [.blk 0, .seq (xH (ac Tryz.f67))] 365 (mkF 365 0 [(0, .sl 0), (3, .box (ai p1) 0)]) ⟨1, [(0, .row 60 2 (List.map aa.w p0))]⟩
theorem mw (m : Nat) (p0 : List aa) (p1 : Tree) (r0 : List aa) (h : ((p1.kind = 1) → my m p0 p1 r0) ∧ ((p1.kind ≠ 1) → iQ m p0 p1 r0)) : al p0 p1 r0 := by
 refine am 365 [] Tryz.func67 rfl rfl rfl (aM rfl) fun K hK => ?_
 refine gR 3 rfl <| gFP 1 rfl rfl rfl rfl <| gR 8 rfl <| gV 9 (.int .i64 (p1.kids.length : Int)) rfl (bx (aG _)) rfl <| gLB 8 rfl (aG _) fun hl115 => gR 17 rfl <| qBeZ 12 13 rfl rfl rfl rfl h (fun h => ?_) fun h => ?_
 exact gR 1 rfl <| gJ (h K hK) [0] [] rfl hK pq3 ⟨⟨_, rfl, rfl, rfl, (vL _ p0).symm⟩, trivial⟩ rfl
 exact gR 1 rfl <| gJ (h K hK) [0] [] rfl hK pq4 ⟨⟨_, rfl, rfl, rfl, (vL _ p0).symm⟩, trivial⟩ rfl
theorem qj (m : Nat) (p0 : List aa) (p1 : Tree) (r0 : List aa) (h : ∃ a, ak p1 0 a ∧ ∃ b, ak p1 1 b ∧ (p0 ++ [(aa.mk a [109, 111, 100, 117, 108, 101]), (aa.mk b p1.text)]).length ≤ 1000000000 ∧ dR m p1 (p0 ++ [(aa.mk a [109, 111, 100, 117, 108, 101]), (aa.mk b p1.text)]) 0 r0) : my (m + 1) p0 p1 r0 := by
 intro K hK
 refine gR 1 rfl <| gDs [] 12 12 rfl (by kernel_rfl) (by kernel_rfl) <| gDr [(0, 2), (1, 2), (4, 2), (6, 2), (7, 2)] (by kernel_rfl) rfl rfl ?_
 obtain ⟨a, hs116, h⟩ := h
 refine bW 2 hs116 (by kernel_rfl) rfl (by kernel_rfl) rfl rfl .rfl rfl rfl ?_
 refine gDr [(3, 2)] (by kernel_rfl) rfl rfl ?_
 obtain ⟨b, hs117, h⟩ := h
 refine bW 5 hs117 (by kernel_rfl) rfl (by kernel_rfl) rfl rfl .rfl rfl rfl ?_
 refine gDr [(8, 0), (9, 0)] (by kernel_rfl) rfl rfl ?_
 obtain ⟨hb, h⟩ := h
 refine aP 10 (.repl 0 (.row 60 2 (List.map aa.w (p0 ++ [(aa.mk a [109, 111, 100, 117, 108, 101]), (aa.mk b p1.text)])))) rfl (by kernel_rfl) (bm ab rfl rfl rfl rfl rfl (List.map_append (f := aa.w) (l₁ := p0) (l₂ := [(aa.mk a [109, 111, 100, 117, 108, 101]), (aa.mk b p1.text)])).symm (by rw [aZ]; exact hb)) (okR rfl) rfl (by kernel_rfl) rfl rfl ?_
 exact gDr [(11, 0)] (by kernel_rfl) rfl rfl <| gDe (by kernel_rfl) <| gR 8 rfl <| go_loop m <| gJ (h K _ hK (by omega)) [2] [] rfl hK pq4 ⟨⟨_, rfl, rfl, rfl, (vL _ (p0 ++ [(aa.mk a [109, 111, 100, 117, 108, 101]), (aa.mk b p1.text)])).symm⟩, trivial⟩ rfl
theorem lC (m : Nat) (p0 : List aa) (p1 : Tree) (r0 : List aa) (h : ((p1.kind = 2) → mK m p0 p1 r0) ∧ ((p1.kind ≠ 2) → ji m p0 p1 r0)) : iQ (m + 1) p0 p1 r0 := by
 intro K hK
 refine gR 6 rfl <| qBeZ 43 44 rfl rfl rfl rfl h (fun h => ?_) fun h => ?_
 exact gR 1 rfl <| gJ (h K hK) [0] [] rfl hK pq3 ⟨⟨_, rfl, rfl, rfl, (vL _ p0).symm⟩, trivial⟩ rfl
 exact gR 1 rfl <| gJ (h K hK) [0] [] rfl hK pq4 ⟨⟨_, rfl, rfl, rfl, (vL _ p0).symm⟩, trivial⟩ rfl
theorem lL (m : Nat) (p1 : Tree) (a : List aa) (c : Nat) (r0 : List aa) (h : ((c < p1.kids.length) → ∃ e, p1.kids[c]? = some e ∧ ∃ d, al a e d ∧ c + 1 ≤ 9223372036854775807 ∧ dR m p1 d (c + 1) r0) ∧ ((¬ c < p1.kids.length) → ∃ b, ak p1 2 b ∧ (a ++ [(aa.mk b [])]).length ≤ 1000000000 ∧ (a ++ [(aa.mk b [])]) = r0)) : dR (m + 1) p1 a c r0 := by
 intro K j1 hK hj1
 obtain ⟨j1, rfl⟩ : ∃ j, j1 = j + 1 := ⟨j1 - 1, by omega⟩
 refine gR 8 rfl <| gB 27 rfl rfl rfl ?_ ?_ <;> intro hd
 replace hd := (fg hd)
 replace h := h.1 hd
 refine gR 10 rfl ?_
 obtain ⟨e, hxt3_1, h⟩ := h
 refine gY (az (aj hxt3_1) ab rfl rfl rfl rfl) rfl rfl <| gR 1 rfl ?_
 obtain ⟨d, hs118, h⟩ := h
 refine gCZ hs118 [0] ⟨⟨_, rfl, ⟨rfl, rfl, (vL _ a).symm⟩⟩, trivial⟩ ?_
 refine gHR 2 (List.map aa.w d) rfl (vL _ d) rfl <| gR 6 rfl ?_
 obtain ⟨hb, h⟩ := h
 exact gR 1 rfl <| gV 29 (.int .i64 ((c + 1 : Nat) : Int)) rfl (ax (by omega) (by omega)) rfl <| gR 2 rfl <| go_xloop <| gJ (h K _ hK (by omega)) [2] [] rfl hK pq4 ⟨⟨_, rfl, rfl, rfl, (vL _ d).symm⟩, trivial⟩ rfl
 replace hd := (fc hd)
 replace h := h.2 hd
 refine gR 3 rfl <| go_xloopE <| gR 6 rfl ?_
 obtain ⟨b, hs119, h⟩ := h
 refine gC0 hs119 (by kernel_rfl) rfl rfl .rfl rfl <| gR 2 rfl ?_
 obtain ⟨hb, h⟩ := h
 refine gDo (.repl 0 (.row 60 2 (List.map aa.w (a ++ [(aa.mk b [])])))) (bm ab rfl rfl rfl rfl rfl (apM aa.w a (aa.mk b [])) (by rw [aZ]; exact hb)) (okR rfl) rfl rfl rfl <| gR 6 rfl ?_
 subst h
 exact go_sub (F' := (mkF 365 0 [(4, .sl 1)])) (H' := ⟨2, [(1, .row 60 2 (List.map aa.w (a ++ [(aa.mk b [])])))]⟩) [1000, 2] [] rfl hK pq1 ⟨⟨_, rfl, rfl, rfl, (vL _ (a ++ [(aa.mk b [])])).symm⟩, trivial⟩ rfl <| go_endD [] ab (rs := [.tmp 4]) rfl rfl ⟨rfl, rfl⟩
theorem qb (m : Nat) (p0 : List aa) (p1 : Tree) (r0 : List aa) (h : ∃ e, ak p1 0 e ∧ ∃ g, ak p1 1 g ∧ ∃ i, ak p1 2 i ∧ (p0 ++ [(aa.mk e [100, 101, 102]), (aa.mk g p1.text), (aa.mk i [40])]).length ≤ 1000000000 ∧ InI ((p1.kids.length : Int) - 2) ∧ ∃ d, ee (p0 ++ [(aa.mk e [100, 101, 102]), (aa.mk g p1.text), (aa.mk i [40])]) p1 0 ((p1.kids.length : Int) - 2) 6 d ∧ ∃ j, ak p1 3 j ∧ ∃ k, ak p1 4 k ∧ (d ++ [(aa.mk j [41]), (aa.mk k [58])]).length ≤ 1000000000 ∧ InI ((p1.kids.length : Int) - 2) ∧ ∃ o, ((p1.kids.length : Int) - 2) = ((o : Nat) : Int) ∧ ∃ p, p1.kids[o]? = some p ∧ ∃ b, al (d ++ [(aa.mk j [41]), (aa.mk k [58])]) p b ∧ ∃ a, ak p1 5 a ∧ (b ++ [(aa.mk a [61])]).length ≤ 1000000000 ∧ InI ((p1.kids.length : Int) - 1) ∧ ∃ l, ((p1.kids.length : Int) - 1) = ((l : Nat) : Int) ∧ ∃ n, p1.kids[l]? = some n ∧ ∃ c, al (b ++ [(aa.mk a [61])]) n c ∧ c = r0) : mK (m + 1) p0 p1 r0 := by
 intro K hK
 refine gR 1 rfl <| gDs [] 15 15 rfl (by kernel_rfl) (by kernel_rfl) <| gDr [(0, 2), (1, 2), (4, 2), (6, 2), (7, 2), (9, 2)] (by kernel_rfl) rfl rfl ?_
 obtain ⟨e, hs120, h⟩ := h
 refine bW 2 hs120 (by kernel_rfl) rfl (by kernel_rfl) rfl rfl .rfl rfl rfl ?_
 refine gDr [(3, 2)] (by kernel_rfl) rfl rfl ?_
 obtain ⟨g, hs121, h⟩ := h
 refine bW 5 hs121 (by kernel_rfl) rfl (by kernel_rfl) rfl rfl .rfl rfl rfl ?_
 refine gDr [(8, 2)] (by kernel_rfl) rfl rfl ?_
 obtain ⟨i, hs122, h⟩ := h
 refine bW 10 hs122 (by kernel_rfl) rfl (by kernel_rfl) rfl rfl .rfl rfl rfl ?_
 refine gDr [(11, 0), (12, 0)] (by kernel_rfl) rfl rfl ?_
 obtain ⟨hb, h⟩ := h
 refine aP 13 (.repl 0 (.row 60 2 (List.map aa.w (p0 ++ [(aa.mk e [100, 101, 102]), (aa.mk g p1.text), (aa.mk i [40])])))) rfl (by kernel_rfl) (bm ab rfl rfl rfl rfl rfl (List.map_append (f := aa.w) (l₁ := p0) (l₂ := [(aa.mk e [100, 101, 102]), (aa.mk g p1.text), (aa.mk i [40])])).symm (by rw [aZ]; exact hb)) (okR rfl) rfl (by kernel_rfl) rfl rfl ?_
 refine gDr [(14, 0)] (by kernel_rfl) rfl rfl <| gDe (by kernel_rfl) <| gR 6 rfl ?_
 obtain ⟨hb, h⟩ := h
 refine gR 1 rfl <| gV 62 (.int .i64 ((p1.kids.length : Int) - 2)) rfl (ax hb rfl) rfl ?_
 obtain ⟨d, hs123, h⟩ := h
 refine gCZ hs123 [2] ⟨⟨_, rfl, ⟨rfl, rfl, (vL _ (p0 ++ [(aa.mk e [100, 101, 102]), (aa.mk g p1.text), (aa.mk i [40])])).symm⟩⟩, trivial⟩ ?_
 refine gHR 4 (List.map aa.w d) rfl (vL _ d) rfl <| gR 4 rfl <| gDs [] 10 10 rfl (by kernel_rfl) (by kernel_rfl) <| gDr [(0, 2), (1, 2), (4, 2)] (by kernel_rfl) rfl rfl ?_
 obtain ⟨j, hs124, h⟩ := h
 refine bW 2 hs124 (by kernel_rfl) rfl (by kernel_rfl) rfl rfl .rfl rfl rfl ?_
 refine gDr [(3, 2)] (by kernel_rfl) rfl rfl ?_
 obtain ⟨k, hs125, h⟩ := h
 refine bW 5 hs125 (by kernel_rfl) rfl (by kernel_rfl) rfl rfl .rfl rfl rfl ?_
 refine gDr [(6, 0), (7, 0)] (by kernel_rfl) rfl rfl ?_
 obtain ⟨hb, h⟩ := h
 refine aP 8 (.repl 4 (.row 60 2 (List.map aa.w (d ++ [(aa.mk j [41]), (aa.mk k [58])])))) rfl (by kernel_rfl) (bm ab rfl rfl rfl rfl rfl (List.map_append (f := aa.w) (l₁ := d) (l₂ := [(aa.mk j [41]), (aa.mk k [58])])).symm (by rw [aZ]; exact hb)) (okR rfl) rfl (by kernel_rfl) rfl rfl ?_
 refine gDr [(9, 0)] (by kernel_rfl) rfl rfl <| gDe (by kernel_rfl) <| gR 2 rfl <| gDs [] 14 14 rfl (by kernel_rfl) (by kernel_rfl) <| gDr [(0, 2), (1, 2), (2, 2), (3, 2)] (by kernel_rfl) rfl rfl ?_
 obtain ⟨hb, h⟩ := h
 refine gDr [(4, 2)] (by kernel_rfl) rfl rfl <| gV 77 (.int .i64 ((p1.kids.length : Int) - 2)) rfl (ax hb rfl) rfl ?_
 obtain ⟨o, r, h⟩ := h
 refine gV 77 (.int .i64 ((o : Nat) : Int)) rfl (fP r) rfl ?_
 obtain ⟨p, hxt4_8, h⟩ := h
 refine gYd 5 rfl (by kernel_rfl) (az (aj hxt4_8) ab rfl rfl rfl rfl) rfl rfl <| gDr [(6, 2), (8, 2)] (by kernel_rfl) rfl rfl ?_
 obtain ⟨b, hs126, h⟩ := h
 refine gDCZ 7 hs126 [6] rfl ⟨⟨_, rfl, ⟨rfl, rfl, (vL _ (d ++ [(aa.mk j [41]), (aa.mk k [58])])).symm⟩⟩, trivial⟩ ?_
 refine gHR 8 (List.map aa.w b) rfl (vL _ b) rfl ?_
 obtain ⟨a, hs127, h⟩ := h
 refine bW 9 hs127 (by kernel_rfl) rfl (by kernel_rfl) rfl rfl .rfl rfl rfl ?_
 refine gDr [(10, 0), (11, 0)] (by kernel_rfl) rfl rfl ?_
 obtain ⟨hb, h⟩ := h
 refine aP 12 (.repl 8 (.row 60 2 (List.map aa.w (b ++ [(aa.mk a [61])])))) rfl (by kernel_rfl) (bm ab rfl rfl rfl rfl rfl (apM aa.w b (aa.mk a [61])) (by rw [aZ]; exact hb)) (okR rfl) rfl (by kernel_rfl) rfl rfl ?_
 refine gDr [(13, 0)] (by kernel_rfl) rfl rfl <| gDe (by kernel_rfl) <| gR 1 rfl <| go_sub (F' := (mkF 365 0 [(0, .sl 0), (3, .box (ai p1) 0), (5, .int .i64 (p1.kids.length : Int))])) (H' := ⟨1, [(0, .row 60 2 (List.map aa.w (b ++ [(aa.mk a [61])])))]⟩) [10] [] rfl hK pq3 ⟨⟨_, rfl, rfl, rfl, (vL _ (b ++ [(aa.mk a [61])])).symm⟩, trivial⟩ rfl <| gR 6 rfl ?_
 obtain ⟨hb, h⟩ := h
 refine gR 1 rfl <| gV 90 (.int .i64 ((p1.kids.length : Int) - 1)) rfl (ax hb rfl) rfl ?_
 obtain ⟨l, q, h⟩ := h
 refine gV 90 (.int .i64 ((l : Nat) : Int)) rfl (fP q) rfl ?_
 obtain ⟨n, hxt4_12, h⟩ := h
 refine gY (az (aj hxt4_12) ab rfl rfl rfl rfl) rfl rfl <| gR 1 rfl ?_
 obtain ⟨c, hs128, h⟩ := h
 refine gCZ hs128 [0] ⟨⟨_, rfl, ⟨rfl, rfl, (vL _ (b ++ [(aa.mk a [61])])).symm⟩⟩, trivial⟩ ?_
 refine gHR 2 (List.map aa.w c) rfl (vL _ c) rfl <| gR 6 rfl ?_
 subst h
 exact go_sub (F' := (mkF 365 0 [(4, .sl 1)])) (H' := ⟨2, [(1, .row 60 2 (List.map aa.w c))]⟩) [1000, 2] [] rfl hK pq1 ⟨⟨_, rfl, rfl, rfl, (vL _ c).symm⟩, trivial⟩ rfl <| go_endD [] ab (rs := [.tmp 4]) rfl rfl ⟨rfl, rfl⟩
theorem lx (m : Nat) (p0 : List aa) (p1 : Tree) (r0 : List aa) (h : ((p1.kind = 3) → mz m p0 p1 r0) ∧ ((p1.kind ≠ 3) → jh m p0 p1 r0)) : ji (m + 1) p0 p1 r0 := by
 intro K hK
 refine gR 6 rfl <| qBeZ 94 95 rfl rfl rfl rfl h (fun h => ?_) fun h => ?_
 exact gR 1 rfl <| gJ (h K hK) [0] [] rfl hK pq2 ⟨⟨_, rfl, rfl, rfl, (vL _ p0).symm⟩, trivial⟩ rfl
 exact gR 1 rfl <| gJ (h K hK) [0] [] rfl hK pq4 ⟨⟨_, rfl, rfl, rfl, (vL _ p0).symm⟩, trivial⟩ rfl
theorem qa (m : Nat) (p0 : List aa) (p1 : Tree) (r0 : List aa) (h : ∃ a, ak p1 0 a ∧ ∃ b, ak p1 1 b ∧ ∃ c, ak p1 2 c ∧ (p0 ++ [(aa.mk a [116, 121, 112, 101]), (aa.mk b p1.text), (aa.mk c [61])]).length ≤ 1000000000 ∧ ∃ e, p1.kids[0]? = some e ∧ ∃ d, al (p0 ++ [(aa.mk a [116, 121, 112, 101]), (aa.mk b p1.text), (aa.mk c [61])]) e d ∧ d = r0) : mz (m + 1) p0 p1 r0 := by
 intro K hK
 refine gR 1 rfl <| gDs [] 15 15 rfl (by kernel_rfl) (by kernel_rfl) <| gDr [(0, 2), (1, 2), (4, 2), (6, 2), (7, 2), (9, 2)] (by kernel_rfl) rfl rfl ?_
 obtain ⟨a, hs129, h⟩ := h
 refine bW 2 hs129 (by kernel_rfl) rfl (by kernel_rfl) rfl rfl .rfl rfl rfl ?_
 refine gDr [(3, 2)] (by kernel_rfl) rfl rfl ?_
 obtain ⟨b, hs130, h⟩ := h
 refine bW 5 hs130 (by kernel_rfl) rfl (by kernel_rfl) rfl rfl .rfl rfl rfl ?_
 refine gDr [(8, 2)] (by kernel_rfl) rfl rfl ?_
 obtain ⟨c, hs131, h⟩ := h
 refine bW 10 hs131 (by kernel_rfl) rfl (by kernel_rfl) rfl rfl .rfl rfl rfl ?_
 refine gDr [(11, 0), (12, 0)] (by kernel_rfl) rfl rfl ?_
 obtain ⟨hb, h⟩ := h
 refine aP 13 (.repl 0 (.row 60 2 (List.map aa.w (p0 ++ [(aa.mk a [116, 121, 112, 101]), (aa.mk b p1.text), (aa.mk c [61])])))) rfl (by kernel_rfl) (bm ab rfl rfl rfl rfl rfl (List.map_append (f := aa.w) (l₁ := p0) (l₂ := [(aa.mk a [116, 121, 112, 101]), (aa.mk b p1.text), (aa.mk c [61])])).symm (by rw [aZ]; exact hb)) (okR rfl) rfl (by kernel_rfl) rfl rfl ?_
 refine gDr [(14, 0)] (by kernel_rfl) rfl rfl <| gDe (by kernel_rfl) <| gR 6 rfl ?_
 obtain ⟨e, hxt6_4, h⟩ := h
 refine gY (az (aj hxt6_4) ab rfl rfl rfl rfl) rfl rfl <| gR 1 rfl ?_
 obtain ⟨d, hs132, h⟩ := h
 refine gCZ hs132 [2] ⟨⟨_, rfl, ⟨rfl, rfl, (vL _ (p0 ++ [(aa.mk a [116, 121, 112, 101]), (aa.mk b p1.text), (aa.mk c [61])])).symm⟩⟩, trivial⟩ ?_
 refine gHR 4 (List.map aa.w d) rfl (vL _ d) rfl <| gR 6 rfl ?_
 subst h
 exact go_sub (F' := (mkF 365 0 [(4, .sl 1)])) (H' := ⟨2, [(1, .row 60 2 (List.map aa.w d))]⟩) [1000, 4] [] rfl hK pq1 ⟨⟨_, rfl, rfl, rfl, (vL _ d).symm⟩, trivial⟩ rfl <| go_endD [] ab (rs := [.tmp 4]) rfl rfl ⟨rfl, rfl⟩
theorem lW (m : Nat) (p0 : List aa) (p1 : Tree) (r0 : List aa) (h : ((p1.kind = 4) → mo m p0 p1 r0) ∧ ((p1.kind ≠ 4) → jl m p0 p1 r0)) : jh (m + 1) p0 p1 r0 := by
 intro K hK
 refine gR 6 rfl <| qBeZ 116 117 rfl rfl rfl rfl h (fun h => ?_) fun h => ?_
 exact gR 1 rfl <| gJ (h K hK) [0] [] rfl hK pq2 ⟨⟨_, rfl, rfl, rfl, (vL _ p0).symm⟩, trivial⟩ rfl
 exact gR 1 rfl <| gJ (h K hK) [0] [] rfl hK pq4 ⟨⟨_, rfl, rfl, rfl, (vL _ p0).symm⟩, trivial⟩ rfl
theorem qm (m : Nat) (p0 : List aa) (p1 : Tree) (r0 : List aa) (h : ∃ a, ak p1 0 a ∧ ∃ b, ak p1 1 b ∧ (p0 ++ [(aa.mk a p1.text), (aa.mk b [58])]).length ≤ 1000000000 ∧ ∃ d, p1.kids[0]? = some d ∧ ∃ c, al (p0 ++ [(aa.mk a p1.text), (aa.mk b [58])]) d c ∧ c = r0) : mo (m + 1) p0 p1 r0 := by
 intro K hK
 refine gR 1 rfl <| gDs [] 12 12 rfl (by kernel_rfl) (by kernel_rfl) <| gDr [(0, 2), (1, 2), (3, 2), (4, 2), (6, 2)] (by kernel_rfl) rfl rfl ?_
 obtain ⟨a, hs133, h⟩ := h
 refine bW 2 hs133 (by kernel_rfl) rfl (by kernel_rfl) rfl rfl .rfl rfl rfl ?_
 refine gDr [(5, 2)] (by kernel_rfl) rfl rfl ?_
 obtain ⟨b, hs134, h⟩ := h
 refine bW 7 hs134 (by kernel_rfl) rfl (by kernel_rfl) rfl rfl .rfl rfl rfl ?_
 refine gDr [(8, 0), (9, 0)] (by kernel_rfl) rfl rfl ?_
 obtain ⟨hb, h⟩ := h
 refine aP 10 (.repl 0 (.row 60 2 (List.map aa.w (p0 ++ [(aa.mk a p1.text), (aa.mk b [58])])))) rfl (by kernel_rfl) (bm ab rfl rfl rfl rfl rfl (List.map_append (f := aa.w) (l₁ := p0) (l₂ := [(aa.mk a p1.text), (aa.mk b [58])])).symm (by rw [aZ]; exact hb)) (okR rfl) rfl (by kernel_rfl) rfl rfl ?_
 refine gDr [(11, 0)] (by kernel_rfl) rfl rfl <| gDe (by kernel_rfl) <| gR 6 rfl ?_
 obtain ⟨d, hxt8_3, h⟩ := h
 refine gY (az (aj hxt8_3) ab rfl rfl rfl rfl) rfl rfl <| gR 1 rfl ?_
 obtain ⟨c, hs135, h⟩ := h
 refine gCZ hs135 [2] ⟨⟨_, rfl, ⟨rfl, rfl, (vL _ (p0 ++ [(aa.mk a p1.text), (aa.mk b [58])])).symm⟩⟩, trivial⟩ ?_
 refine gHR 4 (List.map aa.w c) rfl (vL _ c) rfl <| gR 6 rfl ?_
 subst h
 exact go_sub (F' := (mkF 365 0 [(4, .sl 1)])) (H' := ⟨2, [(1, .row 60 2 (List.map aa.w c))]⟩) [1000, 4] [] rfl hK pq1 ⟨⟨_, rfl, rfl, rfl, (vL _ c).symm⟩, trivial⟩ rfl <| go_endD [] ab (rs := [.tmp 4]) rfl rfl ⟨rfl, rfl⟩
theorem lA (m : Nat) (p0 : List aa) (p1 : Tree) (r0 : List aa) (h : ((p1.kind = 5) → ∃ a, ak p1 0 a ∧ (p0 ++ [(aa.mk a [73, 110, 116])]).length ≤ 1000000000 ∧ (p0 ++ [(aa.mk a [73, 110, 116])]) = r0) ∧ ((p1.kind ≠ 5) → iZ m p0 p1 r0)) : jl (m + 1) p0 p1 r0 := by
 intro K hK
 refine gR 6 rfl <| qBeZ 135 136 rfl rfl rfl rfl h (fun h => ?_) fun h => ?_
 refine gR 5 rfl ?_
 obtain ⟨a, hs136, h⟩ := h
 refine gC0 hs136 (by kernel_rfl) rfl rfl .rfl rfl <| gR 2 rfl ?_
 obtain ⟨hb, h⟩ := h
 refine gDo (.repl 0 (.row 60 2 (List.map aa.w (p0 ++ [(aa.mk a [73, 110, 116])])))) (bm ab rfl rfl rfl rfl rfl (apM aa.w p0 (aa.mk a [73, 110, 116])) (by rw [aZ]; exact hb)) (okR rfl) rfl rfl rfl <| gR 6 rfl ?_
 subst h
 exact go_sub (F' := (mkF 365 0 [(4, .sl 1)])) (H' := ⟨2, [(1, .row 60 2 (List.map aa.w (p0 ++ [(aa.mk a [73, 110, 116])])))]⟩) [1000, 2] [] rfl hK pq1 ⟨⟨_, rfl, rfl, rfl, (vL _ (p0 ++ [(aa.mk a [73, 110, 116])])).symm⟩, trivial⟩ rfl <| go_endD [] ab (rs := [.tmp 4]) rfl rfl ⟨rfl, rfl⟩
 exact gR 1 rfl <| gJ (h K hK) [0] [] rfl hK pq4 ⟨⟨_, rfl, rfl, rfl, (vL _ p0).symm⟩, trivial⟩ rfl
theorem lR (m : Nat) (p0 : List aa) (p1 : Tree) (r0 : List aa) (h : ((p1.kind = 6) → ∃ a, ak p1 0 a ∧ (p0 ++ [(aa.mk a [84, 101, 120, 116])]).length ≤ 1000000000 ∧ (p0 ++ [(aa.mk a [84, 101, 120, 116])]) = r0) ∧ ((p1.kind ≠ 6) → ib m p0 p1 r0)) : iZ (m + 1) p0 p1 r0 := by
 intro K hK
 refine gR 6 rfl <| qBeZ 143 144 rfl rfl rfl rfl h (fun h => ?_) fun h => ?_
 refine gR 5 rfl ?_
 obtain ⟨a, hs137, h⟩ := h
 refine gC0 hs137 (by kernel_rfl) rfl rfl .rfl rfl <| gR 2 rfl ?_
 obtain ⟨hb, h⟩ := h
 refine gDo (.repl 0 (.row 60 2 (List.map aa.w (p0 ++ [(aa.mk a [84, 101, 120, 116])])))) (bm ab rfl rfl rfl rfl rfl (apM aa.w p0 (aa.mk a [84, 101, 120, 116])) (by rw [aZ]; exact hb)) (okR rfl) rfl rfl rfl <| gR 6 rfl ?_
 subst h
 exact go_sub (F' := (mkF 365 0 [(4, .sl 1)])) (H' := ⟨2, [(1, .row 60 2 (List.map aa.w (p0 ++ [(aa.mk a [84, 101, 120, 116])])))]⟩) [1000, 2] [] rfl hK pq1 ⟨⟨_, rfl, rfl, rfl, (vL _ (p0 ++ [(aa.mk a [84, 101, 120, 116])])).symm⟩, trivial⟩ rfl <| go_endD [] ab (rs := [.tmp 4]) rfl rfl ⟨rfl, rfl⟩
 exact gR 1 rfl <| gJ (h K hK) [0] [] rfl hK pq4 ⟨⟨_, rfl, rfl, rfl, (vL _ p0).symm⟩, trivial⟩ rfl
theorem kS (m : Nat) (p0 : List aa) (p1 : Tree) (r0 : List aa) (h : ((p1.kind = 7) → ∃ a, ak p1 0 a ∧ (p0 ++ [(aa.mk a [66, 111, 111, 108])]).length ≤ 1000000000 ∧ (p0 ++ [(aa.mk a [66, 111, 111, 108])]) = r0) ∧ ((p1.kind ≠ 7) → it m p0 p1 r0)) : ib (m + 1) p0 p1 r0 := by
 intro K hK
 refine gR 6 rfl <| qBeZ 151 152 rfl rfl rfl rfl h (fun h => ?_) fun h => ?_
 refine gR 5 rfl ?_
 obtain ⟨a, hs138, h⟩ := h
 refine gC0 hs138 (by kernel_rfl) rfl rfl .rfl rfl <| gR 2 rfl ?_
 obtain ⟨hb, h⟩ := h
 refine gDo (.repl 0 (.row 60 2 (List.map aa.w (p0 ++ [(aa.mk a [66, 111, 111, 108])])))) (bm ab rfl rfl rfl rfl rfl (apM aa.w p0 (aa.mk a [66, 111, 111, 108])) (by rw [aZ]; exact hb)) (okR rfl) rfl rfl rfl <| gR 6 rfl ?_
 subst h
 exact go_sub (F' := (mkF 365 0 [(4, .sl 1)])) (H' := ⟨2, [(1, .row 60 2 (List.map aa.w (p0 ++ [(aa.mk a [66, 111, 111, 108])])))]⟩) [1000, 2] [] rfl hK pq1 ⟨⟨_, rfl, rfl, rfl, (vL _ (p0 ++ [(aa.mk a [66, 111, 111, 108])])).symm⟩, trivial⟩ rfl <| go_endD [] ab (rs := [.tmp 4]) rfl rfl ⟨rfl, rfl⟩
 exact gR 1 rfl <| gJ (h K hK) [0] [] rfl hK pq4 ⟨⟨_, rfl, rfl, rfl, (vL _ p0).symm⟩, trivial⟩ rfl
theorem kB (m : Nat) (p0 : List aa) (p1 : Tree) (r0 : List aa) (h : ((p1.kind = 13) → ∃ a, ak p1 0 a ∧ (p0 ++ [(aa.mk a [116, 114, 117, 101])]).length ≤ 1000000000 ∧ (p0 ++ [(aa.mk a [116, 114, 117, 101])]) = r0) ∧ ((p1.kind ≠ 13) → im m p0 p1 r0)) : it (m + 1) p0 p1 r0 := by
 intro K hK
 refine gR 6 rfl <| qBeZ 159 160 rfl rfl rfl rfl h (fun h => ?_) fun h => ?_
 refine gR 5 rfl ?_
 obtain ⟨a, hs139, h⟩ := h
 refine gC0 hs139 (by kernel_rfl) rfl rfl .rfl rfl <| gR 2 rfl ?_
 obtain ⟨hb, h⟩ := h
 refine gDo (.repl 0 (.row 60 2 (List.map aa.w (p0 ++ [(aa.mk a [116, 114, 117, 101])])))) (bm ab rfl rfl rfl rfl rfl (apM aa.w p0 (aa.mk a [116, 114, 117, 101])) (by rw [aZ]; exact hb)) (okR rfl) rfl rfl rfl <| gR 6 rfl ?_
 subst h
 exact go_sub (F' := (mkF 365 0 [(4, .sl 1)])) (H' := ⟨2, [(1, .row 60 2 (List.map aa.w (p0 ++ [(aa.mk a [116, 114, 117, 101])])))]⟩) [1000, 2] [] rfl hK pq1 ⟨⟨_, rfl, rfl, rfl, (vL _ (p0 ++ [(aa.mk a [116, 114, 117, 101])])).symm⟩, trivial⟩ rfl <| go_endD [] ab (rs := [.tmp 4]) rfl rfl ⟨rfl, rfl⟩
 exact gR 1 rfl <| gJ (h K hK) [0] [] rfl hK pq4 ⟨⟨_, rfl, rfl, rfl, (vL _ p0).symm⟩, trivial⟩ rfl
theorem kA (m : Nat) (p0 : List aa) (p1 : Tree) (r0 : List aa) (h : ((p1.kind = 14) → ∃ a, ak p1 0 a ∧ (p0 ++ [(aa.mk a [102, 97, 108, 115, 101])]).length ≤ 1000000000 ∧ (p0 ++ [(aa.mk a [102, 97, 108, 115, 101])]) = r0) ∧ ((p1.kind ≠ 14) → iq m p0 p1 r0)) : im (m + 1) p0 p1 r0 := by
 intro K hK
 refine gR 6 rfl <| qBeZ 167 168 rfl rfl rfl rfl h (fun h => ?_) fun h => ?_
 refine gR 5 rfl ?_
 obtain ⟨a, hs140, h⟩ := h
 refine gC0 hs140 (by kernel_rfl) rfl rfl .rfl rfl <| gR 2 rfl ?_
 obtain ⟨hb, h⟩ := h
 refine gDo (.repl 0 (.row 60 2 (List.map aa.w (p0 ++ [(aa.mk a [102, 97, 108, 115, 101])])))) (bm ab rfl rfl rfl rfl rfl (apM aa.w p0 (aa.mk a [102, 97, 108, 115, 101])) (by rw [aZ]; exact hb)) (okR rfl) rfl rfl rfl <| gR 6 rfl ?_
 subst h
 exact go_sub (F' := (mkF 365 0 [(4, .sl 1)])) (H' := ⟨2, [(1, .row 60 2 (List.map aa.w (p0 ++ [(aa.mk a [102, 97, 108, 115, 101])])))]⟩) [1000, 2] [] rfl hK pq1 ⟨⟨_, rfl, rfl, rfl, (vL _ (p0 ++ [(aa.mk a [102, 97, 108, 115, 101])])).symm⟩, trivial⟩ rfl <| go_endD [] ab (rs := [.tmp 4]) rfl rfl ⟨rfl, rfl⟩
 exact gR 1 rfl <| gJ (h K hK) [0] [] rfl hK pq4 ⟨⟨_, rfl, rfl, rfl, (vL _ p0).symm⟩, trivial⟩ rfl
theorem kI (m : Nat) (p0 : List aa) (p1 : Tree) (r0 : List aa) (h : ((p1.kind = 15) → ∃ a, ak p1 0 a ∧ (p0 ++ [(aa.mk a [63])]).length ≤ 1000000000 ∧ (p0 ++ [(aa.mk a [63])]) = r0) ∧ ((p1.kind ≠ 15) → il m p0 p1 r0)) : iq (m + 1) p0 p1 r0 := by
 intro K hK
 refine gR 6 rfl <| qBeZ 175 176 rfl rfl rfl rfl h (fun h => ?_) fun h => ?_
 refine gR 5 rfl ?_
 obtain ⟨a, hs141, h⟩ := h
 refine gC0 hs141 (by kernel_rfl) rfl rfl .rfl rfl <| gR 2 rfl ?_
 obtain ⟨hb, h⟩ := h
 refine gDo (.repl 0 (.row 60 2 (List.map aa.w (p0 ++ [(aa.mk a [63])])))) (bm ab rfl rfl rfl rfl rfl (apM aa.w p0 (aa.mk a [63])) (by rw [aZ]; exact hb)) (okR rfl) rfl rfl rfl <| gR 6 rfl ?_
 subst h
 exact go_sub (F' := (mkF 365 0 [(4, .sl 1)])) (H' := ⟨2, [(1, .row 60 2 (List.map aa.w (p0 ++ [(aa.mk a [63])])))]⟩) [1000, 2] [] rfl hK pq1 ⟨⟨_, rfl, rfl, rfl, (vL _ (p0 ++ [(aa.mk a [63])])).symm⟩, trivial⟩ rfl <| go_endD [] ab (rs := [.tmp 4]) rfl rfl ⟨rfl, rfl⟩
 exact gR 1 rfl <| gJ (h K hK) [0] [] rfl hK pq4 ⟨⟨_, rfl, rfl, rfl, (vL _ p0).symm⟩, trivial⟩ rfl
theorem lf (m : Nat) (p0 : List aa) (p1 : Tree) (r0 : List aa) (h : ((p1.kind = 8) → lJ m p0 p1 r0) ∧ ((p1.kind ≠ 8) → iy m p0 p1 r0)) : il (m + 1) p0 p1 r0 := by
 intro K hK
 refine gR 6 rfl <| qBeZ 183 184 rfl rfl rfl rfl h (fun h => ?_) fun h => ?_
 exact gR 1 rfl <| gJ (h K hK) [0] [] rfl hK pq2 ⟨⟨_, rfl, rfl, rfl, (vL _ p0).symm⟩, trivial⟩ rfl
 exact gR 1 rfl <| gJ (h K hK) [0] [] rfl hK pq4 ⟨⟨_, rfl, rfl, rfl, (vL _ p0).symm⟩, trivial⟩ rfl
theorem pg (m : Nat) (p0 : List aa) (p1 : Tree) (r0 : List aa) (h : ∃ c, ak p1 0 c ∧ (p0 ++ [(aa.mk c [91])]).length ≤ 1000000000 ∧ ∃ d, p1.kids[0]? = some d ∧ ∃ a, al (p0 ++ [(aa.mk c [91])]) d a ∧ ∃ b, ak p1 1 b ∧ (a ++ [(aa.mk b [93])]).length ≤ 1000000000 ∧ (a ++ [(aa.mk b [93])]) = r0) : lJ (m + 1) p0 p1 r0 := by
 intro K hK
 refine gR 4 rfl ?_
 obtain ⟨c, hs142, h⟩ := h
 refine gC0 hs142 (by kernel_rfl) rfl rfl .rfl rfl <| gR 2 rfl ?_
 obtain ⟨hb, h⟩ := h
 refine gDo (.repl 0 (.row 60 2 (List.map aa.w (p0 ++ [(aa.mk c [91])])))) (bm ab rfl rfl rfl rfl rfl (apM aa.w p0 (aa.mk c [91])) (by rw [aZ]; exact hb)) (okR rfl) rfl rfl rfl <| gR 4 rfl <| gDs [] 12 12 rfl (by kernel_rfl) (by kernel_rfl) <| gDr [(0, 2), (1, 2), (2, 2)] (by kernel_rfl) rfl rfl ?_
 obtain ⟨d, hxt16_2, h⟩ := h
 refine gYd 3 rfl (by kernel_rfl) (az (aj hxt16_2) ab rfl rfl rfl rfl) rfl rfl <| gDr [(4, 2), (6, 2)] (by kernel_rfl) rfl rfl ?_
 obtain ⟨a, hs143, h⟩ := h
 refine gDCZ 5 hs143 [2] rfl ⟨⟨_, rfl, ⟨rfl, rfl, (vL _ (p0 ++ [(aa.mk c [91])])).symm⟩⟩, trivial⟩ ?_
 refine gHR 4 (List.map aa.w a) rfl (vL _ a) rfl ?_
 obtain ⟨b, hs144, h⟩ := h
 refine bW 7 hs144 (by kernel_rfl) rfl (by kernel_rfl) rfl rfl .rfl rfl rfl ?_
 refine gDr [(8, 0), (9, 0)] (by kernel_rfl) rfl rfl ?_
 obtain ⟨hb, h⟩ := h
 refine aP 10 (.repl 4 (.row 60 2 (List.map aa.w (a ++ [(aa.mk b [93])])))) rfl (by kernel_rfl) (bm ab rfl rfl rfl rfl rfl (apM aa.w a (aa.mk b [93])) (by rw [aZ]; exact hb)) (okR rfl) rfl (by kernel_rfl) rfl rfl ?_
 refine gDr [(11, 0)] (by kernel_rfl) rfl rfl <| gDe (by kernel_rfl) <| gR 4 rfl ?_
 subst h
 exact go_sub (F' := (mkF 365 0 [(4, .sl 1)])) (H' := ⟨2, [(1, .row 60 2 (List.map aa.w (a ++ [(aa.mk b [93])])))]⟩) [1000, 6] [] rfl hK pq1 ⟨⟨_, rfl, rfl, rfl, (vL _ (a ++ [(aa.mk b [93])])).symm⟩, trivial⟩ rfl <| go_endD [] ab (rs := [.tmp 4]) rfl rfl ⟨rfl, rfl⟩
theorem kW (m : Nat) (p0 : List aa) (p1 : Tree) (r0 : List aa) (h : ((p1.kind = 16) → lF m p0 p1 r0) ∧ ((p1.kind ≠ 16) → ic m p0 p1 r0)) : iy (m + 1) p0 p1 r0 := by
 intro K hK
 refine gR 6 rfl <| qBeZ 202 203 rfl rfl rfl rfl h (fun h => ?_) fun h => ?_
 exact gR 1 rfl <| gJ (h K hK) [0] [] rfl hK pq3 ⟨⟨_, rfl, rfl, rfl, (vL _ p0).symm⟩, trivial⟩ rfl
 exact gR 1 rfl <| gJ (h K hK) [0] [] rfl hK pq4 ⟨⟨_, rfl, rfl, rfl, (vL _ p0).symm⟩, trivial⟩ rfl
theorem pk (m : Nat) (p0 : List aa) (p1 : Tree) (r0 : List aa) (h : ∃ c, ak p1 0 c ∧ ∃ d, ak p1 1 d ∧ (p0 ++ [(aa.mk c p1.text), (aa.mk d [40])]).length ≤ 1000000000 ∧ ∃ a, ee (p0 ++ [(aa.mk c p1.text), (aa.mk d [40])]) p1 0 (p1.kids.length : Int) 3 a ∧ ∃ b, ak p1 2 b ∧ (a ++ [(aa.mk b [41])]).length ≤ 1000000000 ∧ (a ++ [(aa.mk b [41])]) = r0) : lF (m + 1) p0 p1 r0 := by
 intro K hK
 refine gR 1 rfl <| gDs [] 12 12 rfl (by kernel_rfl) (by kernel_rfl) <| gDr [(0, 2), (1, 2), (3, 2), (4, 2), (6, 2)] (by kernel_rfl) rfl rfl ?_
 obtain ⟨c, hs145, h⟩ := h
 refine bW 2 hs145 (by kernel_rfl) rfl (by kernel_rfl) rfl rfl .rfl rfl rfl ?_
 refine gDr [(5, 2)] (by kernel_rfl) rfl rfl ?_
 obtain ⟨d, hs146, h⟩ := h
 refine bW 7 hs146 (by kernel_rfl) rfl (by kernel_rfl) rfl rfl .rfl rfl rfl ?_
 refine gDr [(8, 0), (9, 0)] (by kernel_rfl) rfl rfl ?_
 obtain ⟨hb, h⟩ := h
 refine aP 10 (.repl 0 (.row 60 2 (List.map aa.w (p0 ++ [(aa.mk c p1.text), (aa.mk d [40])])))) rfl (by kernel_rfl) (bm ab rfl rfl rfl rfl rfl (List.map_append (f := aa.w) (l₁ := p0) (l₂ := [(aa.mk c p1.text), (aa.mk d [40])])).symm (by rw [aZ]; exact hb)) (okR rfl) rfl (by kernel_rfl) rfl rfl ?_
 refine gDr [(11, 0)] (by kernel_rfl) rfl rfl <| gDe (by kernel_rfl) <| gR 2 rfl <| gDs [] 10 10 rfl (by kernel_rfl) (by kernel_rfl) <| gDr [(0, 2), (1, 2), (2, 2), (4, 2)] (by kernel_rfl) rfl rfl ?_
 obtain ⟨a, hs147, h⟩ := h
 refine gDCZ 3 hs147 [2] rfl ⟨⟨_, rfl, ⟨rfl, rfl, (vL _ (p0 ++ [(aa.mk c p1.text), (aa.mk d [40])])).symm⟩⟩, trivial⟩ ?_
 refine gHR 4 (List.map aa.w a) rfl (vL _ a) rfl ?_
 obtain ⟨b, hs148, h⟩ := h
 refine bW 5 hs148 (by kernel_rfl) rfl (by kernel_rfl) rfl rfl .rfl rfl rfl ?_
 refine gDr [(6, 0), (7, 0)] (by kernel_rfl) rfl rfl ?_
 obtain ⟨hb, h⟩ := h
 refine aP 8 (.repl 4 (.row 60 2 (List.map aa.w (a ++ [(aa.mk b [41])])))) rfl (by kernel_rfl) (bm ab rfl rfl rfl rfl rfl (apM aa.w a (aa.mk b [41])) (by rw [aZ]; exact hb)) (okR rfl) rfl (by kernel_rfl) rfl rfl ?_
 refine gDr [(9, 0)] (by kernel_rfl) rfl rfl <| gDe (by kernel_rfl) <| gR 4 rfl ?_
 subst h
 exact go_sub (F' := (mkF 365 0 [(4, .sl 1)])) (H' := ⟨2, [(1, .row 60 2 (List.map aa.w (a ++ [(aa.mk b [41])])))]⟩) [1000, 6] [] rfl hK pq1 ⟨⟨_, rfl, rfl, rfl, (vL _ (a ++ [(aa.mk b [41])])).symm⟩, trivial⟩ rfl <| go_endD [] ab (rs := [.tmp 4]) rfl rfl ⟨rfl, rfl⟩
theorem kY (m : Nat) (p0 : List aa) (p1 : Tree) (r0 : List aa) (h : ((p1.kind = 17) → ∃ b, p1.kids[0]? = some b ∧ ∃ a, al p0 b a ∧ a = r0) ∧ ((p1.kind ≠ 17) → iz m p0 p1 r0)) : ic (m + 1) p0 p1 r0 := by
 intro K hK
 refine gR 6 rfl <| qBeZ 224 225 rfl rfl rfl rfl h (fun h => ?_) fun h => ?_
 refine gR 6 rfl ?_
 obtain ⟨b, hxt19_1, h⟩ := h
 refine gY (az (aj hxt19_1) ab rfl rfl rfl rfl) rfl rfl <| gR 1 rfl ?_
 obtain ⟨a, hs149, h⟩ := h
 refine gCZ hs149 [0] ⟨⟨_, rfl, ⟨rfl, rfl, (vL _ p0).symm⟩⟩, trivial⟩ ?_
 refine gHR 2 (List.map aa.w a) rfl (vL _ a) rfl <| gR 6 rfl ?_
 subst h
 exact go_sub (F' := (mkF 365 0 [(4, .sl 1)])) (H' := ⟨2, [(1, .row 60 2 (List.map aa.w a))]⟩) [1000, 2] [] rfl hK pq1 ⟨⟨_, rfl, rfl, rfl, (vL _ a).symm⟩, trivial⟩ rfl <| go_endD [] ab (rs := [.tmp 4]) rfl rfl ⟨rfl, rfl⟩
 exact gR 1 rfl <| gJ (h K hK) [0] [] rfl hK pq4 ⟨⟨_, rfl, rfl, rfl, (vL _ p0).symm⟩, trivial⟩ rfl
theorem kC (m : Nat) (p0 : List aa) (p1 : Tree) (r0 : List aa) (h : ((p1.kind = 18) → ly m p0 p1 r0) ∧ ((p1.kind ≠ 18) → iu m p0 p1 r0)) : iz (m + 1) p0 p1 r0 := by
 intro K hK
 refine gR 6 rfl <| qBeZ 232 233 rfl rfl rfl rfl h (fun h => ?_) fun h => ?_
 exact gR 1 rfl <| gJ (h K hK) [0] [] rfl hK pq3 ⟨⟨_, rfl, rfl, rfl, (vL _ p0).symm⟩, trivial⟩ rfl
 exact gR 1 rfl <| gJ (h K hK) [0] [] rfl hK pq3 ⟨⟨_, rfl, rfl, rfl, (vL _ p0).symm⟩, trivial⟩ rfl
theorem po (m : Nat) (p0 : List aa) (p1 : Tree) (r0 : List aa) (h : ∃ c, ak p1 0 c ∧ (p0 ++ [(aa.mk c [91])]).length ≤ 1000000000 ∧ ∃ a, ee (p0 ++ [(aa.mk c [91])]) p1 0 (p1.kids.length : Int) 2 a ∧ ∃ b, ak p1 1 b ∧ (a ++ [(aa.mk b [93])]).length ≤ 1000000000 ∧ (a ++ [(aa.mk b [93])]) = r0) : ly (m + 1) p0 p1 r0 := by
 intro K hK
 refine gR 4 rfl ?_
 obtain ⟨c, hs150, h⟩ := h
 refine gC0 hs150 (by kernel_rfl) rfl rfl .rfl rfl <| gR 2 rfl ?_
 obtain ⟨hb, h⟩ := h
 refine gDo (.repl 0 (.row 60 2 (List.map aa.w (p0 ++ [(aa.mk c [91])])))) (bm ab rfl rfl rfl rfl rfl (apM aa.w p0 (aa.mk c [91])) (by rw [aZ]; exact hb)) (okR rfl) rfl rfl rfl <| gR 4 rfl <| gDs [] 10 10 rfl (by kernel_rfl) (by kernel_rfl) <| gDr [(0, 2), (1, 2), (2, 2), (4, 2)] (by kernel_rfl) rfl rfl ?_
 obtain ⟨a, hs151, h⟩ := h
 refine gDCZ 3 hs151 [2] rfl ⟨⟨_, rfl, ⟨rfl, rfl, (vL _ (p0 ++ [(aa.mk c [91])])).symm⟩⟩, trivial⟩ ?_
 refine gHR 4 (List.map aa.w a) rfl (vL _ a) rfl ?_
 obtain ⟨b, hs152, h⟩ := h
 refine bW 5 hs152 (by kernel_rfl) rfl (by kernel_rfl) rfl rfl .rfl rfl rfl ?_
 refine gDr [(6, 0), (7, 0)] (by kernel_rfl) rfl rfl ?_
 obtain ⟨hb, h⟩ := h
 refine aP 8 (.repl 4 (.row 60 2 (List.map aa.w (a ++ [(aa.mk b [93])])))) rfl (by kernel_rfl) (bm ab rfl rfl rfl rfl rfl (apM aa.w a (aa.mk b [93])) (by rw [aZ]; exact hb)) (okR rfl) rfl (by kernel_rfl) rfl rfl ?_
 refine gDr [(9, 0)] (by kernel_rfl) rfl rfl <| gDe (by kernel_rfl) <| gR 4 rfl ?_
 subst h
 exact go_sub (F' := (mkF 365 0 [(4, .sl 1)])) (H' := ⟨2, [(1, .row 60 2 (List.map aa.w (a ++ [(aa.mk b [93])])))]⟩) [1000, 6] [] rfl hK pq1 ⟨⟨_, rfl, rfl, rfl, (vL _ (a ++ [(aa.mk b [93])])).symm⟩, trivial⟩ rfl <| go_endD [] ab (rs := [.tmp 4]) rfl rfl ⟨rfl, rfl⟩
theorem kK (m : Nat) (p0 : List aa) (p1 : Tree) (r0 : List aa) (h : ((p1.kind = 19) → lE m p0 p1 r0) ∧ ((p1.kind ≠ 19) → iB m p0 p1 r0)) : iu (m + 1) p0 p1 r0 := by
 intro K hK
 refine gR 6 rfl <| qBeZ 249 250 rfl rfl rfl rfl h (fun h => ?_) fun h => ?_
 exact gR 1 rfl <| gJ (h K hK) [0] [] rfl hK pq2 ⟨⟨_, rfl, rfl, rfl, (vL _ p0).symm⟩, trivial⟩ rfl
 exact gR 1 rfl <| gJ (h K hK) [0] [] rfl hK pq3 ⟨⟨_, rfl, rfl, rfl, (vL _ p0).symm⟩, trivial⟩ rfl
theorem pm (m : Nat) (p0 : List aa) (p1 : Tree) (r0 : List aa) (h : ∃ g, p1.kids[0]? = some g ∧ ∃ c, ak p1 0 c ∧ (p0 ++ [(aa.mk c [105, 102])]).length ≤ 1000000000 ∧ ∃ a, al (p0 ++ [(aa.mk c [105, 102])]) g a ∧ ∃ i, p1.kids[1]? = some i ∧ ∃ d, ak p1 1 d ∧ (a ++ [(aa.mk d [116, 104, 101, 110])]).length ≤ 1000000000 ∧ ∃ b, al (a ++ [(aa.mk d [116, 104, 101, 110])]) i b ∧ ∃ j, p1.kids[2]? = some j ∧ ∃ e, ak p1 2 e ∧ (b ++ [(aa.mk e [101, 108, 115, 101])]).length ≤ 1000000000 ∧ ∃ f, al (b ++ [(aa.mk e [101, 108, 115, 101])]) j f ∧ f = r0) : lE (m + 1) p0 p1 r0 := by
 intro K hK
 refine gR 1 rfl <| gDs [] 12 12 rfl (by kernel_rfl) (by kernel_rfl) <| gDr [(0, 2), (1, 2), (6, 2), (7, 2)] (by kernel_rfl) rfl rfl ?_
 obtain ⟨g, hxt23_1, h⟩ := h
 refine gYd 8 rfl (by kernel_rfl) (az (aj hxt23_1) ab rfl rfl rfl rfl) rfl rfl <| gDr [(9, 2)] (by kernel_rfl) rfl rfl ?_
 obtain ⟨c, hs153, h⟩ := h
 refine bW 2 hs153 (by kernel_rfl) rfl (by kernel_rfl) rfl rfl .rfl rfl rfl ?_
 refine gDr [(3, 0), (4, 0)] (by kernel_rfl) rfl rfl ?_
 obtain ⟨hb, h⟩ := h
 refine aP 5 (.repl 0 (.row 60 2 (List.map aa.w (p0 ++ [(aa.mk c [105, 102])])))) rfl (by kernel_rfl) (bm ab rfl rfl rfl rfl rfl (apM aa.w p0 (aa.mk c [105, 102])) (by rw [aZ]; exact hb)) (okR rfl) rfl (by kernel_rfl) rfl rfl ?_
 obtain ⟨a, hs154, h⟩ := h
 refine gDCZ 10 hs154 [2] rfl ⟨⟨_, rfl, ⟨rfl, rfl, (vL _ (p0 ++ [(aa.mk c [105, 102])])).symm⟩⟩, trivial⟩ ?_
 refine gHR 4 (List.map aa.w a) rfl (vL _ a) rfl <| gDr [(11, 0)] (by kernel_rfl) rfl rfl <| gDe (by kernel_rfl) <| gR 2 rfl <| gDs [] 12 12 rfl (by kernel_rfl) (by kernel_rfl) <| gDr [(0, 2), (1, 2), (6, 2), (7, 2)] (by kernel_rfl) rfl rfl ?_
 obtain ⟨i, hxt23_4, h⟩ := h
 refine gYd 8 rfl (by kernel_rfl) (az (aj hxt23_4) ab rfl rfl rfl rfl) rfl rfl <| gDr [(9, 2)] (by kernel_rfl) rfl rfl ?_
 obtain ⟨d, hs155, h⟩ := h
 refine bW 2 hs155 (by kernel_rfl) rfl (by kernel_rfl) rfl rfl .rfl rfl rfl ?_
 refine gDr [(3, 0), (4, 0)] (by kernel_rfl) rfl rfl ?_
 obtain ⟨hb, h⟩ := h
 refine aP 5 (.repl 4 (.row 60 2 (List.map aa.w (a ++ [(aa.mk d [116, 104, 101, 110])])))) rfl (by kernel_rfl) (bm ab rfl rfl rfl rfl rfl (apM aa.w a (aa.mk d [116, 104, 101, 110])) (by rw [aZ]; exact hb)) (okR rfl) rfl (by kernel_rfl) rfl rfl ?_
 obtain ⟨b, hs156, h⟩ := h
 refine gDCZ 10 hs156 [6] rfl ⟨⟨_, rfl, ⟨rfl, rfl, (vL _ (a ++ [(aa.mk d [116, 104, 101, 110])])).symm⟩⟩, trivial⟩ ?_
 refine gHR 8 (List.map aa.w b) rfl (vL _ b) rfl <| gDr [(11, 0)] (by kernel_rfl) rfl rfl <| gDe (by kernel_rfl) <| gR 2 rfl <| gDs [] 12 12 rfl (by kernel_rfl) (by kernel_rfl) <| gDr [(0, 2), (1, 2), (6, 2), (7, 2)] (by kernel_rfl) rfl rfl ?_
 obtain ⟨j, hxt23_7, h⟩ := h
 refine gYd 8 rfl (by kernel_rfl) (az (aj hxt23_7) ab rfl rfl rfl rfl) rfl rfl <| gDr [(9, 2)] (by kernel_rfl) rfl rfl ?_
 obtain ⟨e, hs157, h⟩ := h
 refine bW 2 hs157 (by kernel_rfl) rfl (by kernel_rfl) rfl rfl .rfl rfl rfl ?_
 refine gDr [(3, 0), (4, 0)] (by kernel_rfl) rfl rfl ?_
 obtain ⟨hb, h⟩ := h
 refine aP 5 (.repl 8 (.row 60 2 (List.map aa.w (b ++ [(aa.mk e [101, 108, 115, 101])])))) rfl (by kernel_rfl) (bm ab rfl rfl rfl rfl rfl (apM aa.w b (aa.mk e [101, 108, 115, 101])) (by rw [aZ]; exact hb)) (okR rfl) rfl (by kernel_rfl) rfl rfl ?_
 obtain ⟨f, hs158, h⟩ := h
 refine gDCZ 10 hs158 [10] rfl ⟨⟨_, rfl, ⟨rfl, rfl, (vL _ (b ++ [(aa.mk e [101, 108, 115, 101])])).symm⟩⟩, trivial⟩ ?_
 refine gHR 12 (List.map aa.w f) rfl (vL _ f) rfl <| gDr [(11, 0)] (by kernel_rfl) rfl rfl <| gDe (by kernel_rfl) <| gR 4 rfl ?_
 subst h
 exact go_sub (F' := (mkF 365 0 [(4, .sl 1)])) (H' := ⟨2, [(1, .row 60 2 (List.map aa.w f))]⟩) [1000, 12] [] rfl hK pq1 ⟨⟨_, rfl, rfl, rfl, (vL _ f).symm⟩, trivial⟩ rfl <| go_endD [] ab (rs := [.tmp 4]) rfl rfl ⟨rfl, rfl⟩
theorem kE (m : Nat) (p0 : List aa) (p1 : Tree) (r0 : List aa) (h : ((p1.kind = 20) → lQ m p0 p1 r0) ∧ ((p1.kind ≠ 20) → ie m p0 p1 r0)) : iB (m + 1) p0 p1 r0 := by
 intro K hK
 refine gR 6 rfl <| qBeZ 284 285 rfl rfl rfl rfl h (fun h => ?_) fun h => ?_
 exact gR 1 rfl <| gJ (h K hK) [0] [] rfl hK pq2 ⟨⟨_, rfl, rfl, rfl, (vL _ p0).symm⟩, trivial⟩ rfl
 exact gR 1 rfl <| gJ (h K hK) [0] [] rfl hK pq3 ⟨⟨_, rfl, rfl, rfl, (vL _ p0).symm⟩, trivial⟩ rfl
theorem py (m : Nat) (p0 : List aa) (p1 : Tree) (r0 : List aa) (h : ∃ b, ak p1 0 b ∧ ∃ c, ak p1 1 c ∧ ∃ d, ak p1 2 d ∧ (p0 ++ [(aa.mk b [108, 101, 116]), (aa.mk c p1.text), (aa.mk d [61])]).length ≤ 1000000000 ∧ ∃ i, p1.kids[0]? = some i ∧ ∃ a, al (p0 ++ [(aa.mk b [108, 101, 116]), (aa.mk c p1.text), (aa.mk d [61])]) i a ∧ ∃ e, ak p1 3 e ∧ (a ++ [(aa.mk e [105, 110])]).length ≤ 1000000000 ∧ ∃ j, p1.kids[1]? = some j ∧ ∃ g, al (a ++ [(aa.mk e [105, 110])]) j g ∧ g = r0) : lQ (m + 1) p0 p1 r0 := by
 intro K hK
 refine gR 1 rfl <| gDs [] 15 15 rfl (by kernel_rfl) (by kernel_rfl) <| gDr [(0, 2), (1, 2), (4, 2), (6, 2), (7, 2), (9, 2)] (by kernel_rfl) rfl rfl ?_
 obtain ⟨b, hs159, h⟩ := h
 refine bW 2 hs159 (by kernel_rfl) rfl (by kernel_rfl) rfl rfl .rfl rfl rfl ?_
 refine gDr [(3, 2)] (by kernel_rfl) rfl rfl ?_
 obtain ⟨c, hs160, h⟩ := h
 refine bW 5 hs160 (by kernel_rfl) rfl (by kernel_rfl) rfl rfl .rfl rfl rfl ?_
 refine gDr [(8, 2)] (by kernel_rfl) rfl rfl ?_
 obtain ⟨d, hs161, h⟩ := h
 refine bW 10 hs161 (by kernel_rfl) rfl (by kernel_rfl) rfl rfl .rfl rfl rfl ?_
 refine gDr [(11, 0), (12, 0)] (by kernel_rfl) rfl rfl ?_
 obtain ⟨hb, h⟩ := h
 refine aP 13 (.repl 0 (.row 60 2 (List.map aa.w (p0 ++ [(aa.mk b [108, 101, 116]), (aa.mk c p1.text), (aa.mk d [61])])))) rfl (by kernel_rfl) (bm ab rfl rfl rfl rfl rfl (List.map_append (f := aa.w) (l₁ := p0) (l₂ := [(aa.mk b [108, 101, 116]), (aa.mk c p1.text), (aa.mk d [61])])).symm (by rw [aZ]; exact hb)) (okR rfl) rfl (by kernel_rfl) rfl rfl ?_
 refine gDr [(14, 0)] (by kernel_rfl) rfl rfl <| gDe (by kernel_rfl) <| gR 2 rfl <| gDs [] 12 12 rfl (by kernel_rfl) (by kernel_rfl) <| gDr [(0, 2), (1, 2), (2, 2)] (by kernel_rfl) rfl rfl ?_
 obtain ⟨i, hxt25_4, h⟩ := h
 refine gYd 3 rfl (by kernel_rfl) (az (aj hxt25_4) ab rfl rfl rfl rfl) rfl rfl <| gDr [(4, 2), (6, 2)] (by kernel_rfl) rfl rfl ?_
 obtain ⟨a, hs162, h⟩ := h
 refine gDCZ 5 hs162 [2] rfl ⟨⟨_, rfl, ⟨rfl, rfl, (vL _ (p0 ++ [(aa.mk b [108, 101, 116]), (aa.mk c p1.text), (aa.mk d [61])])).symm⟩⟩, trivial⟩ ?_
 refine gHR 4 (List.map aa.w a) rfl (vL _ a) rfl ?_
 obtain ⟨e, hs163, h⟩ := h
 refine bW 7 hs163 (by kernel_rfl) rfl (by kernel_rfl) rfl rfl .rfl rfl rfl ?_
 refine gDr [(8, 0), (9, 0)] (by kernel_rfl) rfl rfl ?_
 obtain ⟨hb, h⟩ := h
 refine aP 10 (.repl 4 (.row 60 2 (List.map aa.w (a ++ [(aa.mk e [105, 110])])))) rfl (by kernel_rfl) (bm ab rfl rfl rfl rfl rfl (apM aa.w a (aa.mk e [105, 110])) (by rw [aZ]; exact hb)) (okR rfl) rfl (by kernel_rfl) rfl rfl ?_
 refine gDr [(11, 0)] (by kernel_rfl) rfl rfl <| gDe (by kernel_rfl) <| gR 6 rfl ?_
 obtain ⟨j, hxt25_7, h⟩ := h
 refine gY (az (aj hxt25_7) ab rfl rfl rfl rfl) rfl rfl <| gR 1 rfl ?_
 obtain ⟨g, hs164, h⟩ := h
 refine gCZ hs164 [6] ⟨⟨_, rfl, ⟨rfl, rfl, (vL _ (a ++ [(aa.mk e [105, 110])])).symm⟩⟩, trivial⟩ ?_
 refine gHR 8 (List.map aa.w g) rfl (vL _ g) rfl <| gR 6 rfl ?_
 subst h
 exact go_sub (F' := (mkF 365 0 [(4, .sl 1)])) (H' := ⟨2, [(1, .row 60 2 (List.map aa.w g))]⟩) [1000, 8] [] rfl hK pq1 ⟨⟨_, rfl, rfl, rfl, (vL _ g).symm⟩, trivial⟩ rfl <| go_endD [] ab (rs := [.tmp 4]) rfl rfl ⟨rfl, rfl⟩
theorem la (m : Nat) (p0 : List aa) (p1 : Tree) (r0 : List aa) (h : ((p1.kind = 21) → lq m p0 p1 r0) ∧ ((p1.kind ≠ 21) → ip m p0 p1 r0)) : ie (m + 1) p0 p1 r0 := by
 intro K hK
 refine gR 6 rfl <| qBeZ 317 318 rfl rfl rfl rfl h (fun h => ?_) fun h => ?_
 exact gR 1 rfl <| gJ (h K hK) [0] [] rfl hK pq2 ⟨⟨_, rfl, rfl, rfl, (vL _ p0).symm⟩, trivial⟩ rfl
 exact gR 1 rfl <| gJ (h K hK) [0] [] rfl hK pq3 ⟨⟨_, rfl, rfl, rfl, (vL _ p0).symm⟩, trivial⟩ rfl
theorem pi (m : Nat) (p0 : List aa) (p1 : Tree) (r0 : List aa) (h : ∃ d, p1.kids[0]? = some d ∧ ∃ a, al p0 d a ∧ ∃ b, ak p1 0 b ∧ (a ++ [(aa.mk b p1.text)]).length ≤ 1000000000 ∧ ∃ e, p1.kids[1]? = some e ∧ ∃ c, al (a ++ [(aa.mk b p1.text)]) e c ∧ c = r0) : lq (m + 1) p0 p1 r0 := by
 intro K hK
 refine gR 1 rfl <| gDs [] 14 14 rfl (by kernel_rfl) (by kernel_rfl) <| gDr [(0, 2), (1, 2), (2, 2)] (by kernel_rfl) rfl rfl ?_
 obtain ⟨d, hxt27_1, h⟩ := h
 refine gYd 3 rfl (by kernel_rfl) (az (aj hxt27_1) ab rfl rfl rfl rfl) rfl rfl <| gDr [(4, 2), (6, 2), (8, 2), (9, 2)] (by kernel_rfl) rfl rfl ?_
 obtain ⟨a, hs165, h⟩ := h
 refine gDCZ 5 hs165 [0] rfl ⟨⟨_, rfl, ⟨rfl, rfl, (vL _ p0).symm⟩⟩, trivial⟩ ?_
 refine gHR 2 (List.map aa.w a) rfl (vL _ a) rfl ?_
 obtain ⟨b, hs166, h⟩ := h
 refine bW 7 hs166 (by kernel_rfl) rfl (by kernel_rfl) rfl rfl .rfl rfl rfl ?_
 refine gDr [(10, 0), (11, 0)] (by kernel_rfl) rfl rfl ?_
 obtain ⟨hb, h⟩ := h
 refine aP 12 (.repl 2 (.row 60 2 (List.map aa.w (a ++ [(aa.mk b p1.text)])))) rfl (by kernel_rfl) (bm ab rfl rfl rfl rfl rfl (apM aa.w a (aa.mk b p1.text)) (by rw [aZ]; exact hb)) (okR rfl) rfl (by kernel_rfl) rfl rfl ?_
 refine gDr [(13, 0)] (by kernel_rfl) rfl rfl <| gDe (by kernel_rfl) <| gR 6 rfl ?_
 obtain ⟨e, hxt27_4, h⟩ := h
 refine gY (az (aj hxt27_4) ab rfl rfl rfl rfl) rfl rfl <| gR 1 rfl ?_
 obtain ⟨c, hs167, h⟩ := h
 refine gCZ hs167 [4] ⟨⟨_, rfl, ⟨rfl, rfl, (vL _ (a ++ [(aa.mk b p1.text)])).symm⟩⟩, trivial⟩ ?_
 refine gHR 6 (List.map aa.w c) rfl (vL _ c) rfl <| gR 6 rfl ?_
 subst h
 exact go_sub (F' := (mkF 365 0 [(4, .sl 1)])) (H' := ⟨2, [(1, .row 60 2 (List.map aa.w c))]⟩) [1000, 6] [] rfl hK pq1 ⟨⟨_, rfl, rfl, rfl, (vL _ c).symm⟩, trivial⟩ rfl <| go_endD [] ab (rs := [.tmp 4]) rfl rfl ⟨rfl, rfl⟩
theorem li (m : Nat) (p0 : List aa) (p1 : Tree) (r0 : List aa) (h : ((p1.kind = 22) → lK m p0 p1 r0) ∧ ((p1.kind ≠ 22) → ∃ a, ak p1 0 a ∧ (p0 ++ [(aa.mk a p1.text)]).length ≤ 1000000000 ∧ (p0 ++ [(aa.mk a p1.text)]) = r0)) : ip (m + 1) p0 p1 r0 := by
 intro K hK
 refine gR 6 rfl <| qBeZ 338 339 rfl rfl rfl rfl h (fun h => ?_) fun h => ?_
 exact gR 1 rfl <| gJ (h K hK) [0] [] rfl hK pq2 ⟨⟨_, rfl, rfl, rfl, (vL _ p0).symm⟩, trivial⟩ rfl
 refine gR 5 rfl <| gDs [] 9 9 rfl (by kernel_rfl) (by kernel_rfl) <| gDr [(0, 2), (1, 2), (3, 2), (4, 2)] (by kernel_rfl) rfl rfl ?_
 obtain ⟨a, hs168, h⟩ := h
 refine bW 2 hs168 (by kernel_rfl) rfl (by kernel_rfl) rfl rfl .rfl rfl rfl ?_
 refine gDr [(5, 0), (6, 0)] (by kernel_rfl) rfl rfl ?_
 obtain ⟨hb, h⟩ := h
 refine aP 7 (.repl 0 (.row 60 2 (List.map aa.w (p0 ++ [(aa.mk a p1.text)])))) rfl (by kernel_rfl) (bm ab rfl rfl rfl rfl rfl (apM aa.w p0 (aa.mk a p1.text)) (by rw [aZ]; exact hb)) (okR rfl) rfl (by kernel_rfl) rfl rfl ?_
 refine gDr [(8, 0)] (by kernel_rfl) rfl rfl <| gDe (by kernel_rfl) <| gR 2 rfl ?_
 subst h
 exact go_sub (F' := (mkF 365 0 [(4, .sl 1)])) (H' := ⟨2, [(1, .row 60 2 (List.map aa.w (p0 ++ [(aa.mk a p1.text)])))]⟩) [1000, 2] [] rfl hK pq1 ⟨⟨_, rfl, rfl, rfl, (vL _ (p0 ++ [(aa.mk a p1.text)])).symm⟩, trivial⟩ rfl <| go_endD [] ab (rs := [.tmp 4]) rfl rfl ⟨rfl, rfl⟩
theorem pu (m : Nat) (p0 : List aa) (p1 : Tree) (r0 : List aa) (h : ∃ c, ak p1 0 c ∧ (p0 ++ [(aa.mk c [40])]).length ≤ 1000000000 ∧ ∃ d, p1.kids[0]? = some d ∧ ∃ a, al (p0 ++ [(aa.mk c [40])]) d a ∧ ∃ b, ak p1 1 b ∧ (a ++ [(aa.mk b [41])]).length ≤ 1000000000 ∧ (a ++ [(aa.mk b [41])]) = r0) : lK (m + 1) p0 p1 r0 := by
 intro K hK
 refine gR 4 rfl ?_
 obtain ⟨c, hs169, h⟩ := h
 refine gC0 hs169 (by kernel_rfl) rfl rfl .rfl rfl <| gR 2 rfl ?_
 obtain ⟨hb, h⟩ := h
 refine gDo (.repl 0 (.row 60 2 (List.map aa.w (p0 ++ [(aa.mk c [40])])))) (bm ab rfl rfl rfl rfl rfl (apM aa.w p0 (aa.mk c [40])) (by rw [aZ]; exact hb)) (okR rfl) rfl rfl rfl <| gR 4 rfl <| gDs [] 12 12 rfl (by kernel_rfl) (by kernel_rfl) <| gDr [(0, 2), (1, 2), (2, 2)] (by kernel_rfl) rfl rfl ?_
 obtain ⟨d, hxt29_2, h⟩ := h
 refine gYd 3 rfl (by kernel_rfl) (az (aj hxt29_2) ab rfl rfl rfl rfl) rfl rfl <| gDr [(4, 2), (6, 2)] (by kernel_rfl) rfl rfl ?_
 obtain ⟨a, hs170, h⟩ := h
 refine gDCZ 5 hs170 [2] rfl ⟨⟨_, rfl, ⟨rfl, rfl, (vL _ (p0 ++ [(aa.mk c [40])])).symm⟩⟩, trivial⟩ ?_
 refine gHR 4 (List.map aa.w a) rfl (vL _ a) rfl ?_
 obtain ⟨b, hs171, h⟩ := h
 refine bW 7 hs171 (by kernel_rfl) rfl (by kernel_rfl) rfl rfl .rfl rfl rfl ?_
 refine gDr [(8, 0), (9, 0)] (by kernel_rfl) rfl rfl ?_
 obtain ⟨hb, h⟩ := h
 refine aP 10 (.repl 4 (.row 60 2 (List.map aa.w (a ++ [(aa.mk b [41])])))) rfl (by kernel_rfl) (bm ab rfl rfl rfl rfl rfl (apM aa.w a (aa.mk b [41])) (by rw [aZ]; exact hb)) (okR rfl) rfl (by kernel_rfl) rfl rfl ?_
 refine gDr [(11, 0)] (by kernel_rfl) rfl rfl <| gDe (by kernel_rfl) <| gR 4 rfl ?_
 subst h
 exact go_sub (F' := (mkF 365 0 [(4, .sl 1)])) (H' := ⟨2, [(1, .row 60 2 (List.map aa.w (a ++ [(aa.mk b [41])])))]⟩) [1000, 6] [] rfl hK pq1 ⟨⟨_, rfl, rfl, rfl, (vL _ (a ++ [(aa.mk b [41])])).symm⟩, trivial⟩ rfl <| go_endD [] ab (rs := [.tmp 4]) rfl rfl ⟨rfl, rfl⟩
def fb (m : Nat) (p1 : Tree) (p2 p3 p4 : Int) (a : List aa) (b : Int) (r0 : List aa) : Prop := ∀ (K : Ctx) (j1 : Nat), av K [] → m ≤ j1 → qLG K Tryz.f100 (fun u G => u = .sl 1 ∧ G = ⟨2, [(1, .row 60 2 (List.map aa.w r0))]⟩) (cL (xF (cB (ac Tryz.f100)))) [.loop (cL (xF (cB (ac Tryz.f100)))) j1, .blk 0, .seq (xA (ac Tryz.f100))] 41 (mkF 41 0 [(0, .sl 0), (2, .int .i64 p2), (3, .int .i64 p3), (4, .int .i64 p4), (6, .box (ai p1) 0), (11, .int .i64 b)]) ⟨1, [(0, .row 60 2 (List.map aa.w a))]⟩
theorem sf (m : Nat) (p0 : List aa) (p1 : Tree) (p2 p3 p4 : Int) (r0 : List aa) (h : fb m p1 p2 p3 p4 p0 p2 r0) : ee p0 p1 p2 p3 p4 r0 := by
 refine am 41 [] Tryz.func100 rfl rfl rfl (aM rfl) fun K hK => ?_
 exact gR 3 rfl <| gFP 1 rfl rfl rfl rfl <| gR 11 rfl <| go_loop m <| gJ (h K _ hK (by omega)) [0] [] rfl hK pq6 ⟨⟨_, rfl, rfl, rfl, (vL _ p0).symm⟩, trivial⟩ rfl
theorem gy (m : Nat) (p1 : Tree) (p2 p3 p4 : Int) (b : List aa) (a : Int) (r0 : List aa) (h : ((a < p3) → ((p2 < a) → InI (p4 + a) ∧ InI ((p4 + a) - p2) ∧ InI (((p4 + a) - p2) - 1) ∧ ∃ c, ak p1 (((p4 + a) - p2) - 1) c ∧ (b ++ [(aa.mk c [44])]).length ≤ 1000000000 ∧ ∃ f, a = ((f : Nat) : Int) ∧ ∃ i, p1.kids[f]? = some i ∧ ∃ d, al (b ++ [(aa.mk c [44])]) i d ∧ InI (a + 1) ∧ fb m p1 p2 p3 p4 d (a + 1) r0) ∧ ((¬ p2 < a) → ∃ g, a = ((g : Nat) : Int) ∧ ∃ k, p1.kids[g]? = some k ∧ ∃ e, al b k e ∧ InI (a + 1) ∧ fb m p1 p2 p3 p4 e (a + 1) r0)) ∧ ((¬ a < p3) → b = r0)) : fb (m + 1) p1 p2 p3 p4 b a r0 := by
 intro K j1 hK hj1
 obtain ⟨j1, rfl⟩ : ∃ j, j1 = j + 1 := ⟨j1 - 1, by omega⟩
 refine gR 8 rfl <| gB 15 rfl rfl rfl ?_ ?_ <;> intro hd
 replace hd := (of_decide_eq_true hd)
 replace h := h.1 hd
 refine gR 13 rfl <| gB 20 rfl rfl rfl ?_ ?_ <;> intro hd
 replace hd := (of_decide_eq_true hd)
 replace h := h.1 hd
 refine gR 6 rfl ?_
 obtain ⟨hb, h⟩ := h
 refine gR 1 rfl <| gV 25 (.int .i64 (p4 + a)) rfl (ax hb rfl) rfl <| gR 1 rfl ?_
 obtain ⟨hb, h⟩ := h
 refine gR 1 rfl <| gV 27 (.int .i64 ((p4 + a) - p2)) rfl (ax hb rfl) rfl ?_
 obtain ⟨hb, h⟩ := h
 refine gR 1 rfl <| gV 28 (.int .i64 (((p4 + a) - p2) - 1)) rfl (ax hb rfl) rfl ?_
 obtain ⟨c, hs7, h⟩ := h
 refine gC0 hs7 (by kernel_rfl) rfl rfl .rfl rfl <| gR 2 rfl ?_
 obtain ⟨hb, h⟩ := h
 refine gDo (.repl 0 (.row 60 2 (List.map aa.w (b ++ [(aa.mk c [44])])))) (bm ab rfl rfl rfl rfl rfl (apM aa.w b (aa.mk c [44])) (by rw [aZ]; exact hb)) (okR rfl) rfl rfl rfl <| gR 8 rfl ?_
 obtain ⟨f, l, h⟩ := h
 refine gV 36 (.int .i64 ((f : Nat) : Int)) rfl (fP l) rfl ?_
 obtain ⟨i, hxt1_3, h⟩ := h
 refine gY (az (aj hxt1_3) ab rfl rfl rfl rfl) rfl rfl <| gR 1 rfl ?_
 obtain ⟨d, hs8, h⟩ := h
 refine gCZ hs8 [2] ⟨⟨_, rfl, ⟨rfl, rfl, (vL _ (b ++ [(aa.mk c [44])])).symm⟩⟩, trivial⟩ ?_
 refine gHR 4 (List.map aa.w d) rfl (vL _ d) rfl <| gR 6 rfl ?_
 obtain ⟨hb, h⟩ := h
 exact gR 1 rfl <| gV 17 (.int .i64 (a + 1)) rfl (ax hb rfl) rfl <| gR 2 rfl <| go_xloop <| gJ (h K _ hK (by omega)) [4] [] rfl hK pq6 ⟨⟨_, rfl, rfl, rfl, (vL _ d).symm⟩, trivial⟩ rfl
 replace hd := (of_decide_eq_false hd)
 replace h := h.2 hd
 refine gR 8 rfl ?_
 obtain ⟨g, n, h⟩ := h
 refine gV 36 (.int .i64 ((g : Nat) : Int)) rfl (fP n) rfl ?_
 obtain ⟨k, hxt1_6, h⟩ := h
 refine gY (az (aj hxt1_6) ab rfl rfl rfl rfl) rfl rfl <| gR 1 rfl ?_
 obtain ⟨e, hs9, h⟩ := h
 refine gCZ hs9 [0] ⟨⟨_, rfl, ⟨rfl, rfl, (vL _ b).symm⟩⟩, trivial⟩ ?_
 refine gHR 2 (List.map aa.w e) rfl (vL _ e) rfl <| gR 6 rfl ?_
 obtain ⟨hb, h⟩ := h
 exact gR 1 rfl <| gV 17 (.int .i64 (a + 1)) rfl (ax hb rfl) rfl <| gR 2 rfl <| go_xloop <| gJ (h K _ hK (by omega)) [2] [] rfl hK pq6 ⟨⟨_, rfl, rfl, rfl, (vL _ e).symm⟩, trivial⟩ rfl
 replace hd := (of_decide_eq_false hd)
 replace h := h.2 hd
 refine gR 3 rfl <| go_xloopE <| gR 9 rfl ?_
 subst h
 exact go_sub (F' := (mkF 41 0 [(10, .sl 1)])) (H' := ⟨2, [(1, .row 60 2 (List.map aa.w b))]⟩) [1000, 0] [] rfl hK pq1 ⟨⟨_, rfl, rfl, rfl, (vL _ b).symm⟩, trivial⟩ rfl <| go_endD [] ab (rs := [.tmp 10]) rfl rfl ⟨rfl, rfl⟩
theorem ny (m : Nat) (p0 : Tree) (p1 : Int) (r0 : List UInt8) (h : ((p1 < (p0.leads.length : Int)) → ∃ a, p1 = ((a : Nat) : Int) ∧ ∃ b, p0.leads[a]? = some b ∧ b = r0) ∧ ((¬ p1 < (p0.leads.length : Int)) → [] = r0)) : ak p0 p1 r0 := by
 refine ⟨rfl, rfl, ?_⟩
 refine am 15 [] Tryz.func99 rfl rfl rfl (aM rfl) fun K hK => ?_
 refine gR 3 rfl <| gFP 0 rfl rfl rfl rfl <| gR 10 rfl <| gV 8 (.int .i64 (p0.leads.length : Int)) rfl (bx (aZ V.str _)) rfl <| gLB 7 rfl (aZ V.str _) fun hl2 => gR 3 rfl <| qBd 9 rfl rfl rfl h (fun h => ?_) fun h => ?_
 refine gR 6 rfl ?_
 obtain ⟨a, c, h⟩ := h
 refine gV 12 (.int .i64 ((a : Nat) : Int)) rfl (fP c) rfl ?_
 obtain ⟨b, hxs0_2, h⟩ := h
 refine gY (az (mapget (f := V.str) hxs0_2) ab rfl rfl rfl rfl) rfl rfl <| gR 6 rfl ?_
 subst h
 exact go_end ab (rs := [.tmp 4]) rfl rfl rfl
 refine gR 9 rfl ?_
 subst h
 exact go_end ab (rs := [.tmp 4]) rfl rfl rfl
abbrev vD (a0 : List UInt8) : Ob := .var 79 [.np 0, .sl 1, .str a0]
theorem vM (σ : List Nat) (l) : renL σ (List.map (V.int .u8) l) = List.map (V.int .u8) l := zA σ (V.int .u8) (fun _ => rfl) l
def df (a : List Int) (c p1 : List UInt8) (r0 : Int) (r1 : Unit) (b : List Int) (d : List UInt8) : Prop := bS [] Tryz.prog 110 [.ptr 0 0, .str p1] ⟨2, [(1, .row 5 1 (List.map (V.int .u8) a)), (0, vD c)]⟩ (fun u G => u = .tup [.int .i64 r0, .raw .nilIface] ∧ G = ⟨2, [(1, .row 5 1 (List.map (V.int .u8) b)), (0, vD d)]⟩)
def kf (a : List Int) (b r0 : List UInt8) : Prop := bS [] Tryz.prog 57 [.ptr 0 0] ⟨2, [(1, .row 5 1 (List.map (V.int .u8) a)), (0, vD b)]⟩ (fun u G => u = .str r0 ∧ G = ⟨2, []⟩)
def sR (p0 p1 : List UInt8) (r0 : Bool) : Prop := qS 111 [.str p0, .str p1] (.bool r0)
def nk (p0 : Tree) (r0 : List UInt8) : Prop := qS 88 [.agg (ai p0)] (.str r0)
def an (a : List Int) (c p1 p2 : List UInt8) (b : List Int) (d : List UInt8) : Prop := bS [] Tryz.prog 86 [.ptr 0 0, .str p1, .str p2] ⟨2, [(1, .row 5 1 (List.map (V.int .u8) a)), (0, vD c)]⟩ (fun u G => u = .tup [] ∧ G = ⟨2, [(1, .row 5 1 (List.map (V.int .u8) b)), (0, vD d)]⟩)
def S_syntax_printer_list (a : List Int) (c : List UInt8) (p1 : Tree) (p2 : List Tree) (p3 : Int) (b : List Int) (d : List UInt8) : Prop := bS [] Tryz.prog 87 [.ptr 0 0, .agg (ai p1), .row 4 (kidsV p2), .int .i64 p3] ⟨2, [(1, .row 5 1 (List.map (V.int .u8) a)), (0, vD c)]⟩ (fun u G => u = .tup [] ∧ G = ⟨2, [(1, .row 5 1 (List.map (V.int .u8) b)), (0, vD d)]⟩)
def aA (a : List Int) (c : List UInt8) (p1 : Tree) (b : List Int) (d : List UInt8) : Prop := bS [] Tryz.prog 56 [.ptr 0 0, .agg (ai p1)] ⟨2, [(1, .row 5 1 (List.map (V.int .u8) a)), (0, vD c)]⟩ (fun u G => u = .tup [] ∧ G = ⟨2, [(1, .row 5 1 (List.map (V.int .u8) b)), (0, vD d)]⟩)
def fi (a : List Int) (c : List UInt8) (p1 : Tree) (b : List Int) (d : List UInt8) : Prop := bS [] Tryz.prog 85 [.ptr 0 0, .agg (ai p1)] ⟨2, [(1, .row 5 1 (List.map (V.int .u8) a)), (0, vD c)]⟩ (fun u G => u = .tup [] ∧ G = ⟨2, [(1, .row 5 1 (List.map (V.int .u8) b)), (0, vD d)]⟩)
def mb (p0 : Tree) (r0 : List UInt8) : Prop := qS 29 [.agg (ai p0)] (.str r0)
theorem tM (m : Nat) (p0 : Tree) (r0 : List UInt8) (h : ((p0.kind = 5) → [73, 110, 116] = r0) ∧ ((p0.kind ≠ 5) → ((p0.kind = 6) → [84, 101, 120, 116] = r0) ∧ ((p0.kind ≠ 6) → ((p0.kind = 7) → [66, 111, 111, 108] = r0) ∧ ((p0.kind ≠ 7) → ((p0.kind = 13) → [116, 114, 117, 101] = r0) ∧ ((p0.kind ≠ 13) → ((p0.kind = 14) → [102, 97, 108, 115, 101] = r0) ∧ ((p0.kind ≠ 14) → ((p0.kind = 15) → [63] = r0) ∧ ((p0.kind ≠ 15) → p0.text = r0))))))) : nk p0 r0 := by
 refine ⟨rfl, rfl, ?_⟩
 refine am 19 [] Tryz.func88 rfl rfl rfl (aM rfl) fun K hK => ?_
 refine gR 3 rfl <| gFP 0 rfl rfl rfl rfl <| gR 17 rfl <| qBeZ 5 6 rfl rfl rfl rfl h (fun h => ?_) fun h => ?_
 refine gR 9 rfl ?_
 subst h
 exact go_end ab (rs := [.tmp 2]) rfl rfl rfl
 refine gR 7 rfl <| qBeZ 7 8 rfl rfl rfl rfl h (fun h => ?_) fun h => ?_
 refine gR 9 rfl ?_
 subst h
 exact go_end ab (rs := [.tmp 2]) rfl rfl rfl
 refine gR 7 rfl <| qBeZ 9 10 rfl rfl rfl rfl h (fun h => ?_) fun h => ?_
 refine gR 9 rfl ?_
 subst h
 exact go_end ab (rs := [.tmp 2]) rfl rfl rfl
 refine gR 7 rfl <| qBeZ 11 12 rfl rfl rfl rfl h (fun h => ?_) fun h => ?_
 refine gR 9 rfl ?_
 subst h
 exact go_end ab (rs := [.tmp 2]) rfl rfl rfl
 refine gR 7 rfl <| qBeZ 13 14 rfl rfl rfl rfl h (fun h => ?_) fun h => ?_
 refine gR 9 rfl ?_
 subst h
 exact go_end ab (rs := [.tmp 2]) rfl rfl rfl
 refine gR 7 rfl <| qBeZ 15 16 rfl rfl rfl rfl h (fun h => ?_) fun h => ?_
 refine gR 9 rfl ?_
 subst h
 exact go_end ab (rs := [.tmp 2]) rfl rfl rfl
 refine gR 12 rfl ?_
 subst h
 exact go_end ab (rs := [.tmp 2]) rfl rfl rfl
def dc (m : Nat) (a : List Int) (c p2 e : List UInt8) (b : List Int) (d : List UInt8) : Prop := ∀ (K : Ctx), av K [0] → qLG K Tryz.f86 (fun u G => u = .tup [] ∧ G = ⟨2, [(1, .row 5 1 (List.map (V.int .u8) b)), (0, vD d)]⟩) (cB (ac Tryz.f86)) [] 37 (mkF 37 0 [(0, .ptr 0 0), (1, .str e), (2, .str p2)]) ⟨2, [(1, .row 5 1 (List.map (V.int .u8) a)), (0, vD c)]⟩
theorem fj (m : Nat) (a : List Int) (b p1 p2 : List UInt8) (c : List Int) (d : List UInt8) (h : ((p1 = []) → ((b ≠ []) → ∃ e, sR b p2 e ∧ ((e = true) → dc m a b p2 [32] c d) ∧ ((e = false) → dc m a b p2 p1 c d)) ∧ ((b = []) → dc m a b p2 p1 c d)) ∧ ((p1 ≠ []) → dc m a b p2 p1 c d)) : an a b p1 p2 c d := by
 refine am 37 [0] Tryz.func86 rfl rfl rfl (aM rfl) fun K hK => ?_
 refine gR 6 rfl <| qBeZ 8 7 rfl rfl rfl rfl h (fun h => ?_) fun h => ?_
 refine gR 7 rfl <| qBhZ 15 14 rfl rfl rfl rfl h fh dz (fun h => ?_) fun h => ?_
 refine gR 5 rfl ?_
 obtain ⟨e, hs10, h⟩ := h
 refine gC0 hs10 (by kernel_rfl) rfl rfl .rfl rfl <| gR 3 rfl <| qBi 22 rfl rfl rfl h (fun h => ?_) fun h => ?_
 exact gR 5 rfl <| gJ (h K hK) [0, 1] [0] rfl hK pq3 ⟨⟨_, rfl, rfl, rfl, (vM _ a).symm⟩, (pqo1 rfl rfl)⟩ rfl
 exact gR 3 rfl <| gJ (h K hK) [0, 1] [0] rfl hK pq3 ⟨⟨_, rfl, rfl, rfl, (vM _ a).symm⟩, (pqo1 rfl rfl)⟩ rfl
 exact gR 12 rfl <| gJ (h K hK) [0, 1] [0] rfl hK pq3 ⟨⟨_, rfl, rfl, rfl, (vM _ a).symm⟩, (pqo1 rfl rfl)⟩ rfl
 exact gR 19 rfl <| gJ (h K hK) [0, 1] [0] rfl hK pq3 ⟨⟨_, rfl, rfl, rfl, (vM _ a).symm⟩, (pqo1 rfl rfl)⟩ rfl
theorem rL0_syntax_printer_put (m : Nat) (a : List Int) (e p2 i : List UInt8) (c : List Int) (f : List UInt8) (h : ∃ j k d g, df a e i j k d g ∧ ∃ l n b o, df d g p2 l n b o ∧ b = c ∧ p2 = f) : dc (m + 1) a e p2 i c f := by
 intro K hK
 refine gR 6 rfl ?_
 obtain ⟨j, k, d, g, hs11, h⟩ := h
 refine gCZ hs11 [0, 1] ⟨⟨_, rfl, ⟨rfl, rfl, (vM _ a).symm⟩⟩, ⟨⟨_, rfl, ⟨rfl, ar.rfl⟩⟩, trivial⟩⟩ ?_
 refine gHR 3 (List.map (V.int .u8) d) rfl (vM _ d) rfl <| gR 8 rfl ?_
 obtain ⟨l, n, b, o, hs12, h⟩ := h
 refine gCZ hs12 [0, 3] ⟨⟨_, rfl, ⟨rfl, rfl, (vM _ d).symm⟩⟩, ⟨⟨_, rfl, ⟨rfl, ar.rfl⟩⟩, trivial⟩⟩ ?_
 refine gHR 5 (List.map (V.int .u8) b) rfl (vM _ b) rfl <| gR 9 rfl ?_
 obtain ⟨rfl, rfl⟩ := h
 exact go_sub (F' := (mkF 37 0 [])) (H' := ⟨2, [(1, .row 5 1 (List.map (V.int .u8) b)), (0, vD p2)]⟩) [0, 5] [0] rfl hK trivial ⟨⟨_, rfl, rfl, rfl, (vM _ b).symm⟩, (pqo1 rfl rfl)⟩ rfl <| go_endD [] ab (rs := []) rfl rfl ⟨rfl, rfl⟩
def cR (m : Nat) (p1 : Tree) (p2 : List Tree) (p3 : Int) (c : List Int) (d : List UInt8) (e : Nat) (a : List Int) (b : List UInt8) : Prop := ∀ (K : Ctx) (j1 : Nat), av K [0] → m ≤ j1 → qLG K Tryz.f87 (fun u G => u = .tup [] ∧ G = ⟨2, [(1, .row 5 1 (List.map (V.int .u8) a)), (0, vD b)]⟩) (cL (cK (xA (ac Tryz.f87)))) [.loop (cL (cK (xA (ac Tryz.f87)))) j1, .blk 0] 33 (mkF 33 0 [(0, .ptr 0 0), (3, .int .i64 p3), (5, .box (ai p1) 0), (10, .row 4 (kidsV p2)), (11, .int .i64 (p2.length : Int)), (12, .int .i64 (e : Int))]) ⟨2, [(1, .row 5 1 (List.map (V.int .u8) c)), (0, vD d)]⟩
theorem pY (m : Nat) (a : List Int) (c : List UInt8) (p1 : Tree) (p2 : List Tree) (p3 : Int) (b : List Int) (d : List UInt8) (h : cR m p1 p2 p3 a c 0 b d) : S_syntax_printer_list a c p1 p2 p3 b d := by
 refine am 33 [0] Tryz.func87 rfl rfl rfl (aM rfl) fun K hK => ?_
 exact gR 3 rfl <| gFP 2 rfl rfl rfl rfl <| gR 6 rfl <| gV 11 (.int .i64 (p2.length : Int)) rfl (bx (aG _)) rfl <| gLB 10 rfl (aG _) fun hl7 => gR 4 rfl <| go_loop m <| gJ (h K _ hK (by omega)) [0, 1] [0] rfl hK pq6 ⟨⟨_, rfl, rfl, rfl, (vM _ a).symm⟩, (pqo1 rfl rfl)⟩ rfl
theorem gE (m : Nat) (p1 : Tree) (p2 : List Tree) (p3 : Int) (d : List Int) (k : List UInt8) (a : Nat) (b : List Int) (c : List UInt8) (h : ((a < p2.length) → ∃ l, p2[a]? = some l ∧ ((0 < (a : Int)) → InI (p3 + (a : Int)) ∧ InI ((p3 + (a : Int)) - 1) ∧ ∃ n, ((p3 + (a : Int)) - 1) = ((n : Nat) : Int) ∧ ∃ o, p1.leads[n]? = some o ∧ ∃ e p, an d k o [44] e p ∧ ∃ g q, aA e p l g q ∧ a + 1 ≤ 9223372036854775807 ∧ cR m p1 p2 p3 g q (a + 1) b c) ∧ ((¬ 0 < (a : Int)) → ∃ i r, aA d k l i r ∧ a + 1 ≤ 9223372036854775807 ∧ cR m p1 p2 p3 i r (a + 1) b c)) ∧ ((¬ a < p2.length) → d = b ∧ k = c)) : cR (m + 1) p1 p2 p3 d k a b c := by
 intro K j1 hK hj1
 obtain ⟨j1, rfl⟩ : ∃ j, j1 = j + 1 := ⟨j1 - 1, by omega⟩
 refine gR 6 rfl <| gB 13 rfl rfl rfl ?_ ?_ <;> intro hd
 replace hd := (fg hd)
 replace h := h.1 hd
 refine gR 8 rfl ?_
 obtain ⟨l, hxt1_1, h⟩ := h
 refine gY (az (aj hxt1_1) ab rfl rfl rfl rfl) rfl rfl <| gR 13 rfl <| gB 18 rfl rfl rfl ?_ ?_ <;> intro hd
 replace hd := (of_decide_eq_true hd)
 replace h := h.1 hd
 refine gR 7 rfl ?_
 obtain ⟨hb, h⟩ := h
 refine gR 1 rfl <| gV 24 (.int .i64 (p3 + (a : Int))) rfl (ax hb rfl) rfl ?_
 obtain ⟨hb, h⟩ := h
 refine gR 1 rfl <| gV 25 (.int .i64 ((p3 + (a : Int)) - 1)) rfl (ax hb rfl) rfl ?_
 obtain ⟨n, s, h⟩ := h
 refine gV 25 (.int .i64 ((n : Nat) : Int)) rfl (fP s) rfl ?_
 obtain ⟨o, hxs1_3, h⟩ := h
 refine gY (az (mapget (f := V.str) hxs1_3) ab rfl rfl rfl rfl) rfl rfl <| gR 1 rfl ?_
 obtain ⟨e, p, hs8, h⟩ := h
 refine gCZ hs8 [0, 1] ⟨⟨_, rfl, ⟨rfl, rfl, (vM _ d).symm⟩⟩, ⟨⟨_, rfl, ⟨rfl, ar.rfl⟩⟩, trivial⟩⟩ ?_
 refine gHR 4 (List.map (V.int .u8) e) rfl (vM _ e) rfl <| gR 5 rfl ?_
 obtain ⟨g, q, hs9, h⟩ := h
 refine gCZ hs9 [0, 4] ⟨⟨_, rfl, ⟨rfl, rfl, (vM _ e).symm⟩⟩, ⟨⟨_, rfl, ⟨rfl, ar.rfl⟩⟩, trivial⟩⟩ ?_
 refine gHR 6 (List.map (V.int .u8) g) rfl (vM _ g) rfl <| gR 4 rfl ?_
 obtain ⟨hb, h⟩ := h
 exact gR 1 rfl <| gV 32 (.int .i64 ((a + 1 : Nat) : Int)) rfl (ax (by omega) (by omega)) rfl <| gR 2 rfl <| go_xloop <| gJ (h K _ hK (by omega)) [0, 6] [0] rfl hK pq6 ⟨⟨_, rfl, rfl, rfl, (vM _ g).symm⟩, (pqo1 rfl rfl)⟩ rfl
 replace hd := (of_decide_eq_false hd)
 replace h := h.2 hd
 refine gR 6 rfl ?_
 obtain ⟨i, r, hs10, h⟩ := h
 refine gCZ hs10 [0, 1] ⟨⟨_, rfl, ⟨rfl, rfl, (vM _ d).symm⟩⟩, ⟨⟨_, rfl, ⟨rfl, ar.rfl⟩⟩, trivial⟩⟩ ?_
 refine gHR 4 (List.map (V.int .u8) i) rfl (vM _ i) rfl <| gR 4 rfl ?_
 obtain ⟨hb, h⟩ := h
 exact gR 1 rfl <| gV 32 (.int .i64 ((a + 1 : Nat) : Int)) rfl (ax (by omega) (by omega)) rfl <| gR 2 rfl <| go_xloop <| gJ (h K _ hK (by omega)) [0, 4] [0] rfl hK pq6 ⟨⟨_, rfl, rfl, rfl, (vM _ i).symm⟩, (pqo1 rfl rfl)⟩ rfl
 replace hd := (fc hd)
 replace h := h.2 hd
 refine gR 3 rfl <| go_xloopE <| gR 1 rfl ?_
 obtain ⟨rfl, rfl⟩ := h
 exact go_sub (F' := (mkF 33 0 [])) (H' := ⟨2, [(1, .row 5 1 (List.map (V.int .u8) d)), (0, vD k)]⟩) [0, 1] [0] rfl hK trivial ⟨⟨_, rfl, rfl, rfl, (vM _ d).symm⟩, (pqo1 rfl rfl)⟩ rfl <| go_endD [] ab (rs := []) rfl rfl ⟨rfl, rfl⟩
def cS (m : Nat) (a : List Int) (c : List UInt8) (p1 : Tree) (e : Bool) (b : List Int) (d : List UInt8) : Prop := ∀ (K : Ctx), av K [0] → qLG K Tryz.f56 (fun u G => u = .tup [] ∧ G = ⟨2, [(1, .row 5 1 (List.map (V.int .u8) b)), (0, vD d)]⟩) (cB (cK (xA (ac Tryz.f56)))) [.blk 0] 216 (mkF 216 0 [(0, .ptr 0 0), (3, .box (ai p1) 0), (5, .int .i64 p1.kind), (14, .bool e)]) ⟨2, [(1, .row 5 1 (List.map (V.int .u8) a)), (0, vD c)]⟩
def eU (m : Nat) (a : List Int) (c : List UInt8) (p1 : Tree) (b : List Int) (d : List UInt8) : Prop := ∀ (K : Ctx), av K [0] → qLG K Tryz.f56 (fun u G => u = .tup [] ∧ G = ⟨2, [(1, .row 5 1 (List.map (V.int .u8) b)), (0, vD d)]⟩) (xB (cK (xA (ac Tryz.f56)))) [.blk 0] 216 (mkF 216 0 [(0, .ptr 0 0), (3, .box (ai p1) 0), (5, .int .i64 p1.kind)]) ⟨2, [(1, .row 5 1 (List.map (V.int .u8) a)), (0, vD c)]⟩
def eX (m : Nat) (a : List Int) (c : List UInt8) (p1 : Tree) (b : List Int) (d : List UInt8) : Prop := ∀ (K : Ctx), av K [0] → qLG K Tryz.f56 (fun u G => u = .tup [] ∧ G = ⟨2, [(1, .row 5 1 (List.map (V.int .u8) b)), (0, vD d)]⟩) (xC (cK (xA (ac Tryz.f56)))) [.blk 0] 216 (mkF 216 0 [(0, .ptr 0 0), (3, .box (ai p1) 0), (5, .int .i64 p1.kind)]) ⟨2, [(1, .row 5 1 (List.map (V.int .u8) a)), (0, vD c)]⟩
def lp (m : Nat) (a : List Int) (c : List UInt8) (p1 : Tree) (b : List Int) (d : List UInt8) : Prop := ∀ (K : Ctx), av K [0] → qLG K Tryz.f56 (fun u G => u = .tup [] ∧ G = ⟨2, [(1, .row 5 1 (List.map (V.int .u8) b)), (0, vD d)]⟩) (xI (xC (cK (xA (ac Tryz.f56))))) [.blk 0] 216 (mkF 216 0 [(0, .ptr 0 0), (3, .box (ai p1) 0)]) ⟨2, [(1, .row 5 1 (List.map (V.int .u8) a)), (0, vD c)]⟩
def eQ (m : Nat) (a : List Int) (c : List UInt8) (p1 : Tree) (b : List Int) (d : List UInt8) : Prop := ∀ (K : Ctx), av K [0] → qLG K Tryz.f56 (fun u G => u = .tup [] ∧ G = ⟨2, [(1, .row 5 1 (List.map (V.int .u8) b)), (0, vD d)]⟩) (xC (xB (cK (xA (ac Tryz.f56))))) [.blk 0] 216 (mkF 216 0 [(0, .ptr 0 0), (3, .box (ai p1) 0), (5, .int .i64 p1.kind)]) ⟨2, [(1, .row 5 1 (List.map (V.int .u8) a)), (0, vD c)]⟩
def lz (m : Nat) (a : List Int) (c : List UInt8) (p1 : Tree) (b : List Int) (d : List UInt8) : Prop := ∀ (K : Ctx), av K [0] → qLG K Tryz.f56 (fun u G => u = .tup [] ∧ G = ⟨2, [(1, .row 5 1 (List.map (V.int .u8) b)), (0, vD d)]⟩) (xI (xC (xB (cK (xA (ac Tryz.f56)))))) [.blk 0] 216 (mkF 216 0 [(0, .ptr 0 0), (3, .box (ai p1) 0)]) ⟨2, [(1, .row 5 1 (List.map (V.int .u8) a)), (0, vD c)]⟩
def eT (m : Nat) (a : List Int) (c : List UInt8) (p1 : Tree) (b : List Int) (d : List UInt8) : Prop := ∀ (K : Ctx), av K [0] → qLG K Tryz.f56 (fun u G => u = .tup [] ∧ G = ⟨2, [(1, .row 5 1 (List.map (V.int .u8) b)), (0, vD d)]⟩) (xD (cK (xA (ac Tryz.f56)))) [.blk 0] 216 (mkF 216 0 [(0, .ptr 0 0), (3, .box (ai p1) 0), (5, .int .i64 p1.kind)]) ⟨2, [(1, .row 5 1 (List.map (V.int .u8) a)), (0, vD c)]⟩
def lu (m : Nat) (a : List Int) (c : List UInt8) (p1 : Tree) (b : List Int) (d : List UInt8) : Prop := ∀ (K : Ctx), av K [0] → qLG K Tryz.f56 (fun u G => u = .tup [] ∧ G = ⟨2, [(1, .row 5 1 (List.map (V.int .u8) b)), (0, vD d)]⟩) (xI (xD (cK (xA (ac Tryz.f56))))) [.blk 0] 216 (mkF 216 0 [(0, .ptr 0 0), (3, .box (ai p1) 0)]) ⟨2, [(1, .row 5 1 (List.map (V.int .u8) a)), (0, vD c)]⟩
def eM (m : Nat) (a : List Int) (c : List UInt8) (p1 : Tree) (b : List Int) (d : List UInt8) : Prop := ∀ (K : Ctx), av K [0] → qLG K Tryz.f56 (fun u G => u = .tup [] ∧ G = ⟨2, [(1, .row 5 1 (List.map (V.int .u8) b)), (0, vD d)]⟩) (xD (xB (cK (xA (ac Tryz.f56))))) [.blk 0] 216 (mkF 216 0 [(0, .ptr 0 0), (3, .box (ai p1) 0), (5, .int .i64 p1.kind)]) ⟨2, [(1, .row 5 1 (List.map (V.int .u8) a)), (0, vD c)]⟩
def lP (m : Nat) (a : List Int) (c : List UInt8) (p1 : Tree) (b : List Int) (d : List UInt8) : Prop := ∀ (K : Ctx), av K [0] → qLG K Tryz.f56 (fun u G => u = .tup [] ∧ G = ⟨2, [(1, .row 5 1 (List.map (V.int .u8) b)), (0, vD d)]⟩) (xI (xD (xB (cK (xA (ac Tryz.f56)))))) [.blk 0] 216 (mkF 216 0 [(0, .ptr 0 0), (3, .box (ai p1) 0)]) ⟨2, [(1, .row 5 1 (List.map (V.int .u8) a)), (0, vD c)]⟩
def eo (m : Nat) (a : List Int) (c : List UInt8) (p1 : Tree) (b : List Int) (d : List UInt8) : Prop := ∀ (K : Ctx), av K [0] → qLG K Tryz.f56 (fun u G => u = .tup [] ∧ G = ⟨2, [(1, .row 5 1 (List.map (V.int .u8) b)), (0, vD d)]⟩) (xD (xC (cK (xA (ac Tryz.f56))))) [.blk 0] 216 (mkF 216 0 [(0, .ptr 0 0), (3, .box (ai p1) 0), (5, .int .i64 p1.kind)]) ⟨2, [(1, .row 5 1 (List.map (V.int .u8) a)), (0, vD c)]⟩
def kX (m : Nat) (a : List Int) (c : List UInt8) (p1 : Tree) (b : List Int) (d : List UInt8) : Prop := ∀ (K : Ctx), av K [0] → qLG K Tryz.f56 (fun u G => u = .tup [] ∧ G = ⟨2, [(1, .row 5 1 (List.map (V.int .u8) b)), (0, vD d)]⟩) (xI (xD (xC (cK (xA (ac Tryz.f56)))))) [.blk 0] 216 (mkF 216 0 [(0, .ptr 0 0), (3, .box (ai p1) 0)]) ⟨2, [(1, .row 5 1 (List.map (V.int .u8) a)), (0, vD c)]⟩
def eu (m : Nat) (a : List Int) (c : List UInt8) (p1 : Tree) (b : List Int) (d : List UInt8) : Prop := ∀ (K : Ctx), av K [0] → qLG K Tryz.f56 (fun u G => u = .tup [] ∧ G = ⟨2, [(1, .row 5 1 (List.map (V.int .u8) b)), (0, vD d)]⟩) (xD (xC (xB (cK (xA (ac Tryz.f56)))))) [.blk 0] 216 (mkF 216 0 [(0, .ptr 0 0), (3, .box (ai p1) 0), (5, .int .i64 p1.kind)]) ⟨2, [(1, .row 5 1 (List.map (V.int .u8) a)), (0, vD c)]⟩
def kU (m : Nat) (a : List Int) (c : List UInt8) (p1 : Tree) (b : List Int) (d : List UInt8) : Prop := ∀ (K : Ctx), av K [0] → qLG K Tryz.f56 (fun u G => u = .tup [] ∧ G = ⟨2, [(1, .row 5 1 (List.map (V.int .u8) b)), (0, vD d)]⟩) (xI (xD (xC (xB (cK (xA (ac Tryz.f56))))))) [.blk 0] 216 (mkF 216 0 [(0, .ptr 0 0), (3, .box (ai p1) 0)]) ⟨2, [(1, .row 5 1 (List.map (V.int .u8) a)), (0, vD c)]⟩
def gA (m : Nat) (a : List Int) (c : List UInt8) (p1 : Tree) (b : List Int) (d : List UInt8) : Prop := ∀ (K : Ctx), av K [0] → qLG K Tryz.f56 (fun u G => u = .tup [] ∧ G = ⟨2, [(1, .row 5 1 (List.map (V.int .u8) b)), (0, vD d)]⟩) (xM (cK (xA (ac Tryz.f56)))) [.blk 0] 216 (mkF 216 0 [(0, .ptr 0 0), (3, .box (ai p1) 0), (5, .int .i64 p1.kind)]) ⟨2, [(1, .row 5 1 (List.map (V.int .u8) a)), (0, vD c)]⟩
def ll (m : Nat) (a : List Int) (c : List UInt8) (p1 : Tree) (b : List Int) (d : List UInt8) : Prop := ∀ (K : Ctx), av K [0] → qLG K Tryz.f56 (fun u G => u = .tup [] ∧ G = ⟨2, [(1, .row 5 1 (List.map (V.int .u8) b)), (0, vD d)]⟩) (xI (xM (cK (xA (ac Tryz.f56))))) [.blk 0] 216 (mkF 216 0 [(0, .ptr 0 0), (3, .box (ai p1) 0)]) ⟨2, [(1, .row 5 1 (List.map (V.int .u8) a)), (0, vD c)]⟩
theorem rS_syntax_printer_tree (m : Nat) (a : List Int) (c : List UInt8) (p1 : Tree) (b : List Int) (d : List UInt8) (h : ((p1.kind = 1) → cS m a c p1 true b d) ∧ ((p1.kind ≠ 1) → ((p1.kind = 2) → cS m a c p1 true b d) ∧ ((p1.kind ≠ 2) → ((p1.kind = 3) → cS m a c p1 true b d) ∧ ((p1.kind ≠ 3) → cS m a c p1 (p1.kind == 4) b d)))) : aA a c p1 b d := by
 refine am 216 [0] Tryz.func56 rfl rfl rfl (aM rfl) fun K hK => ?_
 refine gR 3 rfl <| gFP 2 rfl rfl rfl rfl <| gR 16 rfl <| qBeZ 14 15 rfl rfl rfl rfl h (fun h => ?_) fun h => ?_
 exact gR 3 rfl <| gJ (h K hK) [0, 1] [0] rfl hK pq4 ⟨⟨_, rfl, rfl, rfl, (vM _ a).symm⟩, (pqo1 rfl rfl)⟩ rfl
 refine gR 7 rfl <| qBeZ 14 16 rfl rfl rfl rfl h (fun h => ?_) fun h => ?_
 exact gR 3 rfl <| gJ (h K hK) [0, 1] [0] rfl hK pq4 ⟨⟨_, rfl, rfl, rfl, (vM _ a).symm⟩, (pqo1 rfl rfl)⟩ rfl
 refine gR 7 rfl <| qBeZ 14 17 rfl rfl rfl rfl h (fun h => ?_) fun h => ?_
 exact gR 3 rfl <| gJ (h K hK) [0, 1] [0] rfl hK pq4 ⟨⟨_, rfl, rfl, rfl, (vM _ a).symm⟩, (pqo1 rfl rfl)⟩ rfl
 exact gR 6 rfl <| gJ (h K hK) [0, 1] [0] rfl hK pq4 ⟨⟨_, rfl, rfl, rfl, (vM _ a).symm⟩, (pqo1 rfl rfl)⟩ rfl
theorem kD (m : Nat) (a : List Int) (c : List UInt8) (p1 : Tree) (g : Bool) (b : List Int) (d : List UInt8) (h : ((g = true) → ∃ e f, fi a c p1 e f ∧ e = b ∧ f = d) ∧ ((g = false) → eU m a c p1 b d)) : cS (m + 1) a c p1 g b d := by
 intro K hK
 refine qBi 14 rfl rfl rfl h (fun h => ?_) fun h => ?_
 refine gR 4 rfl ?_
 obtain ⟨e, f, hs66, h⟩ := h
 refine gCZ hs66 [0, 1] ⟨⟨_, rfl, ⟨rfl, rfl, (vM _ a).symm⟩⟩, ⟨⟨_, rfl, ⟨rfl, ar.rfl⟩⟩, trivial⟩⟩ ?_
 refine gHR 3 (List.map (V.int .u8) e) rfl (vM _ e) rfl <| gR 2 rfl ?_
 obtain ⟨rfl, rfl⟩ := h
 exact go_sub (F' := (mkF 216 0 [])) (H' := ⟨2, [(1, .row 5 1 (List.map (V.int .u8) e)), (0, vD f)]⟩) [0, 3] [0] rfl hK trivial ⟨⟨_, rfl, rfl, rfl, (vM _ e).symm⟩, (pqo1 rfl rfl)⟩ rfl <| go_endD [] ab (rs := []) rfl rfl ⟨rfl, rfl⟩
 exact gR 1 rfl <| gJ (h K hK) [0, 1] [0] rfl hK pq3 ⟨⟨_, rfl, rfl, rfl, (vM _ a).symm⟩, (pqo1 rfl rfl)⟩ rfl
theorem lb (m : Nat) (a : List Int) (c : List UInt8) (p1 : Tree) (b : List Int) (d : List UInt8) (h : ((p1.kind = 17) → ∃ g, p1.kids[0]? = some g ∧ ∃ e f, aA a c g e f ∧ e = b ∧ f = d) ∧ ((p1.kind ≠ 17) → eX m a c p1 b d)) : eU (m + 1) a c p1 b d := by
 intro K hK
 refine gR 6 rfl <| qBeZ 22 23 rfl rfl rfl rfl h (fun h => ?_) fun h => ?_
 refine gR 5 rfl ?_
 obtain ⟨g, hxt2_1, h⟩ := h
 refine gY (az (aj hxt2_1) ab rfl rfl rfl rfl) rfl rfl <| gR 1 rfl ?_
 obtain ⟨e, f, hs67, h⟩ := h
 refine gCZ hs67 [0, 1] ⟨⟨_, rfl, ⟨rfl, rfl, (vM _ a).symm⟩⟩, ⟨⟨_, rfl, ⟨rfl, ar.rfl⟩⟩, trivial⟩⟩ ?_
 refine gHR 3 (List.map (V.int .u8) e) rfl (vM _ e) rfl <| gR 2 rfl ?_
 obtain ⟨rfl, rfl⟩ := h
 exact go_sub (F' := (mkF 216 0 [])) (H' := ⟨2, [(1, .row 5 1 (List.map (V.int .u8) e)), (0, vD f)]⟩) [0, 3] [0] rfl hK trivial ⟨⟨_, rfl, rfl, rfl, (vM _ e).symm⟩, (pqo1 rfl rfl)⟩ rfl <| go_endD [] ab (rs := []) rfl rfl ⟨rfl, rfl⟩
 exact gR 1 rfl <| gJ (h K hK) [0, 1] [0] rfl hK pq3 ⟨⟨_, rfl, rfl, rfl, (vM _ a).symm⟩, (pqo1 rfl rfl)⟩ rfl
theorem lh (m : Nat) (a : List Int) (c : List UInt8) (p1 : Tree) (b : List Int) (d : List UInt8) (h : ((p1.kind = 8) → lp m a c p1 b d) ∧ ((p1.kind ≠ 8) → eQ m a c p1 b d)) : eX (m + 1) a c p1 b d := by
 intro K hK
 refine gR 6 rfl <| qBeZ 30 31 rfl rfl rfl rfl h (fun h => ?_) fun h => ?_
 exact gR 1 rfl <| gJ (h K hK) [0, 1] [0] rfl hK pq2 ⟨⟨_, rfl, rfl, rfl, (vM _ a).symm⟩, (pqo1 rfl rfl)⟩ rfl
 exact gR 1 rfl <| gJ (h K hK) [0, 1] [0] rfl hK pq3 ⟨⟨_, rfl, rfl, rfl, (vM _ a).symm⟩, (pqo1 rfl rfl)⟩ rfl
theorem pj (m : Nat) (a : List Int) (g : List UInt8) (p1 : Tree) (c : List Int) (i : List UInt8) (h : ∃ k, p1.leads[0]? = some k ∧ ∃ d l, an a g k [91] d l ∧ ∃ n, p1.kids[0]? = some n ∧ ∃ e o, aA d l n e o ∧ ∃ p, p1.leads[1]? = some p ∧ ∃ b j, an e o p [93] b j ∧ b = c ∧ j = i) : lp (m + 1) a g p1 c i := by
 intro K hK
 refine gR 5 rfl ?_
 obtain ⟨k, hxs4_1, h⟩ := h
 refine gY (az (mapget (f := V.str) hxs4_1) ab rfl rfl rfl rfl) rfl rfl <| gR 1 rfl ?_
 obtain ⟨d, l, hs68, h⟩ := h
 refine gCZ hs68 [0, 1] ⟨⟨_, rfl, ⟨rfl, rfl, (vM _ a).symm⟩⟩, ⟨⟨_, rfl, ⟨rfl, ar.rfl⟩⟩, trivial⟩⟩ ?_
 refine gHR 3 (List.map (V.int .u8) d) rfl (vM _ d) rfl <| gR 7 rfl ?_
 obtain ⟨n, hxt4_4, h⟩ := h
 refine gY (az (aj hxt4_4) ab rfl rfl rfl rfl) rfl rfl <| gR 1 rfl ?_
 obtain ⟨e, o, hs69, h⟩ := h
 refine gCZ hs69 [0, 3] ⟨⟨_, rfl, ⟨rfl, rfl, (vM _ d).symm⟩⟩, ⟨⟨_, rfl, ⟨rfl, ar.rfl⟩⟩, trivial⟩⟩ ?_
 refine gHR 5 (List.map (V.int .u8) e) rfl (vM _ e) rfl <| gR 6 rfl ?_
 obtain ⟨p, hxs4_7, h⟩ := h
 refine gY (az (mapget (f := V.str) hxs4_7) ab rfl rfl rfl rfl) rfl rfl <| gR 1 rfl ?_
 obtain ⟨b, j, hs70, h⟩ := h
 refine gCZ hs70 [0, 5] ⟨⟨_, rfl, ⟨rfl, rfl, (vM _ e).symm⟩⟩, ⟨⟨_, rfl, ⟨rfl, ar.rfl⟩⟩, trivial⟩⟩ ?_
 refine gHR 7 (List.map (V.int .u8) b) rfl (vM _ b) rfl <| gR 2 rfl ?_
 obtain ⟨rfl, rfl⟩ := h
 exact go_sub (F' := (mkF 216 0 [])) (H' := ⟨2, [(1, .row 5 1 (List.map (V.int .u8) b)), (0, vD j)]⟩) [0, 7] [0] rfl hK trivial ⟨⟨_, rfl, rfl, rfl, (vM _ b).symm⟩, (pqo1 rfl rfl)⟩ rfl <| go_endD [] ab (rs := []) rfl rfl ⟨rfl, rfl⟩
theorem kH (m : Nat) (a : List Int) (c : List UInt8) (p1 : Tree) (b : List Int) (d : List UInt8) (h : ((p1.kind = 16) → lz m a c p1 b d) ∧ ((p1.kind ≠ 16) → eT m a c p1 b d)) : eQ (m + 1) a c p1 b d := by
 intro K hK
 refine gR 6 rfl <| qBeZ 50 51 rfl rfl rfl rfl h (fun h => ?_) fun h => ?_
 exact gR 1 rfl <| gJ (h K hK) [0, 1] [0] rfl hK pq2 ⟨⟨_, rfl, rfl, rfl, (vM _ a).symm⟩, (pqo1 rfl rfl)⟩ rfl
 exact gR 1 rfl <| gJ (h K hK) [0, 1] [0] rfl hK pq3 ⟨⟨_, rfl, rfl, rfl, (vM _ a).symm⟩, (pqo1 rfl rfl)⟩ rfl
theorem pp (m : Nat) (b : List Int) (j : List UInt8) (p1 : Tree) (c : List Int) (k : List UInt8) (h : ∃ l, p1.leads[0]? = some l ∧ ∃ d n, an b j l p1.text d n ∧ ∃ o, p1.leads[1]? = some o ∧ ∃ e p, an d n o [40] e p ∧ ∃ g q, S_syntax_printer_list e p p1 p1.kids 3 g q ∧ ∃ r, p1.leads[2]? = some r ∧ ∃ a i, an g q r [41] a i ∧ a = c ∧ i = k) : lz (m + 1) b j p1 c k := by
 intro K hK
 refine gR 1 rfl <| gDs [] 8 8 rfl (by kernel_rfl) (by kernel_rfl) <| gDr [(0, 2), (1, 2), (2, 2)] (by kernel_rfl) rfl rfl ?_
 obtain ⟨l, hxs6_1, h⟩ := h
 refine gYd 3 rfl (by kernel_rfl) (az (mapget (f := V.str) hxs6_1) ab rfl rfl rfl rfl) rfl rfl <| gDr [(4, 2), (5, 0), (6, 0)] (by kernel_rfl) rfl rfl ?_
 obtain ⟨d, n, hs71, h⟩ := h
 refine gDCZ 7 hs71 [0, 1] rfl ⟨⟨_, rfl, ⟨rfl, rfl, (vM _ b).symm⟩⟩, ⟨⟨_, rfl, ⟨rfl, ar.rfl⟩⟩, trivial⟩⟩ ?_
 refine gHR 3 (List.map (V.int .u8) d) rfl (vM _ d) rfl <| gDe (by kernel_rfl) <| gR 6 rfl ?_
 obtain ⟨o, hxs6_4, h⟩ := h
 refine gY (az (mapget (f := V.str) hxs6_4) ab rfl rfl rfl rfl) rfl rfl <| gR 1 rfl ?_
 obtain ⟨e, p, hs72, h⟩ := h
 refine gCZ hs72 [0, 3] ⟨⟨_, rfl, ⟨rfl, rfl, (vM _ d).symm⟩⟩, ⟨⟨_, rfl, ⟨rfl, ar.rfl⟩⟩, trivial⟩⟩ ?_
 refine gHR 5 (List.map (V.int .u8) e) rfl (vM _ e) rfl <| gR 8 rfl ?_
 obtain ⟨g, q, hs73, h⟩ := h
 refine gCZ hs73 [0, 5] ⟨⟨_, rfl, ⟨rfl, rfl, (vM _ e).symm⟩⟩, ⟨⟨_, rfl, ⟨rfl, ar.rfl⟩⟩, trivial⟩⟩ ?_
 refine gHR 7 (List.map (V.int .u8) g) rfl (vM _ g) rfl <| gR 6 rfl ?_
 obtain ⟨r, hxs6_9, h⟩ := h
 refine gY (az (mapget (f := V.str) hxs6_9) ab rfl rfl rfl rfl) rfl rfl <| gR 1 rfl ?_
 obtain ⟨a, i, hs74, h⟩ := h
 refine gCZ hs74 [0, 7] ⟨⟨_, rfl, ⟨rfl, rfl, (vM _ g).symm⟩⟩, ⟨⟨_, rfl, ⟨rfl, ar.rfl⟩⟩, trivial⟩⟩ ?_
 refine gHR 9 (List.map (V.int .u8) a) rfl (vM _ a) rfl <| gR 2 rfl ?_
 obtain ⟨rfl, rfl⟩ := h
 exact go_sub (F' := (mkF 216 0 [])) (H' := ⟨2, [(1, .row 5 1 (List.map (V.int .u8) a)), (0, vD i)]⟩) [0, 9] [0] rfl hK trivial ⟨⟨_, rfl, rfl, rfl, (vM _ a).symm⟩, (pqo1 rfl rfl)⟩ rfl <| go_endD [] ab (rs := []) rfl rfl ⟨rfl, rfl⟩
theorem kO (m : Nat) (a : List Int) (c : List UInt8) (p1 : Tree) (b : List Int) (d : List UInt8) (h : ((p1.kind = 18) → lu m a c p1 b d) ∧ ((p1.kind ≠ 18) → eM m a c p1 b d)) : eT (m + 1) a c p1 b d := by
 intro K hK
 refine gR 6 rfl <| qBeZ 77 78 rfl rfl rfl rfl h (fun h => ?_) fun h => ?_
 exact gR 1 rfl <| gJ (h K hK) [0, 1] [0] rfl hK pq2 ⟨⟨_, rfl, rfl, rfl, (vM _ a).symm⟩, (pqo1 rfl rfl)⟩ rfl
 exact gR 1 rfl <| gJ (h K hK) [0, 1] [0] rfl hK pq3 ⟨⟨_, rfl, rfl, rfl, (vM _ a).symm⟩, (pqo1 rfl rfl)⟩ rfl
theorem ph (m : Nat) (a : List Int) (g : List UInt8) (p1 : Tree) (c : List Int) (i : List UInt8) (h : ∃ k, p1.leads[0]? = some k ∧ ∃ d l, an a g k [91] d l ∧ ∃ e n, S_syntax_printer_list d l p1 p1.kids 2 e n ∧ ∃ o, p1.leads[1]? = some o ∧ ∃ b j, an e n o [93] b j ∧ b = c ∧ j = i) : lu (m + 1) a g p1 c i := by
 intro K hK
 refine gR 5 rfl ?_
 obtain ⟨k, hxs8_1, h⟩ := h
 refine gY (az (mapget (f := V.str) hxs8_1) ab rfl rfl rfl rfl) rfl rfl <| gR 1 rfl ?_
 obtain ⟨d, l, hs75, h⟩ := h
 refine gCZ hs75 [0, 1] ⟨⟨_, rfl, ⟨rfl, rfl, (vM _ a).symm⟩⟩, ⟨⟨_, rfl, ⟨rfl, ar.rfl⟩⟩, trivial⟩⟩ ?_
 refine gHR 3 (List.map (V.int .u8) d) rfl (vM _ d) rfl <| gR 8 rfl ?_
 obtain ⟨e, n, hs76, h⟩ := h
 refine gCZ hs76 [0, 3] ⟨⟨_, rfl, ⟨rfl, rfl, (vM _ d).symm⟩⟩, ⟨⟨_, rfl, ⟨rfl, ar.rfl⟩⟩, trivial⟩⟩ ?_
 refine gHR 5 (List.map (V.int .u8) e) rfl (vM _ e) rfl <| gR 6 rfl ?_
 obtain ⟨o, hxs8_6, h⟩ := h
 refine gY (az (mapget (f := V.str) hxs8_6) ab rfl rfl rfl rfl) rfl rfl <| gR 1 rfl ?_
 obtain ⟨b, j, hs77, h⟩ := h
 refine gCZ hs77 [0, 5] ⟨⟨_, rfl, ⟨rfl, rfl, (vM _ e).symm⟩⟩, ⟨⟨_, rfl, ⟨rfl, ar.rfl⟩⟩, trivial⟩⟩ ?_
 refine gHR 7 (List.map (V.int .u8) b) rfl (vM _ b) rfl <| gR 2 rfl ?_
 obtain ⟨rfl, rfl⟩ := h
 exact go_sub (F' := (mkF 216 0 [])) (H' := ⟨2, [(1, .row 5 1 (List.map (V.int .u8) b)), (0, vD j)]⟩) [0, 7] [0] rfl hK trivial ⟨⟨_, rfl, rfl, rfl, (vM _ b).symm⟩, (pqo1 rfl rfl)⟩ rfl <| go_endD [] ab (rs := []) rfl rfl ⟨rfl, rfl⟩
theorem lj (m : Nat) (a : List Int) (c : List UInt8) (p1 : Tree) (b : List Int) (d : List UInt8) (h : ((p1.kind = 19) → lP m a c p1 b d) ∧ ((p1.kind ≠ 19) → eo m a c p1 b d)) : eM (m + 1) a c p1 b d := by
 intro K hK
 refine gR 6 rfl <| qBeZ 96 97 rfl rfl rfl rfl h (fun h => ?_) fun h => ?_
 exact gR 1 rfl <| gJ (h K hK) [0, 1] [0] rfl hK pq2 ⟨⟨_, rfl, rfl, rfl, (vM _ a).symm⟩, (pqo1 rfl rfl)⟩ rfl
 exact gR 1 rfl <| gJ (h K hK) [0, 1] [0] rfl hK pq3 ⟨⟨_, rfl, rfl, rfl, (vM _ a).symm⟩, (pqo1 rfl rfl)⟩ rfl
theorem pn (m : Nat) (d : List Int) (r : List UInt8) (p1 : Tree) (k : List Int) (s : List UInt8) (h : ∃ t, p1.leads[0]? = some t ∧ ∃ e v, an d r t [105, 102] e v ∧ ∃ w, p1.kids[0]? = some w ∧ ∃ g x, aA e v w g x ∧ ∃ y, p1.leads[1]? = some y ∧ ∃ i z, an g x y [116, 104, 101, 110] i z ∧ ∃ l, p1.kids[1]? = some l ∧ ∃ b n, aA i z l b n ∧ ∃ o, p1.leads[2]? = some o ∧ ∃ c p, an b n o [101, 108, 115, 101] c p ∧ ∃ q, p1.kids[2]? = some q ∧ ∃ a j, aA c p q a j ∧ a = k ∧ j = s) : lP (m + 1) d r p1 k s := by
 intro K hK
 refine gR 5 rfl ?_
 obtain ⟨t, hxs10_1, h⟩ := h
 refine gY (az (mapget (f := V.str) hxs10_1) ab rfl rfl rfl rfl) rfl rfl <| gR 1 rfl ?_
 obtain ⟨e, v, hs78, h⟩ := h
 refine gCZ hs78 [0, 1] ⟨⟨_, rfl, ⟨rfl, rfl, (vM _ d).symm⟩⟩, ⟨⟨_, rfl, ⟨rfl, ar.rfl⟩⟩, trivial⟩⟩ ?_
 refine gHR 3 (List.map (V.int .u8) e) rfl (vM _ e) rfl <| gR 7 rfl ?_
 obtain ⟨w, hxt10_4, h⟩ := h
 refine gY (az (aj hxt10_4) ab rfl rfl rfl rfl) rfl rfl <| gR 1 rfl ?_
 obtain ⟨g, x, hs79, h⟩ := h
 refine gCZ hs79 [0, 3] ⟨⟨_, rfl, ⟨rfl, rfl, (vM _ e).symm⟩⟩, ⟨⟨_, rfl, ⟨rfl, ar.rfl⟩⟩, trivial⟩⟩ ?_
 refine gHR 5 (List.map (V.int .u8) g) rfl (vM _ g) rfl <| gR 7 rfl ?_
 obtain ⟨y, hxs10_7, h⟩ := h
 refine gY (az (mapget (f := V.str) hxs10_7) ab rfl rfl rfl rfl) rfl rfl <| gR 1 rfl ?_
 obtain ⟨i, z, hs80, h⟩ := h
 refine gCZ hs80 [0, 5] ⟨⟨_, rfl, ⟨rfl, rfl, (vM _ g).symm⟩⟩, ⟨⟨_, rfl, ⟨rfl, ar.rfl⟩⟩, trivial⟩⟩ ?_
 refine gHR 7 (List.map (V.int .u8) i) rfl (vM _ i) rfl <| gR 7 rfl ?_
 obtain ⟨l, hxt10_10, h⟩ := h
 refine gY (az (aj hxt10_10) ab rfl rfl rfl rfl) rfl rfl <| gR 1 rfl ?_
 obtain ⟨b, n, hs81, h⟩ := h
 refine gCZ hs81 [0, 7] ⟨⟨_, rfl, ⟨rfl, rfl, (vM _ i).symm⟩⟩, ⟨⟨_, rfl, ⟨rfl, ar.rfl⟩⟩, trivial⟩⟩ ?_
 refine gHR 9 (List.map (V.int .u8) b) rfl (vM _ b) rfl <| gR 7 rfl ?_
 obtain ⟨o, hxs10_13, h⟩ := h
 refine gY (az (mapget (f := V.str) hxs10_13) ab rfl rfl rfl rfl) rfl rfl <| gR 1 rfl ?_
 obtain ⟨c, p, hs82, h⟩ := h
 refine gCZ hs82 [0, 9] ⟨⟨_, rfl, ⟨rfl, rfl, (vM _ b).symm⟩⟩, ⟨⟨_, rfl, ⟨rfl, ar.rfl⟩⟩, trivial⟩⟩ ?_
 refine gHR 11 (List.map (V.int .u8) c) rfl (vM _ c) rfl <| gR 6 rfl ?_
 obtain ⟨q, hxt10_16, h⟩ := h
 refine gY (az (aj hxt10_16) ab rfl rfl rfl rfl) rfl rfl <| gR 1 rfl ?_
 obtain ⟨a, j, hs83, h⟩ := h
 refine gCZ hs83 [0, 11] ⟨⟨_, rfl, ⟨rfl, rfl, (vM _ c).symm⟩⟩, ⟨⟨_, rfl, ⟨rfl, ar.rfl⟩⟩, trivial⟩⟩ ?_
 refine gHR 13 (List.map (V.int .u8) a) rfl (vM _ a) rfl <| gR 2 rfl ?_
 obtain ⟨rfl, rfl⟩ := h
 exact go_sub (F' := (mkF 216 0 [])) (H' := ⟨2, [(1, .row 5 1 (List.map (V.int .u8) a)), (0, vD j)]⟩) [0, 13] [0] rfl hK trivial ⟨⟨_, rfl, rfl, rfl, (vM _ a).symm⟩, (pqo1 rfl rfl)⟩ rfl <| go_endD [] ab (rs := []) rfl rfl ⟨rfl, rfl⟩
theorem jX (m : Nat) (a : List Int) (c : List UInt8) (p1 : Tree) (b : List Int) (d : List UInt8) (h : ((p1.kind = 20) → kX m a c p1 b d) ∧ ((p1.kind ≠ 20) → eu m a c p1 b d)) : eo (m + 1) a c p1 b d := by
 intro K hK
 refine gR 6 rfl <| qBeZ 134 135 rfl rfl rfl rfl h (fun h => ?_) fun h => ?_
 exact gR 1 rfl <| gJ (h K hK) [0, 1] [0] rfl hK pq2 ⟨⟨_, rfl, rfl, rfl, (vM _ a).symm⟩, (pqo1 rfl rfl)⟩ rfl
 exact gR 1 rfl <| gJ (h K hK) [0, 1] [0] rfl hK pq3 ⟨⟨_, rfl, rfl, rfl, (vM _ a).symm⟩, (pqo1 rfl rfl)⟩ rfl
theorem pc (m : Nat) (d : List Int) (r : List UInt8) (p1 : Tree) (k : List Int) (s : List UInt8) (h : ∃ t, p1.leads[0]? = some t ∧ ∃ e v, an d r t [108, 101, 116] e v ∧ ∃ w, p1.leads[1]? = some w ∧ ∃ g x, an e v w p1.text g x ∧ ∃ y, p1.leads[2]? = some y ∧ ∃ i z, an g x y [61] i z ∧ ∃ l, p1.kids[0]? = some l ∧ ∃ b n, aA i z l b n ∧ ∃ o, p1.leads[3]? = some o ∧ ∃ c p, an b n o [105, 110] c p ∧ ∃ q, p1.kids[1]? = some q ∧ ∃ a j, aA c p q a j ∧ a = k ∧ j = s) : kX (m + 1) d r p1 k s := by
 intro K hK
 refine gR 5 rfl ?_
 obtain ⟨t, hxs12_1, h⟩ := h
 refine gY (az (mapget (f := V.str) hxs12_1) ab rfl rfl rfl rfl) rfl rfl <| gR 1 rfl ?_
 obtain ⟨e, v, hs84, h⟩ := h
 refine gCZ hs84 [0, 1] ⟨⟨_, rfl, ⟨rfl, rfl, (vM _ d).symm⟩⟩, ⟨⟨_, rfl, ⟨rfl, ar.rfl⟩⟩, trivial⟩⟩ ?_
 refine gHR 3 (List.map (V.int .u8) e) rfl (vM _ e) rfl <| gR 3 rfl <| gDs [] 8 8 rfl (by kernel_rfl) (by kernel_rfl) <| gDr [(0, 2), (1, 2), (2, 2)] (by kernel_rfl) rfl rfl ?_
 obtain ⟨w, hxs12_4, h⟩ := h
 refine gYd 3 rfl (by kernel_rfl) (az (mapget (f := V.str) hxs12_4) ab rfl rfl rfl rfl) rfl rfl <| gDr [(4, 2), (5, 0), (6, 0)] (by kernel_rfl) rfl rfl ?_
 obtain ⟨g, x, hs85, h⟩ := h
 refine gDCZ 7 hs85 [0, 3] rfl ⟨⟨_, rfl, ⟨rfl, rfl, (vM _ e).symm⟩⟩, ⟨⟨_, rfl, ⟨rfl, ar.rfl⟩⟩, trivial⟩⟩ ?_
 refine gHR 5 (List.map (V.int .u8) g) rfl (vM _ g) rfl <| gDe (by kernel_rfl) <| gR 6 rfl ?_
 obtain ⟨y, hxs12_7, h⟩ := h
 refine gY (az (mapget (f := V.str) hxs12_7) ab rfl rfl rfl rfl) rfl rfl <| gR 1 rfl ?_
 obtain ⟨i, z, hs86, h⟩ := h
 refine gCZ hs86 [0, 5] ⟨⟨_, rfl, ⟨rfl, rfl, (vM _ g).symm⟩⟩, ⟨⟨_, rfl, ⟨rfl, ar.rfl⟩⟩, trivial⟩⟩ ?_
 refine gHR 7 (List.map (V.int .u8) i) rfl (vM _ i) rfl <| gR 7 rfl ?_
 obtain ⟨l, hxt12_10, h⟩ := h
 refine gY (az (aj hxt12_10) ab rfl rfl rfl rfl) rfl rfl <| gR 1 rfl ?_
 obtain ⟨b, n, hs87, h⟩ := h
 refine gCZ hs87 [0, 7] ⟨⟨_, rfl, ⟨rfl, rfl, (vM _ i).symm⟩⟩, ⟨⟨_, rfl, ⟨rfl, ar.rfl⟩⟩, trivial⟩⟩ ?_
 refine gHR 9 (List.map (V.int .u8) b) rfl (vM _ b) rfl <| gR 7 rfl ?_
 obtain ⟨o, hxs12_13, h⟩ := h
 refine gY (az (mapget (f := V.str) hxs12_13) ab rfl rfl rfl rfl) rfl rfl <| gR 1 rfl ?_
 obtain ⟨c, p, hs88, h⟩ := h
 refine gCZ hs88 [0, 9] ⟨⟨_, rfl, ⟨rfl, rfl, (vM _ b).symm⟩⟩, ⟨⟨_, rfl, ⟨rfl, ar.rfl⟩⟩, trivial⟩⟩ ?_
 refine gHR 11 (List.map (V.int .u8) c) rfl (vM _ c) rfl <| gR 6 rfl ?_
 obtain ⟨q, hxt12_16, h⟩ := h
 refine gY (az (aj hxt12_16) ab rfl rfl rfl rfl) rfl rfl <| gR 1 rfl ?_
 obtain ⟨a, j, hs89, h⟩ := h
 refine gCZ hs89 [0, 11] ⟨⟨_, rfl, ⟨rfl, rfl, (vM _ c).symm⟩⟩, ⟨⟨_, rfl, ⟨rfl, ar.rfl⟩⟩, trivial⟩⟩ ?_
 refine gHR 13 (List.map (V.int .u8) a) rfl (vM _ a) rfl <| gR 2 rfl ?_
 obtain ⟨rfl, rfl⟩ := h
 exact go_sub (F' := (mkF 216 0 [])) (H' := ⟨2, [(1, .row 5 1 (List.map (V.int .u8) a)), (0, vD j)]⟩) [0, 13] [0] rfl hK trivial ⟨⟨_, rfl, rfl, rfl, (vM _ a).symm⟩, (pqo1 rfl rfl)⟩ rfl <| go_endD [] ab (rs := []) rfl rfl ⟨rfl, rfl⟩
theorem jZ (m : Nat) (a : List Int) (c : List UInt8) (p1 : Tree) (b : List Int) (d : List UInt8) (h : ((p1.kind = 21) → kU m a c p1 b d) ∧ ((p1.kind ≠ 21) → gA m a c p1 b d)) : eu (m + 1) a c p1 b d := by
 intro K hK
 refine gR 6 rfl <| qBeZ 174 175 rfl rfl rfl rfl h (fun h => ?_) fun h => ?_
 exact gR 1 rfl <| gJ (h K hK) [0, 1] [0] rfl hK pq2 ⟨⟨_, rfl, rfl, rfl, (vM _ a).symm⟩, (pqo1 rfl rfl)⟩ rfl
 exact gR 1 rfl <| gJ (h K hK) [0, 1] [0] rfl hK pq3 ⟨⟨_, rfl, rfl, rfl, (vM _ a).symm⟩, (pqo1 rfl rfl)⟩ rfl
theorem oM (m : Nat) (b : List Int) (i : List UInt8) (p1 : Tree) (e : List Int) (j : List UInt8) (h : ∃ k, p1.kids[0]? = some k ∧ ∃ c l, aA b i k c l ∧ ∃ n, p1.leads[0]? = some n ∧ ∃ d o, an c l n p1.text d o ∧ ∃ p, p1.kids[1]? = some p ∧ ∃ a g, aA d o p a g ∧ a = e ∧ g = j) : kU (m + 1) b i p1 e j := by
 intro K hK
 refine gR 5 rfl ?_
 obtain ⟨k, hxt14_1, h⟩ := h
 refine gY (az (aj hxt14_1) ab rfl rfl rfl rfl) rfl rfl <| gR 1 rfl ?_
 obtain ⟨c, l, hs90, h⟩ := h
 refine gCZ hs90 [0, 1] ⟨⟨_, rfl, ⟨rfl, rfl, (vM _ b).symm⟩⟩, ⟨⟨_, rfl, ⟨rfl, ar.rfl⟩⟩, trivial⟩⟩ ?_
 refine gHR 3 (List.map (V.int .u8) c) rfl (vM _ c) rfl <| gR 3 rfl <| gDs [] 8 8 rfl (by kernel_rfl) (by kernel_rfl) <| gDr [(0, 2), (1, 2), (2, 2)] (by kernel_rfl) rfl rfl ?_
 obtain ⟨n, hxs14_4, h⟩ := h
 refine gYd 3 rfl (by kernel_rfl) (az (mapget (f := V.str) hxs14_4) ab rfl rfl rfl rfl) rfl rfl <| gDr [(4, 2), (5, 0), (6, 0)] (by kernel_rfl) rfl rfl ?_
 obtain ⟨d, o, hs91, h⟩ := h
 refine gDCZ 7 hs91 [0, 3] rfl ⟨⟨_, rfl, ⟨rfl, rfl, (vM _ c).symm⟩⟩, ⟨⟨_, rfl, ⟨rfl, ar.rfl⟩⟩, trivial⟩⟩ ?_
 refine gHR 5 (List.map (V.int .u8) d) rfl (vM _ d) rfl <| gDe (by kernel_rfl) <| gR 5 rfl ?_
 obtain ⟨p, hxt14_7, h⟩ := h
 refine gY (az (aj hxt14_7) ab rfl rfl rfl rfl) rfl rfl <| gR 1 rfl ?_
 obtain ⟨a, g, hs92, h⟩ := h
 refine gCZ hs92 [0, 5] ⟨⟨_, rfl, ⟨rfl, rfl, (vM _ d).symm⟩⟩, ⟨⟨_, rfl, ⟨rfl, ar.rfl⟩⟩, trivial⟩⟩ ?_
 refine gHR 7 (List.map (V.int .u8) a) rfl (vM _ a) rfl <| gR 2 rfl ?_
 obtain ⟨rfl, rfl⟩ := h
 exact go_sub (F' := (mkF 216 0 [])) (H' := ⟨2, [(1, .row 5 1 (List.map (V.int .u8) a)), (0, vD g)]⟩) [0, 7] [0] rfl hK trivial ⟨⟨_, rfl, rfl, rfl, (vM _ a).symm⟩, (pqo1 rfl rfl)⟩ rfl <| go_endD [] ab (rs := []) rfl rfl ⟨rfl, rfl⟩
theorem kl (m : Nat) (a : List Int) (d : List UInt8) (p1 : Tree) (c : List Int) (e : List UInt8) (h : ((p1.kind = 22) → ll m a d p1 c e) ∧ ((p1.kind ≠ 22) → ∃ i, p1.leads[0]? = some i ∧ ∃ j, nk p1 j ∧ ∃ b g, an a d i j b g ∧ b = c ∧ g = e)) : gA (m + 1) a d p1 c e := by
 intro K hK
 refine gR 6 rfl <| qBeZ 196 197 rfl rfl rfl rfl h (fun h => ?_) fun h => ?_
 exact gR 1 rfl <| gJ (h K hK) [0, 1] [0] rfl hK pq2 ⟨⟨_, rfl, rfl, rfl, (vM _ a).symm⟩, (pqo1 rfl rfl)⟩ rfl
 refine gR 1 rfl <| gDs [] 8 8 rfl (by kernel_rfl) (by kernel_rfl) <| gDr [(0, 2), (1, 2), (2, 2)] (by kernel_rfl) rfl rfl ?_
 obtain ⟨i, hxs15_1, h⟩ := h
 refine gYd 3 rfl (by kernel_rfl) (az (mapget (f := V.str) hxs15_1) ab rfl rfl rfl rfl) rfl rfl <| gDr [(4, 2), (5, 0)] (by kernel_rfl) rfl rfl ?_
 obtain ⟨j, hs93, h⟩ := h
 refine bW 6 hs93 (by kernel_rfl) rfl (by kernel_rfl) rfl rfl .rfl rfl rfl ?_
 obtain ⟨b, g, hs94, h⟩ := h
 refine gDCZ 7 hs94 [0, 1] rfl ⟨⟨_, rfl, ⟨rfl, rfl, (vM _ a).symm⟩⟩, ⟨⟨_, rfl, ⟨rfl, ar.rfl⟩⟩, trivial⟩⟩ ?_
 refine gHR 3 (List.map (V.int .u8) b) rfl (vM _ b) rfl <| gDe (by kernel_rfl) <| gR 1 rfl ?_
 obtain ⟨rfl, rfl⟩ := h
 exact go_sub (F' := (mkF 216 0 [])) (H' := ⟨2, [(1, .row 5 1 (List.map (V.int .u8) b)), (0, vD g)]⟩) [0, 3] [0] rfl hK trivial ⟨⟨_, rfl, rfl, rfl, (vM _ b).symm⟩, (pqo1 rfl rfl)⟩ rfl <| go_endD [] ab (rs := []) rfl rfl ⟨rfl, rfl⟩
theorem oY (m : Nat) (b : List Int) (i : List UInt8) (p1 : Tree) (e : List Int) (j : List UInt8) (h : ∃ k, p1.leads[0]? = some k ∧ ∃ c l, an b i k [40] c l ∧ ∃ n, p1.kids[0]? = some n ∧ ∃ d o, aA c l n d o ∧ ∃ p, p1.leads[1]? = some p ∧ ∃ a g, an d o p [41] a g ∧ a = e ∧ g = j) : ll (m + 1) b i p1 e j := by
 intro K hK
 refine gR 5 rfl ?_
 obtain ⟨k, hxs16_1, h⟩ := h
 refine gY (az (mapget (f := V.str) hxs16_1) ab rfl rfl rfl rfl) rfl rfl <| gR 1 rfl ?_
 obtain ⟨c, l, hs95, h⟩ := h
 refine gCZ hs95 [0, 1] ⟨⟨_, rfl, ⟨rfl, rfl, (vM _ b).symm⟩⟩, ⟨⟨_, rfl, ⟨rfl, ar.rfl⟩⟩, trivial⟩⟩ ?_
 refine gHR 3 (List.map (V.int .u8) c) rfl (vM _ c) rfl <| gR 7 rfl ?_
 obtain ⟨n, hxt16_4, h⟩ := h
 refine gY (az (aj hxt16_4) ab rfl rfl rfl rfl) rfl rfl <| gR 1 rfl ?_
 obtain ⟨d, o, hs96, h⟩ := h
 refine gCZ hs96 [0, 3] ⟨⟨_, rfl, ⟨rfl, rfl, (vM _ c).symm⟩⟩, ⟨⟨_, rfl, ⟨rfl, ar.rfl⟩⟩, trivial⟩⟩ ?_
 refine gHR 5 (List.map (V.int .u8) d) rfl (vM _ d) rfl <| gR 6 rfl ?_
 obtain ⟨p, hxs16_7, h⟩ := h
 refine gY (az (mapget (f := V.str) hxs16_7) ab rfl rfl rfl rfl) rfl rfl <| gR 1 rfl ?_
 obtain ⟨a, g, hs97, h⟩ := h
 refine gCZ hs97 [0, 5] ⟨⟨_, rfl, ⟨rfl, rfl, (vM _ d).symm⟩⟩, ⟨⟨_, rfl, ⟨rfl, ar.rfl⟩⟩, trivial⟩⟩ ?_
 refine gHR 7 (List.map (V.int .u8) a) rfl (vM _ a) rfl <| gR 2 rfl ?_
 obtain ⟨rfl, rfl⟩ := h
 exact go_sub (F' := (mkF 216 0 [])) (H' := ⟨2, [(1, .row 5 1 (List.map (V.int .u8) a)), (0, vD g)]⟩) [0, 7] [0] rfl hK trivial ⟨⟨_, rfl, rfl, rfl, (vM _ a).symm⟩, (pqo1 rfl rfl)⟩ rfl <| go_endD [] ab (rs := []) rfl rfl ⟨rfl, rfl⟩
def ja (m : Nat) (a : List Int) (c : List UInt8) (p1 : Tree) (b : List Int) (d : List UInt8) : Prop := ∀ (K : Ctx), av K [0] → qLG K Tryz.f85 (fun u G => u = .tup [] ∧ G = ⟨2, [(1, .row 5 1 (List.map (V.int .u8) b)), (0, vD d)]⟩) (xI (cK (xA (ac Tryz.f85)))) [.blk 0] 161 (mkF 161 0 [(0, .ptr 0 0), (3, .box (ai p1) 0)]) ⟨2, [(1, .row 5 1 (List.map (V.int .u8) a)), (0, vD c)]⟩
def je (m : Nat) (a : List Int) (c : List UInt8) (p1 : Tree) (b : List Int) (d : List UInt8) : Prop := ∀ (K : Ctx), av K [0] → qLG K Tryz.f85 (fun u G => u = .tup [] ∧ G = ⟨2, [(1, .row 5 1 (List.map (V.int .u8) b)), (0, vD d)]⟩) (xB (cK (xA (ac Tryz.f85)))) [.blk 0] 161 (mkF 161 0 [(0, .ptr 0 0), (3, .box (ai p1) 0), (8, .int .i64 p1.kind)]) ⟨2, [(1, .row 5 1 (List.map (V.int .u8) a)), (0, vD c)]⟩
def cy (m : Nat) (p1 : Tree) (c : List Int) (d : List UInt8) (e : Nat) (a : List Int) (b : List UInt8) : Prop := ∀ (K : Ctx) (j1 : Nat), av K [0] → m ≤ j1 → qLG K Tryz.f85 (fun u G => u = .tup [] ∧ G = ⟨2, [(1, .row 5 1 (List.map (V.int .u8) a)), (0, vD b)]⟩) (xL (xI (cK (xA (ac Tryz.f85))))) [.loop (xL (xI (cK (xA (ac Tryz.f85))))) j1, .blk 1, .seq (xH (xI (cK (xA (ac Tryz.f85))))), .blk 0] 161 (mkF 161 0 [(0, .ptr 0 0), (3, .box (ai p1) 0), (26, .row 4 (kidsV p1.kids)), (27, .int .i64 (p1.kids.length : Int)), (28, .int .i64 (e : Int))]) ⟨2, [(1, .row 5 1 (List.map (V.int .u8) c)), (0, vD d)]⟩
def jb (m : Nat) (a : List Int) (c : List UInt8) (p1 : Tree) (b : List Int) (d : List UInt8) : Prop := ∀ (K : Ctx), av K [0] → qLG K Tryz.f85 (fun u G => u = .tup [] ∧ G = ⟨2, [(1, .row 5 1 (List.map (V.int .u8) b)), (0, vD d)]⟩) (xI (xB (cK (xA (ac Tryz.f85))))) [.blk 0] 161 (mkF 161 0 [(0, .ptr 0 0), (3, .box (ai p1) 0)]) ⟨2, [(1, .row 5 1 (List.map (V.int .u8) a)), (0, vD c)]⟩
def iV (m : Nat) (a : List Int) (c : List UInt8) (p1 : Tree) (b : List Int) (d : List UInt8) : Prop := ∀ (K : Ctx), av K [0] → qLG K Tryz.f85 (fun u G => u = .tup [] ∧ G = ⟨2, [(1, .row 5 1 (List.map (V.int .u8) b)), (0, vD d)]⟩) (xC (cK (xA (ac Tryz.f85)))) [.blk 0] 161 (mkF 161 0 [(0, .ptr 0 0), (3, .box (ai p1) 0), (8, .int .i64 p1.kind)]) ⟨2, [(1, .row 5 1 (List.map (V.int .u8) a)), (0, vD c)]⟩
def iP (m : Nat) (a : List Int) (c : List UInt8) (p1 : Tree) (b : List Int) (d : List UInt8) : Prop := ∀ (K : Ctx), av K [0] → qLG K Tryz.f85 (fun u G => u = .tup [] ∧ G = ⟨2, [(1, .row 5 1 (List.map (V.int .u8) b)), (0, vD d)]⟩) (xI (xC (cK (xA (ac Tryz.f85))))) [.blk 0] 161 (mkF 161 0 [(0, .ptr 0 0), (3, .box (ai p1) 0)]) ⟨2, [(1, .row 5 1 (List.map (V.int .u8) a)), (0, vD c)]⟩
def jg (m : Nat) (a : List Int) (c : List UInt8) (p1 : Tree) (b : List Int) (d : List UInt8) : Prop := ∀ (K : Ctx), av K [0] → qLG K Tryz.f85 (fun u G => u = .tup [] ∧ G = ⟨2, [(1, .row 5 1 (List.map (V.int .u8) b)), (0, vD d)]⟩) (xC (xB (cK (xA (ac Tryz.f85))))) [.blk 0] 161 (mkF 161 0 [(0, .ptr 0 0), (3, .box (ai p1) 0), (8, .int .i64 p1.kind)]) ⟨2, [(1, .row 5 1 (List.map (V.int .u8) a)), (0, vD c)]⟩
def iU (m : Nat) (a : List Int) (c : List UInt8) (p1 : Tree) (b : List Int) (d : List UInt8) : Prop := ∀ (K : Ctx), av K [0] → qLG K Tryz.f85 (fun u G => u = .tup [] ∧ G = ⟨2, [(1, .row 5 1 (List.map (V.int .u8) b)), (0, vD d)]⟩) (xI (xC (xB (cK (xA (ac Tryz.f85)))))) [.blk 0] 161 (mkF 161 0 [(0, .ptr 0 0), (3, .box (ai p1) 0)]) ⟨2, [(1, .row 5 1 (List.map (V.int .u8) a)), (0, vD c)]⟩
theorem ds (m : Nat) (a : List Int) (c : List UInt8) (p1 : Tree) (b : List Int) (d : List UInt8) (h : ((p1.kind = 1) → ja m a c p1 b d) ∧ ((p1.kind ≠ 1) → je m a c p1 b d)) : fi a c p1 b d := by
 refine am 161 [0] Tryz.func85 rfl rfl rfl (aM rfl) fun K hK => ?_
 refine gR 3 rfl <| gFP 2 rfl rfl rfl rfl <| gR 15 rfl <| qBeZ 9 10 rfl rfl rfl rfl h (fun h => ?_) fun h => ?_
 exact gR 1 rfl <| gJ (h K hK) [0, 1] [0] rfl hK pq2 ⟨⟨_, rfl, rfl, rfl, (vM _ a).symm⟩, (pqo1 rfl rfl)⟩ rfl
 exact gR 1 rfl <| gJ (h K hK) [0, 1] [0] rfl hK pq3 ⟨⟨_, rfl, rfl, rfl, (vM _ a).symm⟩, (pqo1 rfl rfl)⟩ rfl
theorem nt (m : Nat) (a : List Int) (e : List UInt8) (p1 : Tree) (b : List Int) (g : List UInt8) (h : ∃ i, p1.leads[0]? = some i ∧ ∃ c j, an a e i [109, 111, 100, 117, 108, 101] c j ∧ ∃ k, p1.leads[1]? = some k ∧ ∃ d l, an c j k p1.text d l ∧ cy m p1 d l 0 b g) : ja (m + 1) a e p1 b g := by
 intro K hK
 refine gR 5 rfl ?_
 obtain ⟨i, hxs1_1, h⟩ := h
 refine gY (az (mapget (f := V.str) hxs1_1) ab rfl rfl rfl rfl) rfl rfl <| gR 1 rfl ?_
 obtain ⟨c, j, hs45, h⟩ := h
 refine gCZ hs45 [0, 1] ⟨⟨_, rfl, ⟨rfl, rfl, (vM _ a).symm⟩⟩, ⟨⟨_, rfl, ⟨rfl, ar.rfl⟩⟩, trivial⟩⟩ ?_
 refine gHR 3 (List.map (V.int .u8) c) rfl (vM _ c) rfl <| gR 3 rfl <| gDs [] 8 8 rfl (by kernel_rfl) (by kernel_rfl) <| gDr [(0, 2), (1, 2), (2, 2)] (by kernel_rfl) rfl rfl ?_
 obtain ⟨k, hxs1_4, h⟩ := h
 refine gYd 3 rfl (by kernel_rfl) (az (mapget (f := V.str) hxs1_4) ab rfl rfl rfl rfl) rfl rfl <| gDr [(4, 2), (5, 0), (6, 0)] (by kernel_rfl) rfl rfl ?_
 obtain ⟨d, l, hs46, h⟩ := h
 refine gDCZ 7 hs46 [0, 3] rfl ⟨⟨_, rfl, ⟨rfl, rfl, (vM _ c).symm⟩⟩, ⟨⟨_, rfl, ⟨rfl, ar.rfl⟩⟩, trivial⟩⟩ ?_
 exact gHR 5 (List.map (V.int .u8) d) rfl (vM _ d) rfl <| gDe (by kernel_rfl) <| gR 7 rfl <| gV 27 (.int .i64 (p1.kids.length : Int)) rfl (bx (aG _)) rfl <| gLB 26 rfl (aG _) fun hl47 => gR 4 rfl <| go_loop m <| gJ (h K _ hK (by omega)) [0, 5] [0] rfl hK pq5 ⟨⟨_, rfl, rfl, rfl, (vM _ d).symm⟩, (pqo1 rfl rfl)⟩ rfl
theorem eh (m : Nat) (a : List Int) (c : List UInt8) (p1 : Tree) (b : List Int) (d : List UInt8) (h : ((p1.kind = 2) → jb m a c p1 b d) ∧ ((p1.kind ≠ 2) → iV m a c p1 b d)) : je (m + 1) a c p1 b d := by
 intro K hK
 refine gR 6 rfl <| qBeZ 44 45 rfl rfl rfl rfl h (fun h => ?_) fun h => ?_
 exact gR 1 rfl <| gJ (h K hK) [0, 1] [0] rfl hK pq2 ⟨⟨_, rfl, rfl, rfl, (vM _ a).symm⟩, (pqo1 rfl rfl)⟩ rfl
 exact gR 1 rfl <| gJ (h K hK) [0, 1] [0] rfl hK pq3 ⟨⟨_, rfl, rfl, rfl, (vM _ a).symm⟩, (pqo1 rfl rfl)⟩ rfl
theorem iE (m : Nat) (p1 : Tree) (g : List Int) (k : List UInt8) (b : Nat) (a : List Int) (c : List UInt8) (h : ((b < p1.kids.length) → ∃ l, p1.kids[b]? = some l ∧ ∃ e n, aA g k l e n ∧ b + 1 ≤ 9223372036854775807 ∧ cy m p1 e n (b + 1) a c) ∧ ((¬ b < p1.kids.length) → ∃ o, p1.leads[2]? = some o ∧ ∃ p q d i, df g k o p q d i ∧ d = a ∧ i = c)) : cy (m + 1) p1 g k b a c := by
 intro K j1 hK hj1
 obtain ⟨j1, rfl⟩ : ∃ j, j1 = j + 1 := ⟨j1 - 1, by omega⟩
 refine gR 6 rfl <| gB 29 rfl rfl rfl ?_ ?_ <;> intro hd
 replace hd := (fg hd)
 replace h := h.1 hd
 refine gR 7 rfl ?_
 obtain ⟨l, hxt3_1, h⟩ := h
 refine gY (az (aj hxt3_1) ab rfl rfl rfl rfl) rfl rfl <| gR 8 rfl ?_
 obtain ⟨e, n, hs48, h⟩ := h
 refine gCZ hs48 [0, 1] ⟨⟨_, rfl, ⟨rfl, rfl, (vM _ g).symm⟩⟩, ⟨⟨_, rfl, ⟨rfl, ar.rfl⟩⟩, trivial⟩⟩ ?_
 refine gHR 4 (List.map (V.int .u8) e) rfl (vM _ e) rfl <| gR 4 rfl ?_
 obtain ⟨hb, h⟩ := h
 exact gR 1 rfl <| gV 35 (.int .i64 ((b + 1 : Nat) : Int)) rfl (ax (by omega) (by omega)) rfl <| gR 2 rfl <| go_xloop <| gJ (h K _ hK (by omega)) [0, 4] [0] rfl hK pq5 ⟨⟨_, rfl, rfl, rfl, (vM _ e).symm⟩, (pqo1 rfl rfl)⟩ rfl
 replace hd := (fc hd)
 replace h := h.2 hd
 refine gR 3 rfl <| go_xloopE <| gR 2 rfl <| gDs [] 8 8 rfl (by kernel_rfl) (by kernel_rfl) <| gDr [(0, 2), (1, 2), (2, 2), (3, 0), (4, 0)] (by kernel_rfl) rfl rfl ?_
 obtain ⟨o, hxs3_4, h⟩ := h
 refine bA 5 rfl (by kernel_rfl) (az (mapget (f := V.str) hxs3_4) ab rfl rfl rfl rfl) rfl rfl ?_
 refine gDr [(6, 0)] (by kernel_rfl) rfl rfl ?_
 obtain ⟨p, q, d, i, hs49, h⟩ := h
 refine gDCZ 7 hs49 [0, 1] rfl ⟨⟨_, rfl, ⟨rfl, rfl, (vM _ g).symm⟩⟩, ⟨⟨_, rfl, ⟨rfl, ar.rfl⟩⟩, trivial⟩⟩ ?_
 refine gHR 3 (List.map (V.int .u8) d) rfl (vM _ d) rfl <| gDe (by kernel_rfl) <| gR 1 rfl ?_
 obtain ⟨rfl, rfl⟩ := h
 exact go_sub (F' := (mkF 161 0 [])) (H' := ⟨2, [(1, .row 5 1 (List.map (V.int .u8) d)), (0, vD i)]⟩) [0, 3] [0] rfl hK trivial ⟨⟨_, rfl, rfl, rfl, (vM _ d).symm⟩, (pqo1 rfl rfl)⟩ rfl <| go_endD [] ab (rs := []) rfl rfl ⟨rfl, rfl⟩
theorem nr (m : Nat) (c : List Int) (t : List UInt8) (p1 : Tree) (k : List Int) (v : List UInt8) (h : ∃ ζ, p1.leads[0]? = some ζ ∧ ∃ l η, an c t ζ [100, 101, 102] l η ∧ ∃ θ, p1.leads[1]? = some θ ∧ ∃ n ι, an l η θ p1.text n ι ∧ ∃ κ, p1.leads[2]? = some κ ∧ ∃ o μ, an n ι κ [40] o μ ∧ ∃ j, ((p1.kids.length : Int) - 2) = ((j : Nat) : Int) ∧ j ≤ p1.kids.length ∧ ∃ d w, S_syntax_printer_list o μ p1 (p1.kids.take j) 6 d w ∧ ∃ x, p1.leads[3]? = some x ∧ ∃ e y, an d w x [41] e y ∧ ∃ z, p1.leads[4]? = some z ∧ ∃ a p, an e y z [58] a p ∧ ∃ q, ((p1.kids.length : Int) - 2) = ((q : Nat) : Int) ∧ ∃ α, p1.kids[q]? = some α ∧ ∃ g β, aA a p α g β ∧ ∃ γ, p1.leads[5]? = some γ ∧ ∃ i δ, an g β γ [61] i δ ∧ ∃ r, ((p1.kids.length : Int) - 1) = ((r : Nat) : Int) ∧ ∃ ε, p1.kids[r]? = some ε ∧ ∃ b s, aA i δ ε b s ∧ b = k ∧ s = v) : jb (m + 1) c t p1 k v := by
 intro K hK
 refine gR 5 rfl <| gV 48 (.int .i64 (p1.kids.length : Int)) rfl (bx (aG _)) rfl <| gLB 47 rfl (aG _) fun hl50 => gR 8 rfl ?_
 obtain ⟨ζ, hxs4_1, h⟩ := h
 refine gY (az (mapget (f := V.str) hxs4_1) ab rfl rfl rfl rfl) rfl rfl <| gR 1 rfl ?_
 obtain ⟨l, η, hs51, h⟩ := h
 refine gCZ hs51 [0, 1] ⟨⟨_, rfl, ⟨rfl, rfl, (vM _ c).symm⟩⟩, ⟨⟨_, rfl, ⟨rfl, ar.rfl⟩⟩, trivial⟩⟩ ?_
 refine gHR 3 (List.map (V.int .u8) l) rfl (vM _ l) rfl <| gR 3 rfl <| gDs [] 8 8 rfl (by kernel_rfl) (by kernel_rfl) <| gDr [(0, 2), (1, 2), (2, 2)] (by kernel_rfl) rfl rfl ?_
 obtain ⟨θ, hxs4_4, h⟩ := h
 refine gYd 3 rfl (by kernel_rfl) (az (mapget (f := V.str) hxs4_4) ab rfl rfl rfl rfl) rfl rfl <| gDr [(4, 2), (5, 0), (6, 0)] (by kernel_rfl) rfl rfl ?_
 obtain ⟨n, ι, hs52, h⟩ := h
 refine gDCZ 7 hs52 [0, 3] rfl ⟨⟨_, rfl, ⟨rfl, rfl, (vM _ l).symm⟩⟩, ⟨⟨_, rfl, ⟨rfl, ar.rfl⟩⟩, trivial⟩⟩ ?_
 refine gHR 5 (List.map (V.int .u8) n) rfl (vM _ n) rfl <| gDe (by kernel_rfl) <| gR 6 rfl ?_
 obtain ⟨κ, hxs4_7, h⟩ := h
 refine gY (az (mapget (f := V.str) hxs4_7) ab rfl rfl rfl rfl) rfl rfl <| gR 1 rfl ?_
 obtain ⟨o, μ, hs53, h⟩ := h
 refine gCZ hs53 [0, 5] ⟨⟨_, rfl, ⟨rfl, rfl, (vM _ n).symm⟩⟩, ⟨⟨_, rfl, ⟨rfl, ar.rfl⟩⟩, trivial⟩⟩ ?_
 refine gHR 7 (List.map (V.int .u8) o) rfl (vM _ o) rfl <| gR 3 rfl <| gDs [] 8 8 rfl (by kernel_rfl) (by kernel_rfl) <| gDr [(0, 2), (1, 2), (2, 2), (3, 2), (4, 0), (5, 0)] (by kernel_rfl) rfl rfl <| gV 74 (.int .i64 ((p1.kids.length : Int) - 2)) rfl (ax (by have := hl50; omega) rfl) rfl ?_
 obtain ⟨j, ν, h⟩ := h
 refine gV 74 (.int .i64 ((j : Nat) : Int)) rfl (fP ν) rfl ?_
 obtain ⟨hb', h⟩ := h
 refine bA 6 rfl (by kernel_rfl) (Ed (aG p1.kids) ab rfl rfl EG (En rfl) (Nat.zero_le _) hb' (((GA _ _ _).trans (congrArg _ (Ca _ _))))) rfl rfl ?_
 obtain ⟨d, w, hs54, h⟩ := h
 refine gDCZ 7 hs54 [0, 7] rfl ⟨⟨_, rfl, ⟨rfl, rfl, (vM _ o).symm⟩⟩, ⟨⟨_, rfl, ⟨rfl, ar.rfl⟩⟩, trivial⟩⟩ ?_
 refine gHR 9 (List.map (V.int .u8) d) rfl (vM _ d) rfl <| gDe (by kernel_rfl) <| gR 6 rfl ?_
 obtain ⟨x, hxs4_13, h⟩ := h
 refine gY (az (mapget (f := V.str) hxs4_13) ab rfl rfl rfl rfl) rfl rfl <| gR 1 rfl ?_
 obtain ⟨e, y, hs55, h⟩ := h
 refine gCZ hs55 [0, 9] ⟨⟨_, rfl, ⟨rfl, rfl, (vM _ d).symm⟩⟩, ⟨⟨_, rfl, ⟨rfl, ar.rfl⟩⟩, trivial⟩⟩ ?_
 refine gHR 11 (List.map (V.int .u8) e) rfl (vM _ e) rfl <| gR 7 rfl ?_
 obtain ⟨z, hxs4_16, h⟩ := h
 refine gY (az (mapget (f := V.str) hxs4_16) ab rfl rfl rfl rfl) rfl rfl <| gR 1 rfl ?_
 obtain ⟨a, p, hs56, h⟩ := h
 refine gCZ hs56 [0, 11] ⟨⟨_, rfl, ⟨rfl, rfl, (vM _ e).symm⟩⟩, ⟨⟨_, rfl, ⟨rfl, ar.rfl⟩⟩, trivial⟩⟩ ?_
 refine gHR 13 (List.map (V.int .u8) a) rfl (vM _ a) rfl <| gR 2 rfl <| go_sub (F' := (mkF 161 0 [(0, .ptr 0 0), (3, .box (ai p1) 0), (6, .int .i64 (p1.kids.length : Int))])) (H' := ⟨2, [(1, .row 5 1 (List.map (V.int .u8) a)), (0, vD p)]⟩) [0, 13] [0] rfl hK pq3 ⟨⟨_, rfl, rfl, rfl, (vM _ a).symm⟩, (pqo1 rfl rfl)⟩ rfl <| gR 7 rfl <| gV 93 (.int .i64 ((p1.kids.length : Int) - 2)) rfl (ax (by have := hl50; omega) rfl) rfl ?_
 obtain ⟨q, ξ, h⟩ := h
 refine gV 93 (.int .i64 ((q : Nat) : Int)) rfl (fP ξ) rfl ?_
 obtain ⟨α, hxt4_20, h⟩ := h
 refine gY (az (aj hxt4_20) ab rfl rfl rfl rfl) rfl rfl <| gR 1 rfl ?_
 obtain ⟨g, β, hs57, h⟩ := h
 refine gCZ hs57 [0, 1] ⟨⟨_, rfl, ⟨rfl, rfl, (vM _ a).symm⟩⟩, ⟨⟨_, rfl, ⟨rfl, ar.rfl⟩⟩, trivial⟩⟩ ?_
 refine gHR 3 (List.map (V.int .u8) g) rfl (vM _ g) rfl <| gR 7 rfl ?_
 obtain ⟨γ, hxs4_23, h⟩ := h
 refine gY (az (mapget (f := V.str) hxs4_23) ab rfl rfl rfl rfl) rfl rfl <| gR 1 rfl ?_
 obtain ⟨i, δ, hs58, h⟩ := h
 refine gCZ hs58 [0, 3] ⟨⟨_, rfl, ⟨rfl, rfl, (vM _ g).symm⟩⟩, ⟨⟨_, rfl, ⟨rfl, ar.rfl⟩⟩, trivial⟩⟩ ?_
 refine gHR 5 (List.map (V.int .u8) i) rfl (vM _ i) rfl <| gR 8 rfl <| gV 107 (.int .i64 ((p1.kids.length : Int) - 1)) rfl (ax (by have := hl50; omega) rfl) rfl ?_
 obtain ⟨r, ο, h⟩ := h
 refine gV 107 (.int .i64 ((r : Nat) : Int)) rfl (fP ο) rfl ?_
 obtain ⟨ε, hxt4_27, h⟩ := h
 refine gY (az (aj hxt4_27) ab rfl rfl rfl rfl) rfl rfl <| gR 1 rfl ?_
 obtain ⟨b, s, hs59, h⟩ := h
 refine gCZ hs59 [0, 5] ⟨⟨_, rfl, ⟨rfl, rfl, (vM _ i).symm⟩⟩, ⟨⟨_, rfl, ⟨rfl, ar.rfl⟩⟩, trivial⟩⟩ ?_
 refine gHR 7 (List.map (V.int .u8) b) rfl (vM _ b) rfl <| gR 2 rfl ?_
 obtain ⟨rfl, rfl⟩ := h
 exact go_sub (F' := (mkF 161 0 [])) (H' := ⟨2, [(1, .row 5 1 (List.map (V.int .u8) b)), (0, vD s)]⟩) [0, 7] [0] rfl hK trivial ⟨⟨_, rfl, rfl, rfl, (vM _ b).symm⟩, (pqo1 rfl rfl)⟩ rfl <| go_endD [] ab (rs := []) rfl rfl ⟨rfl, rfl⟩
theorem iC (m : Nat) (a : List Int) (c : List UInt8) (p1 : Tree) (b : List Int) (d : List UInt8) (h : ((p1.kind = 3) → iP m a c p1 b d) ∧ ((p1.kind ≠ 3) → jg m a c p1 b d)) : iV (m + 1) a c p1 b d := by
 intro K hK
 refine gR 6 rfl <| qBeZ 111 112 rfl rfl rfl rfl h (fun h => ?_) fun h => ?_
 exact gR 1 rfl <| gJ (h K hK) [0, 1] [0] rfl hK pq2 ⟨⟨_, rfl, rfl, rfl, (vM _ a).symm⟩, (pqo1 rfl rfl)⟩ rfl
 exact gR 1 rfl <| gJ (h K hK) [0, 1] [0] rfl hK pq3 ⟨⟨_, rfl, rfl, rfl, (vM _ a).symm⟩, (pqo1 rfl rfl)⟩ rfl
theorem nw (m : Nat) (b : List Int) (j : List UInt8) (p1 : Tree) (c : List Int) (k : List UInt8) (h : ∃ n, p1.leads[0]? = some n ∧ ∃ d o, an b j n [116, 121, 112, 101] d o ∧ ∃ p, p1.leads[1]? = some p ∧ ∃ e q, an d o p p1.text e q ∧ ∃ r, p1.leads[2]? = some r ∧ ∃ g s, an e q r [61] g s ∧ ∃ l, p1.kids[0]? = some l ∧ ∃ a i, aA g s l a i ∧ a = c ∧ i = k) : iP (m + 1) b j p1 c k := by
 intro K hK
 refine gR 5 rfl ?_
 obtain ⟨n, hxs6_1, h⟩ := h
 refine gY (az (mapget (f := V.str) hxs6_1) ab rfl rfl rfl rfl) rfl rfl <| gR 1 rfl ?_
 obtain ⟨d, o, hs60, h⟩ := h
 refine gCZ hs60 [0, 1] ⟨⟨_, rfl, ⟨rfl, rfl, (vM _ b).symm⟩⟩, ⟨⟨_, rfl, ⟨rfl, ar.rfl⟩⟩, trivial⟩⟩ ?_
 refine gHR 3 (List.map (V.int .u8) d) rfl (vM _ d) rfl <| gR 3 rfl <| gDs [] 8 8 rfl (by kernel_rfl) (by kernel_rfl) <| gDr [(0, 2), (1, 2), (2, 2)] (by kernel_rfl) rfl rfl ?_
 obtain ⟨p, hxs6_4, h⟩ := h
 refine gYd 3 rfl (by kernel_rfl) (az (mapget (f := V.str) hxs6_4) ab rfl rfl rfl rfl) rfl rfl <| gDr [(4, 2), (5, 0), (6, 0)] (by kernel_rfl) rfl rfl ?_
 obtain ⟨e, q, hs61, h⟩ := h
 refine gDCZ 7 hs61 [0, 3] rfl ⟨⟨_, rfl, ⟨rfl, rfl, (vM _ d).symm⟩⟩, ⟨⟨_, rfl, ⟨rfl, ar.rfl⟩⟩, trivial⟩⟩ ?_
 refine gHR 5 (List.map (V.int .u8) e) rfl (vM _ e) rfl <| gDe (by kernel_rfl) <| gR 6 rfl ?_
 obtain ⟨r, hxs6_7, h⟩ := h
 refine gY (az (mapget (f := V.str) hxs6_7) ab rfl rfl rfl rfl) rfl rfl <| gR 1 rfl ?_
 obtain ⟨g, s, hs62, h⟩ := h
 refine gCZ hs62 [0, 5] ⟨⟨_, rfl, ⟨rfl, rfl, (vM _ e).symm⟩⟩, ⟨⟨_, rfl, ⟨rfl, ar.rfl⟩⟩, trivial⟩⟩ ?_
 refine gHR 7 (List.map (V.int .u8) g) rfl (vM _ g) rfl <| gR 6 rfl ?_
 obtain ⟨l, hxt6_10, h⟩ := h
 refine gY (az (aj hxt6_10) ab rfl rfl rfl rfl) rfl rfl <| gR 1 rfl ?_
 obtain ⟨a, i, hs63, h⟩ := h
 refine gCZ hs63 [0, 7] ⟨⟨_, rfl, ⟨rfl, rfl, (vM _ g).symm⟩⟩, ⟨⟨_, rfl, ⟨rfl, ar.rfl⟩⟩, trivial⟩⟩ ?_
 refine gHR 9 (List.map (V.int .u8) a) rfl (vM _ a) rfl <| gR 2 rfl ?_
 obtain ⟨rfl, rfl⟩ := h
 exact go_sub (F' := (mkF 161 0 [])) (H' := ⟨2, [(1, .row 5 1 (List.map (V.int .u8) a)), (0, vD i)]⟩) [0, 9] [0] rfl hK trivial ⟨⟨_, rfl, rfl, rfl, (vM _ a).symm⟩, (pqo1 rfl rfl)⟩ rfl <| go_endD [] ab (rs := []) rfl rfl ⟨rfl, rfl⟩
theorem nu (m : Nat) (a : List Int) (b : List UInt8) (p1 : Tree) (c : List Int) (d : List UInt8) (h : ((p1.kind = 4) → iU m a b p1 c d) ∧ ((p1.kind ≠ 4) → a = c ∧ b = d)) : jg (m + 1) a b p1 c d := by
 intro K hK
 refine gR 6 rfl <| qBeZ 139 140 rfl rfl rfl rfl h (fun h => ?_) fun h => ?_
 exact gR 1 rfl <| gJ (h K hK) [0, 1] [0] rfl hK pq2 ⟨⟨_, rfl, rfl, rfl, (vM _ a).symm⟩, (pqo1 rfl rfl)⟩ rfl
 refine gR 3 rfl ?_
 obtain ⟨rfl, rfl⟩ := h
 exact go_sub (F' := (mkF 161 0 [])) (H' := ⟨2, [(1, .row 5 1 (List.map (V.int .u8) a)), (0, vD b)]⟩) [0, 1] [0] rfl hK trivial ⟨⟨_, rfl, rfl, rfl, (vM _ a).symm⟩, (pqo1 rfl rfl)⟩ rfl <| go_endD [] ab (rs := []) rfl rfl ⟨rfl, rfl⟩
theorem nv (m : Nat) (a : List Int) (g : List UInt8) (p1 : Tree) (c : List Int) (i : List UInt8) (h : ∃ k, p1.leads[0]? = some k ∧ ∃ d l, an a g k p1.text d l ∧ ∃ n, p1.leads[1]? = some n ∧ ∃ e o, an d l n [58] e o ∧ ∃ p, p1.kids[0]? = some p ∧ ∃ b j, aA e o p b j ∧ b = c ∧ j = i) : iU (m + 1) a g p1 c i := by
 intro K hK
 refine gR 1 rfl <| gDs [] 8 8 rfl (by kernel_rfl) (by kernel_rfl) <| gDr [(0, 2), (1, 2), (2, 2)] (by kernel_rfl) rfl rfl ?_
 obtain ⟨k, hxs8_1, h⟩ := h
 refine gYd 3 rfl (by kernel_rfl) (az (mapget (f := V.str) hxs8_1) ab rfl rfl rfl rfl) rfl rfl <| gDr [(4, 2), (5, 0), (6, 0)] (by kernel_rfl) rfl rfl ?_
 obtain ⟨d, l, hs64, h⟩ := h
 refine gDCZ 7 hs64 [0, 1] rfl ⟨⟨_, rfl, ⟨rfl, rfl, (vM _ a).symm⟩⟩, ⟨⟨_, rfl, ⟨rfl, ar.rfl⟩⟩, trivial⟩⟩ ?_
 refine gHR 3 (List.map (V.int .u8) d) rfl (vM _ d) rfl <| gDe (by kernel_rfl) <| gR 6 rfl ?_
 obtain ⟨n, hxs8_4, h⟩ := h
 refine gY (az (mapget (f := V.str) hxs8_4) ab rfl rfl rfl rfl) rfl rfl <| gR 1 rfl ?_
 obtain ⟨e, o, hs65, h⟩ := h
 refine gCZ hs65 [0, 3] ⟨⟨_, rfl, ⟨rfl, rfl, (vM _ d).symm⟩⟩, ⟨⟨_, rfl, ⟨rfl, ar.rfl⟩⟩, trivial⟩⟩ ?_
 refine gHR 5 (List.map (V.int .u8) e) rfl (vM _ e) rfl <| gR 6 rfl ?_
 obtain ⟨p, hxt8_7, h⟩ := h
 refine gY (az (aj hxt8_7) ab rfl rfl rfl rfl) rfl rfl <| gR 1 rfl ?_
 obtain ⟨b, j, hs66, h⟩ := h
 refine gCZ hs66 [0, 5] ⟨⟨_, rfl, ⟨rfl, rfl, (vM _ e).symm⟩⟩, ⟨⟨_, rfl, ⟨rfl, ar.rfl⟩⟩, trivial⟩⟩ ?_
 refine gHR 7 (List.map (V.int .u8) b) rfl (vM _ b) rfl <| gR 2 rfl ?_
 obtain ⟨rfl, rfl⟩ := h
 exact go_sub (F' := (mkF 161 0 [])) (H' := ⟨2, [(1, .row 5 1 (List.map (V.int .u8) b)), (0, vD j)]⟩) [0, 7] [0] rfl hK trivial ⟨⟨_, rfl, rfl, rfl, (vM _ b).symm⟩, (pqo1 rfl rfl)⟩ rfl <| go_endD [] ab (rs := []) rfl rfl ⟨rfl, rfl⟩
theorem qC (m : Nat) (p0 : Tree) (r0 : List UInt8) (h : ∃ a b, aA ([] : List Int) [] p0 a b ∧ ∃ c, kf a b c ∧ c = r0) : mb p0 r0 := by
 refine ⟨rfl, rfl, ?_⟩
 refine am 8 [] Tryz.func29 rfl rfl rfl (aM rfl) fun K hK => ?_
 refine gR 3 rfl <| gFP 0 rfl rfl rfl rfl <| gR 11 rfl <| gNC 1 1 5 1 rfl rfl rfl rfl ?_
 obtain ⟨a, b, hs3, h⟩ := h
 refine gCZ hs3 [1, 2] ⟨⟨_, rfl, ⟨rfl, rfl, rfl⟩⟩, ⟨⟨_, rfl, ⟨rfl, (.cons (.np0 _) (.cons .rfl (.cons .rfl .nil)))⟩⟩, trivial⟩⟩ ?_
 refine gHR 4 (List.map (V.int .u8) a) rfl (vM _ a) rfl <| gR 5 rfl ?_
 obtain ⟨c, hs4, h⟩ := h
 refine gCZ hs4 [1, 4] ⟨⟨_, rfl, ⟨rfl, rfl, (vM _ a).symm⟩⟩, ⟨⟨_, rfl, ⟨rfl, ar.rfl⟩⟩, trivial⟩⟩ ?_
 refine gR 4 rfl ?_
 subst h
 exact go_end ab (rs := [.tmp 2]) rfl rfl rfl
theorem AR : (Tryz.prog.info? 77).map (·.size) = some 2 := by kernel_rfl
theorem BO : (Tryz.prog.info? 5).map (fun i => (i.zero, i.size, i.bytes)) = some (some (.int .u8 0), 1, 1) := by kernel_rfl
theorem AD : Tryz.prog.cellsOf 5 = 1 := by kernel_rfl
theorem Fg : liesAt Tryz.prog Tryz.prog.depth 79 (3 / Tryz.prog.cellsOf 79) 0 77 1 = true := by kernel_rfl
abbrev PrB (b : Nat) (p v : Value) (last : List UInt8) (w : World) : Prop := w.heap[b]? = some (.cells #[p, v, .string ⟨last.toArray⟩] 79 (0, 0))
abbrev Buf (v : Value) (l : List UInt8) (w : World) : Prop := w.ownsRow 0 5 1 v l.length (Lib.byteCells l)
theorem tI {w : World} {b : Nat} {o : Obj} (h : w.heap[b]? = some o) : b < w.heap.size := by
 rcases Nat.lt_or_ge b w.heap.size with h' | h'
 ·exact h'
 ·simp [Array.getElem?_eq_none h'] at h
set_option maxHeartbeats 1000000 in
theorem uV (b : Nat) (w : World) (h0 : w.cell? ⟨b, 0, none⟩ = some (.pointer (some ⟨b, 0, none⟩))) :
  Calls Tryz.prog 125 #[.pointer (some ⟨b, 0, none⟩)] w fun e w' => e = .returned (.tuple #[]) ∧ w = w' := by
 obtain ⟨j, hj, _⟩ := Option.map_eq_some_iff.1 AR
 go_enter Tryz.func125, Tryz.ntmps125
 go_wp2
 rw [Lib.run_neq_ptr_same w _ Tryz.underlying74 hj]
 go_wp2
 go_end0
 exact ⟨rfl, rfl⟩
set_option maxHeartbeats 1000000 in
theorem uB (b : Nat) (w : World) (h0 : w.cell? ⟨b, 0, none⟩ = some (.pointer none)) (hsh : w.shape? b = some (79, 3)) (hfz : w.frozen? ⟨b, 0, none⟩ = false) :
  Calls Tryz.prog 125 #[.pointer (some ⟨b, 0, none⟩)] w fun e w' => e = .returned (.tuple #[]) ∧ w' = w.setCell ⟨b, 0, none⟩ (.pointer (some ⟨b, 0, none⟩)) := by
 obtain ⟨j, hj, hjs⟩ := Option.map_eq_some_iff.1 AR
 go_enter Tryz.func125, Tryz.ntmps125
 go_wp2
 rw [Lib.run_to_unsafe w ⟨b, 0, none⟩ Tryz.underlying74 Tryz.underlying118 hj (by rw [hjs]; decide) hsh (Nat.succ_pos _)]
 simp only [Result.andThen]
 rw [Oper.upon_value]
 go_wp2
 rw [run_callFunc_extern Tryz.func130 (by kernel_rfl) (by kernel_rfl) (by kernel_rfl) (e := Extern.AbiNoEscape.same) (by kernel_rfl)]
 rw [Lib.run_noEscape]
 simp only [Result.andThen]
 rw [Oper.upon_value]
 go_wp2
 rw [Lib.run_from_unsafe w ⟨b, 0, none⟩ Tryz.underlying118 Tryz.underlying74 hj hsh Fg]
 simp only [Result.andThen]
 rw [Oper.upon_value]
 go_wp2
 go_end0
 exact ⟨rfl, rfl⟩
theorem AV (w : World) (b i : Nat) (u : Value) : ChgP (· = b) w (w.setCell ⟨b, i, none⟩ u) := ⟨rfl, rfl, rfl, by simp [World.setCell], fun k _ hk => Below.heap_setCell _ _ _ _ hk⟩
theorem Ba {w : World} {b i : Nat} {u v : Value} {l : List UInt8} (h : Buf v l w) (hne : v.ownBlock ≠ some b) : Buf v l (w.setCell ⟨b, i, none⟩ u) :=
 h.kept (row := some b) ⟨rfl, rfl, rfl, by simp [World.setCell], fun k _ hk => Below.heap_setCell _ _ _ _ (fun e => hk (by simp [e]))⟩ (Or.inr hne)
theorem zO {b : Nat} {p v : Value} {last l : List UInt8} {w : World} (hp : p = .pointer none ∨ p = .pointer (some ⟨b, 0, none⟩)) (hbk : PrB b p v last w) (hown : Buf v l w) :
  Calls Tryz.prog 125 #[.pointer (some ⟨b, 0, none⟩)] w fun e w' => e = .returned (.tuple #[]) ∧ PrB b (.pointer (some ⟨b, 0, none⟩)) v last w' ∧ Buf v l w' ∧ ChgP (· = b) w w' := by
 have hc0 : w.cell? ⟨b, 0, none⟩ = some p := by rw [Lib.cell_of_heap hbk]; rfl
 have hne : v.ownBlock ≠ some b := Lib.ownBlock_ne hown hbk (by decide)
 rcases hp with rfl | rfl
 ·refine (uB b w hc0 (by simp [World.shape?, hbk]) (Lib.frozen_of_heap hbk 0)).mono ?_
  rintro e w' ⟨rfl, rfl⟩
  exact ⟨rfl, by simp [PrB, World.setCell, Array.getElem?_modify, hbk], Ba hown hne, AV _ _ _ _⟩
 ·refine (uV b w hc0).mono ?_
  rintro e w' ⟨rfl, rfl⟩
  exact ⟨rfl, hbk, hown, ChgP.refl _ _⟩
section
open Go.Lib
variable {P : Program}
theorem ze (w : World) (t u ty e : TypeId) (i : TypeInfo) (ht : P.underlying t = some (.slice e)) (hu : P.underlying u = some .string) (hi : P.info? e = some i) (hz : i.zero = some (.int .u8 0)) (hsize : i.size = 1) (hby : i.bytes = 1)
  (v : Value) (n : Nat) (xs : List Value) (hown : w.ownsRow 0 e 1 v n xs) (s : ByteArray) (h63 : n + s.size ≤ maxLen) (hbytes : n + s.size ≤ 140737488355328) :
  ∃ v' w', (Builtin.append_ #[t, u] ty #[v, .string s]).run P w = .ok v' w' ∧ w'.ownsRow 0 e 1 v' (n + s.size) (xs ++ strCells s) ∧ w.grownBy w' v.ownBlock ∧ ∀ g, v'.ownBlock = some g → v.ownBlock = some g ∨ w.heap.size ≤ g := by
 obtain ⟨v', w', hr, h2, h3, h4⟩ := run_append_own_string (P := P) w 0 t u ty e i ht hu hi hz hsize hby v n xs hown s h63 hbytes (Nat.zero_le _)
 refine ⟨v', w', hr, h2, h3, fun g hg => ?_⟩
 have hxl : xs.length = n := by simpa using hown.1
 rcases hown.2 with ⟨rfl, rfl⟩ | ⟨g0, cap, cur, rfl, hbg, hgh, hnc, hcm, hcs, htake⟩
 ·by_cases hm : s.size = 0
  ·have := h4.2 ⟨rfl, hm⟩
   subst this; cases hg
  ·rw [run_append_nil_string (P := P) w t u ty e i (.int .u8 0) ht hu hi hz s (by omega) (by omega) (by rw [hby]; omega)] at hr
   cases hr; cases hg; exact .inr (Nat.le_refl _)
 ·by_cases hroom : n + s.size ≤ cap
  ·rw [run_append_room_string (P := P) w t u ty e i ht hu hi hsize g0 n cap cur hgh s hroom (by simp at hcs; omega)] at hr
   cases hr; exact .inl hg
  ·rw [run_append_grow_string (P := P) w t u ty e i (.int .u8 0) ht hu hi hz ⟨g0, 0, none⟩ n cap xs (by rw [hsize]; simpa using hxl) (hown.cells (g := g0) rfl) s (by omega) (by omega) (by rw [hby]; exact growslice_fits (by omega) (by omega))] at hr
   cases hr; cases hg; exact .inr (Nat.le_refl _)
theorem xY {w : World} {ops : Array Oper} {rest : List Oper} {o : Oper} {a : Act} {Q : Exit → Act → World → Prop} (hgd : o.guard = none) (sl x : Operand) (t u : TypeId)
  (ho : o.op = .call { callee := .builtin .append, args := #[sl, x], argTypes := #[t, u] })
  (e : TypeId) (i : TypeInfo) (ht : P.underlying t = some (.slice e)) (hu : P.underlying u = some .string) (hi : P.info? e = some i) (hz : i.zero = some (.int .u8 0)) (hsize : i.size = 1) (hby : i.bytes = 1)
  (v : Value) (n : Nat) (xs : List Value) (hs : a.eval sl = v) (hown : w.ownsRow 0 e 1 v n xs) (s : ByteArray) (hx : a.eval x = .string s)
  (h63 : n + s.size ≤ maxLen) (hbytes : n + s.size ≤ 140737488355328)
  (h : ∀ v' w', w'.ownsRow 0 e 1 v' (n + s.size) (xs ++ strCells s) → w.grownBy w' v.ownBlock → (∀ g, v'.ownBlock = some g → v.ownBlock = some g ∨ w.heap.size ≤ g) → wpList P ops Q rest (a.put o.dst v') w') : wpList P ops Q (o :: rest) a w := by
 refine wpList_plain hgd fun K hK => ?_
 obtain ⟨v', w', hr, h2, h3, h4⟩ := ze w t u o.type e i ht hu hi hz hsize hby v n xs hown s h63 hbytes
 unfold Oper.wp execOp
 simp only [ho, resolve, invoke, builtin, Sem.run_bind, Sem.run_pure, Result.andThen_ok, List.map_toArray, List.map_cons, List.map_nil, hs, hx, hr]
 exact hK _ _ (h v' w' h2 h3 h4)
end
set_option maxHeartbeats 2000000 in
theorem xv {b : Nat} {p v : Value} {last l s : List UInt8} {w : World} (hp : p = .pointer none ∨ p = .pointer (some ⟨b, 0, none⟩)) (hbk0 : PrB b p v last w) (hown0 : Buf v l w) (hlen : l.length + s.length ≤ 140737488355328) :
  Calls Tryz.prog 110 #[.pointer (some ⟨b, 0, none⟩), .string ⟨s.toArray⟩] w fun e w' => e = .returned (.tuple #[.int .i64 s.length, .nilIface]) ∧ ∃ v', PrB b (.pointer (some ⟨b, 0, none⟩)) v' last w' ∧ Buf v' (l ++ s) w' ∧ (∀ g, v'.ownBlock = some g → v.ownBlock = some g ∨ w.heap.size ≤ g) ∧ ChgP (fun k => k = b ∨ v.ownBlock = some k) w w' := by
 obtain ⟨i0, hi, hz0, hz1, hz2⟩ := qg BO
 have HB := Lib.hid hbk0
 have HO := Lib.hid hown0
 clear hbk0 hown0
 go_enter Tryz.func110, Tryz.ntmps110
 go_wp2_with (go_at_call 125; refine (zO (l := l) hp HB.out HO.out).mono ?_)
 rintro e w1 ⟨rfl, hbk, hown, hc1⟩
 have hne : v.ownBlock ≠ some b := Lib.ownBlock_ne hown hbk (by decide)
 have HBk := Lib.hid hbk
 have HC := Lib.hid hc1; clear hc1
 have c1 : w1.cell? ⟨b, 1, none⟩ = some v := by rw [Lib.cell_of_heap hbk]; rfl
 clear hbk
 go_wp2_with (at_builtin; refine xY rfl _ _ 75 9 rfl 5 i0 Tryz.underlying75 Tryz.underlying9 hi hz0 hz1 hz2 _ _ _ rfl hown ⟨s.toArray⟩ rfl ?c3 ?c4 ?_)
 case c3 => unfold maxLen; simp only [List.size_toArray, ByteArray.size]; omega
 case c4 => simp only [List.size_toArray, ByteArray.size]; omega
 intro v' w2 hown' hgrow hnew
 have hlt : b < w1.heap.size := tI HBk.out
 have hb2 : PrB b (.pointer (some ⟨b, 0, none⟩)) v last w2 := by
  show w2.heap[b]? = _
  rw [hgrow.block b hlt (fun e => hne e.symm)]
  exact HBk.out
 have d1 : w2.cell? ⟨b, 1, none⟩ = some v := by rw [Lib.cell_of_heap hb2]; rfl
 have f1 : w2.frozen? ⟨b, 1, none⟩ = false := Lib.frozen_of_heap hb2 1
 have hown2 : Buf v' (l ++ s) w2 := by
  have e1 : Lib.byteCells (l ++ s) = Lib.byteCells l ++ Lib.strCells ⟨s.toArray⟩ := by simp [Lib.byteCells, Lib.strCells]
  show w2.ownsRow _ _ _ _ (l ++ s).length (Lib.byteCells (l ++ s))
  rw [e1, List.length_append]; exact hown'
 obtain ⟨ao, n', cap, hv'⟩ : ∃ ao n' cap, v' = .slice ao n' cap := by
  rcases hown'.2 with ⟨hv, _⟩ | ⟨g, cap, cur, hv, _⟩
  ·exact ⟨_, _, _, hv⟩
  ·exact ⟨_, _, _, hv⟩
 subst hv'
 have hne2 := Lib.ownBlock_ne hown2 hb2 (by decide)
 have HG := Lib.hid hgrow
 have HN := Lib.hid hnew
 have HO2 := Lib.hid hown2
 have HB2 := Lib.hid hb2
 clear hgrow hown hown' hown2 hb2 hnew
 go_wp2
 go_ret2
 refine ⟨by simp, .slice ao n' cap, by simp [PrB, World.setCell, Array.getElem?_modify, HB2.out], Ba HO2.out hne2, fun g hg => ?_, ?_⟩
 ·rcases HN.out g hg with h | h
  ·exact .inl h
  ·exact .inr (Nat.le_trans HC.out.size h)
 ·have h1 : ChgP (fun k => k = b ∨ v.ownBlock = some k) w w1 := HC.out.mono fun k e => .inl e
  have h2 : ChgP (fun k => k = b ∨ v.ownBlock = some k) w1 w2 := ⟨HG.out.os, HG.out.tape, HG.out.output, HG.out.size, fun k hk hn => HG.out.block k hk fun e => hn (.inr e.symm)⟩
  exact (h1.trans h2 fun k e => .inl e).trans ((AV w2 b 1 _).mono fun k e => .inl e) fun k e => .inl e
theorem sv (X : Nat → Prop) (w : World) : ChgP X w w.drew := ⟨rfl, rfl, rfl, Nat.le_refl _, fun _ _ _ => rfl⟩
theorem Cn (X : Nat → Prop) (w : World) (o : Obj) : ChgP X w (w.alloc o) := ⟨rfl, rfl, rfl, by simp, fun k hk _ => Below.heap_alloc _ _ _ hk⟩
theorem Aw (w : World) (g n : Nat) : ChgP (· = g) w (w.freeze ⟨g, 0, none⟩ n) := by
 unfold World.freeze
 split
 ·exact ChgP.refl _ _
 ·exact ⟨rfl, rfl, rfl, by simp, fun k hk hn => by
   simp only [Array.getElem?_modify]
   rw [if_neg (fun e => hn e.symm)]⟩
theorem sK (W : World) (q : Option Addr) : (Builtin.unsafeString_ #[100, 3] 9 #[.pointer q, .int .i64 0]).run Tryz.prog W = .ok (.string .empty) W :=
 Lib.run_unsafeString_none W _ _ _ q
set_option maxHeartbeats 2000000 in
theorem uP {b : Nat} {p v : Value} {last l : List UInt8} {w : World} (hbk : PrB b p v last w) (hown : Buf v l w) :
  Calls Tryz.prog 57 #[.pointer (some ⟨b, 0, none⟩)] w fun e w' => e = .returned (.string ⟨l.toArray⟩) ∧ ChgP (fun k => k = b ∨ v.ownBlock = some k) w w' := by
 have hlt : b < w.heap.size := tI hbk
 by_cases h0 : l = []
 ·subst h0
  have hUS := sK
  rcases hown.2 with ⟨rfl, _⟩ | ⟨g, cap, cur, rfl, hbg, hg, _⟩
  ·have c1 : w.drew.cell? ⟨b, 1, none⟩ = some (.slice none 0 0) := by
    have : w.drew.heap[b]? = some (.cells #[p, .slice none 0 0, .string ⟨last.toArray⟩] 79 (0, 0)) := hbk
    rw [Lib.cell_of_heap this]; rfl
   have hSD : (Builtin.unsafeSliceData_ #[75] 100 #[.slice none 0 0]).run Tryz.prog w.drew = .ok (.pointer none) w.drew := rfl
   clear hbk hown
   go_enter Tryz.func57, Tryz.ntmps57
   go_wp2
   go_region
   all_goals (go_wp2; go_ret; exact ⟨rfl, sv _ w⟩)
  ·by_cases hc0 : cap = 0
   ·subst hc0
    have c1 : w.drew.cell? ⟨b, 1, none⟩ = some (.slice (some ⟨g, 0, none⟩) 0 0) := by
     have : w.drew.heap[b]? = some (.cells #[p, .slice (some ⟨g, 0, none⟩) 0 0, .string ⟨last.toArray⟩] 79 (0, 0)) := hbk
     rw [Lib.cell_of_heap this]; rfl
    have hSD : (Builtin.unsafeSliceData_ #[75] 100 #[.slice (some ⟨g, 0, none⟩) 0 0]).run Tryz.prog w.drew = .ok (.pointer (some ⟨w.drew.heap.size, 0, none⟩)) (w.drew.alloc (.view ⟨g, 0, none⟩ 5)) :=
     Lib.run_unsafeSliceData_zero w.drew _ _ 5 Tryz.underlying100 ⟨g, 0, none⟩ 0 (5, cur.size) (by have hg' : w.drew.heap[g]? = some (.cells cur 5 (0, 0)) := hg; simp [World.shape?, hg'])
    have c2 : (w.drew.alloc (.view ⟨g, 0, none⟩ 5)).cell? ⟨b, 1, none⟩ = some (.slice (some ⟨g, 0, none⟩) 0 0) := by
     have : (w.drew.alloc (.view ⟨g, 0, none⟩ 5)).heap[b]? = _ := (Below.heap_alloc w.drew _ b hlt).trans hbk
     rw [Lib.cell_of_heap this]; rfl
    have c3 : (w.alloc (.view ⟨g, 0, none⟩ 5)).drew.cell? ⟨b, 1, none⟩ = some (.slice (some ⟨g, 0, none⟩) 0 0) := c2
    have c0 : w.cell? ⟨b, 1, none⟩ = some (.slice (some ⟨g, 0, none⟩) 0 0) := c1
    clear hbk hown hg
    go_enter Tryz.func57, Tryz.ntmps57
    go_wp2
    go_region
    all_goals (go_wp2; go_ret; exact ⟨rfl, (sv _ w).trans (Cn _ _ _) fun _ e => .inl e⟩)
   ·have c1 : w.drew.cell? ⟨b, 1, none⟩ = some (.slice (some ⟨g, 0, none⟩) 0 cap) := by
     have : w.drew.heap[b]? = some (.cells #[p, .slice (some ⟨g, 0, none⟩) 0 cap, .string ⟨last.toArray⟩] 79 (0, 0)) := hbk
     rw [Lib.cell_of_heap this]; rfl
    have hSD : (Builtin.unsafeSliceData_ #[75] 100 #[.slice (some ⟨g, 0, none⟩) 0 cap]).run Tryz.prog w.drew = .ok (.pointer (some ⟨g, 0, none⟩)) w.drew :=
     Lib.run_unsafeSliceData_row _ _ _ _ _ _ hc0
    clear hbk hown hg hc0
    go_enter Tryz.func57, Tryz.ntmps57
    go_wp2
    go_region
    all_goals (go_wp2; go_ret; exact ⟨rfl, sv _ w⟩)
 ·have hl0 : l.length ≠ 0 := by simpa using h0
  obtain ⟨g, cap, cur, rfl, hbg, hg, hnc, hcm, hcs, htake⟩ : ∃ g cap cur, v = .slice (some ⟨g, 0, none⟩) l.length cap ∧ 0 ≤ g ∧ w.heap[g]? = some (.cells cur 5 (0, 0)) ∧ l.length ≤ cap ∧ cap ≤ maxLen ∧ cur.size = cap * 1 ∧ cur.toList.take (l.length * 1) = Lib.byteCells l := by
   rcases hown.2 with ⟨_, hz⟩ | ⟨g, cap, cur, hv, r⟩
   ·exact absurd hz hl0
   ·exact ⟨g, cap, cur, hv, r⟩
  have c1 : w.drew.cell? ⟨b, 1, none⟩ = some (.slice (some ⟨g, 0, none⟩) l.length cap) := by
   have : w.drew.heap[b]? = some (.cells #[p, .slice (some ⟨g, 0, none⟩) l.length cap, .string ⟨last.toArray⟩] 79 (0, 0)) := hbk
   rw [Lib.cell_of_heap this]; rfl
  have hSD : (Builtin.unsafeSliceData_ #[75] 100 #[.slice (some ⟨g, 0, none⟩) l.length cap]).run Tryz.prog w.drew = .ok (.pointer (some ⟨g, 0, none⟩)) w.drew :=
   Lib.run_unsafeSliceData_row _ _ _ _ _ _ (by omega)
  have hUS : (Builtin.unsafeString_ #[100, 3] 9 #[.pointer (some ⟨g, 0, none⟩), .int .i64 l.length]).run Tryz.prog w.drew = .ok (.string ⟨l.toArray⟩) (w.drew.freeze ⟨g, 0, none⟩ l.length) := by
   refine Lib.run_unsafeString_row w.drew 100 3 9 5 Tryz.underlying100 AD g cur.size (by have hg' : w.drew.heap[g]? = some (.cells cur 5 (0, 0)) := hg; simp [World.shape?, hg']) l h0 (by omega) (by unfold maxLen at hcm; omega) ?_
   intro j x hx
   have := hown.cells (g := g) rfl j (.int .u8 x.toNat) (by simp [Lib.byteCells, hx])
   exact this
  clear hbk hown hg htake hcs
  go_enter Tryz.func57, Tryz.ntmps57
  go_wp2
  go_region
  all_goals (go_wp2; go_ret; exact ⟨rfl, (sv _ w).trans ((Aw _ g _).mono fun k e => .inr (by rw [e]; rfl)) fun _ e => .inl e⟩)
end Go.Proofs.YtaoiaeohojfdgaaGreat
