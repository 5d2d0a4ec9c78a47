/- Contracts of the functions that the law reaches, part 3. -/
import Derived.Test.YtaoiaeohojfdgaaGreatBc2
set_option linter.unusedVariables false
set_option linter.unusedSimpArgs false
namespace Go.Proofs.YtaoiaeohojfdgaaGreat
open Go.RowKit Lx Sx
set_option maxRecDepth 100000
set_option maxHeartbeats 4000000
structure aa where
 Lead : (List UInt8)
 Text : (List UInt8)
abbrev aa.c (x : aa) : List V := [.str x.Lead, .str x.Text]
abbrev aa.w (x : aa) : V := .agg x.c
abbrev vC (a0 : List Int) (a1 : Int) : Ob := .var 86 [.row 1 (List.map (V.int .i64) a0), .int .i64 a1]
abbrev vB (a0 : Int) (a1 : List UInt8) : Ob := .var 25 [.int .i64 a0, .str a1, .nils, .nils]
abbrev vE (a0 : Int) (a1 : List UInt8) (a2 : List (List UInt8)) (a3 : List Tree) : Ob := .var 25 [.int .i64 a0, .str a1, .row 1 (List.map V.str a2), .row 4 (kidsV a3)]
abbrev vF (a0 : Int) (a1 : List UInt8) : Ob := .var 25 [.int .i64 a0, .str a1, .sl 3, .sl 4]
theorem vH (σ : List Nat) (l) : renL σ (List.map V.str l) = List.map V.str l := ym σ V.str (fun _ => rfl) l
abbrev vG (a0 : Int) (a1 : List UInt8) : Ob := .var 25 [.int .i64 a0, .str a1, .sl 3, .nils]
theorem vI (σ : List Nat) (l) : renL σ (List.map aa.w l) = List.map aa.w l := ym σ aa.w (fun _ => rfl) l
def jj (p0 : List UInt8) (p1 r0 : Bool) : Prop := qS 66 [.str p0, .bool p1] (.bool r0)
def mU (p0 p1 : List UInt8) (r0 : Bool) : Prop := qS 42 [.str p0, .str p1] (.bool r0)
def lM (p0 p1 r0 : Int) : Prop := qS 59 [.int .i64 p0, .int .i64 p1] (.int .i64 r0)
def nH (p0 b : List Int) (a : Int) : Prop := bZ [] Tryz.prog 31 [.row 1 (List.map (V.int .i64) p0)] ⟨0, []⟩ (fun u G => u = .ptr 0 0 ∧ G = ⟨1, [(0, vC b a)]⟩)
def jM (p0 : List Int) (r0 : Bool) : Prop := qS 13 [.row 1 (List.map (V.int .i64) p0)] (.bool r0)
def bm (c : List Int) (a : Int) (p1 : (List (List UInt8))) (r0 : List UInt8) (d : List Int) (b : Int) : Prop := bZ [] Tryz.prog 89 [.ptr 0 0, .row 1 (List.map V.str p1)] ⟨1, [(0, vC c a)]⟩ (fun u G => u = .str r0 ∧ G = ⟨1, [(0, vC d b)]⟩)
def cM (c : List Int) (a p1 : Int) (r0 : Tree) (d : List Int) (b : Int) : Prop := bZ [] Tryz.prog 90 [.ptr 0 0, .int .i64 p1] ⟨1, [(0, vC c a)]⟩ (fun u G => u = .agg (ae r0) ∧ G = ⟨2, [(0, vC d b)]⟩)
def dZ (c : List Int) (a p1 : Int) (r0 : Tree) (d : List Int) (b : Int) : Prop := bZ [] Tryz.prog 112 [.ptr 0 0, .int .i64 p1] ⟨1, [(0, vC c a)]⟩ (fun u G => u = .agg (ae r0) ∧ G = ⟨2, [(0, vC d b)]⟩)
def aS (c : List Int) (a p1 : Int) (r0 : Tree) (d : List Int) (b : Int) : Prop := bZ [] Tryz.prog 91 [.ptr 0 0, .int .i64 p1] ⟨1, [(0, vC c a)]⟩ (fun u G => u = .agg (ae r0) ∧ G = ⟨2, [(0, vC d b)]⟩)
def lJ (c : List Int) (a : Int) (r0 : Tree) (d : List Int) (b : Int) : Prop := bZ [] Tryz.prog 60 [.ptr 0 0] ⟨1, [(0, vC c a)]⟩ (fun u G => u = .agg (ae r0) ∧ G = ⟨2, [(0, vC d b)]⟩)
def gD (c : List Int) (a : Int) (p1 r0 : Tree) (d : List Int) (b : Int) : Prop := bZ [] Tryz.prog 62 [.ptr 0 0, .agg (ae p1)] ⟨1, [(0, vC c a)]⟩ (fun u G => u = .agg (ae r0) ∧ G = ⟨2, [(0, vC d b)]⟩)
def ju (c : List Int) (a : Int) (p1 : List UInt8) (r0 : Tree) (d : List Int) (b : Int) : Prop := bZ [] Tryz.prog 33 [.ptr 0 0, .str p1] ⟨1, [(0, vC c a)]⟩ (fun u G => u = .agg (ae r0) ∧ G = ⟨2, [(0, vC d b)]⟩)
def jh (p0 : List Int) (r0 : List Tree) : Prop := qS 14 [.row 1 (List.map (V.int .i64) p0)] (.row 4 (kidsV r0))
def aJ (c : List Int) (a p1 r0 : Int) (d : List Int) (b : Int) : Prop := bZ [] Tryz.prog 32 [.ptr 0 0, .int .i64 p1] ⟨1, [(0, vC c a)]⟩ (fun u G => u = .int .i64 r0 ∧ G = ⟨1, [(0, vC d b)]⟩)
def ji (p0 : Int) (r0 : (List (List UInt8))) : Prop := bZ [] Tryz.prog 113 [.int .i64 p0] ⟨0, []⟩ (fun u G => u = .sl 0 ∧ G = ⟨1, [(0, .row 9 1 (List.map V.str r0))]⟩)
def jg (p0 : Tree) (p1 : Int) (p2 r0 : List UInt8) : Prop := qS 114 [.agg (ae p0), .int .i64 p1, .str p2] (.str r0)
def fb (p0 : Tree) (p1 : List UInt8) (r0 : Tree) : Prop := qS 92 [.agg (ae p0), .str p1] (.agg (ae r0))
def iK (p0 r0 : Tree) : Prop := qS 61 [.agg (ae p0)] (.agg (ae r0))
def dw (p0 : Tree) (r0 : Bool) : Prop := qS 7 [.agg (ae p0)] (.bool r0)
def eg (p0 : Tree) (r0 : Bool) : Prop := qS 19 [.agg (ae p0)] (.bool r0)
def gd (p0 : Tree) (r0 : Bool) : Prop := qS 40 [.agg (ae p0)] (.bool r0)
def fy (p0 : Tree) (r0 : Bool) : Prop := qS 20 [.agg (ae p0)] (.bool r0)
def ey (p0 : Tree) (r0 : Int) : Prop := qS 21 [.agg (ae p0)] (.int .i64 r0)
def jx (p0 : Tree) (r0 : List UInt8) : Prop := qS 22 [.agg (ae p0)] (.str r0)
def mC (p0 : Tree) (r0 : List aa) : Prop := qS 41 [.agg (ae p0)] (.row 2 (List.map aa.w r0))
def aj (p0 : List aa) (p1 : Tree) (r0 : List aa) : Prop := bZ [] Tryz.prog 67 [.sl 0, .agg (ae p1)] ⟨1, [(0, .row 60 2 (List.map aa.w p0))]⟩ (fun u G => u = .sl 1 ∧ G = ⟨2, [(1, .row 60 2 (List.map aa.w r0))]⟩)
def dY (p0 : List aa) (p1 : Tree) (p2 p3 p4 : Int) (r0 : List aa) : Prop := bZ [] Tryz.prog 100 [.sl 0, .agg (ae p1), .int .i64 p2, .int .i64 p3, .int .i64 p4] ⟨1, [(0, .row 60 2 (List.map aa.w p0))]⟩ (fun u G => u = .sl 1 ∧ G = ⟨2, [(1, .row 60 2 (List.map aa.w r0))]⟩)
def ai (p0 : Tree) (p1 : Int) (r0 : List UInt8) : Prop := qS 99 [.agg (ae p0), .int .i64 p1] (.str r0)
theorem nK (m : Nat) (p0 p1 r0 : Int) (h : p1 ≠ 0 ∧ (((Int.tmod p0 p1) < 0) → InI ((Int.tmod p0 p1) + p1) ∧ ((Int.tmod p0 p1) + p1) = r0) ∧ ((¬ (Int.tmod p0 p1) < 0) → (Int.tmod p0 p1) = r0)) : lM p0 p1 r0 := by
 refine ⟨rfl, rfl, ?_⟩
 refine am 14 [] Tryz.func59 rfl rfl rfl (aL rfl) fun K hK => ?_
 refine gR 9 rfl ?_
 obtain ⟨hb, h⟩ := h
 refine gY (Fn rfl rfl hb) rfl rfl <| gR 10 rfl <| qBd 9 rfl rfl rfl h (fun h => ?_) fun h => ?_
 refine gR 4 rfl ?_
 obtain ⟨hb, h⟩ := h
 refine gR 1 rfl <| gV 12 (.int .i64 ((Int.tmod p0 p1) + p1)) rfl (ax hb rfl) rfl <| gR 10 rfl ?_
 subst h
 exact go_end ab (rs := [.tmp 4]) rfl rfl rfl
 refine gR 10 rfl ?_
 subst h
 exact go_end ab (rs := [.tmp 4]) rfl rfl rfl
theorem rt (m : Nat) (p0 b : List Int) (a : Int) (h : p0.length ≤ 1000000000 ∧ p0 = b ∧ 0 = a) : nH p0 b a := by
 refine am 8 [] Tryz.func31 rfl rfl rfl (aL rfl) fun K hK => ?_
 refine gR 9 rfl ?_
 obtain ⟨hb, h⟩ := h
 refine gDo (.repl 0 (.row 3 1 (List.map (V.int .i64) p0))) (bj ab rfl rfl rfl rfl rfl (List.nil_append _) (by rw [aZ]; exact hb)) (okR rfl) rfl rfl rfl <| gR 6 rfl <| gFR 1 rfl (dn _ (fun _ => rfl) _) rfl rfl ?_
 obtain ⟨rfl, rfl⟩ := h
 exact go_sub (F' := (mkF 8 0 [(2, .ptr 0 0)])) (H' := ⟨1, [(0, vC p0 0)]⟩) [2] [] rfl hK pq1 (pqo1 rfl rfl) rfl <| go_endD [] ab (rs := [.tmp 2]) rfl rfl ⟨rfl, rfl⟩
theorem rg (m : Nat) (p0 : List Int) (r0 : Bool) (h : decide ((p0.length : Int) ≤ 120) = r0) : jM p0 r0 := by
 refine ⟨rfl, rfl, ?_⟩
 refine am 6 [] Tryz.func13 rfl rfl rfl (aL rfl) fun K hK => ?_
 refine gR 9 rfl <| gV 4 (.int .i64 (p0.length : Int)) rfl (bF (aZ (V.int .i64) _)) rfl <| gLB 3 rfl (aZ (V.int .i64) _) fun hl2 => gR 5 rfl ?_
 subst h
 exact go_end ab (rs := [.tmp 2]) rfl rfl rfl
theorem rk (m : Nat) (j : List Int) (e : Int) (p1 : (List (List UInt8))) (r0 : List UInt8) (k : List Int) (g : Int) (h : ∃ i a b, aJ j e (p1.length : Int) i a b ∧ ∃ c, i = ((c : Nat) : Int) ∧ ∃ d, p1[c]? = some d ∧ d = r0 ∧ a = k ∧ b = g) : bm j e p1 r0 k g := by
 refine am 12 [0] Tryz.func89 rfl rfl rfl (aL rfl) fun K hK => ?_
 refine gR 11 rfl <| gV 8 (.int .i64 (p1.length : Int)) rfl (bF (aZ V.str _)) rfl <| gLB 7 rfl (aZ V.str _) fun hl3 => ?_
 obtain ⟨i, a, b, hs4, h⟩ := h
 refine gCY hs4 [0] ?_
 obtain ⟨c, l, h⟩ := h
 refine gV 9 (.int .i64 ((c : Nat) : Int)) rfl (je l) rfl ?_
 obtain ⟨d, hxs0_5, h⟩ := h
 refine gY (aI (mapget (f := V.str) hxs0_5) ab rfl rfl rfl rfl) rfl rfl <| gR 5 rfl ?_
 obtain ⟨rfl, rfl, rfl⟩ := h
 exact go_sub (F' := (mkF 12 0 [(4, .str d)])) (H' := ⟨1, [(0, vC a b)]⟩) [0] [0] rfl hK pq1 (pqo1 rfl rfl) rfl <| go_endD [] ab (rs := [.tmp 4]) rfl rfl ⟨rfl, rfl⟩
def fu (m : Nat) (p1 b : Int) (c : List Int) (d : Int) (e : Bool) (r0 : Tree) (f : List Int) (a : Int) : Prop := ∀ (K : Ctx), aq K [0] → qLG K Tryz.f90 (fun u G => u = .agg (ae r0) ∧ G = ⟨2, [(0, vC f a)]⟩) (cB (xE (cA (cB (ac Tryz.f90))))) [.blk 0, .seq (xA (ac Tryz.f90))] 32 (mkF 32 0 [(0, .ptr 0 0), (1, .int .i64 p1), (4, .ptr 1 0), (6, .int .i64 b), (7, .bool e)]) ⟨2, [(1, vB 0 []), (0, vC c d)]⟩
theorem ij (m : Nat) (g : List Int) (e p1 : Int) (r0 : Tree) (f : List Int) (b : Int) (h : ∃ a c d, aJ g e 7 a c d ∧ ((a = 0) → fu m p1 a c d true r0 f b) ∧ ((a ≠ 0) → fu m p1 a c d (a == 1) r0 f b)) : cM g e p1 r0 f b := by
 refine am 32 [0] Tryz.func90 rfl rfl rfl (aL rfl) fun K hK => ?_
 refine gR 9 rfl ?_
 obtain ⟨a, c, d, hs8, h⟩ := h
 refine gCY hs8 [0] ?_
 refine gR 10 rfl <| qBeZ 7 8 rfl rfl rfl rfl h (fun h => ?_) fun h => ?_
 exact gR 3 rfl <| gJ (h K hK) [0, 1] [0] rfl hK pq5 (pqo2 rfl rfl rfl rfl) rfl
 exact gR 6 rfl <| gJ (h K hK) [0, 1] [0] rfl hK pq5 (pqo2 rfl rfl rfl rfl) rfl
theorem bz (m : Nat) (p1 e : Int) (a : List Int) (b : Int) (n : Bool) (r0 : Tree) (f : List Int) (c : Int) (h : ((n = true) → (Tree.node 5 [] [] []) = r0 ∧ a = f ∧ b = c) ∧ ((n = false) → ((e = 2) → (Tree.node 7 [] [] []) = r0 ∧ a = f ∧ b = c) ∧ ((e ≠ 2) → ((e = 3) → (Tree.node 6 [] [] []) = r0 ∧ a = f ∧ b = c) ∧ ((e ≠ 3) → ((e = 4) → ∃ g i j, bm a b [[84], [85], [65, 46, 84], [66, 46, 85]] g i j ∧ (Tree.node 9 g [] []) = r0 ∧ i = f ∧ j = c) ∧ ((e ≠ 4) → ((p1 < 1) → (Tree.node 5 [] [] []) = r0 ∧ a = f ∧ b = c) ∧ ((¬ p1 < 1) → InI (p1 - 1) ∧ ∃ d k l, cM a b (p1 - 1) d k l ∧ (Tree.node 8 [] [] [d]) = r0 ∧ k = f ∧ l = c)))))) : fu (m + 1) p1 e a b n r0 f c := by
 intro K hK
 refine qBi 7 rfl rfl rfl h (fun h => ?_) fun h => ?_
 refine gR 10 rfl ?_
 obtain ⟨rfl, rfl, rfl⟩ := h
 exact go_sub (F' := (mkF 32 0 [(4, .ptr 1 0)])) (H' := ⟨2, [(1, vE ((Tree.node 5 [] [] []).kind) ((Tree.node 5 [] [] []).text) ((Tree.node 5 [] [] []).leads) ((Tree.node 5 [] [] []).kids)), (0, vC a b)]⟩) [0, 1] [0] rfl hK pq1 ⟨⟨_, rfl, rfl, (.cons .rfl (.cons .rfl (.cons (.nil 1) (.cons (.nil 4) .nil))))⟩, (pqo1 rfl rfl)⟩ rfl <| go_endD [1] ab (rs := [.cell 4 25]) rfl rfl ⟨rfl, rfl⟩
 refine gR 7 rfl <| qBeZ 11 12 rfl rfl rfl rfl h (fun h => ?_) fun h => ?_
 refine gR 10 rfl ?_
 obtain ⟨rfl, rfl, rfl⟩ := h
 exact go_sub (F' := (mkF 32 0 [(4, .ptr 1 0)])) (H' := ⟨2, [(1, vE ((Tree.node 7 [] [] []).kind) ((Tree.node 7 [] [] []).text) ((Tree.node 7 [] [] []).leads) ((Tree.node 7 [] [] []).kids)), (0, vC a b)]⟩) [0, 1] [0] rfl hK pq1 ⟨⟨_, rfl, rfl, (.cons .rfl (.cons .rfl (.cons (.nil 1) (.cons (.nil 4) .nil))))⟩, (pqo1 rfl rfl)⟩ rfl <| go_endD [1] ab (rs := [.cell 4 25]) rfl rfl ⟨rfl, rfl⟩
 refine gR 7 rfl <| qBeZ 14 15 rfl rfl rfl rfl h (fun h => ?_) fun h => ?_
 refine gR 10 rfl ?_
 obtain ⟨rfl, rfl, rfl⟩ := h
 exact go_sub (F' := (mkF 32 0 [(4, .ptr 1 0)])) (H' := ⟨2, [(1, vE ((Tree.node 6 [] [] []).kind) ((Tree.node 6 [] [] []).text) ((Tree.node 6 [] [] []).leads) ((Tree.node 6 [] [] []).kids)), (0, vC a b)]⟩) [0, 1] [0] rfl hK pq1 ⟨⟨_, rfl, rfl, (.cons .rfl (.cons .rfl (.cons (.nil 1) (.cons (.nil 4) .nil))))⟩, (pqo1 rfl rfl)⟩ rfl <| go_endD [1] ab (rs := [.cell 4 25]) rfl rfl ⟨rfl, rfl⟩
 refine gR 7 rfl <| qBeZ 17 18 rfl rfl rfl rfl h (fun h => ?_) fun h => ?_
 refine gR 5 rfl <| gFR 2 rfl rfl rfl rfl ?_
 obtain ⟨g, i, j, hs9, h⟩ := h
 refine gCY hs9 [0] ?_
 refine gR 7 rfl ?_
 obtain ⟨rfl, rfl, rfl⟩ := h
 exact go_sub (F' := (mkF 32 0 [(4, .ptr 1 0)])) (H' := ⟨2, [(1, vE ((Tree.node 9 g [] []).kind) ((Tree.node 9 g [] []).text) ((Tree.node 9 g [] []).leads) ((Tree.node 9 g [] []).kids)), (0, vC i j)]⟩) [0, 1] [0] rfl hK pq1 ⟨⟨_, rfl, rfl, (.cons .rfl (.cons .rfl (.cons (.nil 1) (.cons (.nil 4) .nil))))⟩, (pqo1 rfl rfl)⟩ rfl <| go_endD [1] ab (rs := [.cell 4 25]) rfl rfl ⟨rfl, rfl⟩
 refine gR 11 rfl <| qBd 24 rfl rfl rfl h (fun h => ?_) fun h => ?_
 refine gR 9 rfl ?_
 obtain ⟨rfl, rfl, rfl⟩ := h
 exact go_sub (F' := (mkF 32 0 [(4, .ptr 1 0)])) (H' := ⟨2, [(1, vE ((Tree.node 5 [] [] []).kind) ((Tree.node 5 [] [] []).text) ((Tree.node 5 [] [] []).leads) ((Tree.node 5 [] [] []).kids)), (0, vC a b)]⟩) [0, 1] [0] rfl hK pq1 ⟨⟨_, rfl, rfl, (.cons .rfl (.cons .rfl (.cons (.nil 1) (.cons (.nil 4) .nil))))⟩, (pqo1 rfl rfl)⟩ rfl <| go_endD [1] ab (rs := [.cell 4 25]) rfl rfl ⟨rfl, rfl⟩
 refine gR 7 rfl ?_
 obtain ⟨hb, h⟩ := h
 refine gR 1 rfl <| gV 28 (.int .i64 (p1 - 1)) rfl (ax hb rfl) rfl ?_
 obtain ⟨d, k, l, hs10, h⟩ := h
 refine gCY hs10 [0] ?_
 refine gR 1 rfl <| gHR 4 (kidsV [d]) rfl (ct d) rfl <| gR 5 rfl <| gFR 4 rfl (ca _) rfl rfl ?_
 obtain ⟨rfl, rfl, rfl⟩ := h
 exact go_sub (F' := (mkF 32 0 [(4, .ptr 1 0)])) (H' := ⟨2, [(1, vE ((Tree.node 8 [] [] [d]).kind) ((Tree.node 8 [] [] [d]).text) ((Tree.node 8 [] [] [d]).leads) ((Tree.node 8 [] [] [d]).kids)), (0, vC k l)]⟩) [0, 1] [0] rfl hK pq1 ⟨⟨_, rfl, rfl, (.cons .rfl (.cons .rfl (.cons (.nil 1) (.cons .rfl .nil))))⟩, (pqo1 rfl rfl)⟩ rfl <| go_endD [1] ab (rs := [.cell 4 25]) rfl rfl ⟨rfl, rfl⟩
theorem nB (m : Nat) (i : List Int) (f p1 : Int) (r0 : Tree) (g : List Int) (d : Int) (h : ∃ a b c, aS i f p1 a b c ∧ ∃ e, fw a.kind e ∧ ((e = false) → (Tree.node 22 [] [] [a]) = r0 ∧ b = g ∧ c = d) ∧ ((e = true) → a = r0 ∧ b = g ∧ c = d)) : dZ i f p1 r0 g d := by
 refine am 17 [0] Tryz.func112 rfl rfl rfl (aL rfl) fun K hK => ?_
 refine gR 9 rfl ?_
 obtain ⟨a, b, c, hs3, h⟩ := h
 refine gCY hs3 [0] ?_
 refine gR 9 rfl ?_
 obtain ⟨e, hs4, h⟩ := h
 refine gC0 hs4 (by kernel_rfl) rfl rfl .rfl rfl <| gR 3 rfl <| qBh 12 rfl rfl rfl h dD dC (fun h => ?_) fun h => ?_
 refine gR 5 rfl <| gHR 5 (kidsV [a]) rfl (ct a) rfl <| gR 6 rfl <| gFR 5 rfl (ca _) rfl rfl ?_
 obtain ⟨rfl, rfl, rfl⟩ := h
 exact go_sub (F' := (mkF 17 0 [(4, .ptr 1 0)])) (H' := ⟨2, [(1, vE ((Tree.node 22 [] [] [a]).kind) ((Tree.node 22 [] [] [a]).text) ((Tree.node 22 [] [] [a]).leads) ((Tree.node 22 [] [] [a]).kids)), (0, vC b c)]⟩) [0, 1] [0] rfl hK pq1 ⟨⟨_, rfl, rfl, (.cons .rfl (.cons .rfl (.cons (.nil 1) (.cons .rfl .nil))))⟩, (pqo1 rfl rfl)⟩ rfl <| go_endD [1] ab (rs := [.cell 4 25]) rfl rfl ⟨rfl, rfl⟩
 refine gR 10 rfl ?_
 obtain ⟨rfl, rfl, rfl⟩ := h
 exact go_sub (F' := (mkF 17 0 [(4, .ptr 1 0)])) (H' := ⟨2, [(1, vE a.kind a.text a.leads a.kids), (0, vC b c)]⟩) [0, 1] [0] rfl hK pq1 (pqo2 rfl rfl rfl rfl) rfl <| go_endD [1] ab (rs := [.cell 4 25]) rfl rfl ⟨rfl, rfl⟩
def cG (m : Nat) (p1 : Int) (b : List Int) (c d : Int) (r0 : Tree) (e : List Int) (a : Int) : Prop := ∀ (K : Ctx), aq K [0] → qLG K Tryz.f91 (fun u G => u = .agg (ae r0) ∧ G = ⟨2, [(0, vC e a)]⟩) (xH (ac Tryz.f91)) [] 168 (mkF 168 0 [(0, .ptr 0 0), (1, .int .i64 p1), (4, .ptr 1 0), (5, .int .i64 d)]) ⟨2, [(1, vB 0 []), (0, vC b c)]⟩
def jY (m : Nat) (p1 : Int) (b : List Int) (c d : Int) (e : Bool) (r0 : Tree) (f : List Int) (a : Int) : Prop := ∀ (K : Ctx), aq K [0] → qLG K Tryz.f91 (fun u G => u = .agg (ae r0) ∧ G = ⟨2, [(0, vC f a)]⟩) (cB (xG (cB (ac Tryz.f91)))) [.blk 0, .seq (xJ (ac Tryz.f91))] 168 (mkF 168 0 [(0, .ptr 0 0), (1, .int .i64 p1), (4, .ptr 1 0), (24, .int .i64 d), (25, .bool e)]) ⟨2, [(1, vB 0 []), (0, vC b c)]⟩
def gy (m : Nat) (p1 : Int) (b : List Int) (c d : Int) (r0 : Tree) (e : List Int) (a : Int) : Prop := ∀ (K : Ctx), aq K [0] → qLG K Tryz.f91 (fun u G => u = .agg (ae r0) ∧ G = ⟨2, [(0, vC e a)]⟩) (xN (cB (ac Tryz.f91))) [.blk 0, .seq (xJ (ac Tryz.f91))] 168 (mkF 168 0 [(0, .ptr 0 0), (1, .int .i64 p1), (4, .ptr 1 0), (24, .int .i64 d)]) ⟨2, [(1, vB 0 []), (0, vC b c)]⟩
def nA (m : Nat) (p1 : Int) (b : List Int) (c d : Int) (r0 : Tree) (e : List Int) (a : Int) : Prop := ∀ (K : Ctx), aq K [0] → qLG K Tryz.f91 (fun u G => u = .agg (ae r0) ∧ G = ⟨2, [(0, vC e a)]⟩) (xC (xG (cB (ac Tryz.f91)))) [.blk 0, .seq (xJ (ac Tryz.f91))] 168 (mkF 168 0 [(0, .ptr 0 0), (1, .int .i64 p1), (4, .ptr 1 0), (24, .int .i64 d)]) ⟨2, [(1, vB 0 []), (0, vC b c)]⟩
def nw (m : Nat) (p1 : Int) (b : List Int) (c d : Int) (r0 : Tree) (e : List Int) (a : Int) : Prop := ∀ (K : Ctx), aq K [0] → qLG K Tryz.f91 (fun u G => u = .agg (ae r0) ∧ G = ⟨2, [(0, vC e a)]⟩) (xC (xN (cB (ac Tryz.f91)))) [.blk 0, .seq (xJ (ac Tryz.f91))] 168 (mkF 168 0 [(0, .ptr 0 0), (1, .int .i64 p1), (4, .ptr 1 0), (24, .int .i64 d)]) ⟨2, [(1, vB 0 []), (0, vC b c)]⟩
def ny (m : Nat) (p1 : Int) (b : List Int) (c d : Int) (r0 : Tree) (e : List Int) (a : Int) : Prop := ∀ (K : Ctx), aq K [0] → qLG K Tryz.f91 (fun u G => u = .agg (ae r0) ∧ G = ⟨2, [(0, vC e a)]⟩) (xD (xG (cB (ac Tryz.f91)))) [.blk 0, .seq (xJ (ac Tryz.f91))] 168 (mkF 168 0 [(0, .ptr 0 0), (1, .int .i64 p1), (4, .ptr 1 0), (24, .int .i64 d)]) ⟨2, [(1, vB 0 []), (0, vC b c)]⟩
def gA (m : Nat) (p1 : Int) (b : List Int) (c d : Int) (r0 : Tree) (e : List Int) (a : Int) : Prop := ∀ (K : Ctx), aq K [0] → qLG K Tryz.f91 (fun u G => u = .agg (ae r0) ∧ G = ⟨2, [(0, vC e a)]⟩) (xD (xN (cB (ac Tryz.f91)))) [.blk 0, .seq (xJ (ac Tryz.f91))] 168 (mkF 168 0 [(0, .ptr 0 0), (1, .int .i64 p1), (4, .ptr 1 0), (24, .int .i64 d)]) ⟨2, [(1, vB 0 []), (0, vC b c)]⟩
def jW (m : Nat) (p1 : Int) (b : List Int) (c d : Int) (e : Bool) (r0 : Tree) (f : List Int) (a : Int) : Prop := ∀ (K : Ctx), aq K [0] → qLG K Tryz.f91 (fun u G => u = .agg (ae r0) ∧ G = ⟨2, [(0, vC f a)]⟩) (cB (xD (xN (cB (ac Tryz.f91))))) [.blk 0, .seq (xJ (ac Tryz.f91))] 168 (mkF 168 0 [(0, .ptr 0 0), (1, .int .i64 p1), (4, .ptr 1 0), (24, .int .i64 d), (57, .bool e)]) ⟨2, [(1, vB 0 []), (0, vC b c)]⟩
def kf (m : Nat) (p1 : Int) (b : List Int) (c : Int) (r0 : Tree) (d : List Int) (a : Int) : Prop := ∀ (K : Ctx), aq K [0] → qLG K Tryz.f91 (fun u G => u = .agg (ae r0) ∧ G = ⟨2, [(0, vC d a)]⟩) (xK (xD (xN (cB (ac Tryz.f91))))) [.blk 0, .seq (xJ (ac Tryz.f91))] 168 (mkF 168 0 [(0, .ptr 0 0), (1, .int .i64 p1), (4, .ptr 1 0)]) ⟨2, [(1, vB 0 []), (0, vC b c)]⟩
def eP (m : Nat) (p1 : Int) (b : List Int) (c d : Int) (r0 : Tree) (e : List Int) (a : Int) : Prop := ∀ (K : Ctx), aq K [0] → qLG K Tryz.f91 (fun u G => u = .agg (ae r0) ∧ G = ⟨2, [(0, vC e a)]⟩) (xD (xC (xG (cB (ac Tryz.f91))))) [.blk 0, .seq (xJ (ac Tryz.f91))] 168 (mkF 168 0 [(0, .ptr 0 0), (1, .int .i64 p1), (4, .ptr 1 0), (24, .int .i64 d)]) ⟨2, [(1, vB 0 []), (0, vC b c)]⟩
def fW (m : Nat) (p1 : Int) (f : List UInt8) (a : List Int) (b : Int) (c : List Tree) (d : Int) (r0 : Tree) (g : List Int) (e : Int) : Prop := ∀ (K : Ctx) (j1 : Nat), aq K [0] → m ≤ j1 → qLG K Tryz.f91 (fun u G => u = .agg (ae r0) ∧ G = ⟨2, [(0, vC g e)]⟩) (cL (xE (cA (cB (xK (xD (xN (cB (ac Tryz.f91))))))))) [.loop (cL (xE (cA (cB (xK (xD (xN (cB (ac Tryz.f91))))))))) j1, .blk 1, .seq (xA (xK (xD (xN (cB (ac Tryz.f91)))))), .blk 0, .seq (xJ (ac Tryz.f91))] 168 (mkF 168 0 [(0, .ptr 0 0), (1, .int .i64 p1), (4, .ptr 1 0), (6, .ptr 2 0), (7, .int .i64 d)]) ⟨4, [(3, .row 25 4 (kidsV c)), (2, .var 25 [.int .i64 16, .str f, .nils, .sl 3]), (1, vB 0 []), (0, vC a b)]⟩
def fX (m : Nat) (p1 : Int) (a : List Int) (b : Int) (c : List Tree) (d : Int) (r0 : Tree) (f : List Int) (e : Int) : Prop := ∀ (K : Ctx) (j1 : Nat), aq K [0] → m ≤ j1 → qLG K Tryz.f91 (fun u G => u = .agg (ae r0) ∧ G = ⟨2, [(0, vC f e)]⟩) (cL (xE (cA (cB (xK (xD (xC (xG (cB (ac Tryz.f91)))))))))) [.loop (cL (xE (cA (cB (xK (xD (xC (xG (cB (ac Tryz.f91)))))))))) j1, .blk 3, .seq (xA (xK (xD (xC (xG (cB (ac Tryz.f91))))))), .blk 0, .seq (xJ (ac Tryz.f91))] 168 (mkF 168 0 [(0, .ptr 0 0), (1, .int .i64 p1), (4, .ptr 1 0), (8, .ptr 2 0), (9, .int .i64 d)]) ⟨4, [(3, .row 25 4 (kidsV c)), (2, .var 25 [.int .i64 18, .str [], .nils, .sl 3]), (1, vB 0 []), (0, vC a b)]⟩
def fY (m : Nat) (p1 : Int) (b : List Int) (c d : Int) (r0 : Tree) (e : List Int) (a : Int) : Prop := ∀ (K : Ctx), aq K [0] → qLG K Tryz.f91 (fun u G => u = .agg (ae r0) ∧ G = ⟨2, [(0, vC e a)]⟩) (xD (xC (xN (cB (ac Tryz.f91))))) [.blk 0, .seq (xJ (ac Tryz.f91))] 168 (mkF 168 0 [(0, .ptr 0 0), (1, .int .i64 p1), (4, .ptr 1 0), (24, .int .i64 d)]) ⟨2, [(1, vB 0 []), (0, vC b c)]⟩
def mT (m : Nat) (p1 : Int) (b : List Int) (c : Int) (r0 : Tree) (d : List Int) (a : Int) : Prop := ∀ (K : Ctx), aq K [0] → qLG K Tryz.f91 (fun u G => u = .agg (ae r0) ∧ G = ⟨2, [(0, vC d a)]⟩) (xK (xD (xC (xN (cB (ac Tryz.f91)))))) [.blk 0, .seq (xJ (ac Tryz.f91))] 168 (mkF 168 0 [(0, .ptr 0 0), (1, .int .i64 p1), (4, .ptr 1 0)]) ⟨2, [(1, vB 0 []), (0, vC b c)]⟩
def ep (m : Nat) (p1 : Int) (b : List Int) (c d : Int) (r0 : Tree) (e : List Int) (a : Int) : Prop := ∀ (K : Ctx), aq K [0] → qLG K Tryz.f91 (fun u G => u = .agg (ae r0) ∧ G = ⟨2, [(0, vC e a)]⟩) (xL (xG (cB (ac Tryz.f91)))) [.blk 0, .seq (xJ (ac Tryz.f91))] 168 (mkF 168 0 [(0, .ptr 0 0), (1, .int .i64 p1), (4, .ptr 1 0), (24, .int .i64 d)]) ⟨2, [(1, vB 0 []), (0, vC b c)]⟩
def jv (m : Nat) (p1 : Int) (c : List Int) (d e : Int) (a : Bool) (r0 : Tree) (f : List Int) (b : Int) : Prop := ∀ (K : Ctx), aq K [0] → qLG K Tryz.f91 (fun u G => u = .agg (ae r0) ∧ G = ⟨2, [(0, vC f b)]⟩) (cB (xL (xG (cB (ac Tryz.f91))))) [.blk 0, .seq (xJ (ac Tryz.f91))] 168 (mkF 168 0 [(0, .ptr 0 0), (1, .int .i64 p1), (4, .ptr 1 0), (24, .int .i64 e), (118, .bool a)]) ⟨2, [(1, vB 0 []), (0, vC c d)]⟩
def jr (m : Nat) (p1 : Int) (b : List Int) (c : Int) (r0 : Tree) (d : List Int) (a : Int) : Prop := ∀ (K : Ctx), aq K [0] → qLG K Tryz.f91 (fun u G => u = .agg (ae r0) ∧ G = ⟨2, [(0, vC d a)]⟩) (xK (xL (xG (cB (ac Tryz.f91))))) [.blk 0, .seq (xJ (ac Tryz.f91))] 168 (mkF 168 0 [(0, .ptr 0 0), (1, .int .i64 p1), (4, .ptr 1 0)]) ⟨2, [(1, vB 0 []), (0, vC b c)]⟩
def ga (m : Nat) (p1 : Int) (b : List Int) (c d : Int) (r0 : Tree) (e : List Int) (a : Int) : Prop := ∀ (K : Ctx), aq K [0] → qLG K Tryz.f91 (fun u G => u = .agg (ae r0) ∧ G = ⟨2, [(0, vC e a)]⟩) (xL (xN (cB (ac Tryz.f91)))) [.blk 0, .seq (xJ (ac Tryz.f91))] 168 (mkF 168 0 [(0, .ptr 0 0), (1, .int .i64 p1), (4, .ptr 1 0), (24, .int .i64 d)]) ⟨2, [(1, vB 0 []), (0, vC b c)]⟩
def mQ (m : Nat) (p1 : Int) (b : List Int) (c : Int) (r0 : Tree) (d : List Int) (a : Int) : Prop := ∀ (K : Ctx), aq K [0] → qLG K Tryz.f91 (fun u G => u = .agg (ae r0) ∧ G = ⟨2, [(0, vC d a)]⟩) (xK (xL (xN (cB (ac Tryz.f91))))) [.blk 0, .seq (xJ (ac Tryz.f91))] 168 (mkF 168 0 [(0, .ptr 0 0), (1, .int .i64 p1), (4, .ptr 1 0)]) ⟨2, [(1, vB 0 []), (0, vC b c)]⟩
theorem gr (m : Nat) (g : List Int) (f p1 : Int) (r0 : Tree) (e : List Int) (b : Int) (h : ∃ a c d, aJ g f 14 a c d ∧ ((p1 < 1) → ((5 < a) → InI (a - 6) ∧ ((5 < (a - 6)) → cG m p1 c d 0 r0 e b) ∧ ((¬ 5 < (a - 6)) → cG m p1 c d (a - 6) r0 e b)) ∧ ((¬ 5 < a) → cG m p1 c d a r0 e b)) ∧ ((¬ p1 < 1) → cG m p1 c d a r0 e b)) : aS g f p1 r0 e b := by
 refine am 168 [0] Tryz.func91 rfl rfl rfl (aL rfl) fun K hK => ?_
 refine gR 8 rfl ?_
 obtain ⟨a, c, d, hs75, h⟩ := h
 refine gCY hs75 [0] ?_
 refine gR 9 rfl <| qBdZ 16 15 rfl rfl rfl rfl h (fun h => ?_) fun h => ?_
 refine gR 5 rfl <| qBd 19 rfl rfl rfl h (fun h => ?_) fun h => ?_
 refine gR 4 rfl ?_
 obtain ⟨hb, h⟩ := h
 refine gR 1 rfl <| gV 21 (.int .i64 (a - 6)) rfl (ax hb rfl) rfl <| gR 9 rfl <| qBd 23 rfl rfl rfl h (fun h => ?_) fun h => ?_
 exact gR 5 rfl <| gJ (h K hK) [0, 1] [0] rfl hK pq4 (pqo2 rfl rfl rfl rfl) rfl
 exact gR 3 rfl <| gJ (h K hK) [0, 1] [0] rfl hK pq4 (pqo2 rfl rfl rfl rfl) rfl
 exact gR 3 rfl <| gJ (h K hK) [0, 1] [0] rfl hK pq4 (pqo2 rfl rfl rfl rfl) rfl
 exact gR 8 rfl <| gJ (h K hK) [0, 1] [0] rfl hK pq4 (pqo2 rfl rfl rfl rfl) rfl
theorem rL0_semvcsmake_Expr (m : Nat) (p1 : Int) (c : List Int) (d a : Int) (r0 : Tree) (e : List Int) (b : Int) (h : ((a = 0) → jY m p1 c d a true r0 e b) ∧ ((a ≠ 0) → jY m p1 c d a (a == 1) r0 e b)) : cG (m + 1) p1 c d a r0 e b := by
 intro K hK
 refine gR 14 rfl <| qBeZ 25 26 rfl rfl rfl rfl h (fun h => ?_) fun h => ?_
 exact gR 3 rfl <| gJ (h K hK) [0, 1] [0] rfl hK pq5 (pqo2 rfl rfl rfl rfl) rfl
 exact gR 6 rfl <| gJ (h K hK) [0, 1] [0] rfl hK pq5 (pqo2 rfl rfl rfl rfl) rfl
theorem jt (m : Nat) (p1 : Int) (e : List Int) (f j : Int) (g : Bool) (r0 : Tree) (i : List Int) (b : Int) (h : ((g = true) → ∃ a c d, bm e f [[120], [121], [122]] a c d ∧ (Tree.node 12 a [] []) = r0 ∧ c = i ∧ d = b) ∧ ((g = false) → gy m p1 e f j r0 i b)) : jY (m + 1) p1 e f j g r0 i b := by
 intro K hK
 refine qBi 25 rfl rfl rfl h (fun h => ?_) fun h => ?_
 refine gR 5 rfl <| gFR 2 rfl rfl rfl rfl ?_
 obtain ⟨a, c, d, hs76, h⟩ := h
 refine gCY hs76 [0] ?_
 refine gR 7 rfl ?_
 obtain ⟨rfl, rfl, rfl⟩ := h
 exact go_sub (F' := (mkF 168 0 [(4, .ptr 1 0)])) (H' := ⟨2, [(1, vE ((Tree.node 12 a [] []).kind) ((Tree.node 12 a [] []).text) ((Tree.node 12 a [] []).leads) ((Tree.node 12 a [] []).kids)), (0, vC c d)]⟩) [0, 1] [0] rfl hK pq1 ⟨⟨_, rfl, rfl, (.cons .rfl (.cons .rfl (.cons (.nil 1) (.cons (.nil 4) .nil))))⟩, (pqo1 rfl rfl)⟩ rfl <| go_endD [1] ab (rs := [.cell 4 25]) rfl rfl ⟨rfl, rfl⟩
 exact gR 1 rfl <| gJ (h K hK) [0, 1] [0] rfl hK pq4 (pqo2 rfl rfl rfl rfl) rfl
theorem rL2_semvcsmake_Expr (m : Nat) (p1 : Int) (f : List Int) (g c : Int) (r0 : Tree) (i : List Int) (b : Int) (h : ((c = 2) → ∃ a d e, bm f g [[48], [49], [50], [49, 48]] a d e ∧ (Tree.node 10 a [] []) = r0 ∧ d = i ∧ e = b) ∧ ((c ≠ 2) → nA m p1 f g c r0 i b)) : gy (m + 1) p1 f g c r0 i b := by
 intro K hK
 refine gR 6 rfl <| qBeZ 32 33 rfl rfl rfl rfl h (fun h => ?_) fun h => ?_
 refine gR 5 rfl <| gFR 2 rfl rfl rfl rfl ?_
 obtain ⟨a, d, e, hs77, h⟩ := h
 refine gCY hs77 [0] ?_
 refine gR 7 rfl ?_
 obtain ⟨rfl, rfl, rfl⟩ := h
 exact go_sub (F' := (mkF 168 0 [(4, .ptr 1 0)])) (H' := ⟨2, [(1, vE ((Tree.node 10 a [] []).kind) ((Tree.node 10 a [] []).text) ((Tree.node 10 a [] []).leads) ((Tree.node 10 a [] []).kids)), (0, vC d e)]⟩) [0, 1] [0] rfl hK pq1 ⟨⟨_, rfl, rfl, (.cons .rfl (.cons .rfl (.cons (.nil 1) (.cons (.nil 4) .nil))))⟩, (pqo1 rfl rfl)⟩ rfl <| go_endD [1] ab (rs := [.cell 4 25]) rfl rfl ⟨rfl, rfl⟩
 exact gR 1 rfl <| gJ (h K hK) [0, 1] [0] rfl hK pq4 (pqo2 rfl rfl rfl rfl) rfl
theorem ew (m : Nat) (p1 : Int) (f : List Int) (g c : Int) (r0 : Tree) (i : List Int) (b : Int) (h : ((c = 3) → ∃ a d e, bm f g [[34, 34], [34, 97, 34], [34, 35, 32, 98, 34]] a d e ∧ (Tree.node 11 a [] []) = r0 ∧ d = i ∧ e = b) ∧ ((c ≠ 3) → nw m p1 f g c r0 i b)) : nA (m + 1) p1 f g c r0 i b := by
 intro K hK
 refine gR 6 rfl <| qBeZ 38 39 rfl rfl rfl rfl h (fun h => ?_) fun h => ?_
 refine gR 5 rfl <| gFR 2 rfl rfl rfl rfl ?_
 obtain ⟨a, d, e, hs78, h⟩ := h
 refine gCY hs78 [0] ?_
 refine gR 7 rfl ?_
 obtain ⟨rfl, rfl, rfl⟩ := h
 exact go_sub (F' := (mkF 168 0 [(4, .ptr 1 0)])) (H' := ⟨2, [(1, vE ((Tree.node 11 a [] []).kind) ((Tree.node 11 a [] []).text) ((Tree.node 11 a [] []).leads) ((Tree.node 11 a [] []).kids)), (0, vC d e)]⟩) [0, 1] [0] rfl hK pq1 ⟨⟨_, rfl, rfl, (.cons .rfl (.cons .rfl (.cons (.nil 1) (.cons (.nil 4) .nil))))⟩, (pqo1 rfl rfl)⟩ rfl <| go_endD [1] ab (rs := [.cell 4 25]) rfl rfl ⟨rfl, rfl⟩
 exact gR 1 rfl <| gJ (h K hK) [0, 1] [0] rfl hK pq4 (pqo2 rfl rfl rfl rfl) rfl
theorem gf (m : Nat) (p1 : Int) (f : List Int) (g c : Int) (r0 : Tree) (i : List Int) (b : Int) (h : ((c = 4) → ∃ a d e, aJ f g 2 a d e ∧ InI (13 + a) ∧ (Tree.node (13 + a) [] [] []) = r0 ∧ d = i ∧ e = b) ∧ ((c ≠ 4) → ny m p1 f g c r0 i b)) : nw (m + 1) p1 f g c r0 i b := by
 intro K hK
 refine gR 6 rfl <| qBeZ 44 45 rfl rfl rfl rfl h (fun h => ?_) fun h => ?_
 refine gR 4 rfl ?_
 obtain ⟨a, d, e, hs79, h⟩ := h
 refine gCY hs79 [0] ?_
 obtain ⟨hb, h⟩ := h
 refine gR 1 rfl <| gV 48 (.int .i64 (13 + a)) rfl (ax hb rfl) rfl <| gR 7 rfl ?_
 obtain ⟨rfl, rfl, rfl⟩ := h
 exact go_sub (F' := (mkF 168 0 [(4, .ptr 1 0)])) (H' := ⟨2, [(1, vE ((Tree.node (13 + a) [] [] []).kind) ((Tree.node (13 + a) [] [] []).text) ((Tree.node (13 + a) [] [] []).leads) ((Tree.node (13 + a) [] [] []).kids)), (0, vC d e)]⟩) [0, 1] [0] rfl hK pq1 ⟨⟨_, rfl, rfl, (.cons .rfl (.cons .rfl (.cons (.nil 1) (.cons (.nil 4) .nil))))⟩, (pqo1 rfl rfl)⟩ rfl <| go_endD [1] ab (rs := [.cell 4 25]) rfl rfl ⟨rfl, rfl⟩
 exact gR 1 rfl <| gJ (h K hK) [0, 1] [0] rfl hK pq4 (pqo2 rfl rfl rfl rfl) rfl
theorem js (m : Nat) (p1 : Int) (g : List Int) (i d : Int) (r0 : Tree) (e : List Int) (c : Int) (h : ((d = 5) → ∃ f a b, aJ g i 3 f a b ∧ ((f = 0) → (Tree.node 15 [] [] []) = r0 ∧ a = e ∧ b = c) ∧ ((f ≠ 0) → (Tree.node 10 [51] [] []) = r0 ∧ a = e ∧ b = c)) ∧ ((d ≠ 5) → gA m p1 g i d r0 e c)) : ny (m + 1) p1 g i d r0 e c := by
 intro K hK
 refine gR 6 rfl <| qBeZ 50 51 rfl rfl rfl rfl h (fun h => ?_) fun h => ?_
 refine gR 5 rfl ?_
 obtain ⟨f, a, b, hs80, h⟩ := h
 refine gCY hs80 [0] ?_
 refine gR 3 rfl <| qBe 54 rfl rfl rfl h (fun h => ?_) fun h => ?_
 refine gR 11 rfl ?_
 obtain ⟨rfl, rfl, rfl⟩ := h
 exact go_sub (F' := (mkF 168 0 [(4, .ptr 1 0)])) (H' := ⟨2, [(1, vE ((Tree.node 15 [] [] []).kind) ((Tree.node 15 [] [] []).text) ((Tree.node 15 [] [] []).leads) ((Tree.node 15 [] [] []).kids)), (0, vC a b)]⟩) [0, 1] [0] rfl hK pq1 ⟨⟨_, rfl, rfl, (.cons .rfl (.cons .rfl (.cons (.nil 1) (.cons (.nil 4) .nil))))⟩, (pqo1 rfl rfl)⟩ rfl <| go_endD [1] ab (rs := [.cell 4 25]) rfl rfl ⟨rfl, rfl⟩
 refine gR 12 rfl ?_
 obtain ⟨rfl, rfl, rfl⟩ := h
 exact go_sub (F' := (mkF 168 0 [(4, .ptr 1 0)])) (H' := ⟨2, [(1, vE ((Tree.node 10 [51] [] []).kind) ((Tree.node 10 [51] [] []).text) ((Tree.node 10 [51] [] []).leads) ((Tree.node 10 [51] [] []).kids)), (0, vC a b)]⟩) [0, 1] [0] rfl hK pq1 ⟨⟨_, rfl, rfl, (.cons .rfl (.cons .rfl (.cons (.nil 1) (.cons (.nil 4) .nil))))⟩, (pqo1 rfl rfl)⟩ rfl <| go_endD [1] ab (rs := [.cell 4 25]) rfl rfl ⟨rfl, rfl⟩
 exact gR 1 rfl <| gJ (h K hK) [0, 1] [0] rfl hK pq4 (pqo2 rfl rfl rfl rfl) rfl
theorem rL6_semvcsmake_Expr (m : Nat) (p1 : Int) (c : List Int) (d a : Int) (r0 : Tree) (e : List Int) (b : Int) (h : ((a = 6) → jW m p1 c d a true r0 e b) ∧ ((a ≠ 6) → jW m p1 c d a (a == 7) r0 e b)) : gA (m + 1) p1 c d a r0 e b := by
 intro K hK
 refine gR 7 rfl <| qBeZ 57 58 rfl rfl rfl rfl h (fun h => ?_) fun h => ?_
 exact gR 3 rfl <| gJ (h K hK) [0, 1] [0] rfl hK pq5 (pqo2 rfl rfl rfl rfl) rfl
 exact gR 6 rfl <| gJ (h K hK) [0, 1] [0] rfl hK pq5 (pqo2 rfl rfl rfl rfl) rfl
theorem jw (m : Nat) (p1 : Int) (b : List Int) (c f : Int) (d : Bool) (r0 : Tree) (e : List Int) (a : Int) (h : ((d = true) → kf m p1 b c r0 e a) ∧ ((d = false) → eP m p1 b c f r0 e a)) : jW (m + 1) p1 b c f d r0 e a := by
 intro K hK
 refine qBi 57 rfl rfl rfl h (fun h => ?_) fun h => ?_
 exact gR 1 rfl <| gJ (h K hK) [0, 1] [0] rfl hK pq3 (pqo2 rfl rfl rfl rfl) rfl
 exact gR 1 rfl <| gJ (h K hK) [0, 1] [0] rfl hK pq4 (pqo2 rfl rfl rfl rfl) rfl
theorem rd (m : Nat) (p1 : Int) (i : List Int) (j : Int) (r0 : Tree) (k : List Int) (a : Int) (h : ∃ b c d, bm i j [[102], [103], [104], [65, 46, 102], [66, 46, 103], [65, 46, 104]] b c d ∧ ∃ e f g, aJ c d 4 e f g ∧ fW m p1 b f g ([] : List Tree) e r0 k a) : kf (m + 1) p1 i j r0 k a := by
 intro K hK
 refine gR 4 rfl <| gFR 2 rfl rfl rfl rfl ?_
 obtain ⟨b, c, d, hs81, h⟩ := h
 refine gCY hs81 [0] ?_
 refine gR 9 rfl ?_
 obtain ⟨e, f, g, hs82, h⟩ := h
 refine gCY hs82 [0] ?_
 exact gR 4 rfl <| go_loop m <| gNC 4 3 25 4 rfl rfl rfl rfl <| gJ (h K _ hK (by omega)) [0, 1, 4, 6] [0] rfl hK pq5 ⟨⟨_, rfl, rfl, rfl, rfl⟩, (pqo3 rfl rfl rfl rfl rfl rfl)⟩ rfl
theorem mS (m : Nat) (p1 : Int) (f : List Int) (g e : Int) (r0 : Tree) (i : List Int) (b : Int) (h : ((e = 8) → ∃ a c d, aJ f g 3 a c d ∧ InI (1 + a) ∧ fX m p1 c d ([] : List Tree) (1 + a) r0 i b) ∧ ((e ≠ 8) → fY m p1 f g e r0 i b)) : eP (m + 1) p1 f g e r0 i b := by
 intro K hK
 refine gR 6 rfl <| gB 82 rfl rfl rfl ?_ ?_ <;> intro hd
 refine gT 83 rfl hd rfl ?_
 replace hd := (eq_of_beq hd)
 replace h := h.1 hd
 refine gR 12 rfl ?_
 obtain ⟨a, c, d, hs83, h⟩ := h
 refine gCY hs83 [0] ?_
 obtain ⟨hb, h⟩ := h
 exact gR 1 rfl <| gV 87 (.int .i64 (1 + a)) rfl (ax hb rfl) rfl <| gR 4 rfl <| go_loop m <| gNC 2 3 25 4 rfl rfl rfl rfl <| gJ (h K _ hK (by omega)) [0, 1, 2, 4] [0] rfl hK pq5 ⟨⟨_, rfl, rfl, rfl, rfl⟩, (pqo3 rfl rfl rfl rfl rfl rfl)⟩ rfl
 refine gF 83 rfl hd rfl ?_
 replace hd := (ne_of_beq_false hd)
 replace h := h.2 hd
 exact gR 1 rfl <| gJ (h K hK) [0, 1] [0] rfl hK pq4 (pqo2 rfl rfl rfl rfl) rfl
theorem mi (m : Nat) (p1 : Int) (d : List UInt8) (e : List Int) (f : Int) (b : List Tree) (c : Int) (r0 : Tree) (l : List Int) (g : Int) (h : ((0 < c) → InI (p1 - 1) ∧ ∃ a i k, aS e f (p1 - 1) a i k ∧ (b ++ [(Tree.node 17 [] [] [a])]).length ≤ 1000000000 ∧ InI (c - 1) ∧ fW m p1 d i k (b ++ [(Tree.node 17 [] [] [a])]) (c - 1) r0 l g) ∧ ((¬ 0 < c) → (Tree.node 16 d [] b) = r0 ∧ e = l ∧ f = g)) : fW (m + 1) p1 d e f b c r0 l g := by
 intro K j1 hK hj1
 obtain ⟨j1, rfl⟩ : ∃ j, j1 = j + 1 := ⟨j1 - 1, by omega⟩
 refine gR 7 rfl <| gB 67 rfl rfl rfl ?_ ?_ <;> intro hd
 replace hd := (of_decide_eq_true hd)
 replace h := h.1 hd
 refine gR 5 rfl <| gDs [2] 11 12 rfl (by kernel_rfl) (by kernel_rfl) <| gDr [(0, 2), (1, 3), (2, 2), (3, 0)] (by kernel_rfl) rfl rfl ?_
 obtain ⟨hb, h⟩ := h
 refine gDr [(4, 0)] (by kernel_rfl) rfl rfl <| gV 74 (.int .i64 (p1 - 1)) rfl (ax hb rfl) rfl ?_
 obtain ⟨a, i, k, hs84, h⟩ := h
 refine gDCY 5 hs84 [0] rfl ?_
 refine gDr [(6, 0)] (by kernel_rfl) rfl rfl <| gHR 6 (kidsV [a]) rfl (ct a) rfl <| gDr [(7, 0)] (by kernel_rfl) rfl rfl <| gFR 6 rfl (ca _) rfl rfl <| gS 77 (.agg [.int .i64 17, .str [], .row 1 [], .row 4 (kidsV [a])]) rfl (.agg (.cons .rfl (.cons .rfl (.cons (.nil 1) (.cons .rfl .nil))))) rfl <| gDr [(8, 0)] (by kernel_rfl) rfl rfl <| gHR 7 (kidsV [(Tree.node 17 [] [] [a])]) rfl (ct (Tree.node 17 [] [] [a])) rfl ?_
 obtain ⟨hb, h⟩ := h
 refine aD 9 (.repl 3 (.row 25 4 (kidsV (b ++ [(Tree.node 17 [] [] [a])])))) rfl (by kernel_rfl) (bj ab rfl rfl rfl rfl rfl (bo b [(Tree.node 17 [] [] [a])]).symm (by rw [aE]; exact hb)) (okR rfl) rfl (by kernel_rfl) rfl rfl ?_
 refine gDr [(10, 0), (11, 1)] (by kernel_rfl) rfl rfl <| gDe (by kernel_rfl) <| gR 4 rfl ?_
 obtain ⟨hb, h⟩ := h
 exact gR 1 rfl <| gV 69 (.int .i64 (c - 1)) rfl (ax hb rfl) rfl <| gR 2 rfl <| go_xloop <| gJ (h K _ hK (by omega)) [0, 1, 2, 8] [0] rfl hK pq5 ⟨⟨_, rfl, rfl, rfl, (ba _ (b ++ [(Tree.node 17 [] [] [a])])).symm⟩, (pqo3 rfl rfl rfl rfl rfl rfl)⟩ rfl
 replace hd := (of_decide_eq_false hd)
 replace h := h.2 hd
 refine gR 3 rfl <| go_xloopE <| gR 11 rfl <| gFR 3 rfl (ca _) rfl rfl ?_
 obtain ⟨rfl, rfl, rfl⟩ := h
 exact go_sub (F' := (mkF 168 0 [(4, .ptr 1 0)])) (H' := ⟨2, [(1, vE ((Tree.node 16 d [] b).kind) ((Tree.node 16 d [] b).text) ((Tree.node 16 d [] b).leads) ((Tree.node 16 d [] b).kids)), (0, vC e f)]⟩) [0, 1] [0] rfl hK pq1 ⟨⟨_, rfl, rfl, (.cons .rfl (.cons .rfl (.cons (.nil 1) (.cons .rfl .nil))))⟩, (pqo1 rfl rfl)⟩ rfl <| go_endD [1] ab (rs := [.cell 4 25]) rfl rfl ⟨rfl, rfl⟩
theorem mq (m : Nat) (p1 : Int) (d : List Int) (e : Int) (a : List Tree) (c : Int) (r0 : Tree) (k : List Int) (f : Int) (h : ((0 < c) → InI (p1 - 1) ∧ ∃ b g i, aS d e (p1 - 1) b g i ∧ (a ++ [b]).length ≤ 1000000000 ∧ InI (c - 1) ∧ fX m p1 g i (a ++ [b]) (c - 1) r0 k f) ∧ ((¬ 0 < c) → (Tree.node 18 [] [] a) = r0 ∧ d = k ∧ e = f)) : fX (m + 1) p1 d e a c r0 k f := by
 intro K j1 hK hj1
 obtain ⟨j1, rfl⟩ : ∃ j, j1 = j + 1 := ⟨j1 - 1, by omega⟩
 refine gR 7 rfl <| gB 89 rfl rfl rfl ?_ ?_ <;> intro hd
 replace hd := (of_decide_eq_true hd)
 replace h := h.1 hd
 refine gR 5 rfl <| gDs [2] 9 10 rfl (by kernel_rfl) (by kernel_rfl) <| gDr [(0, 2), (1, 3), (2, 2), (3, 0)] (by kernel_rfl) rfl rfl ?_
 obtain ⟨hb, h⟩ := h
 refine gDr [(4, 0)] (by kernel_rfl) rfl rfl <| gV 96 (.int .i64 (p1 - 1)) rfl (ax hb rfl) rfl ?_
 obtain ⟨b, g, i, hs85, h⟩ := h
 refine gDCY 5 hs85 [0] rfl ?_
 refine gDr [(6, 0)] (by kernel_rfl) rfl rfl <| gHR 6 (kidsV [b]) rfl (ct b) rfl ?_
 obtain ⟨hb, h⟩ := h
 refine aD 7 (.repl 3 (.row 25 4 (kidsV (a ++ [b])))) rfl (by kernel_rfl) (bj ab rfl rfl rfl rfl rfl (bo a [b]).symm (by rw [aE]; exact hb)) (okR rfl) rfl (by kernel_rfl) rfl rfl ?_
 refine gDr [(8, 0), (9, 1)] (by kernel_rfl) rfl rfl <| gDe (by kernel_rfl) <| gR 4 rfl ?_
 obtain ⟨hb, h⟩ := h
 exact gR 1 rfl <| gV 91 (.int .i64 (c - 1)) rfl (ax hb rfl) rfl <| gR 2 rfl <| go_xloop <| gJ (h K _ hK (by omega)) [0, 1, 2, 7] [0] rfl hK pq5 ⟨⟨_, rfl, rfl, rfl, (ba _ (a ++ [b])).symm⟩, (pqo3 rfl rfl rfl rfl rfl rfl)⟩ rfl
 replace hd := (of_decide_eq_false hd)
 replace h := h.2 hd
 refine gR 3 rfl <| go_xloopE <| gR 11 rfl <| gFR 3 rfl (ca _) rfl rfl ?_
 obtain ⟨rfl, rfl, rfl⟩ := h
 exact go_sub (F' := (mkF 168 0 [(4, .ptr 1 0)])) (H' := ⟨2, [(1, vE ((Tree.node 18 [] [] a).kind) ((Tree.node 18 [] [] a).text) ((Tree.node 18 [] [] a).leads) ((Tree.node 18 [] [] a).kids)), (0, vC d e)]⟩) [0, 1] [0] rfl hK pq1 ⟨⟨_, rfl, rfl, (.cons .rfl (.cons .rfl (.cons (.nil 1) (.cons .rfl .nil))))⟩, (pqo1 rfl rfl)⟩ rfl <| go_endD [1] ab (rs := [.cell 4 25]) rfl rfl ⟨rfl, rfl⟩
theorem mf (m : Nat) (p1 : Int) (c : List Int) (d b : Int) (r0 : Tree) (e : List Int) (a : Int) (h : ((b = 9) → mT m p1 c d r0 e a) ∧ ((b ≠ 9) → ep m p1 c d b r0 e a)) : fY (m + 1) p1 c d b r0 e a := by
 intro K hK
 refine gR 6 rfl <| qBeZ 102 103 rfl rfl rfl rfl h (fun h => ?_) fun h => ?_
 exact gR 1 rfl <| gJ (h K hK) [0, 1] [0] rfl hK pq3 (pqo2 rfl rfl rfl rfl) rfl
 exact gR 1 rfl <| gJ (h K hK) [0, 1] [0] rfl hK pq4 (pqo2 rfl rfl rfl rfl) rfl
theorem qn (m : Nat) (p1 : Int) (l : List Int) (n : Int) (r0 : Tree) (o : List Int) (k : Int) (h : InI (p1 - 1) ∧ ∃ a f g, aS l n (p1 - 1) a f g ∧ InI (p1 - 1) ∧ ∃ b i j, aS f g (p1 - 1) b i j ∧ InI (p1 - 1) ∧ ∃ c d e, aS i j (p1 - 1) c d e ∧ (Tree.node 19 [] [] [a, b, c]) = r0 ∧ d = o ∧ e = k) : mT (m + 1) p1 l n r0 o k := by
 intro K hK
 refine gR 4 rfl ?_
 obtain ⟨hb, h⟩ := h
 refine gR 1 rfl <| gV 106 (.int .i64 (p1 - 1)) rfl (ax hb rfl) rfl ?_
 obtain ⟨a, f, g, hs86, h⟩ := h
 refine gCY hs86 [0] ?_
 refine gR 2 rfl ?_
 obtain ⟨hb, h⟩ := h
 refine gR 1 rfl <| gV 110 (.int .i64 (p1 - 1)) rfl (ax hb rfl) rfl ?_
 obtain ⟨b, i, j, hs87, h⟩ := h
 refine gCY hs87 [0] ?_
 refine gR 2 rfl ?_
 obtain ⟨hb, h⟩ := h
 refine gR 1 rfl <| gV 114 (.int .i64 (p1 - 1)) rfl (ax hb rfl) rfl ?_
 obtain ⟨c, d, e, hs88, h⟩ := h
 refine gCY hs88 [0] ?_
 refine gR 1 rfl <| gHR 8 (kidsV [a, b, c]) rfl (qj [a, b, c]) rfl <| gR 7 rfl <| gFR 8 rfl (ca _) rfl rfl ?_
 obtain ⟨rfl, rfl, rfl⟩ := h
 exact go_sub (F' := (mkF 168 0 [(4, .ptr 1 0)])) (H' := ⟨2, [(1, vE ((Tree.node 19 [] [] [a, b, c]).kind) ((Tree.node 19 [] [] [a, b, c]).text) ((Tree.node 19 [] [] [a, b, c]).leads) ((Tree.node 19 [] [] [a, b, c]).kids)), (0, vC d e)]⟩) [0, 1] [0] rfl hK pq1 ⟨⟨_, rfl, rfl, (.cons .rfl (.cons .rfl (.cons (.nil 1) (.cons .rfl .nil))))⟩, (pqo1 rfl rfl)⟩ rfl <| go_endD [1] ab (rs := [.cell 4 25]) rfl rfl ⟨rfl, rfl⟩
theorem rL14_semvcsmake_Expr (m : Nat) (p1 : Int) (c : List Int) (d a : Int) (r0 : Tree) (e : List Int) (b : Int) (h : ((a = 10) → jv m p1 c d a true r0 e b) ∧ ((a ≠ 10) → jv m p1 c d a (a == 11) r0 e b)) : ep (m + 1) p1 c d a r0 e b := by
 intro K hK
 refine gR 7 rfl <| qBeZ 118 119 rfl rfl rfl rfl h (fun h => ?_) fun h => ?_
 exact gR 3 rfl <| gJ (h K hK) [0, 1] [0] rfl hK pq5 (pqo2 rfl rfl rfl rfl) rfl
 exact gR 6 rfl <| gJ (h K hK) [0, 1] [0] rfl hK pq5 (pqo2 rfl rfl rfl rfl) rfl
theorem jf (m : Nat) (p1 : Int) (c : List Int) (d f : Int) (a : Bool) (r0 : Tree) (e : List Int) (b : Int) (h : ((a = true) → jr m p1 c d r0 e b) ∧ ((a = false) → ga m p1 c d f r0 e b)) : jv (m + 1) p1 c d f a r0 e b := by
 intro K hK
 refine qBi 118 rfl rfl rfl h (fun h => ?_) fun h => ?_
 exact gR 1 rfl <| gJ (h K hK) [0, 1] [0] rfl hK pq3 (pqo2 rfl rfl rfl rfl) rfl
 exact gR 1 rfl <| gJ (h K hK) [0, 1] [0] rfl hK pq4 (pqo2 rfl rfl rfl rfl) rfl
theorem qP (m : Nat) (p1 : Int) (l : List Int) (n : Int) (r0 : Tree) (o : List Int) (k : Int) (h : ∃ c f g, bm l n [[120], [121], [122]] c f g ∧ InI (p1 - 1) ∧ ∃ a i j, aS f g (p1 - 1) a i j ∧ InI (p1 - 1) ∧ ∃ b d e, aS i j (p1 - 1) b d e ∧ (Tree.node 20 c [] [a, b]) = r0 ∧ d = o ∧ e = k) : jr (m + 1) p1 l n r0 o k := by
 intro K hK
 refine gR 4 rfl <| gFR 2 rfl rfl rfl rfl ?_
 obtain ⟨c, f, g, hs89, h⟩ := h
 refine gCY hs89 [0] ?_
 refine gR 2 rfl ?_
 obtain ⟨hb, h⟩ := h
 refine gR 1 rfl <| gV 126 (.int .i64 (p1 - 1)) rfl (ax hb rfl) rfl ?_
 obtain ⟨a, i, j, hs90, h⟩ := h
 refine gCY hs90 [0] ?_
 refine gR 2 rfl ?_
 obtain ⟨hb, h⟩ := h
 refine gR 1 rfl <| gV 130 (.int .i64 (p1 - 1)) rfl (ax hb rfl) rfl ?_
 obtain ⟨b, d, e, hs91, h⟩ := h
 refine gCY hs91 [0] ?_
 refine gR 1 rfl <| gHR 8 (kidsV [a, b]) rfl (qj [a, b]) rfl <| gR 7 rfl <| gFR 8 rfl (ca _) rfl rfl ?_
 obtain ⟨rfl, rfl, rfl⟩ := h
 exact go_sub (F' := (mkF 168 0 [(4, .ptr 1 0)])) (H' := ⟨2, [(1, vE ((Tree.node 20 c [] [a, b]).kind) ((Tree.node 20 c [] [a, b]).text) ((Tree.node 20 c [] [a, b]).leads) ((Tree.node 20 c [] [a, b]).kids)), (0, vC d e)]⟩) [0, 1] [0] rfl hK pq1 ⟨⟨_, rfl, rfl, (.cons .rfl (.cons .rfl (.cons (.nil 1) (.cons .rfl .nil))))⟩, (pqo1 rfl rfl)⟩ rfl <| go_endD [1] ab (rs := [.cell 4 25]) rfl rfl ⟨rfl, rfl⟩
theorem ja (m : Nat) (p1 : Int) (e : List Int) (f g : Int) (r0 : Tree) (i : List Int) (d : Int) (h : ((g = 12) → mQ m p1 e f r0 i d) ∧ ((g ≠ 12) → InI (p1 - 1) ∧ ∃ a b c, aS e f (p1 - 1) a b c ∧ (Tree.node 22 [] [] [a]) = r0 ∧ b = i ∧ c = d)) : ga (m + 1) p1 e f g r0 i d := by
 intro K hK
 refine gR 6 rfl <| qBeZ 134 135 rfl rfl rfl rfl h (fun h => ?_) fun h => ?_
 exact gR 1 rfl <| gJ (h K hK) [0, 1] [0] rfl hK pq3 (pqo2 rfl rfl rfl rfl) rfl
 refine gR 8 rfl ?_
 obtain ⟨hb, h⟩ := h
 refine gR 1 rfl <| gV 164 (.int .i64 (p1 - 1)) rfl (ax hb rfl) rfl ?_
 obtain ⟨a, b, c, hs92, h⟩ := h
 refine gCY hs92 [0] ?_
 refine gR 1 rfl <| gHR 4 (kidsV [a]) rfl (ct a) rfl <| gR 5 rfl <| gFR 4 rfl (ca _) rfl rfl ?_
 obtain ⟨rfl, rfl, rfl⟩ := h
 exact go_sub (F' := (mkF 168 0 [(4, .ptr 1 0)])) (H' := ⟨2, [(1, vE ((Tree.node 22 [] [] [a]).kind) ((Tree.node 22 [] [] [a]).text) ((Tree.node 22 [] [] [a]).leads) ((Tree.node 22 [] [] [a]).kids)), (0, vC b c)]⟩) [0, 1] [0] rfl hK pq1 ⟨⟨_, rfl, rfl, (.cons .rfl (.cons .rfl (.cons (.nil 1) (.cons .rfl .nil))))⟩, (pqo1 rfl rfl)⟩ rfl <| go_endD [1] ab (rs := [.cell 4 25]) rfl rfl ⟨rfl, rfl⟩
theorem mj (m : Nat) (p1 : Int) (α : List Int) (β : Int) (r0 : Tree) (z : List Int) (t : Int) (h : ∃ d v w, bm α β [[43], [45], [42], [60], [61, 61]] d v w ∧ InI (p1 - 1) ∧ ∃ a x y, dZ v w (p1 - 1) a x y ∧ ∃ l n o, aJ x y 3 l n o ∧ ((l = 0) → ∃ c p q, bm n o [[43], [42]] c p q ∧ ∃ b r s, dZ p q 0 b r s ∧ InI (p1 - 1) ∧ ∃ e g i, dZ r s (p1 - 1) e g i ∧ (Tree.node 21 d [] [(Tree.node 21 c [] [a, b]), e]) = r0 ∧ g = z ∧ i = t) ∧ ((l ≠ 0) → InI (p1 - 1) ∧ ∃ f j k, dZ n o (p1 - 1) f j k ∧ (Tree.node 21 d [] [a, f]) = r0 ∧ j = z ∧ k = t)) : mQ (m + 1) p1 α β r0 z t := by
 intro K hK
 refine gR 4 rfl <| gFR 2 rfl rfl rfl rfl ?_
 obtain ⟨d, v, w, hs93, h⟩ := h
 refine gCY hs93 [0] ?_
 refine gR 7 rfl ?_
 obtain ⟨hb, h⟩ := h
 refine gR 1 rfl <| gV 141 (.int .i64 (p1 - 1)) rfl (ax hb rfl) rfl ?_
 obtain ⟨a, x, y, hs94, h⟩ := h
 refine gCY hs94 [0] ?_
 refine gR 8 rfl ?_
 obtain ⟨l, n, o, hs95, h⟩ := h
 refine gCY hs95 [0] ?_
 refine gR 3 rfl <| qBe 145 rfl rfl rfl h (fun h => ?_) fun h => ?_
 refine gR 1 rfl <| gDs [6] 8 9 rfl (by kernel_rfl) (by kernel_rfl) <| gDr [(0, 2), (3, 3), (4, 2), (1, 0)] (by kernel_rfl) rfl rfl <| gFR 8 rfl rfl rfl rfl ?_
 obtain ⟨c, p, q, hs96, h⟩ := h
 refine gDCY 2 hs96 [0] rfl ?_
 obtain ⟨b, r, s, hs97, h⟩ := h
 refine gDCY 5 hs97 [0] rfl ?_
 refine gDr [(6, 0)] (by kernel_rfl) rfl rfl <| gHR 12 (kidsV [a, b]) rfl (qj [a, b]) rfl <| gDr [(7, 0), (8, 1)] (by kernel_rfl) rfl rfl <| gDe (by kernel_rfl) <| gR 2 rfl <| gDs [6] 8 9 rfl (by kernel_rfl) (by kernel_rfl) <| gDr [(0, 2), (1, 3), (2, 2), (3, 0)] (by kernel_rfl) rfl rfl ?_
 obtain ⟨hb, h⟩ := h
 refine gDr [(4, 0)] (by kernel_rfl) rfl rfl <| gV 158 (.int .i64 (p1 - 1)) rfl (ax hb rfl) rfl ?_
 obtain ⟨e, g, i, hs98, h⟩ := h
 refine gDCY 5 hs98 [0] rfl ?_
 refine gFR 12 rfl (ca _) rfl rfl <| gS 155 (.agg [.int .i64 21, .str c, .row 1 [], .row 4 (kidsV [a, b])]) rfl (.agg (.cons .rfl (.cons .rfl (.cons (.nil 1) (.cons .rfl .nil))))) rfl <| gDr [(6, 0)] (by kernel_rfl) rfl rfl <| gHR 15 (kidsV [(Tree.node 21 c [] [a, b]), e]) rfl (qj [(Tree.node 21 c [] [a, b]), e]) rfl <| gDr [(7, 0), (8, 1)] (by kernel_rfl) rfl rfl <| gDe (by kernel_rfl) <| gR 4 rfl <| gFR 15 rfl (ca _) rfl rfl ?_
 obtain ⟨rfl, rfl, rfl⟩ := h
 exact go_sub (F' := (mkF 168 0 [(4, .ptr 1 0)])) (H' := ⟨2, [(1, vE ((Tree.node 21 d [] [(Tree.node 21 c [] [a, b]), e]).kind) ((Tree.node 21 d [] [(Tree.node 21 c [] [a, b]), e]).text) ((Tree.node 21 d [] [(Tree.node 21 c [] [a, b]), e]).leads) ((Tree.node 21 d [] [(Tree.node 21 c [] [a, b]), e]).kids)), (0, vC g i)]⟩) [0, 1] [0] rfl hK pq1 ⟨⟨_, rfl, rfl, (.cons .rfl (.cons .rfl (.cons (.nil 1) (.cons .rfl .nil))))⟩, (pqo1 rfl rfl)⟩ rfl <| go_endD [1] ab (rs := [.cell 4 25]) rfl rfl ⟨rfl, rfl⟩
 refine gR 4 rfl <| gDs [6] 8 9 rfl (by kernel_rfl) (by kernel_rfl) <| gDr [(0, 2), (1, 3), (2, 2), (3, 0)] (by kernel_rfl) rfl rfl ?_
 obtain ⟨hb, h⟩ := h
 refine gDr [(4, 0)] (by kernel_rfl) rfl rfl <| gV 158 (.int .i64 (p1 - 1)) rfl (ax hb rfl) rfl ?_
 obtain ⟨f, j, k, hs99, h⟩ := h
 refine gDCY 5 hs99 [0] rfl ?_
 refine gDr [(6, 0)] (by kernel_rfl) rfl rfl <| gHR 10 (kidsV [a, f]) rfl (qj [a, f]) rfl <| gDr [(7, 0), (8, 1)] (by kernel_rfl) rfl rfl <| gDe (by kernel_rfl) <| gR 4 rfl <| gFR 10 rfl (ca _) rfl rfl ?_
 obtain ⟨rfl, rfl, rfl⟩ := h
 exact go_sub (F' := (mkF 168 0 [(4, .ptr 1 0)])) (H' := ⟨2, [(1, vE ((Tree.node 21 d [] [a, f]).kind) ((Tree.node 21 d [] [a, f]).text) ((Tree.node 21 d [] [a, f]).leads) ((Tree.node 21 d [] [a, f]).kids)), (0, vC j k)]⟩) [0, 1] [0] rfl hK pq1 ⟨⟨_, rfl, rfl, (.cons .rfl (.cons .rfl (.cons (.nil 1) (.cons .rfl .nil))))⟩, (pqo1 rfl rfl)⟩ rfl <| go_endD [1] ab (rs := [.cell 4 25]) rfl rfl ⟨rfl, rfl⟩
def ii (m : Nat) (a : List UInt8) (c : List Int) (d : Int) (e : List Tree) (f : Int) (r0 : Tree) (g : List Int) (b : Int) : Prop := ∀ (K : Ctx) (j1 : Nat), aq K [0] → m ≤ j1 → qLG K Tryz.f60 (fun u G => u = .agg (ae r0) ∧ G = ⟨2, [(0, vC g b)]⟩) (xI (cB (ac Tryz.f60))) [.loop (xI (cB (ac Tryz.f60))) j1, .blk 0, .seq (xJ (ac Tryz.f60))] 47 (mkF 47 0 [(0, .ptr 0 0), (2, .ptr 1 0), (3, .ptr 2 0), (4, .int .i64 f)]) ⟨4, [(3, .row 25 4 (kidsV e)), (2, .var 25 [.int .i64 2, .str a, .nils, .sl 3]), (1, vB 0 []), (0, vC c d)]⟩
theorem nI (m : Nat) (v : List Int) (q : Int) (r0 : Tree) (r : List Int) (c : Int) (h : ∃ k l n, aJ v q 5 k l n ∧ ((k = 0) → ∃ b s t, bm l n [[84], [85]] b s t ∧ ∃ a o p, cM s t 2 a o p ∧ (Tree.node 3 b [] [a]) = r0 ∧ o = r ∧ p = c) ∧ ((k ≠ 0) → ∃ d e f, bm l n [[102], [103], [104]] d e f ∧ ∃ g i j, aJ e f 4 g i j ∧ ii m d i j ([] : List Tree) g r0 r c)) : lJ v q r0 r c := by
 refine am 47 [0] Tryz.func60 rfl rfl rfl (aL rfl) fun K hK => ?_
 refine gR 9 rfl ?_
 obtain ⟨k, l, n, hs19, h⟩ := h
 refine gCY hs19 [0] ?_
 refine gR 3 rfl <| gB 7 rfl rfl rfl ?_ ?_ <;> intro hd
 replace hd := (eq_of_beq hd)
 replace h := h.1 hd
 refine gR 5 rfl <| gFR 3 rfl rfl rfl rfl ?_
 obtain ⟨b, s, t, hs20, h⟩ := h
 refine gCY hs20 [0] ?_
 refine gR 1 rfl ?_
 obtain ⟨a, o, p, hs21, h⟩ := h
 refine gCY hs21 [0] ?_
 refine gR 1 rfl <| gHR 7 (kidsV [a]) rfl (ct a) rfl <| gR 6 rfl <| gFR 7 rfl (ca _) rfl rfl ?_
 obtain ⟨rfl, rfl, rfl⟩ := h
 exact go_sub (F' := (mkF 47 0 [(2, .ptr 1 0)])) (H' := ⟨2, [(1, vE ((Tree.node 3 b [] [a]).kind) ((Tree.node 3 b [] [a]).text) ((Tree.node 3 b [] [a]).leads) ((Tree.node 3 b [] [a]).kids)), (0, vC o p)]⟩) [0, 1] [0] rfl hK pq1 ⟨⟨_, rfl, rfl, (.cons .rfl (.cons .rfl (.cons (.nil 1) (.cons .rfl .nil))))⟩, (pqo1 rfl rfl)⟩ rfl <| go_endD [1] ab (rs := [.cell 2 25]) rfl rfl ⟨rfl, rfl⟩
 replace hd := (ne_of_beq_false hd)
 replace h := h.2 hd
 refine gR 7 rfl <| gFR 3 rfl rfl rfl rfl ?_
 obtain ⟨d, e, f, hs22, h⟩ := h
 refine gCY hs22 [0] ?_
 refine gR 9 rfl ?_
 obtain ⟨g, i, j, hs23, h⟩ := h
 refine gCY hs23 [0] ?_
 exact gR 4 rfl <| go_loop m <| gNC 5 3 25 4 rfl rfl rfl rfl <| gJ (h K _ hK (by omega)) [0, 1, 5, 7] [0] rfl hK pq4 ⟨⟨_, rfl, rfl, rfl, rfl⟩, (pqo3 rfl rfl rfl rfl rfl rfl)⟩ rfl
theorem nu (m : Nat) (f : List UInt8) (n : List Int) (o : Int) (b : List Tree) (g : Int) (r0 : Tree) (p : List Int) (l : Int) (h : ((0 < g) → ∃ e q r, bm n o [[120], [121], [122]] e q r ∧ ∃ c s t, cM q r 1 c s t ∧ (b ++ [(Tree.node 4 e [] [c])]).length ≤ 1000000000 ∧ InI (g - 1) ∧ ii m f s t (b ++ [(Tree.node 4 e [] [c])]) (g - 1) r0 p l) ∧ ((¬ 0 < g) → ∃ d v w, cM n o 1 d v w ∧ ∃ a i k, aS v w 3 a i k ∧ (b ++ [d, a]).length ≤ 1000000000 ∧ (Tree.node 2 f [] (b ++ [d, a])) = r0 ∧ i = p ∧ k = l)) : ii (m + 1) f n o b g r0 p l := by
 intro K j1 hK hj1
 obtain ⟨j1, rfl⟩ : ∃ j, j1 = j + 1 := ⟨j1 - 1, by omega⟩
 refine gR 7 rfl <| gB 22 rfl rfl rfl ?_ ?_ <;> intro hd
 replace hd := (of_decide_eq_true hd)
 replace h := h.1 hd
 refine gR 5 rfl <| gDs [2] 12 13 rfl (by kernel_rfl) (by kernel_rfl) <| gDr [(0, 2), (1, 3), (2, 2), (5, 2), (3, 0)] (by kernel_rfl) rfl rfl <| gFR 4 rfl rfl rfl rfl ?_
 obtain ⟨e, q, r, hs24, h⟩ := h
 refine gDCY 4 hs24 [0] rfl ?_
 obtain ⟨c, s, t, hs25, h⟩ := h
 refine gDCY 6 hs25 [0] rfl ?_
 refine gDr [(7, 0)] (by kernel_rfl) rfl rfl <| gHR 8 (kidsV [c]) rfl (ct c) rfl <| gDr [(8, 0)] (by kernel_rfl) rfl rfl <| gFR 8 rfl (ca _) rfl rfl <| gS 33 (.agg [.int .i64 4, .str e, .row 1 [], .row 4 (kidsV [c])]) rfl (.agg (.cons .rfl (.cons .rfl (.cons (.nil 1) (.cons .rfl .nil))))) rfl <| gDr [(9, 0)] (by kernel_rfl) rfl rfl <| gHR 9 (kidsV [(Tree.node 4 e [] [c])]) rfl (ct (Tree.node 4 e [] [c])) rfl ?_
 obtain ⟨hb, h⟩ := h
 refine aD 10 (.repl 3 (.row 25 4 (kidsV (b ++ [(Tree.node 4 e [] [c])])))) rfl (by kernel_rfl) (bj ab rfl rfl rfl rfl rfl (bo b [(Tree.node 4 e [] [c])]).symm (by rw [aE]; exact hb)) (okR rfl) rfl (by kernel_rfl) rfl rfl ?_
 refine gDr [(11, 0), (12, 1)] (by kernel_rfl) rfl rfl <| gDe (by kernel_rfl) <| gR 4 rfl ?_
 obtain ⟨hb, h⟩ := h
 exact gR 1 rfl <| gV 24 (.int .i64 (g - 1)) rfl (ax hb rfl) rfl <| gR 2 rfl <| go_xloop <| gJ (h K _ hK (by omega)) [0, 1, 2, 10] [0] rfl hK pq4 ⟨⟨_, rfl, rfl, rfl, (ba _ (b ++ [(Tree.node 4 e [] [c])])).symm⟩, (pqo3 rfl rfl rfl rfl rfl rfl)⟩ rfl
 replace hd := (of_decide_eq_false hd)
 replace h := h.2 hd
 refine gR 3 rfl <| go_xloopE <| gR 3 rfl <| gDs [2] 9 10 rfl (by kernel_rfl) (by kernel_rfl) <| gDr [(0, 2), (1, 3), (2, 2), (4, 2)] (by kernel_rfl) rfl rfl ?_
 obtain ⟨d, v, w, hs26, h⟩ := h
 refine gDCY 3 hs26 [0] rfl ?_
 obtain ⟨a, i, k, hs27, h⟩ := h
 refine gDCY 5 hs27 [0] rfl ?_
 refine gDr [(6, 0)] (by kernel_rfl) rfl rfl <| gHR 8 (kidsV [d, a]) rfl (qj [d, a]) rfl ?_
 obtain ⟨hb, h⟩ := h
 refine aD 7 (.repl 3 (.row 25 4 (kidsV (b ++ [d, a])))) rfl (by kernel_rfl) (bj ab rfl rfl rfl rfl rfl (bo _ _).symm (by rw [aE]; exact hb)) (okR rfl) rfl (by kernel_rfl) rfl rfl ?_
 refine gDr [(8, 0), (9, 1)] (by kernel_rfl) rfl rfl <| gDe (by kernel_rfl) <| gR 8 rfl <| gFR 9 rfl (ca _) rfl rfl ?_
 obtain ⟨rfl, rfl, rfl⟩ := h
 exact go_sub (F' := (mkF 47 0 [(2, .ptr 1 0)])) (H' := ⟨2, [(1, vE ((Tree.node 2 f [] (b ++ [d, a])).kind) ((Tree.node 2 f [] (b ++ [d, a])).text) ((Tree.node 2 f [] (b ++ [d, a])).leads) ((Tree.node 2 f [] (b ++ [d, a])).kids)), (0, vC i k)]⟩) [0, 1] [0] rfl hK pq1 ⟨⟨_, rfl, rfl, (.cons .rfl (.cons .rfl (.cons (.nil 1) (.cons .rfl .nil))))⟩, (pqo1 rfl rfl)⟩ rfl <| go_endD [1] ab (rs := [.cell 2 25]) rfl rfl ⟨rfl, rfl⟩
def dv (m : Nat) (p1 : Tree) (b : List Int) (c : Int) (d : (List (List UInt8))) (e : Nat) (r0 : Tree) (f : List Int) (a : Int) : Prop := ∀ (K : Ctx) (j1 : Nat), aq K [0] → m ≤ j1 → qLG K Tryz.f62 (fun u G => u = .agg (ae r0) ∧ G = ⟨2, [(0, vC f a)]⟩) (xI (ac Tryz.f62)) [.loop (xI (ac Tryz.f62)) j1, .blk 0, .seq (xH (ac Tryz.f62))] 53 (mkF 53 0 [(0, .ptr 0 0), (3, .ptr 1 0), (4, .ptr 2 0), (5, .int .i64 (e : Int))]) ⟨4, [(3, .row 9 1 (List.map V.str d)), (2, vB 0 []), (1, .var 25 [.int .i64 p1.kind, .str p1.text, .sl 3, .row 4 (kidsV p1.kids)]), (0, vC b c)]⟩
def eu (m : Nat) (p1 : Tree) (b : List Int) (c : Int) (d : List Tree) (e : Nat) (f : (List (List UInt8))) (r0 : Tree) (g : List Int) (a : Int) : Prop := ∀ (K : Ctx) (j1 : Nat), aq K [0] → m ≤ j1 → qLG K Tryz.f62 (fun u G => u = .agg (ae r0) ∧ G = ⟨2, [(0, vC g a)]⟩) (xI (xA (ac Tryz.f62))) [.loop (xI (xA (ac Tryz.f62))) j1, .blk 2, .seq (xA (xH (ac Tryz.f62)))] 53 (mkF 53 0 [(0, .ptr 0 0), (3, .ptr 1 0), (4, .ptr 2 0), (6, .int .i64 (e : Int))]) ⟨5, [(4, .row 25 4 (kidsV d)), (3, .row 9 1 (List.map V.str f)), (2, vB 0 []), (1, vF p1.kind p1.text), (0, vC b c)]⟩
theorem rf (m : Nat) (c : List Int) (a : Int) (p1 r0 : Tree) (d : List Int) (b : Int) (h : p1.leads.length ≤ 1000000000 ∧ dv m p1 c a p1.leads 0 r0 d b) : gD c a p1 r0 d b := by
 refine am 53 [0] Tryz.func62 rfl rfl rfl (aL rfl) fun K hK => ?_
 refine gR 11 rfl ?_
 obtain ⟨hb, h⟩ := h
 exact gDo (.repl 3 (.row 9 1 (List.map V.str p1.leads))) (bj ab rfl rfl rfl rfl rfl (List.nil_append _) (by rw [aZ]; exact hb)) (okR rfl) rfl rfl rfl <| gR 11 rfl <| go_loop m <| gJ (h K _ hK (by omega)) [0, 1, 2, 4] [0] rfl hK pq4 ⟨⟨_, rfl, rfl, rfl, (vH _ p1.leads).symm⟩, (pqo3 rfl rfl rfl rfl rfl rfl)⟩ rfl
theorem jk (m : Nat) (p1 : Tree) (l : List Int) (n : Int) (a : (List (List UInt8))) (b : Nat) (r0 : Tree) (e : List Int) (d : Int) (h : ((b < a.length) → ∃ g i k, aJ l n 9 g i k ∧ ((g = 1) → ∃ c o p, bm i k [[32, 35, 32, 99, 10], [32, 32], [10, 9], [35, 10]] c o p ∧ ∃ q, a[b]? = some q ∧ dv m p1 o p (a.set b c) (b + 1) r0 e d) ∧ ((g ≠ 1) → dv m p1 i k a (b + 1) r0 e d)) ∧ ((¬ b < a.length) → p1.kids.length ≤ 1000000000 ∧ eu m p1 l n p1.kids 0 a r0 e d)) : dv (m + 1) p1 l n a b r0 e d := by
 intro K j1 hK hj1
 obtain ⟨j1, rfl⟩ : ∃ j, j1 = j + 1 := ⟨j1 - 1, by omega⟩
 refine gR 7 rfl <| gV 15 (.int .i64 (a.length : Int)) rfl (bF (aZ V.str _)) rfl <| gLO 3 rfl (aZ V.str _) fun hl16 => gR 3 rfl <| gB 16 rfl rfl rfl ?_ ?_ <;> intro hd
 replace hd := (fh hd)
 replace h := h.1 hd
 refine gR 8 rfl ?_
 obtain ⟨g, i, k, hs17, h⟩ := h
 refine gCY hs17 [0] ?_
 refine gR 3 rfl <| gB 21 rfl rfl rfl ?_ ?_ <;> intro hd
 replace hd := (eq_of_beq hd)
 replace h := h.1 hd
 refine gR 1 rfl <| gDs [1] 7 8 rfl (by kernel_rfl) (by kernel_rfl) <| gDr [(0, 2), (1, 3), (2, 2), (3, 2), (4, 0)] (by kernel_rfl) rfl rfl <| gFR 5 rfl rfl rfl rfl ?_
 obtain ⟨c, o, p, hs18, h⟩ := h
 refine gDCY 5 hs18 [0] rfl ?_
 obtain ⟨q, hxs1_7, h⟩ := h
 refine bi 6 rfl (by kernel_rfl) (yIO ab rfl rfl rfl rfl (by have := (mapget (f := V.str) hxs1_7); exact (List.getElem?_eq_some_iff.1 this).1)) rfl rfl ?_
 refine aD 7 (.set 3 (.row 9 1 (List.map V.str (a.set b c)))) rfl (by kernel_rfl) (dSe ab rfl rfl rfl rfl (mapget (f := V.str) hxs1_7) rfl (bC V.str a b c)) (okS rfl) rfl (by kernel_rfl) rfl rfl ?_
 exact gDe (by kernel_rfl) <| gR 5 rfl <| gV 18 (.int .i64 ((b + 1 : Nat) : Int)) rfl (ax (by have := hl16; omega) (by omega)) rfl <| gR 2 rfl <| go_xloop <| gJ (h K _ hK (by omega)) [0, 1, 2, 3] [0] rfl hK pq4 ⟨⟨_, rfl, rfl, rfl, (vH _ (a.set b c)).symm⟩, (pqo3 rfl rfl rfl rfl rfl rfl)⟩ rfl
 replace hd := (ne_of_beq_false hd)
 replace h := h.2 hd
 exact gR 7 rfl <| gV 18 (.int .i64 ((b + 1 : Nat) : Int)) rfl (ax (by have := hl16; omega) (by omega)) rfl <| gR 2 rfl <| go_xloop <| gJ (h K _ hK (by omega)) [0, 1, 2, 3] [0] rfl hK pq4 ⟨⟨_, rfl, rfl, rfl, (vH _ a).symm⟩, (pqo3 rfl rfl rfl rfl rfl rfl)⟩ rfl
 replace hd := (fo hd)
 replace h := h.2 hd
 refine gR 3 rfl <| go_xloopE <| gR 7 rfl ?_
 obtain ⟨hb, h⟩ := h
 exact gDo (.repl 4 (.row 25 4 (kidsV p1.kids))) (bj ab rfl rfl rfl rfl rfl (List.nil_append _) (by rw [aE]; exact hb)) (okR rfl) rfl rfl rfl <| gR 11 rfl <| go_loop m <| gJ (h K _ hK (by omega)) [0, 1, 2, 3, 5] [0] rfl hK pq4 ⟨⟨_, rfl, rfl, rfl, (ba _ p1.kids).symm⟩, ⟨_, rfl, rfl, rfl, (vH _ a).symm⟩, (pqo3 rfl rfl rfl rfl rfl rfl)⟩ rfl
theorem mh (m : Nat) (p1 : Tree) (f : List Int) (g : Int) (a : List Tree) (b : Nat) (c : (List (List UInt8))) (r0 : Tree) (i : List Int) (e : Int) (h : ((b < a.length) → ∃ k, a[b]? = some k ∧ ∃ d l n, gD f g k d l n ∧ ∃ o, a[b]? = some o ∧ eu m p1 l n (a.set b d) (b + 1) c r0 i e) ∧ ((¬ b < a.length) → (Tree.node p1.kind p1.text c a) = r0 ∧ f = i ∧ g = e)) : eu (m + 1) p1 f g a b c r0 i e := by
 intro K j1 hK hj1
 obtain ⟨j1, rfl⟩ : ∃ j, j1 = j + 1 := ⟨j1 - 1, by omega⟩
 refine gR 7 rfl <| gV 37 (.int .i64 (a.length : Int)) rfl (bF (aE _)) rfl <| gLO 4 rfl (aE _) fun hl19 => gR 3 rfl <| gB 38 rfl rfl rfl ?_ ?_ <;> intro hd
 replace hd := (fh hd)
 replace h := h.1 hd
 refine gR 5 rfl <| gDs [1, 4] 11 12 rfl (by kernel_rfl) (by kernel_rfl) <| gDr [(0, 2), (1, 3), (2, 2), (3, 2), (4, 2), (5, 3), (6, 0)] (by kernel_rfl) rfl rfl ?_
 obtain ⟨k, hxt2_1, h⟩ := h
 refine bi 7 rfl (by kernel_rfl) (yIO ab rfl rfl rfl rfl (by have := (av hxt2_1); exact (List.getElem?_eq_some_iff.1 this).1)) rfl rfl ?_
 refine aD 8 (.nop) rfl (by kernel_rfl) (dLe ab rfl rfl rfl (av hxt2_1) rfl) trivial rfl (by kernel_rfl) rfl rfl ?_
 obtain ⟨d, l, n, hs20, h⟩ := h
 refine gDCY 9 hs20 [0] rfl ?_
 obtain ⟨o, hxt2_5, h⟩ := h
 refine bi 10 rfl (by kernel_rfl) (yIO ab rfl rfl rfl rfl (by have := (av hxt2_5); exact (List.getElem?_eq_some_iff.1 this).1)) rfl rfl ?_
 refine aD 11 (.set 4 (.row 25 4 (kidsV (a.set b d)))) rfl (by kernel_rfl) (dSe ab rfl rfl rfl rfl (av hxt2_5) rfl (AH a b d)) (okS rfl) rfl (by kernel_rfl) rfl rfl ?_
 exact gDe (by kernel_rfl) <| gR 5 rfl <| gV 40 (.int .i64 ((b + 1 : Nat) : Int)) rfl (ax (by have := hl19; omega) (by omega)) rfl <| gR 2 rfl <| go_xloop <| gJ (h K _ hK (by omega)) [0, 1, 2, 3, 4] [0] rfl hK pq4 ⟨⟨_, rfl, rfl, rfl, (ba _ (a.set b d)).symm⟩, ⟨_, rfl, rfl, rfl, (vH _ c).symm⟩, (pqo3 rfl rfl rfl rfl rfl rfl)⟩ rfl
 replace hd := (fo hd)
 replace h := h.2 hd
 refine gR 3 rfl <| go_xloopE <| gR 9 rfl <| gFR 3 rfl (dn _ (fun _ => rfl) _) rfl rfl <| gFR 4 rfl (ca _) rfl rfl ?_
 obtain ⟨rfl, rfl, rfl⟩ := h
 exact go_sub (F' := (mkF 53 0 [(4, .ptr 1 0)])) (H' := ⟨2, [(1, vE ((Tree.node p1.kind p1.text c a).kind) ((Tree.node p1.kind p1.text c a).text) ((Tree.node p1.kind p1.text c a).leads) ((Tree.node p1.kind p1.text c a).kids)), (0, vC f g)]⟩) [0, 2] [0] rfl hK pq1 (pqo2 rfl rfl rfl rfl) rfl <| go_endD [1] ab (rs := [.cell 4 25]) rfl rfl ⟨rfl, rfl⟩
def fx (m : Nat) (p1 : List UInt8) (b : List Int) (c : Int) (d : List Tree) (e : Int) (r0 : Tree) (f : List Int) (a : Int) : Prop := ∀ (K : Ctx) (j1 : Nat), aq K [0] → m ≤ j1 → qLG K Tryz.f33 (fun u G => u = .agg (ae r0) ∧ G = ⟨2, [(0, vC f a)]⟩) (xI (ac Tryz.f33)) [.loop (xI (ac Tryz.f33)) j1, .blk 0, .seq (xH (ac Tryz.f33))] 31 (mkF 31 0 [(0, .ptr 0 0), (4, .ptr 1 0), (5, .ptr 2 0), (6, .int .i64 e)]) ⟨4, [(3, .row 25 4 (kidsV d)), (2, .var 25 [.int .i64 1, .str p1, .nils, .sl 3]), (1, vB 0 []), (0, vC b c)]⟩
theorem qh (m : Nat) (f : List Int) (a : Int) (p1 : List UInt8) (r0 : Tree) (g : List Int) (b : Int) (h : ∃ c d e, aJ f a 4 c d e ∧ fx m p1 d e ([] : List Tree) c r0 g b) : ju f a p1 r0 g b := by
 refine am 31 [0] Tryz.func33 rfl rfl rfl (aL rfl) fun K hK => ?_
 refine gR 17 rfl ?_
 obtain ⟨c, d, e, hs11, h⟩ := h
 refine gCY hs11 [0] ?_
 exact gR 4 rfl <| go_loop m <| gNC 2 3 25 4 rfl rfl rfl rfl <| gJ (h K _ hK (by omega)) [0, 1, 2, 4] [0] rfl hK pq4 ⟨⟨_, rfl, rfl, rfl, rfl⟩, (pqo3 rfl rfl rfl rfl rfl rfl)⟩ rfl
theorem iu (m : Nat) (p1 : List UInt8) (p : List Int) (q : Int) (c : List Tree) (e : Int) (r0 : Tree) (l : List Int) (f : Int) (h : ((0 < e) → ∃ a r s, lJ p q a r s ∧ (c ++ [a]).length ≤ 1000000000 ∧ InI (e - 1) ∧ fx m p1 r s (c ++ [a]) (e - 1) r0 l f) ∧ ((¬ 0 < e) → ∃ b, iK (Tree.node 1 p1 [] c) b ∧ ∃ n i k, aJ p q 2 n i k ∧ ((n = 0) → ∃ d o g, gD i k b d o g ∧ d = r0 ∧ o = l ∧ g = f) ∧ ((n ≠ 0) → b = r0 ∧ i = l ∧ k = f))) : fx (m + 1) p1 p q c e r0 l f := by
 intro K j1 hK hj1
 obtain ⟨j1, rfl⟩ : ∃ j, j1 = j + 1 := ⟨j1 - 1, by omega⟩
 refine gR 7 rfl <| gB 12 rfl rfl rfl ?_ ?_ <;> intro hd
 replace hd := (of_decide_eq_true hd)
 replace h := h.1 hd
 refine gR 5 rfl <| gDs [2] 7 8 rfl (by kernel_rfl) (by kernel_rfl) <| gDr [(0, 2), (1, 3), (2, 0)] (by kernel_rfl) rfl rfl ?_
 obtain ⟨a, r, s, hs12, h⟩ := h
 refine gDCY 3 hs12 [0] rfl ?_
 refine gDr [(4, 0)] (by kernel_rfl) rfl rfl <| gHR 6 (kidsV [a]) rfl (ct a) rfl ?_
 obtain ⟨hb, h⟩ := h
 refine aD 5 (.repl 3 (.row 25 4 (kidsV (c ++ [a])))) rfl (by kernel_rfl) (bj ab rfl rfl rfl rfl rfl (bo c [a]).symm (by rw [aE]; exact hb)) (okR rfl) rfl (by kernel_rfl) rfl rfl ?_
 refine gDr [(6, 0), (7, 1)] (by kernel_rfl) rfl rfl <| gDe (by kernel_rfl) <| gR 4 rfl ?_
 obtain ⟨hb, h⟩ := h
 exact gR 1 rfl <| gV 14 (.int .i64 (e - 1)) rfl (ax hb rfl) rfl <| gR 2 rfl <| go_xloop <| gJ (h K _ hK (by omega)) [0, 1, 2, 7] [0] rfl hK pq4 ⟨⟨_, rfl, rfl, rfl, (ba _ (c ++ [a])).symm⟩, (pqo3 rfl rfl rfl rfl rfl rfl)⟩ rfl
 replace hd := (of_decide_eq_false hd)
 replace h := h.2 hd
 refine gR 3 rfl <| go_xloopE <| gR 5 rfl <| gFR 3 rfl (ca _) rfl rfl ?_
 obtain ⟨b, hs13, h⟩ := h
 refine gC0 hs13 (by kernel_rfl) rfl rfl (.cons (.agg (.cons .rfl (.cons .rfl (.cons (.nil 1) (.cons .rfl .nil))))) .nil) rfl <| gR 7 rfl ?_
 obtain ⟨n, i, k, hs14, h⟩ := h
 refine gCY hs14 [0] ?_
 refine gR 3 rfl <| gB 26 rfl rfl rfl ?_ ?_ <;> intro hd
 replace hd := (eq_of_beq hd)
 replace h := h.1 hd
 refine gR 4 rfl ?_
 obtain ⟨d, o, g, hs15, h⟩ := h
 refine gCY hs15 [0] ?_
 refine gR 10 rfl ?_
 obtain ⟨rfl, rfl, rfl⟩ := h
 exact go_sub (F' := (mkF 31 0 [(4, .ptr 1 0)])) (H' := ⟨2, [(1, vE d.kind d.text d.leads d.kids), (0, vC o g)]⟩) [0, 1] [0] rfl hK pq1 (pqo2 rfl rfl rfl rfl) rfl <| go_endD [1] ab (rs := [.cell 4 25]) rfl rfl ⟨rfl, rfl⟩
 replace hd := (ne_of_beq_false hd)
 replace h := h.2 hd
 refine gR 10 rfl ?_
 obtain ⟨rfl, rfl, rfl⟩ := h
 exact go_sub (F' := (mkF 31 0 [(4, .ptr 1 0)])) (H' := ⟨2, [(1, vE b.kind b.text b.leads b.kids), (0, vC i k)]⟩) [0, 1] [0] rfl hK pq1 (pqo2 rfl rfl rfl rfl) rfl <| go_endD [1] ab (rs := [.cell 4 25]) rfl rfl ⟨rfl, rfl⟩
def bK (m : Nat) (a : List Int) (b : Int) (c : List Tree) (d : Int) (r0 : List Tree) : Prop := ∀ (K : Ctx) (j1 : Nat), aq K [] → m ≤ j1 → qLG K Tryz.f14 (fun u _ => u = .row 4 (kidsV r0)) (xI (xA (ac Tryz.f14))) [.loop (xI (xA (ac Tryz.f14))) j1, .blk 0, .seq (xA (xH (ac Tryz.f14)))] 35 (mkF 35 0 [(3, .ptr 0 0), (4, .sl 1), (5, .sl 2), (6, .int .i64 d)]) ⟨3, [(2, .row 9 1 [.str [65], .str [66], .str [67]]), (1, .row 25 4 (kidsV c)), (0, vC a b)]⟩
theorem pS (m : Nat) (p0 : List Int) (r0 : List Tree) (h : ∃ a b, nH p0 a b ∧ ∃ c d e, aJ a b 4 c d e ∧ bK m d e ([] : List Tree) c r0) : jh p0 r0 := by
 refine ⟨rfl, rfl, ?_⟩
 refine am 35 [] Tryz.func14 rfl rfl rfl (aL rfl) fun K hK => ?_
 refine gR 8 rfl ?_
 obtain ⟨a, b, hs14, h⟩ := h
 refine gC hs14 [] (by kernel_rfl) rfl rfl .rfl trivial rfl ?_
 rintro _ _ ⟨rfl, rfl⟩
 refine gR 18 rfl ?_
 obtain ⟨c, d, e, hs15, h⟩ := h
 refine gCY hs15 [0] ?_
 exact gR 4 rfl <| go_loop m <| gNS 4 25 4 rfl rfl rfl rfl <| gJ (h K _ hK (by omega)) [0, 3, 1] [] rfl hK pq4 ⟨⟨_, rfl, rfl, rfl, rfl⟩, ⟨_, rfl, rfl, rfl, rfl⟩, (pqo1 rfl rfl)⟩ rfl
theorem gX (m : Nat) (p : List Int) (q : Int) (b : List Tree) (c : Int) (r0 : List Tree) (h : ((0 < c) → ∃ l, [[65], [66], [67]][b.length]? = some l ∧ ∃ a n o, ju p q l a n o ∧ ∃ g d e, aJ n o 8 g d e ∧ ((g = 7) → ∃ i, dw (Tree.node a.kind [65] a.leads a.kids) i ∧ ((i = true) → (b ++ [(Tree.node a.kind [65] a.leads a.kids)]).length ≤ 1000000000 ∧ InI (c - 1) ∧ bK m d e (b ++ [(Tree.node a.kind [65] a.leads a.kids)]) (c - 1) r0) ∧ ((i = false) → InI (c - 1) ∧ bK m d e b (c - 1) r0)) ∧ ((g ≠ 7) → ∃ k, dw a k ∧ ((k = true) → (b ++ [a]).length ≤ 1000000000 ∧ InI (c - 1) ∧ bK m d e (b ++ [a]) (c - 1) r0) ∧ ((k = false) → InI (c - 1) ∧ bK m d e b (c - 1) r0))) ∧ ((¬ 0 < c) → b = r0)) : bK (m + 1) p q b c r0 := by
 intro K j1 hK hj1
 obtain ⟨j1, rfl⟩ : ∃ j, j1 = j + 1 := ⟨j1 - 1, by omega⟩
 refine gR 7 rfl <| gB 14 rfl rfl rfl ?_ ?_ <;> intro hd
 replace hd := (of_decide_eq_true hd)
 replace h := h.1 hd
 refine gR 11 rfl <| gV 20 (.int .i64 (b.length : Int)) rfl (bF (aE _)) rfl <| gLO 1 rfl (aE _) fun hl16 => ?_
 obtain ⟨l, hxs1_1, h⟩ := h
 refine gY (yIO ab rfl rfl rfl rfl (by have := (mapget (f := V.str) hxs1_1); exact (List.getElem?_eq_some_iff.1 this).1)) rfl rfl ?_
 refine gDo (.nop) (dLe ab rfl rfl rfl (mapget (f := V.str) hxs1_1) rfl) trivial rfl rfl rfl ?_
 obtain ⟨a, n, o, hs17, h⟩ := h
 refine gCY hs17 [0] ?_
 refine gR 8 rfl ?_
 obtain ⟨g, d, e, hs18, h⟩ := h
 refine gCY hs18 [0] ?_
 refine gR 3 rfl <| gB 26 rfl rfl rfl ?_ ?_ <;> intro hd
 replace hd := (eq_of_beq hd)
 replace h := h.1 hd
 refine gR 9 rfl ?_
 obtain ⟨i, hs19, h⟩ := h
 refine gC0 hs19 (by kernel_rfl) rfl rfl .rfl rfl <| gR 2 rfl <| gB 29 rfl rfl rfl ?_ ?_ <;> intro hd
 replace h := h.1 hd
 refine gR 5 rfl <| gHR 7 (kidsV [(Tree.node a.kind [65] a.leads a.kids)]) rfl (ct (Tree.node a.kind [65] a.leads a.kids)) rfl ?_
 obtain ⟨hb, h⟩ := h
 refine gDo (.repl 1 (.row 25 4 (kidsV (b ++ [(Tree.node a.kind [65] a.leads a.kids)])))) (bj ab rfl rfl rfl rfl rfl (bo b [(Tree.node a.kind [65] a.leads a.kids)]).symm (by rw [aE]; exact hb)) (okR rfl) rfl rfl rfl <| gR 6 rfl ?_
 obtain ⟨hb, h⟩ := h
 exact gR 1 rfl <| gV 16 (.int .i64 (c - 1)) rfl (ax hb rfl) rfl <| gR 2 rfl <| go_xloop <| gJ (h K _ hK (by omega)) [0, 8, 2] [] rfl hK pq4 ⟨⟨_, rfl, rfl, rfl, rfl⟩, ⟨_, rfl, rfl, rfl, (ba _ (b ++ [(Tree.node a.kind [65] a.leads a.kids)])).symm⟩, (pqo1 rfl rfl)⟩ rfl
 replace h := h.2 hd
 refine gR 6 rfl ?_
 obtain ⟨hb, h⟩ := h
 exact gR 1 rfl <| gV 16 (.int .i64 (c - 1)) rfl (ax hb rfl) rfl <| gR 2 rfl <| go_xloop <| gJ (h K _ hK (by omega)) [0, 1, 2] [] rfl hK pq4 ⟨⟨_, rfl, rfl, rfl, rfl⟩, ⟨_, rfl, rfl, rfl, (ba _ b).symm⟩, (pqo1 rfl rfl)⟩ rfl
 replace hd := (ne_of_beq_false hd)
 replace h := h.2 hd
 refine gR 6 rfl ?_
 obtain ⟨k, hs20, h⟩ := h
 refine gC0 hs20 (by kernel_rfl) rfl rfl .rfl rfl <| gR 2 rfl <| gB 29 rfl rfl rfl ?_ ?_ <;> intro hd
 replace h := h.1 hd
 refine gR 5 rfl <| gHR 7 (kidsV [a]) rfl (ct a) rfl ?_
 obtain ⟨hb, h⟩ := h
 refine gDo (.repl 1 (.row 25 4 (kidsV (b ++ [a])))) (bj ab rfl rfl rfl rfl rfl (bo b [a]).symm (by rw [aE]; exact hb)) (okR rfl) rfl rfl rfl <| gR 6 rfl ?_
 obtain ⟨hb, h⟩ := h
 exact gR 1 rfl <| gV 16 (.int .i64 (c - 1)) rfl (ax hb rfl) rfl <| gR 2 rfl <| go_xloop <| gJ (h K _ hK (by omega)) [0, 8, 2] [] rfl hK pq4 ⟨⟨_, rfl, rfl, rfl, rfl⟩, ⟨_, rfl, rfl, rfl, (ba _ (b ++ [a])).symm⟩, (pqo1 rfl rfl)⟩ rfl
 replace h := h.2 hd
 refine gR 6 rfl ?_
 obtain ⟨hb, h⟩ := h
 exact gR 1 rfl <| gV 16 (.int .i64 (c - 1)) rfl (ax hb rfl) rfl <| gR 2 rfl <| go_xloop <| gJ (h K _ hK (by omega)) [0, 1, 2] [] rfl hK pq4 ⟨⟨_, rfl, rfl, rfl, rfl⟩, ⟨_, rfl, rfl, rfl, (ba _ b).symm⟩, (pqo1 rfl rfl)⟩ rfl
 replace hd := (of_decide_eq_false hd)
 replace h := h.2 hd
 refine gR 3 rfl <| go_xloopE <| gR 9 rfl <| gFR 1 rfl (ca _) rfl rfl ?_
 subst h
 exact go_end ab (rs := [.tmp 2]) rfl rfl rfl
theorem kI (m : Nat) (b : List Int) (a p1 r0 : Int) (g : List Int) (c : Int) (h : (((b.length : Int) ≤ a) → 0 = r0 ∧ b = g ∧ a = c) ∧ ((¬ (b.length : Int) ≤ a) → InI (a + 1) ∧ InI ((a + 1) - 1) ∧ ∃ d, ((a + 1) - 1) = ((d : Nat) : Int) ∧ ∃ i, b[d]? = some i ∧ ∃ e, lM i p1 e ∧ e = r0 ∧ b = g ∧ (a + 1) = c)) : aJ b a p1 r0 g c := by
 refine am 35 [0] Tryz.func32 rfl rfl rfl (aL rfl) fun K hK => ?_
 refine gR 7 rfl <| gDs [0] 10 10 rfl (by kernel_rfl) (by kernel_rfl) <| gDr [(0, 2), (1, 2), (2, 2), (3, 3), (4, 0), (5, 0), (6, 0), (7, 0), (8, 0)] (by kernel_rfl) rfl rfl <| gV 13 (.int .i64 (b.length : Int)) rfl (bF (aZ (V.int .i64) _)) rfl <| gLB 12 rfl (aZ (V.int .i64) _) fun hl9 => gDr [(9, 0)] (by kernel_rfl) rfl rfl <| gDe (by kernel_rfl) <| gR 1 rfl <| qBd 14 rfl rfl rfl h (fun h => ?_) fun h => ?_
 refine gR 8 rfl ?_
 obtain ⟨rfl, rfl, rfl⟩ := h
 exact go_sub (F' := (mkF 35 0 [(4, .int .i64 0)])) (H' := ⟨1, [(0, vC b a)]⟩) [0] [0] rfl hK pq1 (pqo1 rfl rfl) rfl <| go_endD [] ab (rs := [.tmp 4]) rfl rfl ⟨rfl, rfl⟩
 refine gR 9 rfl ?_
 obtain ⟨hb, h⟩ := h
 refine gR 1 rfl <| gV 19 (.int .i64 (a + 1)) rfl (ax hb rfl) rfl <| gR 6 rfl <| gDs [0] 13 14 rfl (by kernel_rfl) (by kernel_rfl) <| gDr [(0, 2), (1, 2), (2, 2), (3, 3), (4, 2), (5, 2), (6, 2), (7, 3)] (by kernel_rfl) rfl rfl ?_
 obtain ⟨hb, h⟩ := h
 refine gDr [(8, 2)] (by kernel_rfl) rfl rfl <| gV 30 (.int .i64 ((a + 1) - 1)) rfl (ax hb rfl) rfl ?_
 obtain ⟨d, j, h⟩ := h
 refine gV 30 (.int .i64 ((d : Nat) : Int)) rfl (je j) rfl ?_
 obtain ⟨i, hxn0_2, h⟩ := h
 refine gYd 9 rfl (by kernel_rfl) (aI (mapget (f := (V.int .i64)) hxn0_2) ab rfl rfl rfl rfl) rfl rfl <| gDr [(10, 2), (11, 0)] (by kernel_rfl) rfl rfl ?_
 obtain ⟨e, hs10, h⟩ := h
 refine cf 12 hs10 (by kernel_rfl) rfl (by kernel_rfl) rfl rfl .rfl rfl rfl ?_
 refine gDr [(13, 1)] (by kernel_rfl) rfl rfl <| gDe (by kernel_rfl) <| gR 2 rfl ?_
 obtain ⟨rfl, rfl, rfl⟩ := h
 exact go_sub (F' := (mkF 35 0 [(4, .int .i64 e)])) (H' := ⟨1, [(0, vC b (a + 1))]⟩) [0] [0] rfl hK pq1 (pqo1 rfl rfl) rfl <| go_endD [] ab (rs := [.tmp 4]) rfl rfl ⟨rfl, rfl⟩
def fd (m : Nat) (p0 : Int) (a : (List (List UInt8))) (b : Nat) (r0 : (List (List UInt8))) : Prop := ∀ (K : Ctx) (j1 : Nat), aq K [] → m ≤ j1 → qLG K Tryz.f113 (fun u G => u = .sl 0 ∧ G = ⟨1, [(0, .row 9 1 (List.map V.str r0))]⟩) (xI (ac Tryz.f113)) [.loop (xI (ac Tryz.f113)) j1, .blk 0, .seq (xH (ac Tryz.f113))] 14 (mkF 14 0 [(0, .int .i64 p0), (3, .sl 0), (4, .int .i64 (b : Int))]) ⟨1, [(0, .row 9 1 (List.map V.str a))]⟩
theorem pX (m : Nat) (p0 : Int) (r0 : (List (List UInt8))) (h : fd m p0 ([] : List (List UInt8)) 0 r0) : ji p0 r0 := by
 refine am 14 [] Tryz.func113 rfl rfl rfl (aL rfl) fun K hK => ?_
 exact gR 17 rfl <| go_loop m <| gNS 3 9 1 rfl rfl rfl rfl <| gJ (h K _ hK (by omega)) [0] [] rfl hK pq3 ⟨⟨_, rfl, rfl, rfl, rfl⟩, trivial⟩ rfl
theorem ic (m : Nat) (p0 : Int) (a : (List (List UInt8))) (b : Nat) (r0 : (List (List UInt8))) (h : (((b : Int) < p0) → (a ++ [[32]]).length ≤ 1000000000 ∧ b + 1 ≤ 9223372036854775807 ∧ fd m p0 (a ++ [[32]]) (b + 1) r0) ∧ ((¬ (b : Int) < p0) → a = r0)) : fd (m + 1) p0 a b r0 := by
 intro K j1 hK hj1
 obtain ⟨j1, rfl⟩ : ∃ j, j1 = j + 1 := ⟨j1 - 1, by omega⟩
 refine gR 8 rfl <| gB 7 rfl rfl rfl ?_ ?_ <;> intro hd
 replace hd := (of_decide_eq_true hd)
 replace h := h.1 hd
 refine gR 8 rfl ?_
 obtain ⟨hb, h⟩ := h
 refine gDo (.repl 0 (.row 9 1 (List.map V.str (a ++ [[32]])))) (bj ab rfl rfl rfl rfl rfl (apM V.str a [32]) (by rw [aZ]; exact hb)) (okR rfl) rfl rfl rfl <| gR 6 rfl ?_
 obtain ⟨hb, h⟩ := h
 exact gR 1 rfl <| gV 9 (.int .i64 ((b + 1 : Nat) : Int)) rfl (ax (by omega) (by omega)) rfl <| gR 2 rfl <| go_xloop <| gJ (h K _ hK (by omega)) [2] [] rfl hK pq3 ⟨⟨_, rfl, rfl, rfl, (vH _ (a ++ [[32]])).symm⟩, trivial⟩ rfl
 replace hd := (of_decide_eq_false hd)
 replace h := h.2 hd
 refine gR 3 rfl <| go_xloopE <| gR 9 rfl ?_
 subst h
 exact go_sub (F' := (mkF 14 0 [(2, .sl 0)])) (H' := ⟨1, [(0, .row 9 1 (List.map V.str a))]⟩) [0] [] rfl hK pq1 ⟨⟨_, rfl, rfl, rfl, (vH _ a).symm⟩, trivial⟩ rfl <| go_endD [] ab (rs := [.tmp 2]) rfl rfl ⟨rfl, rfl⟩
def dL (m : Nat) (p0 : Tree) (p2 : List UInt8) (a : Bool) (r0 : List UInt8) : Prop := ∀ (K : Ctx), aq K [] → qLG K Tryz.f114 (fun u _ => u = .str r0) (cB (xG (ac Tryz.f114))) [.blk 1, .seq (xH (ac Tryz.f114))] 31 (mkF 31 0 [(2, .str p2), (3, .box (ae p0) 0), (15, .int .i64 p0.kind), (16, .bool a)]) ⟨0, []⟩
theorem qa (m : Nat) (p0 : Tree) (p1 : Int) (p2 r0 : List UInt8) (h : ((p0.kind = 1) → [10, 10] = r0) ∧ ((p0.kind ≠ 1) → ((0 < p1) → [32] = r0) ∧ ((¬ 0 < p1) → ((p0.kind = 8) → dL m p0 p2 true r0) ∧ ((p0.kind ≠ 8) → ((p0.kind = 22) → dL m p0 p2 true r0) ∧ ((p0.kind ≠ 22) → ((p0.kind = 16) → dL m p0 p2 true r0) ∧ ((p0.kind ≠ 16) → dL m p0 p2 (p0.kind == 18) r0)))))) : jg p0 p1 p2 r0 := by
 refine ⟨rfl, rfl, ?_⟩
 refine am 31 [] Tryz.func114 rfl rfl rfl (aL rfl) fun K hK => ?_
 refine gR 3 rfl <| gFP 0 rfl rfl rfl rfl <| gR 13 rfl <| qBeZ 7 10 rfl rfl rfl rfl h (fun h => ?_) fun h => ?_
 refine gR 9 rfl ?_
 subst h
 exact go_end ab (rs := [.tmp 6]) rfl rfl rfl
 refine gR 8 rfl <| qBdZ 11 13 rfl rfl rfl rfl h (fun h => ?_) fun h => ?_
 refine gR 9 rfl ?_
 subst h
 exact go_end ab (rs := [.tmp 6]) rfl rfl rfl
 refine gR 19 rfl <| qBeZ 16 17 rfl rfl rfl rfl h (fun h => ?_) fun h => ?_
 exact gR 3 rfl <| gJ (h K hK) [] [] rfl hK pq4 trivial rfl
 refine gR 7 rfl <| qBeZ 16 18 rfl rfl rfl rfl h (fun h => ?_) fun h => ?_
 exact gR 3 rfl <| gJ (h K hK) [] [] rfl hK pq4 trivial rfl
 refine gR 7 rfl <| qBeZ 16 19 rfl rfl rfl rfl h (fun h => ?_) fun h => ?_
 exact gR 3 rfl <| gJ (h K hK) [] [] rfl hK pq4 trivial rfl
 exact gR 6 rfl <| gJ (h K hK) [] [] rfl hK pq4 trivial rfl
theorem pm (m : Nat) (p0 : Tree) (p2 : List UInt8) (a : Bool) (r0 : List UInt8) (h : ((a = true) → [] = r0) ∧ ((a = false) → ((p0.kind = 2) → ((2 < (p0.kids.length : Int)) → [] = r0) ∧ ((¬ 2 < (p0.kids.length : Int)) → [32] = r0)) ∧ ((p0.kind ≠ 2) → ((p0.kind = 17) → p2 = r0) ∧ ((p0.kind ≠ 17) → ((p0.kind = 21) → p2 = r0) ∧ ((p0.kind ≠ 21) → [32] = r0))))) : dL (m + 1) p0 p2 a r0 := by
 intro K hK
 refine qBi 16 rfl rfl rfl h (fun h => ?_) fun h => ?_
 refine gR 9 rfl ?_
 subst h
 exact go_end ab (rs := [.tmp 6]) rfl rfl rfl
 refine gR 7 rfl <| qBeZ 21 22 rfl rfl rfl rfl h (fun h => ?_) fun h => ?_
 refine gR 6 rfl <| gV 25 (.int .i64 (p0.kids.length : Int)) rfl (bF (aE _)) rfl <| gLB 24 rfl (aE _) fun hl3 => gR 3 rfl <| qBd 26 rfl rfl rfl h (fun h => ?_) fun h => ?_
 refine gR 9 rfl ?_
 subst h
 exact go_end ab (rs := [.tmp 6]) rfl rfl rfl
 refine gR 10 rfl ?_
 subst h
 exact go_end ab (rs := [.tmp 6]) rfl rfl rfl
 refine gR 8 rfl <| qBeZ 27 28 rfl rfl rfl rfl h (fun h => ?_) fun h => ?_
 refine gR 13 rfl ?_
 subst h
 exact go_end ab (rs := [.tmp 6]) rfl rfl rfl
 refine gR 6 rfl <| qBeZ 27 29 rfl rfl rfl rfl h (fun h => ?_) fun h => ?_
 refine gR 10 rfl ?_
 subst h
 exact go_end ab (rs := [.tmp 6]) rfl rfl rfl
 refine gR 10 rfl ?_
 subst h
 exact go_end ab (rs := [.tmp 6]) rfl rfl rfl
def lf (m : Nat) (p0 : Tree) (p1 : List UInt8) (a : (List (List UInt8))) (r0 : Tree) : Prop := ∀ (K : Ctx), aq K [] → Go Tryz.prog K (bodyPost Tryz.prog Tryz.f92 (SP K (fun u _ => u = .agg (ae r0)))) (.ex .normal) [.seq (xH (ac Tryz.f92))] 109 (mkF 109 0 [(1, .str p1), (2, .box (ae p0) 0), (4, .ptr 0 0), (5, .int .i64 (p0.kids.length : Int)), (6, .ptr 1 0)]) ⟨3, [(2, .row 9 1 (List.map V.str a)), (1, .var 25 [.int .i64 p0.kind, .str p0.text, .sl 2, .nils]), (0, vB 0 [])]⟩
def dA (m : Nat) (p0 : Tree) (p1 : List UInt8) (a : (List (List UInt8))) (b : List Tree) (c : Nat) (r0 : Tree) : Prop := ∀ (K : Ctx) (j1 : Nat), aq K [] → m ≤ j1 → qLG K Tryz.f92 (fun u _ => u = .agg (ae r0)) (xI (xA (ac Tryz.f92))) [.loop (xI (xA (ac Tryz.f92))) j1, .blk 0, .seq (xA (xH (ac Tryz.f92)))] 109 (mkF 109 0 [(1, .str p1), (2, .box (ae p0) 0), (4, .ptr 0 0), (5, .int .i64 (p0.kids.length : Int)), (6, .ptr 1 0), (7, .sl 2), (8, .int .i64 (c : Int))]) ⟨4, [(3, .row 9 1 (List.map V.str a)), (2, .row 25 4 (kidsV b)), (1, vG p0.kind p0.text), (0, vB 0 [])]⟩
def dy (m : Nat) (p0 : Tree) (a : (List (List UInt8))) (b : List Tree) (r0 : Tree) : Prop := ∀ (K : Ctx), aq K [] → qLG K Tryz.f92 (fun u _ => u = .agg (ae r0)) (xJ (xA (ac Tryz.f92))) [] 109 (mkF 109 0 [(2, .box (ae p0) 0), (4, .ptr 0 0), (6, .ptr 1 0), (7, .sl 2)]) ⟨4, [(3, .row 9 1 (List.map V.str a)), (2, .row 25 4 (kidsV b)), (1, vG p0.kind p0.text), (0, vB 0 [])]⟩
def eK (m : Nat) (p0 : Tree) (a : (List (List UInt8))) (b : Nat) (c : List Tree) (r0 : Tree) : Prop := ∀ (K : Ctx) (j1 : Nat), aq K [] → m ≤ j1 → qLG K Tryz.f92 (fun u _ => u = .agg (ae r0)) (cL (xM (xK (xN (xJ (ac Tryz.f92)))))) [.loop (cL (xM (xK (xN (xJ (ac Tryz.f92)))))) j1, .blk 3, .blk 2, .seq (xJ (xH (ac Tryz.f92)))] 109 (mkF 109 0 [(4, .ptr 0 0), (6, .ptr 1 0), (7, .sl 2), (9, .int .i64 (b : Int))]) ⟨4, [(3, .row 9 1 (List.map V.str a)), (2, .row 25 4 (kidsV c)), (1, vG p0.kind p0.text), (0, vB 0 [])]⟩
def dz (m : Nat) (p0 : Tree) (a : (List (List UInt8))) (b : Nat) (c : List Tree) (r0 : Tree) : Prop := ∀ (K : Ctx) (j1 : Nat), aq K [] → m ≤ j1 → qLG K Tryz.f92 (fun u _ => u = .agg (ae r0)) (cL (xE (xK (xC (xN (xJ (ac Tryz.f92))))))) [.loop (cL (xE (xK (xC (xN (xJ (ac Tryz.f92))))))) j1, .blk 5, .blk 2, .seq (xJ (xH (ac Tryz.f92)))] 109 (mkF 109 0 [(4, .ptr 0 0), (6, .ptr 1 0), (7, .sl 2), (10, .int .i64 (b : Int))]) ⟨4, [(3, .row 9 1 (List.map V.str a)), (2, .row 25 4 (kidsV c)), (1, vG p0.kind p0.text), (0, vB 0 [])]⟩
theorem pp (m : Nat) (p0 : Tree) (p1 : List UInt8) (r0 : Tree) (h : ∃ b, ev p0.kind (p0.kids.length : Int) b ∧ ∃ a, ji b a ∧ lf m p0 p1 a r0) : fb p0 p1 r0 := by
 refine ⟨rfl, rfl, ?_⟩
 refine am 109 [] Tryz.func92 rfl rfl rfl (aL rfl) fun K hK => ?_
 refine gR 3 rfl <| gFP 0 rfl rfl rfl rfl <| gR 8 rfl <| gV 13 (.int .i64 (p0.kids.length : Int)) rfl (bF (aE _)) rfl <| gLB 12 rfl (aE _) fun hl31 => gR 4 rfl <| gDs [] 11 12 rfl (by kernel_rfl) (by kernel_rfl) <| gDr [(0, 2), (1, 2), (2, 2), (3, 2), (4, 2), (5, 2), (6, 2)] (by kernel_rfl) rfl rfl ?_
 obtain ⟨b, hs32, h⟩ := h
 apply lL (i := 7) (j := 10) (by kernel_rfl) rfl rfl rfl rfl
 exact (oW (L' := []) (by kernel_rfl) rfl rfl (vh hs32 .rfl [] rfl) (.inl rfl))
 exact (jV ab rfl rfl)
 obtain ⟨a, hs33, h⟩ := h
 apply lL (i := 8) (j := 10) (by kernel_rfl) rfl rfl rfl rfl
 exact (oW (L' := []) (by kernel_rfl) rfl rfl (uH (H := ⟨2, [(1, vB 0 [])]⟩) hs33 [] .rfl trivial rfl [] rfl) (.inl rfl))
 exact (jV ab rfl rfl)
 exact gHR 2 (List.map V.str a) rfl (vH _ a) rfl <| gDr [(9, 2), (10, 0), (11, 1)] (by kernel_rfl) rfl rfl <| gDe (by kernel_rfl) <| gJ (h K hK) [1, 3, 2] [] rfl hK pq5 ⟨⟨_, rfl, rfl, rfl, (vH _ a).symm⟩, (pqo2 rfl rfl rfl rfl)⟩ rfl
 refine gDC 8 hs33 [] (by kernel_rfl) rfl (by kernel_rfl) rfl rfl .rfl trivial (by kernel_rfl) rfl ?_
 rintro _ _ ⟨rfl, rfl⟩
 exact gHR 3 (List.map V.str a) rfl (vH _ a) rfl <| gDr [(9, 0), (11, 1)] (by kernel_rfl) rfl rfl <| gDe (by kernel_rfl) <| gJ (h K hK) [1, 2, 3] [] rfl hK pq5 ⟨⟨_, rfl, rfl, rfl, (vH _ a).symm⟩, (pqo2 rfl rfl rfl rfl)⟩ rfl
 refine cf 7 hs32 (by kernel_rfl) rfl (by kernel_rfl) rfl rfl .rfl rfl rfl ?_
 obtain ⟨a, hs34, h⟩ := h
 refine gDC 8 hs34 [] (by kernel_rfl) rfl (by kernel_rfl) rfl rfl .rfl trivial (by kernel_rfl) rfl ?_
 rintro _ _ ⟨rfl, rfl⟩
 exact gHR 3 (List.map V.str a) rfl (vH _ a) rfl <| gDr [(9, 0), (11, 1)] (by kernel_rfl) rfl rfl <| gDe (by kernel_rfl) <| gJ (h K hK) [1, 2, 3] [] rfl hK pq5 ⟨⟨_, rfl, rfl, rfl, (vH _ a).symm⟩, (pqo2 rfl rfl rfl rfl)⟩ rfl
theorem oM (m : Nat) (p0 : Tree) (p1 : List UInt8) (a : (List (List UInt8))) (r0 : Tree) (h : p0.kids.length ≤ 1000000000 ∧ dA m p0 p1 a (List.replicate p0.kids.length (Tree.node 0 [] [] [])) 0 r0) : lf (m + 1) p0 p1 a r0 := by
 intro K hK
 refine gR 4 rfl ?_
 obtain ⟨hb, h⟩ := h
 exact gDo (.new (.row 25 4 (List.replicate p0.kids.length (.agg [.int .i64 0, .str [], .nils, .nils])))) (dMk ab rfl rfl rfl rfl rfl rfl rfl (by kernel_rfl) hb) trivial rfl rfl rfl <| gHW 3 (List.replicate p0.kids.length (.agg [.int .i64 0, .str [], .row 1 [], .row 4 (kidsV [])])) rfl rfl (aC.rep (.agg (.cons .rfl (.cons .rfl (.cons (.nil 1) (.cons (.nil 4) .nil))))) _) rfl <| gHR 3 (kidsV (List.replicate p0.kids.length (Tree.node 0 [] [] []))) rfl (by first | (simp only [bb, List.map_replicate]; done) | (simp only [bb, List.map_replicate]; rfl)) rfl <| gR 10 rfl <| go_loop m <| gJ (h K _ hK (by omega)) [0, 1, 3, 2] [] rfl hK pq7 ⟨⟨_, rfl, rfl, rfl, (vH _ a).symm⟩, ⟨_, rfl, rfl, rfl, (ba _ (List.replicate p0.kids.length (Tree.node 0 [] [] []))).symm⟩, (pqo2 rfl rfl rfl rfl)⟩ rfl
theorem en (m : Nat) (p0 : Tree) (p1 : List UInt8) (b : (List (List UInt8))) (c : List Tree) (a : Nat) (r0 : Tree) (h : ((a < p0.kids.length) → ∃ e, p0.kids[a]? = some e ∧ ∃ g, jg p0 (a : Int) p1 g ∧ ∃ d, fb e g d ∧ ∃ i, c[a]? = some i ∧ a + 1 ≤ 9223372036854775807 ∧ dA m p0 p1 b (c.set a d) (a + 1) r0) ∧ ((¬ a < p0.kids.length) → ((p0.kind ≠ 17) → ((p0.kind ≠ 21) → ∃ k, b[0]? = some k ∧ dy m p0 (b.set 0 p1) c r0) ∧ ((p0.kind = 21) → dy m p0 b c r0)) ∧ ((p0.kind = 17) → dy m p0 b c r0))) : dA (m + 1) p0 p1 b c a r0 := by
 intro K j1 hK hj1
 obtain ⟨j1, rfl⟩ : ∃ j, j1 = j + 1 := ⟨j1 - 1, by omega⟩
 refine gR 8 rfl <| gB 28 rfl rfl rfl ?_ ?_ <;> intro hd
 replace hd := (fh hd)
 replace h := h.1 hd
 refine gR 5 rfl <| gDs [] 13 14 rfl (by kernel_rfl) (by kernel_rfl) <| gDr [(0, 2), (1, 2), (2, 2), (3, 2), (4, 2)] (by kernel_rfl) rfl rfl ?_
 obtain ⟨e, hxt2_1, h⟩ := h
 refine gYd 5 rfl (by kernel_rfl) (aI (av hxt2_1) ab rfl rfl rfl rfl) rfl rfl <| gDr [(6, 2), (7, 2), (8, 2), (9, 0)] (by kernel_rfl) rfl rfl ?_
 obtain ⟨g, hs35, h⟩ := h
 refine cf 10 hs35 (by kernel_rfl) rfl (by kernel_rfl) rfl rfl .rfl rfl rfl ?_
 obtain ⟨d, hs36, h⟩ := h
 refine cf 11 hs36 (by kernel_rfl) rfl (by kernel_rfl) rfl rfl .rfl rfl rfl ?_
 obtain ⟨i, hxt2_4, h⟩ := h
 refine bi 12 rfl (by kernel_rfl) (yIO ab rfl rfl rfl rfl (by have := (av hxt2_4); exact (List.getElem?_eq_some_iff.1 this).1)) rfl rfl ?_
 refine aD 13 (.set 2 (.row 25 4 (kidsV (c.set a d)))) rfl (by kernel_rfl) (dSe ab rfl rfl rfl rfl (av hxt2_4) rfl (AH c a d)) (okS rfl) rfl (by kernel_rfl) rfl rfl ?_
 refine gDe (by kernel_rfl) <| gR 4 rfl ?_
 obtain ⟨hb, h⟩ := h
 exact gR 1 rfl <| gV 30 (.int .i64 ((a + 1 : Nat) : Int)) rfl (ax (by omega) (by omega)) rfl <| gR 2 rfl <| go_xloop <| gJ (h K _ hK (by omega)) [0, 1, 2, 3] [] rfl hK pq7 ⟨⟨_, rfl, rfl, rfl, (vH _ b).symm⟩, ⟨_, rfl, rfl, rfl, (ba _ (c.set a d)).symm⟩, (pqo2 rfl rfl rfl rfl)⟩ rfl
 replace hd := (fo hd)
 replace h := h.2 hd
 refine gR 3 rfl <| go_xloopE <| gR 9 rfl <| gB 47 rfl rfl rfl ?_ ?_ <;> intro hd
 refine gT 46 rfl hd rfl ?_
 replace hd := (eF hd)
 replace h := h.1 hd
 refine gR 6 rfl <| gB 51 rfl rfl rfl ?_ ?_ <;> intro hd
 replace hd := (eF hd)
 replace h := h.1 hd
 refine gR 5 rfl ?_
 obtain ⟨k, hxs2_5, h⟩ := h
 refine gY (yIO ab rfl rfl rfl rfl (by have := (mapget (f := V.str) hxs2_5); exact (List.getElem?_eq_some_iff.1 this).1)) rfl rfl ?_
 exact gDo (.set 3 (.row 9 1 (List.map V.str (b.set 0 p1)))) (dSe ab rfl rfl rfl rfl (mapget (f := V.str) hxs2_5) rfl (bC V.str b 0 p1)) (okS rfl) rfl rfl rfl <| gR 2 rfl <| gJ (h K hK) [0, 1, 2, 3] [] rfl hK pq4 ⟨⟨_, rfl, rfl, rfl, (vH _ (b.set 0 p1)).symm⟩, ⟨_, rfl, rfl, rfl, (ba _ c).symm⟩, (pqo2 rfl rfl rfl rfl)⟩ rfl
 replace hd := (dl hd)
 replace h := h.2 hd
 exact gR 3 rfl <| gJ (h K hK) [0, 1, 2, 3] [] rfl hK pq4 ⟨⟨_, rfl, rfl, rfl, (vH _ b).symm⟩, ⟨_, rfl, rfl, rfl, (ba _ c).symm⟩, (pqo2 rfl rfl rfl rfl)⟩ rfl
 refine gF 46 rfl hd rfl ?_
 replace hd := (dl hd)
 replace h := h.2 hd
 exact gR 9 rfl <| gJ (h K hK) [0, 1, 2, 3] [] rfl hK pq4 ⟨⟨_, rfl, rfl, rfl, (vH _ b).symm⟩, ⟨_, rfl, rfl, rfl, (ba _ c).symm⟩, (pqo2 rfl rfl rfl rfl)⟩ rfl
theorem bO (m : Nat) (p0 : Tree) (a : (List (List UInt8))) (b : List Tree) (r0 : Tree) (h : ((p0.kind = 1) → ∃ c, a[2]? = some c ∧ (Tree.node p0.kind p0.text (a.set 2 [10]) b) = r0) ∧ ((p0.kind ≠ 1) → ((p0.kind = 2) → ∃ d, a[2]? = some d ∧ ∃ e, (a.set 2 [])[3]? = some e ∧ ∃ g, ((a.set 2 []).set 3 [])[4]? = some g ∧ eK m p0 (((a.set 2 []).set 3 []).set 4 []) 6 b r0) ∧ ((p0.kind ≠ 2) → ((p0.kind = 4) → ∃ i, a[1]? = some i ∧ (Tree.node p0.kind p0.text (a.set 1 []) b) = r0) ∧ ((p0.kind ≠ 4) → ((p0.kind = 8) → ∃ j, a[1]? = some j ∧ (Tree.node p0.kind p0.text (a.set 1 []) b) = r0) ∧ ((p0.kind ≠ 8) → ((p0.kind = 22) → ∃ k, a[1]? = some k ∧ (Tree.node p0.kind p0.text (a.set 1 []) b) = r0) ∧ ((p0.kind ≠ 22) → ((p0.kind = 16) → dz m p0 a 1 b r0) ∧ ((p0.kind ≠ 16) → ((p0.kind = 18) → dz m p0 a 1 b r0) ∧ ((p0.kind ≠ 18) → (Tree.node p0.kind p0.text a b) = r0)))))))) : dy (m + 1) p0 a b r0 := by
 intro K hK
 refine gR 14 rfl <| gB 58 rfl rfl rfl ?_ ?_ <;> intro hd
 refine gT 59 rfl hd rfl ?_
 replace hd := (eq_of_beq hd)
 replace h := h.1 hd
 refine gR 4 rfl ?_
 obtain ⟨c, hxs3_1, h⟩ := h
 refine gY (yIO ab rfl rfl rfl rfl (by have := (mapget (f := V.str) hxs3_1); exact (List.getElem?_eq_some_iff.1 this).1)) rfl rfl ?_
 refine gDo (.set 3 (.row 9 1 (List.map V.str (a.set 2 [10])))) (dSe ab rfl rfl rfl rfl (mapget (f := V.str) hxs3_1) rfl (bC V.str a 2 [10])) (okS rfl) rfl rfl rfl <| gR 17 rfl <| gFR 3 rfl (dn _ (fun _ => rfl) _) rfl rfl <| gFR 2 rfl (ca _) rfl rfl ?_
 subst h
 exact go_sub (F' := (mkF 109 0 [(4, .ptr 0 0)])) (H' := ⟨1, [(0, vE ((Tree.node p0.kind p0.text (a.set 2 [10]) b).kind) ((Tree.node p0.kind p0.text (a.set 2 [10]) b).text) ((Tree.node p0.kind p0.text (a.set 2 [10]) b).leads) ((Tree.node p0.kind p0.text (a.set 2 [10]) b).kids))]⟩) [0] [] rfl hK pq1 (pqo1 rfl rfl) rfl <| go_end ab (rs := [.cell 4 25]) rfl rfl rfl
 refine gF 59 rfl hd rfl ?_
 replace hd := (ne_of_beq_false hd)
 replace h := h.2 hd
 refine gR 7 rfl <| gB 63 rfl rfl rfl ?_ ?_ <;> intro hd
 refine gT 64 rfl hd rfl ?_
 replace hd := (eq_of_beq hd)
 replace h := h.1 hd
 refine gR 2 rfl <| gDs [1] 11 12 rfl (by kernel_rfl) (by kernel_rfl) <| gDr [(0, 2), (1, 3), (2, 2), (3, 3), (4, 2), (5, 3)] (by kernel_rfl) rfl rfl ?_
 obtain ⟨d, hxs3_2, h⟩ := h
 refine bi 6 rfl (by kernel_rfl) (yIO ab rfl rfl rfl rfl (by have := (mapget (f := V.str) hxs3_2); exact (List.getElem?_eq_some_iff.1 this).1)) rfl rfl ?_
 refine aD 7 (.set 3 (.row 9 1 (List.map V.str (a.set 2 [])))) rfl (by kernel_rfl) (dSe ab rfl rfl rfl rfl (mapget (f := V.str) hxs3_2) rfl (bC V.str a 2 [])) (okS rfl) rfl (by kernel_rfl) rfl rfl ?_
 obtain ⟨e, hxs3_3, h⟩ := h
 refine bi 8 rfl (by kernel_rfl) (yIO ab rfl rfl rfl rfl (by have := (mapget (f := V.str) hxs3_3); exact (List.getElem?_eq_some_iff.1 this).1)) rfl rfl ?_
 refine aD 9 (.set 3 (.row 9 1 (List.map V.str ((a.set 2 []).set 3 [])))) rfl (by kernel_rfl) (dSe ab rfl rfl rfl rfl (mapget (f := V.str) hxs3_3) rfl (bC V.str (a.set 2 []) 3 [])) (okS rfl) rfl (by kernel_rfl) rfl rfl ?_
 obtain ⟨g, hxs3_4, h⟩ := h
 refine bi 10 rfl (by kernel_rfl) (yIO ab rfl rfl rfl rfl (by have := (mapget (f := V.str) hxs3_4); exact (List.getElem?_eq_some_iff.1 this).1)) rfl rfl ?_
 refine aD 11 (.set 3 (.row 9 1 (List.map V.str (((a.set 2 []).set 3 []).set 4 [])))) rfl (by kernel_rfl) (dSe ab rfl rfl rfl rfl (mapget (f := V.str) hxs3_4) rfl (bC V.str ((a.set 2 []).set 3 []) 4 [])) (okS rfl) rfl (by kernel_rfl) rfl rfl ?_
 exact gDe (by kernel_rfl) <| gR 7 rfl <| go_loop m <| gJ (h K _ hK (by omega)) [0, 1, 2, 3] [] rfl hK pq4 ⟨⟨_, rfl, rfl, rfl, (vH _ (((a.set 2 []).set 3 []).set 4 [])).symm⟩, ⟨_, rfl, rfl, rfl, (ba _ b).symm⟩, (pqo2 rfl rfl rfl rfl)⟩ rfl
 refine gF 64 rfl hd rfl ?_
 replace hd := (ne_of_beq_false hd)
 replace h := h.2 hd
 refine gR 8 rfl <| gB 85 rfl rfl rfl ?_ ?_ <;> intro hd
 refine gT 86 rfl hd rfl ?_
 replace hd := (eq_of_beq hd)
 replace h := h.1 hd
 refine gR 7 rfl ?_
 obtain ⟨i, hxs3_5, h⟩ := h
 refine gY (yIO ab rfl rfl rfl rfl (by have := (mapget (f := V.str) hxs3_5); exact (List.getElem?_eq_some_iff.1 this).1)) rfl rfl ?_
 refine gDo (.set 3 (.row 9 1 (List.map V.str (a.set 1 [])))) (dSe ab rfl rfl rfl rfl (mapget (f := V.str) hxs3_5) rfl (bC V.str a 1 [])) (okS rfl) rfl rfl rfl <| gR 17 rfl <| gFR 3 rfl (dn _ (fun _ => rfl) _) rfl rfl <| gFR 2 rfl (ca _) rfl rfl ?_
 subst h
 exact go_sub (F' := (mkF 109 0 [(4, .ptr 0 0)])) (H' := ⟨1, [(0, vE ((Tree.node p0.kind p0.text (a.set 1 []) b).kind) ((Tree.node p0.kind p0.text (a.set 1 []) b).text) ((Tree.node p0.kind p0.text (a.set 1 []) b).leads) ((Tree.node p0.kind p0.text (a.set 1 []) b).kids))]⟩) [0] [] rfl hK pq1 (pqo1 rfl rfl) rfl <| go_end ab (rs := [.cell 4 25]) rfl rfl rfl
 refine gF 86 rfl hd rfl ?_
 replace hd := (ne_of_beq_false hd)
 replace h := h.2 hd
 refine gR 7 rfl <| gB 85 rfl rfl rfl ?_ ?_ <;> intro hd
 refine gT 87 rfl hd rfl ?_
 replace hd := (eq_of_beq hd)
 replace h := h.1 hd
 refine gR 7 rfl ?_
 obtain ⟨j, hxs3_6, h⟩ := h
 refine gY (yIO ab rfl rfl rfl rfl (by have := (mapget (f := V.str) hxs3_6); exact (List.getElem?_eq_some_iff.1 this).1)) rfl rfl ?_
 refine gDo (.set 3 (.row 9 1 (List.map V.str (a.set 1 [])))) (dSe ab rfl rfl rfl rfl (mapget (f := V.str) hxs3_6) rfl (bC V.str a 1 [])) (okS rfl) rfl rfl rfl <| gR 17 rfl <| gFR 3 rfl (dn _ (fun _ => rfl) _) rfl rfl <| gFR 2 rfl (ca _) rfl rfl ?_
 subst h
 exact go_sub (F' := (mkF 109 0 [(4, .ptr 0 0)])) (H' := ⟨1, [(0, vE ((Tree.node p0.kind p0.text (a.set 1 []) b).kind) ((Tree.node p0.kind p0.text (a.set 1 []) b).text) ((Tree.node p0.kind p0.text (a.set 1 []) b).leads) ((Tree.node p0.kind p0.text (a.set 1 []) b).kids))]⟩) [0] [] rfl hK pq1 (pqo1 rfl rfl) rfl <| go_end ab (rs := [.cell 4 25]) rfl rfl rfl
 refine gF 87 rfl hd rfl ?_
 replace hd := (ne_of_beq_false hd)
 replace h := h.2 hd
 refine gR 6 rfl <| gB 85 rfl rfl rfl ?_ ?_ <;> intro hd
 refine gT 88 rfl hd rfl ?_
 replace hd := (eq_of_beq hd)
 replace h := h.1 hd
 refine gR 4 rfl ?_
 obtain ⟨k, hxs3_7, h⟩ := h
 refine gY (yIO ab rfl rfl rfl rfl (by have := (mapget (f := V.str) hxs3_7); exact (List.getElem?_eq_some_iff.1 this).1)) rfl rfl ?_
 refine gDo (.set 3 (.row 9 1 (List.map V.str (a.set 1 [])))) (dSe ab rfl rfl rfl rfl (mapget (f := V.str) hxs3_7) rfl (bC V.str a 1 [])) (okS rfl) rfl rfl rfl <| gR 17 rfl <| gFR 3 rfl (dn _ (fun _ => rfl) _) rfl rfl <| gFR 2 rfl (ca _) rfl rfl ?_
 subst h
 exact go_sub (F' := (mkF 109 0 [(4, .ptr 0 0)])) (H' := ⟨1, [(0, vE ((Tree.node p0.kind p0.text (a.set 1 []) b).kind) ((Tree.node p0.kind p0.text (a.set 1 []) b).text) ((Tree.node p0.kind p0.text (a.set 1 []) b).leads) ((Tree.node p0.kind p0.text (a.set 1 []) b).kids))]⟩) [0] [] rfl hK pq1 (pqo1 rfl rfl) rfl <| go_end ab (rs := [.cell 4 25]) rfl rfl rfl
 refine gF 88 rfl hd rfl ?_
 replace hd := (ne_of_beq_false hd)
 replace h := h.2 hd
 refine gR 8 rfl <| gB 92 rfl rfl rfl ?_ ?_ <;> intro hd
 refine gT 93 rfl hd rfl ?_
 replace hd := (eq_of_beq hd)
 replace h := h.1 hd
 exact gR 10 rfl <| go_loop m <| gJ (h K _ hK (by omega)) [0, 1, 2, 3] [] rfl hK pq4 ⟨⟨_, rfl, rfl, rfl, (vH _ a).symm⟩, ⟨_, rfl, rfl, rfl, (ba _ b).symm⟩, (pqo2 rfl rfl rfl rfl)⟩ rfl
 refine gF 93 rfl hd rfl ?_
 replace hd := (ne_of_beq_false hd)
 replace h := h.2 hd
 refine gR 6 rfl <| gB 92 rfl rfl rfl ?_ ?_ <;> intro hd
 refine gT 94 rfl hd rfl ?_
 replace hd := (eq_of_beq hd)
 replace h := h.1 hd
 exact gR 7 rfl <| go_loop m <| gJ (h K _ hK (by omega)) [0, 1, 2, 3] [] rfl hK pq4 ⟨⟨_, rfl, rfl, rfl, (vH _ a).symm⟩, ⟨_, rfl, rfl, rfl, (ba _ b).symm⟩, (pqo2 rfl rfl rfl rfl)⟩ rfl
 refine gF 94 rfl hd rfl ?_
 replace hd := (ne_of_beq_false hd)
 replace h := h.2 hd
 refine gR 18 rfl <| gFR 3 rfl (dn _ (fun _ => rfl) _) rfl rfl <| gFR 2 rfl (ca _) rfl rfl ?_
 subst h
 exact go_sub (F' := (mkF 109 0 [(4, .ptr 0 0)])) (H' := ⟨1, [(0, vE ((Tree.node p0.kind p0.text a b).kind) ((Tree.node p0.kind p0.text a b).text) ((Tree.node p0.kind p0.text a b).leads) ((Tree.node p0.kind p0.text a b).kids))]⟩) [0] [] rfl hK pq1 (pqo1 rfl rfl) rfl <| go_end ab (rs := [.cell 4 25]) rfl rfl rfl
theorem gj (m : Nat) (p0 : Tree) (a : (List (List UInt8))) (b : Nat) (c : List Tree) (r0 : Tree) (h : ((b < a.length) → ∃ d, a[b]? = some d ∧ eK m p0 (a.set b []) (b + 1) c r0) ∧ ((¬ b < a.length) → (Tree.node p0.kind p0.text a c) = r0)) : eK (m + 1) p0 a b c r0 := by
 intro K j1 hK hj1
 obtain ⟨j1, rfl⟩ : ∃ j, j1 = j + 1 := ⟨j1 - 1, by omega⟩
 refine gR 7 rfl <| gV 77 (.int .i64 (a.length : Int)) rfl (bF (aZ V.str _)) rfl <| gLO 3 rfl (aZ V.str _) fun hl37 => gR 3 rfl <| gB 78 rfl rfl rfl ?_ ?_ <;> intro hd
 replace hd := (fh hd)
 replace h := h.1 hd
 refine gR 9 rfl ?_
 obtain ⟨d, hxs4_1, h⟩ := h
 refine gY (yIO ab rfl rfl rfl rfl (by have := (mapget (f := V.str) hxs4_1); exact (List.getElem?_eq_some_iff.1 this).1)) rfl rfl ?_
 exact gDo (.set 3 (.row 9 1 (List.map V.str (a.set b [])))) (dSe ab rfl rfl rfl rfl (mapget (f := V.str) hxs4_1) rfl (bC V.str a b [])) (okS rfl) rfl rfl rfl <| gR 6 rfl <| gV 80 (.int .i64 ((b + 1 : Nat) : Int)) rfl (ax (by have := hl37; omega) (by omega)) rfl <| gR 2 rfl <| go_xloop <| gJ (h K _ hK (by omega)) [0, 1, 2, 3] [] rfl hK pq4 ⟨⟨_, rfl, rfl, rfl, (vH _ (a.set b [])).symm⟩, ⟨_, rfl, rfl, rfl, (ba _ c).symm⟩, (pqo2 rfl rfl rfl rfl)⟩ rfl
 replace hd := (fo hd)
 replace h := h.2 hd
 refine gR 3 rfl <| go_xloopE <| gR 17 rfl <| gFR 3 rfl (dn _ (fun _ => rfl) _) rfl rfl <| gFR 2 rfl (ca _) rfl rfl ?_
 subst h
 exact go_sub (F' := (mkF 109 0 [(4, .ptr 0 0)])) (H' := ⟨1, [(0, vE ((Tree.node p0.kind p0.text a c).kind) ((Tree.node p0.kind p0.text a c).text) ((Tree.node p0.kind p0.text a c).leads) ((Tree.node p0.kind p0.text a c).kids))]⟩) [0] [] rfl hK pq1 (pqo1 rfl rfl) rfl <| go_end ab (rs := [.cell 4 25]) rfl rfl rfl
theorem gk (m : Nat) (p0 : Tree) (a : (List (List UInt8))) (b : Nat) (c : List Tree) (r0 : Tree) (h : ((b < a.length) → ∃ d, a[b]? = some d ∧ dz m p0 (a.set b []) (b + 1) c r0) ∧ ((¬ b < a.length) → (Tree.node p0.kind p0.text a c) = r0)) : dz (m + 1) p0 a b c r0 := by
 intro K j1 hK hj1
 obtain ⟨j1, rfl⟩ : ∃ j, j1 = j + 1 := ⟨j1 - 1, by omega⟩
 refine gR 7 rfl <| gV 98 (.int .i64 (a.length : Int)) rfl (bF (aZ V.str _)) rfl <| gLO 3 rfl (aZ V.str _) fun hl38 => gR 3 rfl <| gB 99 rfl rfl rfl ?_ ?_ <;> intro hd
 replace hd := (fh hd)
 replace h := h.1 hd
 refine gR 9 rfl ?_
 obtain ⟨d, hxs5_1, h⟩ := h
 refine gY (yIO ab rfl rfl rfl rfl (by have := (mapget (f := V.str) hxs5_1); exact (List.getElem?_eq_some_iff.1 this).1)) rfl rfl ?_
 exact gDo (.set 3 (.row 9 1 (List.map V.str (a.set b [])))) (dSe ab rfl rfl rfl rfl (mapget (f := V.str) hxs5_1) rfl (bC V.str a b [])) (okS rfl) rfl rfl rfl <| gR 6 rfl <| gV 101 (.int .i64 ((b + 1 : Nat) : Int)) rfl (ax (by have := hl38; omega) (by omega)) rfl <| gR 2 rfl <| go_xloop <| gJ (h K _ hK (by omega)) [0, 1, 2, 3] [] rfl hK pq4 ⟨⟨_, rfl, rfl, rfl, (vH _ (a.set b [])).symm⟩, ⟨_, rfl, rfl, rfl, (ba _ c).symm⟩, (pqo2 rfl rfl rfl rfl)⟩ rfl
 replace hd := (fo hd)
 replace h := h.2 hd
 refine gR 3 rfl <| go_xloopE <| gR 17 rfl <| gFR 3 rfl (dn _ (fun _ => rfl) _) rfl rfl <| gFR 2 rfl (ca _) rfl rfl ?_
 subst h
 exact go_sub (F' := (mkF 109 0 [(4, .ptr 0 0)])) (H' := ⟨1, [(0, vE ((Tree.node p0.kind p0.text a c).kind) ((Tree.node p0.kind p0.text a c).text) ((Tree.node p0.kind p0.text a c).leads) ((Tree.node p0.kind p0.text a c).kids))]⟩) [0] [] rfl hK pq1 (pqo1 rfl rfl) rfl <| go_end ab (rs := [.cell 4 25]) rfl rfl rfl
theorem kX (m : Nat) (p0 r0 : Tree) (h : ∃ b, dV p0 b ∧ ((b = false) → (Tree.node 0 [] [] []) = r0) ∧ ((b = true) → ∃ a, fb p0 [] a ∧ a = r0)) : iK p0 r0 := by
 refine ⟨rfl, rfl, ?_⟩
 refine am 9 [] Tryz.func61 rfl rfl rfl (aL rfl) fun K hK => ?_
 refine gR 3 rfl <| gFP 0 rfl rfl rfl rfl <| gR 7 rfl ?_
 obtain ⟨b, hs3, h⟩ := h
 refine gC0 hs3 (by kernel_rfl) rfl rfl .rfl rfl <| gR 3 rfl <| qBh 5 rfl rfl rfl h dD dC (fun h => ?_) fun h => ?_
 refine gR 9 rfl ?_
 subst h
 exact go_sub (F' := (mkF 9 0 [(2, .ptr 0 0)])) (H' := ⟨1, [(0, vE ((Tree.node 0 [] [] []).kind) ((Tree.node 0 [] [] []).text) ((Tree.node 0 [] [] []).leads) ((Tree.node 0 [] [] []).kids))]⟩) [1] [] rfl hK pq1 ⟨⟨_, rfl, rfl, (.cons .rfl (.cons .rfl (.cons (.nil 1) (.cons (.nil 4) .nil))))⟩, trivial⟩ rfl <| go_end ab (rs := [.cell 2 25]) rfl rfl rfl
 refine gR 6 rfl ?_
 obtain ⟨a, hs4, h⟩ := h
 refine gC0 hs4 (by kernel_rfl) rfl rfl .rfl rfl <| gR 4 rfl ?_
 subst h
 exact go_sub (F' := (mkF 9 0 [(2, .ptr 0 0)])) (H' := ⟨1, [(0, vE a.kind a.text a.leads a.kids)]⟩) [1] [] rfl hK pq1 (pqo1 rfl rfl) rfl <| go_end ab (rs := [.cell 2 25]) rfl rfl rfl
theorem fD (m : Nat) (p0 : Tree) (r0 : Bool) (h : ∃ a, eg p0 a ∧ ((a = true) → ∃ b, fy p0 b ∧ ((b = true) → ∃ c, ey p0 c ∧ ((c ≤ 40) → ∃ d, jx p0 d ∧ decide ((d.length : Int) ≤ 4096) = r0) ∧ ((¬ c ≤ 40) → false = r0)) ∧ ((b = false) → false = r0)) ∧ ((a = false) → false = r0)) : dw p0 r0 := by
 refine ⟨rfl, rfl, ?_⟩
 refine am 20 [] Tryz.func7 rfl rfl rfl (aL rfl) fun K hK => ?_
 refine gR 3 rfl <| gFP 0 rfl rfl rfl rfl <| gR 6 rfl ?_
 obtain ⟨a, hs5, h⟩ := h
 refine gC0 hs5 (by kernel_rfl) rfl rfl .rfl rfl <| gR 1 rfl <| qBiZ 5 4 rfl rfl rfl rfl h (fun h => ?_) fun h => ?_
 refine gR 1 rfl ?_
 obtain ⟨b, hs6, h⟩ := h
 refine gC0 hs6 (by kernel_rfl) rfl rfl .rfl rfl <| gR 2 rfl <| qBiZ 9 8 rfl rfl rfl rfl h (fun h => ?_) fun h => ?_
 refine gR 1 rfl ?_
 obtain ⟨c, hs7, h⟩ := h
 refine gC0 hs7 (by kernel_rfl) rfl rfl .rfl rfl <| gR 3 rfl <| qBdZ 14 13 rfl rfl rfl rfl h (fun h => ?_) fun h => ?_
 refine gR 1 rfl ?_
 obtain ⟨d, hs8, h⟩ := h
 refine gC0 hs8 (by kernel_rfl) rfl rfl .rfl rfl <| gR 7 rfl ?_
 subst h
 exact go_end ab (rs := [.tmp 2]) rfl rfl rfl
 refine gR 9 rfl ?_
 subst h
 exact go_end ab (rs := [.tmp 2]) rfl rfl rfl
 refine gR 14 rfl ?_
 subst h
 exact go_end ab (rs := [.tmp 2]) rfl rfl rfl
 refine gR 18 rfl ?_
 subst h
 exact go_end ab (rs := [.tmp 2]) rfl rfl rfl
theorem ox (m : Nat) (p0 : Tree) (r0 : Bool) (h : ∃ a, dV p0 a ∧ ((a = true) → ∃ b, gd p0 b ∧ b = r0) ∧ ((a = false) → false = r0)) : eg p0 r0 := by
 refine ⟨rfl, rfl, ?_⟩
 refine am 9 [] Tryz.func19 rfl rfl rfl (aL rfl) fun K hK => ?_
 refine gR 3 rfl <| gFP 0 rfl rfl rfl rfl <| gR 6 rfl ?_
 obtain ⟨a, hs3, h⟩ := h
 refine gC0 hs3 (by kernel_rfl) rfl rfl .rfl rfl <| gR 1 rfl <| qBiZ 5 4 rfl rfl rfl rfl h (fun h => ?_) fun h => ?_
 refine gR 1 rfl ?_
 obtain ⟨b, hs4, h⟩ := h
 refine gC0 hs4 (by kernel_rfl) rfl rfl .rfl rfl <| gR 5 rfl ?_
 subst h
 exact go_end ab (rs := [.tmp 2]) rfl rfl rfl
 refine gR 7 rfl ?_
 subst h
 exact go_end ab (rs := [.tmp 2]) rfl rfl rfl
def dq (m : Nat) (p0 : Tree) (a : Nat) (r0 : Bool) : Prop := ∀ (K : Ctx) (j1 : Nat), aq K [] → m ≤ j1 → qLG K Tryz.f40 (fun u _ => u = .bool r0) (xI (ac Tryz.f40)) [.loop (xI (ac Tryz.f40)) j1, .blk 0, .seq (xH (ac Tryz.f40))] 50 (mkF 50 0 [(1, .box (ae p0) 0), (3, .int .i64 (a : Int))]) ⟨0, []⟩
def dQ (m : Nat) (p0 : Tree) (a : Nat) (r0 : Bool) : Prop := ∀ (K : Ctx) (j1 : Nat), aq K [] → m ≤ j1 → qLG K Tryz.f40 (fun u _ => u = .bool r0) (xI (cB (ac Tryz.f40))) [.loop (xI (cB (ac Tryz.f40))) j1, .blk 2, .seq (xJ (ac Tryz.f40))] 50 (mkF 50 0 [(1, .box (ae p0) 0), (4, .int .i64 (a : Int))]) ⟨0, []⟩
theorem mn (m : Nat) (p0 : Tree) (r0 : Bool) (h : ∃ a, ev p0.kind (p0.kids.length : Int) a ∧ (((p0.leads.length : Int) ≠ a) → false = r0) ∧ (((p0.leads.length : Int) = a) → dq m p0 0 r0)) : gd p0 r0 := by
 refine ⟨rfl, rfl, ?_⟩
 refine am 50 [] Tryz.func40 rfl rfl rfl (aL rfl) fun K hK => ?_
 refine gR 3 rfl <| gFP 0 rfl rfl rfl rfl <| gR 5 rfl <| gDs [] 10 10 rfl (by kernel_rfl) (by kernel_rfl) <| gDr [(0, 2), (1, 2), (2, 2)] (by kernel_rfl) rfl rfl <| gV 7 (.int .i64 (p0.leads.length : Int)) rfl (bF (aZ V.str _)) rfl <| gLB 6 rfl (aZ V.str _) fun hl35 => gDr [(3, 2), (4, 2), (5, 0), (6, 0), (7, 0)] (by kernel_rfl) rfl rfl <| gV 12 (.int .i64 (p0.kids.length : Int)) rfl (bF (aE _)) rfl <| gLB 11 rfl (aE _) fun hl36 => ?_
 obtain ⟨a, hs37, h⟩ := h
 refine cf 8 hs37 (by kernel_rfl) rfl (by kernel_rfl) rfl rfl .rfl rfl rfl ?_
 refine gDr [(9, 0)] (by kernel_rfl) rfl rfl <| gDe (by kernel_rfl) <| gR 1 rfl <| gB 14 rfl rfl rfl ?_ ?_ <;> intro hd
 replace hd := (eF hd)
 replace h := h.1 hd
 refine gR 8 rfl ?_
 subst h
 exact go_end ab (rs := [.tmp 2]) rfl rfl rfl
 replace hd := (dl hd)
 replace h := h.2 hd
 exact gR 10 rfl <| go_loop m <| gJ (h K _ hK (by omega)) [] [] rfl hK pq2 trivial rfl
theorem iV (m : Nat) (p0 : Tree) (a : Nat) (r0 : Bool) (h : ((a < p0.leads.length) → ∃ b, p0.leads[a]? = some b ∧ ((p0.kind = 1) → ∃ c, jj b ((a : Int) == 2) c ∧ ((c = false) → false = r0) ∧ ((c = true) → dq m p0 (a + 1) r0)) ∧ ((p0.kind ≠ 1) → ∃ d, jj b false d ∧ ((d = false) → false = r0) ∧ ((d = true) → dq m p0 (a + 1) r0))) ∧ ((¬ a < p0.leads.length) → dQ m p0 0 r0)) : dq (m + 1) p0 a r0 := by
 intro K j1 hK hj1
 obtain ⟨j1, rfl⟩ : ∃ j, j1 = j + 1 := ⟨j1 - 1, by omega⟩
 refine gR 7 rfl <| gV 18 (.int .i64 (p0.leads.length : Int)) rfl (bF (aZ V.str _)) rfl <| gLB 17 rfl (aZ V.str _) fun hl38 => gR 3 rfl <| gB 19 rfl rfl rfl ?_ ?_ <;> intro hd
 replace hd := (fh hd)
 replace h := h.1 hd
 refine gR 6 rfl <| gDs [] 14 14 rfl (by kernel_rfl) (by kernel_rfl) <| gDr [(0, 2), (1, 2), (2, 2)] (by kernel_rfl) rfl rfl ?_
 obtain ⟨b, hxs1_1, h⟩ := h
 refine gYd 3 rfl (by kernel_rfl) (aI (mapget (f := V.str) hxs1_1) ab rfl rfl rfl rfl) rfl rfl <| gDr [(4, 2), (5, 0), (6, 0), (7, 0), (8, 0)] (by kernel_rfl) rfl rfl <| gB 30 rfl rfl rfl ?_ ?_ <;> intro hd
 refine gT 29 rfl hd rfl ?_
 replace hd := (eq_of_beq hd)
 replace h := h.1 hd
 refine gDr [(9, 0), (10, 0), (11, 0)] (by kernel_rfl) rfl rfl ?_
 obtain ⟨c, hs39, h⟩ := h
 refine cf 12 hs39 (by kernel_rfl) rfl (by kernel_rfl) rfl rfl .rfl rfl rfl ?_
 refine gDr [(13, 0)] (by kernel_rfl) rfl rfl <| gDe (by kernel_rfl) <| gR 1 rfl <| gB 35 rfl rfl rfl ?_ ?_ <;> intro hd
 replace hd := (dD hd)
 replace h := h.1 hd
 refine gR 9 rfl <| go_xloopR <| gR 2 rfl ?_
 subst h
 exact go_end ab (rs := [.tmp 2]) rfl rfl rfl
 replace hd := (dC hd)
 replace h := h.2 hd
 exact gR 7 rfl <| gV 21 (.int .i64 ((a + 1 : Nat) : Int)) rfl (ax (by have := hl38; omega) (by omega)) rfl <| gR 2 rfl <| go_xloop <| gJ (h K _ hK (by omega)) [] [] rfl hK pq2 trivial rfl
 refine gF 29 rfl hd rfl ?_
 replace hd := (ne_of_beq_false hd)
 replace h := h.2 hd
 refine gDr [(9, 0), (10, 0), (11, 0)] (by kernel_rfl) rfl rfl ?_
 obtain ⟨d, hs40, h⟩ := h
 refine cf 12 hs40 (by kernel_rfl) rfl (by kernel_rfl) rfl rfl .rfl rfl rfl ?_
 refine gDr [(13, 0)] (by kernel_rfl) rfl rfl <| gDe (by kernel_rfl) <| gR 1 rfl <| gB 35 rfl rfl rfl ?_ ?_ <;> intro hd
 replace hd := (dD hd)
 replace h := h.1 hd
 refine gR 9 rfl <| go_xloopR <| gR 2 rfl ?_
 subst h
 exact go_end ab (rs := [.tmp 2]) rfl rfl rfl
 replace hd := (dC hd)
 replace h := h.2 hd
 exact gR 7 rfl <| gV 21 (.int .i64 ((a + 1 : Nat) : Int)) rfl (ax (by have := hl38; omega) (by omega)) rfl <| gR 2 rfl <| go_xloop <| gJ (h K _ hK (by omega)) [] [] rfl hK pq2 trivial rfl
 replace hd := (fo hd)
 replace h := h.2 hd
 exact gR 3 rfl <| go_xloopE <| gR 9 rfl <| go_loop m <| gJ (h K _ hK (by omega)) [] [] rfl hK pq2 trivial rfl
theorem lT (m : Nat) (p0 : Tree) (a : Nat) (r0 : Bool) (h : ((a < p0.kids.length) → ∃ c, p0.kids[a]? = some c ∧ ∃ b, gd c b ∧ ((b = false) → false = r0) ∧ ((b = true) → dQ m p0 (a + 1) r0)) ∧ ((¬ a < p0.kids.length) → true = r0)) : dQ (m + 1) p0 a r0 := by
 intro K j1 hK hj1
 obtain ⟨j1, rfl⟩ : ∃ j, j1 = j + 1 := ⟨j1 - 1, by omega⟩
 refine gR 7 rfl <| gV 39 (.int .i64 (p0.kids.length : Int)) rfl (bF (aE _)) rfl <| gLB 38 rfl (aE _) fun hl41 => gR 3 rfl <| gB 40 rfl rfl rfl ?_ ?_ <;> intro hd
 replace hd := (fh hd)
 replace h := h.1 hd
 refine gR 10 rfl ?_
 obtain ⟨c, hxt2_1, h⟩ := h
 refine gY (aI (av hxt2_1) ab rfl rfl rfl rfl) rfl rfl <| gR 1 rfl ?_
 obtain ⟨b, hs42, h⟩ := h
 refine gC0 hs42 (by kernel_rfl) rfl rfl .rfl rfl <| gR 3 rfl <| gB 49 rfl rfl rfl ?_ ?_ <;> intro hd
 replace hd := (dD hd)
 replace h := h.1 hd
 refine gR 9 rfl <| go_xloopR <| gR 2 rfl ?_
 subst h
 exact go_end ab (rs := [.tmp 2]) rfl rfl rfl
 replace hd := (dC hd)
 replace h := h.2 hd
 exact gR 7 rfl <| gV 42 (.int .i64 ((a + 1 : Nat) : Int)) rfl (ax (by have := hl41; omega) (by omega)) rfl <| gR 2 rfl <| go_xloop <| gJ (h K _ hK (by omega)) [] [] rfl hK pq2 trivial rfl
 replace hd := (fo hd)
 replace h := h.2 hd
 refine gR 3 rfl <| go_xloopE <| gR 8 rfl ?_
 subst h
 exact go_end ab (rs := [.tmp 2]) rfl rfl rfl
def aB (m : Nat) (p0 : Tree) (a : Nat) (r0 : Bool) : Prop := ∀ (K : Ctx) (j1 : Nat), aq K [] → m ≤ j1 → qLG K Tryz.f20 (fun u _ => u = .bool r0) (xI (cB (ac Tryz.f20))) [.loop (xI (cB (ac Tryz.f20))) j1, .blk 0, .seq (xJ (ac Tryz.f20))] 54 (mkF 54 0 [(1, .box (ae p0) 0), (3, .int .i64 (p0.kids.length : Int)), (4, .int .i64 (a : Int))]) ⟨0, []⟩
theorem lV (m : Nat) (p0 : Tree) (r0 : Bool) (h : ((p0.kind = 1) → ((40 < (p0.kids.length : Int)) → false = r0) ∧ ((¬ 40 < (p0.kids.length : Int)) → ((p0.kind = 2) → ((10 < (p0.kids.length : Int)) → false = r0) ∧ ((¬ 10 < (p0.kids.length : Int)) → ((p0.kind = 16) → ((8 < (p0.kids.length : Int)) → false = r0) ∧ ((¬ 8 < (p0.kids.length : Int)) → ((p0.kind = 18) → ((16 < (p0.kids.length : Int)) → false = r0) ∧ ((¬ 16 < (p0.kids.length : Int)) → aB m p0 0 r0)) ∧ ((p0.kind ≠ 18) → aB m p0 0 r0))) ∧ ((p0.kind ≠ 16) → ((p0.kind = 18) → ((16 < (p0.kids.length : Int)) → false = r0) ∧ ((¬ 16 < (p0.kids.length : Int)) → aB m p0 0 r0)) ∧ ((p0.kind ≠ 18) → aB m p0 0 r0)))) ∧ ((p0.kind ≠ 2) → ((p0.kind = 16) → ((8 < (p0.kids.length : Int)) → false = r0) ∧ ((¬ 8 < (p0.kids.length : Int)) → ((p0.kind = 18) → ((16 < (p0.kids.length : Int)) → false = r0) ∧ ((¬ 16 < (p0.kids.length : Int)) → aB m p0 0 r0)) ∧ ((p0.kind ≠ 18) → aB m p0 0 r0))) ∧ ((p0.kind ≠ 16) → ((p0.kind = 18) → ((16 < (p0.kids.length : Int)) → false = r0) ∧ ((¬ 16 < (p0.kids.length : Int)) → aB m p0 0 r0)) ∧ ((p0.kind ≠ 18) → aB m p0 0 r0))))) ∧ ((p0.kind ≠ 1) → ((p0.kind = 2) → ((10 < (p0.kids.length : Int)) → false = r0) ∧ ((¬ 10 < (p0.kids.length : Int)) → ((p0.kind = 16) → ((8 < (p0.kids.length : Int)) → false = r0) ∧ ((¬ 8 < (p0.kids.length : Int)) → ((p0.kind = 18) → ((16 < (p0.kids.length : Int)) → false = r0) ∧ ((¬ 16 < (p0.kids.length : Int)) → aB m p0 0 r0)) ∧ ((p0.kind ≠ 18) → aB m p0 0 r0))) ∧ ((p0.kind ≠ 16) → ((p0.kind = 18) → ((16 < (p0.kids.length : Int)) → false = r0) ∧ ((¬ 16 < (p0.kids.length : Int)) → aB m p0 0 r0)) ∧ ((p0.kind ≠ 18) → aB m p0 0 r0)))) ∧ ((p0.kind ≠ 2) → ((p0.kind = 16) → ((8 < (p0.kids.length : Int)) → false = r0) ∧ ((¬ 8 < (p0.kids.length : Int)) → ((p0.kind = 18) → ((16 < (p0.kids.length : Int)) → false = r0) ∧ ((¬ 16 < (p0.kids.length : Int)) → aB m p0 0 r0)) ∧ ((p0.kind ≠ 18) → aB m p0 0 r0))) ∧ ((p0.kind ≠ 16) → ((p0.kind = 18) → ((16 < (p0.kids.length : Int)) → false = r0) ∧ ((¬ 16 < (p0.kids.length : Int)) → aB m p0 0 r0)) ∧ ((p0.kind ≠ 18) → aB m p0 0 r0))))) : fy p0 r0 := by
 refine ⟨rfl, rfl, ?_⟩
 refine am 54 [] Tryz.func20 rfl rfl rfl (aL rfl) fun K hK => ?_
 refine gR 3 rfl <| gFP 0 rfl rfl rfl rfl <| gR 8 rfl <| gV 7 (.int .i64 (p0.kids.length : Int)) rfl (bF (aE _)) rfl <| gLB 6 rfl (aE _) fun hl5 => gR 10 rfl <| gB 11 rfl rfl rfl ?_ ?_ <;> intro hd
 refine gT 10 rfl hd rfl ?_
 replace hd := (eq_of_beq hd)
 replace h := h.1 hd
 refine gR 4 rfl <| gB 15 rfl rfl rfl ?_ ?_ <;> intro hd
 refine gT 14 rfl hd rfl ?_
 replace hd := (of_decide_eq_true hd)
 replace h := h.1 hd
 refine gR 36 rfl ?_
 subst h
 exact go_end ab (rs := [.tmp 2]) rfl rfl rfl
 refine gF 14 rfl hd rfl ?_
 replace hd := (of_decide_eq_false hd)
 replace h := h.2 hd
 refine gR 4 rfl <| gB 19 rfl rfl rfl ?_ ?_ <;> intro hd
 refine gT 18 rfl hd rfl ?_
 replace hd := (eq_of_beq hd)
 replace h := h.1 hd
 refine gR 5 rfl <| gB 24 rfl rfl rfl ?_ ?_ <;> intro hd
 refine gT 23 rfl hd rfl ?_
 replace hd := (of_decide_eq_true hd)
 replace h := h.1 hd
 refine gR 27 rfl ?_
 subst h
 exact go_end ab (rs := [.tmp 2]) rfl rfl rfl
 refine gF 23 rfl hd rfl ?_
 replace hd := (of_decide_eq_false hd)
 replace h := h.2 hd
 refine gR 4 rfl <| gB 28 rfl rfl rfl ?_ ?_ <;> intro hd
 refine gT 27 rfl hd rfl ?_
 replace hd := (eq_of_beq hd)
 replace h := h.1 hd
 refine gR 5 rfl <| gB 33 rfl rfl rfl ?_ ?_ <;> intro hd
 refine gT 32 rfl hd rfl ?_
 replace hd := (of_decide_eq_true hd)
 replace h := h.1 hd
 refine gR 18 rfl ?_
 subst h
 exact go_end ab (rs := [.tmp 2]) rfl rfl rfl
 refine gF 32 rfl hd rfl ?_
 replace hd := (of_decide_eq_false hd)
 replace h := h.2 hd
 refine gR 4 rfl <| gB 37 rfl rfl rfl ?_ ?_ <;> intro hd
 refine gT 36 rfl hd rfl ?_
 replace hd := (eq_of_beq hd)
 replace h := h.1 hd
 refine gR 6 rfl <| gB 41 rfl rfl rfl ?_ ?_ <;> intro hd
 replace hd := (of_decide_eq_true hd)
 replace h := h.1 hd
 refine gR 8 rfl ?_
 subst h
 exact go_end ab (rs := [.tmp 2]) rfl rfl rfl
 replace hd := (of_decide_eq_false hd)
 replace h := h.2 hd
 exact gR 10 rfl <| go_loop m <| gJ (h K _ hK (by omega)) [] [] rfl hK pq3 trivial rfl
 refine gF 36 rfl hd rfl ?_
 replace hd := (ne_of_beq_false hd)
 replace h := h.2 hd
 exact gR 16 rfl <| go_loop m <| gJ (h K _ hK (by omega)) [] [] rfl hK pq3 trivial rfl
 refine gF 27 rfl hd rfl ?_
 replace hd := (ne_of_beq_false hd)
 replace h := h.2 hd
 refine gR 9 rfl <| gB 37 rfl rfl rfl ?_ ?_ <;> intro hd
 refine gT 36 rfl hd rfl ?_
 replace hd := (eq_of_beq hd)
 replace h := h.1 hd
 refine gR 6 rfl <| gB 41 rfl rfl rfl ?_ ?_ <;> intro hd
 replace hd := (of_decide_eq_true hd)
 replace h := h.1 hd
 refine gR 8 rfl ?_
 subst h
 exact go_end ab (rs := [.tmp 2]) rfl rfl rfl
 replace hd := (of_decide_eq_false hd)
 replace h := h.2 hd
 exact gR 10 rfl <| go_loop m <| gJ (h K _ hK (by omega)) [] [] rfl hK pq3 trivial rfl
 refine gF 36 rfl hd rfl ?_
 replace hd := (ne_of_beq_false hd)
 replace h := h.2 hd
 exact gR 16 rfl <| go_loop m <| gJ (h K _ hK (by omega)) [] [] rfl hK pq3 trivial rfl
 refine gF 18 rfl hd rfl ?_
 replace hd := (ne_of_beq_false hd)
 replace h := h.2 hd
 refine gR 9 rfl <| gB 28 rfl rfl rfl ?_ ?_ <;> intro hd
 refine gT 27 rfl hd rfl ?_
 replace hd := (eq_of_beq hd)
 replace h := h.1 hd
 refine gR 5 rfl <| gB 33 rfl rfl rfl ?_ ?_ <;> intro hd
 refine gT 32 rfl hd rfl ?_
 replace hd := (of_decide_eq_true hd)
 replace h := h.1 hd
 refine gR 18 rfl ?_
 subst h
 exact go_end ab (rs := [.tmp 2]) rfl rfl rfl
 refine gF 32 rfl hd rfl ?_
 replace hd := (of_decide_eq_false hd)
 replace h := h.2 hd
 refine gR 4 rfl <| gB 37 rfl rfl rfl ?_ ?_ <;> intro hd
 refine gT 36 rfl hd rfl ?_
 replace hd := (eq_of_beq hd)
 replace h := h.1 hd
 refine gR 6 rfl <| gB 41 rfl rfl rfl ?_ ?_ <;> intro hd
 replace hd := (of_decide_eq_true hd)
 replace h := h.1 hd
 refine gR 8 rfl ?_
 subst h
 exact go_end ab (rs := [.tmp 2]) rfl rfl rfl
 replace hd := (of_decide_eq_false hd)
 replace h := h.2 hd
 exact gR 10 rfl <| go_loop m <| gJ (h K _ hK (by omega)) [] [] rfl hK pq3 trivial rfl
 refine gF 36 rfl hd rfl ?_
 replace hd := (ne_of_beq_false hd)
 replace h := h.2 hd
 exact gR 16 rfl <| go_loop m <| gJ (h K _ hK (by omega)) [] [] rfl hK pq3 trivial rfl
 refine gF 27 rfl hd rfl ?_
 replace hd := (ne_of_beq_false hd)
 replace h := h.2 hd
 refine gR 9 rfl <| gB 37 rfl rfl rfl ?_ ?_ <;> intro hd
 refine gT 36 rfl hd rfl ?_
 replace hd := (eq_of_beq hd)
 replace h := h.1 hd
 refine gR 6 rfl <| gB 41 rfl rfl rfl ?_ ?_ <;> intro hd
 replace hd := (of_decide_eq_true hd)
 replace h := h.1 hd
 refine gR 8 rfl ?_
 subst h
 exact go_end ab (rs := [.tmp 2]) rfl rfl rfl
 replace hd := (of_decide_eq_false hd)
 replace h := h.2 hd
 exact gR 10 rfl <| go_loop m <| gJ (h K _ hK (by omega)) [] [] rfl hK pq3 trivial rfl
 refine gF 36 rfl hd rfl ?_
 replace hd := (ne_of_beq_false hd)
 replace h := h.2 hd
 exact gR 16 rfl <| go_loop m <| gJ (h K _ hK (by omega)) [] [] rfl hK pq3 trivial rfl
 refine gF 10 rfl hd rfl ?_
 replace hd := (ne_of_beq_false hd)
 replace h := h.2 hd
 refine gR 8 rfl <| gB 19 rfl rfl rfl ?_ ?_ <;> intro hd
 refine gT 18 rfl hd rfl ?_
 replace hd := (eq_of_beq hd)
 replace h := h.1 hd
 refine gR 5 rfl <| gB 24 rfl rfl rfl ?_ ?_ <;> intro hd
 refine gT 23 rfl hd rfl ?_
 replace hd := (of_decide_eq_true hd)
 replace h := h.1 hd
 refine gR 27 rfl ?_
 subst h
 exact go_end ab (rs := [.tmp 2]) rfl rfl rfl
 refine gF 23 rfl hd rfl ?_
 replace hd := (of_decide_eq_false hd)
 replace h := h.2 hd
 refine gR 4 rfl <| gB 28 rfl rfl rfl ?_ ?_ <;> intro hd
 refine gT 27 rfl hd rfl ?_
 replace hd := (eq_of_beq hd)
 replace h := h.1 hd
 refine gR 5 rfl <| gB 33 rfl rfl rfl ?_ ?_ <;> intro hd
 refine gT 32 rfl hd rfl ?_
 replace hd := (of_decide_eq_true hd)
 replace h := h.1 hd
 refine gR 18 rfl ?_
 subst h
 exact go_end ab (rs := [.tmp 2]) rfl rfl rfl
 refine gF 32 rfl hd rfl ?_
 replace hd := (of_decide_eq_false hd)
 replace h := h.2 hd
 refine gR 4 rfl <| gB 37 rfl rfl rfl ?_ ?_ <;> intro hd
 refine gT 36 rfl hd rfl ?_
 replace hd := (eq_of_beq hd)
 replace h := h.1 hd
 refine gR 6 rfl <| gB 41 rfl rfl rfl ?_ ?_ <;> intro hd
 replace hd := (of_decide_eq_true hd)
 replace h := h.1 hd
 refine gR 8 rfl ?_
 subst h
 exact go_end ab (rs := [.tmp 2]) rfl rfl rfl
 replace hd := (of_decide_eq_false hd)
 replace h := h.2 hd
 exact gR 10 rfl <| go_loop m <| gJ (h K _ hK (by omega)) [] [] rfl hK pq3 trivial rfl
 refine gF 36 rfl hd rfl ?_
 replace hd := (ne_of_beq_false hd)
 replace h := h.2 hd
 exact gR 16 rfl <| go_loop m <| gJ (h K _ hK (by omega)) [] [] rfl hK pq3 trivial rfl
 refine gF 27 rfl hd rfl ?_
 replace hd := (ne_of_beq_false hd)
 replace h := h.2 hd
 refine gR 9 rfl <| gB 37 rfl rfl rfl ?_ ?_ <;> intro hd
 refine gT 36 rfl hd rfl ?_
 replace hd := (eq_of_beq hd)
 replace h := h.1 hd
 refine gR 6 rfl <| gB 41 rfl rfl rfl ?_ ?_ <;> intro hd
 replace hd := (of_decide_eq_true hd)
 replace h := h.1 hd
 refine gR 8 rfl ?_
 subst h
 exact go_end ab (rs := [.tmp 2]) rfl rfl rfl
 replace hd := (of_decide_eq_false hd)
 replace h := h.2 hd
 exact gR 10 rfl <| go_loop m <| gJ (h K _ hK (by omega)) [] [] rfl hK pq3 trivial rfl
 refine gF 36 rfl hd rfl ?_
 replace hd := (ne_of_beq_false hd)
 replace h := h.2 hd
 exact gR 16 rfl <| go_loop m <| gJ (h K _ hK (by omega)) [] [] rfl hK pq3 trivial rfl
 refine gF 18 rfl hd rfl ?_
 replace hd := (ne_of_beq_false hd)
 replace h := h.2 hd
 refine gR 9 rfl <| gB 28 rfl rfl rfl ?_ ?_ <;> intro hd
 refine gT 27 rfl hd rfl ?_
 replace hd := (eq_of_beq hd)
 replace h := h.1 hd
 refine gR 5 rfl <| gB 33 rfl rfl rfl ?_ ?_ <;> intro hd
 refine gT 32 rfl hd rfl ?_
 replace hd := (of_decide_eq_true hd)
 replace h := h.1 hd
 refine gR 18 rfl ?_
 subst h
 exact go_end ab (rs := [.tmp 2]) rfl rfl rfl
 refine gF 32 rfl hd rfl ?_
 replace hd := (of_decide_eq_false hd)
 replace h := h.2 hd
 refine gR 4 rfl <| gB 37 rfl rfl rfl ?_ ?_ <;> intro hd
 refine gT 36 rfl hd rfl ?_
 replace hd := (eq_of_beq hd)
 replace h := h.1 hd
 refine gR 6 rfl <| gB 41 rfl rfl rfl ?_ ?_ <;> intro hd
 replace hd := (of_decide_eq_true hd)
 replace h := h.1 hd
 refine gR 8 rfl ?_
 subst h
 exact go_end ab (rs := [.tmp 2]) rfl rfl rfl
 replace hd := (of_decide_eq_false hd)
 replace h := h.2 hd
 exact gR 10 rfl <| go_loop m <| gJ (h K _ hK (by omega)) [] [] rfl hK pq3 trivial rfl
 refine gF 36 rfl hd rfl ?_
 replace hd := (ne_of_beq_false hd)
 replace h := h.2 hd
 exact gR 16 rfl <| go_loop m <| gJ (h K _ hK (by omega)) [] [] rfl hK pq3 trivial rfl
 refine gF 27 rfl hd rfl ?_
 replace hd := (ne_of_beq_false hd)
 replace h := h.2 hd
 refine gR 9 rfl <| gB 37 rfl rfl rfl ?_ ?_ <;> intro hd
 refine gT 36 rfl hd rfl ?_
 replace hd := (eq_of_beq hd)
 replace h := h.1 hd
 refine gR 6 rfl <| gB 41 rfl rfl rfl ?_ ?_ <;> intro hd
 replace hd := (of_decide_eq_true hd)
 replace h := h.1 hd
 refine gR 8 rfl ?_
 subst h
 exact go_end ab (rs := [.tmp 2]) rfl rfl rfl
 replace hd := (of_decide_eq_false hd)
 replace h := h.2 hd
 exact gR 10 rfl <| go_loop m <| gJ (h K _ hK (by omega)) [] [] rfl hK pq3 trivial rfl
 refine gF 36 rfl hd rfl ?_
 replace hd := (ne_of_beq_false hd)
 replace h := h.2 hd
 exact gR 16 rfl <| go_loop m <| gJ (h K _ hK (by omega)) [] [] rfl hK pq3 trivial rfl
theorem gK (m : Nat) (p0 : Tree) (a : Nat) (r0 : Bool) (h : ((a < p0.kids.length) → ∃ c, p0.kids[a]? = some c ∧ ∃ b, fy c b ∧ ((b = false) → false = r0) ∧ ((b = true) → a + 1 ≤ 9223372036854775807 ∧ aB m p0 (a + 1) r0)) ∧ ((¬ a < p0.kids.length) → true = r0)) : aB (m + 1) p0 a r0 := by
 intro K j1 hK hj1
 obtain ⟨j1, rfl⟩ : ∃ j, j1 = j + 1 := ⟨j1 - 1, by omega⟩
 refine gR 8 rfl <| gB 44 rfl rfl rfl ?_ ?_ <;> intro hd
 replace hd := (fh hd)
 replace h := h.1 hd
 refine gR 10 rfl ?_
 obtain ⟨c, hxt1_1, h⟩ := h
 refine gY (aI (av hxt1_1) ab rfl rfl rfl rfl) rfl rfl <| gR 1 rfl ?_
 obtain ⟨b, hs6, h⟩ := h
 refine gC0 hs6 (by kernel_rfl) rfl rfl .rfl rfl <| gR 3 rfl <| gB 53 rfl rfl rfl ?_ ?_ <;> intro hd
 replace hd := (dD hd)
 replace h := h.1 hd
 refine gR 9 rfl <| go_xloopR <| gR 2 rfl ?_
 subst h
 exact go_end ab (rs := [.tmp 2]) rfl rfl rfl
 replace hd := (dC hd)
 replace h := h.2 hd
 refine gR 6 rfl ?_
 obtain ⟨hb, h⟩ := h
 exact gR 1 rfl <| gV 46 (.int .i64 ((a + 1 : Nat) : Int)) rfl (ax (by omega) (by omega)) rfl <| gR 2 rfl <| go_xloop <| gJ (h K _ hK (by omega)) [] [] rfl hK pq3 trivial rfl
 replace hd := (fo hd)
 replace h := h.2 hd
 refine gR 3 rfl <| go_xloopE <| gR 8 rfl ?_
 subst h
 exact go_end ab (rs := [.tmp 2]) rfl rfl rfl
def fv (m : Nat) (p0 : Tree) (a : Int) (b : Nat) (r0 : Int) : Prop := ∀ (K : Ctx) (j1 : Nat), aq K [] → m ≤ j1 → qLG K Tryz.f21 (fun u _ => u = .int .i64 r0) (xI (ac Tryz.f21)) [.loop (xI (ac Tryz.f21)) j1, .blk 0, .seq (xH (ac Tryz.f21))] 22 (mkF 22 0 [(1, .box (ae p0) 0), (3, .int .i64 a), (4, .int .i64 (b : Int))]) ⟨0, []⟩
theorem qU (m : Nat) (p0 : Tree) (r0 : Int) (h : fv m p0 0 0 r0) : ey p0 r0 := by
 refine ⟨rfl, rfl, ?_⟩
 refine am 22 [] Tryz.func21 rfl rfl rfl (aL rfl) fun K hK => ?_
 exact gR 3 rfl <| gFP 0 rfl rfl rfl rfl <| gR 15 rfl <| go_loop m <| gJ (h K _ hK (by omega)) [] [] rfl hK pq3 trivial rfl
theorem pT (m : Nat) (p0 : Tree) (b : Int) (a : Nat) (r0 : Int) (h : ((a < p0.kids.length) → ∃ c, p0.kids[a]? = some c ∧ ∃ d, ey c d ∧ fv m p0 (max b d) (a + 1) r0) ∧ ((¬ a < p0.kids.length) → InI (b + 1) ∧ (b + 1) = r0)) : fv (m + 1) p0 b a r0 := by
 intro K j1 hK hj1
 obtain ⟨j1, rfl⟩ : ∃ j, j1 = j + 1 := ⟨j1 - 1, by omega⟩
 refine gR 7 rfl <| gV 8 (.int .i64 (p0.kids.length : Int)) rfl (bF (aE _)) rfl <| gLB 7 rfl (aE _) fun hl5 => gR 3 rfl <| gB 9 rfl rfl rfl ?_ ?_ <;> intro hd
 replace hd := (fh hd)
 replace h := h.1 hd
 refine gR 10 rfl ?_
 obtain ⟨c, hxt1_1, h⟩ := h
 refine gY (aI (av hxt1_1) ab rfl rfl rfl rfl) rfl rfl <| gR 1 rfl ?_
 obtain ⟨d, hs6, h⟩ := h
 exact gC0 hs6 (by kernel_rfl) rfl rfl .rfl rfl <| gR 8 rfl <| gV 11 (.int .i64 ((a + 1 : Nat) : Int)) rfl (ax (by have := hl5; omega) (by omega)) rfl <| gR 2 rfl <| go_xloop <| gJ (h K _ hK (by omega)) [] [] rfl hK pq3 trivial rfl
 replace hd := (fo hd)
 replace h := h.2 hd
 refine gR 3 rfl <| go_xloopE <| gR 5 rfl ?_
 obtain ⟨hb, h⟩ := h
 refine gR 1 rfl <| gV 21 (.int .i64 (b + 1)) rfl (ax hb rfl) rfl <| gR 4 rfl ?_
 subst h
 exact go_end ab (rs := [.tmp 2]) rfl rfl rfl
def bU (m : Nat) (a : List aa) (b : List UInt8) (c : Nat) (r0 : List UInt8) : Prop := ∀ (K : Ctx) (j1 : Nat), aq K [] → m ≤ j1 → qLG K Tryz.f22 (fun u _ => u = .str r0) (xI (xA (ac Tryz.f22))) [.loop (xI (xA (ac Tryz.f22))) j1, .blk 0, .seq (xA (xH (ac Tryz.f22)))] 57 (mkF 57 0 [(3, .row 2 (List.map aa.w a)), (4, .str b), (5, .int .i64 (c : Int))]) ⟨0, []⟩
theorem mu (m : Nat) (p0 : Tree) (r0 : List UInt8) (h : ∃ a, eg p0 a ∧ ((a = false) → [] = r0) ∧ ((a = true) → ∃ b, mC p0 b ∧ bU m b [] 0 r0)) : jx p0 r0 := by
 refine ⟨rfl, rfl, ?_⟩
 refine am 57 [] Tryz.func22 rfl rfl rfl (aL rfl) fun K hK => ?_
 refine gR 3 rfl <| gFP 0 rfl rfl rfl rfl <| gR 7 rfl ?_
 obtain ⟨a, hs8, h⟩ := h
 refine gC0 hs8 (by kernel_rfl) rfl rfl .rfl rfl <| gR 3 rfl <| gB 8 rfl rfl rfl ?_ ?_ <;> intro hd
 replace hd := (dD hd)
 replace h := h.1 hd
 refine gR 8 rfl ?_
 subst h
 exact go_end ab (rs := [.tmp 2]) rfl rfl rfl
 replace hd := (dC hd)
 replace h := h.2 hd
 refine gR 6 rfl ?_
 obtain ⟨b, hs9, h⟩ := h
 exact gC0 hs9 (by kernel_rfl) rfl rfl .rfl rfl <| gR 15 rfl <| go_loop m <| gJ (h K _ hK (by omega)) [] [] rfl hK pq3 trivial rfl
theorem cZ (m : Nat) (b : List aa) (c : List UInt8) (a : Nat) (r0 : List UInt8) (h : ((a < b.length) → ((0 < (a : Int)) → ∃ n, b[a]? = some n ∧ ((n.Lead = []) → InI ((a : Int) - 1) ∧ ∃ o, ((a : Int) - 1) = ((o : Nat) : Int) ∧ ∃ s, b[o]? = some s ∧ ∃ t, b[a]? = some t ∧ ∃ p, mU s.Text t.Text p ∧ ((p = true) → c.length + [32].length ≤ 9223372036854775807 ∧ ∃ k, b[a]? = some k ∧ (c ++ [32]).length + k.Lead.length ≤ 9223372036854775807 ∧ ∃ q, b[a]? = some q ∧ ((c ++ [32]) ++ k.Lead).length + q.Text.length ≤ 9223372036854775807 ∧ bU m b (((c ++ [32]) ++ k.Lead) ++ q.Text) (a + 1) r0) ∧ ((p = false) → ∃ l, b[a]? = some l ∧ c.length + l.Lead.length ≤ 9223372036854775807 ∧ ∃ r, b[a]? = some r ∧ (c ++ l.Lead).length + r.Text.length ≤ 9223372036854775807 ∧ bU m b ((c ++ l.Lead) ++ r.Text) (a + 1) r0)) ∧ ((n.Lead ≠ []) → ∃ d, b[a]? = some d ∧ c.length + d.Lead.length ≤ 9223372036854775807 ∧ ∃ g, b[a]? = some g ∧ (c ++ d.Lead).length + g.Text.length ≤ 9223372036854775807 ∧ bU m b ((c ++ d.Lead) ++ g.Text) (a + 1) r0)) ∧ ((¬ 0 < (a : Int)) → ∃ e, b[a]? = some e ∧ c.length + e.Lead.length ≤ 9223372036854775807 ∧ ∃ i, b[a]? = some i ∧ (c ++ e.Lead).length + i.Text.length ≤ 9223372036854775807 ∧ bU m b ((c ++ e.Lead) ++ i.Text) (a + 1) r0)) ∧ ((¬ a < b.length) → c = r0)) : bU (m + 1) b c a r0 := by
 intro K j1 hK hj1
 obtain ⟨j1, rfl⟩ : ∃ j, j1 = j + 1 := ⟨j1 - 1, by omega⟩
 refine gR 6 rfl <| gV 13 (.int .i64 (b.length : Int)) rfl (bF (aZ aa.w _)) rfl <| gLB 12 rfl (aZ aa.w _) fun hl10 => gR 3 rfl <| gB 14 rfl rfl rfl ?_ ?_ <;> intro hd
 replace hd := (fh hd)
 replace h := h.1 hd
 refine gR 7 rfl <| gDs [] 24 24 rfl (by kernel_rfl) (by kernel_rfl) <| gDr [(0, 0), (1, 0), (2, 0)] (by kernel_rfl) rfl rfl <| gB 19 rfl rfl rfl ?_ ?_ <;> intro hd
 refine gT 18 rfl hd rfl ?_
 replace hd := (of_decide_eq_true hd)
 replace h := h.1 hd
 refine gDr [(3, 2), (4, 0)] (by kernel_rfl) rfl rfl ?_
 obtain ⟨n, hxx1_1, h⟩ := h
 refine bi 5 rfl (by kernel_rfl) (aI (mapget (f := aa.w) hxx1_1) ab rfl rfl rfl rfl) rfl rfl ?_
 refine gDr [(6, 0), (7, 0), (8, 0), (9, 0), (10, 0)] (by kernel_rfl) rfl rfl <| gB 27 rfl rfl rfl ?_ ?_ <;> intro hd
 refine gT 26 rfl hd rfl ?_
 replace hd := (eq_of_beq hd)
 replace h := h.1 hd
 refine gDr [(11, 2), (12, 2)] (by kernel_rfl) rfl rfl ?_
 obtain ⟨hb, h⟩ := h
 refine gDr [(13, 2)] (by kernel_rfl) rfl rfl <| gV 30 (.int .i64 ((a : Int) - 1)) rfl (ax hb rfl) rfl ?_
 obtain ⟨o, v, h⟩ := h
 refine gV 30 (.int .i64 ((o : Nat) : Int)) rfl (je v) rfl ?_
 obtain ⟨s, hxx1_3, h⟩ := h
 refine gYd 14 rfl (by kernel_rfl) (aI (mapget (f := aa.w) hxx1_3) ab rfl rfl rfl rfl) rfl rfl <| gDr [(15, 2), (16, 2), (17, 2), (18, 0)] (by kernel_rfl) rfl rfl ?_
 obtain ⟨t, hxx1_4, h⟩ := h
 refine bi 19 rfl (by kernel_rfl) (aI (mapget (f := aa.w) hxx1_4) ab rfl rfl rfl rfl) rfl rfl ?_
 refine gDr [(20, 0), (21, 0)] (by kernel_rfl) rfl rfl ?_
 obtain ⟨p, hs11, h⟩ := h
 refine cf 22 hs11 (by kernel_rfl) rfl (by kernel_rfl) rfl rfl .rfl rfl rfl ?_
 refine gDr [(23, 0)] (by kernel_rfl) rfl rfl <| gDe (by kernel_rfl) <| gR 1 rfl <| gB 40 rfl rfl rfl ?_ ?_ <;> intro hd
 replace h := h.1 hd
 refine gR 3 rfl ?_
 obtain ⟨hb, h⟩ := h
 refine gY (qD rfl rfl hb) rfl rfl <| gR 3 rfl <| gDs [] 14 14 rfl (by kernel_rfl) (by kernel_rfl) <| gDr [(0, 2), (1, 2), (2, 2)] (by kernel_rfl) rfl rfl ?_
 obtain ⟨k, hxx1_6, h⟩ := h
 refine gYd 3 rfl (by kernel_rfl) (aI (mapget (f := aa.w) hxx1_6) ab rfl rfl rfl rfl) rfl rfl <| gDr [(4, 2), (5, 2)] (by kernel_rfl) rfl rfl ?_
 obtain ⟨hb, h⟩ := h
 refine gYd 6 rfl (by kernel_rfl) (qD rfl rfl hb) rfl rfl <| gDr [(7, 2), (8, 0)] (by kernel_rfl) rfl rfl ?_
 obtain ⟨q, hxx1_7, h⟩ := h
 refine bi 9 rfl (by kernel_rfl) (aI (mapget (f := aa.w) hxx1_7) ab rfl rfl rfl rfl) rfl rfl ?_
 refine gDr [(10, 0), (11, 0)] (by kernel_rfl) rfl rfl ?_
 obtain ⟨hb, h⟩ := h
 refine bi 12 rfl (by kernel_rfl) (qD rfl rfl hb) rfl rfl ?_
 exact gDr [(13, 0)] (by kernel_rfl) rfl rfl <| gDe (by kernel_rfl) <| gR 5 rfl <| gV 16 (.int .i64 ((a + 1 : Nat) : Int)) rfl (ax (by have := hl10; omega) (by omega)) rfl <| gR 2 rfl <| go_xloop <| gJ (h K _ hK (by omega)) [] [] rfl hK pq3 trivial rfl
 replace h := h.2 hd
 refine gR 3 rfl <| gDs [] 14 14 rfl (by kernel_rfl) (by kernel_rfl) <| gDr [(0, 2), (1, 2), (2, 2)] (by kernel_rfl) rfl rfl ?_
 obtain ⟨l, hxx1_8, h⟩ := h
 refine gYd 3 rfl (by kernel_rfl) (aI (mapget (f := aa.w) hxx1_8) ab rfl rfl rfl rfl) rfl rfl <| gDr [(4, 2), (5, 2)] (by kernel_rfl) rfl rfl ?_
 obtain ⟨hb, h⟩ := h
 refine gYd 6 rfl (by kernel_rfl) (qD rfl rfl hb) rfl rfl <| gDr [(7, 2), (8, 0)] (by kernel_rfl) rfl rfl ?_
 obtain ⟨r, hxx1_9, h⟩ := h
 refine bi 9 rfl (by kernel_rfl) (aI (mapget (f := aa.w) hxx1_9) ab rfl rfl rfl rfl) rfl rfl ?_
 refine gDr [(10, 0), (11, 0)] (by kernel_rfl) rfl rfl ?_
 obtain ⟨hb, h⟩ := h
 refine bi 12 rfl (by kernel_rfl) (qD rfl rfl hb) rfl rfl ?_
 exact gDr [(13, 0)] (by kernel_rfl) rfl rfl <| gDe (by kernel_rfl) <| gR 5 rfl <| gV 16 (.int .i64 ((a + 1 : Nat) : Int)) rfl (ax (by have := hl10; omega) (by omega)) rfl <| gR 2 rfl <| go_xloop <| gJ (h K _ hK (by omega)) [] [] rfl hK pq3 trivial rfl
 refine gF 26 rfl hd rfl ?_
 replace hd := (ne_of_beq_false hd)
 replace h := h.2 hd
 refine gDr [(11, 2), (12, 2), (13, 2), (14, 2), (15, 2), (16, 2), (17, 2), (18, 0), (19, 0), (20, 0), (21, 0), (22, 0), (23, 0)] (by kernel_rfl) rfl rfl <| gDe (by kernel_rfl) <| gR 4 rfl <| gDs [] 14 14 rfl (by kernel_rfl) (by kernel_rfl) <| gDr [(0, 2), (1, 2), (2, 2)] (by kernel_rfl) rfl rfl ?_
 obtain ⟨d, hxx1_10, h⟩ := h
 refine gYd 3 rfl (by kernel_rfl) (aI (mapget (f := aa.w) hxx1_10) ab rfl rfl rfl rfl) rfl rfl <| gDr [(4, 2), (5, 2)] (by kernel_rfl) rfl rfl ?_
 obtain ⟨hb, h⟩ := h
 refine gYd 6 rfl (by kernel_rfl) (qD rfl rfl hb) rfl rfl <| gDr [(7, 2), (8, 0)] (by kernel_rfl) rfl rfl ?_
 obtain ⟨g, hxx1_11, h⟩ := h
 refine bi 9 rfl (by kernel_rfl) (aI (mapget (f := aa.w) hxx1_11) ab rfl rfl rfl rfl) rfl rfl ?_
 refine gDr [(10, 0), (11, 0)] (by kernel_rfl) rfl rfl ?_
 obtain ⟨hb, h⟩ := h
 refine bi 12 rfl (by kernel_rfl) (qD rfl rfl hb) rfl rfl ?_
 exact gDr [(13, 0)] (by kernel_rfl) rfl rfl <| gDe (by kernel_rfl) <| gR 5 rfl <| gV 16 (.int .i64 ((a + 1 : Nat) : Int)) rfl (ax (by have := hl10; omega) (by omega)) rfl <| gR 2 rfl <| go_xloop <| gJ (h K _ hK (by omega)) [] [] rfl hK pq3 trivial rfl
 refine gF 18 rfl hd rfl ?_
 replace hd := (of_decide_eq_false hd)
 replace h := h.2 hd
 refine gDr [(3, 2), (4, 0), (5, 0), (6, 0), (7, 0), (8, 0), (9, 0), (10, 0), (11, 2), (12, 2), (13, 2), (14, 2), (15, 2), (16, 2), (17, 2), (18, 0), (19, 0), (20, 0), (21, 0), (22, 0), (23, 0)] (by kernel_rfl) rfl rfl <| gDe (by kernel_rfl) <| gR 4 rfl <| gDs [] 14 14 rfl (by kernel_rfl) (by kernel_rfl) <| gDr [(0, 2), (1, 2), (2, 2)] (by kernel_rfl) rfl rfl ?_
 obtain ⟨e, hxx1_12, h⟩ := h
 refine gYd 3 rfl (by kernel_rfl) (aI (mapget (f := aa.w) hxx1_12) ab rfl rfl rfl rfl) rfl rfl <| gDr [(4, 2), (5, 2)] (by kernel_rfl) rfl rfl ?_
 obtain ⟨hb, h⟩ := h
 refine gYd 6 rfl (by kernel_rfl) (qD rfl rfl hb) rfl rfl <| gDr [(7, 2), (8, 0)] (by kernel_rfl) rfl rfl ?_
 obtain ⟨i, hxx1_13, h⟩ := h
 refine bi 9 rfl (by kernel_rfl) (aI (mapget (f := aa.w) hxx1_13) ab rfl rfl rfl rfl) rfl rfl ?_
 refine gDr [(10, 0), (11, 0)] (by kernel_rfl) rfl rfl ?_
 obtain ⟨hb, h⟩ := h
 refine bi 12 rfl (by kernel_rfl) (qD rfl rfl hb) rfl rfl ?_
 exact gDr [(13, 0)] (by kernel_rfl) rfl rfl <| gDe (by kernel_rfl) <| gR 5 rfl <| gV 16 (.int .i64 ((a + 1 : Nat) : Int)) rfl (ax (by have := hl10; omega) (by omega)) rfl <| gR 2 rfl <| go_xloop <| gJ (h K _ hK (by omega)) [] [] rfl hK pq3 trivial rfl
 replace hd := (fo hd)
 replace h := h.2 hd
 refine gR 3 rfl <| go_xloopE <| gR 9 rfl ?_
 subst h
 exact go_end ab (rs := [.tmp 2]) rfl rfl rfl
theorem pF (m : Nat) (p0 : Tree) (r0 : List aa) (h : ∃ a, aj ([] : List aa) p0 a ∧ a = r0) : mC p0 r0 := by
 refine ⟨rfl, rfl, ?_⟩
 refine am 5 [] Tryz.func41 rfl rfl rfl (aL rfl) fun K hK => ?_
 refine gR 3 rfl <| gFP 0 rfl rfl rfl rfl <| gR 6 rfl ?_
 obtain ⟨a, hs2, h⟩ := h
 refine gCn 0 60 2 hs2 [1] (by kernel_rfl) rfl rfl rfl rfl .rfl ⟨⟨_, rfl, ⟨rfl, rfl, rfl⟩⟩, trivial⟩ rfl ?_
 rintro _ _ ⟨rfl, rfl⟩
 refine gHR 3 (List.map aa.w a) rfl (vI _ a) rfl <| gR 4 rfl <| gFR 3 rfl (dn _ (fun _ => rfl) _) rfl rfl ?_
 subst h
 exact go_end ab (rs := [.tmp 2]) rfl rfl rfl
def lY (m : Nat) (p0 : List aa) (p1 : Tree) (r0 : List aa) : Prop := ∀ (K : Ctx), aq K [] → qLG K Tryz.f67 (fun u G => u = .sl 1 ∧ G = ⟨2, [(1, .row 60 2 (List.map aa.w r0))]⟩) (xK (xG (ac Tryz.f67))) [.blk 0, .seq (xH (ac Tryz.f67))] 365 (mkF 365 0 [(0, .sl 0), (3, .box (ae p1) 0), (5, .int .i64 (p1.kids.length : Int))]) ⟨1, [(0, .row 60 2 (List.map aa.w p0))]⟩
def iM (m : Nat) (p0 : List aa) (p1 : Tree) (r0 : List aa) : Prop := ∀ (K : Ctx), aq K [] → qLG K Tryz.f67 (fun u G => u = .sl 1 ∧ G = ⟨2, [(1, .row 60 2 (List.map aa.w r0))]⟩) (xN (ac Tryz.f67)) [.blk 0, .seq (xH (ac Tryz.f67))] 365 (mkF 365 0 [(0, .sl 0), (3, .box (ae p1) 0), (5, .int .i64 (p1.kids.length : Int)), (11, .int .i64 p1.kind)]) ⟨1, [(0, .row 60 2 (List.map aa.w p0))]⟩
def dM (m : Nat) (p1 : Tree) (a : List aa) (b : Nat) (r0 : List aa) : Prop := ∀ (K : Ctx) (j1 : Nat), aq K [] → m ≤ j1 → qLG K Tryz.f67 (fun u G => u = .sl 1 ∧ G = ⟨2, [(1, .row 60 2 (List.map aa.w r0))]⟩) (cL (xE (cA (cB (xK (xG (ac Tryz.f67))))))) [.loop (cL (xE (cA (cB (xK (xG (ac Tryz.f67))))))) j1, .blk 1, .seq (xA (xK (xG (ac Tryz.f67)))), .blk 0, .seq (xH (ac Tryz.f67))] 365 (mkF 365 0 [(0, .sl 0), (3, .box (ae p1) 0), (5, .int .i64 (p1.kids.length : Int)), (6, .int .i64 (b : Int))]) ⟨1, [(0, .row 60 2 (List.map aa.w a))]⟩
def lR (m : Nat) (p0 : List aa) (p1 : Tree) (r0 : List aa) : Prop := ∀ (K : Ctx), aq K [] → qLG K Tryz.f67 (fun u G => u = .sl 1 ∧ G = ⟨2, [(1, .row 60 2 (List.map aa.w r0))]⟩) (xK (xN (ac Tryz.f67))) [.blk 0, .seq (xH (ac Tryz.f67))] 365 (mkF 365 0 [(0, .sl 0), (3, .box (ae p1) 0), (5, .int .i64 (p1.kids.length : Int))]) ⟨1, [(0, .row 60 2 (List.map aa.w p0))]⟩
def ir (m : Nat) (p0 : List aa) (p1 : Tree) (r0 : List aa) : Prop := ∀ (K : Ctx), aq K [] → qLG K Tryz.f67 (fun u G => u = .sl 1 ∧ G = ⟨2, [(1, .row 60 2 (List.map aa.w r0))]⟩) (xC (xG (ac Tryz.f67))) [.blk 0, .seq (xH (ac Tryz.f67))] 365 (mkF 365 0 [(0, .sl 0), (3, .box (ae p1) 0), (5, .int .i64 (p1.kids.length : Int)), (11, .int .i64 p1.kind)]) ⟨1, [(0, .row 60 2 (List.map aa.w p0))]⟩
def lZ (m : Nat) (p0 : List aa) (p1 : Tree) (r0 : List aa) : Prop := ∀ (K : Ctx), aq K [] → qLG K Tryz.f67 (fun u G => u = .sl 1 ∧ G = ⟨2, [(1, .row 60 2 (List.map aa.w r0))]⟩) (xK (xC (xG (ac Tryz.f67)))) [.blk 0, .seq (xH (ac Tryz.f67))] 365 (mkF 365 0 [(0, .sl 0), (3, .box (ae p1) 0)]) ⟨1, [(0, .row 60 2 (List.map aa.w p0))]⟩
def iR (m : Nat) (p0 : List aa) (p1 : Tree) (r0 : List aa) : Prop := ∀ (K : Ctx), aq K [] → qLG K Tryz.f67 (fun u G => u = .sl 1 ∧ G = ⟨2, [(1, .row 60 2 (List.map aa.w r0))]⟩) (xC (xN (ac Tryz.f67))) [.blk 0, .seq (xH (ac Tryz.f67))] 365 (mkF 365 0 [(0, .sl 0), (3, .box (ae p1) 0), (5, .int .i64 (p1.kids.length : Int)), (11, .int .i64 p1.kind)]) ⟨1, [(0, .row 60 2 (List.map aa.w p0))]⟩
def ma (m : Nat) (p0 : List aa) (p1 : Tree) (r0 : List aa) : Prop := ∀ (K : Ctx), aq K [] → qLG K Tryz.f67 (fun u G => u = .sl 1 ∧ G = ⟨2, [(1, .row 60 2 (List.map aa.w r0))]⟩) (xK (xC (xN (ac Tryz.f67)))) [.blk 0, .seq (xH (ac Tryz.f67))] 365 (mkF 365 0 [(0, .sl 0), (3, .box (ae p1) 0)]) ⟨1, [(0, .row 60 2 (List.map aa.w p0))]⟩
def iJ (m : Nat) (p0 : List aa) (p1 : Tree) (r0 : List aa) : Prop := ∀ (K : Ctx), aq K [] → qLG K Tryz.f67 (fun u G => u = .sl 1 ∧ G = ⟨2, [(1, .row 60 2 (List.map aa.w r0))]⟩) (xD (xG (ac Tryz.f67))) [.blk 0, .seq (xH (ac Tryz.f67))] 365 (mkF 365 0 [(0, .sl 0), (3, .box (ae p1) 0), (5, .int .i64 (p1.kids.length : Int)), (11, .int .i64 p1.kind)]) ⟨1, [(0, .row 60 2 (List.map aa.w p0))]⟩
def iS (m : Nat) (p0 : List aa) (p1 : Tree) (r0 : List aa) : Prop := ∀ (K : Ctx), aq K [] → qLG K Tryz.f67 (fun u G => u = .sl 1 ∧ G = ⟨2, [(1, .row 60 2 (List.map aa.w r0))]⟩) (xD (xN (ac Tryz.f67))) [.blk 0, .seq (xH (ac Tryz.f67))] 365 (mkF 365 0 [(0, .sl 0), (3, .box (ae p1) 0), (5, .int .i64 (p1.kids.length : Int)), (11, .int .i64 p1.kind)]) ⟨1, [(0, .row 60 2 (List.map aa.w p0))]⟩
def hD (m : Nat) (p0 : List aa) (p1 : Tree) (r0 : List aa) : Prop := ∀ (K : Ctx), aq K [] → qLG K Tryz.f67 (fun u G => u = .sl 1 ∧ G = ⟨2, [(1, .row 60 2 (List.map aa.w r0))]⟩) (xD (xC (xG (ac Tryz.f67)))) [.blk 0, .seq (xH (ac Tryz.f67))] 365 (mkF 365 0 [(0, .sl 0), (3, .box (ae p1) 0), (5, .int .i64 (p1.kids.length : Int)), (11, .int .i64 p1.kind)]) ⟨1, [(0, .row 60 2 (List.map aa.w p0))]⟩
def hV (m : Nat) (p0 : List aa) (p1 : Tree) (r0 : List aa) : Prop := ∀ (K : Ctx), aq K [] → qLG K Tryz.f67 (fun u G => u = .sl 1 ∧ G = ⟨2, [(1, .row 60 2 (List.map aa.w r0))]⟩) (xD (xC (xN (ac Tryz.f67)))) [.blk 0, .seq (xH (ac Tryz.f67))] 365 (mkF 365 0 [(0, .sl 0), (3, .box (ae p1) 0), (5, .int .i64 (p1.kids.length : Int)), (11, .int .i64 p1.kind)]) ⟨1, [(0, .row 60 2 (List.map aa.w p0))]⟩
def gW (m : Nat) (p0 : List aa) (p1 : Tree) (r0 : List aa) : Prop := ∀ (K : Ctx), aq K [] → qLG K Tryz.f67 (fun u G => u = .sl 1 ∧ G = ⟨2, [(1, .row 60 2 (List.map aa.w r0))]⟩) (xL (xG (ac Tryz.f67))) [.blk 0, .seq (xH (ac Tryz.f67))] 365 (mkF 365 0 [(0, .sl 0), (3, .box (ae p1) 0), (5, .int .i64 (p1.kids.length : Int)), (11, .int .i64 p1.kind)]) ⟨1, [(0, .row 60 2 (List.map aa.w p0))]⟩
def gI (m : Nat) (p0 : List aa) (p1 : Tree) (r0 : List aa) : Prop := ∀ (K : Ctx), aq K [] → qLG K Tryz.f67 (fun u G => u = .sl 1 ∧ G = ⟨2, [(1, .row 60 2 (List.map aa.w r0))]⟩) (xL (xN (ac Tryz.f67))) [.blk 0, .seq (xH (ac Tryz.f67))] 365 (mkF 365 0 [(0, .sl 0), (3, .box (ae p1) 0), (5, .int .i64 (p1.kids.length : Int)), (11, .int .i64 p1.kind)]) ⟨1, [(0, .row 60 2 (List.map aa.w p0))]⟩
def gO (m : Nat) (p0 : List aa) (p1 : Tree) (r0 : List aa) : Prop := ∀ (K : Ctx), aq K [] → qLG K Tryz.f67 (fun u G => u = .sl 1 ∧ G = ⟨2, [(1, .row 60 2 (List.map aa.w r0))]⟩) (xL (xC (xG (ac Tryz.f67)))) [.blk 0, .seq (xH (ac Tryz.f67))] 365 (mkF 365 0 [(0, .sl 0), (3, .box (ae p1) 0), (5, .int .i64 (p1.kids.length : Int)), (11, .int .i64 p1.kind)]) ⟨1, [(0, .row 60 2 (List.map aa.w p0))]⟩
def lm (m : Nat) (p0 : List aa) (p1 : Tree) (r0 : List aa) : Prop := ∀ (K : Ctx), aq K [] → qLG K Tryz.f67 (fun u G => u = .sl 1 ∧ G = ⟨2, [(1, .row 60 2 (List.map aa.w r0))]⟩) (xK (xL (xC (xG (ac Tryz.f67))))) [.blk 0, .seq (xH (ac Tryz.f67))] 365 (mkF 365 0 [(0, .sl 0), (3, .box (ae p1) 0)]) ⟨1, [(0, .row 60 2 (List.map aa.w p0))]⟩
def gQ (m : Nat) (p0 : List aa) (p1 : Tree) (r0 : List aa) : Prop := ∀ (K : Ctx), aq K [] → qLG K Tryz.f67 (fun u G => u = .sl 1 ∧ G = ⟨2, [(1, .row 60 2 (List.map aa.w r0))]⟩) (xL (xC (xN (ac Tryz.f67)))) [.blk 0, .seq (xH (ac Tryz.f67))] 365 (mkF 365 0 [(0, .sl 0), (3, .box (ae p1) 0), (5, .int .i64 (p1.kids.length : Int)), (11, .int .i64 p1.kind)]) ⟨1, [(0, .row 60 2 (List.map aa.w p0))]⟩
def lv (m : Nat) (p0 : List aa) (p1 : Tree) (r0 : List aa) : Prop := ∀ (K : Ctx), aq K [] → qLG K Tryz.f67 (fun u G => u = .sl 1 ∧ G = ⟨2, [(1, .row 60 2 (List.map aa.w r0))]⟩) (xK (xL (xC (xN (ac Tryz.f67))))) [.blk 0, .seq (xH (ac Tryz.f67))] 365 (mkF 365 0 [(0, .sl 0), (3, .box (ae p1) 0), (5, .int .i64 (p1.kids.length : Int))]) ⟨1, [(0, .row 60 2 (List.map aa.w p0))]⟩
def gP (m : Nat) (p0 : List aa) (p1 : Tree) (r0 : List aa) : Prop := ∀ (K : Ctx), aq K [] → qLG K Tryz.f67 (fun u G => u = .sl 1 ∧ G = ⟨2, [(1, .row 60 2 (List.map aa.w r0))]⟩) (xL (xD (xG (ac Tryz.f67)))) [.blk 0, .seq (xH (ac Tryz.f67))] 365 (mkF 365 0 [(0, .sl 0), (3, .box (ae p1) 0), (5, .int .i64 (p1.kids.length : Int)), (11, .int .i64 p1.kind)]) ⟨1, [(0, .row 60 2 (List.map aa.w p0))]⟩
def hO (m : Nat) (p0 : List aa) (p1 : Tree) (r0 : List aa) : Prop := ∀ (K : Ctx), aq K [] → qLG K Tryz.f67 (fun u G => u = .sl 1 ∧ G = ⟨2, [(1, .row 60 2 (List.map aa.w r0))]⟩) (xL (xD (xN (ac Tryz.f67)))) [.blk 0, .seq (xH (ac Tryz.f67))] 365 (mkF 365 0 [(0, .sl 0), (3, .box (ae p1) 0), (5, .int .i64 (p1.kids.length : Int)), (11, .int .i64 p1.kind)]) ⟨1, [(0, .row 60 2 (List.map aa.w p0))]⟩
def lh (m : Nat) (p0 : List aa) (p1 : Tree) (r0 : List aa) : Prop := ∀ (K : Ctx), aq K [] → qLG K Tryz.f67 (fun u G => u = .sl 1 ∧ G = ⟨2, [(1, .row 60 2 (List.map aa.w r0))]⟩) (xK (xL (xD (xN (ac Tryz.f67))))) [.blk 0, .seq (xH (ac Tryz.f67))] 365 (mkF 365 0 [(0, .sl 0), (3, .box (ae p1) 0), (5, .int .i64 (p1.kids.length : Int))]) ⟨1, [(0, .row 60 2 (List.map aa.w p0))]⟩
def hZ (m : Nat) (p0 : List aa) (p1 : Tree) (r0 : List aa) : Prop := ∀ (K : Ctx), aq K [] → qLG K Tryz.f67 (fun u G => u = .sl 1 ∧ G = ⟨2, [(1, .row 60 2 (List.map aa.w r0))]⟩) (xL (xD (xC (xG (ac Tryz.f67))))) [.blk 0, .seq (xH (ac Tryz.f67))] 365 (mkF 365 0 [(0, .sl 0), (3, .box (ae p1) 0), (11, .int .i64 p1.kind)]) ⟨1, [(0, .row 60 2 (List.map aa.w p0))]⟩
def la (m : Nat) (p0 : List aa) (p1 : Tree) (r0 : List aa) : Prop := ∀ (K : Ctx), aq K [] → qLG K Tryz.f67 (fun u G => u = .sl 1 ∧ G = ⟨2, [(1, .row 60 2 (List.map aa.w r0))]⟩) (xK (xL (xD (xC (xG (ac Tryz.f67)))))) [.blk 0, .seq (xH (ac Tryz.f67))] 365 (mkF 365 0 [(0, .sl 0), (3, .box (ae p1) 0)]) ⟨1, [(0, .row 60 2 (List.map aa.w p0))]⟩
def gM (m : Nat) (p0 : List aa) (p1 : Tree) (r0 : List aa) : Prop := ∀ (K : Ctx), aq K [] → qLG K Tryz.f67 (fun u G => u = .sl 1 ∧ G = ⟨2, [(1, .row 60 2 (List.map aa.w r0))]⟩) (xL (xD (xC (xN (ac Tryz.f67))))) [.blk 0, .seq (xH (ac Tryz.f67))] 365 (mkF 365 0 [(0, .sl 0), (3, .box (ae p1) 0), (11, .int .i64 p1.kind)]) ⟨1, [(0, .row 60 2 (List.map aa.w p0))]⟩
def lb (m : Nat) (p0 : List aa) (p1 : Tree) (r0 : List aa) : Prop := ∀ (K : Ctx), aq K [] → qLG K Tryz.f67 (fun u G => u = .sl 1 ∧ G = ⟨2, [(1, .row 60 2 (List.map aa.w r0))]⟩) (xK (xL (xD (xC (xN (ac Tryz.f67)))))) [.blk 0, .seq (xH (ac Tryz.f67))] 365 (mkF 365 0 [(0, .sl 0), (3, .box (ae p1) 0)]) ⟨1, [(0, .row 60 2 (List.map aa.w p0))]⟩
def hI (m : Nat) (p0 : List aa) (p1 : Tree) (r0 : List aa) : Prop := ∀ (K : Ctx), aq K [] → qLG K Tryz.f67 (fun u G => u = .sl 1 ∧ G = ⟨2, [(1, .row 60 2 (List.map aa.w r0))]⟩) (xL (xL (xG (ac Tryz.f67)))) [.blk 0, .seq (xH (ac Tryz.f67))] 365 (mkF 365 0 [(0, .sl 0), (3, .box (ae p1) 0), (11, .int .i64 p1.kind)]) ⟨1, [(0, .row 60 2 (List.map aa.w p0))]⟩
def ly (m : Nat) (p0 : List aa) (p1 : Tree) (r0 : List aa) : Prop := ∀ (K : Ctx), aq K [] → qLG K Tryz.f67 (fun u G => u = .sl 1 ∧ G = ⟨2, [(1, .row 60 2 (List.map aa.w r0))]⟩) (xK (xL (xL (xG (ac Tryz.f67))))) [.blk 0, .seq (xH (ac Tryz.f67))] 365 (mkF 365 0 [(0, .sl 0), (3, .box (ae p1) 0)]) ⟨1, [(0, .row 60 2 (List.map aa.w p0))]⟩
def hW (m : Nat) (p0 : List aa) (p1 : Tree) (r0 : List aa) : Prop := ∀ (K : Ctx), aq K [] → qLG K Tryz.f67 (fun u G => u = .sl 1 ∧ G = ⟨2, [(1, .row 60 2 (List.map aa.w r0))]⟩) (xL (xL (xN (ac Tryz.f67)))) [.blk 0, .seq (xH (ac Tryz.f67))] 365 (mkF 365 0 [(0, .sl 0), (3, .box (ae p1) 0), (11, .int .i64 p1.kind)]) ⟨1, [(0, .row 60 2 (List.map aa.w p0))]⟩
def ll (m : Nat) (p0 : List aa) (p1 : Tree) (r0 : List aa) : Prop := ∀ (K : Ctx), aq K [] → qLG K Tryz.f67 (fun u G => u = .sl 1 ∧ G = ⟨2, [(1, .row 60 2 (List.map aa.w r0))]⟩) (xK (xL (xL (xN (ac Tryz.f67))))) [.blk 0, .seq (xH (ac Tryz.f67))] 365 (mkF 365 0 [(0, .sl 0), (3, .box (ae p1) 0)]) ⟨1, [(0, .row 60 2 (List.map aa.w p0))]⟩
theorem lW (m : Nat) (p0 : List aa) (p1 : Tree) (r0 : List aa) (h : ((p1.kind = 1) → lY m p0 p1 r0) ∧ ((p1.kind ≠ 1) → iM m p0 p1 r0)) : aj p0 p1 r0 := by
 refine am 365 [] Tryz.func67 rfl rfl rfl (aL rfl) fun K hK => ?_
 refine gR 3 rfl <| gFP 1 rfl rfl rfl rfl <| gR 8 rfl <| gV 9 (.int .i64 (p1.kids.length : Int)) rfl (bF (aE _)) rfl <| gLB 8 rfl (aE _) fun hl115 => gR 17 rfl <| qBeZ 12 13 rfl rfl rfl rfl h (fun h => ?_) fun h => ?_
 exact gR 1 rfl <| gJ (h K hK) [0] [] rfl hK pq3 ⟨⟨_, rfl, rfl, rfl, (vI _ p0).symm⟩, trivial⟩ rfl
 exact gR 1 rfl <| gJ (h K hK) [0] [] rfl hK pq4 ⟨⟨_, rfl, rfl, rfl, (vI _ p0).symm⟩, trivial⟩ rfl
theorem pz (m : Nat) (p0 : List aa) (p1 : Tree) (r0 : List aa) (h : ∃ a, ai p1 0 a ∧ ∃ b, ai p1 1 b ∧ (p0 ++ [(aa.mk a [109, 111, 100, 117, 108, 101]), (aa.mk b p1.text)]).length ≤ 1000000000 ∧ dM m p1 (p0 ++ [(aa.mk a [109, 111, 100, 117, 108, 101]), (aa.mk b p1.text)]) 0 r0) : lY (m + 1) p0 p1 r0 := by
 intro K hK
 refine gR 1 rfl <| gDs [] 12 12 rfl (by kernel_rfl) (by kernel_rfl) <| gDr [(0, 2), (1, 2), (4, 2), (6, 2), (7, 2)] (by kernel_rfl) rfl rfl ?_
 obtain ⟨a, hs116, h⟩ := h
 refine cf 2 hs116 (by kernel_rfl) rfl (by kernel_rfl) rfl rfl .rfl rfl rfl ?_
 refine gDr [(3, 2)] (by kernel_rfl) rfl rfl ?_
 obtain ⟨b, hs117, h⟩ := h
 refine cf 5 hs117 (by kernel_rfl) rfl (by kernel_rfl) rfl rfl .rfl rfl rfl ?_
 refine gDr [(8, 0), (9, 0)] (by kernel_rfl) rfl rfl ?_
 obtain ⟨hb, h⟩ := h
 refine aD 10 (.repl 0 (.row 60 2 (List.map aa.w (p0 ++ [(aa.mk a [109, 111, 100, 117, 108, 101]), (aa.mk b p1.text)])))) rfl (by kernel_rfl) (bj ab rfl rfl rfl rfl rfl (List.map_append (f := aa.w) (l₁ := p0) (l₂ := [(aa.mk a [109, 111, 100, 117, 108, 101]), (aa.mk b p1.text)])).symm (by rw [aZ]; exact hb)) (okR rfl) rfl (by kernel_rfl) rfl rfl ?_
 exact gDr [(11, 0)] (by kernel_rfl) rfl rfl <| gDe (by kernel_rfl) <| gR 8 rfl <| go_loop m <| gJ (h K _ hK (by omega)) [2] [] rfl hK pq4 ⟨⟨_, rfl, rfl, rfl, (vI _ (p0 ++ [(aa.mk a [109, 111, 100, 117, 108, 101]), (aa.mk b p1.text)])).symm⟩, trivial⟩ rfl
theorem lz (m : Nat) (p0 : List aa) (p1 : Tree) (r0 : List aa) (h : ((p1.kind = 2) → lR m p0 p1 r0) ∧ ((p1.kind ≠ 2) → ir m p0 p1 r0)) : iM (m + 1) p0 p1 r0 := by
 intro K hK
 refine gR 6 rfl <| qBeZ 43 44 rfl rfl rfl rfl h (fun h => ?_) fun h => ?_
 exact gR 1 rfl <| gJ (h K hK) [0] [] rfl hK pq3 ⟨⟨_, rfl, rfl, rfl, (vI _ p0).symm⟩, trivial⟩ rfl
 exact gR 1 rfl <| gJ (h K hK) [0] [] rfl hK pq4 ⟨⟨_, rfl, rfl, rfl, (vI _ p0).symm⟩, trivial⟩ rfl
theorem lx (m : Nat) (p1 : Tree) (a : List aa) (c : Nat) (r0 : List aa) (h : ((c < p1.kids.length) → ∃ e, p1.kids[c]? = some e ∧ ∃ d, aj a e d ∧ c + 1 ≤ 9223372036854775807 ∧ dM m p1 d (c + 1) r0) ∧ ((¬ c < p1.kids.length) → ∃ b, ai p1 2 b ∧ (a ++ [(aa.mk b [])]).length ≤ 1000000000 ∧ (a ++ [(aa.mk b [])]) = r0)) : dM (m + 1) p1 a c r0 := by
 intro K j1 hK hj1
 obtain ⟨j1, rfl⟩ : ∃ j, j1 = j + 1 := ⟨j1 - 1, by omega⟩
 refine gR 8 rfl <| gB 27 rfl rfl rfl ?_ ?_ <;> intro hd
 replace hd := (fh hd)
 replace h := h.1 hd
 refine gR 10 rfl ?_
 obtain ⟨e, hxt3_1, h⟩ := h
 refine gY (aI (av hxt3_1) ab rfl rfl rfl rfl) rfl rfl <| gR 1 rfl ?_
 obtain ⟨d, hs118, h⟩ := h
 refine gCZ hs118 [0] ⟨⟨_, rfl, ⟨rfl, rfl, (vI _ a).symm⟩⟩, trivial⟩ ?_
 refine gHR 2 (List.map aa.w d) rfl (vI _ d) rfl <| gR 6 rfl ?_
 obtain ⟨hb, h⟩ := h
 exact gR 1 rfl <| gV 29 (.int .i64 ((c + 1 : Nat) : Int)) rfl (ax (by omega) (by omega)) rfl <| gR 2 rfl <| go_xloop <| gJ (h K _ hK (by omega)) [2] [] rfl hK pq4 ⟨⟨_, rfl, rfl, rfl, (vI _ d).symm⟩, trivial⟩ rfl
 replace hd := (fo hd)
 replace h := h.2 hd
 refine gR 3 rfl <| go_xloopE <| gR 6 rfl ?_
 obtain ⟨b, hs119, h⟩ := h
 refine gC0 hs119 (by kernel_rfl) rfl rfl .rfl rfl <| gR 2 rfl ?_
 obtain ⟨hb, h⟩ := h
 refine gDo (.repl 0 (.row 60 2 (List.map aa.w (a ++ [(aa.mk b [])])))) (bj ab rfl rfl rfl rfl rfl (apM aa.w a (aa.mk b [])) (by rw [aZ]; exact hb)) (okR rfl) rfl rfl rfl <| gR 6 rfl ?_
 subst h
 exact go_sub (F' := (mkF 365 0 [(4, .sl 1)])) (H' := ⟨2, [(1, .row 60 2 (List.map aa.w (a ++ [(aa.mk b [])])))]⟩) [1000, 2] [] rfl hK pq1 ⟨⟨_, rfl, rfl, rfl, (vI _ (a ++ [(aa.mk b [])])).symm⟩, trivial⟩ rfl <| go_endD [] ab (rs := [.tmp 4]) rfl rfl ⟨rfl, rfl⟩
theorem pq (m : Nat) (p0 : List aa) (p1 : Tree) (r0 : List aa) (h : ∃ e, ai p1 0 e ∧ ∃ g, ai p1 1 g ∧ ∃ i, ai p1 2 i ∧ (p0 ++ [(aa.mk e [100, 101, 102]), (aa.mk g p1.text), (aa.mk i [40])]).length ≤ 1000000000 ∧ InI ((p1.kids.length : Int) - 2) ∧ ∃ d, dY (p0 ++ [(aa.mk e [100, 101, 102]), (aa.mk g p1.text), (aa.mk i [40])]) p1 0 ((p1.kids.length : Int) - 2) 6 d ∧ ∃ j, ai p1 3 j ∧ ∃ k, ai p1 4 k ∧ (d ++ [(aa.mk j [41]), (aa.mk k [58])]).length ≤ 1000000000 ∧ InI ((p1.kids.length : Int) - 2) ∧ ∃ o, ((p1.kids.length : Int) - 2) = ((o : Nat) : Int) ∧ ∃ p, p1.kids[o]? = some p ∧ ∃ b, aj (d ++ [(aa.mk j [41]), (aa.mk k [58])]) p b ∧ ∃ a, ai p1 5 a ∧ (b ++ [(aa.mk a [61])]).length ≤ 1000000000 ∧ InI ((p1.kids.length : Int) - 1) ∧ ∃ l, ((p1.kids.length : Int) - 1) = ((l : Nat) : Int) ∧ ∃ n, p1.kids[l]? = some n ∧ ∃ c, aj (b ++ [(aa.mk a [61])]) n c ∧ c = r0) : lR (m + 1) p0 p1 r0 := by
 intro K hK
 refine gR 1 rfl <| gDs [] 15 15 rfl (by kernel_rfl) (by kernel_rfl) <| gDr [(0, 2), (1, 2), (4, 2), (6, 2), (7, 2), (9, 2)] (by kernel_rfl) rfl rfl ?_
 obtain ⟨e, hs120, h⟩ := h
 refine cf 2 hs120 (by kernel_rfl) rfl (by kernel_rfl) rfl rfl .rfl rfl rfl ?_
 refine gDr [(3, 2)] (by kernel_rfl) rfl rfl ?_
 obtain ⟨g, hs121, h⟩ := h
 refine cf 5 hs121 (by kernel_rfl) rfl (by kernel_rfl) rfl rfl .rfl rfl rfl ?_
 refine gDr [(8, 2)] (by kernel_rfl) rfl rfl ?_
 obtain ⟨i, hs122, h⟩ := h
 refine cf 10 hs122 (by kernel_rfl) rfl (by kernel_rfl) rfl rfl .rfl rfl rfl ?_
 refine gDr [(11, 0), (12, 0)] (by kernel_rfl) rfl rfl ?_
 obtain ⟨hb, h⟩ := h
 refine aD 13 (.repl 0 (.row 60 2 (List.map aa.w (p0 ++ [(aa.mk e [100, 101, 102]), (aa.mk g p1.text), (aa.mk i [40])])))) rfl (by kernel_rfl) (bj ab rfl rfl rfl rfl rfl (List.map_append (f := aa.w) (l₁ := p0) (l₂ := [(aa.mk e [100, 101, 102]), (aa.mk g p1.text), (aa.mk i [40])])).symm (by rw [aZ]; exact hb)) (okR rfl) rfl (by kernel_rfl) rfl rfl ?_
 refine gDr [(14, 0)] (by kernel_rfl) rfl rfl <| gDe (by kernel_rfl) <| gR 6 rfl ?_
 obtain ⟨hb, h⟩ := h
 refine gR 1 rfl <| gV 62 (.int .i64 ((p1.kids.length : Int) - 2)) rfl (ax hb rfl) rfl ?_
 obtain ⟨d, hs123, h⟩ := h
 refine gCZ hs123 [2] ⟨⟨_, rfl, ⟨rfl, rfl, (vI _ (p0 ++ [(aa.mk e [100, 101, 102]), (aa.mk g p1.text), (aa.mk i [40])])).symm⟩⟩, trivial⟩ ?_
 refine gHR 4 (List.map aa.w d) rfl (vI _ d) rfl <| gR 4 rfl <| gDs [] 10 10 rfl (by kernel_rfl) (by kernel_rfl) <| gDr [(0, 2), (1, 2), (4, 2)] (by kernel_rfl) rfl rfl ?_
 obtain ⟨j, hs124, h⟩ := h
 refine cf 2 hs124 (by kernel_rfl) rfl (by kernel_rfl) rfl rfl .rfl rfl rfl ?_
 refine gDr [(3, 2)] (by kernel_rfl) rfl rfl ?_
 obtain ⟨k, hs125, h⟩ := h
 refine cf 5 hs125 (by kernel_rfl) rfl (by kernel_rfl) rfl rfl .rfl rfl rfl ?_
 refine gDr [(6, 0), (7, 0)] (by kernel_rfl) rfl rfl ?_
 obtain ⟨hb, h⟩ := h
 refine aD 8 (.repl 4 (.row 60 2 (List.map aa.w (d ++ [(aa.mk j [41]), (aa.mk k [58])])))) rfl (by kernel_rfl) (bj ab rfl rfl rfl rfl rfl (List.map_append (f := aa.w) (l₁ := d) (l₂ := [(aa.mk j [41]), (aa.mk k [58])])).symm (by rw [aZ]; exact hb)) (okR rfl) rfl (by kernel_rfl) rfl rfl ?_
 refine gDr [(9, 0)] (by kernel_rfl) rfl rfl <| gDe (by kernel_rfl) <| gR 2 rfl <| gDs [] 14 14 rfl (by kernel_rfl) (by kernel_rfl) <| gDr [(0, 2), (1, 2), (2, 2), (3, 2)] (by kernel_rfl) rfl rfl ?_
 obtain ⟨hb, h⟩ := h
 refine gDr [(4, 2)] (by kernel_rfl) rfl rfl <| gV 77 (.int .i64 ((p1.kids.length : Int) - 2)) rfl (ax hb rfl) rfl ?_
 obtain ⟨o, r, h⟩ := h
 refine gV 77 (.int .i64 ((o : Nat) : Int)) rfl (je r) rfl ?_
 obtain ⟨p, hxt4_8, h⟩ := h
 refine gYd 5 rfl (by kernel_rfl) (aI (av hxt4_8) ab rfl rfl rfl rfl) rfl rfl <| gDr [(6, 2), (8, 2)] (by kernel_rfl) rfl rfl ?_
 obtain ⟨b, hs126, h⟩ := h
 refine gDCZ 7 hs126 [6] rfl ⟨⟨_, rfl, ⟨rfl, rfl, (vI _ (d ++ [(aa.mk j [41]), (aa.mk k [58])])).symm⟩⟩, trivial⟩ ?_
 refine gHR 8 (List.map aa.w b) rfl (vI _ b) rfl ?_
 obtain ⟨a, hs127, h⟩ := h
 refine cf 9 hs127 (by kernel_rfl) rfl (by kernel_rfl) rfl rfl .rfl rfl rfl ?_
 refine gDr [(10, 0), (11, 0)] (by kernel_rfl) rfl rfl ?_
 obtain ⟨hb, h⟩ := h
 refine aD 12 (.repl 8 (.row 60 2 (List.map aa.w (b ++ [(aa.mk a [61])])))) rfl (by kernel_rfl) (bj ab rfl rfl rfl rfl rfl (apM aa.w b (aa.mk a [61])) (by rw [aZ]; exact hb)) (okR rfl) rfl (by kernel_rfl) rfl rfl ?_
 refine gDr [(13, 0)] (by kernel_rfl) rfl rfl <| gDe (by kernel_rfl) <| gR 1 rfl <| go_sub (F' := (mkF 365 0 [(0, .sl 0), (3, .box (ae p1) 0), (5, .int .i64 (p1.kids.length : Int))])) (H' := ⟨1, [(0, .row 60 2 (List.map aa.w (b ++ [(aa.mk a [61])])))]⟩) [10] [] rfl hK pq3 ⟨⟨_, rfl, rfl, rfl, (vI _ (b ++ [(aa.mk a [61])])).symm⟩, trivial⟩ rfl <| gR 6 rfl ?_
 obtain ⟨hb, h⟩ := h
 refine gR 1 rfl <| gV 90 (.int .i64 ((p1.kids.length : Int) - 1)) rfl (ax hb rfl) rfl ?_
 obtain ⟨l, q, h⟩ := h
 refine gV 90 (.int .i64 ((l : Nat) : Int)) rfl (je q) rfl ?_
 obtain ⟨n, hxt4_12, h⟩ := h
 refine gY (aI (av hxt4_12) ab rfl rfl rfl rfl) rfl rfl <| gR 1 rfl ?_
 obtain ⟨c, hs128, h⟩ := h
 refine gCZ hs128 [0] ⟨⟨_, rfl, ⟨rfl, rfl, (vI _ (b ++ [(aa.mk a [61])])).symm⟩⟩, trivial⟩ ?_
 refine gHR 2 (List.map aa.w c) rfl (vI _ c) rfl <| gR 6 rfl ?_
 subst h
 exact go_sub (F' := (mkF 365 0 [(4, .sl 1)])) (H' := ⟨2, [(1, .row 60 2 (List.map aa.w c))]⟩) [1000, 2] [] rfl hK pq1 ⟨⟨_, rfl, rfl, rfl, (vI _ c).symm⟩, trivial⟩ rfl <| go_endD [] ab (rs := [.tmp 4]) rfl rfl ⟨rfl, rfl⟩
theorem lp (m : Nat) (p0 : List aa) (p1 : Tree) (r0 : List aa) (h : ((p1.kind = 3) → lZ m p0 p1 r0) ∧ ((p1.kind ≠ 3) → iR m p0 p1 r0)) : ir (m + 1) p0 p1 r0 := by
 intro K hK
 refine gR 6 rfl <| qBeZ 94 95 rfl rfl rfl rfl h (fun h => ?_) fun h => ?_
 exact gR 1 rfl <| gJ (h K hK) [0] [] rfl hK pq2 ⟨⟨_, rfl, rfl, rfl, (vI _ p0).symm⟩, trivial⟩ rfl
 exact gR 1 rfl <| gJ (h K hK) [0] [] rfl hK pq4 ⟨⟨_, rfl, rfl, rfl, (vI _ p0).symm⟩, trivial⟩ rfl
theorem pA (m : Nat) (p0 : List aa) (p1 : Tree) (r0 : List aa) (h : ∃ a, ai p1 0 a ∧ ∃ b, ai p1 1 b ∧ ∃ c, ai p1 2 c ∧ (p0 ++ [(aa.mk a [116, 121, 112, 101]), (aa.mk b p1.text), (aa.mk c [61])]).length ≤ 1000000000 ∧ ∃ e, p1.kids[0]? = some e ∧ ∃ d, aj (p0 ++ [(aa.mk a [116, 121, 112, 101]), (aa.mk b p1.text), (aa.mk c [61])]) e d ∧ d = r0) : lZ (m + 1) p0 p1 r0 := by
 intro K hK
 refine gR 1 rfl <| gDs [] 15 15 rfl (by kernel_rfl) (by kernel_rfl) <| gDr [(0, 2), (1, 2), (4, 2), (6, 2), (7, 2), (9, 2)] (by kernel_rfl) rfl rfl ?_
 obtain ⟨a, hs129, h⟩ := h
 refine cf 2 hs129 (by kernel_rfl) rfl (by kernel_rfl) rfl rfl .rfl rfl rfl ?_
 refine gDr [(3, 2)] (by kernel_rfl) rfl rfl ?_
 obtain ⟨b, hs130, h⟩ := h
 refine cf 5 hs130 (by kernel_rfl) rfl (by kernel_rfl) rfl rfl .rfl rfl rfl ?_
 refine gDr [(8, 2)] (by kernel_rfl) rfl rfl ?_
 obtain ⟨c, hs131, h⟩ := h
 refine cf 10 hs131 (by kernel_rfl) rfl (by kernel_rfl) rfl rfl .rfl rfl rfl ?_
 refine gDr [(11, 0), (12, 0)] (by kernel_rfl) rfl rfl ?_
 obtain ⟨hb, h⟩ := h
 refine aD 13 (.repl 0 (.row 60 2 (List.map aa.w (p0 ++ [(aa.mk a [116, 121, 112, 101]), (aa.mk b p1.text), (aa.mk c [61])])))) rfl (by kernel_rfl) (bj ab rfl rfl rfl rfl rfl (List.map_append (f := aa.w) (l₁ := p0) (l₂ := [(aa.mk a [116, 121, 112, 101]), (aa.mk b p1.text), (aa.mk c [61])])).symm (by rw [aZ]; exact hb)) (okR rfl) rfl (by kernel_rfl) rfl rfl ?_
 refine gDr [(14, 0)] (by kernel_rfl) rfl rfl <| gDe (by kernel_rfl) <| gR 6 rfl ?_
 obtain ⟨e, hxt6_4, h⟩ := h
 refine gY (aI (av hxt6_4) ab rfl rfl rfl rfl) rfl rfl <| gR 1 rfl ?_
 obtain ⟨d, hs132, h⟩ := h
 refine gCZ hs132 [2] ⟨⟨_, rfl, ⟨rfl, rfl, (vI _ (p0 ++ [(aa.mk a [116, 121, 112, 101]), (aa.mk b p1.text), (aa.mk c [61])])).symm⟩⟩, trivial⟩ ?_
 refine gHR 4 (List.map aa.w d) rfl (vI _ d) rfl <| gR 6 rfl ?_
 subst h
 exact go_sub (F' := (mkF 365 0 [(4, .sl 1)])) (H' := ⟨2, [(1, .row 60 2 (List.map aa.w d))]⟩) [1000, 4] [] rfl hK pq1 ⟨⟨_, rfl, rfl, rfl, (vI _ d).symm⟩, trivial⟩ rfl <| go_endD [] ab (rs := [.tmp 4]) rfl rfl ⟨rfl, rfl⟩
theorem lj (m : Nat) (p0 : List aa) (p1 : Tree) (r0 : List aa) (h : ((p1.kind = 4) → ma m p0 p1 r0) ∧ ((p1.kind ≠ 4) → iJ m p0 p1 r0)) : iR (m + 1) p0 p1 r0 := by
 intro K hK
 refine gR 6 rfl <| qBeZ 116 117 rfl rfl rfl rfl h (fun h => ?_) fun h => ?_
 exact gR 1 rfl <| gJ (h K hK) [0] [] rfl hK pq2 ⟨⟨_, rfl, rfl, rfl, (vI _ p0).symm⟩, trivial⟩ rfl
 exact gR 1 rfl <| gJ (h K hK) [0] [] rfl hK pq4 ⟨⟨_, rfl, rfl, rfl, (vI _ p0).symm⟩, trivial⟩ rfl
theorem pu (m : Nat) (p0 : List aa) (p1 : Tree) (r0 : List aa) (h : ∃ a, ai p1 0 a ∧ ∃ b, ai p1 1 b ∧ (p0 ++ [(aa.mk a p1.text), (aa.mk b [58])]).length ≤ 1000000000 ∧ ∃ d, p1.kids[0]? = some d ∧ ∃ c, aj (p0 ++ [(aa.mk a p1.text), (aa.mk b [58])]) d c ∧ c = r0) : ma (m + 1) p0 p1 r0 := by
 intro K hK
 refine gR 1 rfl <| gDs [] 12 12 rfl (by kernel_rfl) (by kernel_rfl) <| gDr [(0, 2), (1, 2), (3, 2), (4, 2), (6, 2)] (by kernel_rfl) rfl rfl ?_
 obtain ⟨a, hs133, h⟩ := h
 refine cf 2 hs133 (by kernel_rfl) rfl (by kernel_rfl) rfl rfl .rfl rfl rfl ?_
 refine gDr [(5, 2)] (by kernel_rfl) rfl rfl ?_
 obtain ⟨b, hs134, h⟩ := h
 refine cf 7 hs134 (by kernel_rfl) rfl (by kernel_rfl) rfl rfl .rfl rfl rfl ?_
 refine gDr [(8, 0), (9, 0)] (by kernel_rfl) rfl rfl ?_
 obtain ⟨hb, h⟩ := h
 refine aD 10 (.repl 0 (.row 60 2 (List.map aa.w (p0 ++ [(aa.mk a p1.text), (aa.mk b [58])])))) rfl (by kernel_rfl) (bj ab rfl rfl rfl rfl rfl (List.map_append (f := aa.w) (l₁ := p0) (l₂ := [(aa.mk a p1.text), (aa.mk b [58])])).symm (by rw [aZ]; exact hb)) (okR rfl) rfl (by kernel_rfl) rfl rfl ?_
 refine gDr [(11, 0)] (by kernel_rfl) rfl rfl <| gDe (by kernel_rfl) <| gR 6 rfl ?_
 obtain ⟨d, hxt8_3, h⟩ := h
 refine gY (aI (av hxt8_3) ab rfl rfl rfl rfl) rfl rfl <| gR 1 rfl ?_
 obtain ⟨c, hs135, h⟩ := h
 refine gCZ hs135 [2] ⟨⟨_, rfl, ⟨rfl, rfl, (vI _ (p0 ++ [(aa.mk a p1.text), (aa.mk b [58])])).symm⟩⟩, trivial⟩ ?_
 refine gHR 4 (List.map aa.w c) rfl (vI _ c) rfl <| gR 6 rfl ?_
 subst h
 exact go_sub (F' := (mkF 365 0 [(4, .sl 1)])) (H' := ⟨2, [(1, .row 60 2 (List.map aa.w c))]⟩) [1000, 4] [] rfl hK pq1 ⟨⟨_, rfl, rfl, rfl, (vI _ c).symm⟩, trivial⟩ rfl <| go_endD [] ab (rs := [.tmp 4]) rfl rfl ⟨rfl, rfl⟩
theorem kW (m : Nat) (p0 : List aa) (p1 : Tree) (r0 : List aa) (h : ((p1.kind = 5) → ∃ a, ai p1 0 a ∧ (p0 ++ [(aa.mk a [73, 110, 116])]).length ≤ 1000000000 ∧ (p0 ++ [(aa.mk a [73, 110, 116])]) = r0) ∧ ((p1.kind ≠ 5) → iS m p0 p1 r0)) : iJ (m + 1) p0 p1 r0 := by
 intro K hK
 refine gR 6 rfl <| qBeZ 135 136 rfl rfl rfl rfl h (fun h => ?_) fun h => ?_
 refine gR 5 rfl ?_
 obtain ⟨a, hs136, h⟩ := h
 refine gC0 hs136 (by kernel_rfl) rfl rfl .rfl rfl <| gR 2 rfl ?_
 obtain ⟨hb, h⟩ := h
 refine gDo (.repl 0 (.row 60 2 (List.map aa.w (p0 ++ [(aa.mk a [73, 110, 116])])))) (bj ab rfl rfl rfl rfl rfl (apM aa.w p0 (aa.mk a [73, 110, 116])) (by rw [aZ]; exact hb)) (okR rfl) rfl rfl rfl <| gR 6 rfl ?_
 subst h
 exact go_sub (F' := (mkF 365 0 [(4, .sl 1)])) (H' := ⟨2, [(1, .row 60 2 (List.map aa.w (p0 ++ [(aa.mk a [73, 110, 116])])))]⟩) [1000, 2] [] rfl hK pq1 ⟨⟨_, rfl, rfl, rfl, (vI _ (p0 ++ [(aa.mk a [73, 110, 116])])).symm⟩, trivial⟩ rfl <| go_endD [] ab (rs := [.tmp 4]) rfl rfl ⟨rfl, rfl⟩
 exact gR 1 rfl <| gJ (h K hK) [0] [] rfl hK pq4 ⟨⟨_, rfl, rfl, rfl, (vI _ p0).symm⟩, trivial⟩ rfl
theorem kZ (m : Nat) (p0 : List aa) (p1 : Tree) (r0 : List aa) (h : ((p1.kind = 6) → ∃ a, ai p1 0 a ∧ (p0 ++ [(aa.mk a [84, 101, 120, 116])]).length ≤ 1000000000 ∧ (p0 ++ [(aa.mk a [84, 101, 120, 116])]) = r0) ∧ ((p1.kind ≠ 6) → hD m p0 p1 r0)) : iS (m + 1) p0 p1 r0 := by
 intro K hK
 refine gR 6 rfl <| qBeZ 143 144 rfl rfl rfl rfl h (fun h => ?_) fun h => ?_
 refine gR 5 rfl ?_
 obtain ⟨a, hs137, h⟩ := h
 refine gC0 hs137 (by kernel_rfl) rfl rfl .rfl rfl <| gR 2 rfl ?_
 obtain ⟨hb, h⟩ := h
 refine gDo (.repl 0 (.row 60 2 (List.map aa.w (p0 ++ [(aa.mk a [84, 101, 120, 116])])))) (bj ab rfl rfl rfl rfl rfl (apM aa.w p0 (aa.mk a [84, 101, 120, 116])) (by rw [aZ]; exact hb)) (okR rfl) rfl rfl rfl <| gR 6 rfl ?_
 subst h
 exact go_sub (F' := (mkF 365 0 [(4, .sl 1)])) (H' := ⟨2, [(1, .row 60 2 (List.map aa.w (p0 ++ [(aa.mk a [84, 101, 120, 116])])))]⟩) [1000, 2] [] rfl hK pq1 ⟨⟨_, rfl, rfl, rfl, (vI _ (p0 ++ [(aa.mk a [84, 101, 120, 116])])).symm⟩, trivial⟩ rfl <| go_endD [] ab (rs := [.tmp 4]) rfl rfl ⟨rfl, rfl⟩
 exact gR 1 rfl <| gJ (h K hK) [0] [] rfl hK pq4 ⟨⟨_, rfl, rfl, rfl, (vI _ p0).symm⟩, trivial⟩ rfl
theorem kJ (m : Nat) (p0 : List aa) (p1 : Tree) (r0 : List aa) (h : ((p1.kind = 7) → ∃ a, ai p1 0 a ∧ (p0 ++ [(aa.mk a [66, 111, 111, 108])]).length ≤ 1000000000 ∧ (p0 ++ [(aa.mk a [66, 111, 111, 108])]) = r0) ∧ ((p1.kind ≠ 7) → hV m p0 p1 r0)) : hD (m + 1) p0 p1 r0 := by
 intro K hK
 refine gR 6 rfl <| qBeZ 151 152 rfl rfl rfl rfl h (fun h => ?_) fun h => ?_
 refine gR 5 rfl ?_
 obtain ⟨a, hs138, h⟩ := h
 refine gC0 hs138 (by kernel_rfl) rfl rfl .rfl rfl <| gR 2 rfl ?_
 obtain ⟨hb, h⟩ := h
 refine gDo (.repl 0 (.row 60 2 (List.map aa.w (p0 ++ [(aa.mk a [66, 111, 111, 108])])))) (bj ab rfl rfl rfl rfl rfl (apM aa.w p0 (aa.mk a [66, 111, 111, 108])) (by rw [aZ]; exact hb)) (okR rfl) rfl rfl rfl <| gR 6 rfl ?_
 subst h
 exact go_sub (F' := (mkF 365 0 [(4, .sl 1)])) (H' := ⟨2, [(1, .row 60 2 (List.map aa.w (p0 ++ [(aa.mk a [66, 111, 111, 108])])))]⟩) [1000, 2] [] rfl hK pq1 ⟨⟨_, rfl, rfl, rfl, (vI _ (p0 ++ [(aa.mk a [66, 111, 111, 108])])).symm⟩, trivial⟩ rfl <| go_endD [] ab (rs := [.tmp 4]) rfl rfl ⟨rfl, rfl⟩
 exact gR 1 rfl <| gJ (h K hK) [0] [] rfl hK pq4 ⟨⟨_, rfl, rfl, rfl, (vI _ p0).symm⟩, trivial⟩ rfl
theorem kH (m : Nat) (p0 : List aa) (p1 : Tree) (r0 : List aa) (h : ((p1.kind = 13) → ∃ a, ai p1 0 a ∧ (p0 ++ [(aa.mk a [116, 114, 117, 101])]).length ≤ 1000000000 ∧ (p0 ++ [(aa.mk a [116, 114, 117, 101])]) = r0) ∧ ((p1.kind ≠ 13) → gW m p0 p1 r0)) : hV (m + 1) p0 p1 r0 := by
 intro K hK
 refine gR 6 rfl <| qBeZ 159 160 rfl rfl rfl rfl h (fun h => ?_) fun h => ?_
 refine gR 5 rfl ?_
 obtain ⟨a, hs139, h⟩ := h
 refine gC0 hs139 (by kernel_rfl) rfl rfl .rfl rfl <| gR 2 rfl ?_
 obtain ⟨hb, h⟩ := h
 refine gDo (.repl 0 (.row 60 2 (List.map aa.w (p0 ++ [(aa.mk a [116, 114, 117, 101])])))) (bj ab rfl rfl rfl rfl rfl (apM aa.w p0 (aa.mk a [116, 114, 117, 101])) (by rw [aZ]; exact hb)) (okR rfl) rfl rfl rfl <| gR 6 rfl ?_
 subst h
 exact go_sub (F' := (mkF 365 0 [(4, .sl 1)])) (H' := ⟨2, [(1, .row 60 2 (List.map aa.w (p0 ++ [(aa.mk a [116, 114, 117, 101])])))]⟩) [1000, 2] [] rfl hK pq1 ⟨⟨_, rfl, rfl, rfl, (vI _ (p0 ++ [(aa.mk a [116, 114, 117, 101])])).symm⟩, trivial⟩ rfl <| go_endD [] ab (rs := [.tmp 4]) rfl rfl ⟨rfl, rfl⟩
 exact gR 1 rfl <| gJ (h K hK) [0] [] rfl hK pq4 ⟨⟨_, rfl, rfl, rfl, (vI _ p0).symm⟩, trivial⟩ rfl
theorem ky (m : Nat) (p0 : List aa) (p1 : Tree) (r0 : List aa) (h : ((p1.kind = 14) → ∃ a, ai p1 0 a ∧ (p0 ++ [(aa.mk a [102, 97, 108, 115, 101])]).length ≤ 1000000000 ∧ (p0 ++ [(aa.mk a [102, 97, 108, 115, 101])]) = r0) ∧ ((p1.kind ≠ 14) → gI m p0 p1 r0)) : gW (m + 1) p0 p1 r0 := by
 intro K hK
 refine gR 6 rfl <| qBeZ 167 168 rfl rfl rfl rfl h (fun h => ?_) fun h => ?_
 refine gR 5 rfl ?_
 obtain ⟨a, hs140, h⟩ := h
 refine gC0 hs140 (by kernel_rfl) rfl rfl .rfl rfl <| gR 2 rfl ?_
 obtain ⟨hb, h⟩ := h
 refine gDo (.repl 0 (.row 60 2 (List.map aa.w (p0 ++ [(aa.mk a [102, 97, 108, 115, 101])])))) (bj ab rfl rfl rfl rfl rfl (apM aa.w p0 (aa.mk a [102, 97, 108, 115, 101])) (by rw [aZ]; exact hb)) (okR rfl) rfl rfl rfl <| gR 6 rfl ?_
 subst h
 exact go_sub (F' := (mkF 365 0 [(4, .sl 1)])) (H' := ⟨2, [(1, .row 60 2 (List.map aa.w (p0 ++ [(aa.mk a [102, 97, 108, 115, 101])])))]⟩) [1000, 2] [] rfl hK pq1 ⟨⟨_, rfl, rfl, rfl, (vI _ (p0 ++ [(aa.mk a [102, 97, 108, 115, 101])])).symm⟩, trivial⟩ rfl <| go_endD [] ab (rs := [.tmp 4]) rfl rfl ⟨rfl, rfl⟩
 exact gR 1 rfl <| gJ (h K hK) [0] [] rfl hK pq4 ⟨⟨_, rfl, rfl, rfl, (vI _ p0).symm⟩, trivial⟩ rfl
theorem kO (m : Nat) (p0 : List aa) (p1 : Tree) (r0 : List aa) (h : ((p1.kind = 15) → ∃ a, ai p1 0 a ∧ (p0 ++ [(aa.mk a [63])]).length ≤ 1000000000 ∧ (p0 ++ [(aa.mk a [63])]) = r0) ∧ ((p1.kind ≠ 15) → gO m p0 p1 r0)) : gI (m + 1) p0 p1 r0 := by
 intro K hK
 refine gR 6 rfl <| qBeZ 175 176 rfl rfl rfl rfl h (fun h => ?_) fun h => ?_
 refine gR 5 rfl ?_
 obtain ⟨a, hs141, h⟩ := h
 refine gC0 hs141 (by kernel_rfl) rfl rfl .rfl rfl <| gR 2 rfl ?_
 obtain ⟨hb, h⟩ := h
 refine gDo (.repl 0 (.row 60 2 (List.map aa.w (p0 ++ [(aa.mk a [63])])))) (bj ab rfl rfl rfl rfl rfl (apM aa.w p0 (aa.mk a [63])) (by rw [aZ]; exact hb)) (okR rfl) rfl rfl rfl <| gR 6 rfl ?_
 subst h
 exact go_sub (F' := (mkF 365 0 [(4, .sl 1)])) (H' := ⟨2, [(1, .row 60 2 (List.map aa.w (p0 ++ [(aa.mk a [63])])))]⟩) [1000, 2] [] rfl hK pq1 ⟨⟨_, rfl, rfl, rfl, (vI _ (p0 ++ [(aa.mk a [63])])).symm⟩, trivial⟩ rfl <| go_endD [] ab (rs := [.tmp 4]) rfl rfl ⟨rfl, rfl⟩
 exact gR 1 rfl <| gJ (h K hK) [0] [] rfl hK pq4 ⟨⟨_, rfl, rfl, rfl, (vI _ p0).symm⟩, trivial⟩ rfl
theorem kx (m : Nat) (p0 : List aa) (p1 : Tree) (r0 : List aa) (h : ((p1.kind = 8) → lm m p0 p1 r0) ∧ ((p1.kind ≠ 8) → gQ m p0 p1 r0)) : gO (m + 1) p0 p1 r0 := by
 intro K hK
 refine gR 6 rfl <| qBeZ 183 184 rfl rfl rfl rfl h (fun h => ?_) fun h => ?_
 exact gR 1 rfl <| gJ (h K hK) [0] [] rfl hK pq2 ⟨⟨_, rfl, rfl, rfl, (vI _ p0).symm⟩, trivial⟩ rfl
 exact gR 1 rfl <| gJ (h K hK) [0] [] rfl hK pq4 ⟨⟨_, rfl, rfl, rfl, (vI _ p0).symm⟩, trivial⟩ rfl
theorem oC (m : Nat) (p0 : List aa) (p1 : Tree) (r0 : List aa) (h : ∃ c, ai p1 0 c ∧ (p0 ++ [(aa.mk c [91])]).length ≤ 1000000000 ∧ ∃ d, p1.kids[0]? = some d ∧ ∃ a, aj (p0 ++ [(aa.mk c [91])]) d a ∧ ∃ b, ai p1 1 b ∧ (a ++ [(aa.mk b [93])]).length ≤ 1000000000 ∧ (a ++ [(aa.mk b [93])]) = r0) : lm (m + 1) p0 p1 r0 := by
 intro K hK
 refine gR 4 rfl ?_
 obtain ⟨c, hs142, h⟩ := h
 refine gC0 hs142 (by kernel_rfl) rfl rfl .rfl rfl <| gR 2 rfl ?_
 obtain ⟨hb, h⟩ := h
 refine gDo (.repl 0 (.row 60 2 (List.map aa.w (p0 ++ [(aa.mk c [91])])))) (bj ab rfl rfl rfl rfl rfl (apM aa.w p0 (aa.mk c [91])) (by rw [aZ]; exact hb)) (okR rfl) rfl rfl rfl <| gR 4 rfl <| gDs [] 12 12 rfl (by kernel_rfl) (by kernel_rfl) <| gDr [(0, 2), (1, 2), (2, 2)] (by kernel_rfl) rfl rfl ?_
 obtain ⟨d, hxt16_2, h⟩ := h
 refine gYd 3 rfl (by kernel_rfl) (aI (av hxt16_2) ab rfl rfl rfl rfl) rfl rfl <| gDr [(4, 2), (6, 2)] (by kernel_rfl) rfl rfl ?_
 obtain ⟨a, hs143, h⟩ := h
 refine gDCZ 5 hs143 [2] rfl ⟨⟨_, rfl, ⟨rfl, rfl, (vI _ (p0 ++ [(aa.mk c [91])])).symm⟩⟩, trivial⟩ ?_
 refine gHR 4 (List.map aa.w a) rfl (vI _ a) rfl ?_
 obtain ⟨b, hs144, h⟩ := h
 refine cf 7 hs144 (by kernel_rfl) rfl (by kernel_rfl) rfl rfl .rfl rfl rfl ?_
 refine gDr [(8, 0), (9, 0)] (by kernel_rfl) rfl rfl ?_
 obtain ⟨hb, h⟩ := h
 refine aD 10 (.repl 4 (.row 60 2 (List.map aa.w (a ++ [(aa.mk b [93])])))) rfl (by kernel_rfl) (bj ab rfl rfl rfl rfl rfl (apM aa.w a (aa.mk b [93])) (by rw [aZ]; exact hb)) (okR rfl) rfl (by kernel_rfl) rfl rfl ?_
 refine gDr [(11, 0)] (by kernel_rfl) rfl rfl <| gDe (by kernel_rfl) <| gR 4 rfl ?_
 subst h
 exact go_sub (F' := (mkF 365 0 [(4, .sl 1)])) (H' := ⟨2, [(1, .row 60 2 (List.map aa.w (a ++ [(aa.mk b [93])])))]⟩) [1000, 6] [] rfl hK pq1 ⟨⟨_, rfl, rfl, rfl, (vI _ (a ++ [(aa.mk b [93])])).symm⟩, trivial⟩ rfl <| go_endD [] ab (rs := [.tmp 4]) rfl rfl ⟨rfl, rfl⟩
theorem kz (m : Nat) (p0 : List aa) (p1 : Tree) (r0 : List aa) (h : ((p1.kind = 16) → lv m p0 p1 r0) ∧ ((p1.kind ≠ 16) → gP m p0 p1 r0)) : gQ (m + 1) p0 p1 r0 := by
 intro K hK
 refine gR 6 rfl <| qBeZ 202 203 rfl rfl rfl rfl h (fun h => ?_) fun h => ?_
 exact gR 1 rfl <| gJ (h K hK) [0] [] rfl hK pq3 ⟨⟨_, rfl, rfl, rfl, (vI _ p0).symm⟩, trivial⟩ rfl
 exact gR 1 rfl <| gJ (h K hK) [0] [] rfl hK pq4 ⟨⟨_, rfl, rfl, rfl, (vI _ p0).symm⟩, trivial⟩ rfl
theorem oH (m : Nat) (p0 : List aa) (p1 : Tree) (r0 : List aa) (h : ∃ c, ai p1 0 c ∧ ∃ d, ai p1 1 d ∧ (p0 ++ [(aa.mk c p1.text), (aa.mk d [40])]).length ≤ 1000000000 ∧ ∃ a, dY (p0 ++ [(aa.mk c p1.text), (aa.mk d [40])]) p1 0 (p1.kids.length : Int) 3 a ∧ ∃ b, ai p1 2 b ∧ (a ++ [(aa.mk b [41])]).length ≤ 1000000000 ∧ (a ++ [(aa.mk b [41])]) = r0) : lv (m + 1) p0 p1 r0 := by
 intro K hK
 refine gR 1 rfl <| gDs [] 12 12 rfl (by kernel_rfl) (by kernel_rfl) <| gDr [(0, 2), (1, 2), (3, 2), (4, 2), (6, 2)] (by kernel_rfl) rfl rfl ?_
 obtain ⟨c, hs145, h⟩ := h
 refine cf 2 hs145 (by kernel_rfl) rfl (by kernel_rfl) rfl rfl .rfl rfl rfl ?_
 refine gDr [(5, 2)] (by kernel_rfl) rfl rfl ?_
 obtain ⟨d, hs146, h⟩ := h
 refine cf 7 hs146 (by kernel_rfl) rfl (by kernel_rfl) rfl rfl .rfl rfl rfl ?_
 refine gDr [(8, 0), (9, 0)] (by kernel_rfl) rfl rfl ?_
 obtain ⟨hb, h⟩ := h
 refine aD 10 (.repl 0 (.row 60 2 (List.map aa.w (p0 ++ [(aa.mk c p1.text), (aa.mk d [40])])))) rfl (by kernel_rfl) (bj ab rfl rfl rfl rfl rfl (List.map_append (f := aa.w) (l₁ := p0) (l₂ := [(aa.mk c p1.text), (aa.mk d [40])])).symm (by rw [aZ]; exact hb)) (okR rfl) rfl (by kernel_rfl) rfl rfl ?_
 refine gDr [(11, 0)] (by kernel_rfl) rfl rfl <| gDe (by kernel_rfl) <| gR 2 rfl <| gDs [] 10 10 rfl (by kernel_rfl) (by kernel_rfl) <| gDr [(0, 2), (1, 2), (2, 2), (4, 2)] (by kernel_rfl) rfl rfl ?_
 obtain ⟨a, hs147, h⟩ := h
 refine gDCZ 3 hs147 [2] rfl ⟨⟨_, rfl, ⟨rfl, rfl, (vI _ (p0 ++ [(aa.mk c p1.text), (aa.mk d [40])])).symm⟩⟩, trivial⟩ ?_
 refine gHR 4 (List.map aa.w a) rfl (vI _ a) rfl ?_
 obtain ⟨b, hs148, h⟩ := h
 refine cf 5 hs148 (by kernel_rfl) rfl (by kernel_rfl) rfl rfl .rfl rfl rfl ?_
 refine gDr [(6, 0), (7, 0)] (by kernel_rfl) rfl rfl ?_
 obtain ⟨hb, h⟩ := h
 refine aD 8 (.repl 4 (.row 60 2 (List.map aa.w (a ++ [(aa.mk b [41])])))) rfl (by kernel_rfl) (bj ab rfl rfl rfl rfl rfl (apM aa.w a (aa.mk b [41])) (by rw [aZ]; exact hb)) (okR rfl) rfl (by kernel_rfl) rfl rfl ?_
 refine gDr [(9, 0)] (by kernel_rfl) rfl rfl <| gDe (by kernel_rfl) <| gR 4 rfl ?_
 subst h
 exact go_sub (F' := (mkF 365 0 [(4, .sl 1)])) (H' := ⟨2, [(1, .row 60 2 (List.map aa.w (a ++ [(aa.mk b [41])])))]⟩) [1000, 6] [] rfl hK pq1 ⟨⟨_, rfl, rfl, rfl, (vI _ (a ++ [(aa.mk b [41])])).symm⟩, trivial⟩ rfl <| go_endD [] ab (rs := [.tmp 4]) rfl rfl ⟨rfl, rfl⟩
theorem kq (m : Nat) (p0 : List aa) (p1 : Tree) (r0 : List aa) (h : ((p1.kind = 17) → ∃ b, p1.kids[0]? = some b ∧ ∃ a, aj p0 b a ∧ a = r0) ∧ ((p1.kind ≠ 17) → hO m p0 p1 r0)) : gP (m + 1) p0 p1 r0 := by
 intro K hK
 refine gR 6 rfl <| qBeZ 224 225 rfl rfl rfl rfl h (fun h => ?_) fun h => ?_
 refine gR 6 rfl ?_
 obtain ⟨b, hxt19_1, h⟩ := h
 refine gY (aI (av hxt19_1) ab rfl rfl rfl rfl) rfl rfl <| gR 1 rfl ?_
 obtain ⟨a, hs149, h⟩ := h
 refine gCZ hs149 [0] ⟨⟨_, rfl, ⟨rfl, rfl, (vI _ p0).symm⟩⟩, trivial⟩ ?_
 refine gHR 2 (List.map aa.w a) rfl (vI _ a) rfl <| gR 6 rfl ?_
 subst h
 exact go_sub (F' := (mkF 365 0 [(4, .sl 1)])) (H' := ⟨2, [(1, .row 60 2 (List.map aa.w a))]⟩) [1000, 2] [] rfl hK pq1 ⟨⟨_, rfl, rfl, rfl, (vI _ a).symm⟩, trivial⟩ rfl <| go_endD [] ab (rs := [.tmp 4]) rfl rfl ⟨rfl, rfl⟩
 exact gR 1 rfl <| gJ (h K hK) [0] [] rfl hK pq4 ⟨⟨_, rfl, rfl, rfl, (vI _ p0).symm⟩, trivial⟩ rfl
theorem kC (m : Nat) (p0 : List aa) (p1 : Tree) (r0 : List aa) (h : ((p1.kind = 18) → lh m p0 p1 r0) ∧ ((p1.kind ≠ 18) → hZ m p0 p1 r0)) : hO (m + 1) p0 p1 r0 := by
 intro K hK
 refine gR 6 rfl <| qBeZ 232 233 rfl rfl rfl rfl h (fun h => ?_) fun h => ?_
 exact gR 1 rfl <| gJ (h K hK) [0] [] rfl hK pq3 ⟨⟨_, rfl, rfl, rfl, (vI _ p0).symm⟩, trivial⟩ rfl
 exact gR 1 rfl <| gJ (h K hK) [0] [] rfl hK pq3 ⟨⟨_, rfl, rfl, rfl, (vI _ p0).symm⟩, trivial⟩ rfl
theorem oK (m : Nat) (p0 : List aa) (p1 : Tree) (r0 : List aa) (h : ∃ c, ai p1 0 c ∧ (p0 ++ [(aa.mk c [91])]).length ≤ 1000000000 ∧ ∃ a, dY (p0 ++ [(aa.mk c [91])]) p1 0 (p1.kids.length : Int) 2 a ∧ ∃ b, ai p1 1 b ∧ (a ++ [(aa.mk b [93])]).length ≤ 1000000000 ∧ (a ++ [(aa.mk b [93])]) = r0) : lh (m + 1) p0 p1 r0 := by
 intro K hK
 refine gR 4 rfl ?_
 obtain ⟨c, hs150, h⟩ := h
 refine gC0 hs150 (by kernel_rfl) rfl rfl .rfl rfl <| gR 2 rfl ?_
 obtain ⟨hb, h⟩ := h
 refine gDo (.repl 0 (.row 60 2 (List.map aa.w (p0 ++ [(aa.mk c [91])])))) (bj ab rfl rfl rfl rfl rfl (apM aa.w p0 (aa.mk c [91])) (by rw [aZ]; exact hb)) (okR rfl) rfl rfl rfl <| gR 4 rfl <| gDs [] 10 10 rfl (by kernel_rfl) (by kernel_rfl) <| gDr [(0, 2), (1, 2), (2, 2), (4, 2)] (by kernel_rfl) rfl rfl ?_
 obtain ⟨a, hs151, h⟩ := h
 refine gDCZ 3 hs151 [2] rfl ⟨⟨_, rfl, ⟨rfl, rfl, (vI _ (p0 ++ [(aa.mk c [91])])).symm⟩⟩, trivial⟩ ?_
 refine gHR 4 (List.map aa.w a) rfl (vI _ a) rfl ?_
 obtain ⟨b, hs152, h⟩ := h
 refine cf 5 hs152 (by kernel_rfl) rfl (by kernel_rfl) rfl rfl .rfl rfl rfl ?_
 refine gDr [(6, 0), (7, 0)] (by kernel_rfl) rfl rfl ?_
 obtain ⟨hb, h⟩ := h
 refine aD 8 (.repl 4 (.row 60 2 (List.map aa.w (a ++ [(aa.mk b [93])])))) rfl (by kernel_rfl) (bj ab rfl rfl rfl rfl rfl (apM aa.w a (aa.mk b [93])) (by rw [aZ]; exact hb)) (okR rfl) rfl (by kernel_rfl) rfl rfl ?_
 refine gDr [(9, 0)] (by kernel_rfl) rfl rfl <| gDe (by kernel_rfl) <| gR 4 rfl ?_
 subst h
 exact go_sub (F' := (mkF 365 0 [(4, .sl 1)])) (H' := ⟨2, [(1, .row 60 2 (List.map aa.w (a ++ [(aa.mk b [93])])))]⟩) [1000, 6] [] rfl hK pq1 ⟨⟨_, rfl, rfl, rfl, (vI _ (a ++ [(aa.mk b [93])])).symm⟩, trivial⟩ rfl <| go_endD [] ab (rs := [.tmp 4]) rfl rfl ⟨rfl, rfl⟩
theorem kG (m : Nat) (p0 : List aa) (p1 : Tree) (r0 : List aa) (h : ((p1.kind = 19) → la m p0 p1 r0) ∧ ((p1.kind ≠ 19) → gM m p0 p1 r0)) : hZ (m + 1) p0 p1 r0 := by
 intro K hK
 refine gR 6 rfl <| qBeZ 249 250 rfl rfl rfl rfl h (fun h => ?_) fun h => ?_
 exact gR 1 rfl <| gJ (h K hK) [0] [] rfl hK pq2 ⟨⟨_, rfl, rfl, rfl, (vI _ p0).symm⟩, trivial⟩ rfl
 exact gR 1 rfl <| gJ (h K hK) [0] [] rfl hK pq3 ⟨⟨_, rfl, rfl, rfl, (vI _ p0).symm⟩, trivial⟩ rfl
theorem oB (m : Nat) (p0 : List aa) (p1 : Tree) (r0 : List aa) (h : ∃ g, p1.kids[0]? = some g ∧ ∃ c, ai p1 0 c ∧ (p0 ++ [(aa.mk c [105, 102])]).length ≤ 1000000000 ∧ ∃ a, aj (p0 ++ [(aa.mk c [105, 102])]) g a ∧ ∃ i, p1.kids[1]? = some i ∧ ∃ d, ai p1 1 d ∧ (a ++ [(aa.mk d [116, 104, 101, 110])]).length ≤ 1000000000 ∧ ∃ b, aj (a ++ [(aa.mk d [116, 104, 101, 110])]) i b ∧ ∃ j, p1.kids[2]? = some j ∧ ∃ e, ai p1 2 e ∧ (b ++ [(aa.mk e [101, 108, 115, 101])]).length ≤ 1000000000 ∧ ∃ f, aj (b ++ [(aa.mk e [101, 108, 115, 101])]) j f ∧ f = r0) : la (m + 1) p0 p1 r0 := by
 intro K hK
 refine gR 1 rfl <| gDs [] 12 12 rfl (by kernel_rfl) (by kernel_rfl) <| gDr [(0, 2), (1, 2), (6, 2), (7, 2)] (by kernel_rfl) rfl rfl ?_
 obtain ⟨g, hxt23_1, h⟩ := h
 refine gYd 8 rfl (by kernel_rfl) (aI (av hxt23_1) ab rfl rfl rfl rfl) rfl rfl <| gDr [(9, 2)] (by kernel_rfl) rfl rfl ?_
 obtain ⟨c, hs153, h⟩ := h
 refine cf 2 hs153 (by kernel_rfl) rfl (by kernel_rfl) rfl rfl .rfl rfl rfl ?_
 refine gDr [(3, 0), (4, 0)] (by kernel_rfl) rfl rfl ?_
 obtain ⟨hb, h⟩ := h
 refine aD 5 (.repl 0 (.row 60 2 (List.map aa.w (p0 ++ [(aa.mk c [105, 102])])))) rfl (by kernel_rfl) (bj ab rfl rfl rfl rfl rfl (apM aa.w p0 (aa.mk c [105, 102])) (by rw [aZ]; exact hb)) (okR rfl) rfl (by kernel_rfl) rfl rfl ?_
 obtain ⟨a, hs154, h⟩ := h
 refine gDCZ 10 hs154 [2] rfl ⟨⟨_, rfl, ⟨rfl, rfl, (vI _ (p0 ++ [(aa.mk c [105, 102])])).symm⟩⟩, trivial⟩ ?_
 refine gHR 4 (List.map aa.w a) rfl (vI _ a) rfl <| gDr [(11, 0)] (by kernel_rfl) rfl rfl <| gDe (by kernel_rfl) <| gR 2 rfl <| gDs [] 12 12 rfl (by kernel_rfl) (by kernel_rfl) <| gDr [(0, 2), (1, 2), (6, 2), (7, 2)] (by kernel_rfl) rfl rfl ?_
 obtain ⟨i, hxt23_4, h⟩ := h
 refine gYd 8 rfl (by kernel_rfl) (aI (av hxt23_4) ab rfl rfl rfl rfl) rfl rfl <| gDr [(9, 2)] (by kernel_rfl) rfl rfl ?_
 obtain ⟨d, hs155, h⟩ := h
 refine cf 2 hs155 (by kernel_rfl) rfl (by kernel_rfl) rfl rfl .rfl rfl rfl ?_
 refine gDr [(3, 0), (4, 0)] (by kernel_rfl) rfl rfl ?_
 obtain ⟨hb, h⟩ := h
 refine aD 5 (.repl 4 (.row 60 2 (List.map aa.w (a ++ [(aa.mk d [116, 104, 101, 110])])))) rfl (by kernel_rfl) (bj ab rfl rfl rfl rfl rfl (apM aa.w a (aa.mk d [116, 104, 101, 110])) (by rw [aZ]; exact hb)) (okR rfl) rfl (by kernel_rfl) rfl rfl ?_
 obtain ⟨b, hs156, h⟩ := h
 refine gDCZ 10 hs156 [6] rfl ⟨⟨_, rfl, ⟨rfl, rfl, (vI _ (a ++ [(aa.mk d [116, 104, 101, 110])])).symm⟩⟩, trivial⟩ ?_
 refine gHR 8 (List.map aa.w b) rfl (vI _ b) rfl <| gDr [(11, 0)] (by kernel_rfl) rfl rfl <| gDe (by kernel_rfl) <| gR 2 rfl <| gDs [] 12 12 rfl (by kernel_rfl) (by kernel_rfl) <| gDr [(0, 2), (1, 2), (6, 2), (7, 2)] (by kernel_rfl) rfl rfl ?_
 obtain ⟨j, hxt23_7, h⟩ := h
 refine gYd 8 rfl (by kernel_rfl) (aI (av hxt23_7) ab rfl rfl rfl rfl) rfl rfl <| gDr [(9, 2)] (by kernel_rfl) rfl rfl ?_
 obtain ⟨e, hs157, h⟩ := h
 refine cf 2 hs157 (by kernel_rfl) rfl (by kernel_rfl) rfl rfl .rfl rfl rfl ?_
 refine gDr [(3, 0), (4, 0)] (by kernel_rfl) rfl rfl ?_
 obtain ⟨hb, h⟩ := h
 refine aD 5 (.repl 8 (.row 60 2 (List.map aa.w (b ++ [(aa.mk e [101, 108, 115, 101])])))) rfl (by kernel_rfl) (bj ab rfl rfl rfl rfl rfl (apM aa.w b (aa.mk e [101, 108, 115, 101])) (by rw [aZ]; exact hb)) (okR rfl) rfl (by kernel_rfl) rfl rfl ?_
 obtain ⟨f, hs158, h⟩ := h
 refine gDCZ 10 hs158 [10] rfl ⟨⟨_, rfl, ⟨rfl, rfl, (vI _ (b ++ [(aa.mk e [101, 108, 115, 101])])).symm⟩⟩, trivial⟩ ?_
 refine gHR 12 (List.map aa.w f) rfl (vI _ f) rfl <| gDr [(11, 0)] (by kernel_rfl) rfl rfl <| gDe (by kernel_rfl) <| gR 4 rfl ?_
 subst h
 exact go_sub (F' := (mkF 365 0 [(4, .sl 1)])) (H' := ⟨2, [(1, .row 60 2 (List.map aa.w f))]⟩) [1000, 12] [] rfl hK pq1 ⟨⟨_, rfl, rfl, rfl, (vI _ f).symm⟩, trivial⟩ rfl <| go_endD [] ab (rs := [.tmp 4]) rfl rfl ⟨rfl, rfl⟩
theorem kB (m : Nat) (p0 : List aa) (p1 : Tree) (r0 : List aa) (h : ((p1.kind = 20) → lb m p0 p1 r0) ∧ ((p1.kind ≠ 20) → hI m p0 p1 r0)) : gM (m + 1) p0 p1 r0 := by
 intro K hK
 refine gR 6 rfl <| qBeZ 284 285 rfl rfl rfl rfl h (fun h => ?_) fun h => ?_
 exact gR 1 rfl <| gJ (h K hK) [0] [] rfl hK pq2 ⟨⟨_, rfl, rfl, rfl, (vI _ p0).symm⟩, trivial⟩ rfl
 exact gR 1 rfl <| gJ (h K hK) [0] [] rfl hK pq3 ⟨⟨_, rfl, rfl, rfl, (vI _ p0).symm⟩, trivial⟩ rfl
theorem oE (m : Nat) (p0 : List aa) (p1 : Tree) (r0 : List aa) (h : ∃ b, ai p1 0 b ∧ ∃ c, ai p1 1 c ∧ ∃ d, ai p1 2 d ∧ (p0 ++ [(aa.mk b [108, 101, 116]), (aa.mk c p1.text), (aa.mk d [61])]).length ≤ 1000000000 ∧ ∃ i, p1.kids[0]? = some i ∧ ∃ a, aj (p0 ++ [(aa.mk b [108, 101, 116]), (aa.mk c p1.text), (aa.mk d [61])]) i a ∧ ∃ e, ai p1 3 e ∧ (a ++ [(aa.mk e [105, 110])]).length ≤ 1000000000 ∧ ∃ j, p1.kids[1]? = some j ∧ ∃ g, aj (a ++ [(aa.mk e [105, 110])]) j g ∧ g = r0) : lb (m + 1) p0 p1 r0 := by
 intro K hK
 refine gR 1 rfl <| gDs [] 15 15 rfl (by kernel_rfl) (by kernel_rfl) <| gDr [(0, 2), (1, 2), (4, 2), (6, 2), (7, 2), (9, 2)] (by kernel_rfl) rfl rfl ?_
 obtain ⟨b, hs159, h⟩ := h
 refine cf 2 hs159 (by kernel_rfl) rfl (by kernel_rfl) rfl rfl .rfl rfl rfl ?_
 refine gDr [(3, 2)] (by kernel_rfl) rfl rfl ?_
 obtain ⟨c, hs160, h⟩ := h
 refine cf 5 hs160 (by kernel_rfl) rfl (by kernel_rfl) rfl rfl .rfl rfl rfl ?_
 refine gDr [(8, 2)] (by kernel_rfl) rfl rfl ?_
 obtain ⟨d, hs161, h⟩ := h
 refine cf 10 hs161 (by kernel_rfl) rfl (by kernel_rfl) rfl rfl .rfl rfl rfl ?_
 refine gDr [(11, 0), (12, 0)] (by kernel_rfl) rfl rfl ?_
 obtain ⟨hb, h⟩ := h
 refine aD 13 (.repl 0 (.row 60 2 (List.map aa.w (p0 ++ [(aa.mk b [108, 101, 116]), (aa.mk c p1.text), (aa.mk d [61])])))) rfl (by kernel_rfl) (bj ab rfl rfl rfl rfl rfl (List.map_append (f := aa.w) (l₁ := p0) (l₂ := [(aa.mk b [108, 101, 116]), (aa.mk c p1.text), (aa.mk d [61])])).symm (by rw [aZ]; exact hb)) (okR rfl) rfl (by kernel_rfl) rfl rfl ?_
 refine gDr [(14, 0)] (by kernel_rfl) rfl rfl <| gDe (by kernel_rfl) <| gR 2 rfl <| gDs [] 12 12 rfl (by kernel_rfl) (by kernel_rfl) <| gDr [(0, 2), (1, 2), (2, 2)] (by kernel_rfl) rfl rfl ?_
 obtain ⟨i, hxt25_4, h⟩ := h
 refine gYd 3 rfl (by kernel_rfl) (aI (av hxt25_4) ab rfl rfl rfl rfl) rfl rfl <| gDr [(4, 2), (6, 2)] (by kernel_rfl) rfl rfl ?_
 obtain ⟨a, hs162, h⟩ := h
 refine gDCZ 5 hs162 [2] rfl ⟨⟨_, rfl, ⟨rfl, rfl, (vI _ (p0 ++ [(aa.mk b [108, 101, 116]), (aa.mk c p1.text), (aa.mk d [61])])).symm⟩⟩, trivial⟩ ?_
 refine gHR 4 (List.map aa.w a) rfl (vI _ a) rfl ?_
 obtain ⟨e, hs163, h⟩ := h
 refine cf 7 hs163 (by kernel_rfl) rfl (by kernel_rfl) rfl rfl .rfl rfl rfl ?_
 refine gDr [(8, 0), (9, 0)] (by kernel_rfl) rfl rfl ?_
 obtain ⟨hb, h⟩ := h
 refine aD 10 (.repl 4 (.row 60 2 (List.map aa.w (a ++ [(aa.mk e [105, 110])])))) rfl (by kernel_rfl) (bj ab rfl rfl rfl rfl rfl (apM aa.w a (aa.mk e [105, 110])) (by rw [aZ]; exact hb)) (okR rfl) rfl (by kernel_rfl) rfl rfl ?_
 refine gDr [(11, 0)] (by kernel_rfl) rfl rfl <| gDe (by kernel_rfl) <| gR 6 rfl ?_
 obtain ⟨j, hxt25_7, h⟩ := h
 refine gY (aI (av hxt25_7) ab rfl rfl rfl rfl) rfl rfl <| gR 1 rfl ?_
 obtain ⟨g, hs164, h⟩ := h
 refine gCZ hs164 [6] ⟨⟨_, rfl, ⟨rfl, rfl, (vI _ (a ++ [(aa.mk e [105, 110])])).symm⟩⟩, trivial⟩ ?_
 refine gHR 8 (List.map aa.w g) rfl (vI _ g) rfl <| gR 6 rfl ?_
 subst h
 exact go_sub (F' := (mkF 365 0 [(4, .sl 1)])) (H' := ⟨2, [(1, .row 60 2 (List.map aa.w g))]⟩) [1000, 8] [] rfl hK pq1 ⟨⟨_, rfl, rfl, rfl, (vI _ g).symm⟩, trivial⟩ rfl <| go_endD [] ab (rs := [.tmp 4]) rfl rfl ⟨rfl, rfl⟩
theorem kE (m : Nat) (p0 : List aa) (p1 : Tree) (r0 : List aa) (h : ((p1.kind = 21) → ly m p0 p1 r0) ∧ ((p1.kind ≠ 21) → hW m p0 p1 r0)) : hI (m + 1) p0 p1 r0 := by
 intro K hK
 refine gR 6 rfl <| qBeZ 317 318 rfl rfl rfl rfl h (fun h => ?_) fun h => ?_
 exact gR 1 rfl <| gJ (h K hK) [0] [] rfl hK pq2 ⟨⟨_, rfl, rfl, rfl, (vI _ p0).symm⟩, trivial⟩ rfl
 exact gR 1 rfl <| gJ (h K hK) [0] [] rfl hK pq3 ⟨⟨_, rfl, rfl, rfl, (vI _ p0).symm⟩, trivial⟩ rfl
theorem oJ (m : Nat) (p0 : List aa) (p1 : Tree) (r0 : List aa) (h : ∃ d, p1.kids[0]? = some d ∧ ∃ a, aj p0 d a ∧ ∃ b, ai p1 0 b ∧ (a ++ [(aa.mk b p1.text)]).length ≤ 1000000000 ∧ ∃ e, p1.kids[1]? = some e ∧ ∃ c, aj (a ++ [(aa.mk b p1.text)]) e c ∧ c = r0) : ly (m + 1) p0 p1 r0 := by
 intro K hK
 refine gR 1 rfl <| gDs [] 14 14 rfl (by kernel_rfl) (by kernel_rfl) <| gDr [(0, 2), (1, 2), (2, 2)] (by kernel_rfl) rfl rfl ?_
 obtain ⟨d, hxt27_1, h⟩ := h
 refine gYd 3 rfl (by kernel_rfl) (aI (av hxt27_1) ab rfl rfl rfl rfl) rfl rfl <| gDr [(4, 2), (6, 2), (8, 2), (9, 2)] (by kernel_rfl) rfl rfl ?_
 obtain ⟨a, hs165, h⟩ := h
 refine gDCZ 5 hs165 [0] rfl ⟨⟨_, rfl, ⟨rfl, rfl, (vI _ p0).symm⟩⟩, trivial⟩ ?_
 refine gHR 2 (List.map aa.w a) rfl (vI _ a) rfl ?_
 obtain ⟨b, hs166, h⟩ := h
 refine cf 7 hs166 (by kernel_rfl) rfl (by kernel_rfl) rfl rfl .rfl rfl rfl ?_
 refine gDr [(10, 0), (11, 0)] (by kernel_rfl) rfl rfl ?_
 obtain ⟨hb, h⟩ := h
 refine aD 12 (.repl 2 (.row 60 2 (List.map aa.w (a ++ [(aa.mk b p1.text)])))) rfl (by kernel_rfl) (bj ab rfl rfl rfl rfl rfl (apM aa.w a (aa.mk b p1.text)) (by rw [aZ]; exact hb)) (okR rfl) rfl (by kernel_rfl) rfl rfl ?_
 refine gDr [(13, 0)] (by kernel_rfl) rfl rfl <| gDe (by kernel_rfl) <| gR 6 rfl ?_
 obtain ⟨e, hxt27_4, h⟩ := h
 refine gY (aI (av hxt27_4) ab rfl rfl rfl rfl) rfl rfl <| gR 1 rfl ?_
 obtain ⟨c, hs167, h⟩ := h
 refine gCZ hs167 [4] ⟨⟨_, rfl, ⟨rfl, rfl, (vI _ (a ++ [(aa.mk b p1.text)])).symm⟩⟩, trivial⟩ ?_
 refine gHR 6 (List.map aa.w c) rfl (vI _ c) rfl <| gR 6 rfl ?_
 subst h
 exact go_sub (F' := (mkF 365 0 [(4, .sl 1)])) (H' := ⟨2, [(1, .row 60 2 (List.map aa.w c))]⟩) [1000, 6] [] rfl hK pq1 ⟨⟨_, rfl, rfl, rfl, (vI _ c).symm⟩, trivial⟩ rfl <| go_endD [] ab (rs := [.tmp 4]) rfl rfl ⟨rfl, rfl⟩
theorem kM (m : Nat) (p0 : List aa) (p1 : Tree) (r0 : List aa) (h : ((p1.kind = 22) → ll m p0 p1 r0) ∧ ((p1.kind ≠ 22) → ∃ a, ai p1 0 a ∧ (p0 ++ [(aa.mk a p1.text)]).length ≤ 1000000000 ∧ (p0 ++ [(aa.mk a p1.text)]) = r0)) : hW (m + 1) p0 p1 r0 := by
 intro K hK
 refine gR 6 rfl <| qBeZ 338 339 rfl rfl rfl rfl h (fun h => ?_) fun h => ?_
 exact gR 1 rfl <| gJ (h K hK) [0] [] rfl hK pq2 ⟨⟨_, rfl, rfl, rfl, (vI _ p0).symm⟩, trivial⟩ rfl
 refine gR 5 rfl <| gDs [] 9 9 rfl (by kernel_rfl) (by kernel_rfl) <| gDr [(0, 2), (1, 2), (3, 2), (4, 2)] (by kernel_rfl) rfl rfl ?_
 obtain ⟨a, hs168, h⟩ := h
 refine cf 2 hs168 (by kernel_rfl) rfl (by kernel_rfl) rfl rfl .rfl rfl rfl ?_
 refine gDr [(5, 0), (6, 0)] (by kernel_rfl) rfl rfl ?_
 obtain ⟨hb, h⟩ := h
 refine aD 7 (.repl 0 (.row 60 2 (List.map aa.w (p0 ++ [(aa.mk a p1.text)])))) rfl (by kernel_rfl) (bj ab rfl rfl rfl rfl rfl (apM aa.w p0 (aa.mk a p1.text)) (by rw [aZ]; exact hb)) (okR rfl) rfl (by kernel_rfl) rfl rfl ?_
 refine gDr [(8, 0)] (by kernel_rfl) rfl rfl <| gDe (by kernel_rfl) <| gR 2 rfl ?_
 subst h
 exact go_sub (F' := (mkF 365 0 [(4, .sl 1)])) (H' := ⟨2, [(1, .row 60 2 (List.map aa.w (p0 ++ [(aa.mk a p1.text)])))]⟩) [1000, 2] [] rfl hK pq1 ⟨⟨_, rfl, rfl, rfl, (vI _ (p0 ++ [(aa.mk a p1.text)])).symm⟩, trivial⟩ rfl <| go_endD [] ab (rs := [.tmp 4]) rfl rfl ⟨rfl, rfl⟩
theorem oF (m : Nat) (p0 : List aa) (p1 : Tree) (r0 : List aa) (h : ∃ c, ai p1 0 c ∧ (p0 ++ [(aa.mk c [40])]).length ≤ 1000000000 ∧ ∃ d, p1.kids[0]? = some d ∧ ∃ a, aj (p0 ++ [(aa.mk c [40])]) d a ∧ ∃ b, ai p1 1 b ∧ (a ++ [(aa.mk b [41])]).length ≤ 1000000000 ∧ (a ++ [(aa.mk b [41])]) = r0) : ll (m + 1) p0 p1 r0 := by
 intro K hK
 refine gR 4 rfl ?_
 obtain ⟨c, hs169, h⟩ := h
 refine gC0 hs169 (by kernel_rfl) rfl rfl .rfl rfl <| gR 2 rfl ?_
 obtain ⟨hb, h⟩ := h
 refine gDo (.repl 0 (.row 60 2 (List.map aa.w (p0 ++ [(aa.mk c [40])])))) (bj ab rfl rfl rfl rfl rfl (apM aa.w p0 (aa.mk c [40])) (by rw [aZ]; exact hb)) (okR rfl) rfl rfl rfl <| gR 4 rfl <| gDs [] 12 12 rfl (by kernel_rfl) (by kernel_rfl) <| gDr [(0, 2), (1, 2), (2, 2)] (by kernel_rfl) rfl rfl ?_
 obtain ⟨d, hxt29_2, h⟩ := h
 refine gYd 3 rfl (by kernel_rfl) (aI (av hxt29_2) ab rfl rfl rfl rfl) rfl rfl <| gDr [(4, 2), (6, 2)] (by kernel_rfl) rfl rfl ?_
 obtain ⟨a, hs170, h⟩ := h
 refine gDCZ 5 hs170 [2] rfl ⟨⟨_, rfl, ⟨rfl, rfl, (vI _ (p0 ++ [(aa.mk c [40])])).symm⟩⟩, trivial⟩ ?_
 refine gHR 4 (List.map aa.w a) rfl (vI _ a) rfl ?_
 obtain ⟨b, hs171, h⟩ := h
 refine cf 7 hs171 (by kernel_rfl) rfl (by kernel_rfl) rfl rfl .rfl rfl rfl ?_
 refine gDr [(8, 0), (9, 0)] (by kernel_rfl) rfl rfl ?_
 obtain ⟨hb, h⟩ := h
 refine aD 10 (.repl 4 (.row 60 2 (List.map aa.w (a ++ [(aa.mk b [41])])))) rfl (by kernel_rfl) (bj ab rfl rfl rfl rfl rfl (apM aa.w a (aa.mk b [41])) (by rw [aZ]; exact hb)) (okR rfl) rfl (by kernel_rfl) rfl rfl ?_
 refine gDr [(11, 0)] (by kernel_rfl) rfl rfl <| gDe (by kernel_rfl) <| gR 4 rfl ?_
 subst h
 exact go_sub (F' := (mkF 365 0 [(4, .sl 1)])) (H' := ⟨2, [(1, .row 60 2 (List.map aa.w (a ++ [(aa.mk b [41])])))]⟩) [1000, 6] [] rfl hK pq1 ⟨⟨_, rfl, rfl, rfl, (vI _ (a ++ [(aa.mk b [41])])).symm⟩, trivial⟩ rfl <| go_endD [] ab (rs := [.tmp 4]) rfl rfl ⟨rfl, rfl⟩
def eQ (m : Nat) (p1 : Tree) (p2 p3 p4 : Int) (a : List aa) (b : Int) (r0 : List aa) : Prop := ∀ (K : Ctx) (j1 : Nat), aq K [] → m ≤ j1 → qLG K Tryz.f100 (fun u G => u = .sl 1 ∧ G = ⟨2, [(1, .row 60 2 (List.map aa.w r0))]⟩) (cL (xE (cA (cB (ac Tryz.f100))))) [.loop (cL (xE (cA (cB (ac Tryz.f100))))) j1, .blk 0, .seq (xA (ac Tryz.f100))] 41 (mkF 41 0 [(0, .sl 0), (2, .int .i64 p2), (3, .int .i64 p3), (4, .int .i64 p4), (6, .box (ae p1) 0), (11, .int .i64 b)]) ⟨1, [(0, .row 60 2 (List.map aa.w a))]⟩
theorem ro (m : Nat) (p0 : List aa) (p1 : Tree) (p2 p3 p4 : Int) (r0 : List aa) (h : eQ m p1 p2 p3 p4 p0 p2 r0) : dY p0 p1 p2 p3 p4 r0 := by
 refine am 41 [] Tryz.func100 rfl rfl rfl (aL rfl) fun K hK => ?_
 exact gR 3 rfl <| gFP 1 rfl rfl rfl rfl <| gR 11 rfl <| go_loop m <| gJ (h K _ hK (by omega)) [0] [] rfl hK pq6 ⟨⟨_, rfl, rfl, rfl, (vI _ p0).symm⟩, trivial⟩ rfl
theorem gc (m : Nat) (p1 : Tree) (p2 p3 p4 : Int) (b : List aa) (a : Int) (r0 : List aa) (h : ((a < p3) → ((p2 < a) → InI (p4 + a) ∧ InI ((p4 + a) - p2) ∧ InI (((p4 + a) - p2) - 1) ∧ ∃ c, ai p1 (((p4 + a) - p2) - 1) c ∧ (b ++ [(aa.mk c [44])]).length ≤ 1000000000 ∧ ∃ f, a = ((f : Nat) : Int) ∧ ∃ i, p1.kids[f]? = some i ∧ ∃ d, aj (b ++ [(aa.mk c [44])]) i d ∧ InI (a + 1) ∧ eQ m p1 p2 p3 p4 d (a + 1) r0) ∧ ((¬ p2 < a) → ∃ g, a = ((g : Nat) : Int) ∧ ∃ k, p1.kids[g]? = some k ∧ ∃ e, aj b k e ∧ InI (a + 1) ∧ eQ m p1 p2 p3 p4 e (a + 1) r0)) ∧ ((¬ a < p3) → b = r0)) : eQ (m + 1) p1 p2 p3 p4 b a r0 := by
 intro K j1 hK hj1
 obtain ⟨j1, rfl⟩ : ∃ j, j1 = j + 1 := ⟨j1 - 1, by omega⟩
 refine gR 8 rfl <| gB 15 rfl rfl rfl ?_ ?_ <;> intro hd
 replace hd := (of_decide_eq_true hd)
 replace h := h.1 hd
 refine gR 13 rfl <| gB 20 rfl rfl rfl ?_ ?_ <;> intro hd
 replace hd := (of_decide_eq_true hd)
 replace h := h.1 hd
 refine gR 6 rfl ?_
 obtain ⟨hb, h⟩ := h
 refine gR 1 rfl <| gV 25 (.int .i64 (p4 + a)) rfl (ax hb rfl) rfl <| gR 1 rfl ?_
 obtain ⟨hb, h⟩ := h
 refine gR 1 rfl <| gV 27 (.int .i64 ((p4 + a) - p2)) rfl (ax hb rfl) rfl ?_
 obtain ⟨hb, h⟩ := h
 refine gR 1 rfl <| gV 28 (.int .i64 (((p4 + a) - p2) - 1)) rfl (ax hb rfl) rfl ?_
 obtain ⟨c, hs7, h⟩ := h
 refine gC0 hs7 (by kernel_rfl) rfl rfl .rfl rfl <| gR 2 rfl ?_
 obtain ⟨hb, h⟩ := h
 refine gDo (.repl 0 (.row 60 2 (List.map aa.w (b ++ [(aa.mk c [44])])))) (bj ab rfl rfl rfl rfl rfl (apM aa.w b (aa.mk c [44])) (by rw [aZ]; exact hb)) (okR rfl) rfl rfl rfl <| gR 8 rfl ?_
 obtain ⟨f, l, h⟩ := h
 refine gV 36 (.int .i64 ((f : Nat) : Int)) rfl (je l) rfl ?_
 obtain ⟨i, hxt1_3, h⟩ := h
 refine gY (aI (av hxt1_3) ab rfl rfl rfl rfl) rfl rfl <| gR 1 rfl ?_
 obtain ⟨d, hs8, h⟩ := h
 refine gCZ hs8 [2] ⟨⟨_, rfl, ⟨rfl, rfl, (vI _ (b ++ [(aa.mk c [44])])).symm⟩⟩, trivial⟩ ?_
 refine gHR 4 (List.map aa.w d) rfl (vI _ d) rfl <| gR 6 rfl ?_
 obtain ⟨hb, h⟩ := h
 exact gR 1 rfl <| gV 17 (.int .i64 (a + 1)) rfl (ax hb rfl) rfl <| gR 2 rfl <| go_xloop <| gJ (h K _ hK (by omega)) [4] [] rfl hK pq6 ⟨⟨_, rfl, rfl, rfl, (vI _ d).symm⟩, trivial⟩ rfl
 replace hd := (of_decide_eq_false hd)
 replace h := h.2 hd
 refine gR 8 rfl ?_
 obtain ⟨g, n, h⟩ := h
 refine gV 36 (.int .i64 ((g : Nat) : Int)) rfl (je n) rfl ?_
 obtain ⟨k, hxt1_6, h⟩ := h
 refine gY (aI (av hxt1_6) ab rfl rfl rfl rfl) rfl rfl <| gR 1 rfl ?_
 obtain ⟨e, hs9, h⟩ := h
 refine gCZ hs9 [0] ⟨⟨_, rfl, ⟨rfl, rfl, (vI _ b).symm⟩⟩, trivial⟩ ?_
 refine gHR 2 (List.map aa.w e) rfl (vI _ e) rfl <| gR 6 rfl ?_
 obtain ⟨hb, h⟩ := h
 exact gR 1 rfl <| gV 17 (.int .i64 (a + 1)) rfl (ax hb rfl) rfl <| gR 2 rfl <| go_xloop <| gJ (h K _ hK (by omega)) [2] [] rfl hK pq6 ⟨⟨_, rfl, rfl, rfl, (vI _ e).symm⟩, trivial⟩ rfl
 replace hd := (of_decide_eq_false hd)
 replace h := h.2 hd
 refine gR 3 rfl <| go_xloopE <| gR 9 rfl ?_
 subst h
 exact go_sub (F' := (mkF 41 0 [(10, .sl 1)])) (H' := ⟨2, [(1, .row 60 2 (List.map aa.w b))]⟩) [1000, 0] [] rfl hK pq1 ⟨⟨_, rfl, rfl, rfl, (vI _ b).symm⟩, trivial⟩ rfl <| go_endD [] ab (rs := [.tmp 10]) rfl rfl ⟨rfl, rfl⟩
theorem mR (m : Nat) (p0 : Tree) (p1 : Int) (r0 : List UInt8) (h : ((p1 < (p0.leads.length : Int)) → ∃ a, p1 = ((a : Nat) : Int) ∧ ∃ b, p0.leads[a]? = some b ∧ b = r0) ∧ ((¬ p1 < (p0.leads.length : Int)) → [] = r0)) : ai p0 p1 r0 := by
 refine ⟨rfl, rfl, ?_⟩
 refine am 15 [] Tryz.func99 rfl rfl rfl (aL rfl) fun K hK => ?_
 refine gR 3 rfl <| gFP 0 rfl rfl rfl rfl <| gR 10 rfl <| gV 8 (.int .i64 (p0.leads.length : Int)) rfl (bF (aZ V.str _)) rfl <| gLB 7 rfl (aZ V.str _) fun hl2 => gR 3 rfl <| qBd 9 rfl rfl rfl h (fun h => ?_) fun h => ?_
 refine gR 6 rfl ?_
 obtain ⟨a, c, h⟩ := h
 refine gV 12 (.int .i64 ((a : Nat) : Int)) rfl (je c) rfl ?_
 obtain ⟨b, hxs0_2, h⟩ := h
 refine gY (aI (mapget (f := V.str) hxs0_2) ab rfl rfl rfl rfl) rfl rfl <| gR 6 rfl ?_
 subst h
 exact go_end ab (rs := [.tmp 4]) rfl rfl rfl
 refine gR 9 rfl ?_
 subst h
 exact go_end ab (rs := [.tmp 4]) rfl rfl rfl
abbrev vD (a0 : List UInt8) : Ob := .var 79 [.np 0, .sl 1, .str a0]
theorem vJ (σ : List Nat) (l) : renL σ (List.map (V.int .u8) l) = List.map (V.int .u8) l := ym σ (V.int .u8) (fun _ => rfl) l
def dc (a : List Int) (c p1 : List UInt8) (r0 : Int) (r1 : Unit) (b : List Int) (d : List UInt8) : Prop := bZ [] Tryz.prog 110 [.ptr 0 0, .str p1] ⟨2, [(1, .row 5 1 (List.map (V.int .u8) a)), (0, vD c)]⟩ (fun u G => u = .tup [.int .i64 r0, .raw .nilIface] ∧ G = ⟨2, [(1, .row 5 1 (List.map (V.int .u8) b)), (0, vD d)]⟩)
def jZ (a : List Int) (b r0 : List UInt8) : Prop := bZ [] Tryz.prog 57 [.ptr 0 0] ⟨2, [(1, .row 5 1 (List.map (V.int .u8) a)), (0, vD b)]⟩ (fun u G => u = .str r0 ∧ G = ⟨2, []⟩)
def sd (p0 p1 : List UInt8) (r0 : Bool) : Prop := qS 111 [.str p0, .str p1] (.bool r0)
def mA (p0 : Tree) (r0 : List UInt8) : Prop := qS 88 [.agg (ae p0)] (.str r0)
def al (a : List Int) (c p1 p2 : List UInt8) (b : List Int) (d : List UInt8) : Prop := bZ [] Tryz.prog 86 [.ptr 0 0, .str p1, .str p2] ⟨2, [(1, .row 5 1 (List.map (V.int .u8) a)), (0, vD c)]⟩ (fun u G => u = .tup [] ∧ G = ⟨2, [(1, .row 5 1 (List.map (V.int .u8) b)), (0, vD d)]⟩)
def S_syntax_printer_list (a : List Int) (c : List UInt8) (p1 : Tree) (p2 : List Tree) (p3 : Int) (b : List Int) (d : List UInt8) : Prop := bZ [] Tryz.prog 87 [.ptr 0 0, .agg (ae p1), .row 4 (kidsV p2), .int .i64 p3] ⟨2, [(1, .row 5 1 (List.map (V.int .u8) a)), (0, vD c)]⟩ (fun u G => u = .tup [] ∧ G = ⟨2, [(1, .row 5 1 (List.map (V.int .u8) b)), (0, vD d)]⟩)
def ay (a : List Int) (c : List UInt8) (p1 : Tree) (b : List Int) (d : List UInt8) : Prop := bZ [] Tryz.prog 56 [.ptr 0 0, .agg (ae p1)] ⟨2, [(1, .row 5 1 (List.map (V.int .u8) a)), (0, vD c)]⟩ (fun u G => u = .tup [] ∧ G = ⟨2, [(1, .row 5 1 (List.map (V.int .u8) b)), (0, vD d)]⟩)
def eO (a : List Int) (c : List UInt8) (p1 : Tree) (b : List Int) (d : List UInt8) : Prop := bZ [] Tryz.prog 85 [.ptr 0 0, .agg (ae p1)] ⟨2, [(1, .row 5 1 (List.map (V.int .u8) a)), (0, vD c)]⟩ (fun u G => u = .tup [] ∧ G = ⟨2, [(1, .row 5 1 (List.map (V.int .u8) b)), (0, vD d)]⟩)
def nE (p0 : Tree) (r0 : List UInt8) : Prop := qS 29 [.agg (ae p0)] (.str r0)
theorem sP (m : Nat) (p0 : Tree) (r0 : List UInt8) (h : ((p0.kind = 5) → [73, 110, 116] = r0) ∧ ((p0.kind ≠ 5) → ((p0.kind = 6) → [84, 101, 120, 116] = r0) ∧ ((p0.kind ≠ 6) → ((p0.kind = 7) → [66, 111, 111, 108] = r0) ∧ ((p0.kind ≠ 7) → ((p0.kind = 13) → [116, 114, 117, 101] = r0) ∧ ((p0.kind ≠ 13) → ((p0.kind = 14) → [102, 97, 108, 115, 101] = r0) ∧ ((p0.kind ≠ 14) → ((p0.kind = 15) → [63] = r0) ∧ ((p0.kind ≠ 15) → p0.text = r0))))))) : mA p0 r0 := by
 refine ⟨rfl, rfl, ?_⟩
 refine am 19 [] Tryz.func88 rfl rfl rfl (aL rfl) fun K hK => ?_
 refine gR 3 rfl <| gFP 0 rfl rfl rfl rfl <| gR 17 rfl <| qBeZ 5 6 rfl rfl rfl rfl h (fun h => ?_) fun h => ?_
 refine gR 9 rfl ?_
 subst h
 exact go_end ab (rs := [.tmp 2]) rfl rfl rfl
 refine gR 7 rfl <| qBeZ 7 8 rfl rfl rfl rfl h (fun h => ?_) fun h => ?_
 refine gR 9 rfl ?_
 subst h
 exact go_end ab (rs := [.tmp 2]) rfl rfl rfl
 refine gR 7 rfl <| qBeZ 9 10 rfl rfl rfl rfl h (fun h => ?_) fun h => ?_
 refine gR 9 rfl ?_
 subst h
 exact go_end ab (rs := [.tmp 2]) rfl rfl rfl
 refine gR 7 rfl <| qBeZ 11 12 rfl rfl rfl rfl h (fun h => ?_) fun h => ?_
 refine gR 9 rfl ?_
 subst h
 exact go_end ab (rs := [.tmp 2]) rfl rfl rfl
 refine gR 7 rfl <| qBeZ 13 14 rfl rfl rfl rfl h (fun h => ?_) fun h => ?_
 refine gR 9 rfl ?_
 subst h
 exact go_end ab (rs := [.tmp 2]) rfl rfl rfl
 refine gR 7 rfl <| qBeZ 15 16 rfl rfl rfl rfl h (fun h => ?_) fun h => ?_
 refine gR 9 rfl ?_
 subst h
 exact go_end ab (rs := [.tmp 2]) rfl rfl rfl
 refine gR 12 rfl ?_
 subst h
 exact go_end ab (rs := [.tmp 2]) rfl rfl rfl
def cX (m : Nat) (a : List Int) (c p2 e : List UInt8) (b : List Int) (d : List UInt8) : Prop := ∀ (K : Ctx), aq K [0] → qLG K Tryz.f86 (fun u G => u = .tup [] ∧ G = ⟨2, [(1, .row 5 1 (List.map (V.int .u8) b)), (0, vD d)]⟩) (cB (ac Tryz.f86)) [] 37 (mkF 37 0 [(0, .ptr 0 0), (1, .str e), (2, .str p2)]) ⟨2, [(1, .row 5 1 (List.map (V.int .u8) a)), (0, vD c)]⟩
theorem eZ (m : Nat) (a : List Int) (b p1 p2 : List UInt8) (c : List Int) (d : List UInt8) (h : ((p1 = []) → ((b ≠ []) → ∃ e, sd b p2 e ∧ ((e = true) → cX m a b p2 [32] c d) ∧ ((e = false) → cX m a b p2 p1 c d)) ∧ ((b = []) → cX m a b p2 p1 c d)) ∧ ((p1 ≠ []) → cX m a b p2 p1 c d)) : al a b p1 p2 c d := by
 refine am 37 [0] Tryz.func86 rfl rfl rfl (aL rfl) fun K hK => ?_
 refine gR 6 rfl <| qBeZ 8 7 rfl rfl rfl rfl h (fun h => ?_) fun h => ?_
 refine gR 7 rfl <| qBhZ 15 14 rfl rfl rfl rfl h eF dl (fun h => ?_) fun h => ?_
 refine gR 5 rfl ?_
 obtain ⟨e, hs10, h⟩ := h
 refine gC0 hs10 (by kernel_rfl) rfl rfl .rfl rfl <| gR 3 rfl <| qBi 22 rfl rfl rfl h (fun h => ?_) fun h => ?_
 exact gR 5 rfl <| gJ (h K hK) [0, 1] [0] rfl hK pq3 ⟨⟨_, rfl, rfl, rfl, (vJ _ a).symm⟩, (pqo1 rfl rfl)⟩ rfl
 exact gR 3 rfl <| gJ (h K hK) [0, 1] [0] rfl hK pq3 ⟨⟨_, rfl, rfl, rfl, (vJ _ a).symm⟩, (pqo1 rfl rfl)⟩ rfl
 exact gR 12 rfl <| gJ (h K hK) [0, 1] [0] rfl hK pq3 ⟨⟨_, rfl, rfl, rfl, (vJ _ a).symm⟩, (pqo1 rfl rfl)⟩ rfl
 exact gR 19 rfl <| gJ (h K hK) [0, 1] [0] rfl hK pq3 ⟨⟨_, rfl, rfl, rfl, (vJ _ a).symm⟩, (pqo1 rfl rfl)⟩ rfl
theorem rL0_syntax_printer_put (m : Nat) (a : List Int) (e p2 i : List UInt8) (c : List Int) (f : List UInt8) (h : ∃ j k d g, dc a e i j k d g ∧ ∃ l n b o, dc d g p2 l n b o ∧ b = c ∧ p2 = f) : cX (m + 1) a e p2 i c f := by
 intro K hK
 refine gR 6 rfl ?_
 obtain ⟨j, k, d, g, hs11, h⟩ := h
 refine gCZ hs11 [0, 1] ⟨⟨_, rfl, ⟨rfl, rfl, (vJ _ a).symm⟩⟩, ⟨⟨_, rfl, ⟨rfl, aC.rfl⟩⟩, trivial⟩⟩ ?_
 refine gHR 3 (List.map (V.int .u8) d) rfl (vJ _ d) rfl <| gR 8 rfl ?_
 obtain ⟨l, n, b, o, hs12, h⟩ := h
 refine gCZ hs12 [0, 3] ⟨⟨_, rfl, ⟨rfl, rfl, (vJ _ d).symm⟩⟩, ⟨⟨_, rfl, ⟨rfl, aC.rfl⟩⟩, trivial⟩⟩ ?_
 refine gHR 5 (List.map (V.int .u8) b) rfl (vJ _ b) rfl <| gR 9 rfl ?_
 obtain ⟨rfl, rfl⟩ := h
 exact go_sub (F' := (mkF 37 0 [])) (H' := ⟨2, [(1, .row 5 1 (List.map (V.int .u8) b)), (0, vD p2)]⟩) [0, 5] [0] rfl hK trivial ⟨⟨_, rfl, rfl, rfl, (vJ _ b).symm⟩, (pqo1 rfl rfl)⟩ rfl <| go_endD [] ab (rs := []) rfl rfl ⟨rfl, rfl⟩
def cO (m : Nat) (p1 : Tree) (p2 : List Tree) (p3 : Int) (c : List Int) (d : List UInt8) (e : Nat) (a : List Int) (b : List UInt8) : Prop := ∀ (K : Ctx) (j1 : Nat), aq K [0] → m ≤ j1 → qLG K Tryz.f87 (fun u G => u = .tup [] ∧ G = ⟨2, [(1, .row 5 1 (List.map (V.int .u8) a)), (0, vD b)]⟩) (cL (xM (ac Tryz.f87))) [.loop (cL (xM (ac Tryz.f87))) j1, .blk 0] 33 (mkF 33 0 [(0, .ptr 0 0), (3, .int .i64 p3), (5, .box (ae p1) 0), (10, .row 4 (kidsV p2)), (11, .int .i64 (p2.length : Int)), (12, .int .i64 (e : Int))]) ⟨2, [(1, .row 5 1 (List.map (V.int .u8) c)), (0, vD d)]⟩
theorem px (m : Nat) (a : List Int) (c : List UInt8) (p1 : Tree) (p2 : List Tree) (p3 : Int) (b : List Int) (d : List UInt8) (h : cO m p1 p2 p3 a c 0 b d) : S_syntax_printer_list a c p1 p2 p3 b d := by
 refine am 33 [0] Tryz.func87 rfl rfl rfl (aL rfl) fun K hK => ?_
 exact gR 3 rfl <| gFP 2 rfl rfl rfl rfl <| gR 6 rfl <| gV 11 (.int .i64 (p2.length : Int)) rfl (bF (aE _)) rfl <| gLB 10 rfl (aE _) fun hl7 => gR 4 rfl <| go_loop m <| gJ (h K _ hK (by omega)) [0, 1] [0] rfl hK pq6 ⟨⟨_, rfl, rfl, rfl, (vJ _ a).symm⟩, (pqo1 rfl rfl)⟩ rfl
theorem gl (m : Nat) (p1 : Tree) (p2 : List Tree) (p3 : Int) (d : List Int) (k : List UInt8) (a : Nat) (b : List Int) (c : List UInt8) (h : ((a < p2.length) → ∃ l, p2[a]? = some l ∧ ((0 < (a : Int)) → InI (p3 + (a : Int)) ∧ InI ((p3 + (a : Int)) - 1) ∧ ∃ n, ((p3 + (a : Int)) - 1) = ((n : Nat) : Int) ∧ ∃ o, p1.leads[n]? = some o ∧ ∃ e p, al d k o [44] e p ∧ ∃ g q, ay e p l g q ∧ a + 1 ≤ 9223372036854775807 ∧ cO m p1 p2 p3 g q (a + 1) b c) ∧ ((¬ 0 < (a : Int)) → ∃ i r, ay d k l i r ∧ a + 1 ≤ 9223372036854775807 ∧ cO m p1 p2 p3 i r (a + 1) b c)) ∧ ((¬ a < p2.length) → d = b ∧ k = c)) : cO (m + 1) p1 p2 p3 d k a b c := by
 intro K j1 hK hj1
 obtain ⟨j1, rfl⟩ : ∃ j, j1 = j + 1 := ⟨j1 - 1, by omega⟩
 refine gR 6 rfl <| gB 13 rfl rfl rfl ?_ ?_ <;> intro hd
 replace hd := (fh hd)
 replace h := h.1 hd
 refine gR 8 rfl ?_
 obtain ⟨l, hxt1_1, h⟩ := h
 refine gY (aI (av hxt1_1) ab rfl rfl rfl rfl) rfl rfl <| gR 13 rfl <| gB 18 rfl rfl rfl ?_ ?_ <;> intro hd
 replace hd := (of_decide_eq_true hd)
 replace h := h.1 hd
 refine gR 7 rfl ?_
 obtain ⟨hb, h⟩ := h
 refine gR 1 rfl <| gV 24 (.int .i64 (p3 + (a : Int))) rfl (ax hb rfl) rfl ?_
 obtain ⟨hb, h⟩ := h
 refine gR 1 rfl <| gV 25 (.int .i64 ((p3 + (a : Int)) - 1)) rfl (ax hb rfl) rfl ?_
 obtain ⟨n, s, h⟩ := h
 refine gV 25 (.int .i64 ((n : Nat) : Int)) rfl (je s) rfl ?_
 obtain ⟨o, hxs1_3, h⟩ := h
 refine gY (aI (mapget (f := V.str) hxs1_3) ab rfl rfl rfl rfl) rfl rfl <| gR 1 rfl ?_
 obtain ⟨e, p, hs8, h⟩ := h
 refine gCZ hs8 [0, 1] ⟨⟨_, rfl, ⟨rfl, rfl, (vJ _ d).symm⟩⟩, ⟨⟨_, rfl, ⟨rfl, aC.rfl⟩⟩, trivial⟩⟩ ?_
 refine gHR 4 (List.map (V.int .u8) e) rfl (vJ _ e) rfl <| gR 5 rfl ?_
 obtain ⟨g, q, hs9, h⟩ := h
 refine gCZ hs9 [0, 4] ⟨⟨_, rfl, ⟨rfl, rfl, (vJ _ e).symm⟩⟩, ⟨⟨_, rfl, ⟨rfl, aC.rfl⟩⟩, trivial⟩⟩ ?_
 refine gHR 6 (List.map (V.int .u8) g) rfl (vJ _ g) rfl <| gR 4 rfl ?_
 obtain ⟨hb, h⟩ := h
 exact gR 1 rfl <| gV 32 (.int .i64 ((a + 1 : Nat) : Int)) rfl (ax (by omega) (by omega)) rfl <| gR 2 rfl <| go_xloop <| gJ (h K _ hK (by omega)) [0, 6] [0] rfl hK pq6 ⟨⟨_, rfl, rfl, rfl, (vJ _ g).symm⟩, (pqo1 rfl rfl)⟩ rfl
 replace hd := (of_decide_eq_false hd)
 replace h := h.2 hd
 refine gR 6 rfl ?_
 obtain ⟨i, r, hs10, h⟩ := h
 refine gCZ hs10 [0, 1] ⟨⟨_, rfl, ⟨rfl, rfl, (vJ _ d).symm⟩⟩, ⟨⟨_, rfl, ⟨rfl, aC.rfl⟩⟩, trivial⟩⟩ ?_
 refine gHR 4 (List.map (V.int .u8) i) rfl (vJ _ i) rfl <| gR 4 rfl ?_
 obtain ⟨hb, h⟩ := h
 exact gR 1 rfl <| gV 32 (.int .i64 ((a + 1 : Nat) : Int)) rfl (ax (by omega) (by omega)) rfl <| gR 2 rfl <| go_xloop <| gJ (h K _ hK (by omega)) [0, 4] [0] rfl hK pq6 ⟨⟨_, rfl, rfl, rfl, (vJ _ i).symm⟩, (pqo1 rfl rfl)⟩ rfl
 replace hd := (fo hd)
 replace h := h.2 hd
 refine gR 3 rfl <| go_xloopE <| gR 1 rfl ?_
 obtain ⟨rfl, rfl⟩ := h
 exact go_sub (F' := (mkF 33 0 [])) (H' := ⟨2, [(1, .row 5 1 (List.map (V.int .u8) d)), (0, vD k)]⟩) [0, 1] [0] rfl hK trivial ⟨⟨_, rfl, rfl, rfl, (vJ _ d).symm⟩, (pqo1 rfl rfl)⟩ rfl <| go_endD [] ab (rs := []) rfl rfl ⟨rfl, rfl⟩
def cP (m : Nat) (a : List Int) (c : List UInt8) (p1 : Tree) (e : Bool) (b : List Int) (d : List UInt8) : Prop := ∀ (K : Ctx), aq K [0] → qLG K Tryz.f56 (fun u G => u = .tup [] ∧ G = ⟨2, [(1, .row 5 1 (List.map (V.int .u8) b)), (0, vD d)]⟩) (cB (xM (ac Tryz.f56))) [.blk 0] 216 (mkF 216 0 [(0, .ptr 0 0), (3, .box (ae p1) 0), (5, .int .i64 p1.kind), (14, .bool e)]) ⟨2, [(1, .row 5 1 (List.map (V.int .u8) a)), (0, vD c)]⟩
def eJ (m : Nat) (a : List Int) (c : List UInt8) (p1 : Tree) (b : List Int) (d : List UInt8) : Prop := ∀ (K : Ctx), aq K [0] → qLG K Tryz.f56 (fun u G => u = .tup [] ∧ G = ⟨2, [(1, .row 5 1 (List.map (V.int .u8) b)), (0, vD d)]⟩) (xB (xM (ac Tryz.f56))) [.blk 0] 216 (mkF 216 0 [(0, .ptr 0 0), (3, .box (ae p1) 0), (5, .int .i64 p1.kind)]) ⟨2, [(1, .row 5 1 (List.map (V.int .u8) a)), (0, vD c)]⟩
def eM (m : Nat) (a : List Int) (c : List UInt8) (p1 : Tree) (b : List Int) (d : List UInt8) : Prop := ∀ (K : Ctx), aq K [0] → qLG K Tryz.f56 (fun u G => u = .tup [] ∧ G = ⟨2, [(1, .row 5 1 (List.map (V.int .u8) b)), (0, vD d)]⟩) (xC (xM (ac Tryz.f56))) [.blk 0] 216 (mkF 216 0 [(0, .ptr 0 0), (3, .box (ae p1) 0), (5, .int .i64 p1.kind)]) ⟨2, [(1, .row 5 1 (List.map (V.int .u8) a)), (0, vD c)]⟩
def kY (m : Nat) (a : List Int) (c : List UInt8) (p1 : Tree) (b : List Int) (d : List UInt8) : Prop := ∀ (K : Ctx), aq K [0] → qLG K Tryz.f56 (fun u G => u = .tup [] ∧ G = ⟨2, [(1, .row 5 1 (List.map (V.int .u8) b)), (0, vD d)]⟩) (xK (xC (xM (ac Tryz.f56)))) [.blk 0] 216 (mkF 216 0 [(0, .ptr 0 0), (3, .box (ae p1) 0)]) ⟨2, [(1, .row 5 1 (List.map (V.int .u8) a)), (0, vD c)]⟩
def eL (m : Nat) (a : List Int) (c : List UInt8) (p1 : Tree) (b : List Int) (d : List UInt8) : Prop := ∀ (K : Ctx), aq K [0] → qLG K Tryz.f56 (fun u G => u = .tup [] ∧ G = ⟨2, [(1, .row 5 1 (List.map (V.int .u8) b)), (0, vD d)]⟩) (xC (xB (xM (ac Tryz.f56)))) [.blk 0] 216 (mkF 216 0 [(0, .ptr 0 0), (3, .box (ae p1) 0), (5, .int .i64 p1.kind)]) ⟨2, [(1, .row 5 1 (List.map (V.int .u8) a)), (0, vD c)]⟩
def ln (m : Nat) (a : List Int) (c : List UInt8) (p1 : Tree) (b : List Int) (d : List UInt8) : Prop := ∀ (K : Ctx), aq K [0] → qLG K Tryz.f56 (fun u G => u = .tup [] ∧ G = ⟨2, [(1, .row 5 1 (List.map (V.int .u8) b)), (0, vD d)]⟩) (xK (xC (xB (xM (ac Tryz.f56))))) [.blk 0] 216 (mkF 216 0 [(0, .ptr 0 0), (3, .box (ae p1) 0)]) ⟨2, [(1, .row 5 1 (List.map (V.int .u8) a)), (0, vD c)]⟩
def eI (m : Nat) (a : List Int) (c : List UInt8) (p1 : Tree) (b : List Int) (d : List UInt8) : Prop := ∀ (K : Ctx), aq K [0] → qLG K Tryz.f56 (fun u G => u = .tup [] ∧ G = ⟨2, [(1, .row 5 1 (List.map (V.int .u8) b)), (0, vD d)]⟩) (xD (xM (ac Tryz.f56))) [.blk 0] 216 (mkF 216 0 [(0, .ptr 0 0), (3, .box (ae p1) 0), (5, .int .i64 p1.kind)]) ⟨2, [(1, .row 5 1 (List.map (V.int .u8) a)), (0, vD c)]⟩
def lu (m : Nat) (a : List Int) (c : List UInt8) (p1 : Tree) (b : List Int) (d : List UInt8) : Prop := ∀ (K : Ctx), aq K [0] → qLG K Tryz.f56 (fun u G => u = .tup [] ∧ G = ⟨2, [(1, .row 5 1 (List.map (V.int .u8) b)), (0, vD d)]⟩) (xK (xD (xM (ac Tryz.f56)))) [.blk 0] 216 (mkF 216 0 [(0, .ptr 0 0), (3, .box (ae p1) 0)]) ⟨2, [(1, .row 5 1 (List.map (V.int .u8) a)), (0, vD c)]⟩
def eN (m : Nat) (a : List Int) (c : List UInt8) (p1 : Tree) (b : List Int) (d : List UInt8) : Prop := ∀ (K : Ctx), aq K [0] → qLG K Tryz.f56 (fun u G => u = .tup [] ∧ G = ⟨2, [(1, .row 5 1 (List.map (V.int .u8) b)), (0, vD d)]⟩) (xD (xB (xM (ac Tryz.f56)))) [.blk 0] 216 (mkF 216 0 [(0, .ptr 0 0), (3, .box (ae p1) 0), (5, .int .i64 p1.kind)]) ⟨2, [(1, .row 5 1 (List.map (V.int .u8) a)), (0, vD c)]⟩
def lr (m : Nat) (a : List Int) (c : List UInt8) (p1 : Tree) (b : List Int) (d : List UInt8) : Prop := ∀ (K : Ctx), aq K [0] → qLG K Tryz.f56 (fun u G => u = .tup [] ∧ G = ⟨2, [(1, .row 5 1 (List.map (V.int .u8) b)), (0, vD d)]⟩) (xK (xD (xB (xM (ac Tryz.f56))))) [.blk 0] 216 (mkF 216 0 [(0, .ptr 0 0), (3, .box (ae p1) 0)]) ⟨2, [(1, .row 5 1 (List.map (V.int .u8) a)), (0, vD c)]⟩
def ei (m : Nat) (a : List Int) (c : List UInt8) (p1 : Tree) (b : List Int) (d : List UInt8) : Prop := ∀ (K : Ctx), aq K [0] → qLG K Tryz.f56 (fun u G => u = .tup [] ∧ G = ⟨2, [(1, .row 5 1 (List.map (V.int .u8) b)), (0, vD d)]⟩) (xD (xC (xM (ac Tryz.f56)))) [.blk 0] 216 (mkF 216 0 [(0, .ptr 0 0), (3, .box (ae p1) 0), (5, .int .i64 p1.kind)]) ⟨2, [(1, .row 5 1 (List.map (V.int .u8) a)), (0, vD c)]⟩
def kw (m : Nat) (a : List Int) (c : List UInt8) (p1 : Tree) (b : List Int) (d : List UInt8) : Prop := ∀ (K : Ctx), aq K [0] → qLG K Tryz.f56 (fun u G => u = .tup [] ∧ G = ⟨2, [(1, .row 5 1 (List.map (V.int .u8) b)), (0, vD d)]⟩) (xK (xD (xC (xM (ac Tryz.f56))))) [.blk 0] 216 (mkF 216 0 [(0, .ptr 0 0), (3, .box (ae p1) 0)]) ⟨2, [(1, .row 5 1 (List.map (V.int .u8) a)), (0, vD c)]⟩
def eh (m : Nat) (a : List Int) (c : List UInt8) (p1 : Tree) (b : List Int) (d : List UInt8) : Prop := ∀ (K : Ctx), aq K [0] → qLG K Tryz.f56 (fun u G => u = .tup [] ∧ G = ⟨2, [(1, .row 5 1 (List.map (V.int .u8) b)), (0, vD d)]⟩) (xD (xC (xB (xM (ac Tryz.f56))))) [.blk 0] 216 (mkF 216 0 [(0, .ptr 0 0), (3, .box (ae p1) 0), (5, .int .i64 p1.kind)]) ⟨2, [(1, .row 5 1 (List.map (V.int .u8) a)), (0, vD c)]⟩
def kr (m : Nat) (a : List Int) (c : List UInt8) (p1 : Tree) (b : List Int) (d : List UInt8) : Prop := ∀ (K : Ctx), aq K [0] → qLG K Tryz.f56 (fun u G => u = .tup [] ∧ G = ⟨2, [(1, .row 5 1 (List.map (V.int .u8) b)), (0, vD d)]⟩) (xK (xD (xC (xB (xM (ac Tryz.f56)))))) [.blk 0] 216 (mkF 216 0 [(0, .ptr 0 0), (3, .box (ae p1) 0)]) ⟨2, [(1, .row 5 1 (List.map (V.int .u8) a)), (0, vD c)]⟩
def gm (m : Nat) (a : List Int) (c : List UInt8) (p1 : Tree) (b : List Int) (d : List UInt8) : Prop := ∀ (K : Ctx), aq K [0] → qLG K Tryz.f56 (fun u G => u = .tup [] ∧ G = ⟨2, [(1, .row 5 1 (List.map (V.int .u8) b)), (0, vD d)]⟩) (xL (xM (ac Tryz.f56))) [.blk 0] 216 (mkF 216 0 [(0, .ptr 0 0), (3, .box (ae p1) 0), (5, .int .i64 p1.kind)]) ⟨2, [(1, .row 5 1 (List.map (V.int .u8) a)), (0, vD c)]⟩
def kA (m : Nat) (a : List Int) (c : List UInt8) (p1 : Tree) (b : List Int) (d : List UInt8) : Prop := ∀ (K : Ctx), aq K [0] → qLG K Tryz.f56 (fun u G => u = .tup [] ∧ G = ⟨2, [(1, .row 5 1 (List.map (V.int .u8) b)), (0, vD d)]⟩) (xK (xL (xM (ac Tryz.f56)))) [.blk 0] 216 (mkF 216 0 [(0, .ptr 0 0), (3, .box (ae p1) 0)]) ⟨2, [(1, .row 5 1 (List.map (V.int .u8) a)), (0, vD c)]⟩
theorem rS_syntax_printer_tree (m : Nat) (a : List Int) (c : List UInt8) (p1 : Tree) (b : List Int) (d : List UInt8) (h : ((p1.kind = 1) → cP m a c p1 true b d) ∧ ((p1.kind ≠ 1) → ((p1.kind = 2) → cP m a c p1 true b d) ∧ ((p1.kind ≠ 2) → ((p1.kind = 3) → cP m a c p1 true b d) ∧ ((p1.kind ≠ 3) → cP m a c p1 (p1.kind == 4) b d)))) : ay a c p1 b d := by
 refine am 216 [0] Tryz.func56 rfl rfl rfl (aL rfl) fun K hK => ?_
 refine gR 3 rfl <| gFP 2 rfl rfl rfl rfl <| gR 16 rfl <| qBeZ 14 15 rfl rfl rfl rfl h (fun h => ?_) fun h => ?_
 exact gR 3 rfl <| gJ (h K hK) [0, 1] [0] rfl hK pq4 ⟨⟨_, rfl, rfl, rfl, (vJ _ a).symm⟩, (pqo1 rfl rfl)⟩ rfl
 refine gR 7 rfl <| qBeZ 14 16 rfl rfl rfl rfl h (fun h => ?_) fun h => ?_
 exact gR 3 rfl <| gJ (h K hK) [0, 1] [0] rfl hK pq4 ⟨⟨_, rfl, rfl, rfl, (vJ _ a).symm⟩, (pqo1 rfl rfl)⟩ rfl
 refine gR 7 rfl <| qBeZ 14 17 rfl rfl rfl rfl h (fun h => ?_) fun h => ?_
 exact gR 3 rfl <| gJ (h K hK) [0, 1] [0] rfl hK pq4 ⟨⟨_, rfl, rfl, rfl, (vJ _ a).symm⟩, (pqo1 rfl rfl)⟩ rfl
 exact gR 6 rfl <| gJ (h K hK) [0, 1] [0] rfl hK pq4 ⟨⟨_, rfl, rfl, rfl, (vJ _ a).symm⟩, (pqo1 rfl rfl)⟩ rfl
theorem kK (m : Nat) (a : List Int) (c : List UInt8) (p1 : Tree) (g : Bool) (b : List Int) (d : List UInt8) (h : ((g = true) → ∃ e f, eO a c p1 e f ∧ e = b ∧ f = d) ∧ ((g = false) → eJ m a c p1 b d)) : cP (m + 1) a c p1 g b d := by
 intro K hK
 refine qBi 14 rfl rfl rfl h (fun h => ?_) fun h => ?_
 refine gR 4 rfl ?_
 obtain ⟨e, f, hs66, h⟩ := h
 refine gCZ hs66 [0, 1] ⟨⟨_, rfl, ⟨rfl, rfl, (vJ _ a).symm⟩⟩, ⟨⟨_, rfl, ⟨rfl, aC.rfl⟩⟩, trivial⟩⟩ ?_
 refine gHR 3 (List.map (V.int .u8) e) rfl (vJ _ e) rfl <| gR 2 rfl ?_
 obtain ⟨rfl, rfl⟩ := h
 exact go_sub (F' := (mkF 216 0 [])) (H' := ⟨2, [(1, .row 5 1 (List.map (V.int .u8) e)), (0, vD f)]⟩) [0, 3] [0] rfl hK trivial ⟨⟨_, rfl, rfl, rfl, (vJ _ e).symm⟩, (pqo1 rfl rfl)⟩ rfl <| go_endD [] ab (rs := []) rfl rfl ⟨rfl, rfl⟩
 exact gR 1 rfl <| gJ (h K hK) [0, 1] [0] rfl hK pq3 ⟨⟨_, rfl, rfl, rfl, (vJ _ a).symm⟩, (pqo1 rfl rfl)⟩ rfl
theorem kp (m : Nat) (a : List Int) (c : List UInt8) (p1 : Tree) (b : List Int) (d : List UInt8) (h : ((p1.kind = 17) → ∃ g, p1.kids[0]? = some g ∧ ∃ e f, ay a c g e f ∧ e = b ∧ f = d) ∧ ((p1.kind ≠ 17) → eM m a c p1 b d)) : eJ (m + 1) a c p1 b d := by
 intro K hK
 refine gR 6 rfl <| qBeZ 22 23 rfl rfl rfl rfl h (fun h => ?_) fun h => ?_
 refine gR 5 rfl ?_
 obtain ⟨g, hxt2_1, h⟩ := h
 refine gY (aI (av hxt2_1) ab rfl rfl rfl rfl) rfl rfl <| gR 1 rfl ?_
 obtain ⟨e, f, hs67, h⟩ := h
 refine gCZ hs67 [0, 1] ⟨⟨_, rfl, ⟨rfl, rfl, (vJ _ a).symm⟩⟩, ⟨⟨_, rfl, ⟨rfl, aC.rfl⟩⟩, trivial⟩⟩ ?_
 refine gHR 3 (List.map (V.int .u8) e) rfl (vJ _ e) rfl <| gR 2 rfl ?_
 obtain ⟨rfl, rfl⟩ := h
 exact go_sub (F' := (mkF 216 0 [])) (H' := ⟨2, [(1, .row 5 1 (List.map (V.int .u8) e)), (0, vD f)]⟩) [0, 3] [0] rfl hK trivial ⟨⟨_, rfl, rfl, rfl, (vJ _ e).symm⟩, (pqo1 rfl rfl)⟩ rfl <| go_endD [] ab (rs := []) rfl rfl ⟨rfl, rfl⟩
 exact gR 1 rfl <| gJ (h K hK) [0, 1] [0] rfl hK pq3 ⟨⟨_, rfl, rfl, rfl, (vJ _ a).symm⟩, (pqo1 rfl rfl)⟩ rfl
theorem ku (m : Nat) (a : List Int) (c : List UInt8) (p1 : Tree) (b : List Int) (d : List UInt8) (h : ((p1.kind = 8) → kY m a c p1 b d) ∧ ((p1.kind ≠ 8) → eL m a c p1 b d)) : eM (m + 1) a c p1 b d := by
 intro K hK
 refine gR 6 rfl <| qBeZ 30 31 rfl rfl rfl rfl h (fun h => ?_) fun h => ?_
 exact gR 1 rfl <| gJ (h K hK) [0, 1] [0] rfl hK pq2 ⟨⟨_, rfl, rfl, rfl, (vJ _ a).symm⟩, (pqo1 rfl rfl)⟩ rfl
 exact gR 1 rfl <| gJ (h K hK) [0, 1] [0] rfl hK pq3 ⟨⟨_, rfl, rfl, rfl, (vJ _ a).symm⟩, (pqo1 rfl rfl)⟩ rfl
theorem oG (m : Nat) (a : List Int) (g : List UInt8) (p1 : Tree) (c : List Int) (i : List UInt8) (h : ∃ k, p1.leads[0]? = some k ∧ ∃ d l, al a g k [91] d l ∧ ∃ n, p1.kids[0]? = some n ∧ ∃ e o, ay d l n e o ∧ ∃ p, p1.leads[1]? = some p ∧ ∃ b j, al e o p [93] b j ∧ b = c ∧ j = i) : kY (m + 1) a g p1 c i := by
 intro K hK
 refine gR 5 rfl ?_
 obtain ⟨k, hxs4_1, h⟩ := h
 refine gY (aI (mapget (f := V.str) hxs4_1) ab rfl rfl rfl rfl) rfl rfl <| gR 1 rfl ?_
 obtain ⟨d, l, hs68, h⟩ := h
 refine gCZ hs68 [0, 1] ⟨⟨_, rfl, ⟨rfl, rfl, (vJ _ a).symm⟩⟩, ⟨⟨_, rfl, ⟨rfl, aC.rfl⟩⟩, trivial⟩⟩ ?_
 refine gHR 3 (List.map (V.int .u8) d) rfl (vJ _ d) rfl <| gR 7 rfl ?_
 obtain ⟨n, hxt4_4, h⟩ := h
 refine gY (aI (av hxt4_4) ab rfl rfl rfl rfl) rfl rfl <| gR 1 rfl ?_
 obtain ⟨e, o, hs69, h⟩ := h
 refine gCZ hs69 [0, 3] ⟨⟨_, rfl, ⟨rfl, rfl, (vJ _ d).symm⟩⟩, ⟨⟨_, rfl, ⟨rfl, aC.rfl⟩⟩, trivial⟩⟩ ?_
 refine gHR 5 (List.map (V.int .u8) e) rfl (vJ _ e) rfl <| gR 6 rfl ?_
 obtain ⟨p, hxs4_7, h⟩ := h
 refine gY (aI (mapget (f := V.str) hxs4_7) ab rfl rfl rfl rfl) rfl rfl <| gR 1 rfl ?_
 obtain ⟨b, j, hs70, h⟩ := h
 refine gCZ hs70 [0, 5] ⟨⟨_, rfl, ⟨rfl, rfl, (vJ _ e).symm⟩⟩, ⟨⟨_, rfl, ⟨rfl, aC.rfl⟩⟩, trivial⟩⟩ ?_
 refine gHR 7 (List.map (V.int .u8) b) rfl (vJ _ b) rfl <| gR 2 rfl ?_
 obtain ⟨rfl, rfl⟩ := h
 exact go_sub (F' := (mkF 216 0 [])) (H' := ⟨2, [(1, .row 5 1 (List.map (V.int .u8) b)), (0, vD j)]⟩) [0, 7] [0] rfl hK trivial ⟨⟨_, rfl, rfl, rfl, (vJ _ b).symm⟩, (pqo1 rfl rfl)⟩ rfl <| go_endD [] ab (rs := []) rfl rfl ⟨rfl, rfl⟩
theorem ko (m : Nat) (a : List Int) (c : List UInt8) (p1 : Tree) (b : List Int) (d : List UInt8) (h : ((p1.kind = 16) → ln m a c p1 b d) ∧ ((p1.kind ≠ 16) → eI m a c p1 b d)) : eL (m + 1) a c p1 b d := by
 intro K hK
 refine gR 6 rfl <| qBeZ 50 51 rfl rfl rfl rfl h (fun h => ?_) fun h => ?_
 exact gR 1 rfl <| gJ (h K hK) [0, 1] [0] rfl hK pq2 ⟨⟨_, rfl, rfl, rfl, (vJ _ a).symm⟩, (pqo1 rfl rfl)⟩ rfl
 exact gR 1 rfl <| gJ (h K hK) [0, 1] [0] rfl hK pq3 ⟨⟨_, rfl, rfl, rfl, (vJ _ a).symm⟩, (pqo1 rfl rfl)⟩ rfl
theorem oL (m : Nat) (b : List Int) (j : List UInt8) (p1 : Tree) (c : List Int) (k : List UInt8) (h : ∃ l, p1.leads[0]? = some l ∧ ∃ d n, al b j l p1.text d n ∧ ∃ o, p1.leads[1]? = some o ∧ ∃ e p, al d n o [40] e p ∧ ∃ g q, S_syntax_printer_list e p p1 p1.kids 3 g q ∧ ∃ r, p1.leads[2]? = some r ∧ ∃ a i, al g q r [41] a i ∧ a = c ∧ i = k) : ln (m + 1) b j p1 c k := by
 intro K hK
 refine gR 1 rfl <| gDs [] 8 8 rfl (by kernel_rfl) (by kernel_rfl) <| gDr [(0, 2), (1, 2), (2, 2)] (by kernel_rfl) rfl rfl ?_
 obtain ⟨l, hxs6_1, h⟩ := h
 refine gYd 3 rfl (by kernel_rfl) (aI (mapget (f := V.str) hxs6_1) ab rfl rfl rfl rfl) rfl rfl <| gDr [(4, 2), (5, 0), (6, 0)] (by kernel_rfl) rfl rfl ?_
 obtain ⟨d, n, hs71, h⟩ := h
 refine gDCZ 7 hs71 [0, 1] rfl ⟨⟨_, rfl, ⟨rfl, rfl, (vJ _ b).symm⟩⟩, ⟨⟨_, rfl, ⟨rfl, aC.rfl⟩⟩, trivial⟩⟩ ?_
 refine gHR 3 (List.map (V.int .u8) d) rfl (vJ _ d) rfl <| gDe (by kernel_rfl) <| gR 6 rfl ?_
 obtain ⟨o, hxs6_4, h⟩ := h
 refine gY (aI (mapget (f := V.str) hxs6_4) ab rfl rfl rfl rfl) rfl rfl <| gR 1 rfl ?_
 obtain ⟨e, p, hs72, h⟩ := h
 refine gCZ hs72 [0, 3] ⟨⟨_, rfl, ⟨rfl, rfl, (vJ _ d).symm⟩⟩, ⟨⟨_, rfl, ⟨rfl, aC.rfl⟩⟩, trivial⟩⟩ ?_
 refine gHR 5 (List.map (V.int .u8) e) rfl (vJ _ e) rfl <| gR 8 rfl ?_
 obtain ⟨g, q, hs73, h⟩ := h
 refine gCZ hs73 [0, 5] ⟨⟨_, rfl, ⟨rfl, rfl, (vJ _ e).symm⟩⟩, ⟨⟨_, rfl, ⟨rfl, aC.rfl⟩⟩, trivial⟩⟩ ?_
 refine gHR 7 (List.map (V.int .u8) g) rfl (vJ _ g) rfl <| gR 6 rfl ?_
 obtain ⟨r, hxs6_9, h⟩ := h
 refine gY (aI (mapget (f := V.str) hxs6_9) ab rfl rfl rfl rfl) rfl rfl <| gR 1 rfl ?_
 obtain ⟨a, i, hs74, h⟩ := h
 refine gCZ hs74 [0, 7] ⟨⟨_, rfl, ⟨rfl, rfl, (vJ _ g).symm⟩⟩, ⟨⟨_, rfl, ⟨rfl, aC.rfl⟩⟩, trivial⟩⟩ ?_
 refine gHR 9 (List.map (V.int .u8) a) rfl (vJ _ a) rfl <| gR 2 rfl ?_
 obtain ⟨rfl, rfl⟩ := h
 exact go_sub (F' := (mkF 216 0 [])) (H' := ⟨2, [(1, .row 5 1 (List.map (V.int .u8) a)), (0, vD i)]⟩) [0, 9] [0] rfl hK trivial ⟨⟨_, rfl, rfl, rfl, (vJ _ a).symm⟩, (pqo1 rfl rfl)⟩ rfl <| go_endD [] ab (rs := []) rfl rfl ⟨rfl, rfl⟩
theorem kL (m : Nat) (a : List Int) (c : List UInt8) (p1 : Tree) (b : List Int) (d : List UInt8) (h : ((p1.kind = 18) → lu m a c p1 b d) ∧ ((p1.kind ≠ 18) → eN m a c p1 b d)) : eI (m + 1) a c p1 b d := by
 intro K hK
 refine gR 6 rfl <| qBeZ 77 78 rfl rfl rfl rfl h (fun h => ?_) fun h => ?_
 exact gR 1 rfl <| gJ (h K hK) [0, 1] [0] rfl hK pq2 ⟨⟨_, rfl, rfl, rfl, (vJ _ a).symm⟩, (pqo1 rfl rfl)⟩ rfl
 exact gR 1 rfl <| gJ (h K hK) [0, 1] [0] rfl hK pq3 ⟨⟨_, rfl, rfl, rfl, (vJ _ a).symm⟩, (pqo1 rfl rfl)⟩ rfl
theorem oI (m : Nat) (a : List Int) (g : List UInt8) (p1 : Tree) (c : List Int) (i : List UInt8) (h : ∃ k, p1.leads[0]? = some k ∧ ∃ d l, al a g k [91] d l ∧ ∃ e n, S_syntax_printer_list d l p1 p1.kids 2 e n ∧ ∃ o, p1.leads[1]? = some o ∧ ∃ b j, al e n o [93] b j ∧ b = c ∧ j = i) : lu (m + 1) a g p1 c i := by
 intro K hK
 refine gR 5 rfl ?_
 obtain ⟨k, hxs8_1, h⟩ := h
 refine gY (aI (mapget (f := V.str) hxs8_1) ab rfl rfl rfl rfl) rfl rfl <| gR 1 rfl ?_
 obtain ⟨d, l, hs75, h⟩ := h
 refine gCZ hs75 [0, 1] ⟨⟨_, rfl, ⟨rfl, rfl, (vJ _ a).symm⟩⟩, ⟨⟨_, rfl, ⟨rfl, aC.rfl⟩⟩, trivial⟩⟩ ?_
 refine gHR 3 (List.map (V.int .u8) d) rfl (vJ _ d) rfl <| gR 8 rfl ?_
 obtain ⟨e, n, hs76, h⟩ := h
 refine gCZ hs76 [0, 3] ⟨⟨_, rfl, ⟨rfl, rfl, (vJ _ d).symm⟩⟩, ⟨⟨_, rfl, ⟨rfl, aC.rfl⟩⟩, trivial⟩⟩ ?_
 refine gHR 5 (List.map (V.int .u8) e) rfl (vJ _ e) rfl <| gR 6 rfl ?_
 obtain ⟨o, hxs8_6, h⟩ := h
 refine gY (aI (mapget (f := V.str) hxs8_6) ab rfl rfl rfl rfl) rfl rfl <| gR 1 rfl ?_
 obtain ⟨b, j, hs77, h⟩ := h
 refine gCZ hs77 [0, 5] ⟨⟨_, rfl, ⟨rfl, rfl, (vJ _ e).symm⟩⟩, ⟨⟨_, rfl, ⟨rfl, aC.rfl⟩⟩, trivial⟩⟩ ?_
 refine gHR 7 (List.map (V.int .u8) b) rfl (vJ _ b) rfl <| gR 2 rfl ?_
 obtain ⟨rfl, rfl⟩ := h
 exact go_sub (F' := (mkF 216 0 [])) (H' := ⟨2, [(1, .row 5 1 (List.map (V.int .u8) b)), (0, vD j)]⟩) [0, 7] [0] rfl hK trivial ⟨⟨_, rfl, rfl, rfl, (vJ _ b).symm⟩, (pqo1 rfl rfl)⟩ rfl <| go_endD [] ab (rs := []) rfl rfl ⟨rfl, rfl⟩
theorem kD (m : Nat) (a : List Int) (c : List UInt8) (p1 : Tree) (b : List Int) (d : List UInt8) (h : ((p1.kind = 19) → lr m a c p1 b d) ∧ ((p1.kind ≠ 19) → ei m a c p1 b d)) : eN (m + 1) a c p1 b d := by
 intro K hK
 refine gR 6 rfl <| qBeZ 96 97 rfl rfl rfl rfl h (fun h => ?_) fun h => ?_
 exact gR 1 rfl <| gJ (h K hK) [0, 1] [0] rfl hK pq2 ⟨⟨_, rfl, rfl, rfl, (vJ _ a).symm⟩, (pqo1 rfl rfl)⟩ rfl
 exact gR 1 rfl <| gJ (h K hK) [0, 1] [0] rfl hK pq3 ⟨⟨_, rfl, rfl, rfl, (vJ _ a).symm⟩, (pqo1 rfl rfl)⟩ rfl
theorem oD (m : Nat) (d : List Int) (r : List UInt8) (p1 : Tree) (k : List Int) (s : List UInt8) (h : ∃ t, p1.leads[0]? = some t ∧ ∃ e v, al d r t [105, 102] e v ∧ ∃ w, p1.kids[0]? = some w ∧ ∃ g x, ay e v w g x ∧ ∃ y, p1.leads[1]? = some y ∧ ∃ i z, al g x y [116, 104, 101, 110] i z ∧ ∃ l, p1.kids[1]? = some l ∧ ∃ b n, ay i z l b n ∧ ∃ o, p1.leads[2]? = some o ∧ ∃ c p, al b n o [101, 108, 115, 101] c p ∧ ∃ q, p1.kids[2]? = some q ∧ ∃ a j, ay c p q a j ∧ a = k ∧ j = s) : lr (m + 1) d r p1 k s := by
 intro K hK
 refine gR 5 rfl ?_
 obtain ⟨t, hxs10_1, h⟩ := h
 refine gY (aI (mapget (f := V.str) hxs10_1) ab rfl rfl rfl rfl) rfl rfl <| gR 1 rfl ?_
 obtain ⟨e, v, hs78, h⟩ := h
 refine gCZ hs78 [0, 1] ⟨⟨_, rfl, ⟨rfl, rfl, (vJ _ d).symm⟩⟩, ⟨⟨_, rfl, ⟨rfl, aC.rfl⟩⟩, trivial⟩⟩ ?_
 refine gHR 3 (List.map (V.int .u8) e) rfl (vJ _ e) rfl <| gR 7 rfl ?_
 obtain ⟨w, hxt10_4, h⟩ := h
 refine gY (aI (av hxt10_4) ab rfl rfl rfl rfl) rfl rfl <| gR 1 rfl ?_
 obtain ⟨g, x, hs79, h⟩ := h
 refine gCZ hs79 [0, 3] ⟨⟨_, rfl, ⟨rfl, rfl, (vJ _ e).symm⟩⟩, ⟨⟨_, rfl, ⟨rfl, aC.rfl⟩⟩, trivial⟩⟩ ?_
 refine gHR 5 (List.map (V.int .u8) g) rfl (vJ _ g) rfl <| gR 7 rfl ?_
 obtain ⟨y, hxs10_7, h⟩ := h
 refine gY (aI (mapget (f := V.str) hxs10_7) ab rfl rfl rfl rfl) rfl rfl <| gR 1 rfl ?_
 obtain ⟨i, z, hs80, h⟩ := h
 refine gCZ hs80 [0, 5] ⟨⟨_, rfl, ⟨rfl, rfl, (vJ _ g).symm⟩⟩, ⟨⟨_, rfl, ⟨rfl, aC.rfl⟩⟩, trivial⟩⟩ ?_
 refine gHR 7 (List.map (V.int .u8) i) rfl (vJ _ i) rfl <| gR 7 rfl ?_
 obtain ⟨l, hxt10_10, h⟩ := h
 refine gY (aI (av hxt10_10) ab rfl rfl rfl rfl) rfl rfl <| gR 1 rfl ?_
 obtain ⟨b, n, hs81, h⟩ := h
 refine gCZ hs81 [0, 7] ⟨⟨_, rfl, ⟨rfl, rfl, (vJ _ i).symm⟩⟩, ⟨⟨_, rfl, ⟨rfl, aC.rfl⟩⟩, trivial⟩⟩ ?_
 refine gHR 9 (List.map (V.int .u8) b) rfl (vJ _ b) rfl <| gR 7 rfl ?_
 obtain ⟨o, hxs10_13, h⟩ := h
 refine gY (aI (mapget (f := V.str) hxs10_13) ab rfl rfl rfl rfl) rfl rfl <| gR 1 rfl ?_
 obtain ⟨c, p, hs82, h⟩ := h
 refine gCZ hs82 [0, 9] ⟨⟨_, rfl, ⟨rfl, rfl, (vJ _ b).symm⟩⟩, ⟨⟨_, rfl, ⟨rfl, aC.rfl⟩⟩, trivial⟩⟩ ?_
 refine gHR 11 (List.map (V.int .u8) c) rfl (vJ _ c) rfl <| gR 6 rfl ?_
 obtain ⟨q, hxt10_16, h⟩ := h
 refine gY (aI (av hxt10_16) ab rfl rfl rfl rfl) rfl rfl <| gR 1 rfl ?_
 obtain ⟨a, j, hs83, h⟩ := h
 refine gCZ hs83 [0, 11] ⟨⟨_, rfl, ⟨rfl, rfl, (vJ _ c).symm⟩⟩, ⟨⟨_, rfl, ⟨rfl, aC.rfl⟩⟩, trivial⟩⟩ ?_
 refine gHR 13 (List.map (V.int .u8) a) rfl (vJ _ a) rfl <| gR 2 rfl ?_
 obtain ⟨rfl, rfl⟩ := h
 exact go_sub (F' := (mkF 216 0 [])) (H' := ⟨2, [(1, .row 5 1 (List.map (V.int .u8) a)), (0, vD j)]⟩) [0, 13] [0] rfl hK trivial ⟨⟨_, rfl, rfl, rfl, (vJ _ a).symm⟩, (pqo1 rfl rfl)⟩ rfl <| go_endD [] ab (rs := []) rfl rfl ⟨rfl, rfl⟩
theorem jX (m : Nat) (a : List Int) (c : List UInt8) (p1 : Tree) (b : List Int) (d : List UInt8) (h : ((p1.kind = 20) → kw m a c p1 b d) ∧ ((p1.kind ≠ 20) → eh m a c p1 b d)) : ei (m + 1) a c p1 b d := by
 intro K hK
 refine gR 6 rfl <| qBeZ 134 135 rfl rfl rfl rfl h (fun h => ?_) fun h => ?_
 exact gR 1 rfl <| gJ (h K hK) [0, 1] [0] rfl hK pq2 ⟨⟨_, rfl, rfl, rfl, (vJ _ a).symm⟩, (pqo1 rfl rfl)⟩ rfl
 exact gR 1 rfl <| gJ (h K hK) [0, 1] [0] rfl hK pq3 ⟨⟨_, rfl, rfl, rfl, (vJ _ a).symm⟩, (pqo1 rfl rfl)⟩ rfl
theorem nY (m : Nat) (d : List Int) (r : List UInt8) (p1 : Tree) (k : List Int) (s : List UInt8) (h : ∃ t, p1.leads[0]? = some t ∧ ∃ e v, al d r t [108, 101, 116] e v ∧ ∃ w, p1.leads[1]? = some w ∧ ∃ g x, al e v w p1.text g x ∧ ∃ y, p1.leads[2]? = some y ∧ ∃ i z, al g x y [61] i z ∧ ∃ l, p1.kids[0]? = some l ∧ ∃ b n, ay i z l b n ∧ ∃ o, p1.leads[3]? = some o ∧ ∃ c p, al b n o [105, 110] c p ∧ ∃ q, p1.kids[1]? = some q ∧ ∃ a j, ay c p q a j ∧ a = k ∧ j = s) : kw (m + 1) d r p1 k s := by
 intro K hK
 refine gR 5 rfl ?_
 obtain ⟨t, hxs12_1, h⟩ := h
 refine gY (aI (mapget (f := V.str) hxs12_1) ab rfl rfl rfl rfl) rfl rfl <| gR 1 rfl ?_
 obtain ⟨e, v, hs84, h⟩ := h
 refine gCZ hs84 [0, 1] ⟨⟨_, rfl, ⟨rfl, rfl, (vJ _ d).symm⟩⟩, ⟨⟨_, rfl, ⟨rfl, aC.rfl⟩⟩, trivial⟩⟩ ?_
 refine gHR 3 (List.map (V.int .u8) e) rfl (vJ _ e) rfl <| gR 3 rfl <| gDs [] 8 8 rfl (by kernel_rfl) (by kernel_rfl) <| gDr [(0, 2), (1, 2), (2, 2)] (by kernel_rfl) rfl rfl ?_
 obtain ⟨w, hxs12_4, h⟩ := h
 refine gYd 3 rfl (by kernel_rfl) (aI (mapget (f := V.str) hxs12_4) ab rfl rfl rfl rfl) rfl rfl <| gDr [(4, 2), (5, 0), (6, 0)] (by kernel_rfl) rfl rfl ?_
 obtain ⟨g, x, hs85, h⟩ := h
 refine gDCZ 7 hs85 [0, 3] rfl ⟨⟨_, rfl, ⟨rfl, rfl, (vJ _ e).symm⟩⟩, ⟨⟨_, rfl, ⟨rfl, aC.rfl⟩⟩, trivial⟩⟩ ?_
 refine gHR 5 (List.map (V.int .u8) g) rfl (vJ _ g) rfl <| gDe (by kernel_rfl) <| gR 6 rfl ?_
 obtain ⟨y, hxs12_7, h⟩ := h
 refine gY (aI (mapget (f := V.str) hxs12_7) ab rfl rfl rfl rfl) rfl rfl <| gR 1 rfl ?_
 obtain ⟨i, z, hs86, h⟩ := h
 refine gCZ hs86 [0, 5] ⟨⟨_, rfl, ⟨rfl, rfl, (vJ _ g).symm⟩⟩, ⟨⟨_, rfl, ⟨rfl, aC.rfl⟩⟩, trivial⟩⟩ ?_
 refine gHR 7 (List.map (V.int .u8) i) rfl (vJ _ i) rfl <| gR 7 rfl ?_
 obtain ⟨l, hxt12_10, h⟩ := h
 refine gY (aI (av hxt12_10) ab rfl rfl rfl rfl) rfl rfl <| gR 1 rfl ?_
 obtain ⟨b, n, hs87, h⟩ := h
 refine gCZ hs87 [0, 7] ⟨⟨_, rfl, ⟨rfl, rfl, (vJ _ i).symm⟩⟩, ⟨⟨_, rfl, ⟨rfl, aC.rfl⟩⟩, trivial⟩⟩ ?_
 refine gHR 9 (List.map (V.int .u8) b) rfl (vJ _ b) rfl <| gR 7 rfl ?_
 obtain ⟨o, hxs12_13, h⟩ := h
 refine gY (aI (mapget (f := V.str) hxs12_13) ab rfl rfl rfl rfl) rfl rfl <| gR 1 rfl ?_
 obtain ⟨c, p, hs88, h⟩ := h
 refine gCZ hs88 [0, 9] ⟨⟨_, rfl, ⟨rfl, rfl, (vJ _ b).symm⟩⟩, ⟨⟨_, rfl, ⟨rfl, aC.rfl⟩⟩, trivial⟩⟩ ?_
 refine gHR 11 (List.map (V.int .u8) c) rfl (vJ _ c) rfl <| gR 6 rfl ?_
 obtain ⟨q, hxt12_16, h⟩ := h
 refine gY (aI (av hxt12_16) ab rfl rfl rfl rfl) rfl rfl <| gR 1 rfl ?_
 obtain ⟨a, j, hs89, h⟩ := h
 refine gCZ hs89 [0, 11] ⟨⟨_, rfl, ⟨rfl, rfl, (vJ _ c).symm⟩⟩, ⟨⟨_, rfl, ⟨rfl, aC.rfl⟩⟩, trivial⟩⟩ ?_
 refine gHR 13 (List.map (V.int .u8) a) rfl (vJ _ a) rfl <| gR 2 rfl ?_
 obtain ⟨rfl, rfl⟩ := h
 exact go_sub (F' := (mkF 216 0 [])) (H' := ⟨2, [(1, .row 5 1 (List.map (V.int .u8) a)), (0, vD j)]⟩) [0, 13] [0] rfl hK trivial ⟨⟨_, rfl, rfl, rfl, (vJ _ a).symm⟩, (pqo1 rfl rfl)⟩ rfl <| go_endD [] ab (rs := []) rfl rfl ⟨rfl, rfl⟩
theorem jS (m : Nat) (a : List Int) (c : List UInt8) (p1 : Tree) (b : List Int) (d : List UInt8) (h : ((p1.kind = 21) → kr m a c p1 b d) ∧ ((p1.kind ≠ 21) → gm m a c p1 b d)) : eh (m + 1) a c p1 b d := by
 intro K hK
 refine gR 6 rfl <| qBeZ 174 175 rfl rfl rfl rfl h (fun h => ?_) fun h => ?_
 exact gR 1 rfl <| gJ (h K hK) [0, 1] [0] rfl hK pq2 ⟨⟨_, rfl, rfl, rfl, (vJ _ a).symm⟩, (pqo1 rfl rfl)⟩ rfl
 exact gR 1 rfl <| gJ (h K hK) [0, 1] [0] rfl hK pq3 ⟨⟨_, rfl, rfl, rfl, (vJ _ a).symm⟩, (pqo1 rfl rfl)⟩ rfl
theorem ol (m : Nat) (b : List Int) (i : List UInt8) (p1 : Tree) (e : List Int) (j : List UInt8) (h : ∃ k, p1.kids[0]? = some k ∧ ∃ c l, ay b i k c l ∧ ∃ n, p1.leads[0]? = some n ∧ ∃ d o, al c l n p1.text d o ∧ ∃ p, p1.kids[1]? = some p ∧ ∃ a g, ay d o p a g ∧ a = e ∧ g = j) : kr (m + 1) b i p1 e j := by
 intro K hK
 refine gR 5 rfl ?_
 obtain ⟨k, hxt14_1, h⟩ := h
 refine gY (aI (av hxt14_1) ab rfl rfl rfl rfl) rfl rfl <| gR 1 rfl ?_
 obtain ⟨c, l, hs90, h⟩ := h
 refine gCZ hs90 [0, 1] ⟨⟨_, rfl, ⟨rfl, rfl, (vJ _ b).symm⟩⟩, ⟨⟨_, rfl, ⟨rfl, aC.rfl⟩⟩, trivial⟩⟩ ?_
 refine gHR 3 (List.map (V.int .u8) c) rfl (vJ _ c) rfl <| gR 3 rfl <| gDs [] 8 8 rfl (by kernel_rfl) (by kernel_rfl) <| gDr [(0, 2), (1, 2), (2, 2)] (by kernel_rfl) rfl rfl ?_
 obtain ⟨n, hxs14_4, h⟩ := h
 refine gYd 3 rfl (by kernel_rfl) (aI (mapget (f := V.str) hxs14_4) ab rfl rfl rfl rfl) rfl rfl <| gDr [(4, 2), (5, 0), (6, 0)] (by kernel_rfl) rfl rfl ?_
 obtain ⟨d, o, hs91, h⟩ := h
 refine gDCZ 7 hs91 [0, 3] rfl ⟨⟨_, rfl, ⟨rfl, rfl, (vJ _ c).symm⟩⟩, ⟨⟨_, rfl, ⟨rfl, aC.rfl⟩⟩, trivial⟩⟩ ?_
 refine gHR 5 (List.map (V.int .u8) d) rfl (vJ _ d) rfl <| gDe (by kernel_rfl) <| gR 5 rfl ?_
 obtain ⟨p, hxt14_7, h⟩ := h
 refine gY (aI (av hxt14_7) ab rfl rfl rfl rfl) rfl rfl <| gR 1 rfl ?_
 obtain ⟨a, g, hs92, h⟩ := h
 refine gCZ hs92 [0, 5] ⟨⟨_, rfl, ⟨rfl, rfl, (vJ _ d).symm⟩⟩, ⟨⟨_, rfl, ⟨rfl, aC.rfl⟩⟩, trivial⟩⟩ ?_
 refine gHR 7 (List.map (V.int .u8) a) rfl (vJ _ a) rfl <| gR 2 rfl ?_
 obtain ⟨rfl, rfl⟩ := h
 exact go_sub (F' := (mkF 216 0 [])) (H' := ⟨2, [(1, .row 5 1 (List.map (V.int .u8) a)), (0, vD g)]⟩) [0, 7] [0] rfl hK trivial ⟨⟨_, rfl, rfl, rfl, (vJ _ a).symm⟩, (pqo1 rfl rfl)⟩ rfl <| go_endD [] ab (rs := []) rfl rfl ⟨rfl, rfl⟩
theorem jO (m : Nat) (a : List Int) (d : List UInt8) (p1 : Tree) (c : List Int) (e : List UInt8) (h : ((p1.kind = 22) → kA m a d p1 c e) ∧ ((p1.kind ≠ 22) → ∃ i, p1.leads[0]? = some i ∧ ∃ j, mA p1 j ∧ ∃ b g, al a d i j b g ∧ b = c ∧ g = e)) : gm (m + 1) a d p1 c e := by
 intro K hK
 refine gR 6 rfl <| qBeZ 196 197 rfl rfl rfl rfl h (fun h => ?_) fun h => ?_
 exact gR 1 rfl <| gJ (h K hK) [0, 1] [0] rfl hK pq2 ⟨⟨_, rfl, rfl, rfl, (vJ _ a).symm⟩, (pqo1 rfl rfl)⟩ rfl
 refine gR 1 rfl <| gDs [] 8 8 rfl (by kernel_rfl) (by kernel_rfl) <| gDr [(0, 2), (1, 2), (2, 2)] (by kernel_rfl) rfl rfl ?_
 obtain ⟨i, hxs15_1, h⟩ := h
 refine gYd 3 rfl (by kernel_rfl) (aI (mapget (f := V.str) hxs15_1) ab rfl rfl rfl rfl) rfl rfl <| gDr [(4, 2), (5, 0)] (by kernel_rfl) rfl rfl ?_
 obtain ⟨j, hs93, h⟩ := h
 refine cf 6 hs93 (by kernel_rfl) rfl (by kernel_rfl) rfl rfl .rfl rfl rfl ?_
 obtain ⟨b, g, hs94, h⟩ := h
 refine gDCZ 7 hs94 [0, 1] rfl ⟨⟨_, rfl, ⟨rfl, rfl, (vJ _ a).symm⟩⟩, ⟨⟨_, rfl, ⟨rfl, aC.rfl⟩⟩, trivial⟩⟩ ?_
 refine gHR 3 (List.map (V.int .u8) b) rfl (vJ _ b) rfl <| gDe (by kernel_rfl) <| gR 1 rfl ?_
 obtain ⟨rfl, rfl⟩ := h
 exact go_sub (F' := (mkF 216 0 [])) (H' := ⟨2, [(1, .row 5 1 (List.map (V.int .u8) b)), (0, vD g)]⟩) [0, 3] [0] rfl hK trivial ⟨⟨_, rfl, rfl, rfl, (vJ _ b).symm⟩, (pqo1 rfl rfl)⟩ rfl <| go_endD [] ab (rs := []) rfl rfl ⟨rfl, rfl⟩
theorem ov (m : Nat) (b : List Int) (i : List UInt8) (p1 : Tree) (e : List Int) (j : List UInt8) (h : ∃ k, p1.leads[0]? = some k ∧ ∃ c l, al b i k [40] c l ∧ ∃ n, p1.kids[0]? = some n ∧ ∃ d o, ay c l n d o ∧ ∃ p, p1.leads[1]? = some p ∧ ∃ a g, al d o p [41] a g ∧ a = e ∧ g = j) : kA (m + 1) b i p1 e j := by
 intro K hK
 refine gR 5 rfl ?_
 obtain ⟨k, hxs16_1, h⟩ := h
 refine gY (aI (mapget (f := V.str) hxs16_1) ab rfl rfl rfl rfl) rfl rfl <| gR 1 rfl ?_
 obtain ⟨c, l, hs95, h⟩ := h
 refine gCZ hs95 [0, 1] ⟨⟨_, rfl, ⟨rfl, rfl, (vJ _ b).symm⟩⟩, ⟨⟨_, rfl, ⟨rfl, aC.rfl⟩⟩, trivial⟩⟩ ?_
 refine gHR 3 (List.map (V.int .u8) c) rfl (vJ _ c) rfl <| gR 7 rfl ?_
 obtain ⟨n, hxt16_4, h⟩ := h
 refine gY (aI (av hxt16_4) ab rfl rfl rfl rfl) rfl rfl <| gR 1 rfl ?_
 obtain ⟨d, o, hs96, h⟩ := h
 refine gCZ hs96 [0, 3] ⟨⟨_, rfl, ⟨rfl, rfl, (vJ _ c).symm⟩⟩, ⟨⟨_, rfl, ⟨rfl, aC.rfl⟩⟩, trivial⟩⟩ ?_
 refine gHR 5 (List.map (V.int .u8) d) rfl (vJ _ d) rfl <| gR 6 rfl ?_
 obtain ⟨p, hxs16_7, h⟩ := h
 refine gY (aI (mapget (f := V.str) hxs16_7) ab rfl rfl rfl rfl) rfl rfl <| gR 1 rfl ?_
 obtain ⟨a, g, hs97, h⟩ := h
 refine gCZ hs97 [0, 5] ⟨⟨_, rfl, ⟨rfl, rfl, (vJ _ d).symm⟩⟩, ⟨⟨_, rfl, ⟨rfl, aC.rfl⟩⟩, trivial⟩⟩ ?_
 refine gHR 7 (List.map (V.int .u8) a) rfl (vJ _ a) rfl <| gR 2 rfl ?_
 obtain ⟨rfl, rfl⟩ := h
 exact go_sub (F' := (mkF 216 0 [])) (H' := ⟨2, [(1, .row 5 1 (List.map (V.int .u8) a)), (0, vD g)]⟩) [0, 7] [0] rfl hK trivial ⟨⟨_, rfl, rfl, rfl, (vJ _ a).symm⟩, (pqo1 rfl rfl)⟩ rfl <| go_endD [] ab (rs := []) rfl rfl ⟨rfl, rfl⟩
def iU (m : Nat) (a : List Int) (c : List UInt8) (p1 : Tree) (b : List Int) (d : List UInt8) : Prop := ∀ (K : Ctx), aq K [0] → qLG K Tryz.f85 (fun u G => u = .tup [] ∧ G = ⟨2, [(1, .row 5 1 (List.map (V.int .u8) b)), (0, vD d)]⟩) (xK (xM (ac Tryz.f85))) [.blk 0] 161 (mkF 161 0 [(0, .ptr 0 0), (3, .box (ae p1) 0)]) ⟨2, [(1, .row 5 1 (List.map (V.int .u8) a)), (0, vD c)]⟩
def iT (m : Nat) (a : List Int) (c : List UInt8) (p1 : Tree) (b : List Int) (d : List UInt8) : Prop := ∀ (K : Ctx), aq K [0] → qLG K Tryz.f85 (fun u G => u = .tup [] ∧ G = ⟨2, [(1, .row 5 1 (List.map (V.int .u8) b)), (0, vD d)]⟩) (xB (xM (ac Tryz.f85))) [.blk 0] 161 (mkF 161 0 [(0, .ptr 0 0), (3, .box (ae p1) 0), (8, .int .i64 p1.kind)]) ⟨2, [(1, .row 5 1 (List.map (V.int .u8) a)), (0, vD c)]⟩
def cC (m : Nat) (p1 : Tree) (c : List Int) (d : List UInt8) (e : Nat) (a : List Int) (b : List UInt8) : Prop := ∀ (K : Ctx) (j1 : Nat), aq K [0] → m ≤ j1 → qLG K Tryz.f85 (fun u G => u = .tup [] ∧ G = ⟨2, [(1, .row 5 1 (List.map (V.int .u8) a)), (0, vD b)]⟩) (xI (xK (xM (ac Tryz.f85)))) [.loop (xI (xK (xM (ac Tryz.f85)))) j1, .blk 1, .seq (xH (xK (xM (ac Tryz.f85)))), .blk 0] 161 (mkF 161 0 [(0, .ptr 0 0), (3, .box (ae p1) 0), (26, .row 4 (kidsV p1.kids)), (27, .int .i64 (p1.kids.length : Int)), (28, .int .i64 (e : Int))]) ⟨2, [(1, .row 5 1 (List.map (V.int .u8) c)), (0, vD d)]⟩
def ix (m : Nat) (a : List Int) (c : List UInt8) (p1 : Tree) (b : List Int) (d : List UInt8) : Prop := ∀ (K : Ctx), aq K [0] → qLG K Tryz.f85 (fun u G => u = .tup [] ∧ G = ⟨2, [(1, .row 5 1 (List.map (V.int .u8) b)), (0, vD d)]⟩) (xK (xB (xM (ac Tryz.f85)))) [.blk 0] 161 (mkF 161 0 [(0, .ptr 0 0), (3, .box (ae p1) 0)]) ⟨2, [(1, .row 5 1 (List.map (V.int .u8) a)), (0, vD c)]⟩
def iy (m : Nat) (a : List Int) (c : List UInt8) (p1 : Tree) (b : List Int) (d : List UInt8) : Prop := ∀ (K : Ctx), aq K [0] → qLG K Tryz.f85 (fun u G => u = .tup [] ∧ G = ⟨2, [(1, .row 5 1 (List.map (V.int .u8) b)), (0, vD d)]⟩) (xC (xM (ac Tryz.f85))) [.blk 0] 161 (mkF 161 0 [(0, .ptr 0 0), (3, .box (ae p1) 0), (8, .int .i64 p1.kind)]) ⟨2, [(1, .row 5 1 (List.map (V.int .u8) a)), (0, vD c)]⟩
def iQ (m : Nat) (a : List Int) (c : List UInt8) (p1 : Tree) (b : List Int) (d : List UInt8) : Prop := ∀ (K : Ctx), aq K [0] → qLG K Tryz.f85 (fun u G => u = .tup [] ∧ G = ⟨2, [(1, .row 5 1 (List.map (V.int .u8) b)), (0, vD d)]⟩) (xK (xC (xM (ac Tryz.f85)))) [.blk 0] 161 (mkF 161 0 [(0, .ptr 0 0), (3, .box (ae p1) 0)]) ⟨2, [(1, .row 5 1 (List.map (V.int .u8) a)), (0, vD c)]⟩
def iC (m : Nat) (a : List Int) (c : List UInt8) (p1 : Tree) (b : List Int) (d : List UInt8) : Prop := ∀ (K : Ctx), aq K [0] → qLG K Tryz.f85 (fun u G => u = .tup [] ∧ G = ⟨2, [(1, .row 5 1 (List.map (V.int .u8) b)), (0, vD d)]⟩) (xC (xB (xM (ac Tryz.f85)))) [.blk 0] 161 (mkF 161 0 [(0, .ptr 0 0), (3, .box (ae p1) 0), (8, .int .i64 p1.kind)]) ⟨2, [(1, .row 5 1 (List.map (V.int .u8) a)), (0, vD c)]⟩
def iG (m : Nat) (a : List Int) (c : List UInt8) (p1 : Tree) (b : List Int) (d : List UInt8) : Prop := ∀ (K : Ctx), aq K [0] → qLG K Tryz.f85 (fun u G => u = .tup [] ∧ G = ⟨2, [(1, .row 5 1 (List.map (V.int .u8) b)), (0, vD d)]⟩) (xK (xC (xB (xM (ac Tryz.f85))))) [.blk 0] 161 (mkF 161 0 [(0, .ptr 0 0), (3, .box (ae p1) 0)]) ⟨2, [(1, .row 5 1 (List.map (V.int .u8) a)), (0, vD c)]⟩
theorem dj (m : Nat) (a : List Int) (c : List UInt8) (p1 : Tree) (b : List Int) (d : List UInt8) (h : ((p1.kind = 1) → iU m a c p1 b d) ∧ ((p1.kind ≠ 1) → iT m a c p1 b d)) : eO a c p1 b d := by
 refine am 161 [0] Tryz.func85 rfl rfl rfl (aL rfl) fun K hK => ?_
 refine gR 3 rfl <| gFP 2 rfl rfl rfl rfl <| gR 15 rfl <| qBeZ 9 10 rfl rfl rfl rfl h (fun h => ?_) fun h => ?_
 exact gR 1 rfl <| gJ (h K hK) [0, 1] [0] rfl hK pq2 ⟨⟨_, rfl, rfl, rfl, (vJ _ a).symm⟩, (pqo1 rfl rfl)⟩ rfl
 exact gR 1 rfl <| gJ (h K hK) [0, 1] [0] rfl hK pq3 ⟨⟨_, rfl, rfl, rfl, (vJ _ a).symm⟩, (pqo1 rfl rfl)⟩ rfl
theorem mP (m : Nat) (a : List Int) (e : List UInt8) (p1 : Tree) (b : List Int) (g : List UInt8) (h : ∃ i, p1.leads[0]? = some i ∧ ∃ c j, al a e i [109, 111, 100, 117, 108, 101] c j ∧ ∃ k, p1.leads[1]? = some k ∧ ∃ d l, al c j k p1.text d l ∧ cC m p1 d l 0 b g) : iU (m + 1) a e p1 b g := by
 intro K hK
 refine gR 5 rfl ?_
 obtain ⟨i, hxs1_1, h⟩ := h
 refine gY (aI (mapget (f := V.str) hxs1_1) ab rfl rfl rfl rfl) rfl rfl <| gR 1 rfl ?_
 obtain ⟨c, j, hs45, h⟩ := h
 refine gCZ hs45 [0, 1] ⟨⟨_, rfl, ⟨rfl, rfl, (vJ _ a).symm⟩⟩, ⟨⟨_, rfl, ⟨rfl, aC.rfl⟩⟩, trivial⟩⟩ ?_
 refine gHR 3 (List.map (V.int .u8) c) rfl (vJ _ c) rfl <| gR 3 rfl <| gDs [] 8 8 rfl (by kernel_rfl) (by kernel_rfl) <| gDr [(0, 2), (1, 2), (2, 2)] (by kernel_rfl) rfl rfl ?_
 obtain ⟨k, hxs1_4, h⟩ := h
 refine gYd 3 rfl (by kernel_rfl) (aI (mapget (f := V.str) hxs1_4) ab rfl rfl rfl rfl) rfl rfl <| gDr [(4, 2), (5, 0), (6, 0)] (by kernel_rfl) rfl rfl ?_
 obtain ⟨d, l, hs46, h⟩ := h
 refine gDCZ 7 hs46 [0, 3] rfl ⟨⟨_, rfl, ⟨rfl, rfl, (vJ _ c).symm⟩⟩, ⟨⟨_, rfl, ⟨rfl, aC.rfl⟩⟩, trivial⟩⟩ ?_
 exact gHR 5 (List.map (V.int .u8) d) rfl (vJ _ d) rfl <| gDe (by kernel_rfl) <| gR 7 rfl <| gV 27 (.int .i64 (p1.kids.length : Int)) rfl (bF (aE _)) rfl <| gLB 26 rfl (aE _) fun hl47 => gR 4 rfl <| go_loop m <| gJ (h K _ hK (by omega)) [0, 5] [0] rfl hK pq5 ⟨⟨_, rfl, rfl, rfl, (vJ _ d).symm⟩, (pqo1 rfl rfl)⟩ rfl
theorem ee (m : Nat) (a : List Int) (c : List UInt8) (p1 : Tree) (b : List Int) (d : List UInt8) (h : ((p1.kind = 2) → ix m a c p1 b d) ∧ ((p1.kind ≠ 2) → iy m a c p1 b d)) : iT (m + 1) a c p1 b d := by
 intro K hK
 refine gR 6 rfl <| qBeZ 44 45 rfl rfl rfl rfl h (fun h => ?_) fun h => ?_
 exact gR 1 rfl <| gJ (h K hK) [0, 1] [0] rfl hK pq2 ⟨⟨_, rfl, rfl, rfl, (vJ _ a).symm⟩, (pqo1 rfl rfl)⟩ rfl
 exact gR 1 rfl <| gJ (h K hK) [0, 1] [0] rfl hK pq3 ⟨⟨_, rfl, rfl, rfl, (vJ _ a).symm⟩, (pqo1 rfl rfl)⟩ rfl
theorem ig (m : Nat) (p1 : Tree) (g : List Int) (k : List UInt8) (b : Nat) (a : List Int) (c : List UInt8) (h : ((b < p1.kids.length) → ∃ l, p1.kids[b]? = some l ∧ ∃ e n, ay g k l e n ∧ b + 1 ≤ 9223372036854775807 ∧ cC m p1 e n (b + 1) a c) ∧ ((¬ b < p1.kids.length) → ∃ o, p1.leads[2]? = some o ∧ ∃ p q d i, dc g k o p q d i ∧ d = a ∧ i = c)) : cC (m + 1) p1 g k b a c := by
 intro K j1 hK hj1
 obtain ⟨j1, rfl⟩ : ∃ j, j1 = j + 1 := ⟨j1 - 1, by omega⟩
 refine gR 6 rfl <| gB 29 rfl rfl rfl ?_ ?_ <;> intro hd
 replace hd := (fh hd)
 replace h := h.1 hd
 refine gR 7 rfl ?_
 obtain ⟨l, hxt3_1, h⟩ := h
 refine gY (aI (av hxt3_1) ab rfl rfl rfl rfl) rfl rfl <| gR 8 rfl ?_
 obtain ⟨e, n, hs48, h⟩ := h
 refine gCZ hs48 [0, 1] ⟨⟨_, rfl, ⟨rfl, rfl, (vJ _ g).symm⟩⟩, ⟨⟨_, rfl, ⟨rfl, aC.rfl⟩⟩, trivial⟩⟩ ?_
 refine gHR 4 (List.map (V.int .u8) e) rfl (vJ _ e) rfl <| gR 4 rfl ?_
 obtain ⟨hb, h⟩ := h
 exact gR 1 rfl <| gV 35 (.int .i64 ((b + 1 : Nat) : Int)) rfl (ax (by omega) (by omega)) rfl <| gR 2 rfl <| go_xloop <| gJ (h K _ hK (by omega)) [0, 4] [0] rfl hK pq5 ⟨⟨_, rfl, rfl, rfl, (vJ _ e).symm⟩, (pqo1 rfl rfl)⟩ rfl
 replace hd := (fo hd)
 replace h := h.2 hd
 refine gR 3 rfl <| go_xloopE <| gR 2 rfl <| gDs [] 8 8 rfl (by kernel_rfl) (by kernel_rfl) <| gDr [(0, 2), (1, 2), (2, 2), (3, 0), (4, 0)] (by kernel_rfl) rfl rfl ?_
 obtain ⟨o, hxs3_4, h⟩ := h
 refine bi 5 rfl (by kernel_rfl) (aI (mapget (f := V.str) hxs3_4) ab rfl rfl rfl rfl) rfl rfl ?_
 refine gDr [(6, 0)] (by kernel_rfl) rfl rfl ?_
 obtain ⟨p, q, d, i, hs49, h⟩ := h
 refine gDCZ 7 hs49 [0, 1] rfl ⟨⟨_, rfl, ⟨rfl, rfl, (vJ _ g).symm⟩⟩, ⟨⟨_, rfl, ⟨rfl, aC.rfl⟩⟩, trivial⟩⟩ ?_
 refine gHR 3 (List.map (V.int .u8) d) rfl (vJ _ d) rfl <| gDe (by kernel_rfl) <| gR 1 rfl ?_
 obtain ⟨rfl, rfl⟩ := h
 exact go_sub (F' := (mkF 161 0 [])) (H' := ⟨2, [(1, .row 5 1 (List.map (V.int .u8) d)), (0, vD i)]⟩) [0, 3] [0] rfl hK trivial ⟨⟨_, rfl, rfl, rfl, (vJ _ d).symm⟩, (pqo1 rfl rfl)⟩ rfl <| go_endD [] ab (rs := []) rfl rfl ⟨rfl, rfl⟩
theorem mM (m : Nat) (c : List Int) (t : List UInt8) (p1 : Tree) (k : List Int) (v : List UInt8) (h : ∃ ζ, p1.leads[0]? = some ζ ∧ ∃ l η, al c t ζ [100, 101, 102] l η ∧ ∃ θ, p1.leads[1]? = some θ ∧ ∃ n ι, al l η θ p1.text n ι ∧ ∃ κ, p1.leads[2]? = some κ ∧ ∃ o μ, al n ι κ [40] o μ ∧ ∃ j, ((p1.kids.length : Int) - 2) = ((j : Nat) : Int) ∧ j ≤ p1.kids.length ∧ ∃ d w, S_syntax_printer_list o μ p1 (p1.kids.take j) 6 d w ∧ ∃ x, p1.leads[3]? = some x ∧ ∃ e y, al d w x [41] e y ∧ ∃ z, p1.leads[4]? = some z ∧ ∃ a p, al e y z [58] a p ∧ ∃ q, ((p1.kids.length : Int) - 2) = ((q : Nat) : Int) ∧ ∃ α, p1.kids[q]? = some α ∧ ∃ g β, ay a p α g β ∧ ∃ γ, p1.leads[5]? = some γ ∧ ∃ i δ, al g β γ [61] i δ ∧ ∃ r, ((p1.kids.length : Int) - 1) = ((r : Nat) : Int) ∧ ∃ ε, p1.kids[r]? = some ε ∧ ∃ b s, ay i δ ε b s ∧ b = k ∧ s = v) : ix (m + 1) c t p1 k v := by
 intro K hK
 refine gR 5 rfl <| gV 48 (.int .i64 (p1.kids.length : Int)) rfl (bF (aE _)) rfl <| gLB 47 rfl (aE _) fun hl50 => gR 8 rfl ?_
 obtain ⟨ζ, hxs4_1, h⟩ := h
 refine gY (aI (mapget (f := V.str) hxs4_1) ab rfl rfl rfl rfl) rfl rfl <| gR 1 rfl ?_
 obtain ⟨l, η, hs51, h⟩ := h
 refine gCZ hs51 [0, 1] ⟨⟨_, rfl, ⟨rfl, rfl, (vJ _ c).symm⟩⟩, ⟨⟨_, rfl, ⟨rfl, aC.rfl⟩⟩, trivial⟩⟩ ?_
 refine gHR 3 (List.map (V.int .u8) l) rfl (vJ _ l) rfl <| gR 3 rfl <| gDs [] 8 8 rfl (by kernel_rfl) (by kernel_rfl) <| gDr [(0, 2), (1, 2), (2, 2)] (by kernel_rfl) rfl rfl ?_
 obtain ⟨θ, hxs4_4, h⟩ := h
 refine gYd 3 rfl (by kernel_rfl) (aI (mapget (f := V.str) hxs4_4) ab rfl rfl rfl rfl) rfl rfl <| gDr [(4, 2), (5, 0), (6, 0)] (by kernel_rfl) rfl rfl ?_
 obtain ⟨n, ι, hs52, h⟩ := h
 refine gDCZ 7 hs52 [0, 3] rfl ⟨⟨_, rfl, ⟨rfl, rfl, (vJ _ l).symm⟩⟩, ⟨⟨_, rfl, ⟨rfl, aC.rfl⟩⟩, trivial⟩⟩ ?_
 refine gHR 5 (List.map (V.int .u8) n) rfl (vJ _ n) rfl <| gDe (by kernel_rfl) <| gR 6 rfl ?_
 obtain ⟨κ, hxs4_7, h⟩ := h
 refine gY (aI (mapget (f := V.str) hxs4_7) ab rfl rfl rfl rfl) rfl rfl <| gR 1 rfl ?_
 obtain ⟨o, μ, hs53, h⟩ := h
 refine gCZ hs53 [0, 5] ⟨⟨_, rfl, ⟨rfl, rfl, (vJ _ n).symm⟩⟩, ⟨⟨_, rfl, ⟨rfl, aC.rfl⟩⟩, trivial⟩⟩ ?_
 refine gHR 7 (List.map (V.int .u8) o) rfl (vJ _ o) rfl <| gR 3 rfl <| gDs [] 8 8 rfl (by kernel_rfl) (by kernel_rfl) <| gDr [(0, 2), (1, 2), (2, 2), (3, 2), (4, 0), (5, 0)] (by kernel_rfl) rfl rfl <| gV 74 (.int .i64 ((p1.kids.length : Int) - 2)) rfl (ax (by have := hl50; omega) rfl) rfl ?_
 obtain ⟨j, ν, h⟩ := h
 refine gV 74 (.int .i64 ((j : Nat) : Int)) rfl (je ν) rfl ?_
 obtain ⟨hb', h⟩ := h
 refine bi 6 rfl (by kernel_rfl) (DG (aE p1.kids) ab rfl rfl CY (um rfl) (Nat.zero_le _) hb' (((Fy _ _ _).trans (congrArg _ (AU _ _))))) rfl rfl ?_
 obtain ⟨d, w, hs54, h⟩ := h
 refine gDCZ 7 hs54 [0, 7] rfl ⟨⟨_, rfl, ⟨rfl, rfl, (vJ _ o).symm⟩⟩, ⟨⟨_, rfl, ⟨rfl, aC.rfl⟩⟩, trivial⟩⟩ ?_
 refine gHR 9 (List.map (V.int .u8) d) rfl (vJ _ d) rfl <| gDe (by kernel_rfl) <| gR 6 rfl ?_
 obtain ⟨x, hxs4_13, h⟩ := h
 refine gY (aI (mapget (f := V.str) hxs4_13) ab rfl rfl rfl rfl) rfl rfl <| gR 1 rfl ?_
 obtain ⟨e, y, hs55, h⟩ := h
 refine gCZ hs55 [0, 9] ⟨⟨_, rfl, ⟨rfl, rfl, (vJ _ d).symm⟩⟩, ⟨⟨_, rfl, ⟨rfl, aC.rfl⟩⟩, trivial⟩⟩ ?_
 refine gHR 11 (List.map (V.int .u8) e) rfl (vJ _ e) rfl <| gR 7 rfl ?_
 obtain ⟨z, hxs4_16, h⟩ := h
 refine gY (aI (mapget (f := V.str) hxs4_16) ab rfl rfl rfl rfl) rfl rfl <| gR 1 rfl ?_
 obtain ⟨a, p, hs56, h⟩ := h
 refine gCZ hs56 [0, 11] ⟨⟨_, rfl, ⟨rfl, rfl, (vJ _ e).symm⟩⟩, ⟨⟨_, rfl, ⟨rfl, aC.rfl⟩⟩, trivial⟩⟩ ?_
 refine gHR 13 (List.map (V.int .u8) a) rfl (vJ _ a) rfl <| gR 2 rfl <| go_sub (F' := (mkF 161 0 [(0, .ptr 0 0), (3, .box (ae p1) 0), (6, .int .i64 (p1.kids.length : Int))])) (H' := ⟨2, [(1, .row 5 1 (List.map (V.int .u8) a)), (0, vD p)]⟩) [0, 13] [0] rfl hK pq3 ⟨⟨_, rfl, rfl, rfl, (vJ _ a).symm⟩, (pqo1 rfl rfl)⟩ rfl <| gR 7 rfl <| gV 93 (.int .i64 ((p1.kids.length : Int) - 2)) rfl (ax (by have := hl50; omega) rfl) rfl ?_
 obtain ⟨q, ξ, h⟩ := h
 refine gV 93 (.int .i64 ((q : Nat) : Int)) rfl (je ξ) rfl ?_
 obtain ⟨α, hxt4_20, h⟩ := h
 refine gY (aI (av hxt4_20) ab rfl rfl rfl rfl) rfl rfl <| gR 1 rfl ?_
 obtain ⟨g, β, hs57, h⟩ := h
 refine gCZ hs57 [0, 1] ⟨⟨_, rfl, ⟨rfl, rfl, (vJ _ a).symm⟩⟩, ⟨⟨_, rfl, ⟨rfl, aC.rfl⟩⟩, trivial⟩⟩ ?_
 refine gHR 3 (List.map (V.int .u8) g) rfl (vJ _ g) rfl <| gR 7 rfl ?_
 obtain ⟨γ, hxs4_23, h⟩ := h
 refine gY (aI (mapget (f := V.str) hxs4_23) ab rfl rfl rfl rfl) rfl rfl <| gR 1 rfl ?_
 obtain ⟨i, δ, hs58, h⟩ := h
 refine gCZ hs58 [0, 3] ⟨⟨_, rfl, ⟨rfl, rfl, (vJ _ g).symm⟩⟩, ⟨⟨_, rfl, ⟨rfl, aC.rfl⟩⟩, trivial⟩⟩ ?_
 refine gHR 5 (List.map (V.int .u8) i) rfl (vJ _ i) rfl <| gR 8 rfl <| gV 107 (.int .i64 ((p1.kids.length : Int) - 1)) rfl (ax (by have := hl50; omega) rfl) rfl ?_
 obtain ⟨r, ο, h⟩ := h
 refine gV 107 (.int .i64 ((r : Nat) : Int)) rfl (je ο) rfl ?_
 obtain ⟨ε, hxt4_27, h⟩ := h
 refine gY (aI (av hxt4_27) ab rfl rfl rfl rfl) rfl rfl <| gR 1 rfl ?_
 obtain ⟨b, s, hs59, h⟩ := h
 refine gCZ hs59 [0, 5] ⟨⟨_, rfl, ⟨rfl, rfl, (vJ _ i).symm⟩⟩, ⟨⟨_, rfl, ⟨rfl, aC.rfl⟩⟩, trivial⟩⟩ ?_
 refine gHR 7 (List.map (V.int .u8) b) rfl (vJ _ b) rfl <| gR 2 rfl ?_
 obtain ⟨rfl, rfl⟩ := h
 exact go_sub (F' := (mkF 161 0 [])) (H' := ⟨2, [(1, .row 5 1 (List.map (V.int .u8) b)), (0, vD s)]⟩) [0, 7] [0] rfl hK trivial ⟨⟨_, rfl, rfl, rfl, (vJ _ b).symm⟩, (pqo1 rfl rfl)⟩ rfl <| go_endD [] ab (rs := []) rfl rfl ⟨rfl, rfl⟩
theorem ie (m : Nat) (a : List Int) (c : List UInt8) (p1 : Tree) (b : List Int) (d : List UInt8) (h : ((p1.kind = 3) → iQ m a c p1 b d) ∧ ((p1.kind ≠ 3) → iC m a c p1 b d)) : iy (m + 1) a c p1 b d := by
 intro K hK
 refine gR 6 rfl <| qBeZ 111 112 rfl rfl rfl rfl h (fun h => ?_) fun h => ?_
 exact gR 1 rfl <| gJ (h K hK) [0, 1] [0] rfl hK pq2 ⟨⟨_, rfl, rfl, rfl, (vJ _ a).symm⟩, (pqo1 rfl rfl)⟩ rfl
 exact gR 1 rfl <| gJ (h K hK) [0, 1] [0] rfl hK pq3 ⟨⟨_, rfl, rfl, rfl, (vJ _ a).symm⟩, (pqo1 rfl rfl)⟩ rfl
theorem mN (m : Nat) (b : List Int) (j : List UInt8) (p1 : Tree) (c : List Int) (k : List UInt8) (h : ∃ n, p1.leads[0]? = some n ∧ ∃ d o, al b j n [116, 121, 112, 101] d o ∧ ∃ p, p1.leads[1]? = some p ∧ ∃ e q, al d o p p1.text e q ∧ ∃ r, p1.leads[2]? = some r ∧ ∃ g s, al e q r [61] g s ∧ ∃ l, p1.kids[0]? = some l ∧ ∃ a i, ay g s l a i ∧ a = c ∧ i = k) : iQ (m + 1) b j p1 c k := by
 intro K hK
 refine gR 5 rfl ?_
 obtain ⟨n, hxs6_1, h⟩ := h
 refine gY (aI (mapget (f := V.str) hxs6_1) ab rfl rfl rfl rfl) rfl rfl <| gR 1 rfl ?_
 obtain ⟨d, o, hs60, h⟩ := h
 refine gCZ hs60 [0, 1] ⟨⟨_, rfl, ⟨rfl, rfl, (vJ _ b).symm⟩⟩, ⟨⟨_, rfl, ⟨rfl, aC.rfl⟩⟩, trivial⟩⟩ ?_
 refine gHR 3 (List.map (V.int .u8) d) rfl (vJ _ d) rfl <| gR 3 rfl <| gDs [] 8 8 rfl (by kernel_rfl) (by kernel_rfl) <| gDr [(0, 2), (1, 2), (2, 2)] (by kernel_rfl) rfl rfl ?_
 obtain ⟨p, hxs6_4, h⟩ := h
 refine gYd 3 rfl (by kernel_rfl) (aI (mapget (f := V.str) hxs6_4) ab rfl rfl rfl rfl) rfl rfl <| gDr [(4, 2), (5, 0), (6, 0)] (by kernel_rfl) rfl rfl ?_
 obtain ⟨e, q, hs61, h⟩ := h
 refine gDCZ 7 hs61 [0, 3] rfl ⟨⟨_, rfl, ⟨rfl, rfl, (vJ _ d).symm⟩⟩, ⟨⟨_, rfl, ⟨rfl, aC.rfl⟩⟩, trivial⟩⟩ ?_
 refine gHR 5 (List.map (V.int .u8) e) rfl (vJ _ e) rfl <| gDe (by kernel_rfl) <| gR 6 rfl ?_
 obtain ⟨r, hxs6_7, h⟩ := h
 refine gY (aI (mapget (f := V.str) hxs6_7) ab rfl rfl rfl rfl) rfl rfl <| gR 1 rfl ?_
 obtain ⟨g, s, hs62, h⟩ := h
 refine gCZ hs62 [0, 5] ⟨⟨_, rfl, ⟨rfl, rfl, (vJ _ e).symm⟩⟩, ⟨⟨_, rfl, ⟨rfl, aC.rfl⟩⟩, trivial⟩⟩ ?_
 refine gHR 7 (List.map (V.int .u8) g) rfl (vJ _ g) rfl <| gR 6 rfl ?_
 obtain ⟨l, hxt6_10, h⟩ := h
 refine gY (aI (av hxt6_10) ab rfl rfl rfl rfl) rfl rfl <| gR 1 rfl ?_
 obtain ⟨a, i, hs63, h⟩ := h
 refine gCZ hs63 [0, 7] ⟨⟨_, rfl, ⟨rfl, rfl, (vJ _ g).symm⟩⟩, ⟨⟨_, rfl, ⟨rfl, aC.rfl⟩⟩, trivial⟩⟩ ?_
 refine gHR 9 (List.map (V.int .u8) a) rfl (vJ _ a) rfl <| gR 2 rfl ?_
 obtain ⟨rfl, rfl⟩ := h
 exact go_sub (F' := (mkF 161 0 [])) (H' := ⟨2, [(1, .row 5 1 (List.map (V.int .u8) a)), (0, vD i)]⟩) [0, 9] [0] rfl hK trivial ⟨⟨_, rfl, rfl, rfl, (vJ _ a).symm⟩, (pqo1 rfl rfl)⟩ rfl <| go_endD [] ab (rs := []) rfl rfl ⟨rfl, rfl⟩
theorem mO (m : Nat) (a : List Int) (b : List UInt8) (p1 : Tree) (c : List Int) (d : List UInt8) (h : ((p1.kind = 4) → iG m a b p1 c d) ∧ ((p1.kind ≠ 4) → a = c ∧ b = d)) : iC (m + 1) a b p1 c d := by
 intro K hK
 refine gR 6 rfl <| qBeZ 139 140 rfl rfl rfl rfl h (fun h => ?_) fun h => ?_
 exact gR 1 rfl <| gJ (h K hK) [0, 1] [0] rfl hK pq2 ⟨⟨_, rfl, rfl, rfl, (vJ _ a).symm⟩, (pqo1 rfl rfl)⟩ rfl
 refine gR 3 rfl ?_
 obtain ⟨rfl, rfl⟩ := h
 exact go_sub (F' := (mkF 161 0 [])) (H' := ⟨2, [(1, .row 5 1 (List.map (V.int .u8) a)), (0, vD b)]⟩) [0, 1] [0] rfl hK trivial ⟨⟨_, rfl, rfl, rfl, (vJ _ a).symm⟩, (pqo1 rfl rfl)⟩ rfl <| go_endD [] ab (rs := []) rfl rfl ⟨rfl, rfl⟩
theorem mL (m : Nat) (a : List Int) (g : List UInt8) (p1 : Tree) (c : List Int) (i : List UInt8) (h : ∃ k, p1.leads[0]? = some k ∧ ∃ d l, al a g k p1.text d l ∧ ∃ n, p1.leads[1]? = some n ∧ ∃ e o, al d l n [58] e o ∧ ∃ p, p1.kids[0]? = some p ∧ ∃ b j, ay e o p b j ∧ b = c ∧ j = i) : iG (m + 1) a g p1 c i := by
 intro K hK
 refine gR 1 rfl <| gDs [] 8 8 rfl (by kernel_rfl) (by kernel_rfl) <| gDr [(0, 2), (1, 2), (2, 2)] (by kernel_rfl) rfl rfl ?_
 obtain ⟨k, hxs8_1, h⟩ := h
 refine gYd 3 rfl (by kernel_rfl) (aI (mapget (f := V.str) hxs8_1) ab rfl rfl rfl rfl) rfl rfl <| gDr [(4, 2), (5, 0), (6, 0)] (by kernel_rfl) rfl rfl ?_
 obtain ⟨d, l, hs64, h⟩ := h
 refine gDCZ 7 hs64 [0, 1] rfl ⟨⟨_, rfl, ⟨rfl, rfl, (vJ _ a).symm⟩⟩, ⟨⟨_, rfl, ⟨rfl, aC.rfl⟩⟩, trivial⟩⟩ ?_
 refine gHR 3 (List.map (V.int .u8) d) rfl (vJ _ d) rfl <| gDe (by kernel_rfl) <| gR 6 rfl ?_
 obtain ⟨n, hxs8_4, h⟩ := h
 refine gY (aI (mapget (f := V.str) hxs8_4) ab rfl rfl rfl rfl) rfl rfl <| gR 1 rfl ?_
 obtain ⟨e, o, hs65, h⟩ := h
 refine gCZ hs65 [0, 3] ⟨⟨_, rfl, ⟨rfl, rfl, (vJ _ d).symm⟩⟩, ⟨⟨_, rfl, ⟨rfl, aC.rfl⟩⟩, trivial⟩⟩ ?_
 refine gHR 5 (List.map (V.int .u8) e) rfl (vJ _ e) rfl <| gR 6 rfl ?_
 obtain ⟨p, hxt8_7, h⟩ := h
 refine gY (aI (av hxt8_7) ab rfl rfl rfl rfl) rfl rfl <| gR 1 rfl ?_
 obtain ⟨b, j, hs66, h⟩ := h
 refine gCZ hs66 [0, 5] ⟨⟨_, rfl, ⟨rfl, rfl, (vJ _ e).symm⟩⟩, ⟨⟨_, rfl, ⟨rfl, aC.rfl⟩⟩, trivial⟩⟩ ?_
 refine gHR 7 (List.map (V.int .u8) b) rfl (vJ _ b) rfl <| gR 2 rfl ?_
 obtain ⟨rfl, rfl⟩ := h
 exact go_sub (F' := (mkF 161 0 [])) (H' := ⟨2, [(1, .row 5 1 (List.map (V.int .u8) b)), (0, vD j)]⟩) [0, 7] [0] rfl hK trivial ⟨⟨_, rfl, rfl, rfl, (vJ _ b).symm⟩, (pqo1 rfl rfl)⟩ rfl <| go_endD [] ab (rs := []) rfl rfl ⟨rfl, rfl⟩
theorem pH (m : Nat) (p0 : Tree) (r0 : List UInt8) (h : ∃ a b, ay ([] : List Int) [] p0 a b ∧ ∃ c, jZ a b c ∧ c = r0) : nE p0 r0 := by
 refine ⟨rfl, rfl, ?_⟩
 refine am 8 [] Tryz.func29 rfl rfl rfl (aL rfl) fun K hK => ?_
 refine gR 3 rfl <| gFP 0 rfl rfl rfl rfl <| gR 11 rfl <| gNC 1 1 5 1 rfl rfl rfl rfl ?_
 obtain ⟨a, b, hs3, h⟩ := h
 refine gCZ hs3 [1, 2] ⟨⟨_, rfl, ⟨rfl, rfl, rfl⟩⟩, ⟨⟨_, rfl, ⟨rfl, (.cons (.np0 _) (.cons .rfl (.cons .rfl .nil)))⟩⟩, trivial⟩⟩ ?_
 refine gHR 4 (List.map (V.int .u8) a) rfl (vJ _ a) rfl <| gR 5 rfl ?_
 obtain ⟨c, hs4, h⟩ := h
 refine gCZ hs4 [1, 4] ⟨⟨_, rfl, ⟨rfl, rfl, (vJ _ a).symm⟩⟩, ⟨⟨_, rfl, ⟨rfl, aC.rfl⟩⟩, trivial⟩⟩ ?_
 refine gR 4 rfl ?_
 subst h
 exact go_end ab (rs := [.tmp 2]) rfl rfl rfl
theorem zD : (Tryz.prog.info? 77).map (·.size) = some 2 := by kernel_rfl
theorem Bv : (Tryz.prog.info? 5).map (fun i => (i.zero, i.size, i.bytes)) = some (some (.int .u8 0), 1, 1) := by kernel_rfl
theorem zU : Tryz.prog.cellsOf 5 = 1 := by kernel_rfl
theorem Dg : liesAt Tryz.prog Tryz.prog.depth 79 (3 / Tryz.prog.cellsOf 79) 0 77 1 = true := by kernel_rfl
abbrev PrB (b : Nat) (p v : Value) (last : List UInt8) (w : World) : Prop := w.heap[b]? = some (.cells #[p, v, .string ⟨last.toArray⟩] 79 (0, 0))
abbrev Buf (v : Value) (l : List UInt8) (w : World) : Prop := w.ownsRow 0 5 1 v l.length (Lib.byteCells l)
theorem sT {w : World} {b : Nat} {o : Obj} (h : w.heap[b]? = some o) : b < w.heap.size := by
 rcases Nat.lt_or_ge b w.heap.size with h' | h'
 ·exact h'
 ·simp [Array.getElem?_eq_none h'] at h
set_option maxHeartbeats 1000000 in
theorem uq (b : Nat) (w : World) (h0 : w.cell? ⟨b, 0, none⟩ = some (.pointer (some ⟨b, 0, none⟩))) :
  Calls Tryz.prog 125 #[.pointer (some ⟨b, 0, none⟩)] w fun e w' => e = .returned (.tuple #[]) ∧ w = w' := by
 obtain ⟨j, hj, _⟩ := Option.map_eq_some_iff.1 zD
 go_enter Tryz.func125, Tryz.ntmps125
 go_wp2
 rw [Lib.run_neq_ptr_same w _ Tryz.underlying74 hj]
 go_wp2
 go_end0
 exact ⟨rfl, rfl⟩
set_option maxHeartbeats 1000000 in
theorem tp (b : Nat) (w : World) (h0 : w.cell? ⟨b, 0, none⟩ = some (.pointer none)) (hsh : w.shape? b = some (79, 3)) (hfz : w.frozen? ⟨b, 0, none⟩ = false) :
  Calls Tryz.prog 125 #[.pointer (some ⟨b, 0, none⟩)] w fun e w' => e = .returned (.tuple #[]) ∧ w' = w.setCell ⟨b, 0, none⟩ (.pointer (some ⟨b, 0, none⟩)) := by
 obtain ⟨j, hj, hjs⟩ := Option.map_eq_some_iff.1 zD
 go_enter Tryz.func125, Tryz.ntmps125
 go_wp2
 rw [Lib.run_to_unsafe w ⟨b, 0, none⟩ Tryz.underlying74 Tryz.underlying118 hj (by rw [hjs]; decide) hsh (Nat.succ_pos _)]
 simp only [Result.andThen]
 rw [Oper.upon_value]
 go_wp2
 rw [run_callFunc_extern Tryz.func130 (by kernel_rfl) (by kernel_rfl) (by kernel_rfl) (e := Extern.AbiNoEscape.same) (by kernel_rfl)]
 rw [Lib.run_noEscape]
 simp only [Result.andThen]
 rw [Oper.upon_value]
 go_wp2
 rw [Lib.run_from_unsafe w ⟨b, 0, none⟩ Tryz.underlying118 Tryz.underlying74 hj hsh Dg]
 simp only [Result.andThen]
 rw [Oper.upon_value]
 go_wp2
 go_end0
 exact ⟨rfl, rfl⟩
theorem zE (w : World) (b i : Nat) (u : Value) : ChgP (· = b) w (w.setCell ⟨b, i, none⟩ u) := ⟨rfl, rfl, rfl, by simp [World.setCell], fun k _ hk => Below.heap_setCell _ _ _ _ hk⟩
theorem Ac {w : World} {b i : Nat} {u v : Value} {l : List UInt8} (h : Buf v l w) (hne : v.ownBlock ≠ some b) : Buf v l (w.setCell ⟨b, i, none⟩ u) :=
 h.kept (row := some b) ⟨rfl, rfl, rfl, by simp [World.setCell], fun k _ hk => Below.heap_setCell _ _ _ _ (fun e => hk (by simp [e]))⟩ (Or.inr hne)
theorem yn {b : Nat} {p v : Value} {last l : List UInt8} {w : World} (hp : p = .pointer none ∨ p = .pointer (some ⟨b, 0, none⟩)) (hbk : PrB b p v last w) (hown : Buf v l w) :
  Calls Tryz.prog 125 #[.pointer (some ⟨b, 0, none⟩)] w fun e w' => e = .returned (.tuple #[]) ∧ PrB b (.pointer (some ⟨b, 0, none⟩)) v last w' ∧ Buf v l w' ∧ ChgP (· = b) w w' := by
 have hc0 : w.cell? ⟨b, 0, none⟩ = some p := by rw [Lib.cell_of_heap hbk]; rfl
 have hne : v.ownBlock ≠ some b := Lib.ownBlock_ne hown hbk (by decide)
 rcases hp with rfl | rfl
 ·refine (tp b w hc0 (by simp [World.shape?, hbk]) (Lib.frozen_of_heap hbk 0)).mono ?_
  rintro e w' ⟨rfl, rfl⟩
  exact ⟨rfl, by simp [PrB, World.setCell, Array.getElem?_modify, hbk], Ac hown hne, zE _ _ _ _⟩
 ·refine (uq b w hc0).mono ?_
  rintro e w' ⟨rfl, rfl⟩
  exact ⟨rfl, hbk, hown, ChgP.refl _ _⟩
section
open Go.Lib
variable {P : Program}
theorem yp (w : World) (t u ty e : TypeId) (i : TypeInfo) (ht : P.underlying t = some (.slice e)) (hu : P.underlying u = some .string) (hi : P.info? e = some i) (hz : i.zero = some (.int .u8 0)) (hsize : i.size = 1) (hby : i.bytes = 1)
  (v : Value) (n : Nat) (xs : List Value) (hown : w.ownsRow 0 e 1 v n xs) (s : ByteArray) (h63 : n + s.size ≤ maxLen) (hbytes : n + s.size ≤ 140737488355328) :
  ∃ v' w', (Builtin.append_ #[t, u] ty #[v, .string s]).run P w = .ok v' w' ∧ w'.ownsRow 0 e 1 v' (n + s.size) (xs ++ strCells s) ∧ w.grownBy w' v.ownBlock ∧ ∀ g, v'.ownBlock = some g → v.ownBlock = some g ∨ w.heap.size ≤ g := by
 obtain ⟨v', w', hr, h2, h3, h4⟩ := run_append_own_string (P := P) w 0 t u ty e i ht hu hi hz hsize hby v n xs hown s h63 hbytes (Nat.zero_le _)
 refine ⟨v', w', hr, h2, h3, fun g hg => ?_⟩
 have hxl : xs.length = n := by simpa using hown.1
 rcases hown.2 with ⟨rfl, rfl⟩ | ⟨g0, cap, cur, rfl, hbg, hgh, hnc, hcm, hcs, htake⟩
 ·by_cases hm : s.size = 0
  ·have := h4.2 ⟨rfl, hm⟩
   subst this; cases hg
  ·rw [run_append_nil_string (P := P) w t u ty e i (.int .u8 0) ht hu hi hz s (by omega) (by omega) (by rw [hby]; omega)] at hr
   cases hr; cases hg; exact .inr (Nat.le_refl _)
 ·by_cases hroom : n + s.size ≤ cap
  ·rw [run_append_room_string (P := P) w t u ty e i ht hu hi hsize g0 n cap cur hgh s hroom (by simp at hcs; omega)] at hr
   cases hr; exact .inl hg
  ·rw [run_append_grow_string (P := P) w t u ty e i (.int .u8 0) ht hu hi hz ⟨g0, 0, none⟩ n cap xs (by rw [hsize]; simpa using hxl) (hown.cells (g := g0) rfl) s (by omega) (by omega) (by rw [hby]; exact growslice_fits (by omega) (by omega))] at hr
   cases hr; cases hg; exact .inr (Nat.le_refl _)
theorem wQ {w : World} {ops : Array Oper} {rest : List Oper} {o : Oper} {a : Act} {Q : Exit → Act → World → Prop} (hgd : o.guard = none) (sl x : Operand) (t u : TypeId)
  (ho : o.op = .call { callee := .builtin .append, args := #[sl, x], argTypes := #[t, u] })
  (e : TypeId) (i : TypeInfo) (ht : P.underlying t = some (.slice e)) (hu : P.underlying u = some .string) (hi : P.info? e = some i) (hz : i.zero = some (.int .u8 0)) (hsize : i.size = 1) (hby : i.bytes = 1)
  (v : Value) (n : Nat) (xs : List Value) (hs : a.eval sl = v) (hown : w.ownsRow 0 e 1 v n xs) (s : ByteArray) (hx : a.eval x = .string s)
  (h63 : n + s.size ≤ maxLen) (hbytes : n + s.size ≤ 140737488355328)
  (h : ∀ v' w', w'.ownsRow 0 e 1 v' (n + s.size) (xs ++ strCells s) → w.grownBy w' v.ownBlock → (∀ g, v'.ownBlock = some g → v.ownBlock = some g ∨ w.heap.size ≤ g) → wpList P ops Q rest (a.put o.dst v') w') : wpList P ops Q (o :: rest) a w := by
 refine wpList_plain hgd fun K hK => ?_
 obtain ⟨v', w', hr, h2, h3, h4⟩ := yp w t u o.type e i ht hu hi hz hsize hby v n xs hown s h63 hbytes
 unfold Oper.wp execOp
 simp only [ho, resolve, invoke, builtin, Sem.run_bind, Sem.run_pure, Result.andThen_ok, List.map_toArray, List.map_cons, List.map_nil, hs, hx, hr]
 exact hK _ _ (h v' w' h2 h3 h4)
end
set_option maxHeartbeats 2000000 in
theorem wa {b : Nat} {p v : Value} {last l s : List UInt8} {w : World} (hp : p = .pointer none ∨ p = .pointer (some ⟨b, 0, none⟩)) (hbk0 : PrB b p v last w) (hown0 : Buf v l w) (hlen : l.length + s.length ≤ 140737488355328) :
  Calls Tryz.prog 110 #[.pointer (some ⟨b, 0, none⟩), .string ⟨s.toArray⟩] w fun e w' => e = .returned (.tuple #[.int .i64 s.length, .nilIface]) ∧ ∃ v', PrB b (.pointer (some ⟨b, 0, none⟩)) v' last w' ∧ Buf v' (l ++ s) w' ∧ (∀ g, v'.ownBlock = some g → v.ownBlock = some g ∨ w.heap.size ≤ g) ∧ ChgP (fun k => k = b ∨ v.ownBlock = some k) w w' := by
 obtain ⟨i0, hi, hz0, hz1, hz2⟩ := pC Bv
 have HB := Lib.hid hbk0
 have HO := Lib.hid hown0
 clear hbk0 hown0
 go_enter Tryz.func110, Tryz.ntmps110
 go_wp2_with (go_at_call 125; refine (yn (l := l) hp HB.out HO.out).mono ?_)
 rintro e w1 ⟨rfl, hbk, hown, hc1⟩
 have hne : v.ownBlock ≠ some b := Lib.ownBlock_ne hown hbk (by decide)
 have HBk := Lib.hid hbk
 have HC := Lib.hid hc1; clear hc1
 have c1 : w1.cell? ⟨b, 1, none⟩ = some v := by rw [Lib.cell_of_heap hbk]; rfl
 clear hbk
 go_wp2_with (at_builtin; refine wQ rfl _ _ 75 9 rfl 5 i0 Tryz.underlying75 Tryz.underlying9 hi hz0 hz1 hz2 _ _ _ rfl hown ⟨s.toArray⟩ rfl ?c3 ?c4 ?_)
 case c3 => unfold maxLen; simp only [List.size_toArray, ByteArray.size]; omega
 case c4 => simp only [List.size_toArray, ByteArray.size]; omega
 intro v' w2 hown' hgrow hnew
 have hlt : b < w1.heap.size := sT HBk.out
 have hb2 : PrB b (.pointer (some ⟨b, 0, none⟩)) v last w2 := by
  show w2.heap[b]? = _
  rw [hgrow.block b hlt (fun e => hne e.symm)]
  exact HBk.out
 have d1 : w2.cell? ⟨b, 1, none⟩ = some v := by rw [Lib.cell_of_heap hb2]; rfl
 have f1 : w2.frozen? ⟨b, 1, none⟩ = false := Lib.frozen_of_heap hb2 1
 have hown2 : Buf v' (l ++ s) w2 := by
  have e1 : Lib.byteCells (l ++ s) = Lib.byteCells l ++ Lib.strCells ⟨s.toArray⟩ := by simp [Lib.byteCells, Lib.strCells]
  show w2.ownsRow _ _ _ _ (l ++ s).length (Lib.byteCells (l ++ s))
  rw [e1, List.length_append]; exact hown'
 obtain ⟨ao, n', cap, hv'⟩ : ∃ ao n' cap, v' = .slice ao n' cap := by
  rcases hown'.2 with ⟨hv, _⟩ | ⟨g, cap, cur, hv, _⟩
  ·exact ⟨_, _, _, hv⟩
  ·exact ⟨_, _, _, hv⟩
 subst hv'
 have hne2 := Lib.ownBlock_ne hown2 hb2 (by decide)
 have HG := Lib.hid hgrow
 have HN := Lib.hid hnew
 have HO2 := Lib.hid hown2
 have HB2 := Lib.hid hb2
 clear hgrow hown hown' hown2 hb2 hnew
 go_wp2
 go_ret2
 refine ⟨by simp, .slice ao n' cap, by simp [PrB, World.setCell, Array.getElem?_modify, HB2.out], Ac HO2.out hne2, fun g hg => ?_, ?_⟩
 ·rcases HN.out g hg with h | h
  ·exact .inl h
  ·exact .inr (Nat.le_trans HC.out.size h)
 ·have h1 : ChgP (fun k => k = b ∨ v.ownBlock = some k) w w1 := HC.out.mono fun k e => .inl e
  have h2 : ChgP (fun k => k = b ∨ v.ownBlock = some k) w1 w2 := ⟨HG.out.os, HG.out.tape, HG.out.output, HG.out.size, fun k hk hn => HG.out.block k hk fun e => hn (.inr e.symm)⟩
  exact (h1.trans h2 fun k e => .inl e).trans ((zE w2 b 1 _).mono fun k e => .inl e) fun k e => .inl e
theorem rK (X : Nat → Prop) (w : World) : ChgP X w w.drew := ⟨rfl, rfl, rfl, Nat.le_refl _, fun _ _ _ => rfl⟩
theorem AS (X : Nat → Prop) (w : World) (o : Obj) : ChgP X w (w.alloc o) := ⟨rfl, rfl, rfl, by simp, fun k hk _ => Below.heap_alloc _ _ _ hk⟩
theorem zV (w : World) (g n : Nat) : ChgP (· = g) w (w.freeze ⟨g, 0, none⟩ n) := by
 unfold World.freeze
 split
 ·exact ChgP.refl _ _
 ·exact ⟨rfl, rfl, rfl, by simp, fun k hk hn => by
   simp only [Array.getElem?_modify]
   rw [if_neg (fun e => hn e.symm)]⟩
theorem rT (W : World) (q : Option Addr) : (Builtin.unsafeString_ #[100, 3] 9 #[.pointer q, .int .i64 0]).run Tryz.prog W = .ok (.string .empty) W :=
 Lib.run_unsafeString_none W _ _ _ q
set_option maxHeartbeats 2000000 in
theorem ug {b : Nat} {p v : Value} {last l : List UInt8} {w : World} (hbk : PrB b p v last w) (hown : Buf v l w) :
  Calls Tryz.prog 57 #[.pointer (some ⟨b, 0, none⟩)] w fun e w' => e = .returned (.string ⟨l.toArray⟩) ∧ ChgP (fun k => k = b ∨ v.ownBlock = some k) w w' := by
 have hlt : b < w.heap.size := sT hbk
 by_cases h0 : l = []
 ·subst h0
  have hUS := rT
  rcases hown.2 with ⟨rfl, _⟩ | ⟨g, cap, cur, rfl, hbg, hg, _⟩
  ·have c1 : w.drew.cell? ⟨b, 1, none⟩ = some (.slice none 0 0) := by
    have : w.drew.heap[b]? = some (.cells #[p, .slice none 0 0, .string ⟨last.toArray⟩] 79 (0, 0)) := hbk
    rw [Lib.cell_of_heap this]; rfl
   have hSD : (Builtin.unsafeSliceData_ #[75] 100 #[.slice none 0 0]).run Tryz.prog w.drew = .ok (.pointer none) w.drew := rfl
   clear hbk hown
   go_enter Tryz.func57, Tryz.ntmps57
   go_wp2
   go_region
   all_goals (go_wp2; go_ret; exact ⟨rfl, rK _ w⟩)
  ·by_cases hc0 : cap = 0
   ·subst hc0
    have c1 : w.drew.cell? ⟨b, 1, none⟩ = some (.slice (some ⟨g, 0, none⟩) 0 0) := by
     have : w.drew.heap[b]? = some (.cells #[p, .slice (some ⟨g, 0, none⟩) 0 0, .string ⟨last.toArray⟩] 79 (0, 0)) := hbk
     rw [Lib.cell_of_heap this]; rfl
    have hSD : (Builtin.unsafeSliceData_ #[75] 100 #[.slice (some ⟨g, 0, none⟩) 0 0]).run Tryz.prog w.drew = .ok (.pointer (some ⟨w.drew.heap.size, 0, none⟩)) (w.drew.alloc (.view ⟨g, 0, none⟩ 5)) :=
     Lib.run_unsafeSliceData_zero w.drew _ _ 5 Tryz.underlying100 ⟨g, 0, none⟩ 0 (5, cur.size) (by have hg' : w.drew.heap[g]? = some (.cells cur 5 (0, 0)) := hg; simp [World.shape?, hg'])
    have c2 : (w.drew.alloc (.view ⟨g, 0, none⟩ 5)).cell? ⟨b, 1, none⟩ = some (.slice (some ⟨g, 0, none⟩) 0 0) := by
     have : (w.drew.alloc (.view ⟨g, 0, none⟩ 5)).heap[b]? = _ := (Below.heap_alloc w.drew _ b hlt).trans hbk
     rw [Lib.cell_of_heap this]; rfl
    have c3 : (w.alloc (.view ⟨g, 0, none⟩ 5)).drew.cell? ⟨b, 1, none⟩ = some (.slice (some ⟨g, 0, none⟩) 0 0) := c2
    have c0 : w.cell? ⟨b, 1, none⟩ = some (.slice (some ⟨g, 0, none⟩) 0 0) := c1
    clear hbk hown hg
    go_enter Tryz.func57, Tryz.ntmps57
    go_wp2
    go_region
    all_goals (go_wp2; go_ret; exact ⟨rfl, (rK _ w).trans (AS _ _ _) fun _ e => .inl e⟩)
   ·have c1 : w.drew.cell? ⟨b, 1, none⟩ = some (.slice (some ⟨g, 0, none⟩) 0 cap) := by
     have : w.drew.heap[b]? = some (.cells #[p, .slice (some ⟨g, 0, none⟩) 0 cap, .string ⟨last.toArray⟩] 79 (0, 0)) := hbk
     rw [Lib.cell_of_heap this]; rfl
    have hSD : (Builtin.unsafeSliceData_ #[75] 100 #[.slice (some ⟨g, 0, none⟩) 0 cap]).run Tryz.prog w.drew = .ok (.pointer (some ⟨g, 0, none⟩)) w.drew :=
     Lib.run_unsafeSliceData_row _ _ _ _ _ _ hc0
    clear hbk hown hg hc0
    go_enter Tryz.func57, Tryz.ntmps57
    go_wp2
    go_region
    all_goals (go_wp2; go_ret; exact ⟨rfl, rK _ w⟩)
 ·have hl0 : l.length ≠ 0 := by simpa using h0
  obtain ⟨g, cap, cur, rfl, hbg, hg, hnc, hcm, hcs, htake⟩ : ∃ g cap cur, v = .slice (some ⟨g, 0, none⟩) l.length cap ∧ 0 ≤ g ∧ w.heap[g]? = some (.cells cur 5 (0, 0)) ∧ l.length ≤ cap ∧ cap ≤ maxLen ∧ cur.size = cap * 1 ∧ cur.toList.take (l.length * 1) = Lib.byteCells l := by
   rcases hown.2 with ⟨_, hz⟩ | ⟨g, cap, cur, hv, r⟩
   ·exact absurd hz hl0
   ·exact ⟨g, cap, cur, hv, r⟩
  have c1 : w.drew.cell? ⟨b, 1, none⟩ = some (.slice (some ⟨g, 0, none⟩) l.length cap) := by
   have : w.drew.heap[b]? = some (.cells #[p, .slice (some ⟨g, 0, none⟩) l.length cap, .string ⟨last.toArray⟩] 79 (0, 0)) := hbk
   rw [Lib.cell_of_heap this]; rfl
  have hSD : (Builtin.unsafeSliceData_ #[75] 100 #[.slice (some ⟨g, 0, none⟩) l.length cap]).run Tryz.prog w.drew = .ok (.pointer (some ⟨g, 0, none⟩)) w.drew :=
   Lib.run_unsafeSliceData_row _ _ _ _ _ _ (by omega)
  have hUS : (Builtin.unsafeString_ #[100, 3] 9 #[.pointer (some ⟨g, 0, none⟩), .int .i64 l.length]).run Tryz.prog w.drew = .ok (.string ⟨l.toArray⟩) (w.drew.freeze ⟨g, 0, none⟩ l.length) := by
   refine Lib.run_unsafeString_row w.drew 100 3 9 5 Tryz.underlying100 zU g cur.size (by have hg' : w.drew.heap[g]? = some (.cells cur 5 (0, 0)) := hg; simp [World.shape?, hg']) l h0 (by omega) (by unfold maxLen at hcm; omega) ?_
   intro j x hx
   have := hown.cells (g := g) rfl j (.int .u8 x.toNat) (by simp [Lib.byteCells, hx])
   exact this
  clear hbk hown hg htake hcs
  go_enter Tryz.func57, Tryz.ntmps57
  go_wp2
  go_region
  all_goals (go_wp2; go_ret; exact ⟨rfl, (rK _ w).trans ((zV _ g _).mono fun k e => .inr (by rw [e]; rfl)) fun _ e => .inl e⟩)
end Go.Proofs.YtaoiaeohojfdgaaGreat
