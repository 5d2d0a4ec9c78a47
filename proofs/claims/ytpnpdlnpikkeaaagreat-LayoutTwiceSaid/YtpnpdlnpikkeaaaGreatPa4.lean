/- Contracts of the functions that the law reaches, part 4. -/
import Derived.Test.YtpnpdlnpikkeaaaGreatPa3
set_option linter.unusedVariables false
set_option linter.unusedSimpArgs false
namespace Go.Proofs.YtpnpdlnpikkeaaaGreat
open Go.RowKit Lx Sx
set_option maxRecDepth 100000
set_option maxHeartbeats 4000000
structure aa where
 Lead : (List UInt8)
 Text : (List UInt8)
abbrev aa.c (x : aa) : List V := [.str x.Lead, .str x.Text]
abbrev aa.w (x : aa) : V := .agg x.c
def iA (p0 : List UInt8) (p1 r0 : Bool) : Prop := qS 80 [.str p0, .bool p1] (.bool r0)
def lN (p0 p1 : List UInt8) (r0 : Bool) : Prop := qS 67 [.str p0, .str p1] (.bool r0)
def kH (p0 p1 r0 : Int) : Prop := qS 36 [.int .i64 p0, .int .i64 p1] (.int .i64 r0)
def mL (p0 b : List Int) (a : Int) : Prop := fE [] Tryz.prog 20 [.row 1 (List.map (V.int .i64) p0)] ⟨0, []⟩ (fun u G => u = .ptr 0 0 ∧ G = ⟨1, [(0, .var 59 [.row 1 (List.map (V.int .i64) b), .int .i64 a])]⟩)
def gb (p0 : List Int) (r0 : Bool) : Prop := qS 5 [.row 1 (List.map (V.int .i64) p0)] (.bool r0)
def aZ (c : List Int) (a : Int) (p1 : (List (List UInt8))) (r0 : List UInt8) (d : List Int) (b : Int) : Prop := fE [] Tryz.prog 64 [.ptr 0 0, .row 1 (List.map V.str p1)] ⟨1, [(0, .var 59 [.row 1 (List.map (V.int .i64) c), .int .i64 a])]⟩ (fun u G => u = .str r0 ∧ G = ⟨1, [(0, .var 59 [.row 1 (List.map (V.int .i64) d), .int .i64 b])]⟩)
def cm (c : List Int) (a p1 : Int) (r0 : Tree) (d : List Int) (b : Int) : Prop := fE [] Tryz.prog 65 [.ptr 0 0, .int .i64 p1] ⟨1, [(0, .var 59 [.row 1 (List.map (V.int .i64) c), .int .i64 a])]⟩ (fun u G => u = .agg (aj r0) ∧ G = ⟨2, [(0, .var 59 [.row 1 (List.map (V.int .i64) d), .int .i64 b])]⟩)
def dP (c : List Int) (a p1 : Int) (r0 : Tree) (d : List Int) (b : Int) : Prop := fE [] Tryz.prog 97 [.ptr 0 0, .int .i64 p1] ⟨1, [(0, .var 59 [.row 1 (List.map (V.int .i64) c), .int .i64 a])]⟩ (fun u G => u = .agg (aj r0) ∧ G = ⟨2, [(0, .var 59 [.row 1 (List.map (V.int .i64) d), .int .i64 b])]⟩)
def aK (c : List Int) (a p1 : Int) (r0 : Tree) (d : List Int) (b : Int) : Prop := fE [] Tryz.prog 66 [.ptr 0 0, .int .i64 p1] ⟨1, [(0, .var 59 [.row 1 (List.map (V.int .i64) c), .int .i64 a])]⟩ (fun u G => u = .agg (aj r0) ∧ G = ⟨2, [(0, .var 59 [.row 1 (List.map (V.int .i64) d), .int .i64 b])]⟩)
def kI (c : List Int) (a : Int) (r0 : Tree) (d : List Int) (b : Int) : Prop := fE [] Tryz.prog 37 [.ptr 0 0] ⟨1, [(0, .var 59 [.row 1 (List.map (V.int .i64) c), .int .i64 a])]⟩ (fun u G => u = .agg (aj r0) ∧ G = ⟨2, [(0, .var 59 [.row 1 (List.map (V.int .i64) d), .int .i64 b])]⟩)
def gc (c : List Int) (a : Int) (p1 r0 : Tree) (d : List Int) (b : Int) : Prop := fE [] Tryz.prog 38 [.ptr 0 0, .agg (aj p1)] ⟨1, [(0, .var 59 [.row 1 (List.map (V.int .i64) c), .int .i64 a])]⟩ (fun u G => u = .agg (aj r0) ∧ G = ⟨2, [(0, .var 59 [.row 1 (List.map (V.int .i64) d), .int .i64 b])]⟩)
def iJ (c : List Int) (a : Int) (p1 : List UInt8) (r0 : Tree) (d : List Int) (b : Int) : Prop := fE [] Tryz.prog 22 [.ptr 0 0, .str p1] ⟨1, [(0, .var 59 [.row 1 (List.map (V.int .i64) c), .int .i64 a])]⟩ (fun u G => u = .agg (aj r0) ∧ G = ⟨2, [(0, .var 59 [.row 1 (List.map (V.int .i64) d), .int .i64 b])]⟩)
def fh (p0 : List Int) (r0 : List Tree) : Prop := qS 7 [.row 1 (List.map (V.int .i64) p0)] (.row 4 (kidsV r0))
def aC (c : List Int) (a p1 r0 : Int) (d : List Int) (b : Int) : Prop := fE [] Tryz.prog 21 [.ptr 0 0, .int .i64 p1] ⟨1, [(0, .var 59 [.row 1 (List.map (V.int .i64) c), .int .i64 a])]⟩ (fun u G => u = .int .i64 r0 ∧ G = ⟨1, [(0, .var 59 [.row 1 (List.map (V.int .i64) d), .int .i64 b])]⟩)
def ff (p0 : Int) (r0 : (List (List UInt8))) : Prop := fE [] Tryz.prog 48 [.int .i64 p0] ⟨0, []⟩ (fun u G => u = .sl 0 ∧ G = ⟨1, [(0, .row 9 1 (List.map V.str r0))]⟩)
def ix (p0 : Tree) (p1 : Int) (p2 r0 : List UInt8) : Prop := qS 49 [.agg (aj p0), .int .i64 p1, .str p2] (.str r0)
def dC (p0 : Tree) (p1 : List UInt8) (r0 : Tree) : Prop := qS 27 [.agg (aj p0), .str p1] (.agg (aj r0))
def cz (p0 r0 : Tree) : Prop := qS 10 [.agg (aj p0)] (.agg (aj r0))
def en (p0 : Tree) (r0 : Bool) : Prop := qS 23 [.agg (aj p0)] (.bool r0)
def cj (p0 : Tree) (r0 : Bool) : Prop := qS 28 [.agg (aj p0)] (.bool r0)
def ek (p0 : Tree) (r0 : Bool) : Prop := qS 50 [.agg (aj p0)] (.bool r0)
def fq (p0 : Tree) (r0 : Bool) : Prop := qS 39 [.agg (aj p0)] (.bool r0)
def fP (p0 : Tree) (r0 : Int) : Prop := qS 40 [.agg (aj p0)] (.int .i64 r0)
def iQ (p0 : Tree) (r0 : List UInt8) : Prop := qS 41 [.agg (aj p0)] (.str r0)
def ir (p0 : Tree) (r0 : List aa) : Prop := qS 29 [.agg (aj p0)] (.row 2 (List.map aa.w r0))
def ai (p0 : List aa) (p1 : Tree) (r0 : List aa) : Prop := fE [] Tryz.prog 51 [.sl 0, .agg (aj p1)] ⟨1, [(0, .row 47 2 (List.map aa.w p0))]⟩ (fun u G => u = .sl 1 ∧ G = ⟨2, [(1, .row 47 2 (List.map aa.w r0))]⟩)
def dS (p0 : List aa) (p1 : Tree) (p2 p3 p4 : Int) (r0 : List aa) : Prop := fE [] Tryz.prog 82 [.sl 0, .agg (aj p1), .int .i64 p2, .int .i64 p3, .int .i64 p4] ⟨1, [(0, .row 47 2 (List.map aa.w p0))]⟩ (fun u G => u = .sl 1 ∧ G = ⟨2, [(1, .row 47 2 (List.map aa.w r0))]⟩)
def ah (p0 : Tree) (p1 : Int) (r0 : List UInt8) : Prop := qS 81 [.agg (aj p0), .int .i64 p1] (.str r0)
theorem mN (m : Nat) (p0 p1 r0 : Int) (h : p1 ≠ 0 ∧ (((Int.tmod p0 p1) < 0) → InI ((Int.tmod p0 p1) + p1) ∧ ((Int.tmod p0 p1) + p1) = r0) ∧ ((¬ (Int.tmod p0 p1) < 0) → (Int.tmod p0 p1) = r0)) : kH p0 p1 r0 := by
 refine ⟨rfl, rfl, ?_⟩
 refine am 14 [] Tryz.func36 rfl rfl rfl (aQ rfl) fun K hK => ?_
 refine gR 9 rfl ?_
 obtain ⟨hb, h⟩ := h
 refine gY (FO rfl rfl hb) rfl rfl <| gR 10 rfl <| qBd 9 rfl rfl rfl h (fun h => ?_) fun h => ?_
 refine gR 4 rfl ?_
 obtain ⟨hb, h⟩ := h
 refine gR 1 rfl <| gV 12 (.int .i64 ((Int.tmod p0 p1) + p1)) rfl (au hb rfl) rfl <| gR 10 rfl ?_
 subst h
 exact go_end ab (rs := [.tmp 4]) rfl rfl rfl
 refine gR 10 rfl ?_
 subst h
 exact go_end ab (rs := [.tmp 4]) rfl rfl rfl
theorem qf (m : Nat) (p0 b : List Int) (a : Int) (h : p0.length ≤ 1000000000 ∧ p0 = b ∧ 0 = a) : mL p0 b a := by
 refine am 8 [] Tryz.func20 rfl rfl rfl (aQ rfl) fun K hK => ?_
 refine gR 9 rfl ?_
 obtain ⟨hb, h⟩ := h
 refine gDo (.repl 0 (.row 3 1 (List.map (V.int .i64) p0))) (bP ab rfl rfl rfl rfl rfl (List.nil_append _) (by rw [aP]; exact hb)) (okR rfl) rfl rfl rfl <| gR 6 rfl <| gFR 1 rfl (iX _ (fun _ => rfl) _) rfl rfl ?_
 obtain ⟨rfl, rfl⟩ := h
 exact go_sub (F' := (mkF 8 0 [(2, .ptr 0 0)])) (H' := ⟨1, [(0, .var 59 [.row 1 (List.map (V.int .i64) p0), .int .i64 0])]⟩) [2] [] rfl hK pq1 (pqo1 rfl rfl) rfl <| go_endD [] ab (rs := [.tmp 2]) rfl rfl ⟨rfl, rfl⟩
theorem qc (m : Nat) (p0 : List Int) (r0 : Bool) (h : decide ((p0.length : Int) ≤ 120) = r0) : gb p0 r0 := by
 refine ⟨rfl, rfl, ?_⟩
 refine am 6 [] Tryz.func5 rfl rfl rfl (aQ rfl) fun K hK => ?_
 refine gR 9 rfl <| gV 4 (.int .i64 (p0.length : Int)) rfl (bo (aP (V.int .i64) _)) rfl <| gLB 3 rfl (aP (V.int .i64) _) fun hl2 => gR 5 rfl ?_
 subst h
 exact go_end ab (rs := [.tmp 2]) rfl rfl rfl
theorem qu (m : Nat) (j : List Int) (e : Int) (p1 : (List (List UInt8))) (r0 : List UInt8) (k : List Int) (g : Int) (h : ∃ i a b, aC j e (p1.length : Int) i a b ∧ ∃ c, i = ((c : Nat) : Int) ∧ ∃ d, p1[c]? = some d ∧ d = r0 ∧ a = k ∧ b = g) : aZ j e p1 r0 k g := by
 refine am 12 [0] Tryz.func64 rfl rfl rfl (aQ rfl) fun K hK => ?_
 refine gR 11 rfl <| gV 8 (.int .i64 (p1.length : Int)) rfl (bo (aP V.str _)) rfl <| gLB 7 rfl (aP V.str _) fun hl3 => ?_
 obtain ⟨i, a, b, hs4, h⟩ := h
 refine gC hs4 [0] (by kernel_rfl) rfl rfl .rfl ⟨⟨_, rfl, ⟨rfl, aD.rfl⟩⟩, trivial⟩ rfl ?_
 rintro _ _ ⟨rfl, rfl⟩
 obtain ⟨c, l, h⟩ := h
 refine gV 9 (.int .i64 ((c : Nat) : Int)) rfl (jz l) rfl ?_
 obtain ⟨d, hxs0_5, h⟩ := h
 refine gY (bc (mapget (f := V.str) hxs0_5) ab rfl rfl rfl rfl) rfl rfl <| gR 5 rfl ?_
 obtain ⟨rfl, rfl, rfl⟩ := h
 exact go_sub (F' := (mkF 12 0 [(4, .str d)])) (H' := ⟨1, [(0, .var 59 [.row 1 (List.map (V.int .i64) a), .int .i64 b])]⟩) [0] [0] rfl hK pq1 (pqo1 rfl rfl) rfl <| go_endD [] ab (rs := [.tmp 4]) rfl rfl ⟨rfl, rfl⟩
def fc (m : Nat) (p1 b : Int) (c : List Int) (d : Int) (e : Bool) (r0 : Tree) (f : List Int) (a : Int) : Prop := ∀ (K : Ctx), aB K [0] → qLG K Tryz.f65 (fun u G => u = .agg (aj r0) ∧ G = ⟨2, [(0, .var 59 [.row 1 (List.map (V.int .i64) f), .int .i64 a])]⟩) (cB (xE (cB (ac Tryz.f65)))) [.blk 0, .seq (xA (ac Tryz.f65))] 32 (mkF 32 0 [(0, .ptr 0 0), (1, .int .i64 p1), (4, .ptr 1 0), (6, .int .i64 b), (7, .bool e)]) ⟨2, [(1, .var 30 [.int .i64 0, .str [], .nils, .nils]), (0, .var 59 [.row 1 (List.map (V.int .i64) c), .int .i64 d])]⟩
theorem gP (m : Nat) (g : List Int) (e p1 : Int) (r0 : Tree) (f : List Int) (b : Int) (h : ∃ a c d, aC g e 7 a c d ∧ ((a = 0) → fc m p1 a c d true r0 f b) ∧ ((a ≠ 0) → fc m p1 a c d (a == 1) r0 f b)) : cm g e p1 r0 f b := by
 refine am 32 [0] Tryz.func65 rfl rfl rfl (aQ rfl) fun K hK => ?_
 refine gR 9 rfl ?_
 obtain ⟨a, c, d, hs8, h⟩ := h
 refine gC hs8 [0] (by kernel_rfl) rfl rfl .rfl ⟨⟨_, rfl, ⟨rfl, aD.rfl⟩⟩, trivial⟩ rfl ?_
 rintro _ _ ⟨rfl, rfl⟩
 refine gR 10 rfl <| qBeZ 7 8 rfl rfl rfl rfl h (fun h => ?_) fun h => ?_
 exact gR 3 rfl <| gJ (h K hK) [0, 1] [0] rfl hK pq5 (pqo2 rfl rfl rfl rfl) rfl
 exact gR 6 rfl <| gJ (h K hK) [0, 1] [0] rfl hK pq5 (pqo2 rfl rfl rfl rfl) rfl
theorem bk (m : Nat) (p1 e : Int) (a : List Int) (b : Int) (n : Bool) (r0 : Tree) (f : List Int) (c : Int) (h : ((n = true) → (Tree.node 5 [] [] []) = r0 ∧ a = f ∧ b = c) ∧ ((n = false) → ((e = 2) → (Tree.node 7 [] [] []) = r0 ∧ a = f ∧ b = c) ∧ ((e ≠ 2) → ((e = 3) → (Tree.node 6 [] [] []) = r0 ∧ a = f ∧ b = c) ∧ ((e ≠ 3) → ((e = 4) → ∃ g i j, aZ a b [[84], [85], [65, 46, 84], [66, 46, 85]] g i j ∧ (Tree.node 9 g [] []) = r0 ∧ i = f ∧ j = c) ∧ ((e ≠ 4) → ((p1 < 1) → (Tree.node 5 [] [] []) = r0 ∧ a = f ∧ b = c) ∧ ((¬ p1 < 1) → InI (p1 - 1) ∧ ∃ d k l, cm a b (p1 - 1) d k l ∧ (Tree.node 8 [] [] [d]) = r0 ∧ k = f ∧ l = c)))))) : fc (m + 1) p1 e a b n r0 f c := by
 intro K hK
 refine qBi 7 rfl rfl rfl h (fun h => ?_) fun h => ?_
 refine gR 10 rfl ?_
 obtain ⟨rfl, rfl, rfl⟩ := h
 exact go_sub (F' := (mkF 32 0 [(4, .ptr 1 0)])) (H' := ⟨2, [(1, .var 30 [.int .i64 ((Tree.node 5 [] [] []).kind), .str ((Tree.node 5 [] [] []).text), .row 1 (List.map V.str ((Tree.node 5 [] [] []).leads)), .row 4 (kidsV ((Tree.node 5 [] [] []).kids))]), (0, .var 59 [.row 1 (List.map (V.int .i64) a), .int .i64 b])]⟩) [0, 1] [0] rfl hK pq1 ⟨⟨_, rfl, rfl, (.cons .rfl (.cons .rfl (.cons (.nil 1) (.cons (.nil 4) .nil))))⟩, (pqo1 rfl rfl)⟩ rfl <| go_endD [1] ab (rs := [.cell 4 30]) rfl rfl ⟨rfl, rfl⟩
 refine gR 7 rfl <| qBeZ 11 12 rfl rfl rfl rfl h (fun h => ?_) fun h => ?_
 refine gR 10 rfl ?_
 obtain ⟨rfl, rfl, rfl⟩ := h
 exact go_sub (F' := (mkF 32 0 [(4, .ptr 1 0)])) (H' := ⟨2, [(1, .var 30 [.int .i64 ((Tree.node 7 [] [] []).kind), .str ((Tree.node 7 [] [] []).text), .row 1 (List.map V.str ((Tree.node 7 [] [] []).leads)), .row 4 (kidsV ((Tree.node 7 [] [] []).kids))]), (0, .var 59 [.row 1 (List.map (V.int .i64) a), .int .i64 b])]⟩) [0, 1] [0] rfl hK pq1 ⟨⟨_, rfl, rfl, (.cons .rfl (.cons .rfl (.cons (.nil 1) (.cons (.nil 4) .nil))))⟩, (pqo1 rfl rfl)⟩ rfl <| go_endD [1] ab (rs := [.cell 4 30]) rfl rfl ⟨rfl, rfl⟩
 refine gR 7 rfl <| qBeZ 14 15 rfl rfl rfl rfl h (fun h => ?_) fun h => ?_
 refine gR 10 rfl ?_
 obtain ⟨rfl, rfl, rfl⟩ := h
 exact go_sub (F' := (mkF 32 0 [(4, .ptr 1 0)])) (H' := ⟨2, [(1, .var 30 [.int .i64 ((Tree.node 6 [] [] []).kind), .str ((Tree.node 6 [] [] []).text), .row 1 (List.map V.str ((Tree.node 6 [] [] []).leads)), .row 4 (kidsV ((Tree.node 6 [] [] []).kids))]), (0, .var 59 [.row 1 (List.map (V.int .i64) a), .int .i64 b])]⟩) [0, 1] [0] rfl hK pq1 ⟨⟨_, rfl, rfl, (.cons .rfl (.cons .rfl (.cons (.nil 1) (.cons (.nil 4) .nil))))⟩, (pqo1 rfl rfl)⟩ rfl <| go_endD [1] ab (rs := [.cell 4 30]) rfl rfl ⟨rfl, rfl⟩
 refine gR 7 rfl <| qBeZ 17 18 rfl rfl rfl rfl h (fun h => ?_) fun h => ?_
 refine gR 5 rfl <| gFR 2 rfl rfl rfl rfl ?_
 obtain ⟨g, i, j, hs9, h⟩ := h
 refine gC hs9 [0] (by kernel_rfl) rfl rfl .rfl ⟨⟨_, rfl, ⟨rfl, aD.rfl⟩⟩, trivial⟩ rfl ?_
 rintro _ _ ⟨rfl, rfl⟩
 refine gR 7 rfl ?_
 obtain ⟨rfl, rfl, rfl⟩ := h
 exact go_sub (F' := (mkF 32 0 [(4, .ptr 1 0)])) (H' := ⟨2, [(1, .var 30 [.int .i64 ((Tree.node 9 g [] []).kind), .str ((Tree.node 9 g [] []).text), .row 1 (List.map V.str ((Tree.node 9 g [] []).leads)), .row 4 (kidsV ((Tree.node 9 g [] []).kids))]), (0, .var 59 [.row 1 (List.map (V.int .i64) i), .int .i64 j])]⟩) [0, 1] [0] rfl hK pq1 ⟨⟨_, rfl, rfl, (.cons .rfl (.cons .rfl (.cons (.nil 1) (.cons (.nil 4) .nil))))⟩, (pqo1 rfl rfl)⟩ rfl <| go_endD [1] ab (rs := [.cell 4 30]) rfl rfl ⟨rfl, rfl⟩
 refine gR 11 rfl <| qBd 24 rfl rfl rfl h (fun h => ?_) fun h => ?_
 refine gR 9 rfl ?_
 obtain ⟨rfl, rfl, rfl⟩ := h
 exact go_sub (F' := (mkF 32 0 [(4, .ptr 1 0)])) (H' := ⟨2, [(1, .var 30 [.int .i64 ((Tree.node 5 [] [] []).kind), .str ((Tree.node 5 [] [] []).text), .row 1 (List.map V.str ((Tree.node 5 [] [] []).leads)), .row 4 (kidsV ((Tree.node 5 [] [] []).kids))]), (0, .var 59 [.row 1 (List.map (V.int .i64) a), .int .i64 b])]⟩) [0, 1] [0] rfl hK pq1 ⟨⟨_, rfl, rfl, (.cons .rfl (.cons .rfl (.cons (.nil 1) (.cons (.nil 4) .nil))))⟩, (pqo1 rfl rfl)⟩ rfl <| go_endD [1] ab (rs := [.cell 4 30]) rfl rfl ⟨rfl, rfl⟩
 refine gR 7 rfl ?_
 obtain ⟨hb, h⟩ := h
 refine gR 1 rfl <| gV 28 (.int .i64 (p1 - 1)) rfl (au hb rfl) rfl ?_
 obtain ⟨d, k, l, hs10, h⟩ := h
 refine gC hs10 [0] (by kernel_rfl) rfl rfl .rfl ⟨⟨_, rfl, ⟨rfl, aD.rfl⟩⟩, trivial⟩ rfl ?_
 rintro _ _ ⟨rfl, rfl⟩
 refine gR 1 rfl <| gHR 4 (kidsV [d]) rfl (lm d) rfl <| gR 5 rfl <| gFR 4 rfl (dd _) rfl rfl ?_
 obtain ⟨rfl, rfl, rfl⟩ := h
 exact go_sub (F' := (mkF 32 0 [(4, .ptr 1 0)])) (H' := ⟨2, [(1, .var 30 [.int .i64 ((Tree.node 8 [] [] [d]).kind), .str ((Tree.node 8 [] [] [d]).text), .row 1 (List.map V.str ((Tree.node 8 [] [] [d]).leads)), .row 4 (kidsV ((Tree.node 8 [] [] [d]).kids))]), (0, .var 59 [.row 1 (List.map (V.int .i64) k), .int .i64 l])]⟩) [0, 1] [0] rfl hK pq1 ⟨⟨_, rfl, rfl, (.cons .rfl (.cons .rfl (.cons (.nil 1) (.cons .rfl .nil))))⟩, (pqo1 rfl rfl)⟩ rfl <| go_endD [1] ab (rs := [.cell 4 30]) rfl rfl ⟨rfl, rfl⟩
theorem mJ (m : Nat) (i : List Int) (f p1 : Int) (r0 : Tree) (g : List Int) (d : Int) (h : ∃ a b c, aK i f p1 a b c ∧ ∃ e, fi a.kind e ∧ ((e = false) → (Tree.node 22 [] [] [a]) = r0 ∧ b = g ∧ c = d) ∧ ((e = true) → a = r0 ∧ b = g ∧ c = d)) : dP i f p1 r0 g d := by
 refine am 17 [0] Tryz.func97 rfl rfl rfl (aQ rfl) fun K hK => ?_
 refine gR 9 rfl ?_
 obtain ⟨a, b, c, hs3, h⟩ := h
 refine gC hs3 [0] (by kernel_rfl) rfl rfl .rfl ⟨⟨_, rfl, ⟨rfl, aD.rfl⟩⟩, trivial⟩ rfl ?_
 rintro _ _ ⟨rfl, rfl⟩
 refine gR 9 rfl ?_
 obtain ⟨e, hs4, h⟩ := h
 refine gC0 hs4 (by kernel_rfl) rfl rfl .rfl rfl <| gR 3 rfl <| qBh 12 rfl rfl rfl h cg cf (fun h => ?_) fun h => ?_
 refine gR 5 rfl <| gHR 5 (kidsV [a]) rfl (lm a) rfl <| gR 6 rfl <| gFR 5 rfl (dd _) rfl rfl ?_
 obtain ⟨rfl, rfl, rfl⟩ := h
 exact go_sub (F' := (mkF 17 0 [(4, .ptr 1 0)])) (H' := ⟨2, [(1, .var 30 [.int .i64 ((Tree.node 22 [] [] [a]).kind), .str ((Tree.node 22 [] [] [a]).text), .row 1 (List.map V.str ((Tree.node 22 [] [] [a]).leads)), .row 4 (kidsV ((Tree.node 22 [] [] [a]).kids))]), (0, .var 59 [.row 1 (List.map (V.int .i64) b), .int .i64 c])]⟩) [0, 1] [0] rfl hK pq1 ⟨⟨_, rfl, rfl, (.cons .rfl (.cons .rfl (.cons (.nil 1) (.cons .rfl .nil))))⟩, (pqo1 rfl rfl)⟩ rfl <| go_endD [1] ab (rs := [.cell 4 30]) rfl rfl ⟨rfl, rfl⟩
 refine gR 10 rfl ?_
 obtain ⟨rfl, rfl, rfl⟩ := h
 exact go_sub (F' := (mkF 17 0 [(4, .ptr 1 0)])) (H' := ⟨2, [(1, .var 30 [.int .i64 a.kind, .str a.text, .row 1 (List.map V.str a.leads), .row 4 (kidsV a.kids)]), (0, .var 59 [.row 1 (List.map (V.int .i64) b), .int .i64 c])]⟩) [0, 1] [0] rfl hK pq1 (pqo2 rfl rfl rfl rfl) rfl <| go_endD [1] ab (rs := [.cell 4 30]) rfl rfl ⟨rfl, rfl⟩
def ch (m : Nat) (p1 : Int) (b : List Int) (c d : Int) (r0 : Tree) (e : List Int) (a : Int) : Prop := ∀ (K : Ctx), aB K [0] → qLG K Tryz.f66 (fun u G => u = .agg (aj r0) ∧ G = ⟨2, [(0, .var 59 [.row 1 (List.map (V.int .i64) e), .int .i64 a])]⟩) (xI (ac Tryz.f66)) [] 168 (mkF 168 0 [(0, .ptr 0 0), (1, .int .i64 p1), (4, .ptr 1 0), (5, .int .i64 d)]) ⟨2, [(1, .var 30 [.int .i64 0, .str [], .nils, .nils]), (0, .var 59 [.row 1 (List.map (V.int .i64) b), .int .i64 c])]⟩
def jg (m : Nat) (p1 : Int) (b : List Int) (c d : Int) (e : Bool) (r0 : Tree) (f : List Int) (a : Int) : Prop := ∀ (K : Ctx), aB K [0] → qLG K Tryz.f66 (fun u G => u = .agg (aj r0) ∧ G = ⟨2, [(0, .var 59 [.row 1 (List.map (V.int .i64) f), .int .i64 a])]⟩) (cB (xF (cB (ac Tryz.f66)))) [.blk 0, .seq (xJ (ac Tryz.f66))] 168 (mkF 168 0 [(0, .ptr 0 0), (1, .int .i64 p1), (4, .ptr 1 0), (24, .int .i64 d), (25, .bool e)]) ⟨2, [(1, .var 30 [.int .i64 0, .str [], .nils, .nils]), (0, .var 59 [.row 1 (List.map (V.int .i64) b), .int .i64 c])]⟩
def gk (m : Nat) (p1 : Int) (b : List Int) (c d : Int) (r0 : Tree) (e : List Int) (a : Int) : Prop := ∀ (K : Ctx), aB K [0] → qLG K Tryz.f66 (fun u G => u = .agg (aj r0) ∧ G = ⟨2, [(0, .var 59 [.row 1 (List.map (V.int .i64) e), .int .i64 a])]⟩) (xL (cB (ac Tryz.f66))) [.blk 0, .seq (xJ (ac Tryz.f66))] 168 (mkF 168 0 [(0, .ptr 0 0), (1, .int .i64 p1), (4, .ptr 1 0), (24, .int .i64 d)]) ⟨2, [(1, .var 30 [.int .i64 0, .str [], .nils, .nils]), (0, .var 59 [.row 1 (List.map (V.int .i64) b), .int .i64 c])]⟩
def mE (m : Nat) (p1 : Int) (b : List Int) (c d : Int) (r0 : Tree) (e : List Int) (a : Int) : Prop := ∀ (K : Ctx), aB K [0] → qLG K Tryz.f66 (fun u G => u = .agg (aj r0) ∧ G = ⟨2, [(0, .var 59 [.row 1 (List.map (V.int .i64) e), .int .i64 a])]⟩) (xC (xF (cB (ac Tryz.f66)))) [.blk 0, .seq (xJ (ac Tryz.f66))] 168 (mkF 168 0 [(0, .ptr 0 0), (1, .int .i64 p1), (4, .ptr 1 0), (24, .int .i64 d)]) ⟨2, [(1, .var 30 [.int .i64 0, .str [], .nils, .nils]), (0, .var 59 [.row 1 (List.map (V.int .i64) b), .int .i64 c])]⟩
def mD (m : Nat) (p1 : Int) (b : List Int) (c d : Int) (r0 : Tree) (e : List Int) (a : Int) : Prop := ∀ (K : Ctx), aB K [0] → qLG K Tryz.f66 (fun u G => u = .agg (aj r0) ∧ G = ⟨2, [(0, .var 59 [.row 1 (List.map (V.int .i64) e), .int .i64 a])]⟩) (xC (xL (cB (ac Tryz.f66)))) [.blk 0, .seq (xJ (ac Tryz.f66))] 168 (mkF 168 0 [(0, .ptr 0 0), (1, .int .i64 p1), (4, .ptr 1 0), (24, .int .i64 d)]) ⟨2, [(1, .var 30 [.int .i64 0, .str [], .nils, .nils]), (0, .var 59 [.row 1 (List.map (V.int .i64) b), .int .i64 c])]⟩
def mx (m : Nat) (p1 : Int) (b : List Int) (c d : Int) (r0 : Tree) (e : List Int) (a : Int) : Prop := ∀ (K : Ctx), aB K [0] → qLG K Tryz.f66 (fun u G => u = .agg (aj r0) ∧ G = ⟨2, [(0, .var 59 [.row 1 (List.map (V.int .i64) e), .int .i64 a])]⟩) (xG (xF (cB (ac Tryz.f66)))) [.blk 0, .seq (xJ (ac Tryz.f66))] 168 (mkF 168 0 [(0, .ptr 0 0), (1, .int .i64 p1), (4, .ptr 1 0), (24, .int .i64 d)]) ⟨2, [(1, .var 30 [.int .i64 0, .str [], .nils, .nils]), (0, .var 59 [.row 1 (List.map (V.int .i64) b), .int .i64 c])]⟩
def gm (m : Nat) (p1 : Int) (b : List Int) (c d : Int) (r0 : Tree) (e : List Int) (a : Int) : Prop := ∀ (K : Ctx), aB K [0] → qLG K Tryz.f66 (fun u G => u = .agg (aj r0) ∧ G = ⟨2, [(0, .var 59 [.row 1 (List.map (V.int .i64) e), .int .i64 a])]⟩) (xG (xL (cB (ac Tryz.f66)))) [.blk 0, .seq (xJ (ac Tryz.f66))] 168 (mkF 168 0 [(0, .ptr 0 0), (1, .int .i64 p1), (4, .ptr 1 0), (24, .int .i64 d)]) ⟨2, [(1, .var 30 [.int .i64 0, .str [], .nils, .nils]), (0, .var 59 [.row 1 (List.map (V.int .i64) b), .int .i64 c])]⟩
def jk (m : Nat) (p1 : Int) (b : List Int) (c d : Int) (e : Bool) (r0 : Tree) (f : List Int) (a : Int) : Prop := ∀ (K : Ctx), aB K [0] → qLG K Tryz.f66 (fun u G => u = .agg (aj r0) ∧ G = ⟨2, [(0, .var 59 [.row 1 (List.map (V.int .i64) f), .int .i64 a])]⟩) (cB (xG (xL (cB (ac Tryz.f66))))) [.blk 0, .seq (xJ (ac Tryz.f66))] 168 (mkF 168 0 [(0, .ptr 0 0), (1, .int .i64 p1), (4, .ptr 1 0), (24, .int .i64 d), (57, .bool e)]) ⟨2, [(1, .var 30 [.int .i64 0, .str [], .nils, .nils]), (0, .var 59 [.row 1 (List.map (V.int .i64) b), .int .i64 c])]⟩
def jm (m : Nat) (p1 : Int) (b : List Int) (c : Int) (r0 : Tree) (d : List Int) (a : Int) : Prop := ∀ (K : Ctx), aB K [0] → qLG K Tryz.f66 (fun u G => u = .agg (aj r0) ∧ G = ⟨2, [(0, .var 59 [.row 1 (List.map (V.int .i64) d), .int .i64 a])]⟩) (xM (xG (xL (cB (ac Tryz.f66))))) [.blk 0, .seq (xJ (ac Tryz.f66))] 168 (mkF 168 0 [(0, .ptr 0 0), (1, .int .i64 p1), (4, .ptr 1 0)]) ⟨2, [(1, .var 30 [.int .i64 0, .str [], .nils, .nils]), (0, .var 59 [.row 1 (List.map (V.int .i64) b), .int .i64 c])]⟩
def eK (m : Nat) (p1 : Int) (b : List Int) (c d : Int) (r0 : Tree) (e : List Int) (a : Int) : Prop := ∀ (K : Ctx), aB K [0] → qLG K Tryz.f66 (fun u G => u = .agg (aj r0) ∧ G = ⟨2, [(0, .var 59 [.row 1 (List.map (V.int .i64) e), .int .i64 a])]⟩) (xG (xC (xF (cB (ac Tryz.f66))))) [.blk 0, .seq (xJ (ac Tryz.f66))] 168 (mkF 168 0 [(0, .ptr 0 0), (1, .int .i64 p1), (4, .ptr 1 0), (24, .int .i64 d)]) ⟨2, [(1, .var 30 [.int .i64 0, .str [], .nils, .nils]), (0, .var 59 [.row 1 (List.map (V.int .i64) b), .int .i64 c])]⟩
def fL (m : Nat) (p1 : Int) (f : List UInt8) (a : List Int) (b : Int) (c : List Tree) (d : Int) (r0 : Tree) (g : List Int) (e : Int) : Prop := ∀ (K : Ctx) (j1 : Nat), aB K [0] → m ≤ j1 → qLG K Tryz.f66 (fun u G => u = .agg (aj r0) ∧ G = ⟨2, [(0, .var 59 [.row 1 (List.map (V.int .i64) g), .int .i64 e])]⟩) (cL (xE (cB (xM (xG (xL (cB (ac Tryz.f66)))))))) [.loop (cL (xE (cB (xM (xG (xL (cB (ac Tryz.f66)))))))) j1, .blk 1, .seq (xA (xM (xG (xL (cB (ac Tryz.f66)))))), .blk 0, .seq (xJ (ac Tryz.f66))] 168 (mkF 168 0 [(0, .ptr 0 0), (1, .int .i64 p1), (4, .ptr 1 0), (6, .ptr 2 0), (7, .int .i64 d)]) ⟨4, [(3, .row 30 4 (kidsV c)), (2, .var 30 [.int .i64 16, .str f, .nils, .sl 3]), (1, .var 30 [.int .i64 0, .str [], .nils, .nils]), (0, .var 59 [.row 1 (List.map (V.int .i64) a), .int .i64 b])]⟩
def fO (m : Nat) (p1 : Int) (a : List Int) (b : Int) (c : List Tree) (d : Int) (r0 : Tree) (f : List Int) (e : Int) : Prop := ∀ (K : Ctx) (j1 : Nat), aB K [0] → m ≤ j1 → qLG K Tryz.f66 (fun u G => u = .agg (aj r0) ∧ G = ⟨2, [(0, .var 59 [.row 1 (List.map (V.int .i64) f), .int .i64 e])]⟩) (cL (xE (cB (xM (xG (xC (xF (cB (ac Tryz.f66))))))))) [.loop (cL (xE (cB (xM (xG (xC (xF (cB (ac Tryz.f66))))))))) j1, .blk 3, .seq (xA (xM (xG (xC (xF (cB (ac Tryz.f66))))))), .blk 0, .seq (xJ (ac Tryz.f66))] 168 (mkF 168 0 [(0, .ptr 0 0), (1, .int .i64 p1), (4, .ptr 1 0), (8, .ptr 2 0), (9, .int .i64 d)]) ⟨4, [(3, .row 30 4 (kidsV c)), (2, .var 30 [.int .i64 18, .str [], .nils, .sl 3]), (1, .var 30 [.int .i64 0, .str [], .nils, .nils]), (0, .var 59 [.row 1 (List.map (V.int .i64) a), .int .i64 b])]⟩
def fM (m : Nat) (p1 : Int) (b : List Int) (c d : Int) (r0 : Tree) (e : List Int) (a : Int) : Prop := ∀ (K : Ctx), aB K [0] → qLG K Tryz.f66 (fun u G => u = .agg (aj r0) ∧ G = ⟨2, [(0, .var 59 [.row 1 (List.map (V.int .i64) e), .int .i64 a])]⟩) (xG (xC (xL (cB (ac Tryz.f66))))) [.blk 0, .seq (xJ (ac Tryz.f66))] 168 (mkF 168 0 [(0, .ptr 0 0), (1, .int .i64 p1), (4, .ptr 1 0), (24, .int .i64 d)]) ⟨2, [(1, .var 30 [.int .i64 0, .str [], .nils, .nils]), (0, .var 59 [.row 1 (List.map (V.int .i64) b), .int .i64 c])]⟩
def lM (m : Nat) (p1 : Int) (b : List Int) (c : Int) (r0 : Tree) (d : List Int) (a : Int) : Prop := ∀ (K : Ctx), aB K [0] → qLG K Tryz.f66 (fun u G => u = .agg (aj r0) ∧ G = ⟨2, [(0, .var 59 [.row 1 (List.map (V.int .i64) d), .int .i64 a])]⟩) (xM (xG (xC (xL (cB (ac Tryz.f66)))))) [.blk 0, .seq (xJ (ac Tryz.f66))] 168 (mkF 168 0 [(0, .ptr 0 0), (1, .int .i64 p1), (4, .ptr 1 0)]) ⟨2, [(1, .var 30 [.int .i64 0, .str [], .nils, .nils]), (0, .var 59 [.row 1 (List.map (V.int .i64) b), .int .i64 c])]⟩
def ec (m : Nat) (p1 : Int) (b : List Int) (c d : Int) (r0 : Tree) (e : List Int) (a : Int) : Prop := ∀ (K : Ctx), aB K [0] → qLG K Tryz.f66 (fun u G => u = .agg (aj r0) ∧ G = ⟨2, [(0, .var 59 [.row 1 (List.map (V.int .i64) e), .int .i64 a])]⟩) (xK (xF (cB (ac Tryz.f66)))) [.blk 0, .seq (xJ (ac Tryz.f66))] 168 (mkF 168 0 [(0, .ptr 0 0), (1, .int .i64 p1), (4, .ptr 1 0), (24, .int .i64 d)]) ⟨2, [(1, .var 30 [.int .i64 0, .str [], .nils, .nils]), (0, .var 59 [.row 1 (List.map (V.int .i64) b), .int .i64 c])]⟩
def iR (m : Nat) (p1 : Int) (c : List Int) (d e : Int) (a : Bool) (r0 : Tree) (f : List Int) (b : Int) : Prop := ∀ (K : Ctx), aB K [0] → qLG K Tryz.f66 (fun u G => u = .agg (aj r0) ∧ G = ⟨2, [(0, .var 59 [.row 1 (List.map (V.int .i64) f), .int .i64 b])]⟩) (cB (xK (xF (cB (ac Tryz.f66))))) [.blk 0, .seq (xJ (ac Tryz.f66))] 168 (mkF 168 0 [(0, .ptr 0 0), (1, .int .i64 p1), (4, .ptr 1 0), (24, .int .i64 e), (118, .bool a)]) ⟨2, [(1, .var 30 [.int .i64 0, .str [], .nils, .nils]), (0, .var 59 [.row 1 (List.map (V.int .i64) c), .int .i64 d])]⟩
def iT (m : Nat) (p1 : Int) (b : List Int) (c : Int) (r0 : Tree) (d : List Int) (a : Int) : Prop := ∀ (K : Ctx), aB K [0] → qLG K Tryz.f66 (fun u G => u = .agg (aj r0) ∧ G = ⟨2, [(0, .var 59 [.row 1 (List.map (V.int .i64) d), .int .i64 a])]⟩) (xM (xK (xF (cB (ac Tryz.f66))))) [.blk 0, .seq (xJ (ac Tryz.f66))] 168 (mkF 168 0 [(0, .ptr 0 0), (1, .int .i64 p1), (4, .ptr 1 0)]) ⟨2, [(1, .var 30 [.int .i64 0, .str [], .nils, .nils]), (0, .var 59 [.row 1 (List.map (V.int .i64) b), .int .i64 c])]⟩
def fJ (m : Nat) (p1 : Int) (b : List Int) (c d : Int) (r0 : Tree) (e : List Int) (a : Int) : Prop := ∀ (K : Ctx), aB K [0] → qLG K Tryz.f66 (fun u G => u = .agg (aj r0) ∧ G = ⟨2, [(0, .var 59 [.row 1 (List.map (V.int .i64) e), .int .i64 a])]⟩) (xK (xL (cB (ac Tryz.f66)))) [.blk 0, .seq (xJ (ac Tryz.f66))] 168 (mkF 168 0 [(0, .ptr 0 0), (1, .int .i64 p1), (4, .ptr 1 0), (24, .int .i64 d)]) ⟨2, [(1, .var 30 [.int .i64 0, .str [], .nils, .nils]), (0, .var 59 [.row 1 (List.map (V.int .i64) b), .int .i64 c])]⟩
def lO (m : Nat) (p1 : Int) (b : List Int) (c : Int) (r0 : Tree) (d : List Int) (a : Int) : Prop := ∀ (K : Ctx), aB K [0] → qLG K Tryz.f66 (fun u G => u = .agg (aj r0) ∧ G = ⟨2, [(0, .var 59 [.row 1 (List.map (V.int .i64) d), .int .i64 a])]⟩) (xM (xK (xL (cB (ac Tryz.f66))))) [.blk 0, .seq (xJ (ac Tryz.f66))] 168 (mkF 168 0 [(0, .ptr 0 0), (1, .int .i64 p1), (4, .ptr 1 0)]) ⟨2, [(1, .var 30 [.int .i64 0, .str [], .nils, .nils]), (0, .var 59 [.row 1 (List.map (V.int .i64) b), .int .i64 c])]⟩
theorem gj (m : Nat) (g : List Int) (f p1 : Int) (r0 : Tree) (e : List Int) (b : Int) (h : ∃ a c d, aC g f 14 a c d ∧ ((p1 < 1) → ((5 < a) → InI (a - 6) ∧ ((5 < (a - 6)) → ch m p1 c d 0 r0 e b) ∧ ((¬ 5 < (a - 6)) → ch m p1 c d (a - 6) r0 e b)) ∧ ((¬ 5 < a) → ch m p1 c d a r0 e b)) ∧ ((¬ p1 < 1) → ch m p1 c d a r0 e b)) : aK g f p1 r0 e b := by
 refine am 168 [0] Tryz.func66 rfl rfl rfl (aQ rfl) fun K hK => ?_
 refine gR 8 rfl ?_
 obtain ⟨a, c, d, hs75, h⟩ := h
 refine gC hs75 [0] (by kernel_rfl) rfl rfl .rfl ⟨⟨_, rfl, ⟨rfl, aD.rfl⟩⟩, trivial⟩ rfl ?_
 rintro _ _ ⟨rfl, rfl⟩
 refine gR 9 rfl <| qBdZ 16 15 rfl rfl rfl rfl h (fun h => ?_) fun h => ?_
 refine gR 5 rfl <| qBd 19 rfl rfl rfl h (fun h => ?_) fun h => ?_
 refine gR 4 rfl ?_
 obtain ⟨hb, h⟩ := h
 refine gR 1 rfl <| gV 21 (.int .i64 (a - 6)) rfl (au hb rfl) rfl <| gR 9 rfl <| qBd 23 rfl rfl rfl h (fun h => ?_) fun h => ?_
 exact gR 5 rfl <| gJ (h K hK) [0, 1] [0] rfl hK pq4 (pqo2 rfl rfl rfl rfl) rfl
 exact gR 3 rfl <| gJ (h K hK) [0, 1] [0] rfl hK pq4 (pqo2 rfl rfl rfl rfl) rfl
 exact gR 3 rfl <| gJ (h K hK) [0, 1] [0] rfl hK pq4 (pqo2 rfl rfl rfl rfl) rfl
 exact gR 8 rfl <| gJ (h K hK) [0, 1] [0] rfl hK pq4 (pqo2 rfl rfl rfl rfl) rfl
theorem rL0_semvcsmake_Expr (m : Nat) (p1 : Int) (c : List Int) (d a : Int) (r0 : Tree) (e : List Int) (b : Int) (h : ((a = 0) → jg m p1 c d a true r0 e b) ∧ ((a ≠ 0) → jg m p1 c d a (a == 1) r0 e b)) : ch (m + 1) p1 c d a r0 e b := by
 intro K hK
 refine gR 14 rfl <| qBeZ 25 26 rfl rfl rfl rfl h (fun h => ?_) fun h => ?_
 exact gR 3 rfl <| gJ (h K hK) [0, 1] [0] rfl hK pq5 (pqo2 rfl rfl rfl rfl) rfl
 exact gR 6 rfl <| gJ (h K hK) [0, 1] [0] rfl hK pq5 (pqo2 rfl rfl rfl rfl) rfl
theorem iP (m : Nat) (p1 : Int) (e : List Int) (f j : Int) (g : Bool) (r0 : Tree) (i : List Int) (b : Int) (h : ((g = true) → ∃ a c d, aZ e f [[120], [121], [122]] a c d ∧ (Tree.node 12 a [] []) = r0 ∧ c = i ∧ d = b) ∧ ((g = false) → gk m p1 e f j r0 i b)) : jg (m + 1) p1 e f j g r0 i b := by
 intro K hK
 refine qBi 25 rfl rfl rfl h (fun h => ?_) fun h => ?_
 refine gR 5 rfl <| gFR 2 rfl rfl rfl rfl ?_
 obtain ⟨a, c, d, hs76, h⟩ := h
 refine gC hs76 [0] (by kernel_rfl) rfl rfl .rfl ⟨⟨_, rfl, ⟨rfl, aD.rfl⟩⟩, trivial⟩ rfl ?_
 rintro _ _ ⟨rfl, rfl⟩
 refine gR 7 rfl ?_
 obtain ⟨rfl, rfl, rfl⟩ := h
 exact go_sub (F' := (mkF 168 0 [(4, .ptr 1 0)])) (H' := ⟨2, [(1, .var 30 [.int .i64 ((Tree.node 12 a [] []).kind), .str ((Tree.node 12 a [] []).text), .row 1 (List.map V.str ((Tree.node 12 a [] []).leads)), .row 4 (kidsV ((Tree.node 12 a [] []).kids))]), (0, .var 59 [.row 1 (List.map (V.int .i64) c), .int .i64 d])]⟩) [0, 1] [0] rfl hK pq1 ⟨⟨_, rfl, rfl, (.cons .rfl (.cons .rfl (.cons (.nil 1) (.cons (.nil 4) .nil))))⟩, (pqo1 rfl rfl)⟩ rfl <| go_endD [1] ab (rs := [.cell 4 30]) rfl rfl ⟨rfl, rfl⟩
 exact gR 1 rfl <| gJ (h K hK) [0, 1] [0] rfl hK pq4 (pqo2 rfl rfl rfl rfl) rfl
theorem rL2_semvcsmake_Expr (m : Nat) (p1 : Int) (f : List Int) (g c : Int) (r0 : Tree) (i : List Int) (b : Int) (h : ((c = 2) → ∃ a d e, aZ f g [[48], [49], [50], [49, 48]] a d e ∧ (Tree.node 10 a [] []) = r0 ∧ d = i ∧ e = b) ∧ ((c ≠ 2) → mE m p1 f g c r0 i b)) : gk (m + 1) p1 f g c r0 i b := by
 intro K hK
 refine gR 6 rfl <| qBeZ 32 33 rfl rfl rfl rfl h (fun h => ?_) fun h => ?_
 refine gR 5 rfl <| gFR 2 rfl rfl rfl rfl ?_
 obtain ⟨a, d, e, hs77, h⟩ := h
 refine gC hs77 [0] (by kernel_rfl) rfl rfl .rfl ⟨⟨_, rfl, ⟨rfl, aD.rfl⟩⟩, trivial⟩ rfl ?_
 rintro _ _ ⟨rfl, rfl⟩
 refine gR 7 rfl ?_
 obtain ⟨rfl, rfl, rfl⟩ := h
 exact go_sub (F' := (mkF 168 0 [(4, .ptr 1 0)])) (H' := ⟨2, [(1, .var 30 [.int .i64 ((Tree.node 10 a [] []).kind), .str ((Tree.node 10 a [] []).text), .row 1 (List.map V.str ((Tree.node 10 a [] []).leads)), .row 4 (kidsV ((Tree.node 10 a [] []).kids))]), (0, .var 59 [.row 1 (List.map (V.int .i64) d), .int .i64 e])]⟩) [0, 1] [0] rfl hK pq1 ⟨⟨_, rfl, rfl, (.cons .rfl (.cons .rfl (.cons (.nil 1) (.cons (.nil 4) .nil))))⟩, (pqo1 rfl rfl)⟩ rfl <| go_endD [1] ab (rs := [.cell 4 30]) rfl rfl ⟨rfl, rfl⟩
 exact gR 1 rfl <| gJ (h K hK) [0, 1] [0] rfl hK pq4 (pqo2 rfl rfl rfl rfl) rfl
theorem ej (m : Nat) (p1 : Int) (f : List Int) (g c : Int) (r0 : Tree) (i : List Int) (b : Int) (h : ((c = 3) → ∃ a d e, aZ f g [[34, 34], [34, 97, 34], [34, 35, 32, 98, 34]] a d e ∧ (Tree.node 11 a [] []) = r0 ∧ d = i ∧ e = b) ∧ ((c ≠ 3) → mD m p1 f g c r0 i b)) : mE (m + 1) p1 f g c r0 i b := by
 intro K hK
 refine gR 6 rfl <| qBeZ 38 39 rfl rfl rfl rfl h (fun h => ?_) fun h => ?_
 refine gR 5 rfl <| gFR 2 rfl rfl rfl rfl ?_
 obtain ⟨a, d, e, hs78, h⟩ := h
 refine gC hs78 [0] (by kernel_rfl) rfl rfl .rfl ⟨⟨_, rfl, ⟨rfl, aD.rfl⟩⟩, trivial⟩ rfl ?_
 rintro _ _ ⟨rfl, rfl⟩
 refine gR 7 rfl ?_
 obtain ⟨rfl, rfl, rfl⟩ := h
 exact go_sub (F' := (mkF 168 0 [(4, .ptr 1 0)])) (H' := ⟨2, [(1, .var 30 [.int .i64 ((Tree.node 11 a [] []).kind), .str ((Tree.node 11 a [] []).text), .row 1 (List.map V.str ((Tree.node 11 a [] []).leads)), .row 4 (kidsV ((Tree.node 11 a [] []).kids))]), (0, .var 59 [.row 1 (List.map (V.int .i64) d), .int .i64 e])]⟩) [0, 1] [0] rfl hK pq1 ⟨⟨_, rfl, rfl, (.cons .rfl (.cons .rfl (.cons (.nil 1) (.cons (.nil 4) .nil))))⟩, (pqo1 rfl rfl)⟩ rfl <| go_endD [1] ab (rs := [.cell 4 30]) rfl rfl ⟨rfl, rfl⟩
 exact gR 1 rfl <| gJ (h K hK) [0, 1] [0] rfl hK pq4 (pqo2 rfl rfl rfl rfl) rfl
theorem fK (m : Nat) (p1 : Int) (f : List Int) (g c : Int) (r0 : Tree) (i : List Int) (b : Int) (h : ((c = 4) → ∃ a d e, aC f g 2 a d e ∧ InI (13 + a) ∧ (Tree.node (13 + a) [] [] []) = r0 ∧ d = i ∧ e = b) ∧ ((c ≠ 4) → mx m p1 f g c r0 i b)) : mD (m + 1) p1 f g c r0 i b := by
 intro K hK
 refine gR 6 rfl <| qBeZ 44 45 rfl rfl rfl rfl h (fun h => ?_) fun h => ?_
 refine gR 4 rfl ?_
 obtain ⟨a, d, e, hs79, h⟩ := h
 refine gC hs79 [0] (by kernel_rfl) rfl rfl .rfl ⟨⟨_, rfl, ⟨rfl, aD.rfl⟩⟩, trivial⟩ rfl ?_
 rintro _ _ ⟨rfl, rfl⟩
 obtain ⟨hb, h⟩ := h
 refine gR 1 rfl <| gV 48 (.int .i64 (13 + a)) rfl (au hb rfl) rfl <| gR 7 rfl ?_
 obtain ⟨rfl, rfl, rfl⟩ := h
 exact go_sub (F' := (mkF 168 0 [(4, .ptr 1 0)])) (H' := ⟨2, [(1, .var 30 [.int .i64 ((Tree.node (13 + a) [] [] []).kind), .str ((Tree.node (13 + a) [] [] []).text), .row 1 (List.map V.str ((Tree.node (13 + a) [] [] []).leads)), .row 4 (kidsV ((Tree.node (13 + a) [] [] []).kids))]), (0, .var 59 [.row 1 (List.map (V.int .i64) d), .int .i64 e])]⟩) [0, 1] [0] rfl hK pq1 ⟨⟨_, rfl, rfl, (.cons .rfl (.cons .rfl (.cons (.nil 1) (.cons (.nil 4) .nil))))⟩, (pqo1 rfl rfl)⟩ rfl <| go_endD [1] ab (rs := [.cell 4 30]) rfl rfl ⟨rfl, rfl⟩
 exact gR 1 rfl <| gJ (h K hK) [0, 1] [0] rfl hK pq4 (pqo2 rfl rfl rfl rfl) rfl
theorem iL (m : Nat) (p1 : Int) (g : List Int) (i d : Int) (r0 : Tree) (e : List Int) (c : Int) (h : ((d = 5) → ∃ f a b, aC g i 3 f a b ∧ ((f = 0) → (Tree.node 15 [] [] []) = r0 ∧ a = e ∧ b = c) ∧ ((f ≠ 0) → (Tree.node 10 [51] [] []) = r0 ∧ a = e ∧ b = c)) ∧ ((d ≠ 5) → gm m p1 g i d r0 e c)) : mx (m + 1) p1 g i d r0 e c := by
 intro K hK
 refine gR 6 rfl <| qBeZ 50 51 rfl rfl rfl rfl h (fun h => ?_) fun h => ?_
 refine gR 5 rfl ?_
 obtain ⟨f, a, b, hs80, h⟩ := h
 refine gC hs80 [0] (by kernel_rfl) rfl rfl .rfl ⟨⟨_, rfl, ⟨rfl, aD.rfl⟩⟩, trivial⟩ rfl ?_
 rintro _ _ ⟨rfl, rfl⟩
 refine gR 3 rfl <| qBe 54 rfl rfl rfl h (fun h => ?_) fun h => ?_
 refine gR 11 rfl ?_
 obtain ⟨rfl, rfl, rfl⟩ := h
 exact go_sub (F' := (mkF 168 0 [(4, .ptr 1 0)])) (H' := ⟨2, [(1, .var 30 [.int .i64 ((Tree.node 15 [] [] []).kind), .str ((Tree.node 15 [] [] []).text), .row 1 (List.map V.str ((Tree.node 15 [] [] []).leads)), .row 4 (kidsV ((Tree.node 15 [] [] []).kids))]), (0, .var 59 [.row 1 (List.map (V.int .i64) a), .int .i64 b])]⟩) [0, 1] [0] rfl hK pq1 ⟨⟨_, rfl, rfl, (.cons .rfl (.cons .rfl (.cons (.nil 1) (.cons (.nil 4) .nil))))⟩, (pqo1 rfl rfl)⟩ rfl <| go_endD [1] ab (rs := [.cell 4 30]) rfl rfl ⟨rfl, rfl⟩
 refine gR 12 rfl ?_
 obtain ⟨rfl, rfl, rfl⟩ := h
 exact go_sub (F' := (mkF 168 0 [(4, .ptr 1 0)])) (H' := ⟨2, [(1, .var 30 [.int .i64 ((Tree.node 10 [51] [] []).kind), .str ((Tree.node 10 [51] [] []).text), .row 1 (List.map V.str ((Tree.node 10 [51] [] []).leads)), .row 4 (kidsV ((Tree.node 10 [51] [] []).kids))]), (0, .var 59 [.row 1 (List.map (V.int .i64) a), .int .i64 b])]⟩) [0, 1] [0] rfl hK pq1 ⟨⟨_, rfl, rfl, (.cons .rfl (.cons .rfl (.cons (.nil 1) (.cons (.nil 4) .nil))))⟩, (pqo1 rfl rfl)⟩ rfl <| go_endD [1] ab (rs := [.cell 4 30]) rfl rfl ⟨rfl, rfl⟩
 exact gR 1 rfl <| gJ (h K hK) [0, 1] [0] rfl hK pq4 (pqo2 rfl rfl rfl rfl) rfl
theorem rL6_semvcsmake_Expr (m : Nat) (p1 : Int) (c : List Int) (d a : Int) (r0 : Tree) (e : List Int) (b : Int) (h : ((a = 6) → jk m p1 c d a true r0 e b) ∧ ((a ≠ 6) → jk m p1 c d a (a == 7) r0 e b)) : gm (m + 1) p1 c d a r0 e b := by
 intro K hK
 refine gR 7 rfl <| qBeZ 57 58 rfl rfl rfl rfl h (fun h => ?_) fun h => ?_
 exact gR 3 rfl <| gJ (h K hK) [0, 1] [0] rfl hK pq5 (pqo2 rfl rfl rfl rfl) rfl
 exact gR 6 rfl <| gJ (h K hK) [0, 1] [0] rfl hK pq5 (pqo2 rfl rfl rfl rfl) rfl
theorem iN (m : Nat) (p1 : Int) (b : List Int) (c f : Int) (d : Bool) (r0 : Tree) (e : List Int) (a : Int) (h : ((d = true) → jm m p1 b c r0 e a) ∧ ((d = false) → eK m p1 b c f r0 e a)) : jk (m + 1) p1 b c f d r0 e a := by
 intro K hK
 refine qBi 57 rfl rfl rfl h (fun h => ?_) fun h => ?_
 exact gR 1 rfl <| gJ (h K hK) [0, 1] [0] rfl hK pq3 (pqo2 rfl rfl rfl rfl) rfl
 exact gR 1 rfl <| gJ (h K hK) [0, 1] [0] rfl hK pq4 (pqo2 rfl rfl rfl rfl) rfl
theorem qa (m : Nat) (p1 : Int) (i : List Int) (j : Int) (r0 : Tree) (k : List Int) (a : Int) (h : ∃ b c d, aZ i j [[102], [103], [104], [65, 46, 102], [66, 46, 103], [65, 46, 104]] b c d ∧ ∃ e f g, aC c d 4 e f g ∧ fL m p1 b f g ([] : List Tree) e r0 k a) : jm (m + 1) p1 i j r0 k a := by
 intro K hK
 refine gR 4 rfl <| gFR 2 rfl rfl rfl rfl ?_
 obtain ⟨b, c, d, hs81, h⟩ := h
 refine gC hs81 [0] (by kernel_rfl) rfl rfl .rfl ⟨⟨_, rfl, ⟨rfl, aD.rfl⟩⟩, trivial⟩ rfl ?_
 rintro _ _ ⟨rfl, rfl⟩
 refine gR 9 rfl ?_
 obtain ⟨e, f, g, hs82, h⟩ := h
 refine gC hs82 [0] (by kernel_rfl) rfl rfl .rfl ⟨⟨_, rfl, ⟨rfl, aD.rfl⟩⟩, trivial⟩ rfl ?_
 rintro _ _ ⟨rfl, rfl⟩
 exact gR 4 rfl <| go_loop m <| gNC 4 3 30 4 rfl rfl rfl rfl <| gJ (h K _ hK (by omega)) [0, 1, 4, 6] [0] rfl hK pq5 ⟨⟨_, rfl, rfl, rfl, rfl⟩, (pqo3 rfl rfl rfl rfl rfl rfl)⟩ rfl
theorem lP (m : Nat) (p1 : Int) (f : List Int) (g e : Int) (r0 : Tree) (i : List Int) (b : Int) (h : ((e = 8) → ∃ a c d, aC f g 3 a c d ∧ InI (1 + a) ∧ fO m p1 c d ([] : List Tree) (1 + a) r0 i b) ∧ ((e ≠ 8) → fM m p1 f g e r0 i b)) : eK (m + 1) p1 f g e r0 i b := by
 intro K hK
 refine gR 6 rfl <| gB 82 rfl rfl rfl ?_ ?_ <;> intro hd
 refine gT 83 rfl hd rfl ?_
 replace hd := (eq_of_beq hd)
 replace h := h.1 hd
 refine gR 12 rfl ?_
 obtain ⟨a, c, d, hs83, h⟩ := h
 refine gC hs83 [0] (by kernel_rfl) rfl rfl .rfl ⟨⟨_, rfl, ⟨rfl, aD.rfl⟩⟩, trivial⟩ rfl ?_
 rintro _ _ ⟨rfl, rfl⟩
 obtain ⟨hb, h⟩ := h
 exact gR 1 rfl <| gV 87 (.int .i64 (1 + a)) rfl (au hb rfl) rfl <| gR 4 rfl <| go_loop m <| gNC 2 3 30 4 rfl rfl rfl rfl <| gJ (h K _ hK (by omega)) [0, 1, 2, 4] [0] rfl hK pq5 ⟨⟨_, rfl, rfl, rfl, rfl⟩, (pqo3 rfl rfl rfl rfl rfl rfl)⟩ rfl
 refine gF 83 rfl hd rfl ?_
 replace hd := (ne_of_beq_false hd)
 replace h := h.2 hd
 exact gR 1 rfl <| gJ (h K hK) [0, 1] [0] rfl hK pq4 (pqo2 rfl rfl rfl rfl) rfl
theorem lC (m : Nat) (p1 : Int) (d : List UInt8) (e : List Int) (f : Int) (b : List Tree) (c : Int) (r0 : Tree) (l : List Int) (g : Int) (h : ((0 < c) → InI (p1 - 1) ∧ ∃ a i k, aK e f (p1 - 1) a i k ∧ (b ++ [(Tree.node 17 [] [] [a])]).length ≤ 1000000000 ∧ InI (c - 1) ∧ fL m p1 d i k (b ++ [(Tree.node 17 [] [] [a])]) (c - 1) r0 l g) ∧ ((¬ 0 < c) → (Tree.node 16 d [] b) = r0 ∧ e = l ∧ f = g)) : fL (m + 1) p1 d e f b c r0 l g := by
 intro K j1 hK hj1
 obtain ⟨j1, rfl⟩ : ∃ j, j1 = j + 1 := ⟨j1 - 1, by omega⟩
 refine gR 7 rfl <| gB 67 rfl rfl rfl ?_ ?_ <;> intro hd
 replace hd := (of_decide_eq_true hd)
 replace h := h.1 hd
 refine gR 5 rfl <| gDs [2] 11 12 rfl (by kernel_rfl) (by kernel_rfl) <| gDr [(0, 2), (1, 3), (2, 2), (3, 0)] (by kernel_rfl) rfl rfl ?_
 obtain ⟨hb, h⟩ := h
 refine gDr [(4, 0)] (by kernel_rfl) rfl rfl <| gV 74 (.int .i64 (p1 - 1)) rfl (au hb rfl) rfl ?_
 obtain ⟨a, i, k, hs84, h⟩ := h
 refine gDC 5 hs84 [0] (by kernel_rfl) rfl (by kernel_rfl) rfl rfl .rfl ⟨⟨_, rfl, ⟨rfl, aD.rfl⟩⟩, trivial⟩ (by kernel_rfl) rfl ?_
 rintro _ _ ⟨rfl, rfl⟩
 refine gDr [(6, 0)] (by kernel_rfl) rfl rfl <| gHR 6 (kidsV [a]) rfl (lm a) rfl <| gDr [(7, 0)] (by kernel_rfl) rfl rfl <| gFR 6 rfl (dd _) rfl rfl <| gS 77 (.agg [.int .i64 17, .str [], .row 1 [], .row 4 (kidsV [a])]) rfl (.agg (.cons .rfl (.cons .rfl (.cons (.nil 1) (.cons .rfl .nil))))) rfl <| gDr [(8, 0)] (by kernel_rfl) rfl rfl <| gHR 7 (kidsV [(Tree.node 17 [] [] [a])]) rfl (lm (Tree.node 17 [] [] [a])) rfl ?_
 obtain ⟨hb, h⟩ := h
 refine bY 9 (.repl 3 (.row 30 4 (kidsV (b ++ [(Tree.node 17 [] [] [a])])))) rfl (by kernel_rfl) (bP ab rfl rfl rfl rfl rfl (fx b [(Tree.node 17 [] [] [a])]).symm (by rw [aR]; exact hb)) (okR rfl) rfl (by kernel_rfl) rfl rfl ?_
 refine gDr [(10, 0), (11, 1)] (by kernel_rfl) rfl rfl <| gDe (by kernel_rfl) <| gR 4 rfl ?_
 obtain ⟨hb, h⟩ := h
 exact gR 1 rfl <| gV 69 (.int .i64 (c - 1)) rfl (au hb rfl) rfl <| gR 2 rfl <| go_xloop <| gJ (h K _ hK (by omega)) [0, 1, 2, 8] [0] rfl hK pq5 ⟨⟨_, rfl, rfl, rfl, (eY _ (b ++ [(Tree.node 17 [] [] [a])])).symm⟩, (pqo3 rfl rfl rfl rfl rfl rfl)⟩ rfl
 replace hd := (of_decide_eq_false hd)
 replace h := h.2 hd
 refine gR 3 rfl <| go_xloopE <| gR 11 rfl <| gFR 3 rfl (dd _) rfl rfl ?_
 obtain ⟨rfl, rfl, rfl⟩ := h
 exact go_sub (F' := (mkF 168 0 [(4, .ptr 1 0)])) (H' := ⟨2, [(1, .var 30 [.int .i64 ((Tree.node 16 d [] b).kind), .str ((Tree.node 16 d [] b).text), .row 1 (List.map V.str ((Tree.node 16 d [] b).leads)), .row 4 (kidsV ((Tree.node 16 d [] b).kids))]), (0, .var 59 [.row 1 (List.map (V.int .i64) e), .int .i64 f])]⟩) [0, 1] [0] rfl hK pq1 ⟨⟨_, rfl, rfl, (.cons .rfl (.cons .rfl (.cons (.nil 1) (.cons .rfl .nil))))⟩, (pqo1 rfl rfl)⟩ rfl <| go_endD [1] ab (rs := [.cell 4 30]) rfl rfl ⟨rfl, rfl⟩
theorem lD (m : Nat) (p1 : Int) (d : List Int) (e : Int) (a : List Tree) (c : Int) (r0 : Tree) (k : List Int) (f : Int) (h : ((0 < c) → InI (p1 - 1) ∧ ∃ b g i, aK d e (p1 - 1) b g i ∧ (a ++ [b]).length ≤ 1000000000 ∧ InI (c - 1) ∧ fO m p1 g i (a ++ [b]) (c - 1) r0 k f) ∧ ((¬ 0 < c) → (Tree.node 18 [] [] a) = r0 ∧ d = k ∧ e = f)) : fO (m + 1) p1 d e a c r0 k f := by
 intro K j1 hK hj1
 obtain ⟨j1, rfl⟩ : ∃ j, j1 = j + 1 := ⟨j1 - 1, by omega⟩
 refine gR 7 rfl <| gB 89 rfl rfl rfl ?_ ?_ <;> intro hd
 replace hd := (of_decide_eq_true hd)
 replace h := h.1 hd
 refine gR 5 rfl <| gDs [2] 9 10 rfl (by kernel_rfl) (by kernel_rfl) <| gDr [(0, 2), (1, 3), (2, 2), (3, 0)] (by kernel_rfl) rfl rfl ?_
 obtain ⟨hb, h⟩ := h
 refine gDr [(4, 0)] (by kernel_rfl) rfl rfl <| gV 96 (.int .i64 (p1 - 1)) rfl (au hb rfl) rfl ?_
 obtain ⟨b, g, i, hs85, h⟩ := h
 refine gDC 5 hs85 [0] (by kernel_rfl) rfl (by kernel_rfl) rfl rfl .rfl ⟨⟨_, rfl, ⟨rfl, aD.rfl⟩⟩, trivial⟩ (by kernel_rfl) rfl ?_
 rintro _ _ ⟨rfl, rfl⟩
 refine gDr [(6, 0)] (by kernel_rfl) rfl rfl <| gHR 6 (kidsV [b]) rfl (lm b) rfl ?_
 obtain ⟨hb, h⟩ := h
 refine bY 7 (.repl 3 (.row 30 4 (kidsV (a ++ [b])))) rfl (by kernel_rfl) (bP ab rfl rfl rfl rfl rfl (fx a [b]).symm (by rw [aR]; exact hb)) (okR rfl) rfl (by kernel_rfl) rfl rfl ?_
 refine gDr [(8, 0), (9, 1)] (by kernel_rfl) rfl rfl <| gDe (by kernel_rfl) <| gR 4 rfl ?_
 obtain ⟨hb, h⟩ := h
 exact gR 1 rfl <| gV 91 (.int .i64 (c - 1)) rfl (au hb rfl) rfl <| gR 2 rfl <| go_xloop <| gJ (h K _ hK (by omega)) [0, 1, 2, 7] [0] rfl hK pq5 ⟨⟨_, rfl, rfl, rfl, (eY _ (a ++ [b])).symm⟩, (pqo3 rfl rfl rfl rfl rfl rfl)⟩ rfl
 replace hd := (of_decide_eq_false hd)
 replace h := h.2 hd
 refine gR 3 rfl <| go_xloopE <| gR 11 rfl <| gFR 3 rfl (dd _) rfl rfl ?_
 obtain ⟨rfl, rfl, rfl⟩ := h
 exact go_sub (F' := (mkF 168 0 [(4, .ptr 1 0)])) (H' := ⟨2, [(1, .var 30 [.int .i64 ((Tree.node 18 [] [] a).kind), .str ((Tree.node 18 [] [] a).text), .row 1 (List.map V.str ((Tree.node 18 [] [] a).leads)), .row 4 (kidsV ((Tree.node 18 [] [] a).kids))]), (0, .var 59 [.row 1 (List.map (V.int .i64) d), .int .i64 e])]⟩) [0, 1] [0] rfl hK pq1 ⟨⟨_, rfl, rfl, (.cons .rfl (.cons .rfl (.cons (.nil 1) (.cons .rfl .nil))))⟩, (pqo1 rfl rfl)⟩ rfl <| go_endD [1] ab (rs := [.cell 4 30]) rfl rfl ⟨rfl, rfl⟩
theorem lv (m : Nat) (p1 : Int) (c : List Int) (d b : Int) (r0 : Tree) (e : List Int) (a : Int) (h : ((b = 9) → lM m p1 c d r0 e a) ∧ ((b ≠ 9) → ec m p1 c d b r0 e a)) : fM (m + 1) p1 c d b r0 e a := by
 intro K hK
 refine gR 6 rfl <| qBeZ 102 103 rfl rfl rfl rfl h (fun h => ?_) fun h => ?_
 exact gR 1 rfl <| gJ (h K hK) [0, 1] [0] rfl hK pq3 (pqo2 rfl rfl rfl rfl) rfl
 exact gR 1 rfl <| gJ (h K hK) [0, 1] [0] rfl hK pq4 (pqo2 rfl rfl rfl rfl) rfl
theorem px (m : Nat) (p1 : Int) (l : List Int) (n : Int) (r0 : Tree) (o : List Int) (k : Int) (h : InI (p1 - 1) ∧ ∃ a f g, aK l n (p1 - 1) a f g ∧ InI (p1 - 1) ∧ ∃ b i j, aK f g (p1 - 1) b i j ∧ InI (p1 - 1) ∧ ∃ c d e, aK i j (p1 - 1) c d e ∧ (Tree.node 19 [] [] [a, b, c]) = r0 ∧ d = o ∧ e = k) : lM (m + 1) p1 l n r0 o k := by
 intro K hK
 refine gR 4 rfl ?_
 obtain ⟨hb, h⟩ := h
 refine gR 1 rfl <| gV 106 (.int .i64 (p1 - 1)) rfl (au hb rfl) rfl ?_
 obtain ⟨a, f, g, hs86, h⟩ := h
 refine gC hs86 [0] (by kernel_rfl) rfl rfl .rfl ⟨⟨_, rfl, ⟨rfl, aD.rfl⟩⟩, trivial⟩ rfl ?_
 rintro _ _ ⟨rfl, rfl⟩
 refine gR 2 rfl ?_
 obtain ⟨hb, h⟩ := h
 refine gR 1 rfl <| gV 110 (.int .i64 (p1 - 1)) rfl (au hb rfl) rfl ?_
 obtain ⟨b, i, j, hs87, h⟩ := h
 refine gC hs87 [0] (by kernel_rfl) rfl rfl .rfl ⟨⟨_, rfl, ⟨rfl, aD.rfl⟩⟩, trivial⟩ rfl ?_
 rintro _ _ ⟨rfl, rfl⟩
 refine gR 2 rfl ?_
 obtain ⟨hb, h⟩ := h
 refine gR 1 rfl <| gV 114 (.int .i64 (p1 - 1)) rfl (au hb rfl) rfl ?_
 obtain ⟨c, d, e, hs88, h⟩ := h
 refine gC hs88 [0] (by kernel_rfl) rfl rfl .rfl ⟨⟨_, rfl, ⟨rfl, aD.rfl⟩⟩, trivial⟩ rfl ?_
 rintro _ _ ⟨rfl, rfl⟩
 refine gR 1 rfl <| gHR 8 (kidsV [a, b, c]) rfl (tt [a, b, c]) rfl <| gR 7 rfl <| gFR 8 rfl (dd _) rfl rfl ?_
 obtain ⟨rfl, rfl, rfl⟩ := h
 exact go_sub (F' := (mkF 168 0 [(4, .ptr 1 0)])) (H' := ⟨2, [(1, .var 30 [.int .i64 ((Tree.node 19 [] [] [a, b, c]).kind), .str ((Tree.node 19 [] [] [a, b, c]).text), .row 1 (List.map V.str ((Tree.node 19 [] [] [a, b, c]).leads)), .row 4 (kidsV ((Tree.node 19 [] [] [a, b, c]).kids))]), (0, .var 59 [.row 1 (List.map (V.int .i64) d), .int .i64 e])]⟩) [0, 1] [0] rfl hK pq1 ⟨⟨_, rfl, rfl, (.cons .rfl (.cons .rfl (.cons (.nil 1) (.cons .rfl .nil))))⟩, (pqo1 rfl rfl)⟩ rfl <| go_endD [1] ab (rs := [.cell 4 30]) rfl rfl ⟨rfl, rfl⟩
theorem rL14_semvcsmake_Expr (m : Nat) (p1 : Int) (c : List Int) (d a : Int) (r0 : Tree) (e : List Int) (b : Int) (h : ((a = 10) → iR m p1 c d a true r0 e b) ∧ ((a ≠ 10) → iR m p1 c d a (a == 11) r0 e b)) : ec (m + 1) p1 c d a r0 e b := by
 intro K hK
 refine gR 7 rfl <| qBeZ 118 119 rfl rfl rfl rfl h (fun h => ?_) fun h => ?_
 exact gR 3 rfl <| gJ (h K hK) [0, 1] [0] rfl hK pq5 (pqo2 rfl rfl rfl rfl) rfl
 exact gR 6 rfl <| gJ (h K hK) [0, 1] [0] rfl hK pq5 (pqo2 rfl rfl rfl rfl) rfl
theorem iw (m : Nat) (p1 : Int) (c : List Int) (d f : Int) (a : Bool) (r0 : Tree) (e : List Int) (b : Int) (h : ((a = true) → iT m p1 c d r0 e b) ∧ ((a = false) → fJ m p1 c d f r0 e b)) : iR (m + 1) p1 c d f a r0 e b := by
 intro K hK
 refine qBi 118 rfl rfl rfl h (fun h => ?_) fun h => ?_
 exact gR 1 rfl <| gJ (h K hK) [0, 1] [0] rfl hK pq3 (pqo2 rfl rfl rfl rfl) rfl
 exact gR 1 rfl <| gJ (h K hK) [0, 1] [0] rfl hK pq4 (pqo2 rfl rfl rfl rfl) rfl
theorem pg (m : Nat) (p1 : Int) (l : List Int) (n : Int) (r0 : Tree) (o : List Int) (k : Int) (h : ∃ c f g, aZ l n [[120], [121], [122]] c f g ∧ InI (p1 - 1) ∧ ∃ a i j, aK f g (p1 - 1) a i j ∧ InI (p1 - 1) ∧ ∃ b d e, aK i j (p1 - 1) b d e ∧ (Tree.node 20 c [] [a, b]) = r0 ∧ d = o ∧ e = k) : iT (m + 1) p1 l n r0 o k := by
 intro K hK
 refine gR 4 rfl <| gFR 2 rfl rfl rfl rfl ?_
 obtain ⟨c, f, g, hs89, h⟩ := h
 refine gC hs89 [0] (by kernel_rfl) rfl rfl .rfl ⟨⟨_, rfl, ⟨rfl, aD.rfl⟩⟩, trivial⟩ rfl ?_
 rintro _ _ ⟨rfl, rfl⟩
 refine gR 2 rfl ?_
 obtain ⟨hb, h⟩ := h
 refine gR 1 rfl <| gV 126 (.int .i64 (p1 - 1)) rfl (au hb rfl) rfl ?_
 obtain ⟨a, i, j, hs90, h⟩ := h
 refine gC hs90 [0] (by kernel_rfl) rfl rfl .rfl ⟨⟨_, rfl, ⟨rfl, aD.rfl⟩⟩, trivial⟩ rfl ?_
 rintro _ _ ⟨rfl, rfl⟩
 refine gR 2 rfl ?_
 obtain ⟨hb, h⟩ := h
 refine gR 1 rfl <| gV 130 (.int .i64 (p1 - 1)) rfl (au hb rfl) rfl ?_
 obtain ⟨b, d, e, hs91, h⟩ := h
 refine gC hs91 [0] (by kernel_rfl) rfl rfl .rfl ⟨⟨_, rfl, ⟨rfl, aD.rfl⟩⟩, trivial⟩ rfl ?_
 rintro _ _ ⟨rfl, rfl⟩
 refine gR 1 rfl <| gHR 8 (kidsV [a, b]) rfl (tt [a, b]) rfl <| gR 7 rfl <| gFR 8 rfl (dd _) rfl rfl ?_
 obtain ⟨rfl, rfl, rfl⟩ := h
 exact go_sub (F' := (mkF 168 0 [(4, .ptr 1 0)])) (H' := ⟨2, [(1, .var 30 [.int .i64 ((Tree.node 20 c [] [a, b]).kind), .str ((Tree.node 20 c [] [a, b]).text), .row 1 (List.map V.str ((Tree.node 20 c [] [a, b]).leads)), .row 4 (kidsV ((Tree.node 20 c [] [a, b]).kids))]), (0, .var 59 [.row 1 (List.map (V.int .i64) d), .int .i64 e])]⟩) [0, 1] [0] rfl hK pq1 ⟨⟨_, rfl, rfl, (.cons .rfl (.cons .rfl (.cons (.nil 1) (.cons .rfl .nil))))⟩, (pqo1 rfl rfl)⟩ rfl <| go_endD [1] ab (rs := [.cell 4 30]) rfl rfl ⟨rfl, rfl⟩
theorem ip (m : Nat) (p1 : Int) (e : List Int) (f g : Int) (r0 : Tree) (i : List Int) (d : Int) (h : ((g = 12) → lO m p1 e f r0 i d) ∧ ((g ≠ 12) → InI (p1 - 1) ∧ ∃ a b c, aK e f (p1 - 1) a b c ∧ (Tree.node 22 [] [] [a]) = r0 ∧ b = i ∧ c = d)) : fJ (m + 1) p1 e f g r0 i d := by
 intro K hK
 refine gR 6 rfl <| qBeZ 134 135 rfl rfl rfl rfl h (fun h => ?_) fun h => ?_
 exact gR 1 rfl <| gJ (h K hK) [0, 1] [0] rfl hK pq3 (pqo2 rfl rfl rfl rfl) rfl
 refine gR 8 rfl ?_
 obtain ⟨hb, h⟩ := h
 refine gR 1 rfl <| gV 164 (.int .i64 (p1 - 1)) rfl (au hb rfl) rfl ?_
 obtain ⟨a, b, c, hs92, h⟩ := h
 refine gC hs92 [0] (by kernel_rfl) rfl rfl .rfl ⟨⟨_, rfl, ⟨rfl, aD.rfl⟩⟩, trivial⟩ rfl ?_
 rintro _ _ ⟨rfl, rfl⟩
 refine gR 1 rfl <| gHR 4 (kidsV [a]) rfl (lm a) rfl <| gR 5 rfl <| gFR 4 rfl (dd _) rfl rfl ?_
 obtain ⟨rfl, rfl, rfl⟩ := h
 exact go_sub (F' := (mkF 168 0 [(4, .ptr 1 0)])) (H' := ⟨2, [(1, .var 30 [.int .i64 ((Tree.node 22 [] [] [a]).kind), .str ((Tree.node 22 [] [] [a]).text), .row 1 (List.map V.str ((Tree.node 22 [] [] [a]).leads)), .row 4 (kidsV ((Tree.node 22 [] [] [a]).kids))]), (0, .var 59 [.row 1 (List.map (V.int .i64) b), .int .i64 c])]⟩) [0, 1] [0] rfl hK pq1 ⟨⟨_, rfl, rfl, (.cons .rfl (.cons .rfl (.cons (.nil 1) (.cons .rfl .nil))))⟩, (pqo1 rfl rfl)⟩ rfl <| go_endD [1] ab (rs := [.cell 4 30]) rfl rfl ⟨rfl, rfl⟩
theorem li (m : Nat) (p1 : Int) (α : List Int) (β : Int) (r0 : Tree) (z : List Int) (t : Int) (h : ∃ d v w, aZ α β [[43], [45], [42], [60], [61, 61]] d v w ∧ InI (p1 - 1) ∧ ∃ a x y, dP v w (p1 - 1) a x y ∧ ∃ l n o, aC x y 3 l n o ∧ ((l = 0) → ∃ c p q, aZ n o [[43], [42]] c p q ∧ ∃ b r s, dP p q 0 b r s ∧ InI (p1 - 1) ∧ ∃ e g i, dP r s (p1 - 1) e g i ∧ (Tree.node 21 d [] [(Tree.node 21 c [] [a, b]), e]) = r0 ∧ g = z ∧ i = t) ∧ ((l ≠ 0) → InI (p1 - 1) ∧ ∃ f j k, dP n o (p1 - 1) f j k ∧ (Tree.node 21 d [] [a, f]) = r0 ∧ j = z ∧ k = t)) : lO (m + 1) p1 α β r0 z t := by
 intro K hK
 refine gR 4 rfl <| gFR 2 rfl rfl rfl rfl ?_
 obtain ⟨d, v, w, hs93, h⟩ := h
 refine gC hs93 [0] (by kernel_rfl) rfl rfl .rfl ⟨⟨_, rfl, ⟨rfl, aD.rfl⟩⟩, trivial⟩ rfl ?_
 rintro _ _ ⟨rfl, rfl⟩
 refine gR 7 rfl ?_
 obtain ⟨hb, h⟩ := h
 refine gR 1 rfl <| gV 141 (.int .i64 (p1 - 1)) rfl (au hb rfl) rfl ?_
 obtain ⟨a, x, y, hs94, h⟩ := h
 refine gC hs94 [0] (by kernel_rfl) rfl rfl .rfl ⟨⟨_, rfl, ⟨rfl, aD.rfl⟩⟩, trivial⟩ rfl ?_
 rintro _ _ ⟨rfl, rfl⟩
 refine gR 8 rfl ?_
 obtain ⟨l, n, o, hs95, h⟩ := h
 refine gC hs95 [0] (by kernel_rfl) rfl rfl .rfl ⟨⟨_, rfl, ⟨rfl, aD.rfl⟩⟩, trivial⟩ rfl ?_
 rintro _ _ ⟨rfl, rfl⟩
 refine gR 3 rfl <| qBe 145 rfl rfl rfl h (fun h => ?_) fun h => ?_
 refine gR 1 rfl <| gDs [6] 8 9 rfl (by kernel_rfl) (by kernel_rfl) <| gDr [(0, 2), (3, 3), (4, 2), (1, 0)] (by kernel_rfl) rfl rfl <| gFR 8 rfl rfl rfl rfl ?_
 obtain ⟨c, p, q, hs96, h⟩ := h
 refine gDC 2 hs96 [0] (by kernel_rfl) rfl (by kernel_rfl) rfl rfl .rfl ⟨⟨_, rfl, ⟨rfl, aD.rfl⟩⟩, trivial⟩ (by kernel_rfl) rfl ?_
 rintro _ _ ⟨rfl, rfl⟩
 obtain ⟨b, r, s, hs97, h⟩ := h
 refine gDC 5 hs97 [0] (by kernel_rfl) rfl (by kernel_rfl) rfl rfl .rfl ⟨⟨_, rfl, ⟨rfl, aD.rfl⟩⟩, trivial⟩ (by kernel_rfl) rfl ?_
 rintro _ _ ⟨rfl, rfl⟩
 refine gDr [(6, 0)] (by kernel_rfl) rfl rfl <| gHR 12 (kidsV [a, b]) rfl (tt [a, b]) rfl <| gDr [(7, 0), (8, 1)] (by kernel_rfl) rfl rfl <| gDe (by kernel_rfl) <| gR 2 rfl <| gDs [6] 8 9 rfl (by kernel_rfl) (by kernel_rfl) <| gDr [(0, 2), (1, 3), (2, 2), (3, 0)] (by kernel_rfl) rfl rfl ?_
 obtain ⟨hb, h⟩ := h
 refine gDr [(4, 0)] (by kernel_rfl) rfl rfl <| gV 158 (.int .i64 (p1 - 1)) rfl (au hb rfl) rfl ?_
 obtain ⟨e, g, i, hs98, h⟩ := h
 refine gDC 5 hs98 [0] (by kernel_rfl) rfl (by kernel_rfl) rfl rfl .rfl ⟨⟨_, rfl, ⟨rfl, aD.rfl⟩⟩, trivial⟩ (by kernel_rfl) rfl ?_
 rintro _ _ ⟨rfl, rfl⟩
 refine gFR 12 rfl (dd _) rfl rfl <| gS 155 (.agg [.int .i64 21, .str c, .row 1 [], .row 4 (kidsV [a, b])]) rfl (.agg (.cons .rfl (.cons .rfl (.cons (.nil 1) (.cons .rfl .nil))))) rfl <| gDr [(6, 0)] (by kernel_rfl) rfl rfl <| gHR 15 (kidsV [(Tree.node 21 c [] [a, b]), e]) rfl (tt [(Tree.node 21 c [] [a, b]), e]) rfl <| gDr [(7, 0), (8, 1)] (by kernel_rfl) rfl rfl <| gDe (by kernel_rfl) <| gR 4 rfl <| gFR 15 rfl (dd _) rfl rfl ?_
 obtain ⟨rfl, rfl, rfl⟩ := h
 exact go_sub (F' := (mkF 168 0 [(4, .ptr 1 0)])) (H' := ⟨2, [(1, .var 30 [.int .i64 ((Tree.node 21 d [] [(Tree.node 21 c [] [a, b]), e]).kind), .str ((Tree.node 21 d [] [(Tree.node 21 c [] [a, b]), e]).text), .row 1 (List.map V.str ((Tree.node 21 d [] [(Tree.node 21 c [] [a, b]), e]).leads)), .row 4 (kidsV ((Tree.node 21 d [] [(Tree.node 21 c [] [a, b]), e]).kids))]), (0, .var 59 [.row 1 (List.map (V.int .i64) g), .int .i64 i])]⟩) [0, 1] [0] rfl hK pq1 ⟨⟨_, rfl, rfl, (.cons .rfl (.cons .rfl (.cons (.nil 1) (.cons .rfl .nil))))⟩, (pqo1 rfl rfl)⟩ rfl <| go_endD [1] ab (rs := [.cell 4 30]) rfl rfl ⟨rfl, rfl⟩
 refine gR 4 rfl <| gDs [6] 8 9 rfl (by kernel_rfl) (by kernel_rfl) <| gDr [(0, 2), (1, 3), (2, 2), (3, 0)] (by kernel_rfl) rfl rfl ?_
 obtain ⟨hb, h⟩ := h
 refine gDr [(4, 0)] (by kernel_rfl) rfl rfl <| gV 158 (.int .i64 (p1 - 1)) rfl (au hb rfl) rfl ?_
 obtain ⟨f, j, k, hs99, h⟩ := h
 refine gDC 5 hs99 [0] (by kernel_rfl) rfl (by kernel_rfl) rfl rfl .rfl ⟨⟨_, rfl, ⟨rfl, aD.rfl⟩⟩, trivial⟩ (by kernel_rfl) rfl ?_
 rintro _ _ ⟨rfl, rfl⟩
 refine gDr [(6, 0)] (by kernel_rfl) rfl rfl <| gHR 10 (kidsV [a, f]) rfl (tt [a, f]) rfl <| gDr [(7, 0), (8, 1)] (by kernel_rfl) rfl rfl <| gDe (by kernel_rfl) <| gR 4 rfl <| gFR 10 rfl (dd _) rfl rfl ?_
 obtain ⟨rfl, rfl, rfl⟩ := h
 exact go_sub (F' := (mkF 168 0 [(4, .ptr 1 0)])) (H' := ⟨2, [(1, .var 30 [.int .i64 ((Tree.node 21 d [] [a, f]).kind), .str ((Tree.node 21 d [] [a, f]).text), .row 1 (List.map V.str ((Tree.node 21 d [] [a, f]).leads)), .row 4 (kidsV ((Tree.node 21 d [] [a, f]).kids))]), (0, .var 59 [.row 1 (List.map (V.int .i64) j), .int .i64 k])]⟩) [0, 1] [0] rfl hK pq1 ⟨⟨_, rfl, rfl, (.cons .rfl (.cons .rfl (.cons (.nil 1) (.cons .rfl .nil))))⟩, (pqo1 rfl rfl)⟩ rfl <| go_endD [1] ab (rs := [.cell 4 30]) rfl rfl ⟨rfl, rfl⟩
def gQ (m : Nat) (a : List UInt8) (c : List Int) (d : Int) (e : List Tree) (f : Int) (r0 : Tree) (g : List Int) (b : Int) : Prop := ∀ (K : Ctx) (j1 : Nat), aB K [0] → m ≤ j1 → qLG K Tryz.f37 (fun u G => u = .agg (aj r0) ∧ G = ⟨2, [(0, .var 59 [.row 1 (List.map (V.int .i64) g), .int .i64 b])]⟩) (xN (ac Tryz.f37)) [.loop (xN (ac Tryz.f37)) j1, .blk 0, .seq (xJ (ac Tryz.f37))] 47 (mkF 47 0 [(0, .ptr 0 0), (2, .ptr 1 0), (3, .ptr 2 0), (4, .int .i64 f)]) ⟨4, [(3, .row 30 4 (kidsV e)), (2, .var 30 [.int .i64 2, .str a, .nils, .sl 3]), (1, .var 30 [.int .i64 0, .str [], .nils, .nils]), (0, .var 59 [.row 1 (List.map (V.int .i64) c), .int .i64 d])]⟩
theorem mM (m : Nat) (v : List Int) (q : Int) (r0 : Tree) (r : List Int) (c : Int) (h : ∃ k l n, aC v q 5 k l n ∧ ((k = 0) → ∃ b s t, aZ l n [[84], [85]] b s t ∧ ∃ a o p, cm s t 2 a o p ∧ (Tree.node 3 b [] [a]) = r0 ∧ o = r ∧ p = c) ∧ ((k ≠ 0) → ∃ d e f, aZ l n [[102], [103], [104]] d e f ∧ ∃ g i j, aC e f 4 g i j ∧ gQ m d i j ([] : List Tree) g r0 r c)) : kI v q r0 r c := by
 refine am 47 [0] Tryz.func37 rfl rfl rfl (aQ rfl) fun K hK => ?_
 refine gR 9 rfl ?_
 obtain ⟨k, l, n, hs19, h⟩ := h
 refine gC hs19 [0] (by kernel_rfl) rfl rfl .rfl ⟨⟨_, rfl, ⟨rfl, aD.rfl⟩⟩, trivial⟩ rfl ?_
 rintro _ _ ⟨rfl, rfl⟩
 refine gR 3 rfl <| gB 7 rfl rfl rfl ?_ ?_ <;> intro hd
 replace hd := (eq_of_beq hd)
 replace h := h.1 hd
 refine gR 5 rfl <| gFR 3 rfl rfl rfl rfl ?_
 obtain ⟨b, s, t, hs20, h⟩ := h
 refine gC hs20 [0] (by kernel_rfl) rfl rfl .rfl ⟨⟨_, rfl, ⟨rfl, aD.rfl⟩⟩, trivial⟩ rfl ?_
 rintro _ _ ⟨rfl, rfl⟩
 refine gR 1 rfl ?_
 obtain ⟨a, o, p, hs21, h⟩ := h
 refine gC hs21 [0] (by kernel_rfl) rfl rfl .rfl ⟨⟨_, rfl, ⟨rfl, aD.rfl⟩⟩, trivial⟩ rfl ?_
 rintro _ _ ⟨rfl, rfl⟩
 refine gR 1 rfl <| gHR 7 (kidsV [a]) rfl (lm a) rfl <| gR 6 rfl <| gFR 7 rfl (dd _) rfl rfl ?_
 obtain ⟨rfl, rfl, rfl⟩ := h
 exact go_sub (F' := (mkF 47 0 [(2, .ptr 1 0)])) (H' := ⟨2, [(1, .var 30 [.int .i64 ((Tree.node 3 b [] [a]).kind), .str ((Tree.node 3 b [] [a]).text), .row 1 (List.map V.str ((Tree.node 3 b [] [a]).leads)), .row 4 (kidsV ((Tree.node 3 b [] [a]).kids))]), (0, .var 59 [.row 1 (List.map (V.int .i64) o), .int .i64 p])]⟩) [0, 1] [0] rfl hK pq1 ⟨⟨_, rfl, rfl, (.cons .rfl (.cons .rfl (.cons (.nil 1) (.cons .rfl .nil))))⟩, (pqo1 rfl rfl)⟩ rfl <| go_endD [1] ab (rs := [.cell 2 30]) rfl rfl ⟨rfl, rfl⟩
 replace hd := (ne_of_beq_false hd)
 replace h := h.2 hd
 refine gR 7 rfl <| gFR 3 rfl rfl rfl rfl ?_
 obtain ⟨d, e, f, hs22, h⟩ := h
 refine gC hs22 [0] (by kernel_rfl) rfl rfl .rfl ⟨⟨_, rfl, ⟨rfl, aD.rfl⟩⟩, trivial⟩ rfl ?_
 rintro _ _ ⟨rfl, rfl⟩
 refine gR 9 rfl ?_
 obtain ⟨g, i, j, hs23, h⟩ := h
 refine gC hs23 [0] (by kernel_rfl) rfl rfl .rfl ⟨⟨_, rfl, ⟨rfl, aD.rfl⟩⟩, trivial⟩ rfl ?_
 rintro _ _ ⟨rfl, rfl⟩
 exact gR 4 rfl <| go_loop m <| gNC 5 3 30 4 rfl rfl rfl rfl <| gJ (h K _ hK (by omega)) [0, 1, 5, 7] [0] rfl hK pq4 ⟨⟨_, rfl, rfl, rfl, rfl⟩, (pqo3 rfl rfl rfl rfl rfl rfl)⟩ rfl
theorem mH (m : Nat) (f : List UInt8) (n : List Int) (o : Int) (b : List Tree) (g : Int) (r0 : Tree) (p : List Int) (l : Int) (h : ((0 < g) → ∃ e q r, aZ n o [[120], [121], [122]] e q r ∧ ∃ c s t, cm q r 1 c s t ∧ (b ++ [(Tree.node 4 e [] [c])]).length ≤ 1000000000 ∧ InI (g - 1) ∧ gQ m f s t (b ++ [(Tree.node 4 e [] [c])]) (g - 1) r0 p l) ∧ ((¬ 0 < g) → ∃ d v w, cm n o 1 d v w ∧ ∃ a i k, aK v w 3 a i k ∧ (b ++ [d, a]).length ≤ 1000000000 ∧ (Tree.node 2 f [] (b ++ [d, a])) = r0 ∧ i = p ∧ k = l)) : gQ (m + 1) f n o b g r0 p l := by
 intro K j1 hK hj1
 obtain ⟨j1, rfl⟩ : ∃ j, j1 = j + 1 := ⟨j1 - 1, by omega⟩
 refine gR 7 rfl <| gB 22 rfl rfl rfl ?_ ?_ <;> intro hd
 replace hd := (of_decide_eq_true hd)
 replace h := h.1 hd
 refine gR 5 rfl <| gDs [2] 12 13 rfl (by kernel_rfl) (by kernel_rfl) <| gDr [(0, 2), (1, 3), (2, 2), (5, 2), (3, 0)] (by kernel_rfl) rfl rfl <| gFR 4 rfl rfl rfl rfl ?_
 obtain ⟨e, q, r, hs24, h⟩ := h
 refine gDC 4 hs24 [0] (by kernel_rfl) rfl (by kernel_rfl) rfl rfl .rfl ⟨⟨_, rfl, ⟨rfl, aD.rfl⟩⟩, trivial⟩ (by kernel_rfl) rfl ?_
 rintro _ _ ⟨rfl, rfl⟩
 obtain ⟨c, s, t, hs25, h⟩ := h
 refine gDC 6 hs25 [0] (by kernel_rfl) rfl (by kernel_rfl) rfl rfl .rfl ⟨⟨_, rfl, ⟨rfl, aD.rfl⟩⟩, trivial⟩ (by kernel_rfl) rfl ?_
 rintro _ _ ⟨rfl, rfl⟩
 refine gDr [(7, 0)] (by kernel_rfl) rfl rfl <| gHR 8 (kidsV [c]) rfl (lm c) rfl <| gDr [(8, 0)] (by kernel_rfl) rfl rfl <| gFR 8 rfl (dd _) rfl rfl <| gS 33 (.agg [.int .i64 4, .str e, .row 1 [], .row 4 (kidsV [c])]) rfl (.agg (.cons .rfl (.cons .rfl (.cons (.nil 1) (.cons .rfl .nil))))) rfl <| gDr [(9, 0)] (by kernel_rfl) rfl rfl <| gHR 9 (kidsV [(Tree.node 4 e [] [c])]) rfl (lm (Tree.node 4 e [] [c])) rfl ?_
 obtain ⟨hb, h⟩ := h
 refine bY 10 (.repl 3 (.row 30 4 (kidsV (b ++ [(Tree.node 4 e [] [c])])))) rfl (by kernel_rfl) (bP ab rfl rfl rfl rfl rfl (fx b [(Tree.node 4 e [] [c])]).symm (by rw [aR]; exact hb)) (okR rfl) rfl (by kernel_rfl) rfl rfl ?_
 refine gDr [(11, 0), (12, 1)] (by kernel_rfl) rfl rfl <| gDe (by kernel_rfl) <| gR 4 rfl ?_
 obtain ⟨hb, h⟩ := h
 exact gR 1 rfl <| gV 24 (.int .i64 (g - 1)) rfl (au hb rfl) rfl <| gR 2 rfl <| go_xloop <| gJ (h K _ hK (by omega)) [0, 1, 2, 10] [0] rfl hK pq4 ⟨⟨_, rfl, rfl, rfl, (eY _ (b ++ [(Tree.node 4 e [] [c])])).symm⟩, (pqo3 rfl rfl rfl rfl rfl rfl)⟩ rfl
 replace hd := (of_decide_eq_false hd)
 replace h := h.2 hd
 refine gR 3 rfl <| go_xloopE <| gR 3 rfl <| gDs [2] 9 10 rfl (by kernel_rfl) (by kernel_rfl) <| gDr [(0, 2), (1, 3), (2, 2), (4, 2)] (by kernel_rfl) rfl rfl ?_
 obtain ⟨d, v, w, hs26, h⟩ := h
 refine gDC 3 hs26 [0] (by kernel_rfl) rfl (by kernel_rfl) rfl rfl .rfl ⟨⟨_, rfl, ⟨rfl, aD.rfl⟩⟩, trivial⟩ (by kernel_rfl) rfl ?_
 rintro _ _ ⟨rfl, rfl⟩
 obtain ⟨a, i, k, hs27, h⟩ := h
 refine gDC 5 hs27 [0] (by kernel_rfl) rfl (by kernel_rfl) rfl rfl .rfl ⟨⟨_, rfl, ⟨rfl, aD.rfl⟩⟩, trivial⟩ (by kernel_rfl) rfl ?_
 rintro _ _ ⟨rfl, rfl⟩
 refine gDr [(6, 0)] (by kernel_rfl) rfl rfl <| gHR 8 (kidsV [d, a]) rfl (tt [d, a]) rfl ?_
 obtain ⟨hb, h⟩ := h
 refine bY 7 (.repl 3 (.row 30 4 (kidsV (b ++ [d, a])))) rfl (by kernel_rfl) (bP ab rfl rfl rfl rfl rfl (fx _ _).symm (by rw [aR]; exact hb)) (okR rfl) rfl (by kernel_rfl) rfl rfl ?_
 refine gDr [(8, 0), (9, 1)] (by kernel_rfl) rfl rfl <| gDe (by kernel_rfl) <| gR 8 rfl <| gFR 9 rfl (dd _) rfl rfl ?_
 obtain ⟨rfl, rfl, rfl⟩ := h
 exact go_sub (F' := (mkF 47 0 [(2, .ptr 1 0)])) (H' := ⟨2, [(1, .var 30 [.int .i64 ((Tree.node 2 f [] (b ++ [d, a])).kind), .str ((Tree.node 2 f [] (b ++ [d, a])).text), .row 1 (List.map V.str ((Tree.node 2 f [] (b ++ [d, a])).leads)), .row 4 (kidsV ((Tree.node 2 f [] (b ++ [d, a])).kids))]), (0, .var 59 [.row 1 (List.map (V.int .i64) i), .int .i64 k])]⟩) [0, 1] [0] rfl hK pq1 ⟨⟨_, rfl, rfl, (.cons .rfl (.cons .rfl (.cons (.nil 1) (.cons .rfl .nil))))⟩, (pqo1 rfl rfl)⟩ rfl <| go_endD [1] ab (rs := [.cell 2 30]) rfl rfl ⟨rfl, rfl⟩
def df (m : Nat) (p1 : Tree) (b : List Int) (c : Int) (d : (List (List UInt8))) (e : Nat) (r0 : Tree) (f : List Int) (a : Int) : Prop := ∀ (K : Ctx) (j1 : Nat), aB K [0] → m ≤ j1 → qLG K Tryz.f38 (fun u G => u = .agg (aj r0) ∧ G = ⟨2, [(0, .var 59 [.row 1 (List.map (V.int .i64) f), .int .i64 a])]⟩) (xH (ac Tryz.f38)) [.loop (xH (ac Tryz.f38)) j1, .blk 0, .seq (xI (ac Tryz.f38))] 53 (mkF 53 0 [(0, .ptr 0 0), (3, .ptr 1 0), (4, .ptr 2 0), (5, .int .i64 (e : Int))]) ⟨4, [(3, .row 9 1 (List.map V.str d)), (2, .var 30 [.int .i64 0, .str [], .nils, .nils]), (1, .var 30 [.int .i64 p1.kind, .str p1.text, .sl 3, .row 4 (kidsV p1.kids)]), (0, .var 59 [.row 1 (List.map (V.int .i64) b), .int .i64 c])]⟩
def ef (m : Nat) (p1 : Tree) (b : List Int) (c : Int) (d : List Tree) (e : Nat) (f : (List (List UInt8))) (r0 : Tree) (g : List Int) (a : Int) : Prop := ∀ (K : Ctx) (j1 : Nat), aB K [0] → m ≤ j1 → qLG K Tryz.f38 (fun u G => u = .agg (aj r0) ∧ G = ⟨2, [(0, .var 59 [.row 1 (List.map (V.int .i64) g), .int .i64 a])]⟩) (xH (xA (ac Tryz.f38))) [.loop (xH (xA (ac Tryz.f38))) j1, .blk 2, .seq (xA (xI (ac Tryz.f38)))] 53 (mkF 53 0 [(0, .ptr 0 0), (3, .ptr 1 0), (4, .ptr 2 0), (6, .int .i64 (e : Int))]) ⟨5, [(4, .row 30 4 (kidsV d)), (3, .row 9 1 (List.map V.str f)), (2, .var 30 [.int .i64 0, .str [], .nils, .nils]), (1, .var 30 [.int .i64 p1.kind, .str p1.text, .sl 3, .sl 4]), (0, .var 59 [.row 1 (List.map (V.int .i64) b), .int .i64 c])]⟩
theorem pY (m : Nat) (c : List Int) (a : Int) (p1 r0 : Tree) (d : List Int) (b : Int) (h : p1.leads.length ≤ 1000000000 ∧ df m p1 c a p1.leads 0 r0 d b) : gc c a p1 r0 d b := by
 refine am 53 [0] Tryz.func38 rfl rfl rfl (aQ rfl) fun K hK => ?_
 refine gR 11 rfl ?_
 obtain ⟨hb, h⟩ := h
 exact gDo (.repl 3 (.row 9 1 (List.map V.str p1.leads))) (bP ab rfl rfl rfl rfl rfl (List.nil_append _) (by rw [aP]; exact hb)) (okR rfl) rfl rfl rfl <| gR 11 rfl <| go_loop m <| gJ (h K _ hK (by omega)) [0, 1, 2, 4] [0] rfl hK pq4 ⟨⟨_, rfl, rfl, rfl, (ak _ V.str (fun _ => rfl) p1.leads).symm⟩, (pqo3 rfl rfl rfl rfl rfl rfl)⟩ rfl
theorem iB (m : Nat) (p1 : Tree) (l : List Int) (n : Int) (a : (List (List UInt8))) (b : Nat) (r0 : Tree) (e : List Int) (d : Int) (h : ((b < a.length) → ∃ g i k, aC l n 9 g i k ∧ ((g = 1) → ∃ c o p, aZ i k [[32, 35, 32, 99, 10], [32, 32], [10, 9], [35, 10]] c o p ∧ ∃ q, a[b]? = some q ∧ df m p1 o p (a.set b c) (b + 1) r0 e d) ∧ ((g ≠ 1) → df m p1 i k a (b + 1) r0 e d)) ∧ ((¬ b < a.length) → p1.kids.length ≤ 1000000000 ∧ ef m p1 l n p1.kids 0 a r0 e d)) : df (m + 1) p1 l n a b r0 e d := by
 intro K j1 hK hj1
 obtain ⟨j1, rfl⟩ : ∃ j, j1 = j + 1 := ⟨j1 - 1, by omega⟩
 refine gR 7 rfl <| gV 15 (.int .i64 (a.length : Int)) rfl (bo (aP V.str _)) rfl <| gLO 3 rfl (aP V.str _) fun hl16 => gR 3 rfl <| gB 16 rfl rfl rfl ?_ ?_ <;> intro hd
 replace hd := (dX hd)
 replace h := h.1 hd
 refine gR 8 rfl ?_
 obtain ⟨g, i, k, hs17, h⟩ := h
 refine gC hs17 [0] (by kernel_rfl) rfl rfl .rfl ⟨⟨_, rfl, ⟨rfl, aD.rfl⟩⟩, trivial⟩ rfl ?_
 rintro _ _ ⟨rfl, rfl⟩
 refine gR 3 rfl <| gB 21 rfl rfl rfl ?_ ?_ <;> intro hd
 replace hd := (eq_of_beq hd)
 replace h := h.1 hd
 refine gR 1 rfl <| gDs [1] 7 8 rfl (by kernel_rfl) (by kernel_rfl) <| gDr [(0, 2), (1, 3), (2, 2), (3, 2), (4, 0)] (by kernel_rfl) rfl rfl <| gFR 5 rfl rfl rfl rfl ?_
 obtain ⟨c, o, p, hs18, h⟩ := h
 refine gDC 5 hs18 [0] (by kernel_rfl) rfl (by kernel_rfl) rfl rfl .rfl ⟨⟨_, rfl, ⟨rfl, aD.rfl⟩⟩, trivial⟩ (by kernel_rfl) rfl ?_
 rintro _ _ ⟨rfl, rfl⟩
 obtain ⟨q, hxs1_7, h⟩ := h
 refine db 6 rfl (by kernel_rfl) (yIO ab rfl rfl rfl rfl (by have := (mapget (f := V.str) hxs1_7); exact (List.getElem?_eq_some_iff.1 this).1)) rfl rfl ?_
 refine bY 7 (.set 3 (.row 9 1 (List.map V.str (a.set b c)))) rfl (by kernel_rfl) (dSe ab rfl rfl rfl rfl (mapget (f := V.str) hxs1_7) rfl (fT V.str a b c)) (okS rfl) rfl (by kernel_rfl) rfl rfl ?_
 exact gDe (by kernel_rfl) <| gR 5 rfl <| gV 18 (.int .i64 ((b + 1 : Nat) : Int)) rfl (au (by have := hl16; omega) (by omega)) rfl <| gR 2 rfl <| go_xloop <| gJ (h K _ hK (by omega)) [0, 1, 2, 3] [0] rfl hK pq4 ⟨⟨_, rfl, rfl, rfl, (ak _ V.str (fun _ => rfl) (a.set b c)).symm⟩, (pqo3 rfl rfl rfl rfl rfl rfl)⟩ rfl
 replace hd := (ne_of_beq_false hd)
 replace h := h.2 hd
 exact gR 7 rfl <| gV 18 (.int .i64 ((b + 1 : Nat) : Int)) rfl (au (by have := hl16; omega) (by omega)) rfl <| gR 2 rfl <| go_xloop <| gJ (h K _ hK (by omega)) [0, 1, 2, 3] [0] rfl hK pq4 ⟨⟨_, rfl, rfl, rfl, (ak _ V.str (fun _ => rfl) a).symm⟩, (pqo3 rfl rfl rfl rfl rfl rfl)⟩ rfl
 replace hd := (dW hd)
 replace h := h.2 hd
 refine gR 3 rfl <| go_xloopE <| gR 7 rfl ?_
 obtain ⟨hb, h⟩ := h
 exact gDo (.repl 4 (.row 30 4 (kidsV p1.kids))) (bP ab rfl rfl rfl rfl rfl (List.nil_append _) (by rw [aR]; exact hb)) (okR rfl) rfl rfl rfl <| gR 11 rfl <| go_loop m <| gJ (h K _ hK (by omega)) [0, 1, 2, 3, 5] [0] rfl hK pq4 ⟨⟨_, rfl, rfl, rfl, (eY _ p1.kids).symm⟩, ⟨_, rfl, rfl, rfl, (ak _ V.str (fun _ => rfl) a).symm⟩, (pqo3 rfl rfl rfl rfl rfl rfl)⟩ rfl
theorem lw (m : Nat) (p1 : Tree) (f : List Int) (g : Int) (a : List Tree) (b : Nat) (c : (List (List UInt8))) (r0 : Tree) (i : List Int) (e : Int) (h : ((b < a.length) → ∃ k, a[b]? = some k ∧ ∃ d l n, gc f g k d l n ∧ ∃ o, a[b]? = some o ∧ ef m p1 l n (a.set b d) (b + 1) c r0 i e) ∧ ((¬ b < a.length) → (Tree.node p1.kind p1.text c a) = r0 ∧ f = i ∧ g = e)) : ef (m + 1) p1 f g a b c r0 i e := by
 intro K j1 hK hj1
 obtain ⟨j1, rfl⟩ : ∃ j, j1 = j + 1 := ⟨j1 - 1, by omega⟩
 refine gR 7 rfl <| gV 37 (.int .i64 (a.length : Int)) rfl (bo (aR _)) rfl <| gLO 4 rfl (aR _) fun hl19 => gR 3 rfl <| gB 38 rfl rfl rfl ?_ ?_ <;> intro hd
 replace hd := (dX hd)
 replace h := h.1 hd
 refine gR 5 rfl <| gDs [1, 4] 11 12 rfl (by kernel_rfl) (by kernel_rfl) <| gDr [(0, 2), (1, 3), (2, 2), (3, 2), (4, 2), (5, 3), (6, 0)] (by kernel_rfl) rfl rfl ?_
 obtain ⟨k, hxt2_1, h⟩ := h
 refine db 7 rfl (by kernel_rfl) (yIO ab rfl rfl rfl rfl (by have := (aw hxt2_1); exact (List.getElem?_eq_some_iff.1 this).1)) rfl rfl ?_
 refine bY 8 (.nop) rfl (by kernel_rfl) (dLe ab rfl rfl rfl (aw hxt2_1) rfl) trivial rfl (by kernel_rfl) rfl rfl ?_
 obtain ⟨d, l, n, hs20, h⟩ := h
 refine gDC 9 hs20 [0] (by kernel_rfl) rfl (by kernel_rfl) rfl rfl .rfl ⟨⟨_, rfl, ⟨rfl, aD.rfl⟩⟩, trivial⟩ (by kernel_rfl) rfl ?_
 rintro _ _ ⟨rfl, rfl⟩
 obtain ⟨o, hxt2_5, h⟩ := h
 refine db 10 rfl (by kernel_rfl) (yIO ab rfl rfl rfl rfl (by have := (aw hxt2_5); exact (List.getElem?_eq_some_iff.1 this).1)) rfl rfl ?_
 refine bY 11 (.set 4 (.row 30 4 (kidsV (a.set b d)))) rfl (by kernel_rfl) (dSe ab rfl rfl rfl rfl (aw hxt2_5) rfl (yL a b d)) (okS rfl) rfl (by kernel_rfl) rfl rfl ?_
 exact gDe (by kernel_rfl) <| gR 5 rfl <| gV 40 (.int .i64 ((b + 1 : Nat) : Int)) rfl (au (by have := hl19; omega) (by omega)) rfl <| gR 2 rfl <| go_xloop <| gJ (h K _ hK (by omega)) [0, 1, 2, 3, 4] [0] rfl hK pq4 ⟨⟨_, rfl, rfl, rfl, (eY _ (a.set b d)).symm⟩, ⟨_, rfl, rfl, rfl, (ak _ V.str (fun _ => rfl) c).symm⟩, (pqo3 rfl rfl rfl rfl rfl rfl)⟩ rfl
 replace hd := (dW hd)
 replace h := h.2 hd
 refine gR 3 rfl <| go_xloopE <| gR 9 rfl <| gFR 3 rfl (iX _ (fun _ => rfl) _) rfl rfl <| gFR 4 rfl (dd _) rfl rfl ?_
 obtain ⟨rfl, rfl, rfl⟩ := h
 exact go_sub (F' := (mkF 53 0 [(4, .ptr 1 0)])) (H' := ⟨2, [(1, .var 30 [.int .i64 ((Tree.node p1.kind p1.text c a).kind), .str ((Tree.node p1.kind p1.text c a).text), .row 1 (List.map V.str ((Tree.node p1.kind p1.text c a).leads)), .row 4 (kidsV ((Tree.node p1.kind p1.text c a).kids))]), (0, .var 59 [.row 1 (List.map (V.int .i64) f), .int .i64 g])]⟩) [0, 2] [0] rfl hK pq1 (pqo2 rfl rfl rfl rfl) rfl <| go_endD [1] ab (rs := [.cell 4 30]) rfl rfl ⟨rfl, rfl⟩
def fk (m : Nat) (p1 : List UInt8) (b : List Int) (c : Int) (d : List Tree) (e : Int) (r0 : Tree) (f : List Int) (a : Int) : Prop := ∀ (K : Ctx) (j1 : Nat), aB K [0] → m ≤ j1 → qLG K Tryz.f22 (fun u G => u = .agg (aj r0) ∧ G = ⟨2, [(0, .var 59 [.row 1 (List.map (V.int .i64) f), .int .i64 a])]⟩) (xH (ac Tryz.f22)) [.loop (xH (ac Tryz.f22)) j1, .blk 0, .seq (xI (ac Tryz.f22))] 31 (mkF 31 0 [(0, .ptr 0 0), (4, .ptr 1 0), (5, .ptr 2 0), (6, .int .i64 e)]) ⟨4, [(3, .row 30 4 (kidsV d)), (2, .var 30 [.int .i64 1, .str p1, .nils, .sl 3]), (1, .var 30 [.int .i64 0, .str [], .nils, .nils]), (0, .var 59 [.row 1 (List.map (V.int .i64) b), .int .i64 c])]⟩
theorem pC (m : Nat) (f : List Int) (a : Int) (p1 : List UInt8) (r0 : Tree) (g : List Int) (b : Int) (h : ∃ c d e, aC f a 4 c d e ∧ fk m p1 d e ([] : List Tree) c r0 g b) : iJ f a p1 r0 g b := by
 refine am 31 [0] Tryz.func22 rfl rfl rfl (aQ rfl) fun K hK => ?_
 refine gR 17 rfl ?_
 obtain ⟨c, d, e, hs11, h⟩ := h
 refine gC hs11 [0] (by kernel_rfl) rfl rfl .rfl ⟨⟨_, rfl, ⟨rfl, aD.rfl⟩⟩, trivial⟩ rfl ?_
 rintro _ _ ⟨rfl, rfl⟩
 exact gR 4 rfl <| go_loop m <| gNC 2 3 30 4 rfl rfl rfl rfl <| gJ (h K _ hK (by omega)) [0, 1, 2, 4] [0] rfl hK pq4 ⟨⟨_, rfl, rfl, rfl, rfl⟩, (pqo3 rfl rfl rfl rfl rfl rfl)⟩ rfl
theorem ik (m : Nat) (p1 : List UInt8) (p : List Int) (q : Int) (c : List Tree) (e : Int) (r0 : Tree) (l : List Int) (f : Int) (h : ((0 < e) → ∃ a r s, kI p q a r s ∧ (c ++ [a]).length ≤ 1000000000 ∧ InI (e - 1) ∧ fk m p1 r s (c ++ [a]) (e - 1) r0 l f) ∧ ((¬ 0 < e) → ∃ b, cz (Tree.node 1 p1 [] c) b ∧ ∃ n i k, aC p q 2 n i k ∧ ((n = 0) → ∃ d o g, gc i k b d o g ∧ d = r0 ∧ o = l ∧ g = f) ∧ ((n ≠ 0) → b = r0 ∧ i = l ∧ k = f))) : fk (m + 1) p1 p q c e r0 l f := by
 intro K j1 hK hj1
 obtain ⟨j1, rfl⟩ : ∃ j, j1 = j + 1 := ⟨j1 - 1, by omega⟩
 refine gR 7 rfl <| gB 12 rfl rfl rfl ?_ ?_ <;> intro hd
 replace hd := (of_decide_eq_true hd)
 replace h := h.1 hd
 refine gR 5 rfl <| gDs [2] 7 8 rfl (by kernel_rfl) (by kernel_rfl) <| gDr [(0, 2), (1, 3), (2, 0)] (by kernel_rfl) rfl rfl ?_
 obtain ⟨a, r, s, hs12, h⟩ := h
 refine gDC 3 hs12 [0] (by kernel_rfl) rfl (by kernel_rfl) rfl rfl .rfl ⟨⟨_, rfl, ⟨rfl, aD.rfl⟩⟩, trivial⟩ (by kernel_rfl) rfl ?_
 rintro _ _ ⟨rfl, rfl⟩
 refine gDr [(4, 0)] (by kernel_rfl) rfl rfl <| gHR 6 (kidsV [a]) rfl (lm a) rfl ?_
 obtain ⟨hb, h⟩ := h
 refine bY 5 (.repl 3 (.row 30 4 (kidsV (c ++ [a])))) rfl (by kernel_rfl) (bP ab rfl rfl rfl rfl rfl (fx c [a]).symm (by rw [aR]; exact hb)) (okR rfl) rfl (by kernel_rfl) rfl rfl ?_
 refine gDr [(6, 0), (7, 1)] (by kernel_rfl) rfl rfl <| gDe (by kernel_rfl) <| gR 4 rfl ?_
 obtain ⟨hb, h⟩ := h
 exact gR 1 rfl <| gV 14 (.int .i64 (e - 1)) rfl (au hb rfl) rfl <| gR 2 rfl <| go_xloop <| gJ (h K _ hK (by omega)) [0, 1, 2, 7] [0] rfl hK pq4 ⟨⟨_, rfl, rfl, rfl, (eY _ (c ++ [a])).symm⟩, (pqo3 rfl rfl rfl rfl rfl rfl)⟩ rfl
 replace hd := (of_decide_eq_false hd)
 replace h := h.2 hd
 refine gR 3 rfl <| go_xloopE <| gR 5 rfl <| gFR 3 rfl (dd _) rfl rfl ?_
 obtain ⟨b, hs13, h⟩ := h
 refine gC0 hs13 (by kernel_rfl) rfl rfl (.cons (.agg (.cons .rfl (.cons .rfl (.cons (.nil 1) (.cons .rfl .nil))))) .nil) rfl <| gR 7 rfl ?_
 obtain ⟨n, i, k, hs14, h⟩ := h
 refine gC hs14 [0] (by kernel_rfl) rfl rfl .rfl ⟨⟨_, rfl, ⟨rfl, aD.rfl⟩⟩, trivial⟩ rfl ?_
 rintro _ _ ⟨rfl, rfl⟩
 refine gR 3 rfl <| gB 26 rfl rfl rfl ?_ ?_ <;> intro hd
 replace hd := (eq_of_beq hd)
 replace h := h.1 hd
 refine gR 4 rfl ?_
 obtain ⟨d, o, g, hs15, h⟩ := h
 refine gC hs15 [0] (by kernel_rfl) rfl rfl .rfl ⟨⟨_, rfl, ⟨rfl, aD.rfl⟩⟩, trivial⟩ rfl ?_
 rintro _ _ ⟨rfl, rfl⟩
 refine gR 10 rfl ?_
 obtain ⟨rfl, rfl, rfl⟩ := h
 exact go_sub (F' := (mkF 31 0 [(4, .ptr 1 0)])) (H' := ⟨2, [(1, .var 30 [.int .i64 d.kind, .str d.text, .row 1 (List.map V.str d.leads), .row 4 (kidsV d.kids)]), (0, .var 59 [.row 1 (List.map (V.int .i64) o), .int .i64 g])]⟩) [0, 1] [0] rfl hK pq1 (pqo2 rfl rfl rfl rfl) rfl <| go_endD [1] ab (rs := [.cell 4 30]) rfl rfl ⟨rfl, rfl⟩
 replace hd := (ne_of_beq_false hd)
 replace h := h.2 hd
 refine gR 10 rfl ?_
 obtain ⟨rfl, rfl, rfl⟩ := h
 exact go_sub (F' := (mkF 31 0 [(4, .ptr 1 0)])) (H' := ⟨2, [(1, .var 30 [.int .i64 b.kind, .str b.text, .row 1 (List.map V.str b.leads), .row 4 (kidsV b.kids)]), (0, .var 59 [.row 1 (List.map (V.int .i64) i), .int .i64 k])]⟩) [0, 1] [0] rfl hK pq1 (pqo2 rfl rfl rfl rfl) rfl <| go_endD [1] ab (rs := [.cell 4 30]) rfl rfl ⟨rfl, rfl⟩
def bv (m : Nat) (a : List Int) (b : Int) (c : List Tree) (d : Int) (r0 : List Tree) : Prop := ∀ (K : Ctx) (j1 : Nat), aB K [] → m ≤ j1 → qLG K Tryz.f7 (fun u _ => u = .row 4 (kidsV r0)) (xH (xA (ac Tryz.f7))) [.loop (xH (xA (ac Tryz.f7))) j1, .blk 0, .seq (xA (xI (ac Tryz.f7)))] 35 (mkF 35 0 [(3, .ptr 0 0), (4, .sl 1), (5, .sl 2), (6, .int .i64 d)]) ⟨3, [(2, .row 9 1 [.str [65], .str [66], .str [67]]), (1, .row 30 4 (kidsV c)), (0, .var 59 [.row 1 (List.map (V.int .i64) a), .int .i64 b])]⟩
theorem oK (m : Nat) (p0 : List Int) (r0 : List Tree) (h : ∃ a b, mL p0 a b ∧ ∃ c d e, aC a b 4 c d e ∧ bv m d e ([] : List Tree) c r0) : fh p0 r0 := by
 refine ⟨rfl, rfl, ?_⟩
 refine am 35 [] Tryz.func7 rfl rfl rfl (aQ rfl) fun K hK => ?_
 refine gR 8 rfl ?_
 obtain ⟨a, b, hs14, h⟩ := h
 refine gC hs14 [] (by kernel_rfl) rfl rfl .rfl trivial rfl ?_
 rintro _ _ ⟨rfl, rfl⟩
 refine gR 18 rfl ?_
 obtain ⟨c, d, e, hs15, h⟩ := h
 refine gC hs15 [0] (by kernel_rfl) rfl rfl .rfl ⟨⟨_, rfl, ⟨rfl, aD.rfl⟩⟩, trivial⟩ rfl ?_
 rintro _ _ ⟨rfl, rfl⟩
 exact gR 4 rfl <| go_loop m <| gNS 4 30 4 rfl rfl rfl rfl <| gJ (h K _ hK (by omega)) [0, 3, 1] [] rfl hK pq4 ⟨⟨_, rfl, rfl, rfl, rfl⟩, ⟨_, rfl, rfl, rfl, rfl⟩, (pqo1 rfl rfl)⟩ rfl
theorem gN (m : Nat) (p : List Int) (q : Int) (b : List Tree) (c : Int) (r0 : List Tree) (h : ((0 < c) → ∃ l, [[65], [66], [67]][b.length]? = some l ∧ ∃ a n o, iJ p q l a n o ∧ ∃ g d e, aC n o 8 g d e ∧ ((g = 7) → ∃ i, en (Tree.node a.kind [65] a.leads a.kids) i ∧ ((i = true) → (b ++ [(Tree.node a.kind [65] a.leads a.kids)]).length ≤ 1000000000 ∧ InI (c - 1) ∧ bv m d e (b ++ [(Tree.node a.kind [65] a.leads a.kids)]) (c - 1) r0) ∧ ((i = false) → InI (c - 1) ∧ bv m d e b (c - 1) r0)) ∧ ((g ≠ 7) → ∃ k, en a k ∧ ((k = true) → (b ++ [a]).length ≤ 1000000000 ∧ InI (c - 1) ∧ bv m d e (b ++ [a]) (c - 1) r0) ∧ ((k = false) → InI (c - 1) ∧ bv m d e b (c - 1) r0))) ∧ ((¬ 0 < c) → b = r0)) : bv (m + 1) p q b c r0 := by
 intro K j1 hK hj1
 obtain ⟨j1, rfl⟩ : ∃ j, j1 = j + 1 := ⟨j1 - 1, by omega⟩
 refine gR 7 rfl <| gB 14 rfl rfl rfl ?_ ?_ <;> intro hd
 replace hd := (of_decide_eq_true hd)
 replace h := h.1 hd
 refine gR 11 rfl <| gV 20 (.int .i64 (b.length : Int)) rfl (bo (aR _)) rfl <| gLO 1 rfl (aR _) fun hl16 => ?_
 obtain ⟨l, hxs1_1, h⟩ := h
 refine gY (yIO ab rfl rfl rfl rfl (by have := (mapget (f := V.str) hxs1_1); exact (List.getElem?_eq_some_iff.1 this).1)) rfl rfl ?_
 refine gDo (.nop) (dLe ab rfl rfl rfl (mapget (f := V.str) hxs1_1) rfl) trivial rfl rfl rfl ?_
 obtain ⟨a, n, o, hs17, h⟩ := h
 refine gC hs17 [0] (by kernel_rfl) rfl rfl .rfl ⟨⟨_, rfl, ⟨rfl, aD.rfl⟩⟩, trivial⟩ rfl ?_
 rintro _ _ ⟨rfl, rfl⟩
 refine gR 8 rfl ?_
 obtain ⟨g, d, e, hs18, h⟩ := h
 refine gC hs18 [0] (by kernel_rfl) rfl rfl .rfl ⟨⟨_, rfl, ⟨rfl, aD.rfl⟩⟩, trivial⟩ rfl ?_
 rintro _ _ ⟨rfl, rfl⟩
 refine gR 3 rfl <| gB 26 rfl rfl rfl ?_ ?_ <;> intro hd
 replace hd := (eq_of_beq hd)
 replace h := h.1 hd
 refine gR 9 rfl ?_
 obtain ⟨i, hs19, h⟩ := h
 refine gC0 hs19 (by kernel_rfl) rfl rfl .rfl rfl <| gR 2 rfl <| gB 29 rfl rfl rfl ?_ ?_ <;> intro hd
 replace h := h.1 hd
 refine gR 5 rfl <| gHR 7 (kidsV [(Tree.node a.kind [65] a.leads a.kids)]) rfl (lm (Tree.node a.kind [65] a.leads a.kids)) rfl ?_
 obtain ⟨hb, h⟩ := h
 refine gDo (.repl 1 (.row 30 4 (kidsV (b ++ [(Tree.node a.kind [65] a.leads a.kids)])))) (bP ab rfl rfl rfl rfl rfl (fx b [(Tree.node a.kind [65] a.leads a.kids)]).symm (by rw [aR]; exact hb)) (okR rfl) rfl rfl rfl <| gR 6 rfl ?_
 obtain ⟨hb, h⟩ := h
 exact gR 1 rfl <| gV 16 (.int .i64 (c - 1)) rfl (au hb rfl) rfl <| gR 2 rfl <| go_xloop <| gJ (h K _ hK (by omega)) [0, 8, 2] [] rfl hK pq4 ⟨⟨_, rfl, rfl, rfl, rfl⟩, ⟨_, rfl, rfl, rfl, (eY _ (b ++ [(Tree.node a.kind [65] a.leads a.kids)])).symm⟩, (pqo1 rfl rfl)⟩ rfl
 replace h := h.2 hd
 refine gR 6 rfl ?_
 obtain ⟨hb, h⟩ := h
 exact gR 1 rfl <| gV 16 (.int .i64 (c - 1)) rfl (au hb rfl) rfl <| gR 2 rfl <| go_xloop <| gJ (h K _ hK (by omega)) [0, 1, 2] [] rfl hK pq4 ⟨⟨_, rfl, rfl, rfl, rfl⟩, ⟨_, rfl, rfl, rfl, (eY _ b).symm⟩, (pqo1 rfl rfl)⟩ rfl
 replace hd := (ne_of_beq_false hd)
 replace h := h.2 hd
 refine gR 6 rfl ?_
 obtain ⟨k, hs20, h⟩ := h
 refine gC0 hs20 (by kernel_rfl) rfl rfl .rfl rfl <| gR 2 rfl <| gB 29 rfl rfl rfl ?_ ?_ <;> intro hd
 replace h := h.1 hd
 refine gR 5 rfl <| gHR 7 (kidsV [a]) rfl (lm a) rfl ?_
 obtain ⟨hb, h⟩ := h
 refine gDo (.repl 1 (.row 30 4 (kidsV (b ++ [a])))) (bP ab rfl rfl rfl rfl rfl (fx b [a]).symm (by rw [aR]; exact hb)) (okR rfl) rfl rfl rfl <| gR 6 rfl ?_
 obtain ⟨hb, h⟩ := h
 exact gR 1 rfl <| gV 16 (.int .i64 (c - 1)) rfl (au hb rfl) rfl <| gR 2 rfl <| go_xloop <| gJ (h K _ hK (by omega)) [0, 8, 2] [] rfl hK pq4 ⟨⟨_, rfl, rfl, rfl, rfl⟩, ⟨_, rfl, rfl, rfl, (eY _ (b ++ [a])).symm⟩, (pqo1 rfl rfl)⟩ rfl
 replace h := h.2 hd
 refine gR 6 rfl ?_
 obtain ⟨hb, h⟩ := h
 exact gR 1 rfl <| gV 16 (.int .i64 (c - 1)) rfl (au hb rfl) rfl <| gR 2 rfl <| go_xloop <| gJ (h K _ hK (by omega)) [0, 1, 2] [] rfl hK pq4 ⟨⟨_, rfl, rfl, rfl, rfl⟩, ⟨_, rfl, rfl, rfl, (eY _ b).symm⟩, (pqo1 rfl rfl)⟩ rfl
 replace hd := (of_decide_eq_false hd)
 replace h := h.2 hd
 refine gR 3 rfl <| go_xloopE <| gR 9 rfl <| gFR 1 rfl (dd _) rfl rfl ?_
 subst h
 exact go_end ab (rs := [.tmp 2]) rfl rfl rfl
theorem jH (m : Nat) (b : List Int) (a p1 r0 : Int) (g : List Int) (c : Int) (h : (((b.length : Int) ≤ a) → 0 = r0 ∧ b = g ∧ a = c) ∧ ((¬ (b.length : Int) ≤ a) → InI (a + 1) ∧ InI ((a + 1) - 1) ∧ ∃ d, ((a + 1) - 1) = ((d : Nat) : Int) ∧ ∃ i, b[d]? = some i ∧ ∃ e, kH i p1 e ∧ e = r0 ∧ b = g ∧ (a + 1) = c)) : aC b a p1 r0 g c := by
 refine am 35 [0] Tryz.func21 rfl rfl rfl (aQ rfl) fun K hK => ?_
 refine gR 7 rfl <| gDs [0] 10 10 rfl (by kernel_rfl) (by kernel_rfl) <| gDr [(0, 2), (1, 2), (2, 2), (3, 3), (4, 0), (5, 0), (6, 0), (7, 0), (8, 0)] (by kernel_rfl) rfl rfl <| gV 13 (.int .i64 (b.length : Int)) rfl (bo (aP (V.int .i64) _)) rfl <| gLB 12 rfl (aP (V.int .i64) _) fun hl9 => gDr [(9, 0)] (by kernel_rfl) rfl rfl <| gDe (by kernel_rfl) <| gR 1 rfl <| qBd 14 rfl rfl rfl h (fun h => ?_) fun h => ?_
 refine gR 8 rfl ?_
 obtain ⟨rfl, rfl, rfl⟩ := h
 exact go_sub (F' := (mkF 35 0 [(4, .int .i64 0)])) (H' := ⟨1, [(0, .var 59 [.row 1 (List.map (V.int .i64) b), .int .i64 a])]⟩) [0] [0] rfl hK pq1 (pqo1 rfl rfl) rfl <| go_endD [] ab (rs := [.tmp 4]) rfl rfl ⟨rfl, rfl⟩
 refine gR 9 rfl ?_
 obtain ⟨hb, h⟩ := h
 refine gR 1 rfl <| gV 19 (.int .i64 (a + 1)) rfl (au hb rfl) rfl <| gR 6 rfl <| gDs [0] 13 14 rfl (by kernel_rfl) (by kernel_rfl) <| gDr [(0, 2), (1, 2), (2, 2), (3, 3), (4, 2), (5, 2), (6, 2), (7, 3)] (by kernel_rfl) rfl rfl ?_
 obtain ⟨hb, h⟩ := h
 refine gDr [(8, 2)] (by kernel_rfl) rfl rfl <| gV 30 (.int .i64 ((a + 1) - 1)) rfl (au hb rfl) rfl ?_
 obtain ⟨d, j, h⟩ := h
 refine gV 30 (.int .i64 ((d : Nat) : Int)) rfl (jz j) rfl ?_
 obtain ⟨i, hxn0_2, h⟩ := h
 refine gYd 9 rfl (by kernel_rfl) (bc (mapget (f := (V.int .i64)) hxn0_2) ab rfl rfl rfl rfl) rfl rfl <| gDr [(10, 2), (11, 0)] (by kernel_rfl) rfl rfl ?_
 obtain ⟨e, hs10, h⟩ := h
 refine aW 12 hs10 (by kernel_rfl) rfl (by kernel_rfl) rfl rfl .rfl rfl rfl ?_
 refine gDr [(13, 1)] (by kernel_rfl) rfl rfl <| gDe (by kernel_rfl) <| gR 2 rfl ?_
 obtain ⟨rfl, rfl, rfl⟩ := h
 exact go_sub (F' := (mkF 35 0 [(4, .int .i64 e)])) (H' := ⟨1, [(0, .var 59 [.row 1 (List.map (V.int .i64) b), .int .i64 (a + 1)])]⟩) [0] [0] rfl hK pq1 (pqo1 rfl rfl) rfl <| go_endD [] ab (rs := [.tmp 4]) rfl rfl ⟨rfl, rfl⟩
def dy (m : Nat) (p0 : Int) (a : (List (List UInt8))) (b : Nat) (r0 : (List (List UInt8))) : Prop := ∀ (K : Ctx) (j1 : Nat), aB K [] → m ≤ j1 → qLG K Tryz.f48 (fun u G => u = .sl 0 ∧ G = ⟨1, [(0, .row 9 1 (List.map V.str r0))]⟩) (xH (ac Tryz.f48)) [.loop (xH (ac Tryz.f48)) j1, .blk 0, .seq (xI (ac Tryz.f48))] 14 (mkF 14 0 [(0, .int .i64 p0), (3, .sl 0), (4, .int .i64 (b : Int))]) ⟨1, [(0, .row 9 1 (List.map V.str a))]⟩
theorem ld (m : Nat) (p0 : Int) (r0 : (List (List UInt8))) (h : dy m p0 ([] : List (List UInt8)) 0 r0) : ff p0 r0 := by
 refine am 14 [] Tryz.func48 rfl rfl rfl (aQ rfl) fun K hK => ?_
 exact gR 17 rfl <| go_loop m <| gNS 3 9 1 rfl rfl rfl rfl <| gJ (h K _ hK (by omega)) [0] [] rfl hK pq3 ⟨⟨_, rfl, rfl, rfl, rfl⟩, trivial⟩ rfl
theorem cr (m : Nat) (p0 : Int) (a : (List (List UInt8))) (b : Nat) (r0 : (List (List UInt8))) (h : (((b : Int) < p0) → (a ++ [[32]]).length ≤ 1000000000 ∧ b + 1 ≤ 9223372036854775807 ∧ dy m p0 (a ++ [[32]]) (b + 1) r0) ∧ ((¬ (b : Int) < p0) → a = r0)) : dy (m + 1) p0 a b r0 := by
 intro K j1 hK hj1
 obtain ⟨j1, rfl⟩ : ∃ j, j1 = j + 1 := ⟨j1 - 1, by omega⟩
 refine gR 8 rfl <| gB 7 rfl rfl rfl ?_ ?_ <;> intro hd
 replace hd := (of_decide_eq_true hd)
 replace h := h.1 hd
 refine gR 8 rfl ?_
 obtain ⟨hb, h⟩ := h
 refine gDo (.repl 0 (.row 9 1 (List.map V.str (a ++ [[32]])))) (bP ab rfl rfl rfl rfl rfl (apM V.str a [32]) (by rw [aP]; exact hb)) (okR rfl) rfl rfl rfl <| gR 6 rfl ?_
 obtain ⟨hb, h⟩ := h
 exact gR 1 rfl <| gV 9 (.int .i64 ((b + 1 : Nat) : Int)) rfl (au (by omega) (by omega)) rfl <| gR 2 rfl <| go_xloop <| gJ (h K _ hK (by omega)) [2] [] rfl hK pq3 ⟨⟨_, rfl, rfl, rfl, (ak _ V.str (fun _ => rfl) (a ++ [[32]])).symm⟩, trivial⟩ rfl
 replace hd := (of_decide_eq_false hd)
 replace h := h.2 hd
 refine gR 3 rfl <| go_xloopE <| gR 9 rfl ?_
 subst h
 exact go_sub (F' := (mkF 14 0 [(2, .sl 0)])) (H' := ⟨1, [(0, .row 9 1 (List.map V.str a))]⟩) [0] [] rfl hK pq1 ⟨⟨_, rfl, rfl, rfl, (ak _ V.str (fun _ => rfl) a).symm⟩, trivial⟩ rfl <| go_endD [] ab (rs := [.tmp 2]) rfl rfl ⟨rfl, rfl⟩
def dD (m : Nat) (p0 : Tree) (p2 : List UInt8) (a : Bool) (r0 : List UInt8) : Prop := ∀ (K : Ctx), aB K [] → qLG K Tryz.f49 (fun u _ => u = .str r0) (cB (xF (ac Tryz.f49))) [.blk 1, .seq (xI (ac Tryz.f49))] 31 (mkF 31 0 [(2, .str p2), (3, .box (aj p0) 0), (15, .int .i64 p0.kind), (16, .bool a)]) ⟨0, []⟩
theorem oT (m : Nat) (p0 : Tree) (p1 : Int) (p2 r0 : List UInt8) (h : ((p0.kind = 1) → [10, 10] = r0) ∧ ((p0.kind ≠ 1) → ((0 < p1) → [32] = r0) ∧ ((¬ 0 < p1) → ((p0.kind = 8) → dD m p0 p2 true r0) ∧ ((p0.kind ≠ 8) → ((p0.kind = 22) → dD m p0 p2 true r0) ∧ ((p0.kind ≠ 22) → ((p0.kind = 16) → dD m p0 p2 true r0) ∧ ((p0.kind ≠ 16) → dD m p0 p2 (p0.kind == 18) r0)))))) : ix p0 p1 p2 r0 := by
 refine ⟨rfl, rfl, ?_⟩
 refine am 31 [] Tryz.func49 rfl rfl rfl (aQ rfl) fun K hK => ?_
 refine gR 3 rfl <| gFP 0 rfl rfl rfl rfl <| gR 13 rfl <| qBeZ 7 10 rfl rfl rfl rfl h (fun h => ?_) fun h => ?_
 refine gR 9 rfl ?_
 subst h
 exact go_end ab (rs := [.tmp 6]) rfl rfl rfl
 refine gR 8 rfl <| qBdZ 11 13 rfl rfl rfl rfl h (fun h => ?_) fun h => ?_
 refine gR 9 rfl ?_
 subst h
 exact go_end ab (rs := [.tmp 6]) rfl rfl rfl
 refine gR 19 rfl <| qBeZ 16 17 rfl rfl rfl rfl h (fun h => ?_) fun h => ?_
 exact gR 3 rfl <| gJ (h K hK) [] [] rfl hK pq4 trivial rfl
 refine gR 7 rfl <| qBeZ 16 18 rfl rfl rfl rfl h (fun h => ?_) fun h => ?_
 exact gR 3 rfl <| gJ (h K hK) [] [] rfl hK pq4 trivial rfl
 refine gR 7 rfl <| qBeZ 16 19 rfl rfl rfl rfl h (fun h => ?_) fun h => ?_
 exact gR 3 rfl <| gJ (h K hK) [] [] rfl hK pq4 trivial rfl
 exact gR 6 rfl <| gJ (h K hK) [] [] rfl hK pq4 trivial rfl
theorem ot (m : Nat) (p0 : Tree) (p2 : List UInt8) (a : Bool) (r0 : List UInt8) (h : ((a = true) → [] = r0) ∧ ((a = false) → ((p0.kind = 2) → ((2 < (p0.kids.length : Int)) → [] = r0) ∧ ((¬ 2 < (p0.kids.length : Int)) → [32] = r0)) ∧ ((p0.kind ≠ 2) → ((p0.kind = 17) → p2 = r0) ∧ ((p0.kind ≠ 17) → ((p0.kind = 21) → p2 = r0) ∧ ((p0.kind ≠ 21) → [32] = r0))))) : dD (m + 1) p0 p2 a r0 := by
 intro K hK
 refine qBi 16 rfl rfl rfl h (fun h => ?_) fun h => ?_
 refine gR 9 rfl ?_
 subst h
 exact go_end ab (rs := [.tmp 6]) rfl rfl rfl
 refine gR 7 rfl <| qBeZ 21 22 rfl rfl rfl rfl h (fun h => ?_) fun h => ?_
 refine gR 6 rfl <| gV 25 (.int .i64 (p0.kids.length : Int)) rfl (bo (aR _)) rfl <| gLB 24 rfl (aR _) fun hl3 => gR 3 rfl <| qBd 26 rfl rfl rfl h (fun h => ?_) fun h => ?_
 refine gR 9 rfl ?_
 subst h
 exact go_end ab (rs := [.tmp 6]) rfl rfl rfl
 refine gR 10 rfl ?_
 subst h
 exact go_end ab (rs := [.tmp 6]) rfl rfl rfl
 refine gR 8 rfl <| qBeZ 27 28 rfl rfl rfl rfl h (fun h => ?_) fun h => ?_
 refine gR 13 rfl ?_
 subst h
 exact go_end ab (rs := [.tmp 6]) rfl rfl rfl
 refine gR 6 rfl <| qBeZ 27 29 rfl rfl rfl rfl h (fun h => ?_) fun h => ?_
 refine gR 10 rfl ?_
 subst h
 exact go_end ab (rs := [.tmp 6]) rfl rfl rfl
 refine gR 10 rfl ?_
 subst h
 exact go_end ab (rs := [.tmp 6]) rfl rfl rfl
def kx (m : Nat) (p0 : Tree) (p1 : List UInt8) (a : (List (List UInt8))) (r0 : Tree) : Prop := ∀ (K : Ctx), aB K [] → Go Tryz.prog K (bodyPost Tryz.prog Tryz.f27 (SP K (fun u _ => u = .agg (aj r0)))) (.ex .normal) [.seq (xI (ac Tryz.f27))] 109 (mkF 109 0 [(1, .str p1), (2, .box (aj p0) 0), (4, .ptr 0 0), (5, .int .i64 (p0.kids.length : Int)), (6, .ptr 1 0)]) ⟨3, [(2, .row 9 1 (List.map V.str a)), (1, .var 30 [.int .i64 p0.kind, .str p0.text, .sl 2, .nils]), (0, .var 30 [.int .i64 0, .str [], .nils, .nils])]⟩
def ca (m : Nat) (p0 : Tree) (p1 : List UInt8) (a : (List (List UInt8))) (b : List Tree) (c : Nat) (r0 : Tree) : Prop := ∀ (K : Ctx) (j1 : Nat), aB K [] → m ≤ j1 → qLG K Tryz.f27 (fun u _ => u = .agg (aj r0)) (xH (xA (ac Tryz.f27))) [.loop (xH (xA (ac Tryz.f27))) j1, .blk 0, .seq (xA (xI (ac Tryz.f27)))] 109 (mkF 109 0 [(1, .str p1), (2, .box (aj p0) 0), (4, .ptr 0 0), (5, .int .i64 (p0.kids.length : Int)), (6, .ptr 1 0), (7, .sl 2), (8, .int .i64 (c : Int))]) ⟨4, [(3, .row 9 1 (List.map V.str a)), (2, .row 30 4 (kidsV b)), (1, .var 30 [.int .i64 p0.kind, .str p0.text, .sl 3, .nils]), (0, .var 30 [.int .i64 0, .str [], .nils, .nils])]⟩
def ct (m : Nat) (p0 : Tree) (a : (List (List UInt8))) (b : List Tree) (r0 : Tree) : Prop := ∀ (K : Ctx), aB K [] → qLG K Tryz.f27 (fun u _ => u = .agg (aj r0)) (xJ (xA (ac Tryz.f27))) [] 109 (mkF 109 0 [(2, .box (aj p0) 0), (4, .ptr 0 0), (6, .ptr 1 0), (7, .sl 2)]) ⟨4, [(3, .row 9 1 (List.map V.str a)), (2, .row 30 4 (kidsV b)), (1, .var 30 [.int .i64 p0.kind, .str p0.text, .sl 3, .nils]), (0, .var 30 [.int .i64 0, .str [], .nils, .nils])]⟩
def cu (m : Nat) (p0 : Tree) (a : (List (List UInt8))) (b : Nat) (c : List Tree) (r0 : Tree) : Prop := ∀ (K : Ctx) (j1 : Nat), aB K [] → m ≤ j1 → qLG K Tryz.f27 (fun u _ => u = .agg (aj r0)) (cL (cK (xA (xM (xL (xJ (ac Tryz.f27))))))) [.loop (cL (cK (xA (xM (xL (xJ (ac Tryz.f27))))))) j1, .blk 3, .blk 2, .seq (xJ (xI (ac Tryz.f27)))] 109 (mkF 109 0 [(4, .ptr 0 0), (6, .ptr 1 0), (7, .sl 2), (9, .int .i64 (b : Int))]) ⟨4, [(3, .row 9 1 (List.map V.str a)), (2, .row 30 4 (kidsV c)), (1, .var 30 [.int .i64 p0.kind, .str p0.text, .sl 3, .nils]), (0, .var 30 [.int .i64 0, .str [], .nils, .nils])]⟩
def bZ (m : Nat) (p0 : Tree) (a : (List (List UInt8))) (b : Nat) (c : List Tree) (r0 : Tree) : Prop := ∀ (K : Ctx) (j1 : Nat), aB K [] → m ≤ j1 → qLG K Tryz.f27 (fun u _ => u = .agg (aj r0)) (cL (xD (xM (xC (xL (xJ (ac Tryz.f27))))))) [.loop (cL (xD (xM (xC (xL (xJ (ac Tryz.f27))))))) j1, .blk 5, .blk 2, .seq (xJ (xI (ac Tryz.f27)))] 109 (mkF 109 0 [(4, .ptr 0 0), (6, .ptr 1 0), (7, .sl 2), (10, .int .i64 (b : Int))]) ⟨4, [(3, .row 9 1 (List.map V.str a)), (2, .row 30 4 (kidsV c)), (1, .var 30 [.int .i64 p0.kind, .str p0.text, .sl 3, .nils]), (0, .var 30 [.int .i64 0, .str [], .nils, .nils])]⟩
theorem kw (m : Nat) (p0 : Tree) (p1 : List UInt8) (r0 : Tree) (h : ∃ b, eh p0.kind (p0.kids.length : Int) b ∧ ∃ a, ff b a ∧ kx m p0 p1 a r0) : dC p0 p1 r0 := by
 refine ⟨rfl, rfl, ?_⟩
 refine am 109 [] Tryz.func27 rfl rfl rfl (aQ rfl) fun K hK => ?_
 refine gR 3 rfl <| gFP 0 rfl rfl rfl rfl <| gR 8 rfl <| gV 13 (.int .i64 (p0.kids.length : Int)) rfl (bo (aR _)) rfl <| gLB 12 rfl (aR _) fun hl31 => gR 4 rfl <| gDs [] 11 12 rfl (by kernel_rfl) (by kernel_rfl) <| gDr [(0, 2), (1, 2), (2, 2), (3, 2), (4, 2), (5, 2), (6, 2)] (by kernel_rfl) rfl rfl ?_
 obtain ⟨b, hs32, h⟩ := h
 apply nC (i := 7) (j := 10) (by kernel_rfl) rfl rfl rfl rfl
 exact (my (L' := []) (by kernel_rfl) rfl rfl (uL hs32 .rfl [] rfl) (.inl rfl))
 exact (nr ab rfl rfl)
 obtain ⟨a, hs33, h⟩ := h
 apply nC (i := 8) (j := 10) (by kernel_rfl) rfl rfl rfl rfl
 exact (my (L' := []) (by kernel_rfl) rfl rfl (zE (H := ⟨2, [(1, .var 30 [.int .i64 0, .str [], .nils, .nils])]⟩) hs33 [] .rfl trivial rfl [] rfl) (.inl rfl))
 exact (nr ab rfl rfl)
 exact gHR 2 (List.map V.str a) rfl (ak _ V.str (fun _ => rfl) a) rfl <| gDr [(9, 2), (10, 0), (11, 1)] (by kernel_rfl) rfl rfl <| gDe (by kernel_rfl) <| gJ (h K hK) [1, 3, 2] [] rfl hK pq5 ⟨⟨_, rfl, rfl, rfl, (ak _ V.str (fun _ => rfl) a).symm⟩, (pqo2 rfl rfl rfl rfl)⟩ rfl
 refine gDC 8 hs33 [] (by kernel_rfl) rfl (by kernel_rfl) rfl rfl .rfl trivial (by kernel_rfl) rfl ?_
 rintro _ _ ⟨rfl, rfl⟩
 exact gHR 3 (List.map V.str a) rfl (ak _ V.str (fun _ => rfl) a) rfl <| gDr [(9, 0), (11, 1)] (by kernel_rfl) rfl rfl <| gDe (by kernel_rfl) <| gJ (h K hK) [1, 2, 3] [] rfl hK pq5 ⟨⟨_, rfl, rfl, rfl, (ak _ V.str (fun _ => rfl) a).symm⟩, (pqo2 rfl rfl rfl rfl)⟩ rfl
 refine aW 7 hs32 (by kernel_rfl) rfl (by kernel_rfl) rfl rfl .rfl rfl rfl ?_
 obtain ⟨a, hs34, h⟩ := h
 refine gDC 8 hs34 [] (by kernel_rfl) rfl (by kernel_rfl) rfl rfl .rfl trivial (by kernel_rfl) rfl ?_
 rintro _ _ ⟨rfl, rfl⟩
 exact gHR 3 (List.map V.str a) rfl (ak _ V.str (fun _ => rfl) a) rfl <| gDr [(9, 0), (11, 1)] (by kernel_rfl) rfl rfl <| gDe (by kernel_rfl) <| gJ (h K hK) [1, 2, 3] [] rfl hK pq5 ⟨⟨_, rfl, rfl, rfl, (ak _ V.str (fun _ => rfl) a).symm⟩, (pqo2 rfl rfl rfl rfl)⟩ rfl
theorem jN (m : Nat) (p0 : Tree) (p1 : List UInt8) (a : (List (List UInt8))) (r0 : Tree) (h : p0.kids.length ≤ 1000000000 ∧ ca m p0 p1 a (List.replicate p0.kids.length (Tree.node 0 [] [] [])) 0 r0) : kx (m + 1) p0 p1 a r0 := by
 intro K hK
 refine gR 4 rfl ?_
 obtain ⟨hb, h⟩ := h
 exact gDo (.new (.row 30 4 (List.replicate p0.kids.length (.agg [.int .i64 0, .str [], .nils, .nils])))) (dMk ab rfl rfl rfl rfl rfl rfl rfl (by kernel_rfl) hb) trivial rfl rfl rfl <| gHW 3 (List.replicate p0.kids.length (.agg [.int .i64 0, .str [], .row 1 [], .row 4 (kidsV [])])) rfl rfl (aD.rep (.agg (.cons .rfl (.cons .rfl (.cons (.nil 1) (.cons (.nil 4) .nil))))) _) rfl <| gHR 3 (kidsV (List.replicate p0.kids.length (Tree.node 0 [] [] []))) rfl (by first | (simp only [eE, List.map_replicate]; done) | (simp only [eE, List.map_replicate]; rfl)) rfl <| gR 10 rfl <| go_loop m <| gJ (h K _ hK (by omega)) [0, 1, 3, 2] [] rfl hK pq7 ⟨⟨_, rfl, rfl, rfl, (ak _ V.str (fun _ => rfl) a).symm⟩, ⟨_, rfl, rfl, rfl, (eY _ (List.replicate p0.kids.length (Tree.node 0 [] [] []))).symm⟩, (pqo2 rfl rfl rfl rfl)⟩ rfl
theorem bx (m : Nat) (p0 : Tree) (p1 : List UInt8) (b : (List (List UInt8))) (c : List Tree) (a : Nat) (r0 : Tree) (h : ((a < p0.kids.length) → ∃ e, p0.kids[a]? = some e ∧ ∃ g, ix p0 (a : Int) p1 g ∧ ∃ d, dC e g d ∧ ∃ i, c[a]? = some i ∧ a + 1 ≤ 9223372036854775807 ∧ ca m p0 p1 b (c.set a d) (a + 1) r0) ∧ ((¬ a < p0.kids.length) → ((p0.kind ≠ 17) → ((p0.kind ≠ 21) → ∃ k, b[0]? = some k ∧ ct m p0 (b.set 0 p1) c r0) ∧ ((p0.kind = 21) → ct m p0 b c r0)) ∧ ((p0.kind = 17) → ct m p0 b c r0))) : ca (m + 1) p0 p1 b c a r0 := by
 intro K j1 hK hj1
 obtain ⟨j1, rfl⟩ : ∃ j, j1 = j + 1 := ⟨j1 - 1, by omega⟩
 refine gR 8 rfl <| gB 28 rfl rfl rfl ?_ ?_ <;> intro hd
 replace hd := (dX hd)
 replace h := h.1 hd
 refine gR 5 rfl <| gDs [] 13 14 rfl (by kernel_rfl) (by kernel_rfl) <| gDr [(0, 2), (1, 2), (2, 2), (3, 2), (4, 2)] (by kernel_rfl) rfl rfl ?_
 obtain ⟨e, hxt2_1, h⟩ := h
 refine gYd 5 rfl (by kernel_rfl) (bc (aw hxt2_1) ab rfl rfl rfl rfl) rfl rfl <| gDr [(6, 2), (7, 2), (8, 2), (9, 0)] (by kernel_rfl) rfl rfl ?_
 obtain ⟨g, hs35, h⟩ := h
 refine aW 10 hs35 (by kernel_rfl) rfl (by kernel_rfl) rfl rfl .rfl rfl rfl ?_
 obtain ⟨d, hs36, h⟩ := h
 refine aW 11 hs36 (by kernel_rfl) rfl (by kernel_rfl) rfl rfl .rfl rfl rfl ?_
 obtain ⟨i, hxt2_4, h⟩ := h
 refine db 12 rfl (by kernel_rfl) (yIO ab rfl rfl rfl rfl (by have := (aw hxt2_4); exact (List.getElem?_eq_some_iff.1 this).1)) rfl rfl ?_
 refine bY 13 (.set 2 (.row 30 4 (kidsV (c.set a d)))) rfl (by kernel_rfl) (dSe ab rfl rfl rfl rfl (aw hxt2_4) rfl (yL c a d)) (okS rfl) rfl (by kernel_rfl) rfl rfl ?_
 refine gDe (by kernel_rfl) <| gR 4 rfl ?_
 obtain ⟨hb, h⟩ := h
 exact gR 1 rfl <| gV 30 (.int .i64 ((a + 1 : Nat) : Int)) rfl (au (by omega) (by omega)) rfl <| gR 2 rfl <| go_xloop <| gJ (h K _ hK (by omega)) [0, 1, 2, 3] [] rfl hK pq7 ⟨⟨_, rfl, rfl, rfl, (ak _ V.str (fun _ => rfl) b).symm⟩, ⟨_, rfl, rfl, rfl, (eY _ (c.set a d)).symm⟩, (pqo2 rfl rfl rfl rfl)⟩ rfl
 replace hd := (dW hd)
 replace h := h.2 hd
 refine gR 3 rfl <| go_xloopE <| gR 9 rfl <| gB 47 rfl rfl rfl ?_ ?_ <;> intro hd
 refine gT 46 rfl hd rfl ?_
 replace hd := (gw hd)
 replace h := h.1 hd
 refine gR 6 rfl <| gB 51 rfl rfl rfl ?_ ?_ <;> intro hd
 replace hd := (gw hd)
 replace h := h.1 hd
 refine gR 5 rfl ?_
 obtain ⟨k, hxs2_5, h⟩ := h
 refine gY (yIO ab rfl rfl rfl rfl (by have := (mapget (f := V.str) hxs2_5); exact (List.getElem?_eq_some_iff.1 this).1)) rfl rfl ?_
 exact gDo (.set 3 (.row 9 1 (List.map V.str (b.set 0 p1)))) (dSe ab rfl rfl rfl rfl (mapget (f := V.str) hxs2_5) rfl (fT V.str b 0 p1)) (okS rfl) rfl rfl rfl <| gR 2 rfl <| gJ (h K hK) [0, 1, 2, 3] [] rfl hK pq4 ⟨⟨_, rfl, rfl, rfl, (ak _ V.str (fun _ => rfl) (b.set 0 p1)).symm⟩, ⟨_, rfl, rfl, rfl, (eY _ c).symm⟩, (pqo2 rfl rfl rfl rfl)⟩ rfl
 replace hd := (ey hd)
 replace h := h.2 hd
 exact gR 3 rfl <| gJ (h K hK) [0, 1, 2, 3] [] rfl hK pq4 ⟨⟨_, rfl, rfl, rfl, (ak _ V.str (fun _ => rfl) b).symm⟩, ⟨_, rfl, rfl, rfl, (eY _ c).symm⟩, (pqo2 rfl rfl rfl rfl)⟩ rfl
 refine gF 46 rfl hd rfl ?_
 replace hd := (ey hd)
 replace h := h.2 hd
 exact gR 9 rfl <| gJ (h K hK) [0, 1, 2, 3] [] rfl hK pq4 ⟨⟨_, rfl, rfl, rfl, (ak _ V.str (fun _ => rfl) b).symm⟩, ⟨_, rfl, rfl, rfl, (eY _ c).symm⟩, (pqo2 rfl rfl rfl rfl)⟩ rfl
theorem ar (m : Nat) (p0 : Tree) (a : (List (List UInt8))) (b : List Tree) (r0 : Tree) (h : ((p0.kind = 1) → ∃ c, a[2]? = some c ∧ (Tree.node p0.kind p0.text (a.set 2 [10]) b) = r0) ∧ ((p0.kind ≠ 1) → ((p0.kind = 2) → ∃ d, a[2]? = some d ∧ ∃ e, (a.set 2 [])[3]? = some e ∧ ∃ g, ((a.set 2 []).set 3 [])[4]? = some g ∧ cu m p0 (((a.set 2 []).set 3 []).set 4 []) 6 b r0) ∧ ((p0.kind ≠ 2) → ((p0.kind = 4) → ∃ i, a[1]? = some i ∧ (Tree.node p0.kind p0.text (a.set 1 []) b) = r0) ∧ ((p0.kind ≠ 4) → ((p0.kind = 8) → ∃ j, a[1]? = some j ∧ (Tree.node p0.kind p0.text (a.set 1 []) b) = r0) ∧ ((p0.kind ≠ 8) → ((p0.kind = 22) → ∃ k, a[1]? = some k ∧ (Tree.node p0.kind p0.text (a.set 1 []) b) = r0) ∧ ((p0.kind ≠ 22) → ((p0.kind = 16) → bZ m p0 a 1 b r0) ∧ ((p0.kind ≠ 16) → ((p0.kind = 18) → bZ m p0 a 1 b r0) ∧ ((p0.kind ≠ 18) → (Tree.node p0.kind p0.text a b) = r0)))))))) : ct (m + 1) p0 a b r0 := by
 intro K hK
 refine gR 14 rfl <| gB 58 rfl rfl rfl ?_ ?_ <;> intro hd
 refine gT 59 rfl hd rfl ?_
 replace hd := (eq_of_beq hd)
 replace h := h.1 hd
 refine gR 4 rfl ?_
 obtain ⟨c, hxs3_1, h⟩ := h
 refine gY (yIO ab rfl rfl rfl rfl (by have := (mapget (f := V.str) hxs3_1); exact (List.getElem?_eq_some_iff.1 this).1)) rfl rfl ?_
 refine gDo (.set 3 (.row 9 1 (List.map V.str (a.set 2 [10])))) (dSe ab rfl rfl rfl rfl (mapget (f := V.str) hxs3_1) rfl (fT V.str a 2 [10])) (okS rfl) rfl rfl rfl <| gR 17 rfl <| gFR 3 rfl (iX _ (fun _ => rfl) _) rfl rfl <| gFR 2 rfl (dd _) rfl rfl ?_
 subst h
 exact go_sub (F' := (mkF 109 0 [(4, .ptr 0 0)])) (H' := ⟨1, [(0, .var 30 [.int .i64 ((Tree.node p0.kind p0.text (a.set 2 [10]) b).kind), .str ((Tree.node p0.kind p0.text (a.set 2 [10]) b).text), .row 1 (List.map V.str ((Tree.node p0.kind p0.text (a.set 2 [10]) b).leads)), .row 4 (kidsV ((Tree.node p0.kind p0.text (a.set 2 [10]) b).kids))])]⟩) [0] [] rfl hK pq1 (pqo1 rfl rfl) rfl <| go_end ab (rs := [.cell 4 30]) rfl rfl rfl
 refine gF 59 rfl hd rfl ?_
 replace hd := (ne_of_beq_false hd)
 replace h := h.2 hd
 refine gR 7 rfl <| gB 63 rfl rfl rfl ?_ ?_ <;> intro hd
 refine gT 64 rfl hd rfl ?_
 replace hd := (eq_of_beq hd)
 replace h := h.1 hd
 refine gR 2 rfl <| gDs [1] 11 12 rfl (by kernel_rfl) (by kernel_rfl) <| gDr [(0, 2), (1, 3), (2, 2), (3, 3), (4, 2), (5, 3)] (by kernel_rfl) rfl rfl ?_
 obtain ⟨d, hxs3_2, h⟩ := h
 refine db 6 rfl (by kernel_rfl) (yIO ab rfl rfl rfl rfl (by have := (mapget (f := V.str) hxs3_2); exact (List.getElem?_eq_some_iff.1 this).1)) rfl rfl ?_
 refine bY 7 (.set 3 (.row 9 1 (List.map V.str (a.set 2 [])))) rfl (by kernel_rfl) (dSe ab rfl rfl rfl rfl (mapget (f := V.str) hxs3_2) rfl (fT V.str a 2 [])) (okS rfl) rfl (by kernel_rfl) rfl rfl ?_
 obtain ⟨e, hxs3_3, h⟩ := h
 refine db 8 rfl (by kernel_rfl) (yIO ab rfl rfl rfl rfl (by have := (mapget (f := V.str) hxs3_3); exact (List.getElem?_eq_some_iff.1 this).1)) rfl rfl ?_
 refine bY 9 (.set 3 (.row 9 1 (List.map V.str ((a.set 2 []).set 3 [])))) rfl (by kernel_rfl) (dSe ab rfl rfl rfl rfl (mapget (f := V.str) hxs3_3) rfl (fT V.str (a.set 2 []) 3 [])) (okS rfl) rfl (by kernel_rfl) rfl rfl ?_
 obtain ⟨g, hxs3_4, h⟩ := h
 refine db 10 rfl (by kernel_rfl) (yIO ab rfl rfl rfl rfl (by have := (mapget (f := V.str) hxs3_4); exact (List.getElem?_eq_some_iff.1 this).1)) rfl rfl ?_
 refine bY 11 (.set 3 (.row 9 1 (List.map V.str (((a.set 2 []).set 3 []).set 4 [])))) rfl (by kernel_rfl) (dSe ab rfl rfl rfl rfl (mapget (f := V.str) hxs3_4) rfl (fT V.str ((a.set 2 []).set 3 []) 4 [])) (okS rfl) rfl (by kernel_rfl) rfl rfl ?_
 exact gDe (by kernel_rfl) <| gR 7 rfl <| go_loop m <| gJ (h K _ hK (by omega)) [0, 1, 2, 3] [] rfl hK pq4 ⟨⟨_, rfl, rfl, rfl, (ak _ V.str (fun _ => rfl) (((a.set 2 []).set 3 []).set 4 [])).symm⟩, ⟨_, rfl, rfl, rfl, (eY _ b).symm⟩, (pqo2 rfl rfl rfl rfl)⟩ rfl
 refine gF 64 rfl hd rfl ?_
 replace hd := (ne_of_beq_false hd)
 replace h := h.2 hd
 refine gR 8 rfl <| gB 85 rfl rfl rfl ?_ ?_ <;> intro hd
 refine gT 86 rfl hd rfl ?_
 replace hd := (eq_of_beq hd)
 replace h := h.1 hd
 refine gR 7 rfl ?_
 obtain ⟨i, hxs3_5, h⟩ := h
 refine gY (yIO ab rfl rfl rfl rfl (by have := (mapget (f := V.str) hxs3_5); exact (List.getElem?_eq_some_iff.1 this).1)) rfl rfl ?_
 refine gDo (.set 3 (.row 9 1 (List.map V.str (a.set 1 [])))) (dSe ab rfl rfl rfl rfl (mapget (f := V.str) hxs3_5) rfl (fT V.str a 1 [])) (okS rfl) rfl rfl rfl <| gR 17 rfl <| gFR 3 rfl (iX _ (fun _ => rfl) _) rfl rfl <| gFR 2 rfl (dd _) rfl rfl ?_
 subst h
 exact go_sub (F' := (mkF 109 0 [(4, .ptr 0 0)])) (H' := ⟨1, [(0, .var 30 [.int .i64 ((Tree.node p0.kind p0.text (a.set 1 []) b).kind), .str ((Tree.node p0.kind p0.text (a.set 1 []) b).text), .row 1 (List.map V.str ((Tree.node p0.kind p0.text (a.set 1 []) b).leads)), .row 4 (kidsV ((Tree.node p0.kind p0.text (a.set 1 []) b).kids))])]⟩) [0] [] rfl hK pq1 (pqo1 rfl rfl) rfl <| go_end ab (rs := [.cell 4 30]) rfl rfl rfl
 refine gF 86 rfl hd rfl ?_
 replace hd := (ne_of_beq_false hd)
 replace h := h.2 hd
 refine gR 7 rfl <| gB 85 rfl rfl rfl ?_ ?_ <;> intro hd
 refine gT 87 rfl hd rfl ?_
 replace hd := (eq_of_beq hd)
 replace h := h.1 hd
 refine gR 7 rfl ?_
 obtain ⟨j, hxs3_6, h⟩ := h
 refine gY (yIO ab rfl rfl rfl rfl (by have := (mapget (f := V.str) hxs3_6); exact (List.getElem?_eq_some_iff.1 this).1)) rfl rfl ?_
 refine gDo (.set 3 (.row 9 1 (List.map V.str (a.set 1 [])))) (dSe ab rfl rfl rfl rfl (mapget (f := V.str) hxs3_6) rfl (fT V.str a 1 [])) (okS rfl) rfl rfl rfl <| gR 17 rfl <| gFR 3 rfl (iX _ (fun _ => rfl) _) rfl rfl <| gFR 2 rfl (dd _) rfl rfl ?_
 subst h
 exact go_sub (F' := (mkF 109 0 [(4, .ptr 0 0)])) (H' := ⟨1, [(0, .var 30 [.int .i64 ((Tree.node p0.kind p0.text (a.set 1 []) b).kind), .str ((Tree.node p0.kind p0.text (a.set 1 []) b).text), .row 1 (List.map V.str ((Tree.node p0.kind p0.text (a.set 1 []) b).leads)), .row 4 (kidsV ((Tree.node p0.kind p0.text (a.set 1 []) b).kids))])]⟩) [0] [] rfl hK pq1 (pqo1 rfl rfl) rfl <| go_end ab (rs := [.cell 4 30]) rfl rfl rfl
 refine gF 87 rfl hd rfl ?_
 replace hd := (ne_of_beq_false hd)
 replace h := h.2 hd
 refine gR 6 rfl <| gB 85 rfl rfl rfl ?_ ?_ <;> intro hd
 refine gT 88 rfl hd rfl ?_
 replace hd := (eq_of_beq hd)
 replace h := h.1 hd
 refine gR 4 rfl ?_
 obtain ⟨k, hxs3_7, h⟩ := h
 refine gY (yIO ab rfl rfl rfl rfl (by have := (mapget (f := V.str) hxs3_7); exact (List.getElem?_eq_some_iff.1 this).1)) rfl rfl ?_
 refine gDo (.set 3 (.row 9 1 (List.map V.str (a.set 1 [])))) (dSe ab rfl rfl rfl rfl (mapget (f := V.str) hxs3_7) rfl (fT V.str a 1 [])) (okS rfl) rfl rfl rfl <| gR 17 rfl <| gFR 3 rfl (iX _ (fun _ => rfl) _) rfl rfl <| gFR 2 rfl (dd _) rfl rfl ?_
 subst h
 exact go_sub (F' := (mkF 109 0 [(4, .ptr 0 0)])) (H' := ⟨1, [(0, .var 30 [.int .i64 ((Tree.node p0.kind p0.text (a.set 1 []) b).kind), .str ((Tree.node p0.kind p0.text (a.set 1 []) b).text), .row 1 (List.map V.str ((Tree.node p0.kind p0.text (a.set 1 []) b).leads)), .row 4 (kidsV ((Tree.node p0.kind p0.text (a.set 1 []) b).kids))])]⟩) [0] [] rfl hK pq1 (pqo1 rfl rfl) rfl <| go_end ab (rs := [.cell 4 30]) rfl rfl rfl
 refine gF 88 rfl hd rfl ?_
 replace hd := (ne_of_beq_false hd)
 replace h := h.2 hd
 refine gR 8 rfl <| gB 92 rfl rfl rfl ?_ ?_ <;> intro hd
 refine gT 93 rfl hd rfl ?_
 replace hd := (eq_of_beq hd)
 replace h := h.1 hd
 exact gR 10 rfl <| go_loop m <| gJ (h K _ hK (by omega)) [0, 1, 2, 3] [] rfl hK pq4 ⟨⟨_, rfl, rfl, rfl, (ak _ V.str (fun _ => rfl) a).symm⟩, ⟨_, rfl, rfl, rfl, (eY _ b).symm⟩, (pqo2 rfl rfl rfl rfl)⟩ rfl
 refine gF 93 rfl hd rfl ?_
 replace hd := (ne_of_beq_false hd)
 replace h := h.2 hd
 refine gR 6 rfl <| gB 92 rfl rfl rfl ?_ ?_ <;> intro hd
 refine gT 94 rfl hd rfl ?_
 replace hd := (eq_of_beq hd)
 replace h := h.1 hd
 exact gR 7 rfl <| go_loop m <| gJ (h K _ hK (by omega)) [0, 1, 2, 3] [] rfl hK pq4 ⟨⟨_, rfl, rfl, rfl, (ak _ V.str (fun _ => rfl) a).symm⟩, ⟨_, rfl, rfl, rfl, (eY _ b).symm⟩, (pqo2 rfl rfl rfl rfl)⟩ rfl
 refine gF 94 rfl hd rfl ?_
 replace hd := (ne_of_beq_false hd)
 replace h := h.2 hd
 refine gR 18 rfl <| gFR 3 rfl (iX _ (fun _ => rfl) _) rfl rfl <| gFR 2 rfl (dd _) rfl rfl ?_
 subst h
 exact go_sub (F' := (mkF 109 0 [(4, .ptr 0 0)])) (H' := ⟨1, [(0, .var 30 [.int .i64 ((Tree.node p0.kind p0.text a b).kind), .str ((Tree.node p0.kind p0.text a b).text), .row 1 (List.map V.str ((Tree.node p0.kind p0.text a b).leads)), .row 4 (kidsV ((Tree.node p0.kind p0.text a b).kids))])]⟩) [0] [] rfl hK pq1 (pqo1 rfl rfl) rfl <| go_end ab (rs := [.cell 4 30]) rfl rfl rfl
theorem cX (m : Nat) (p0 : Tree) (a : (List (List UInt8))) (b : Nat) (c : List Tree) (r0 : Tree) (h : ((b < a.length) → ∃ d, a[b]? = some d ∧ cu m p0 (a.set b []) (b + 1) c r0) ∧ ((¬ b < a.length) → (Tree.node p0.kind p0.text a c) = r0)) : cu (m + 1) p0 a b c r0 := by
 intro K j1 hK hj1
 obtain ⟨j1, rfl⟩ : ∃ j, j1 = j + 1 := ⟨j1 - 1, by omega⟩
 refine gR 7 rfl <| gV 77 (.int .i64 (a.length : Int)) rfl (bo (aP V.str _)) rfl <| gLO 3 rfl (aP V.str _) fun hl37 => gR 3 rfl <| gB 78 rfl rfl rfl ?_ ?_ <;> intro hd
 replace hd := (dX hd)
 replace h := h.1 hd
 refine gR 9 rfl ?_
 obtain ⟨d, hxs4_1, h⟩ := h
 refine gY (yIO ab rfl rfl rfl rfl (by have := (mapget (f := V.str) hxs4_1); exact (List.getElem?_eq_some_iff.1 this).1)) rfl rfl ?_
 exact gDo (.set 3 (.row 9 1 (List.map V.str (a.set b [])))) (dSe ab rfl rfl rfl rfl (mapget (f := V.str) hxs4_1) rfl (fT V.str a b [])) (okS rfl) rfl rfl rfl <| gR 6 rfl <| gV 80 (.int .i64 ((b + 1 : Nat) : Int)) rfl (au (by have := hl37; omega) (by omega)) rfl <| gR 2 rfl <| go_xloop <| gJ (h K _ hK (by omega)) [0, 1, 2, 3] [] rfl hK pq4 ⟨⟨_, rfl, rfl, rfl, (ak _ V.str (fun _ => rfl) (a.set b [])).symm⟩, ⟨_, rfl, rfl, rfl, (eY _ c).symm⟩, (pqo2 rfl rfl rfl rfl)⟩ rfl
 replace hd := (dW hd)
 replace h := h.2 hd
 refine gR 3 rfl <| go_xloopE <| gR 17 rfl <| gFR 3 rfl (iX _ (fun _ => rfl) _) rfl rfl <| gFR 2 rfl (dd _) rfl rfl ?_
 subst h
 exact go_sub (F' := (mkF 109 0 [(4, .ptr 0 0)])) (H' := ⟨1, [(0, .var 30 [.int .i64 ((Tree.node p0.kind p0.text a c).kind), .str ((Tree.node p0.kind p0.text a c).text), .row 1 (List.map V.str ((Tree.node p0.kind p0.text a c).leads)), .row 4 (kidsV ((Tree.node p0.kind p0.text a c).kids))])]⟩) [0] [] rfl hK pq1 (pqo1 rfl rfl) rfl <| go_end ab (rs := [.cell 4 30]) rfl rfl rfl
theorem cZ (m : Nat) (p0 : Tree) (a : (List (List UInt8))) (b : Nat) (c : List Tree) (r0 : Tree) (h : ((b < a.length) → ∃ d, a[b]? = some d ∧ bZ m p0 (a.set b []) (b + 1) c r0) ∧ ((¬ b < a.length) → (Tree.node p0.kind p0.text a c) = r0)) : bZ (m + 1) p0 a b c r0 := by
 intro K j1 hK hj1
 obtain ⟨j1, rfl⟩ : ∃ j, j1 = j + 1 := ⟨j1 - 1, by omega⟩
 refine gR 7 rfl <| gV 98 (.int .i64 (a.length : Int)) rfl (bo (aP V.str _)) rfl <| gLO 3 rfl (aP V.str _) fun hl38 => gR 3 rfl <| gB 99 rfl rfl rfl ?_ ?_ <;> intro hd
 replace hd := (dX hd)
 replace h := h.1 hd
 refine gR 9 rfl ?_
 obtain ⟨d, hxs5_1, h⟩ := h
 refine gY (yIO ab rfl rfl rfl rfl (by have := (mapget (f := V.str) hxs5_1); exact (List.getElem?_eq_some_iff.1 this).1)) rfl rfl ?_
 exact gDo (.set 3 (.row 9 1 (List.map V.str (a.set b [])))) (dSe ab rfl rfl rfl rfl (mapget (f := V.str) hxs5_1) rfl (fT V.str a b [])) (okS rfl) rfl rfl rfl <| gR 6 rfl <| gV 101 (.int .i64 ((b + 1 : Nat) : Int)) rfl (au (by have := hl38; omega) (by omega)) rfl <| gR 2 rfl <| go_xloop <| gJ (h K _ hK (by omega)) [0, 1, 2, 3] [] rfl hK pq4 ⟨⟨_, rfl, rfl, rfl, (ak _ V.str (fun _ => rfl) (a.set b [])).symm⟩, ⟨_, rfl, rfl, rfl, (eY _ c).symm⟩, (pqo2 rfl rfl rfl rfl)⟩ rfl
 replace hd := (dW hd)
 replace h := h.2 hd
 refine gR 3 rfl <| go_xloopE <| gR 17 rfl <| gFR 3 rfl (iX _ (fun _ => rfl) _) rfl rfl <| gFR 2 rfl (dd _) rfl rfl ?_
 subst h
 exact go_sub (F' := (mkF 109 0 [(4, .ptr 0 0)])) (H' := ⟨1, [(0, .var 30 [.int .i64 ((Tree.node p0.kind p0.text a c).kind), .str ((Tree.node p0.kind p0.text a c).text), .row 1 (List.map V.str ((Tree.node p0.kind p0.text a c).leads)), .row 4 (kidsV ((Tree.node p0.kind p0.text a c).kids))])]⟩) [0] [] rfl hK pq1 (pqo1 rfl rfl) rfl <| go_end ab (rs := [.cell 4 30]) rfl rfl rfl
theorem gp (m : Nat) (p0 r0 : Tree) (h : ∃ b, cR p0 b ∧ ((b = false) → (Tree.node 0 [] [] []) = r0) ∧ ((b = true) → ∃ a, dC p0 [] a ∧ a = r0)) : cz p0 r0 := by
 refine ⟨rfl, rfl, ?_⟩
 refine am 9 [] Tryz.func10 rfl rfl rfl (aQ rfl) fun K hK => ?_
 refine gR 3 rfl <| gFP 0 rfl rfl rfl rfl <| gR 7 rfl ?_
 obtain ⟨b, hs3, h⟩ := h
 refine gC0 hs3 (by kernel_rfl) rfl rfl .rfl rfl <| gR 3 rfl <| qBh 5 rfl rfl rfl h cg cf (fun h => ?_) fun h => ?_
 refine gR 9 rfl ?_
 subst h
 exact go_sub (F' := (mkF 9 0 [(2, .ptr 0 0)])) (H' := ⟨1, [(0, .var 30 [.int .i64 ((Tree.node 0 [] [] []).kind), .str ((Tree.node 0 [] [] []).text), .row 1 (List.map V.str ((Tree.node 0 [] [] []).leads)), .row 4 (kidsV ((Tree.node 0 [] [] []).kids))])]⟩) [1] [] rfl hK pq1 ⟨⟨_, rfl, rfl, (.cons .rfl (.cons .rfl (.cons (.nil 1) (.cons (.nil 4) .nil))))⟩, trivial⟩ rfl <| go_end ab (rs := [.cell 2 30]) rfl rfl rfl
 refine gR 6 rfl ?_
 obtain ⟨a, hs4, h⟩ := h
 refine gC0 hs4 (by kernel_rfl) rfl rfl .rfl rfl <| gR 4 rfl ?_
 subst h
 exact go_sub (F' := (mkF 9 0 [(2, .ptr 0 0)])) (H' := ⟨1, [(0, .var 30 [.int .i64 a.kind, .str a.text, .row 1 (List.map V.str a.leads), .row 4 (kidsV a.kids)])]⟩) [1] [] rfl hK pq1 (pqo1 rfl rfl) rfl <| go_end ab (rs := [.cell 2 30]) rfl rfl rfl
theorem fj (m : Nat) (p0 : Tree) (r0 : Bool) (h : ∃ a, cj p0 a ∧ ((a = true) → ∃ b, fq p0 b ∧ ((b = true) → ∃ c, fP p0 c ∧ ((c ≤ 40) → ∃ d, iQ p0 d ∧ decide ((d.length : Int) ≤ 4096) = r0) ∧ ((¬ c ≤ 40) → false = r0)) ∧ ((b = false) → false = r0)) ∧ ((a = false) → false = r0)) : en p0 r0 := by
 refine ⟨rfl, rfl, ?_⟩
 refine am 20 [] Tryz.func23 rfl rfl rfl (aQ rfl) fun K hK => ?_
 refine gR 3 rfl <| gFP 0 rfl rfl rfl rfl <| gR 6 rfl ?_
 obtain ⟨a, hs5, h⟩ := h
 refine gC0 hs5 (by kernel_rfl) rfl rfl .rfl rfl <| gR 1 rfl <| qBiZ 5 4 rfl rfl rfl rfl h (fun h => ?_) fun h => ?_
 refine gR 1 rfl ?_
 obtain ⟨b, hs6, h⟩ := h
 refine gC0 hs6 (by kernel_rfl) rfl rfl .rfl rfl <| gR 2 rfl <| qBiZ 9 8 rfl rfl rfl rfl h (fun h => ?_) fun h => ?_
 refine gR 1 rfl ?_
 obtain ⟨c, hs7, h⟩ := h
 refine gC0 hs7 (by kernel_rfl) rfl rfl .rfl rfl <| gR 3 rfl <| qBdZ 14 13 rfl rfl rfl rfl h (fun h => ?_) fun h => ?_
 refine gR 1 rfl ?_
 obtain ⟨d, hs8, h⟩ := h
 refine gC0 hs8 (by kernel_rfl) rfl rfl .rfl rfl <| gR 7 rfl ?_
 subst h
 exact go_end ab (rs := [.tmp 2]) rfl rfl rfl
 refine gR 9 rfl ?_
 subst h
 exact go_end ab (rs := [.tmp 2]) rfl rfl rfl
 refine gR 14 rfl ?_
 subst h
 exact go_end ab (rs := [.tmp 2]) rfl rfl rfl
 refine gR 18 rfl ?_
 subst h
 exact go_end ab (rs := [.tmp 2]) rfl rfl rfl
theorem fH (m : Nat) (p0 : Tree) (r0 : Bool) (h : ∃ a, cR p0 a ∧ ((a = true) → ∃ b, ek p0 b ∧ b = r0) ∧ ((a = false) → false = r0)) : cj p0 r0 := by
 refine ⟨rfl, rfl, ?_⟩
 refine am 9 [] Tryz.func28 rfl rfl rfl (aQ rfl) fun K hK => ?_
 refine gR 3 rfl <| gFP 0 rfl rfl rfl rfl <| gR 6 rfl ?_
 obtain ⟨a, hs3, h⟩ := h
 refine gC0 hs3 (by kernel_rfl) rfl rfl .rfl rfl <| gR 1 rfl <| qBiZ 5 4 rfl rfl rfl rfl h (fun h => ?_) fun h => ?_
 refine gR 1 rfl ?_
 obtain ⟨b, hs4, h⟩ := h
 refine gC0 hs4 (by kernel_rfl) rfl rfl .rfl rfl <| gR 5 rfl ?_
 subst h
 exact go_end ab (rs := [.tmp 2]) rfl rfl rfl
 refine gR 7 rfl ?_
 subst h
 exact go_end ab (rs := [.tmp 2]) rfl rfl rfl
def bS (m : Nat) (p0 : Tree) (a : Nat) (r0 : Bool) : Prop := ∀ (K : Ctx) (j1 : Nat), aB K [] → m ≤ j1 → qLG K Tryz.f50 (fun u _ => u = .bool r0) (xH (ac Tryz.f50)) [.loop (xH (ac Tryz.f50)) j1, .blk 0, .seq (xI (ac Tryz.f50))] 50 (mkF 50 0 [(1, .box (aj p0) 0), (3, .int .i64 (a : Int))]) ⟨0, []⟩
def cW (m : Nat) (p0 : Tree) (a : Nat) (r0 : Bool) : Prop := ∀ (K : Ctx) (j1 : Nat), aB K [] → m ≤ j1 → qLG K Tryz.f50 (fun u _ => u = .bool r0) (xN (ac Tryz.f50)) [.loop (xN (ac Tryz.f50)) j1, .blk 2, .seq (xJ (ac Tryz.f50))] 50 (mkF 50 0 [(1, .box (aj p0) 0), (4, .int .i64 (a : Int))]) ⟨0, []⟩
theorem fg (m : Nat) (p0 : Tree) (r0 : Bool) (h : ∃ a, eh p0.kind (p0.kids.length : Int) a ∧ (((p0.leads.length : Int) ≠ a) → false = r0) ∧ (((p0.leads.length : Int) = a) → bS m p0 0 r0)) : ek p0 r0 := by
 refine ⟨rfl, rfl, ?_⟩
 refine am 50 [] Tryz.func50 rfl rfl rfl (aQ rfl) fun K hK => ?_
 refine gR 3 rfl <| gFP 0 rfl rfl rfl rfl <| gR 5 rfl <| gDs [] 10 10 rfl (by kernel_rfl) (by kernel_rfl) <| gDr [(0, 2), (1, 2), (2, 2)] (by kernel_rfl) rfl rfl <| gV 7 (.int .i64 (p0.leads.length : Int)) rfl (bo (aP V.str _)) rfl <| gLB 6 rfl (aP V.str _) fun hl35 => gDr [(3, 2), (4, 2), (5, 0), (6, 0), (7, 0)] (by kernel_rfl) rfl rfl <| gV 12 (.int .i64 (p0.kids.length : Int)) rfl (bo (aR _)) rfl <| gLB 11 rfl (aR _) fun hl36 => ?_
 obtain ⟨a, hs37, h⟩ := h
 refine aW 8 hs37 (by kernel_rfl) rfl (by kernel_rfl) rfl rfl .rfl rfl rfl ?_
 refine gDr [(9, 0)] (by kernel_rfl) rfl rfl <| gDe (by kernel_rfl) <| gR 1 rfl <| gB 14 rfl rfl rfl ?_ ?_ <;> intro hd
 replace hd := (gw hd)
 replace h := h.1 hd
 refine gR 8 rfl ?_
 subst h
 exact go_end ab (rs := [.tmp 2]) rfl rfl rfl
 replace hd := (ey hd)
 replace h := h.2 hd
 exact gR 10 rfl <| go_loop m <| gJ (h K _ hK (by omega)) [] [] rfl hK pq2 trivial rfl
theorem bO (m : Nat) (p0 : Tree) (a : Nat) (r0 : Bool) (h : ((a < p0.leads.length) → ∃ b, p0.leads[a]? = some b ∧ ((p0.kind = 1) → ∃ c, iA b ((a : Int) == 2) c ∧ ((c = false) → false = r0) ∧ ((c = true) → bS m p0 (a + 1) r0)) ∧ ((p0.kind ≠ 1) → ∃ d, iA b false d ∧ ((d = false) → false = r0) ∧ ((d = true) → bS m p0 (a + 1) r0))) ∧ ((¬ a < p0.leads.length) → cW m p0 0 r0)) : bS (m + 1) p0 a r0 := by
 intro K j1 hK hj1
 obtain ⟨j1, rfl⟩ : ∃ j, j1 = j + 1 := ⟨j1 - 1, by omega⟩
 refine gR 7 rfl <| gV 18 (.int .i64 (p0.leads.length : Int)) rfl (bo (aP V.str _)) rfl <| gLB 17 rfl (aP V.str _) fun hl38 => gR 3 rfl <| gB 19 rfl rfl rfl ?_ ?_ <;> intro hd
 replace hd := (dX hd)
 replace h := h.1 hd
 refine gR 6 rfl <| gDs [] 14 14 rfl (by kernel_rfl) (by kernel_rfl) <| gDr [(0, 2), (1, 2), (2, 2)] (by kernel_rfl) rfl rfl ?_
 obtain ⟨b, hxs1_1, h⟩ := h
 refine gYd 3 rfl (by kernel_rfl) (bc (mapget (f := V.str) hxs1_1) ab rfl rfl rfl rfl) rfl rfl <| gDr [(4, 2), (5, 0), (6, 0), (7, 0), (8, 0)] (by kernel_rfl) rfl rfl <| gB 30 rfl rfl rfl ?_ ?_ <;> intro hd
 refine gT 29 rfl hd rfl ?_
 replace hd := (eq_of_beq hd)
 replace h := h.1 hd
 refine gDr [(9, 0), (10, 0), (11, 0)] (by kernel_rfl) rfl rfl ?_
 obtain ⟨c, hs39, h⟩ := h
 refine aW 12 hs39 (by kernel_rfl) rfl (by kernel_rfl) rfl rfl .rfl rfl rfl ?_
 refine gDr [(13, 0)] (by kernel_rfl) rfl rfl <| gDe (by kernel_rfl) <| gR 1 rfl <| gB 35 rfl rfl rfl ?_ ?_ <;> intro hd
 replace hd := (cg hd)
 replace h := h.1 hd
 refine gR 9 rfl <| go_xloopR <| gR 2 rfl ?_
 subst h
 exact go_end ab (rs := [.tmp 2]) rfl rfl rfl
 replace hd := (cf hd)
 replace h := h.2 hd
 exact gR 7 rfl <| gV 21 (.int .i64 ((a + 1 : Nat) : Int)) rfl (au (by have := hl38; omega) (by omega)) rfl <| gR 2 rfl <| go_xloop <| gJ (h K _ hK (by omega)) [] [] rfl hK pq2 trivial rfl
 refine gF 29 rfl hd rfl ?_
 replace hd := (ne_of_beq_false hd)
 replace h := h.2 hd
 refine gDr [(9, 0), (10, 0), (11, 0)] (by kernel_rfl) rfl rfl ?_
 obtain ⟨d, hs40, h⟩ := h
 refine aW 12 hs40 (by kernel_rfl) rfl (by kernel_rfl) rfl rfl .rfl rfl rfl ?_
 refine gDr [(13, 0)] (by kernel_rfl) rfl rfl <| gDe (by kernel_rfl) <| gR 1 rfl <| gB 35 rfl rfl rfl ?_ ?_ <;> intro hd
 replace hd := (cg hd)
 replace h := h.1 hd
 refine gR 9 rfl <| go_xloopR <| gR 2 rfl ?_
 subst h
 exact go_end ab (rs := [.tmp 2]) rfl rfl rfl
 replace hd := (cf hd)
 replace h := h.2 hd
 exact gR 7 rfl <| gV 21 (.int .i64 ((a + 1 : Nat) : Int)) rfl (au (by have := hl38; omega) (by omega)) rfl <| gR 2 rfl <| go_xloop <| gJ (h K _ hK (by omega)) [] [] rfl hK pq2 trivial rfl
 replace hd := (dW hd)
 replace h := h.2 hd
 exact gR 3 rfl <| go_xloopE <| gR 9 rfl <| go_loop m <| gJ (h K _ hK (by omega)) [] [] rfl hK pq2 trivial rfl
theorem cC (m : Nat) (p0 : Tree) (a : Nat) (r0 : Bool) (h : ((a < p0.kids.length) → ∃ c, p0.kids[a]? = some c ∧ ∃ b, ek c b ∧ ((b = false) → false = r0) ∧ ((b = true) → cW m p0 (a + 1) r0)) ∧ ((¬ a < p0.kids.length) → true = r0)) : cW (m + 1) p0 a r0 := by
 intro K j1 hK hj1
 obtain ⟨j1, rfl⟩ : ∃ j, j1 = j + 1 := ⟨j1 - 1, by omega⟩
 refine gR 7 rfl <| gV 39 (.int .i64 (p0.kids.length : Int)) rfl (bo (aR _)) rfl <| gLB 38 rfl (aR _) fun hl41 => gR 3 rfl <| gB 40 rfl rfl rfl ?_ ?_ <;> intro hd
 replace hd := (dX hd)
 replace h := h.1 hd
 refine gR 10 rfl ?_
 obtain ⟨c, hxt2_1, h⟩ := h
 refine gY (bc (aw hxt2_1) ab rfl rfl rfl rfl) rfl rfl <| gR 1 rfl ?_
 obtain ⟨b, hs42, h⟩ := h
 refine gC0 hs42 (by kernel_rfl) rfl rfl .rfl rfl <| gR 3 rfl <| gB 49 rfl rfl rfl ?_ ?_ <;> intro hd
 replace hd := (cg hd)
 replace h := h.1 hd
 refine gR 9 rfl <| go_xloopR <| gR 2 rfl ?_
 subst h
 exact go_end ab (rs := [.tmp 2]) rfl rfl rfl
 replace hd := (cf hd)
 replace h := h.2 hd
 exact gR 7 rfl <| gV 42 (.int .i64 ((a + 1 : Nat) : Int)) rfl (au (by have := hl41; omega) (by omega)) rfl <| gR 2 rfl <| go_xloop <| gJ (h K _ hK (by omega)) [] [] rfl hK pq2 trivial rfl
 replace hd := (dW hd)
 replace h := h.2 hd
 refine gR 3 rfl <| go_xloopE <| gR 8 rfl ?_
 subst h
 exact go_end ab (rs := [.tmp 2]) rfl rfl rfl
def ay (m : Nat) (p0 : Tree) (a : Nat) (r0 : Bool) : Prop := ∀ (K : Ctx) (j1 : Nat), aB K [] → m ≤ j1 → qLG K Tryz.f39 (fun u _ => u = .bool r0) (xN (ac Tryz.f39)) [.loop (xN (ac Tryz.f39)) j1, .blk 0, .seq (xJ (ac Tryz.f39))] 54 (mkF 54 0 [(1, .box (aj p0) 0), (3, .int .i64 (p0.kids.length : Int)), (4, .int .i64 (a : Int))]) ⟨0, []⟩
theorem lf (m : Nat) (p0 : Tree) (r0 : Bool) (h : ((p0.kind = 1) → ((40 < (p0.kids.length : Int)) → false = r0) ∧ ((¬ 40 < (p0.kids.length : Int)) → ((p0.kind = 2) → ((10 < (p0.kids.length : Int)) → false = r0) ∧ ((¬ 10 < (p0.kids.length : Int)) → ((p0.kind = 16) → ((8 < (p0.kids.length : Int)) → false = r0) ∧ ((¬ 8 < (p0.kids.length : Int)) → ((p0.kind = 18) → ((16 < (p0.kids.length : Int)) → false = r0) ∧ ((¬ 16 < (p0.kids.length : Int)) → ay m p0 0 r0)) ∧ ((p0.kind ≠ 18) → ay m p0 0 r0))) ∧ ((p0.kind ≠ 16) → ((p0.kind = 18) → ((16 < (p0.kids.length : Int)) → false = r0) ∧ ((¬ 16 < (p0.kids.length : Int)) → ay m p0 0 r0)) ∧ ((p0.kind ≠ 18) → ay m p0 0 r0)))) ∧ ((p0.kind ≠ 2) → ((p0.kind = 16) → ((8 < (p0.kids.length : Int)) → false = r0) ∧ ((¬ 8 < (p0.kids.length : Int)) → ((p0.kind = 18) → ((16 < (p0.kids.length : Int)) → false = r0) ∧ ((¬ 16 < (p0.kids.length : Int)) → ay m p0 0 r0)) ∧ ((p0.kind ≠ 18) → ay m p0 0 r0))) ∧ ((p0.kind ≠ 16) → ((p0.kind = 18) → ((16 < (p0.kids.length : Int)) → false = r0) ∧ ((¬ 16 < (p0.kids.length : Int)) → ay m p0 0 r0)) ∧ ((p0.kind ≠ 18) → ay m p0 0 r0))))) ∧ ((p0.kind ≠ 1) → ((p0.kind = 2) → ((10 < (p0.kids.length : Int)) → false = r0) ∧ ((¬ 10 < (p0.kids.length : Int)) → ((p0.kind = 16) → ((8 < (p0.kids.length : Int)) → false = r0) ∧ ((¬ 8 < (p0.kids.length : Int)) → ((p0.kind = 18) → ((16 < (p0.kids.length : Int)) → false = r0) ∧ ((¬ 16 < (p0.kids.length : Int)) → ay m p0 0 r0)) ∧ ((p0.kind ≠ 18) → ay m p0 0 r0))) ∧ ((p0.kind ≠ 16) → ((p0.kind = 18) → ((16 < (p0.kids.length : Int)) → false = r0) ∧ ((¬ 16 < (p0.kids.length : Int)) → ay m p0 0 r0)) ∧ ((p0.kind ≠ 18) → ay m p0 0 r0)))) ∧ ((p0.kind ≠ 2) → ((p0.kind = 16) → ((8 < (p0.kids.length : Int)) → false = r0) ∧ ((¬ 8 < (p0.kids.length : Int)) → ((p0.kind = 18) → ((16 < (p0.kids.length : Int)) → false = r0) ∧ ((¬ 16 < (p0.kids.length : Int)) → ay m p0 0 r0)) ∧ ((p0.kind ≠ 18) → ay m p0 0 r0))) ∧ ((p0.kind ≠ 16) → ((p0.kind = 18) → ((16 < (p0.kids.length : Int)) → false = r0) ∧ ((¬ 16 < (p0.kids.length : Int)) → ay m p0 0 r0)) ∧ ((p0.kind ≠ 18) → ay m p0 0 r0))))) : fq p0 r0 := by
 refine ⟨rfl, rfl, ?_⟩
 refine am 54 [] Tryz.func39 rfl rfl rfl (aQ rfl) fun K hK => ?_
 refine gR 3 rfl <| gFP 0 rfl rfl rfl rfl <| gR 8 rfl <| gV 7 (.int .i64 (p0.kids.length : Int)) rfl (bo (aR _)) rfl <| gLB 6 rfl (aR _) fun hl5 => gR 10 rfl <| gB 11 rfl rfl rfl ?_ ?_ <;> intro hd
 refine gT 10 rfl hd rfl ?_
 replace hd := (eq_of_beq hd)
 replace h := h.1 hd
 refine gR 4 rfl <| gB 15 rfl rfl rfl ?_ ?_ <;> intro hd
 refine gT 14 rfl hd rfl ?_
 replace hd := (of_decide_eq_true hd)
 replace h := h.1 hd
 refine gR 36 rfl ?_
 subst h
 exact go_end ab (rs := [.tmp 2]) rfl rfl rfl
 refine gF 14 rfl hd rfl ?_
 replace hd := (of_decide_eq_false hd)
 replace h := h.2 hd
 refine gR 4 rfl <| gB 19 rfl rfl rfl ?_ ?_ <;> intro hd
 refine gT 18 rfl hd rfl ?_
 replace hd := (eq_of_beq hd)
 replace h := h.1 hd
 refine gR 5 rfl <| gB 24 rfl rfl rfl ?_ ?_ <;> intro hd
 refine gT 23 rfl hd rfl ?_
 replace hd := (of_decide_eq_true hd)
 replace h := h.1 hd
 refine gR 27 rfl ?_
 subst h
 exact go_end ab (rs := [.tmp 2]) rfl rfl rfl
 refine gF 23 rfl hd rfl ?_
 replace hd := (of_decide_eq_false hd)
 replace h := h.2 hd
 refine gR 4 rfl <| gB 28 rfl rfl rfl ?_ ?_ <;> intro hd
 refine gT 27 rfl hd rfl ?_
 replace hd := (eq_of_beq hd)
 replace h := h.1 hd
 refine gR 5 rfl <| gB 33 rfl rfl rfl ?_ ?_ <;> intro hd
 refine gT 32 rfl hd rfl ?_
 replace hd := (of_decide_eq_true hd)
 replace h := h.1 hd
 refine gR 18 rfl ?_
 subst h
 exact go_end ab (rs := [.tmp 2]) rfl rfl rfl
 refine gF 32 rfl hd rfl ?_
 replace hd := (of_decide_eq_false hd)
 replace h := h.2 hd
 refine gR 4 rfl <| gB 37 rfl rfl rfl ?_ ?_ <;> intro hd
 refine gT 36 rfl hd rfl ?_
 replace hd := (eq_of_beq hd)
 replace h := h.1 hd
 refine gR 6 rfl <| gB 41 rfl rfl rfl ?_ ?_ <;> intro hd
 replace hd := (of_decide_eq_true hd)
 replace h := h.1 hd
 refine gR 8 rfl ?_
 subst h
 exact go_end ab (rs := [.tmp 2]) rfl rfl rfl
 replace hd := (of_decide_eq_false hd)
 replace h := h.2 hd
 exact gR 10 rfl <| go_loop m <| gJ (h K _ hK (by omega)) [] [] rfl hK pq3 trivial rfl
 refine gF 36 rfl hd rfl ?_
 replace hd := (ne_of_beq_false hd)
 replace h := h.2 hd
 exact gR 16 rfl <| go_loop m <| gJ (h K _ hK (by omega)) [] [] rfl hK pq3 trivial rfl
 refine gF 27 rfl hd rfl ?_
 replace hd := (ne_of_beq_false hd)
 replace h := h.2 hd
 refine gR 9 rfl <| gB 37 rfl rfl rfl ?_ ?_ <;> intro hd
 refine gT 36 rfl hd rfl ?_
 replace hd := (eq_of_beq hd)
 replace h := h.1 hd
 refine gR 6 rfl <| gB 41 rfl rfl rfl ?_ ?_ <;> intro hd
 replace hd := (of_decide_eq_true hd)
 replace h := h.1 hd
 refine gR 8 rfl ?_
 subst h
 exact go_end ab (rs := [.tmp 2]) rfl rfl rfl
 replace hd := (of_decide_eq_false hd)
 replace h := h.2 hd
 exact gR 10 rfl <| go_loop m <| gJ (h K _ hK (by omega)) [] [] rfl hK pq3 trivial rfl
 refine gF 36 rfl hd rfl ?_
 replace hd := (ne_of_beq_false hd)
 replace h := h.2 hd
 exact gR 16 rfl <| go_loop m <| gJ (h K _ hK (by omega)) [] [] rfl hK pq3 trivial rfl
 refine gF 18 rfl hd rfl ?_
 replace hd := (ne_of_beq_false hd)
 replace h := h.2 hd
 refine gR 9 rfl <| gB 28 rfl rfl rfl ?_ ?_ <;> intro hd
 refine gT 27 rfl hd rfl ?_
 replace hd := (eq_of_beq hd)
 replace h := h.1 hd
 refine gR 5 rfl <| gB 33 rfl rfl rfl ?_ ?_ <;> intro hd
 refine gT 32 rfl hd rfl ?_
 replace hd := (of_decide_eq_true hd)
 replace h := h.1 hd
 refine gR 18 rfl ?_
 subst h
 exact go_end ab (rs := [.tmp 2]) rfl rfl rfl
 refine gF 32 rfl hd rfl ?_
 replace hd := (of_decide_eq_false hd)
 replace h := h.2 hd
 refine gR 4 rfl <| gB 37 rfl rfl rfl ?_ ?_ <;> intro hd
 refine gT 36 rfl hd rfl ?_
 replace hd := (eq_of_beq hd)
 replace h := h.1 hd
 refine gR 6 rfl <| gB 41 rfl rfl rfl ?_ ?_ <;> intro hd
 replace hd := (of_decide_eq_true hd)
 replace h := h.1 hd
 refine gR 8 rfl ?_
 subst h
 exact go_end ab (rs := [.tmp 2]) rfl rfl rfl
 replace hd := (of_decide_eq_false hd)
 replace h := h.2 hd
 exact gR 10 rfl <| go_loop m <| gJ (h K _ hK (by omega)) [] [] rfl hK pq3 trivial rfl
 refine gF 36 rfl hd rfl ?_
 replace hd := (ne_of_beq_false hd)
 replace h := h.2 hd
 exact gR 16 rfl <| go_loop m <| gJ (h K _ hK (by omega)) [] [] rfl hK pq3 trivial rfl
 refine gF 27 rfl hd rfl ?_
 replace hd := (ne_of_beq_false hd)
 replace h := h.2 hd
 refine gR 9 rfl <| gB 37 rfl rfl rfl ?_ ?_ <;> intro hd
 refine gT 36 rfl hd rfl ?_
 replace hd := (eq_of_beq hd)
 replace h := h.1 hd
 refine gR 6 rfl <| gB 41 rfl rfl rfl ?_ ?_ <;> intro hd
 replace hd := (of_decide_eq_true hd)
 replace h := h.1 hd
 refine gR 8 rfl ?_
 subst h
 exact go_end ab (rs := [.tmp 2]) rfl rfl rfl
 replace hd := (of_decide_eq_false hd)
 replace h := h.2 hd
 exact gR 10 rfl <| go_loop m <| gJ (h K _ hK (by omega)) [] [] rfl hK pq3 trivial rfl
 refine gF 36 rfl hd rfl ?_
 replace hd := (ne_of_beq_false hd)
 replace h := h.2 hd
 exact gR 16 rfl <| go_loop m <| gJ (h K _ hK (by omega)) [] [] rfl hK pq3 trivial rfl
 refine gF 10 rfl hd rfl ?_
 replace hd := (ne_of_beq_false hd)
 replace h := h.2 hd
 refine gR 8 rfl <| gB 19 rfl rfl rfl ?_ ?_ <;> intro hd
 refine gT 18 rfl hd rfl ?_
 replace hd := (eq_of_beq hd)
 replace h := h.1 hd
 refine gR 5 rfl <| gB 24 rfl rfl rfl ?_ ?_ <;> intro hd
 refine gT 23 rfl hd rfl ?_
 replace hd := (of_decide_eq_true hd)
 replace h := h.1 hd
 refine gR 27 rfl ?_
 subst h
 exact go_end ab (rs := [.tmp 2]) rfl rfl rfl
 refine gF 23 rfl hd rfl ?_
 replace hd := (of_decide_eq_false hd)
 replace h := h.2 hd
 refine gR 4 rfl <| gB 28 rfl rfl rfl ?_ ?_ <;> intro hd
 refine gT 27 rfl hd rfl ?_
 replace hd := (eq_of_beq hd)
 replace h := h.1 hd
 refine gR 5 rfl <| gB 33 rfl rfl rfl ?_ ?_ <;> intro hd
 refine gT 32 rfl hd rfl ?_
 replace hd := (of_decide_eq_true hd)
 replace h := h.1 hd
 refine gR 18 rfl ?_
 subst h
 exact go_end ab (rs := [.tmp 2]) rfl rfl rfl
 refine gF 32 rfl hd rfl ?_
 replace hd := (of_decide_eq_false hd)
 replace h := h.2 hd
 refine gR 4 rfl <| gB 37 rfl rfl rfl ?_ ?_ <;> intro hd
 refine gT 36 rfl hd rfl ?_
 replace hd := (eq_of_beq hd)
 replace h := h.1 hd
 refine gR 6 rfl <| gB 41 rfl rfl rfl ?_ ?_ <;> intro hd
 replace hd := (of_decide_eq_true hd)
 replace h := h.1 hd
 refine gR 8 rfl ?_
 subst h
 exact go_end ab (rs := [.tmp 2]) rfl rfl rfl
 replace hd := (of_decide_eq_false hd)
 replace h := h.2 hd
 exact gR 10 rfl <| go_loop m <| gJ (h K _ hK (by omega)) [] [] rfl hK pq3 trivial rfl
 refine gF 36 rfl hd rfl ?_
 replace hd := (ne_of_beq_false hd)
 replace h := h.2 hd
 exact gR 16 rfl <| go_loop m <| gJ (h K _ hK (by omega)) [] [] rfl hK pq3 trivial rfl
 refine gF 27 rfl hd rfl ?_
 replace hd := (ne_of_beq_false hd)
 replace h := h.2 hd
 refine gR 9 rfl <| gB 37 rfl rfl rfl ?_ ?_ <;> intro hd
 refine gT 36 rfl hd rfl ?_
 replace hd := (eq_of_beq hd)
 replace h := h.1 hd
 refine gR 6 rfl <| gB 41 rfl rfl rfl ?_ ?_ <;> intro hd
 replace hd := (of_decide_eq_true hd)
 replace h := h.1 hd
 refine gR 8 rfl ?_
 subst h
 exact go_end ab (rs := [.tmp 2]) rfl rfl rfl
 replace hd := (of_decide_eq_false hd)
 replace h := h.2 hd
 exact gR 10 rfl <| go_loop m <| gJ (h K _ hK (by omega)) [] [] rfl hK pq3 trivial rfl
 refine gF 36 rfl hd rfl ?_
 replace hd := (ne_of_beq_false hd)
 replace h := h.2 hd
 exact gR 16 rfl <| go_loop m <| gJ (h K _ hK (by omega)) [] [] rfl hK pq3 trivial rfl
 refine gF 18 rfl hd rfl ?_
 replace hd := (ne_of_beq_false hd)
 replace h := h.2 hd
 refine gR 9 rfl <| gB 28 rfl rfl rfl ?_ ?_ <;> intro hd
 refine gT 27 rfl hd rfl ?_
 replace hd := (eq_of_beq hd)
 replace h := h.1 hd
 refine gR 5 rfl <| gB 33 rfl rfl rfl ?_ ?_ <;> intro hd
 refine gT 32 rfl hd rfl ?_
 replace hd := (of_decide_eq_true hd)
 replace h := h.1 hd
 refine gR 18 rfl ?_
 subst h
 exact go_end ab (rs := [.tmp 2]) rfl rfl rfl
 refine gF 32 rfl hd rfl ?_
 replace hd := (of_decide_eq_false hd)
 replace h := h.2 hd
 refine gR 4 rfl <| gB 37 rfl rfl rfl ?_ ?_ <;> intro hd
 refine gT 36 rfl hd rfl ?_
 replace hd := (eq_of_beq hd)
 replace h := h.1 hd
 refine gR 6 rfl <| gB 41 rfl rfl rfl ?_ ?_ <;> intro hd
 replace hd := (of_decide_eq_true hd)
 replace h := h.1 hd
 refine gR 8 rfl ?_
 subst h
 exact go_end ab (rs := [.tmp 2]) rfl rfl rfl
 replace hd := (of_decide_eq_false hd)
 replace h := h.2 hd
 exact gR 10 rfl <| go_loop m <| gJ (h K _ hK (by omega)) [] [] rfl hK pq3 trivial rfl
 refine gF 36 rfl hd rfl ?_
 replace hd := (ne_of_beq_false hd)
 replace h := h.2 hd
 exact gR 16 rfl <| go_loop m <| gJ (h K _ hK (by omega)) [] [] rfl hK pq3 trivial rfl
 refine gF 27 rfl hd rfl ?_
 replace hd := (ne_of_beq_false hd)
 replace h := h.2 hd
 refine gR 9 rfl <| gB 37 rfl rfl rfl ?_ ?_ <;> intro hd
 refine gT 36 rfl hd rfl ?_
 replace hd := (eq_of_beq hd)
 replace h := h.1 hd
 refine gR 6 rfl <| gB 41 rfl rfl rfl ?_ ?_ <;> intro hd
 replace hd := (of_decide_eq_true hd)
 replace h := h.1 hd
 refine gR 8 rfl ?_
 subst h
 exact go_end ab (rs := [.tmp 2]) rfl rfl rfl
 replace hd := (of_decide_eq_false hd)
 replace h := h.2 hd
 exact gR 10 rfl <| go_loop m <| gJ (h K _ hK (by omega)) [] [] rfl hK pq3 trivial rfl
 refine gF 36 rfl hd rfl ?_
 replace hd := (ne_of_beq_false hd)
 replace h := h.2 hd
 exact gR 16 rfl <| go_loop m <| gJ (h K _ hK (by omega)) [] [] rfl hK pq3 trivial rfl
theorem ev (m : Nat) (p0 : Tree) (a : Nat) (r0 : Bool) (h : ((a < p0.kids.length) → ∃ c, p0.kids[a]? = some c ∧ ∃ b, fq c b ∧ ((b = false) → false = r0) ∧ ((b = true) → a + 1 ≤ 9223372036854775807 ∧ ay m p0 (a + 1) r0)) ∧ ((¬ a < p0.kids.length) → true = r0)) : ay (m + 1) p0 a r0 := by
 intro K j1 hK hj1
 obtain ⟨j1, rfl⟩ : ∃ j, j1 = j + 1 := ⟨j1 - 1, by omega⟩
 refine gR 8 rfl <| gB 44 rfl rfl rfl ?_ ?_ <;> intro hd
 replace hd := (dX hd)
 replace h := h.1 hd
 refine gR 10 rfl ?_
 obtain ⟨c, hxt1_1, h⟩ := h
 refine gY (bc (aw hxt1_1) ab rfl rfl rfl rfl) rfl rfl <| gR 1 rfl ?_
 obtain ⟨b, hs6, h⟩ := h
 refine gC0 hs6 (by kernel_rfl) rfl rfl .rfl rfl <| gR 3 rfl <| gB 53 rfl rfl rfl ?_ ?_ <;> intro hd
 replace hd := (cg hd)
 replace h := h.1 hd
 refine gR 9 rfl <| go_xloopR <| gR 2 rfl ?_
 subst h
 exact go_end ab (rs := [.tmp 2]) rfl rfl rfl
 replace hd := (cf hd)
 replace h := h.2 hd
 refine gR 6 rfl ?_
 obtain ⟨hb, h⟩ := h
 exact gR 1 rfl <| gV 46 (.int .i64 ((a + 1 : Nat) : Int)) rfl (au (by omega) (by omega)) rfl <| gR 2 rfl <| go_xloop <| gJ (h K _ hK (by omega)) [] [] rfl hK pq3 trivial rfl
 replace hd := (dW hd)
 replace h := h.2 hd
 refine gR 3 rfl <| go_xloopE <| gR 8 rfl ?_
 subst h
 exact go_end ab (rs := [.tmp 2]) rfl rfl rfl
def fo (m : Nat) (p0 : Tree) (a : Int) (b : Nat) (r0 : Int) : Prop := ∀ (K : Ctx) (j1 : Nat), aB K [] → m ≤ j1 → qLG K Tryz.f40 (fun u _ => u = .int .i64 r0) (xH (ac Tryz.f40)) [.loop (xH (ac Tryz.f40)) j1, .blk 0, .seq (xI (ac Tryz.f40))] 22 (mkF 22 0 [(1, .box (aj p0) 0), (3, .int .i64 a), (4, .int .i64 (b : Int))]) ⟨0, []⟩
theorem pz (m : Nat) (p0 : Tree) (r0 : Int) (h : fo m p0 0 0 r0) : fP p0 r0 := by
 refine ⟨rfl, rfl, ?_⟩
 refine am 22 [] Tryz.func40 rfl rfl rfl (aQ rfl) fun K hK => ?_
 exact gR 3 rfl <| gFP 0 rfl rfl rfl rfl <| gR 15 rfl <| go_loop m <| gJ (h K _ hK (by omega)) [] [] rfl hK pq3 trivial rfl
theorem ie (m : Nat) (p0 : Tree) (b : Int) (a : Nat) (r0 : Int) (h : ((a < p0.kids.length) → ∃ c, p0.kids[a]? = some c ∧ ∃ d, fP c d ∧ fo m p0 (max b d) (a + 1) r0) ∧ ((¬ a < p0.kids.length) → InI (b + 1) ∧ (b + 1) = r0)) : fo (m + 1) p0 b a r0 := by
 intro K j1 hK hj1
 obtain ⟨j1, rfl⟩ : ∃ j, j1 = j + 1 := ⟨j1 - 1, by omega⟩
 refine gR 7 rfl <| gV 8 (.int .i64 (p0.kids.length : Int)) rfl (bo (aR _)) rfl <| gLB 7 rfl (aR _) fun hl5 => gR 3 rfl <| gB 9 rfl rfl rfl ?_ ?_ <;> intro hd
 replace hd := (dX hd)
 replace h := h.1 hd
 refine gR 10 rfl ?_
 obtain ⟨c, hxt1_1, h⟩ := h
 refine gY (bc (aw hxt1_1) ab rfl rfl rfl rfl) rfl rfl <| gR 1 rfl ?_
 obtain ⟨d, hs6, h⟩ := h
 exact gC0 hs6 (by kernel_rfl) rfl rfl .rfl rfl <| gR 8 rfl <| gV 11 (.int .i64 ((a + 1 : Nat) : Int)) rfl (au (by have := hl5; omega) (by omega)) rfl <| gR 2 rfl <| go_xloop <| gJ (h K _ hK (by omega)) [] [] rfl hK pq3 trivial rfl
 replace hd := (dW hd)
 replace h := h.2 hd
 refine gR 3 rfl <| go_xloopE <| gR 5 rfl ?_
 obtain ⟨hb, h⟩ := h
 refine gR 1 rfl <| gV 21 (.int .i64 (b + 1)) rfl (au hb rfl) rfl <| gR 4 rfl ?_
 subst h
 exact go_end ab (rs := [.tmp 2]) rfl rfl rfl
def bT (m : Nat) (a : List aa) (b : List UInt8) (c : Nat) (r0 : List UInt8) : Prop := ∀ (K : Ctx) (j1 : Nat), aB K [] → m ≤ j1 → qLG K Tryz.f41 (fun u _ => u = .str r0) (xH (xA (ac Tryz.f41))) [.loop (xH (xA (ac Tryz.f41))) j1, .blk 0, .seq (xA (xI (ac Tryz.f41)))] 57 (mkF 57 0 [(3, .row 2 (List.map aa.w a)), (4, .str b), (5, .int .i64 (c : Int))]) ⟨0, []⟩
theorem ln (m : Nat) (p0 : Tree) (r0 : List UInt8) (h : ∃ a, cj p0 a ∧ ((a = false) → [] = r0) ∧ ((a = true) → ∃ b, ir p0 b ∧ bT m b [] 0 r0)) : iQ p0 r0 := by
 refine ⟨rfl, rfl, ?_⟩
 refine am 57 [] Tryz.func41 rfl rfl rfl (aQ rfl) fun K hK => ?_
 refine gR 3 rfl <| gFP 0 rfl rfl rfl rfl <| gR 7 rfl ?_
 obtain ⟨a, hs8, h⟩ := h
 refine gC0 hs8 (by kernel_rfl) rfl rfl .rfl rfl <| gR 3 rfl <| gB 8 rfl rfl rfl ?_ ?_ <;> intro hd
 replace hd := (cg hd)
 replace h := h.1 hd
 refine gR 8 rfl ?_
 subst h
 exact go_end ab (rs := [.tmp 2]) rfl rfl rfl
 replace hd := (cf hd)
 replace h := h.2 hd
 refine gR 6 rfl ?_
 obtain ⟨b, hs9, h⟩ := h
 exact gC0 hs9 (by kernel_rfl) rfl rfl .rfl rfl <| gR 15 rfl <| go_loop m <| gJ (h K _ hK (by omega)) [] [] rfl hK pq3 trivial rfl
theorem cD (m : Nat) (b : List aa) (c : List UInt8) (a : Nat) (r0 : List UInt8) (h : ((a < b.length) → ((0 < (a : Int)) → ∃ n, b[a]? = some n ∧ ((n.Lead = []) → InI ((a : Int) - 1) ∧ ∃ o, ((a : Int) - 1) = ((o : Nat) : Int) ∧ ∃ s, b[o]? = some s ∧ ∃ t, b[a]? = some t ∧ ∃ p, lN s.Text t.Text p ∧ ((p = true) → c.length + [32].length ≤ 9223372036854775807 ∧ ∃ k, b[a]? = some k ∧ (c ++ [32]).length + k.Lead.length ≤ 9223372036854775807 ∧ ∃ q, b[a]? = some q ∧ ((c ++ [32]) ++ k.Lead).length + q.Text.length ≤ 9223372036854775807 ∧ bT m b (((c ++ [32]) ++ k.Lead) ++ q.Text) (a + 1) r0) ∧ ((p = false) → ∃ l, b[a]? = some l ∧ c.length + l.Lead.length ≤ 9223372036854775807 ∧ ∃ r, b[a]? = some r ∧ (c ++ l.Lead).length + r.Text.length ≤ 9223372036854775807 ∧ bT m b ((c ++ l.Lead) ++ r.Text) (a + 1) r0)) ∧ ((n.Lead ≠ []) → ∃ d, b[a]? = some d ∧ c.length + d.Lead.length ≤ 9223372036854775807 ∧ ∃ g, b[a]? = some g ∧ (c ++ d.Lead).length + g.Text.length ≤ 9223372036854775807 ∧ bT m b ((c ++ d.Lead) ++ g.Text) (a + 1) r0)) ∧ ((¬ 0 < (a : Int)) → ∃ e, b[a]? = some e ∧ c.length + e.Lead.length ≤ 9223372036854775807 ∧ ∃ i, b[a]? = some i ∧ (c ++ e.Lead).length + i.Text.length ≤ 9223372036854775807 ∧ bT m b ((c ++ e.Lead) ++ i.Text) (a + 1) r0)) ∧ ((¬ a < b.length) → c = r0)) : bT (m + 1) b c a r0 := by
 intro K j1 hK hj1
 obtain ⟨j1, rfl⟩ : ∃ j, j1 = j + 1 := ⟨j1 - 1, by omega⟩
 refine gR 6 rfl <| gV 13 (.int .i64 (b.length : Int)) rfl (bo (aP aa.w _)) rfl <| gLB 12 rfl (aP aa.w _) fun hl10 => gR 3 rfl <| gB 14 rfl rfl rfl ?_ ?_ <;> intro hd
 replace hd := (dX hd)
 replace h := h.1 hd
 refine gR 7 rfl <| gDs [] 24 24 rfl (by kernel_rfl) (by kernel_rfl) <| gDr [(0, 0), (1, 0), (2, 0)] (by kernel_rfl) rfl rfl <| gB 19 rfl rfl rfl ?_ ?_ <;> intro hd
 refine gT 18 rfl hd rfl ?_
 replace hd := (of_decide_eq_true hd)
 replace h := h.1 hd
 refine gDr [(3, 2), (4, 0)] (by kernel_rfl) rfl rfl ?_
 obtain ⟨n, hxx1_1, h⟩ := h
 refine db 5 rfl (by kernel_rfl) (bc (mapget (f := aa.w) hxx1_1) ab rfl rfl rfl rfl) rfl rfl ?_
 refine gDr [(6, 0), (7, 0), (8, 0), (9, 0), (10, 0)] (by kernel_rfl) rfl rfl <| gB 27 rfl rfl rfl ?_ ?_ <;> intro hd
 refine gT 26 rfl hd rfl ?_
 replace hd := (eq_of_beq hd)
 replace h := h.1 hd
 refine gDr [(11, 2), (12, 2)] (by kernel_rfl) rfl rfl ?_
 obtain ⟨hb, h⟩ := h
 refine gDr [(13, 2)] (by kernel_rfl) rfl rfl <| gV 30 (.int .i64 ((a : Int) - 1)) rfl (au hb rfl) rfl ?_
 obtain ⟨o, v, h⟩ := h
 refine gV 30 (.int .i64 ((o : Nat) : Int)) rfl (jz v) rfl ?_
 obtain ⟨s, hxx1_3, h⟩ := h
 refine gYd 14 rfl (by kernel_rfl) (bc (mapget (f := aa.w) hxx1_3) ab rfl rfl rfl rfl) rfl rfl <| gDr [(15, 2), (16, 2), (17, 2), (18, 0)] (by kernel_rfl) rfl rfl ?_
 obtain ⟨t, hxx1_4, h⟩ := h
 refine db 19 rfl (by kernel_rfl) (bc (mapget (f := aa.w) hxx1_4) ab rfl rfl rfl rfl) rfl rfl ?_
 refine gDr [(20, 0), (21, 0)] (by kernel_rfl) rfl rfl ?_
 obtain ⟨p, hs11, h⟩ := h
 refine aW 22 hs11 (by kernel_rfl) rfl (by kernel_rfl) rfl rfl .rfl rfl rfl ?_
 refine gDr [(23, 0)] (by kernel_rfl) rfl rfl <| gDe (by kernel_rfl) <| gR 1 rfl <| gB 40 rfl rfl rfl ?_ ?_ <;> intro hd
 replace h := h.1 hd
 refine gR 3 rfl ?_
 obtain ⟨hb, h⟩ := h
 refine gY (pd rfl rfl hb) rfl rfl <| gR 3 rfl <| gDs [] 14 14 rfl (by kernel_rfl) (by kernel_rfl) <| gDr [(0, 2), (1, 2), (2, 2)] (by kernel_rfl) rfl rfl ?_
 obtain ⟨k, hxx1_6, h⟩ := h
 refine gYd 3 rfl (by kernel_rfl) (bc (mapget (f := aa.w) hxx1_6) ab rfl rfl rfl rfl) rfl rfl <| gDr [(4, 2), (5, 2)] (by kernel_rfl) rfl rfl ?_
 obtain ⟨hb, h⟩ := h
 refine gYd 6 rfl (by kernel_rfl) (pd rfl rfl hb) rfl rfl <| gDr [(7, 2), (8, 0)] (by kernel_rfl) rfl rfl ?_
 obtain ⟨q, hxx1_7, h⟩ := h
 refine db 9 rfl (by kernel_rfl) (bc (mapget (f := aa.w) hxx1_7) ab rfl rfl rfl rfl) rfl rfl ?_
 refine gDr [(10, 0), (11, 0)] (by kernel_rfl) rfl rfl ?_
 obtain ⟨hb, h⟩ := h
 refine db 12 rfl (by kernel_rfl) (pd rfl rfl hb) rfl rfl ?_
 exact gDr [(13, 0)] (by kernel_rfl) rfl rfl <| gDe (by kernel_rfl) <| gR 5 rfl <| gV 16 (.int .i64 ((a + 1 : Nat) : Int)) rfl (au (by have := hl10; omega) (by omega)) rfl <| gR 2 rfl <| go_xloop <| gJ (h K _ hK (by omega)) [] [] rfl hK pq3 trivial rfl
 replace h := h.2 hd
 refine gR 3 rfl <| gDs [] 14 14 rfl (by kernel_rfl) (by kernel_rfl) <| gDr [(0, 2), (1, 2), (2, 2)] (by kernel_rfl) rfl rfl ?_
 obtain ⟨l, hxx1_8, h⟩ := h
 refine gYd 3 rfl (by kernel_rfl) (bc (mapget (f := aa.w) hxx1_8) ab rfl rfl rfl rfl) rfl rfl <| gDr [(4, 2), (5, 2)] (by kernel_rfl) rfl rfl ?_
 obtain ⟨hb, h⟩ := h
 refine gYd 6 rfl (by kernel_rfl) (pd rfl rfl hb) rfl rfl <| gDr [(7, 2), (8, 0)] (by kernel_rfl) rfl rfl ?_
 obtain ⟨r, hxx1_9, h⟩ := h
 refine db 9 rfl (by kernel_rfl) (bc (mapget (f := aa.w) hxx1_9) ab rfl rfl rfl rfl) rfl rfl ?_
 refine gDr [(10, 0), (11, 0)] (by kernel_rfl) rfl rfl ?_
 obtain ⟨hb, h⟩ := h
 refine db 12 rfl (by kernel_rfl) (pd rfl rfl hb) rfl rfl ?_
 exact gDr [(13, 0)] (by kernel_rfl) rfl rfl <| gDe (by kernel_rfl) <| gR 5 rfl <| gV 16 (.int .i64 ((a + 1 : Nat) : Int)) rfl (au (by have := hl10; omega) (by omega)) rfl <| gR 2 rfl <| go_xloop <| gJ (h K _ hK (by omega)) [] [] rfl hK pq3 trivial rfl
 refine gF 26 rfl hd rfl ?_
 replace hd := (ne_of_beq_false hd)
 replace h := h.2 hd
 refine gDr [(11, 2), (12, 2), (13, 2), (14, 2), (15, 2), (16, 2), (17, 2), (18, 0), (19, 0), (20, 0), (21, 0), (22, 0), (23, 0)] (by kernel_rfl) rfl rfl <| gDe (by kernel_rfl) <| gR 4 rfl <| gDs [] 14 14 rfl (by kernel_rfl) (by kernel_rfl) <| gDr [(0, 2), (1, 2), (2, 2)] (by kernel_rfl) rfl rfl ?_
 obtain ⟨d, hxx1_10, h⟩ := h
 refine gYd 3 rfl (by kernel_rfl) (bc (mapget (f := aa.w) hxx1_10) ab rfl rfl rfl rfl) rfl rfl <| gDr [(4, 2), (5, 2)] (by kernel_rfl) rfl rfl ?_
 obtain ⟨hb, h⟩ := h
 refine gYd 6 rfl (by kernel_rfl) (pd rfl rfl hb) rfl rfl <| gDr [(7, 2), (8, 0)] (by kernel_rfl) rfl rfl ?_
 obtain ⟨g, hxx1_11, h⟩ := h
 refine db 9 rfl (by kernel_rfl) (bc (mapget (f := aa.w) hxx1_11) ab rfl rfl rfl rfl) rfl rfl ?_
 refine gDr [(10, 0), (11, 0)] (by kernel_rfl) rfl rfl ?_
 obtain ⟨hb, h⟩ := h
 refine db 12 rfl (by kernel_rfl) (pd rfl rfl hb) rfl rfl ?_
 exact gDr [(13, 0)] (by kernel_rfl) rfl rfl <| gDe (by kernel_rfl) <| gR 5 rfl <| gV 16 (.int .i64 ((a + 1 : Nat) : Int)) rfl (au (by have := hl10; omega) (by omega)) rfl <| gR 2 rfl <| go_xloop <| gJ (h K _ hK (by omega)) [] [] rfl hK pq3 trivial rfl
 refine gF 18 rfl hd rfl ?_
 replace hd := (of_decide_eq_false hd)
 replace h := h.2 hd
 refine gDr [(3, 2), (4, 0), (5, 0), (6, 0), (7, 0), (8, 0), (9, 0), (10, 0), (11, 2), (12, 2), (13, 2), (14, 2), (15, 2), (16, 2), (17, 2), (18, 0), (19, 0), (20, 0), (21, 0), (22, 0), (23, 0)] (by kernel_rfl) rfl rfl <| gDe (by kernel_rfl) <| gR 4 rfl <| gDs [] 14 14 rfl (by kernel_rfl) (by kernel_rfl) <| gDr [(0, 2), (1, 2), (2, 2)] (by kernel_rfl) rfl rfl ?_
 obtain ⟨e, hxx1_12, h⟩ := h
 refine gYd 3 rfl (by kernel_rfl) (bc (mapget (f := aa.w) hxx1_12) ab rfl rfl rfl rfl) rfl rfl <| gDr [(4, 2), (5, 2)] (by kernel_rfl) rfl rfl ?_
 obtain ⟨hb, h⟩ := h
 refine gYd 6 rfl (by kernel_rfl) (pd rfl rfl hb) rfl rfl <| gDr [(7, 2), (8, 0)] (by kernel_rfl) rfl rfl ?_
 obtain ⟨i, hxx1_13, h⟩ := h
 refine db 9 rfl (by kernel_rfl) (bc (mapget (f := aa.w) hxx1_13) ab rfl rfl rfl rfl) rfl rfl ?_
 refine gDr [(10, 0), (11, 0)] (by kernel_rfl) rfl rfl ?_
 obtain ⟨hb, h⟩ := h
 refine db 12 rfl (by kernel_rfl) (pd rfl rfl hb) rfl rfl ?_
 exact gDr [(13, 0)] (by kernel_rfl) rfl rfl <| gDe (by kernel_rfl) <| gR 5 rfl <| gV 16 (.int .i64 ((a + 1 : Nat) : Int)) rfl (au (by have := hl10; omega) (by omega)) rfl <| gR 2 rfl <| go_xloop <| gJ (h K _ hK (by omega)) [] [] rfl hK pq3 trivial rfl
 replace hd := (dW hd)
 replace h := h.2 hd
 refine gR 3 rfl <| go_xloopE <| gR 9 rfl ?_
 subst h
 exact go_end ab (rs := [.tmp 2]) rfl rfl rfl
theorem kW (m : Nat) (p0 : Tree) (r0 : List aa) (h : ∃ a, ai ([] : List aa) p0 a ∧ a = r0) : ir p0 r0 := by
 refine ⟨rfl, rfl, ?_⟩
 refine am 5 [] Tryz.func29 rfl rfl rfl (aQ rfl) fun K hK => ?_
 refine gR 3 rfl <| gFP 0 rfl rfl rfl rfl <| gR 6 rfl ?_
 obtain ⟨a, hs2, h⟩ := h
 refine gCn 0 47 2 hs2 [1] (by kernel_rfl) rfl rfl rfl rfl .rfl ⟨⟨_, rfl, ⟨rfl, rfl, rfl⟩⟩, trivial⟩ rfl ?_
 rintro _ _ ⟨rfl, rfl⟩
 refine gHR 3 (List.map aa.w a) rfl (ak _ aa.w (fun _ => rfl) a) rfl <| gR 4 rfl <| gFR 3 rfl (iX _ (fun _ => rfl) _) rfl rfl ?_
 subst h
 exact go_end ab (rs := [.tmp 2]) rfl rfl rfl
def la (m : Nat) (p0 : List aa) (p1 : Tree) (r0 : List aa) : Prop := ∀ (K : Ctx), aB K [] → qLG K Tryz.f51 (fun u G => u = .sl 1 ∧ G = ⟨2, [(1, .row 47 2 (List.map aa.w r0))]⟩) (xM (xF (ac Tryz.f51))) [.blk 0, .seq (xI (ac Tryz.f51))] 365 (mkF 365 0 [(0, .sl 0), (3, .box (aj p1) 0), (5, .int .i64 (p1.kids.length : Int))]) ⟨1, [(0, .row 47 2 (List.map aa.w p0))]⟩
def gZ (m : Nat) (p0 : List aa) (p1 : Tree) (r0 : List aa) : Prop := ∀ (K : Ctx), aB K [] → qLG K Tryz.f51 (fun u G => u = .sl 1 ∧ G = ⟨2, [(1, .row 47 2 (List.map aa.w r0))]⟩) (xL (ac Tryz.f51)) [.blk 0, .seq (xI (ac Tryz.f51))] 365 (mkF 365 0 [(0, .sl 0), (3, .box (aj p1) 0), (5, .int .i64 (p1.kids.length : Int)), (11, .int .i64 p1.kind)]) ⟨1, [(0, .row 47 2 (List.map aa.w p0))]⟩
def dA (m : Nat) (p1 : Tree) (a : List aa) (b : Nat) (r0 : List aa) : Prop := ∀ (K : Ctx) (j1 : Nat), aB K [] → m ≤ j1 → qLG K Tryz.f51 (fun u G => u = .sl 1 ∧ G = ⟨2, [(1, .row 47 2 (List.map aa.w r0))]⟩) (cL (xE (cB (xM (xF (ac Tryz.f51)))))) [.loop (cL (xE (cB (xM (xF (ac Tryz.f51)))))) j1, .blk 1, .seq (xA (xM (xF (ac Tryz.f51)))), .blk 0, .seq (xI (ac Tryz.f51))] 365 (mkF 365 0 [(0, .sl 0), (3, .box (aj p1) 0), (5, .int .i64 (p1.kids.length : Int)), (6, .int .i64 (b : Int))]) ⟨1, [(0, .row 47 2 (List.map aa.w a))]⟩
def kX (m : Nat) (p0 : List aa) (p1 : Tree) (r0 : List aa) : Prop := ∀ (K : Ctx), aB K [] → qLG K Tryz.f51 (fun u G => u = .sl 1 ∧ G = ⟨2, [(1, .row 47 2 (List.map aa.w r0))]⟩) (xM (xL (ac Tryz.f51))) [.blk 0, .seq (xI (ac Tryz.f51))] 365 (mkF 365 0 [(0, .sl 0), (3, .box (aj p1) 0), (5, .int .i64 (p1.kids.length : Int))]) ⟨1, [(0, .row 47 2 (List.map aa.w p0))]⟩
def hD (m : Nat) (p0 : List aa) (p1 : Tree) (r0 : List aa) : Prop := ∀ (K : Ctx), aB K [] → qLG K Tryz.f51 (fun u G => u = .sl 1 ∧ G = ⟨2, [(1, .row 47 2 (List.map aa.w r0))]⟩) (xC (xF (ac Tryz.f51))) [.blk 0, .seq (xI (ac Tryz.f51))] 365 (mkF 365 0 [(0, .sl 0), (3, .box (aj p1) 0), (5, .int .i64 (p1.kids.length : Int)), (11, .int .i64 p1.kind)]) ⟨1, [(0, .row 47 2 (List.map aa.w p0))]⟩
def kU (m : Nat) (p0 : List aa) (p1 : Tree) (r0 : List aa) : Prop := ∀ (K : Ctx), aB K [] → qLG K Tryz.f51 (fun u G => u = .sl 1 ∧ G = ⟨2, [(1, .row 47 2 (List.map aa.w r0))]⟩) (xM (xC (xF (ac Tryz.f51)))) [.blk 0, .seq (xI (ac Tryz.f51))] 365 (mkF 365 0 [(0, .sl 0), (3, .box (aj p1) 0)]) ⟨1, [(0, .row 47 2 (List.map aa.w p0))]⟩
def ij (m : Nat) (p0 : List aa) (p1 : Tree) (r0 : List aa) : Prop := ∀ (K : Ctx), aB K [] → qLG K Tryz.f51 (fun u G => u = .sl 1 ∧ G = ⟨2, [(1, .row 47 2 (List.map aa.w r0))]⟩) (xC (xL (ac Tryz.f51))) [.blk 0, .seq (xI (ac Tryz.f51))] 365 (mkF 365 0 [(0, .sl 0), (3, .box (aj p1) 0), (5, .int .i64 (p1.kids.length : Int)), (11, .int .i64 p1.kind)]) ⟨1, [(0, .row 47 2 (List.map aa.w p0))]⟩
def lc (m : Nat) (p0 : List aa) (p1 : Tree) (r0 : List aa) : Prop := ∀ (K : Ctx), aB K [] → qLG K Tryz.f51 (fun u G => u = .sl 1 ∧ G = ⟨2, [(1, .row 47 2 (List.map aa.w r0))]⟩) (xM (xC (xL (ac Tryz.f51)))) [.blk 0, .seq (xI (ac Tryz.f51))] 365 (mkF 365 0 [(0, .sl 0), (3, .box (aj p1) 0)]) ⟨1, [(0, .row 47 2 (List.map aa.w p0))]⟩
def ib (m : Nat) (p0 : List aa) (p1 : Tree) (r0 : List aa) : Prop := ∀ (K : Ctx), aB K [] → qLG K Tryz.f51 (fun u G => u = .sl 1 ∧ G = ⟨2, [(1, .row 47 2 (List.map aa.w r0))]⟩) (xG (xF (ac Tryz.f51))) [.blk 0, .seq (xI (ac Tryz.f51))] 365 (mkF 365 0 [(0, .sl 0), (3, .box (aj p1) 0), (5, .int .i64 (p1.kids.length : Int)), (11, .int .i64 p1.kind)]) ⟨1, [(0, .row 47 2 (List.map aa.w p0))]⟩
def hJ (m : Nat) (p0 : List aa) (p1 : Tree) (r0 : List aa) : Prop := ∀ (K : Ctx), aB K [] → qLG K Tryz.f51 (fun u G => u = .sl 1 ∧ G = ⟨2, [(1, .row 47 2 (List.map aa.w r0))]⟩) (xG (xL (ac Tryz.f51))) [.blk 0, .seq (xI (ac Tryz.f51))] 365 (mkF 365 0 [(0, .sl 0), (3, .box (aj p1) 0), (5, .int .i64 (p1.kids.length : Int)), (11, .int .i64 p1.kind)]) ⟨1, [(0, .row 47 2 (List.map aa.w p0))]⟩
def gK (m : Nat) (p0 : List aa) (p1 : Tree) (r0 : List aa) : Prop := ∀ (K : Ctx), aB K [] → qLG K Tryz.f51 (fun u G => u = .sl 1 ∧ G = ⟨2, [(1, .row 47 2 (List.map aa.w r0))]⟩) (xG (xC (xF (ac Tryz.f51)))) [.blk 0, .seq (xI (ac Tryz.f51))] 365 (mkF 365 0 [(0, .sl 0), (3, .box (aj p1) 0), (5, .int .i64 (p1.kids.length : Int)), (11, .int .i64 p1.kind)]) ⟨1, [(0, .row 47 2 (List.map aa.w p0))]⟩
def gM (m : Nat) (p0 : List aa) (p1 : Tree) (r0 : List aa) : Prop := ∀ (K : Ctx), aB K [] → qLG K Tryz.f51 (fun u G => u = .sl 1 ∧ G = ⟨2, [(1, .row 47 2 (List.map aa.w r0))]⟩) (xG (xC (xL (ac Tryz.f51)))) [.blk 0, .seq (xI (ac Tryz.f51))] 365 (mkF 365 0 [(0, .sl 0), (3, .box (aj p1) 0), (5, .int .i64 (p1.kids.length : Int)), (11, .int .i64 p1.kind)]) ⟨1, [(0, .row 47 2 (List.map aa.w p0))]⟩
def gv (m : Nat) (p0 : List aa) (p1 : Tree) (r0 : List aa) : Prop := ∀ (K : Ctx), aB K [] → qLG K Tryz.f51 (fun u G => u = .sl 1 ∧ G = ⟨2, [(1, .row 47 2 (List.map aa.w r0))]⟩) (xK (xF (ac Tryz.f51))) [.blk 0, .seq (xI (ac Tryz.f51))] 365 (mkF 365 0 [(0, .sl 0), (3, .box (aj p1) 0), (5, .int .i64 (p1.kids.length : Int)), (11, .int .i64 p1.kind)]) ⟨1, [(0, .row 47 2 (List.map aa.w p0))]⟩
def gy (m : Nat) (p0 : List aa) (p1 : Tree) (r0 : List aa) : Prop := ∀ (K : Ctx), aB K [] → qLG K Tryz.f51 (fun u G => u = .sl 1 ∧ G = ⟨2, [(1, .row 47 2 (List.map aa.w r0))]⟩) (xK (xL (ac Tryz.f51))) [.blk 0, .seq (xI (ac Tryz.f51))] 365 (mkF 365 0 [(0, .sl 0), (3, .box (aj p1) 0), (5, .int .i64 (p1.kids.length : Int)), (11, .int .i64 p1.kind)]) ⟨1, [(0, .row 47 2 (List.map aa.w p0))]⟩
def gE (m : Nat) (p0 : List aa) (p1 : Tree) (r0 : List aa) : Prop := ∀ (K : Ctx), aB K [] → qLG K Tryz.f51 (fun u G => u = .sl 1 ∧ G = ⟨2, [(1, .row 47 2 (List.map aa.w r0))]⟩) (xK (xC (xF (ac Tryz.f51)))) [.blk 0, .seq (xI (ac Tryz.f51))] 365 (mkF 365 0 [(0, .sl 0), (3, .box (aj p1) 0), (5, .int .i64 (p1.kids.length : Int)), (11, .int .i64 p1.kind)]) ⟨1, [(0, .row 47 2 (List.map aa.w p0))]⟩
def ky (m : Nat) (p0 : List aa) (p1 : Tree) (r0 : List aa) : Prop := ∀ (K : Ctx), aB K [] → qLG K Tryz.f51 (fun u G => u = .sl 1 ∧ G = ⟨2, [(1, .row 47 2 (List.map aa.w r0))]⟩) (xM (xK (xC (xF (ac Tryz.f51))))) [.blk 0, .seq (xI (ac Tryz.f51))] 365 (mkF 365 0 [(0, .sl 0), (3, .box (aj p1) 0)]) ⟨1, [(0, .row 47 2 (List.map aa.w p0))]⟩
def gq (m : Nat) (p0 : List aa) (p1 : Tree) (r0 : List aa) : Prop := ∀ (K : Ctx), aB K [] → qLG K Tryz.f51 (fun u G => u = .sl 1 ∧ G = ⟨2, [(1, .row 47 2 (List.map aa.w r0))]⟩) (xK (xC (xL (ac Tryz.f51)))) [.blk 0, .seq (xI (ac Tryz.f51))] 365 (mkF 365 0 [(0, .sl 0), (3, .box (aj p1) 0), (5, .int .i64 (p1.kids.length : Int)), (11, .int .i64 p1.kind)]) ⟨1, [(0, .row 47 2 (List.map aa.w p0))]⟩
def kz (m : Nat) (p0 : List aa) (p1 : Tree) (r0 : List aa) : Prop := ∀ (K : Ctx), aB K [] → qLG K Tryz.f51 (fun u G => u = .sl 1 ∧ G = ⟨2, [(1, .row 47 2 (List.map aa.w r0))]⟩) (xM (xK (xC (xL (ac Tryz.f51))))) [.blk 0, .seq (xI (ac Tryz.f51))] 365 (mkF 365 0 [(0, .sl 0), (3, .box (aj p1) 0), (5, .int .i64 (p1.kids.length : Int))]) ⟨1, [(0, .row 47 2 (List.map aa.w p0))]⟩
def gG (m : Nat) (p0 : List aa) (p1 : Tree) (r0 : List aa) : Prop := ∀ (K : Ctx), aB K [] → qLG K Tryz.f51 (fun u G => u = .sl 1 ∧ G = ⟨2, [(1, .row 47 2 (List.map aa.w r0))]⟩) (xK (xG (xF (ac Tryz.f51)))) [.blk 0, .seq (xI (ac Tryz.f51))] 365 (mkF 365 0 [(0, .sl 0), (3, .box (aj p1) 0), (5, .int .i64 (p1.kids.length : Int)), (11, .int .i64 p1.kind)]) ⟨1, [(0, .row 47 2 (List.map aa.w p0))]⟩
def gL (m : Nat) (p0 : List aa) (p1 : Tree) (r0 : List aa) : Prop := ∀ (K : Ctx), aB K [] → qLG K Tryz.f51 (fun u G => u = .sl 1 ∧ G = ⟨2, [(1, .row 47 2 (List.map aa.w r0))]⟩) (xK (xG (xL (ac Tryz.f51)))) [.blk 0, .seq (xI (ac Tryz.f51))] 365 (mkF 365 0 [(0, .sl 0), (3, .box (aj p1) 0), (5, .int .i64 (p1.kids.length : Int)), (11, .int .i64 p1.kind)]) ⟨1, [(0, .row 47 2 (List.map aa.w p0))]⟩
def ku (m : Nat) (p0 : List aa) (p1 : Tree) (r0 : List aa) : Prop := ∀ (K : Ctx), aB K [] → qLG K Tryz.f51 (fun u G => u = .sl 1 ∧ G = ⟨2, [(1, .row 47 2 (List.map aa.w r0))]⟩) (xM (xK (xG (xL (ac Tryz.f51))))) [.blk 0, .seq (xI (ac Tryz.f51))] 365 (mkF 365 0 [(0, .sl 0), (3, .box (aj p1) 0), (5, .int .i64 (p1.kids.length : Int))]) ⟨1, [(0, .row 47 2 (List.map aa.w p0))]⟩
def gz (m : Nat) (p0 : List aa) (p1 : Tree) (r0 : List aa) : Prop := ∀ (K : Ctx), aB K [] → qLG K Tryz.f51 (fun u G => u = .sl 1 ∧ G = ⟨2, [(1, .row 47 2 (List.map aa.w r0))]⟩) (xK (xG (xC (xF (ac Tryz.f51))))) [.blk 0, .seq (xI (ac Tryz.f51))] 365 (mkF 365 0 [(0, .sl 0), (3, .box (aj p1) 0), (11, .int .i64 p1.kind)]) ⟨1, [(0, .row 47 2 (List.map aa.w p0))]⟩
def kp (m : Nat) (p0 : List aa) (p1 : Tree) (r0 : List aa) : Prop := ∀ (K : Ctx), aB K [] → qLG K Tryz.f51 (fun u G => u = .sl 1 ∧ G = ⟨2, [(1, .row 47 2 (List.map aa.w r0))]⟩) (xM (xK (xG (xC (xF (ac Tryz.f51)))))) [.blk 0, .seq (xI (ac Tryz.f51))] 365 (mkF 365 0 [(0, .sl 0), (3, .box (aj p1) 0)]) ⟨1, [(0, .row 47 2 (List.map aa.w p0))]⟩
def gA (m : Nat) (p0 : List aa) (p1 : Tree) (r0 : List aa) : Prop := ∀ (K : Ctx), aB K [] → qLG K Tryz.f51 (fun u G => u = .sl 1 ∧ G = ⟨2, [(1, .row 47 2 (List.map aa.w r0))]⟩) (xK (xG (xC (xL (ac Tryz.f51))))) [.blk 0, .seq (xI (ac Tryz.f51))] 365 (mkF 365 0 [(0, .sl 0), (3, .box (aj p1) 0), (11, .int .i64 p1.kind)]) ⟨1, [(0, .row 47 2 (List.map aa.w p0))]⟩
def kr (m : Nat) (p0 : List aa) (p1 : Tree) (r0 : List aa) : Prop := ∀ (K : Ctx), aB K [] → qLG K Tryz.f51 (fun u G => u = .sl 1 ∧ G = ⟨2, [(1, .row 47 2 (List.map aa.w r0))]⟩) (xM (xK (xG (xC (xL (ac Tryz.f51)))))) [.blk 0, .seq (xI (ac Tryz.f51))] 365 (mkF 365 0 [(0, .sl 0), (3, .box (aj p1) 0)]) ⟨1, [(0, .row 47 2 (List.map aa.w p0))]⟩
def gn (m : Nat) (p0 : List aa) (p1 : Tree) (r0 : List aa) : Prop := ∀ (K : Ctx), aB K [] → qLG K Tryz.f51 (fun u G => u = .sl 1 ∧ G = ⟨2, [(1, .row 47 2 (List.map aa.w r0))]⟩) (xK (xK (xF (ac Tryz.f51)))) [.blk 0, .seq (xI (ac Tryz.f51))] 365 (mkF 365 0 [(0, .sl 0), (3, .box (aj p1) 0), (11, .int .i64 p1.kind)]) ⟨1, [(0, .row 47 2 (List.map aa.w p0))]⟩
def kl (m : Nat) (p0 : List aa) (p1 : Tree) (r0 : List aa) : Prop := ∀ (K : Ctx), aB K [] → qLG K Tryz.f51 (fun u G => u = .sl 1 ∧ G = ⟨2, [(1, .row 47 2 (List.map aa.w r0))]⟩) (xM (xK (xK (xF (ac Tryz.f51))))) [.blk 0, .seq (xI (ac Tryz.f51))] 365 (mkF 365 0 [(0, .sl 0), (3, .box (aj p1) 0)]) ⟨1, [(0, .row 47 2 (List.map aa.w p0))]⟩
def gI (m : Nat) (p0 : List aa) (p1 : Tree) (r0 : List aa) : Prop := ∀ (K : Ctx), aB K [] → qLG K Tryz.f51 (fun u G => u = .sl 1 ∧ G = ⟨2, [(1, .row 47 2 (List.map aa.w r0))]⟩) (xK (xK (xL (ac Tryz.f51)))) [.blk 0, .seq (xI (ac Tryz.f51))] 365 (mkF 365 0 [(0, .sl 0), (3, .box (aj p1) 0), (11, .int .i64 p1.kind)]) ⟨1, [(0, .row 47 2 (List.map aa.w p0))]⟩
def jZ (m : Nat) (p0 : List aa) (p1 : Tree) (r0 : List aa) : Prop := ∀ (K : Ctx), aB K [] → qLG K Tryz.f51 (fun u G => u = .sl 1 ∧ G = ⟨2, [(1, .row 47 2 (List.map aa.w r0))]⟩) (xM (xK (xK (xL (ac Tryz.f51))))) [.blk 0, .seq (xI (ac Tryz.f51))] 365 (mkF 365 0 [(0, .sl 0), (3, .box (aj p1) 0)]) ⟨1, [(0, .row 47 2 (List.map aa.w p0))]⟩
theorem kY (m : Nat) (p0 : List aa) (p1 : Tree) (r0 : List aa) (h : ((p1.kind = 1) → la m p0 p1 r0) ∧ ((p1.kind ≠ 1) → gZ m p0 p1 r0)) : ai p0 p1 r0 := by
 refine am 365 [] Tryz.func51 rfl rfl rfl (aQ rfl) fun K hK => ?_
 refine gR 3 rfl <| gFP 1 rfl rfl rfl rfl <| gR 8 rfl <| gV 9 (.int .i64 (p1.kids.length : Int)) rfl (bo (aR _)) rfl <| gLB 8 rfl (aR _) fun hl115 => gR 17 rfl <| qBeZ 12 13 rfl rfl rfl rfl h (fun h => ?_) fun h => ?_
 exact gR 1 rfl <| gJ (h K hK) [0] [] rfl hK pq3 ⟨⟨_, rfl, rfl, rfl, (ak _ aa.w (fun _ => rfl) p0).symm⟩, trivial⟩ rfl
 exact gR 1 rfl <| gJ (h K hK) [0] [] rfl hK pq4 ⟨⟨_, rfl, rfl, rfl, (ak _ aa.w (fun _ => rfl) p0).symm⟩, trivial⟩ rfl
theorem ox (m : Nat) (p0 : List aa) (p1 : Tree) (r0 : List aa) (h : ∃ a, ah p1 0 a ∧ ∃ b, ah p1 1 b ∧ (p0 ++ [(aa.mk a [109, 111, 100, 117, 108, 101]), (aa.mk b p1.text)]).length ≤ 1000000000 ∧ dA m p1 (p0 ++ [(aa.mk a [109, 111, 100, 117, 108, 101]), (aa.mk b p1.text)]) 0 r0) : la (m + 1) p0 p1 r0 := by
 intro K hK
 refine gR 1 rfl <| gDs [] 12 12 rfl (by kernel_rfl) (by kernel_rfl) <| gDr [(0, 2), (1, 2), (4, 2), (6, 2), (7, 2)] (by kernel_rfl) rfl rfl ?_
 obtain ⟨a, hs116, h⟩ := h
 refine aW 2 hs116 (by kernel_rfl) rfl (by kernel_rfl) rfl rfl .rfl rfl rfl ?_
 refine gDr [(3, 2)] (by kernel_rfl) rfl rfl ?_
 obtain ⟨b, hs117, h⟩ := h
 refine aW 5 hs117 (by kernel_rfl) rfl (by kernel_rfl) rfl rfl .rfl rfl rfl ?_
 refine gDr [(8, 0), (9, 0)] (by kernel_rfl) rfl rfl ?_
 obtain ⟨hb, h⟩ := h
 refine bY 10 (.repl 0 (.row 47 2 (List.map aa.w (p0 ++ [(aa.mk a [109, 111, 100, 117, 108, 101]), (aa.mk b p1.text)])))) rfl (by kernel_rfl) (bP ab rfl rfl rfl rfl rfl (List.map_append (f := aa.w) (l₁ := p0) (l₂ := [(aa.mk a [109, 111, 100, 117, 108, 101]), (aa.mk b p1.text)])).symm (by rw [aP]; exact hb)) (okR rfl) rfl (by kernel_rfl) rfl rfl ?_
 exact gDr [(11, 0)] (by kernel_rfl) rfl rfl <| gDe (by kernel_rfl) <| gR 8 rfl <| go_loop m <| gJ (h K _ hK (by omega)) [2] [] rfl hK pq4 ⟨⟨_, rfl, rfl, rfl, (ak _ aa.w (fun _ => rfl) (p0 ++ [(aa.mk a [109, 111, 100, 117, 108, 101]), (aa.mk b p1.text)])).symm⟩, trivial⟩ rfl
theorem km (m : Nat) (p0 : List aa) (p1 : Tree) (r0 : List aa) (h : ((p1.kind = 2) → kX m p0 p1 r0) ∧ ((p1.kind ≠ 2) → hD m p0 p1 r0)) : gZ (m + 1) p0 p1 r0 := by
 intro K hK
 refine gR 6 rfl <| qBeZ 43 44 rfl rfl rfl rfl h (fun h => ?_) fun h => ?_
 exact gR 1 rfl <| gJ (h K hK) [0] [] rfl hK pq3 ⟨⟨_, rfl, rfl, rfl, (ak _ aa.w (fun _ => rfl) p0).symm⟩, trivial⟩ rfl
 exact gR 1 rfl <| gJ (h K hK) [0] [] rfl hK pq4 ⟨⟨_, rfl, rfl, rfl, (ak _ aa.w (fun _ => rfl) p0).symm⟩, trivial⟩ rfl
theorem ke (m : Nat) (p1 : Tree) (a : List aa) (c : Nat) (r0 : List aa) (h : ((c < p1.kids.length) → ∃ e, p1.kids[c]? = some e ∧ ∃ d, ai a e d ∧ c + 1 ≤ 9223372036854775807 ∧ dA m p1 d (c + 1) r0) ∧ ((¬ c < p1.kids.length) → ∃ b, ah p1 2 b ∧ (a ++ [(aa.mk b [])]).length ≤ 1000000000 ∧ (a ++ [(aa.mk b [])]) = r0)) : dA (m + 1) p1 a c r0 := by
 intro K j1 hK hj1
 obtain ⟨j1, rfl⟩ : ∃ j, j1 = j + 1 := ⟨j1 - 1, by omega⟩
 refine gR 8 rfl <| gB 27 rfl rfl rfl ?_ ?_ <;> intro hd
 replace hd := (dX hd)
 replace h := h.1 hd
 refine gR 10 rfl ?_
 obtain ⟨e, hxt3_1, h⟩ := h
 refine gY (bc (aw hxt3_1) ab rfl rfl rfl rfl) rfl rfl <| gR 1 rfl ?_
 obtain ⟨d, hs118, h⟩ := h
 refine gC hs118 [0] (by kernel_rfl) rfl rfl .rfl ⟨⟨_, rfl, ⟨rfl, rfl, (ak _ aa.w (fun _ => rfl) a).symm⟩⟩, trivial⟩ rfl ?_
 rintro _ _ ⟨rfl, rfl⟩
 refine gHR 2 (List.map aa.w d) rfl (ak _ aa.w (fun _ => rfl) d) rfl <| gR 6 rfl ?_
 obtain ⟨hb, h⟩ := h
 exact gR 1 rfl <| gV 29 (.int .i64 ((c + 1 : Nat) : Int)) rfl (au (by omega) (by omega)) rfl <| gR 2 rfl <| go_xloop <| gJ (h K _ hK (by omega)) [2] [] rfl hK pq4 ⟨⟨_, rfl, rfl, rfl, (ak _ aa.w (fun _ => rfl) d).symm⟩, trivial⟩ rfl
 replace hd := (dW hd)
 replace h := h.2 hd
 refine gR 3 rfl <| go_xloopE <| gR 6 rfl ?_
 obtain ⟨b, hs119, h⟩ := h
 refine gC0 hs119 (by kernel_rfl) rfl rfl .rfl rfl <| gR 2 rfl ?_
 obtain ⟨hb, h⟩ := h
 refine gDo (.repl 0 (.row 47 2 (List.map aa.w (a ++ [(aa.mk b [])])))) (bP ab rfl rfl rfl rfl rfl (apM aa.w a (aa.mk b [])) (by rw [aP]; exact hb)) (okR rfl) rfl rfl rfl <| gR 6 rfl ?_
 subst h
 exact go_sub (F' := (mkF 365 0 [(4, .sl 1)])) (H' := ⟨2, [(1, .row 47 2 (List.map aa.w (a ++ [(aa.mk b [])])))]⟩) [1000, 2] [] rfl hK pq1 ⟨⟨_, rfl, rfl, rfl, (ak _ aa.w (fun _ => rfl) (a ++ [(aa.mk b [])])).symm⟩, trivial⟩ rfl <| go_endD [] ab (rs := [.tmp 4]) rfl rfl ⟨rfl, rfl⟩
theorem oA (m : Nat) (p0 : List aa) (p1 : Tree) (r0 : List aa) (h : ∃ e, ah p1 0 e ∧ ∃ g, ah p1 1 g ∧ ∃ i, ah p1 2 i ∧ (p0 ++ [(aa.mk e [100, 101, 102]), (aa.mk g p1.text), (aa.mk i [40])]).length ≤ 1000000000 ∧ InI ((p1.kids.length : Int) - 2) ∧ ∃ d, dS (p0 ++ [(aa.mk e [100, 101, 102]), (aa.mk g p1.text), (aa.mk i [40])]) p1 0 ((p1.kids.length : Int) - 2) 6 d ∧ ∃ j, ah p1 3 j ∧ ∃ k, ah p1 4 k ∧ (d ++ [(aa.mk j [41]), (aa.mk k [58])]).length ≤ 1000000000 ∧ InI ((p1.kids.length : Int) - 2) ∧ ∃ o, ((p1.kids.length : Int) - 2) = ((o : Nat) : Int) ∧ ∃ p, p1.kids[o]? = some p ∧ ∃ b, ai (d ++ [(aa.mk j [41]), (aa.mk k [58])]) p b ∧ ∃ a, ah p1 5 a ∧ (b ++ [(aa.mk a [61])]).length ≤ 1000000000 ∧ InI ((p1.kids.length : Int) - 1) ∧ ∃ l, ((p1.kids.length : Int) - 1) = ((l : Nat) : Int) ∧ ∃ n, p1.kids[l]? = some n ∧ ∃ c, ai (b ++ [(aa.mk a [61])]) n c ∧ c = r0) : kX (m + 1) p0 p1 r0 := by
 intro K hK
 refine gR 1 rfl <| gDs [] 15 15 rfl (by kernel_rfl) (by kernel_rfl) <| gDr [(0, 2), (1, 2), (4, 2), (6, 2), (7, 2), (9, 2)] (by kernel_rfl) rfl rfl ?_
 obtain ⟨e, hs120, h⟩ := h
 refine aW 2 hs120 (by kernel_rfl) rfl (by kernel_rfl) rfl rfl .rfl rfl rfl ?_
 refine gDr [(3, 2)] (by kernel_rfl) rfl rfl ?_
 obtain ⟨g, hs121, h⟩ := h
 refine aW 5 hs121 (by kernel_rfl) rfl (by kernel_rfl) rfl rfl .rfl rfl rfl ?_
 refine gDr [(8, 2)] (by kernel_rfl) rfl rfl ?_
 obtain ⟨i, hs122, h⟩ := h
 refine aW 10 hs122 (by kernel_rfl) rfl (by kernel_rfl) rfl rfl .rfl rfl rfl ?_
 refine gDr [(11, 0), (12, 0)] (by kernel_rfl) rfl rfl ?_
 obtain ⟨hb, h⟩ := h
 refine bY 13 (.repl 0 (.row 47 2 (List.map aa.w (p0 ++ [(aa.mk e [100, 101, 102]), (aa.mk g p1.text), (aa.mk i [40])])))) rfl (by kernel_rfl) (bP ab rfl rfl rfl rfl rfl (List.map_append (f := aa.w) (l₁ := p0) (l₂ := [(aa.mk e [100, 101, 102]), (aa.mk g p1.text), (aa.mk i [40])])).symm (by rw [aP]; exact hb)) (okR rfl) rfl (by kernel_rfl) rfl rfl ?_
 refine gDr [(14, 0)] (by kernel_rfl) rfl rfl <| gDe (by kernel_rfl) <| gR 6 rfl ?_
 obtain ⟨hb, h⟩ := h
 refine gR 1 rfl <| gV 62 (.int .i64 ((p1.kids.length : Int) - 2)) rfl (au hb rfl) rfl ?_
 obtain ⟨d, hs123, h⟩ := h
 refine gC hs123 [2] (by kernel_rfl) rfl rfl .rfl ⟨⟨_, rfl, ⟨rfl, rfl, (ak _ aa.w (fun _ => rfl) (p0 ++ [(aa.mk e [100, 101, 102]), (aa.mk g p1.text), (aa.mk i [40])])).symm⟩⟩, trivial⟩ rfl ?_
 rintro _ _ ⟨rfl, rfl⟩
 refine gHR 4 (List.map aa.w d) rfl (ak _ aa.w (fun _ => rfl) d) rfl <| gR 4 rfl <| gDs [] 10 10 rfl (by kernel_rfl) (by kernel_rfl) <| gDr [(0, 2), (1, 2), (4, 2)] (by kernel_rfl) rfl rfl ?_
 obtain ⟨j, hs124, h⟩ := h
 refine aW 2 hs124 (by kernel_rfl) rfl (by kernel_rfl) rfl rfl .rfl rfl rfl ?_
 refine gDr [(3, 2)] (by kernel_rfl) rfl rfl ?_
 obtain ⟨k, hs125, h⟩ := h
 refine aW 5 hs125 (by kernel_rfl) rfl (by kernel_rfl) rfl rfl .rfl rfl rfl ?_
 refine gDr [(6, 0), (7, 0)] (by kernel_rfl) rfl rfl ?_
 obtain ⟨hb, h⟩ := h
 refine bY 8 (.repl 4 (.row 47 2 (List.map aa.w (d ++ [(aa.mk j [41]), (aa.mk k [58])])))) rfl (by kernel_rfl) (bP ab rfl rfl rfl rfl rfl (List.map_append (f := aa.w) (l₁ := d) (l₂ := [(aa.mk j [41]), (aa.mk k [58])])).symm (by rw [aP]; exact hb)) (okR rfl) rfl (by kernel_rfl) rfl rfl ?_
 refine gDr [(9, 0)] (by kernel_rfl) rfl rfl <| gDe (by kernel_rfl) <| gR 2 rfl <| gDs [] 14 14 rfl (by kernel_rfl) (by kernel_rfl) <| gDr [(0, 2), (1, 2), (2, 2), (3, 2)] (by kernel_rfl) rfl rfl ?_
 obtain ⟨hb, h⟩ := h
 refine gDr [(4, 2)] (by kernel_rfl) rfl rfl <| gV 77 (.int .i64 ((p1.kids.length : Int) - 2)) rfl (au hb rfl) rfl ?_
 obtain ⟨o, r, h⟩ := h
 refine gV 77 (.int .i64 ((o : Nat) : Int)) rfl (jz r) rfl ?_
 obtain ⟨p, hxt4_8, h⟩ := h
 refine gYd 5 rfl (by kernel_rfl) (bc (aw hxt4_8) ab rfl rfl rfl rfl) rfl rfl <| gDr [(6, 2), (8, 2)] (by kernel_rfl) rfl rfl ?_
 obtain ⟨b, hs126, h⟩ := h
 refine gDC 7 hs126 [6] (by kernel_rfl) rfl (by kernel_rfl) rfl rfl .rfl ⟨⟨_, rfl, ⟨rfl, rfl, (ak _ aa.w (fun _ => rfl) (d ++ [(aa.mk j [41]), (aa.mk k [58])])).symm⟩⟩, trivial⟩ (by kernel_rfl) rfl ?_
 rintro _ _ ⟨rfl, rfl⟩
 refine gHR 8 (List.map aa.w b) rfl (ak _ aa.w (fun _ => rfl) b) rfl ?_
 obtain ⟨a, hs127, h⟩ := h
 refine aW 9 hs127 (by kernel_rfl) rfl (by kernel_rfl) rfl rfl .rfl rfl rfl ?_
 refine gDr [(10, 0), (11, 0)] (by kernel_rfl) rfl rfl ?_
 obtain ⟨hb, h⟩ := h
 refine bY 12 (.repl 8 (.row 47 2 (List.map aa.w (b ++ [(aa.mk a [61])])))) rfl (by kernel_rfl) (bP ab rfl rfl rfl rfl rfl (apM aa.w b (aa.mk a [61])) (by rw [aP]; exact hb)) (okR rfl) rfl (by kernel_rfl) rfl rfl ?_
 refine gDr [(13, 0)] (by kernel_rfl) rfl rfl <| gDe (by kernel_rfl) <| gR 1 rfl <| go_sub (F' := (mkF 365 0 [(0, .sl 0), (3, .box (aj p1) 0), (5, .int .i64 (p1.kids.length : Int))])) (H' := ⟨1, [(0, .row 47 2 (List.map aa.w (b ++ [(aa.mk a [61])])))]⟩) [10] [] rfl hK pq3 ⟨⟨_, rfl, rfl, rfl, (ak _ aa.w (fun _ => rfl) (b ++ [(aa.mk a [61])])).symm⟩, trivial⟩ rfl <| gR 6 rfl ?_
 obtain ⟨hb, h⟩ := h
 refine gR 1 rfl <| gV 90 (.int .i64 ((p1.kids.length : Int) - 1)) rfl (au hb rfl) rfl ?_
 obtain ⟨l, q, h⟩ := h
 refine gV 90 (.int .i64 ((l : Nat) : Int)) rfl (jz q) rfl ?_
 obtain ⟨n, hxt4_12, h⟩ := h
 refine gY (bc (aw hxt4_12) ab rfl rfl rfl rfl) rfl rfl <| gR 1 rfl ?_
 obtain ⟨c, hs128, h⟩ := h
 refine gC hs128 [0] (by kernel_rfl) rfl rfl .rfl ⟨⟨_, rfl, ⟨rfl, rfl, (ak _ aa.w (fun _ => rfl) (b ++ [(aa.mk a [61])])).symm⟩⟩, trivial⟩ rfl ?_
 rintro _ _ ⟨rfl, rfl⟩
 refine gHR 2 (List.map aa.w c) rfl (ak _ aa.w (fun _ => rfl) c) rfl <| gR 6 rfl ?_
 subst h
 exact go_sub (F' := (mkF 365 0 [(4, .sl 1)])) (H' := ⟨2, [(1, .row 47 2 (List.map aa.w c))]⟩) [1000, 2] [] rfl hK pq1 ⟨⟨_, rfl, rfl, rfl, (ak _ aa.w (fun _ => rfl) c).symm⟩, trivial⟩ rfl <| go_endD [] ab (rs := [.tmp 4]) rfl rfl ⟨rfl, rfl⟩
theorem kf (m : Nat) (p0 : List aa) (p1 : Tree) (r0 : List aa) (h : ((p1.kind = 3) → kU m p0 p1 r0) ∧ ((p1.kind ≠ 3) → ij m p0 p1 r0)) : hD (m + 1) p0 p1 r0 := by
 intro K hK
 refine gR 6 rfl <| qBeZ 94 95 rfl rfl rfl rfl h (fun h => ?_) fun h => ?_
 exact gR 1 rfl <| gJ (h K hK) [0] [] rfl hK pq2 ⟨⟨_, rfl, rfl, rfl, (ak _ aa.w (fun _ => rfl) p0).symm⟩, trivial⟩ rfl
 exact gR 1 rfl <| gJ (h K hK) [0] [] rfl hK pq4 ⟨⟨_, rfl, rfl, rfl, (ak _ aa.w (fun _ => rfl) p0).symm⟩, trivial⟩ rfl
theorem oB (m : Nat) (p0 : List aa) (p1 : Tree) (r0 : List aa) (h : ∃ a, ah p1 0 a ∧ ∃ b, ah p1 1 b ∧ ∃ c, ah p1 2 c ∧ (p0 ++ [(aa.mk a [116, 121, 112, 101]), (aa.mk b p1.text), (aa.mk c [61])]).length ≤ 1000000000 ∧ ∃ e, p1.kids[0]? = some e ∧ ∃ d, ai (p0 ++ [(aa.mk a [116, 121, 112, 101]), (aa.mk b p1.text), (aa.mk c [61])]) e d ∧ d = r0) : kU (m + 1) p0 p1 r0 := by
 intro K hK
 refine gR 1 rfl <| gDs [] 15 15 rfl (by kernel_rfl) (by kernel_rfl) <| gDr [(0, 2), (1, 2), (4, 2), (6, 2), (7, 2), (9, 2)] (by kernel_rfl) rfl rfl ?_
 obtain ⟨a, hs129, h⟩ := h
 refine aW 2 hs129 (by kernel_rfl) rfl (by kernel_rfl) rfl rfl .rfl rfl rfl ?_
 refine gDr [(3, 2)] (by kernel_rfl) rfl rfl ?_
 obtain ⟨b, hs130, h⟩ := h
 refine aW 5 hs130 (by kernel_rfl) rfl (by kernel_rfl) rfl rfl .rfl rfl rfl ?_
 refine gDr [(8, 2)] (by kernel_rfl) rfl rfl ?_
 obtain ⟨c, hs131, h⟩ := h
 refine aW 10 hs131 (by kernel_rfl) rfl (by kernel_rfl) rfl rfl .rfl rfl rfl ?_
 refine gDr [(11, 0), (12, 0)] (by kernel_rfl) rfl rfl ?_
 obtain ⟨hb, h⟩ := h
 refine bY 13 (.repl 0 (.row 47 2 (List.map aa.w (p0 ++ [(aa.mk a [116, 121, 112, 101]), (aa.mk b p1.text), (aa.mk c [61])])))) rfl (by kernel_rfl) (bP ab rfl rfl rfl rfl rfl (List.map_append (f := aa.w) (l₁ := p0) (l₂ := [(aa.mk a [116, 121, 112, 101]), (aa.mk b p1.text), (aa.mk c [61])])).symm (by rw [aP]; exact hb)) (okR rfl) rfl (by kernel_rfl) rfl rfl ?_
 refine gDr [(14, 0)] (by kernel_rfl) rfl rfl <| gDe (by kernel_rfl) <| gR 6 rfl ?_
 obtain ⟨e, hxt6_4, h⟩ := h
 refine gY (bc (aw hxt6_4) ab rfl rfl rfl rfl) rfl rfl <| gR 1 rfl ?_
 obtain ⟨d, hs132, h⟩ := h
 refine gC hs132 [2] (by kernel_rfl) rfl rfl .rfl ⟨⟨_, rfl, ⟨rfl, rfl, (ak _ aa.w (fun _ => rfl) (p0 ++ [(aa.mk a [116, 121, 112, 101]), (aa.mk b p1.text), (aa.mk c [61])])).symm⟩⟩, trivial⟩ rfl ?_
 rintro _ _ ⟨rfl, rfl⟩
 refine gHR 4 (List.map aa.w d) rfl (ak _ aa.w (fun _ => rfl) d) rfl <| gR 6 rfl ?_
 subst h
 exact go_sub (F' := (mkF 365 0 [(4, .sl 1)])) (H' := ⟨2, [(1, .row 47 2 (List.map aa.w d))]⟩) [1000, 4] [] rfl hK pq1 ⟨⟨_, rfl, rfl, rfl, (ak _ aa.w (fun _ => rfl) d).symm⟩, trivial⟩ rfl <| go_endD [] ab (rs := [.tmp 4]) rfl rfl ⟨rfl, rfl⟩
theorem kc (m : Nat) (p0 : List aa) (p1 : Tree) (r0 : List aa) (h : ((p1.kind = 4) → lc m p0 p1 r0) ∧ ((p1.kind ≠ 4) → ib m p0 p1 r0)) : ij (m + 1) p0 p1 r0 := by
 intro K hK
 refine gR 6 rfl <| qBeZ 116 117 rfl rfl rfl rfl h (fun h => ?_) fun h => ?_
 exact gR 1 rfl <| gJ (h K hK) [0] [] rfl hK pq2 ⟨⟨_, rfl, rfl, rfl, (ak _ aa.w (fun _ => rfl) p0).symm⟩, trivial⟩ rfl
 exact gR 1 rfl <| gJ (h K hK) [0] [] rfl hK pq4 ⟨⟨_, rfl, rfl, rfl, (ak _ aa.w (fun _ => rfl) p0).symm⟩, trivial⟩ rfl
theorem oD (m : Nat) (p0 : List aa) (p1 : Tree) (r0 : List aa) (h : ∃ a, ah p1 0 a ∧ ∃ b, ah p1 1 b ∧ (p0 ++ [(aa.mk a p1.text), (aa.mk b [58])]).length ≤ 1000000000 ∧ ∃ d, p1.kids[0]? = some d ∧ ∃ c, ai (p0 ++ [(aa.mk a p1.text), (aa.mk b [58])]) d c ∧ c = r0) : lc (m + 1) p0 p1 r0 := by
 intro K hK
 refine gR 1 rfl <| gDs [] 12 12 rfl (by kernel_rfl) (by kernel_rfl) <| gDr [(0, 2), (1, 2), (3, 2), (4, 2), (6, 2)] (by kernel_rfl) rfl rfl ?_
 obtain ⟨a, hs133, h⟩ := h
 refine aW 2 hs133 (by kernel_rfl) rfl (by kernel_rfl) rfl rfl .rfl rfl rfl ?_
 refine gDr [(5, 2)] (by kernel_rfl) rfl rfl ?_
 obtain ⟨b, hs134, h⟩ := h
 refine aW 7 hs134 (by kernel_rfl) rfl (by kernel_rfl) rfl rfl .rfl rfl rfl ?_
 refine gDr [(8, 0), (9, 0)] (by kernel_rfl) rfl rfl ?_
 obtain ⟨hb, h⟩ := h
 refine bY 10 (.repl 0 (.row 47 2 (List.map aa.w (p0 ++ [(aa.mk a p1.text), (aa.mk b [58])])))) rfl (by kernel_rfl) (bP ab rfl rfl rfl rfl rfl (List.map_append (f := aa.w) (l₁ := p0) (l₂ := [(aa.mk a p1.text), (aa.mk b [58])])).symm (by rw [aP]; exact hb)) (okR rfl) rfl (by kernel_rfl) rfl rfl ?_
 refine gDr [(11, 0)] (by kernel_rfl) rfl rfl <| gDe (by kernel_rfl) <| gR 6 rfl ?_
 obtain ⟨d, hxt8_3, h⟩ := h
 refine gY (bc (aw hxt8_3) ab rfl rfl rfl rfl) rfl rfl <| gR 1 rfl ?_
 obtain ⟨c, hs135, h⟩ := h
 refine gC hs135 [2] (by kernel_rfl) rfl rfl .rfl ⟨⟨_, rfl, ⟨rfl, rfl, (ak _ aa.w (fun _ => rfl) (p0 ++ [(aa.mk a p1.text), (aa.mk b [58])])).symm⟩⟩, trivial⟩ rfl ?_
 rintro _ _ ⟨rfl, rfl⟩
 refine gHR 4 (List.map aa.w c) rfl (ak _ aa.w (fun _ => rfl) c) rfl <| gR 6 rfl ?_
 subst h
 exact go_sub (F' := (mkF 365 0 [(4, .sl 1)])) (H' := ⟨2, [(1, .row 47 2 (List.map aa.w c))]⟩) [1000, 4] [] rfl hK pq1 ⟨⟨_, rfl, rfl, rfl, (ak _ aa.w (fun _ => rfl) c).symm⟩, trivial⟩ rfl <| go_endD [] ab (rs := [.tmp 4]) rfl rfl ⟨rfl, rfl⟩
theorem kq (m : Nat) (p0 : List aa) (p1 : Tree) (r0 : List aa) (h : ((p1.kind = 5) → ∃ a, ah p1 0 a ∧ (p0 ++ [(aa.mk a [73, 110, 116])]).length ≤ 1000000000 ∧ (p0 ++ [(aa.mk a [73, 110, 116])]) = r0) ∧ ((p1.kind ≠ 5) → hJ m p0 p1 r0)) : ib (m + 1) p0 p1 r0 := by
 intro K hK
 refine gR 6 rfl <| qBeZ 135 136 rfl rfl rfl rfl h (fun h => ?_) fun h => ?_
 refine gR 5 rfl ?_
 obtain ⟨a, hs136, h⟩ := h
 refine gC0 hs136 (by kernel_rfl) rfl rfl .rfl rfl <| gR 2 rfl ?_
 obtain ⟨hb, h⟩ := h
 refine gDo (.repl 0 (.row 47 2 (List.map aa.w (p0 ++ [(aa.mk a [73, 110, 116])])))) (bP ab rfl rfl rfl rfl rfl (apM aa.w p0 (aa.mk a [73, 110, 116])) (by rw [aP]; exact hb)) (okR rfl) rfl rfl rfl <| gR 6 rfl ?_
 subst h
 exact go_sub (F' := (mkF 365 0 [(4, .sl 1)])) (H' := ⟨2, [(1, .row 47 2 (List.map aa.w (p0 ++ [(aa.mk a [73, 110, 116])])))]⟩) [1000, 2] [] rfl hK pq1 ⟨⟨_, rfl, rfl, rfl, (ak _ aa.w (fun _ => rfl) (p0 ++ [(aa.mk a [73, 110, 116])])).symm⟩, trivial⟩ rfl <| go_endD [] ab (rs := [.tmp 4]) rfl rfl ⟨rfl, rfl⟩
 exact gR 1 rfl <| gJ (h K hK) [0] [] rfl hK pq4 ⟨⟨_, rfl, rfl, rfl, (ak _ aa.w (fun _ => rfl) p0).symm⟩, trivial⟩ rfl
theorem kA (m : Nat) (p0 : List aa) (p1 : Tree) (r0 : List aa) (h : ((p1.kind = 6) → ∃ a, ah p1 0 a ∧ (p0 ++ [(aa.mk a [84, 101, 120, 116])]).length ≤ 1000000000 ∧ (p0 ++ [(aa.mk a [84, 101, 120, 116])]) = r0) ∧ ((p1.kind ≠ 6) → gK m p0 p1 r0)) : hJ (m + 1) p0 p1 r0 := by
 intro K hK
 refine gR 6 rfl <| qBeZ 143 144 rfl rfl rfl rfl h (fun h => ?_) fun h => ?_
 refine gR 5 rfl ?_
 obtain ⟨a, hs137, h⟩ := h
 refine gC0 hs137 (by kernel_rfl) rfl rfl .rfl rfl <| gR 2 rfl ?_
 obtain ⟨hb, h⟩ := h
 refine gDo (.repl 0 (.row 47 2 (List.map aa.w (p0 ++ [(aa.mk a [84, 101, 120, 116])])))) (bP ab rfl rfl rfl rfl rfl (apM aa.w p0 (aa.mk a [84, 101, 120, 116])) (by rw [aP]; exact hb)) (okR rfl) rfl rfl rfl <| gR 6 rfl ?_
 subst h
 exact go_sub (F' := (mkF 365 0 [(4, .sl 1)])) (H' := ⟨2, [(1, .row 47 2 (List.map aa.w (p0 ++ [(aa.mk a [84, 101, 120, 116])])))]⟩) [1000, 2] [] rfl hK pq1 ⟨⟨_, rfl, rfl, rfl, (ak _ aa.w (fun _ => rfl) (p0 ++ [(aa.mk a [84, 101, 120, 116])])).symm⟩, trivial⟩ rfl <| go_endD [] ab (rs := [.tmp 4]) rfl rfl ⟨rfl, rfl⟩
 exact gR 1 rfl <| gJ (h K hK) [0] [] rfl hK pq4 ⟨⟨_, rfl, rfl, rfl, (ak _ aa.w (fun _ => rfl) p0).symm⟩, trivial⟩ rfl
theorem jS (m : Nat) (p0 : List aa) (p1 : Tree) (r0 : List aa) (h : ((p1.kind = 7) → ∃ a, ah p1 0 a ∧ (p0 ++ [(aa.mk a [66, 111, 111, 108])]).length ≤ 1000000000 ∧ (p0 ++ [(aa.mk a [66, 111, 111, 108])]) = r0) ∧ ((p1.kind ≠ 7) → gM m p0 p1 r0)) : gK (m + 1) p0 p1 r0 := by
 intro K hK
 refine gR 6 rfl <| qBeZ 151 152 rfl rfl rfl rfl h (fun h => ?_) fun h => ?_
 refine gR 5 rfl ?_
 obtain ⟨a, hs138, h⟩ := h
 refine gC0 hs138 (by kernel_rfl) rfl rfl .rfl rfl <| gR 2 rfl ?_
 obtain ⟨hb, h⟩ := h
 refine gDo (.repl 0 (.row 47 2 (List.map aa.w (p0 ++ [(aa.mk a [66, 111, 111, 108])])))) (bP ab rfl rfl rfl rfl rfl (apM aa.w p0 (aa.mk a [66, 111, 111, 108])) (by rw [aP]; exact hb)) (okR rfl) rfl rfl rfl <| gR 6 rfl ?_
 subst h
 exact go_sub (F' := (mkF 365 0 [(4, .sl 1)])) (H' := ⟨2, [(1, .row 47 2 (List.map aa.w (p0 ++ [(aa.mk a [66, 111, 111, 108])])))]⟩) [1000, 2] [] rfl hK pq1 ⟨⟨_, rfl, rfl, rfl, (ak _ aa.w (fun _ => rfl) (p0 ++ [(aa.mk a [66, 111, 111, 108])])).symm⟩, trivial⟩ rfl <| go_endD [] ab (rs := [.tmp 4]) rfl rfl ⟨rfl, rfl⟩
 exact gR 1 rfl <| gJ (h K hK) [0] [] rfl hK pq4 ⟨⟨_, rfl, rfl, rfl, (ak _ aa.w (fun _ => rfl) p0).symm⟩, trivial⟩ rfl
theorem jO (m : Nat) (p0 : List aa) (p1 : Tree) (r0 : List aa) (h : ((p1.kind = 13) → ∃ a, ah p1 0 a ∧ (p0 ++ [(aa.mk a [116, 114, 117, 101])]).length ≤ 1000000000 ∧ (p0 ++ [(aa.mk a [116, 114, 117, 101])]) = r0) ∧ ((p1.kind ≠ 13) → gv m p0 p1 r0)) : gM (m + 1) p0 p1 r0 := by
 intro K hK
 refine gR 6 rfl <| qBeZ 159 160 rfl rfl rfl rfl h (fun h => ?_) fun h => ?_
 refine gR 5 rfl ?_
 obtain ⟨a, hs139, h⟩ := h
 refine gC0 hs139 (by kernel_rfl) rfl rfl .rfl rfl <| gR 2 rfl ?_
 obtain ⟨hb, h⟩ := h
 refine gDo (.repl 0 (.row 47 2 (List.map aa.w (p0 ++ [(aa.mk a [116, 114, 117, 101])])))) (bP ab rfl rfl rfl rfl rfl (apM aa.w p0 (aa.mk a [116, 114, 117, 101])) (by rw [aP]; exact hb)) (okR rfl) rfl rfl rfl <| gR 6 rfl ?_
 subst h
 exact go_sub (F' := (mkF 365 0 [(4, .sl 1)])) (H' := ⟨2, [(1, .row 47 2 (List.map aa.w (p0 ++ [(aa.mk a [116, 114, 117, 101])])))]⟩) [1000, 2] [] rfl hK pq1 ⟨⟨_, rfl, rfl, rfl, (ak _ aa.w (fun _ => rfl) (p0 ++ [(aa.mk a [116, 114, 117, 101])])).symm⟩, trivial⟩ rfl <| go_endD [] ab (rs := [.tmp 4]) rfl rfl ⟨rfl, rfl⟩
 exact gR 1 rfl <| gJ (h K hK) [0] [] rfl hK pq4 ⟨⟨_, rfl, rfl, rfl, (ak _ aa.w (fun _ => rfl) p0).symm⟩, trivial⟩ rfl
theorem jR (m : Nat) (p0 : List aa) (p1 : Tree) (r0 : List aa) (h : ((p1.kind = 14) → ∃ a, ah p1 0 a ∧ (p0 ++ [(aa.mk a [102, 97, 108, 115, 101])]).length ≤ 1000000000 ∧ (p0 ++ [(aa.mk a [102, 97, 108, 115, 101])]) = r0) ∧ ((p1.kind ≠ 14) → gy m p0 p1 r0)) : gv (m + 1) p0 p1 r0 := by
 intro K hK
 refine gR 6 rfl <| qBeZ 167 168 rfl rfl rfl rfl h (fun h => ?_) fun h => ?_
 refine gR 5 rfl ?_
 obtain ⟨a, hs140, h⟩ := h
 refine gC0 hs140 (by kernel_rfl) rfl rfl .rfl rfl <| gR 2 rfl ?_
 obtain ⟨hb, h⟩ := h
 refine gDo (.repl 0 (.row 47 2 (List.map aa.w (p0 ++ [(aa.mk a [102, 97, 108, 115, 101])])))) (bP ab rfl rfl rfl rfl rfl (apM aa.w p0 (aa.mk a [102, 97, 108, 115, 101])) (by rw [aP]; exact hb)) (okR rfl) rfl rfl rfl <| gR 6 rfl ?_
 subst h
 exact go_sub (F' := (mkF 365 0 [(4, .sl 1)])) (H' := ⟨2, [(1, .row 47 2 (List.map aa.w (p0 ++ [(aa.mk a [102, 97, 108, 115, 101])])))]⟩) [1000, 2] [] rfl hK pq1 ⟨⟨_, rfl, rfl, rfl, (ak _ aa.w (fun _ => rfl) (p0 ++ [(aa.mk a [102, 97, 108, 115, 101])])).symm⟩, trivial⟩ rfl <| go_endD [] ab (rs := [.tmp 4]) rfl rfl ⟨rfl, rfl⟩
 exact gR 1 rfl <| gJ (h K hK) [0] [] rfl hK pq4 ⟨⟨_, rfl, rfl, rfl, (ak _ aa.w (fun _ => rfl) p0).symm⟩, trivial⟩ rfl
theorem jK (m : Nat) (p0 : List aa) (p1 : Tree) (r0 : List aa) (h : ((p1.kind = 15) → ∃ a, ah p1 0 a ∧ (p0 ++ [(aa.mk a [63])]).length ≤ 1000000000 ∧ (p0 ++ [(aa.mk a [63])]) = r0) ∧ ((p1.kind ≠ 15) → gE m p0 p1 r0)) : gy (m + 1) p0 p1 r0 := by
 intro K hK
 refine gR 6 rfl <| qBeZ 175 176 rfl rfl rfl rfl h (fun h => ?_) fun h => ?_
 refine gR 5 rfl ?_
 obtain ⟨a, hs141, h⟩ := h
 refine gC0 hs141 (by kernel_rfl) rfl rfl .rfl rfl <| gR 2 rfl ?_
 obtain ⟨hb, h⟩ := h
 refine gDo (.repl 0 (.row 47 2 (List.map aa.w (p0 ++ [(aa.mk a [63])])))) (bP ab rfl rfl rfl rfl rfl (apM aa.w p0 (aa.mk a [63])) (by rw [aP]; exact hb)) (okR rfl) rfl rfl rfl <| gR 6 rfl ?_
 subst h
 exact go_sub (F' := (mkF 365 0 [(4, .sl 1)])) (H' := ⟨2, [(1, .row 47 2 (List.map aa.w (p0 ++ [(aa.mk a [63])])))]⟩) [1000, 2] [] rfl hK pq1 ⟨⟨_, rfl, rfl, rfl, (ak _ aa.w (fun _ => rfl) (p0 ++ [(aa.mk a [63])])).symm⟩, trivial⟩ rfl <| go_endD [] ab (rs := [.tmp 4]) rfl rfl ⟨rfl, rfl⟩
 exact gR 1 rfl <| gJ (h K hK) [0] [] rfl hK pq4 ⟨⟨_, rfl, rfl, rfl, (ak _ aa.w (fun _ => rfl) p0).symm⟩, trivial⟩ rfl
theorem jT (m : Nat) (p0 : List aa) (p1 : Tree) (r0 : List aa) (h : ((p1.kind = 8) → ky m p0 p1 r0) ∧ ((p1.kind ≠ 8) → gq m p0 p1 r0)) : gE (m + 1) p0 p1 r0 := by
 intro K hK
 refine gR 6 rfl <| qBeZ 183 184 rfl rfl rfl rfl h (fun h => ?_) fun h => ?_
 exact gR 1 rfl <| gJ (h K hK) [0] [] rfl hK pq2 ⟨⟨_, rfl, rfl, rfl, (ak _ aa.w (fun _ => rfl) p0).symm⟩, trivial⟩ rfl
 exact gR 1 rfl <| gJ (h K hK) [0] [] rfl hK pq4 ⟨⟨_, rfl, rfl, rfl, (ak _ aa.w (fun _ => rfl) p0).symm⟩, trivial⟩ rfl
theorem nL (m : Nat) (p0 : List aa) (p1 : Tree) (r0 : List aa) (h : ∃ c, ah p1 0 c ∧ (p0 ++ [(aa.mk c [91])]).length ≤ 1000000000 ∧ ∃ d, p1.kids[0]? = some d ∧ ∃ a, ai (p0 ++ [(aa.mk c [91])]) d a ∧ ∃ b, ah p1 1 b ∧ (a ++ [(aa.mk b [93])]).length ≤ 1000000000 ∧ (a ++ [(aa.mk b [93])]) = r0) : ky (m + 1) p0 p1 r0 := by
 intro K hK
 refine gR 4 rfl ?_
 obtain ⟨c, hs142, h⟩ := h
 refine gC0 hs142 (by kernel_rfl) rfl rfl .rfl rfl <| gR 2 rfl ?_
 obtain ⟨hb, h⟩ := h
 refine gDo (.repl 0 (.row 47 2 (List.map aa.w (p0 ++ [(aa.mk c [91])])))) (bP ab rfl rfl rfl rfl rfl (apM aa.w p0 (aa.mk c [91])) (by rw [aP]; exact hb)) (okR rfl) rfl rfl rfl <| gR 4 rfl <| gDs [] 12 12 rfl (by kernel_rfl) (by kernel_rfl) <| gDr [(0, 2), (1, 2), (2, 2)] (by kernel_rfl) rfl rfl ?_
 obtain ⟨d, hxt16_2, h⟩ := h
 refine gYd 3 rfl (by kernel_rfl) (bc (aw hxt16_2) ab rfl rfl rfl rfl) rfl rfl <| gDr [(4, 2), (6, 2)] (by kernel_rfl) rfl rfl ?_
 obtain ⟨a, hs143, h⟩ := h
 refine gDC 5 hs143 [2] (by kernel_rfl) rfl (by kernel_rfl) rfl rfl .rfl ⟨⟨_, rfl, ⟨rfl, rfl, (ak _ aa.w (fun _ => rfl) (p0 ++ [(aa.mk c [91])])).symm⟩⟩, trivial⟩ (by kernel_rfl) rfl ?_
 rintro _ _ ⟨rfl, rfl⟩
 refine gHR 4 (List.map aa.w a) rfl (ak _ aa.w (fun _ => rfl) a) rfl ?_
 obtain ⟨b, hs144, h⟩ := h
 refine aW 7 hs144 (by kernel_rfl) rfl (by kernel_rfl) rfl rfl .rfl rfl rfl ?_
 refine gDr [(8, 0), (9, 0)] (by kernel_rfl) rfl rfl ?_
 obtain ⟨hb, h⟩ := h
 refine bY 10 (.repl 4 (.row 47 2 (List.map aa.w (a ++ [(aa.mk b [93])])))) rfl (by kernel_rfl) (bP ab rfl rfl rfl rfl rfl (apM aa.w a (aa.mk b [93])) (by rw [aP]; exact hb)) (okR rfl) rfl (by kernel_rfl) rfl rfl ?_
 refine gDr [(11, 0)] (by kernel_rfl) rfl rfl <| gDe (by kernel_rfl) <| gR 4 rfl ?_
 subst h
 exact go_sub (F' := (mkF 365 0 [(4, .sl 1)])) (H' := ⟨2, [(1, .row 47 2 (List.map aa.w (a ++ [(aa.mk b [93])])))]⟩) [1000, 6] [] rfl hK pq1 ⟨⟨_, rfl, rfl, rfl, (ak _ aa.w (fun _ => rfl) (a ++ [(aa.mk b [93])])).symm⟩, trivial⟩ rfl <| go_endD [] ab (rs := [.tmp 4]) rfl rfl ⟨rfl, rfl⟩
theorem jI (m : Nat) (p0 : List aa) (p1 : Tree) (r0 : List aa) (h : ((p1.kind = 16) → kz m p0 p1 r0) ∧ ((p1.kind ≠ 16) → gG m p0 p1 r0)) : gq (m + 1) p0 p1 r0 := by
 intro K hK
 refine gR 6 rfl <| qBeZ 202 203 rfl rfl rfl rfl h (fun h => ?_) fun h => ?_
 exact gR 1 rfl <| gJ (h K hK) [0] [] rfl hK pq3 ⟨⟨_, rfl, rfl, rfl, (ak _ aa.w (fun _ => rfl) p0).symm⟩, trivial⟩ rfl
 exact gR 1 rfl <| gJ (h K hK) [0] [] rfl hK pq4 ⟨⟨_, rfl, rfl, rfl, (ak _ aa.w (fun _ => rfl) p0).symm⟩, trivial⟩ rfl
theorem nE (m : Nat) (p0 : List aa) (p1 : Tree) (r0 : List aa) (h : ∃ c, ah p1 0 c ∧ ∃ d, ah p1 1 d ∧ (p0 ++ [(aa.mk c p1.text), (aa.mk d [40])]).length ≤ 1000000000 ∧ ∃ a, dS (p0 ++ [(aa.mk c p1.text), (aa.mk d [40])]) p1 0 (p1.kids.length : Int) 3 a ∧ ∃ b, ah p1 2 b ∧ (a ++ [(aa.mk b [41])]).length ≤ 1000000000 ∧ (a ++ [(aa.mk b [41])]) = r0) : kz (m + 1) p0 p1 r0 := by
 intro K hK
 refine gR 1 rfl <| gDs [] 12 12 rfl (by kernel_rfl) (by kernel_rfl) <| gDr [(0, 2), (1, 2), (3, 2), (4, 2), (6, 2)] (by kernel_rfl) rfl rfl ?_
 obtain ⟨c, hs145, h⟩ := h
 refine aW 2 hs145 (by kernel_rfl) rfl (by kernel_rfl) rfl rfl .rfl rfl rfl ?_
 refine gDr [(5, 2)] (by kernel_rfl) rfl rfl ?_
 obtain ⟨d, hs146, h⟩ := h
 refine aW 7 hs146 (by kernel_rfl) rfl (by kernel_rfl) rfl rfl .rfl rfl rfl ?_
 refine gDr [(8, 0), (9, 0)] (by kernel_rfl) rfl rfl ?_
 obtain ⟨hb, h⟩ := h
 refine bY 10 (.repl 0 (.row 47 2 (List.map aa.w (p0 ++ [(aa.mk c p1.text), (aa.mk d [40])])))) rfl (by kernel_rfl) (bP ab rfl rfl rfl rfl rfl (List.map_append (f := aa.w) (l₁ := p0) (l₂ := [(aa.mk c p1.text), (aa.mk d [40])])).symm (by rw [aP]; exact hb)) (okR rfl) rfl (by kernel_rfl) rfl rfl ?_
 refine gDr [(11, 0)] (by kernel_rfl) rfl rfl <| gDe (by kernel_rfl) <| gR 2 rfl <| gDs [] 10 10 rfl (by kernel_rfl) (by kernel_rfl) <| gDr [(0, 2), (1, 2), (2, 2), (4, 2)] (by kernel_rfl) rfl rfl ?_
 obtain ⟨a, hs147, h⟩ := h
 refine gDC 3 hs147 [2] (by kernel_rfl) rfl (by kernel_rfl) rfl rfl .rfl ⟨⟨_, rfl, ⟨rfl, rfl, (ak _ aa.w (fun _ => rfl) (p0 ++ [(aa.mk c p1.text), (aa.mk d [40])])).symm⟩⟩, trivial⟩ (by kernel_rfl) rfl ?_
 rintro _ _ ⟨rfl, rfl⟩
 refine gHR 4 (List.map aa.w a) rfl (ak _ aa.w (fun _ => rfl) a) rfl ?_
 obtain ⟨b, hs148, h⟩ := h
 refine aW 5 hs148 (by kernel_rfl) rfl (by kernel_rfl) rfl rfl .rfl rfl rfl ?_
 refine gDr [(6, 0), (7, 0)] (by kernel_rfl) rfl rfl ?_
 obtain ⟨hb, h⟩ := h
 refine bY 8 (.repl 4 (.row 47 2 (List.map aa.w (a ++ [(aa.mk b [41])])))) rfl (by kernel_rfl) (bP ab rfl rfl rfl rfl rfl (apM aa.w a (aa.mk b [41])) (by rw [aP]; exact hb)) (okR rfl) rfl (by kernel_rfl) rfl rfl ?_
 refine gDr [(9, 0)] (by kernel_rfl) rfl rfl <| gDe (by kernel_rfl) <| gR 4 rfl ?_
 subst h
 exact go_sub (F' := (mkF 365 0 [(4, .sl 1)])) (H' := ⟨2, [(1, .row 47 2 (List.map aa.w (a ++ [(aa.mk b [41])])))]⟩) [1000, 6] [] rfl hK pq1 ⟨⟨_, rfl, rfl, rfl, (ak _ aa.w (fun _ => rfl) (a ++ [(aa.mk b [41])])).symm⟩, trivial⟩ rfl <| go_endD [] ab (rs := [.tmp 4]) rfl rfl ⟨rfl, rfl⟩
theorem jJ (m : Nat) (p0 : List aa) (p1 : Tree) (r0 : List aa) (h : ((p1.kind = 17) → ∃ b, p1.kids[0]? = some b ∧ ∃ a, ai p0 b a ∧ a = r0) ∧ ((p1.kind ≠ 17) → gL m p0 p1 r0)) : gG (m + 1) p0 p1 r0 := by
 intro K hK
 refine gR 6 rfl <| qBeZ 224 225 rfl rfl rfl rfl h (fun h => ?_) fun h => ?_
 refine gR 6 rfl ?_
 obtain ⟨b, hxt19_1, h⟩ := h
 refine gY (bc (aw hxt19_1) ab rfl rfl rfl rfl) rfl rfl <| gR 1 rfl ?_
 obtain ⟨a, hs149, h⟩ := h
 refine gC hs149 [0] (by kernel_rfl) rfl rfl .rfl ⟨⟨_, rfl, ⟨rfl, rfl, (ak _ aa.w (fun _ => rfl) p0).symm⟩⟩, trivial⟩ rfl ?_
 rintro _ _ ⟨rfl, rfl⟩
 refine gHR 2 (List.map aa.w a) rfl (ak _ aa.w (fun _ => rfl) a) rfl <| gR 6 rfl ?_
 subst h
 exact go_sub (F' := (mkF 365 0 [(4, .sl 1)])) (H' := ⟨2, [(1, .row 47 2 (List.map aa.w a))]⟩) [1000, 2] [] rfl hK pq1 ⟨⟨_, rfl, rfl, rfl, (ak _ aa.w (fun _ => rfl) a).symm⟩, trivial⟩ rfl <| go_endD [] ab (rs := [.tmp 4]) rfl rfl ⟨rfl, rfl⟩
 exact gR 1 rfl <| gJ (h K hK) [0] [] rfl hK pq4 ⟨⟨_, rfl, rfl, rfl, (ak _ aa.w (fun _ => rfl) p0).symm⟩, trivial⟩ rfl
theorem jF (m : Nat) (p0 : List aa) (p1 : Tree) (r0 : List aa) (h : ((p1.kind = 18) → ku m p0 p1 r0) ∧ ((p1.kind ≠ 18) → gz m p0 p1 r0)) : gL (m + 1) p0 p1 r0 := by
 intro K hK
 refine gR 6 rfl <| qBeZ 232 233 rfl rfl rfl rfl h (fun h => ?_) fun h => ?_
 exact gR 1 rfl <| gJ (h K hK) [0] [] rfl hK pq3 ⟨⟨_, rfl, rfl, rfl, (ak _ aa.w (fun _ => rfl) p0).symm⟩, trivial⟩ rfl
 exact gR 1 rfl <| gJ (h K hK) [0] [] rfl hK pq3 ⟨⟨_, rfl, rfl, rfl, (ak _ aa.w (fun _ => rfl) p0).symm⟩, trivial⟩ rfl
theorem nH (m : Nat) (p0 : List aa) (p1 : Tree) (r0 : List aa) (h : ∃ c, ah p1 0 c ∧ (p0 ++ [(aa.mk c [91])]).length ≤ 1000000000 ∧ ∃ a, dS (p0 ++ [(aa.mk c [91])]) p1 0 (p1.kids.length : Int) 2 a ∧ ∃ b, ah p1 1 b ∧ (a ++ [(aa.mk b [93])]).length ≤ 1000000000 ∧ (a ++ [(aa.mk b [93])]) = r0) : ku (m + 1) p0 p1 r0 := by
 intro K hK
 refine gR 4 rfl ?_
 obtain ⟨c, hs150, h⟩ := h
 refine gC0 hs150 (by kernel_rfl) rfl rfl .rfl rfl <| gR 2 rfl ?_
 obtain ⟨hb, h⟩ := h
 refine gDo (.repl 0 (.row 47 2 (List.map aa.w (p0 ++ [(aa.mk c [91])])))) (bP ab rfl rfl rfl rfl rfl (apM aa.w p0 (aa.mk c [91])) (by rw [aP]; exact hb)) (okR rfl) rfl rfl rfl <| gR 4 rfl <| gDs [] 10 10 rfl (by kernel_rfl) (by kernel_rfl) <| gDr [(0, 2), (1, 2), (2, 2), (4, 2)] (by kernel_rfl) rfl rfl ?_
 obtain ⟨a, hs151, h⟩ := h
 refine gDC 3 hs151 [2] (by kernel_rfl) rfl (by kernel_rfl) rfl rfl .rfl ⟨⟨_, rfl, ⟨rfl, rfl, (ak _ aa.w (fun _ => rfl) (p0 ++ [(aa.mk c [91])])).symm⟩⟩, trivial⟩ (by kernel_rfl) rfl ?_
 rintro _ _ ⟨rfl, rfl⟩
 refine gHR 4 (List.map aa.w a) rfl (ak _ aa.w (fun _ => rfl) a) rfl ?_
 obtain ⟨b, hs152, h⟩ := h
 refine aW 5 hs152 (by kernel_rfl) rfl (by kernel_rfl) rfl rfl .rfl rfl rfl ?_
 refine gDr [(6, 0), (7, 0)] (by kernel_rfl) rfl rfl ?_
 obtain ⟨hb, h⟩ := h
 refine bY 8 (.repl 4 (.row 47 2 (List.map aa.w (a ++ [(aa.mk b [93])])))) rfl (by kernel_rfl) (bP ab rfl rfl rfl rfl rfl (apM aa.w a (aa.mk b [93])) (by rw [aP]; exact hb)) (okR rfl) rfl (by kernel_rfl) rfl rfl ?_
 refine gDr [(9, 0)] (by kernel_rfl) rfl rfl <| gDe (by kernel_rfl) <| gR 4 rfl ?_
 subst h
 exact go_sub (F' := (mkF 365 0 [(4, .sl 1)])) (H' := ⟨2, [(1, .row 47 2 (List.map aa.w (a ++ [(aa.mk b [93])])))]⟩) [1000, 6] [] rfl hK pq1 ⟨⟨_, rfl, rfl, rfl, (ak _ aa.w (fun _ => rfl) (a ++ [(aa.mk b [93])])).symm⟩, trivial⟩ rfl <| go_endD [] ab (rs := [.tmp 4]) rfl rfl ⟨rfl, rfl⟩
theorem jM (m : Nat) (p0 : List aa) (p1 : Tree) (r0 : List aa) (h : ((p1.kind = 19) → kp m p0 p1 r0) ∧ ((p1.kind ≠ 19) → gA m p0 p1 r0)) : gz (m + 1) p0 p1 r0 := by
 intro K hK
 refine gR 6 rfl <| qBeZ 249 250 rfl rfl rfl rfl h (fun h => ?_) fun h => ?_
 exact gR 1 rfl <| gJ (h K hK) [0] [] rfl hK pq2 ⟨⟨_, rfl, rfl, rfl, (ak _ aa.w (fun _ => rfl) p0).symm⟩, trivial⟩ rfl
 exact gR 1 rfl <| gJ (h K hK) [0] [] rfl hK pq3 ⟨⟨_, rfl, rfl, rfl, (ak _ aa.w (fun _ => rfl) p0).symm⟩, trivial⟩ rfl
theorem nF (m : Nat) (p0 : List aa) (p1 : Tree) (r0 : List aa) (h : ∃ g, p1.kids[0]? = some g ∧ ∃ c, ah p1 0 c ∧ (p0 ++ [(aa.mk c [105, 102])]).length ≤ 1000000000 ∧ ∃ a, ai (p0 ++ [(aa.mk c [105, 102])]) g a ∧ ∃ i, p1.kids[1]? = some i ∧ ∃ d, ah p1 1 d ∧ (a ++ [(aa.mk d [116, 104, 101, 110])]).length ≤ 1000000000 ∧ ∃ b, ai (a ++ [(aa.mk d [116, 104, 101, 110])]) i b ∧ ∃ j, p1.kids[2]? = some j ∧ ∃ e, ah p1 2 e ∧ (b ++ [(aa.mk e [101, 108, 115, 101])]).length ≤ 1000000000 ∧ ∃ f, ai (b ++ [(aa.mk e [101, 108, 115, 101])]) j f ∧ f = r0) : kp (m + 1) p0 p1 r0 := by
 intro K hK
 refine gR 1 rfl <| gDs [] 12 12 rfl (by kernel_rfl) (by kernel_rfl) <| gDr [(0, 2), (1, 2), (6, 2), (7, 2)] (by kernel_rfl) rfl rfl ?_
 obtain ⟨g, hxt23_1, h⟩ := h
 refine gYd 8 rfl (by kernel_rfl) (bc (aw hxt23_1) ab rfl rfl rfl rfl) rfl rfl <| gDr [(9, 2)] (by kernel_rfl) rfl rfl ?_
 obtain ⟨c, hs153, h⟩ := h
 refine aW 2 hs153 (by kernel_rfl) rfl (by kernel_rfl) rfl rfl .rfl rfl rfl ?_
 refine gDr [(3, 0), (4, 0)] (by kernel_rfl) rfl rfl ?_
 obtain ⟨hb, h⟩ := h
 refine bY 5 (.repl 0 (.row 47 2 (List.map aa.w (p0 ++ [(aa.mk c [105, 102])])))) rfl (by kernel_rfl) (bP ab rfl rfl rfl rfl rfl (apM aa.w p0 (aa.mk c [105, 102])) (by rw [aP]; exact hb)) (okR rfl) rfl (by kernel_rfl) rfl rfl ?_
 obtain ⟨a, hs154, h⟩ := h
 refine gDC 10 hs154 [2] (by kernel_rfl) rfl (by kernel_rfl) rfl rfl .rfl ⟨⟨_, rfl, ⟨rfl, rfl, (ak _ aa.w (fun _ => rfl) (p0 ++ [(aa.mk c [105, 102])])).symm⟩⟩, trivial⟩ (by kernel_rfl) rfl ?_
 rintro _ _ ⟨rfl, rfl⟩
 refine gHR 4 (List.map aa.w a) rfl (ak _ aa.w (fun _ => rfl) a) rfl <| gDr [(11, 0)] (by kernel_rfl) rfl rfl <| gDe (by kernel_rfl) <| gR 2 rfl <| gDs [] 12 12 rfl (by kernel_rfl) (by kernel_rfl) <| gDr [(0, 2), (1, 2), (6, 2), (7, 2)] (by kernel_rfl) rfl rfl ?_
 obtain ⟨i, hxt23_4, h⟩ := h
 refine gYd 8 rfl (by kernel_rfl) (bc (aw hxt23_4) ab rfl rfl rfl rfl) rfl rfl <| gDr [(9, 2)] (by kernel_rfl) rfl rfl ?_
 obtain ⟨d, hs155, h⟩ := h
 refine aW 2 hs155 (by kernel_rfl) rfl (by kernel_rfl) rfl rfl .rfl rfl rfl ?_
 refine gDr [(3, 0), (4, 0)] (by kernel_rfl) rfl rfl ?_
 obtain ⟨hb, h⟩ := h
 refine bY 5 (.repl 4 (.row 47 2 (List.map aa.w (a ++ [(aa.mk d [116, 104, 101, 110])])))) rfl (by kernel_rfl) (bP ab rfl rfl rfl rfl rfl (apM aa.w a (aa.mk d [116, 104, 101, 110])) (by rw [aP]; exact hb)) (okR rfl) rfl (by kernel_rfl) rfl rfl ?_
 obtain ⟨b, hs156, h⟩ := h
 refine gDC 10 hs156 [6] (by kernel_rfl) rfl (by kernel_rfl) rfl rfl .rfl ⟨⟨_, rfl, ⟨rfl, rfl, (ak _ aa.w (fun _ => rfl) (a ++ [(aa.mk d [116, 104, 101, 110])])).symm⟩⟩, trivial⟩ (by kernel_rfl) rfl ?_
 rintro _ _ ⟨rfl, rfl⟩
 refine gHR 8 (List.map aa.w b) rfl (ak _ aa.w (fun _ => rfl) b) rfl <| gDr [(11, 0)] (by kernel_rfl) rfl rfl <| gDe (by kernel_rfl) <| gR 2 rfl <| gDs [] 12 12 rfl (by kernel_rfl) (by kernel_rfl) <| gDr [(0, 2), (1, 2), (6, 2), (7, 2)] (by kernel_rfl) rfl rfl ?_
 obtain ⟨j, hxt23_7, h⟩ := h
 refine gYd 8 rfl (by kernel_rfl) (bc (aw hxt23_7) ab rfl rfl rfl rfl) rfl rfl <| gDr [(9, 2)] (by kernel_rfl) rfl rfl ?_
 obtain ⟨e, hs157, h⟩ := h
 refine aW 2 hs157 (by kernel_rfl) rfl (by kernel_rfl) rfl rfl .rfl rfl rfl ?_
 refine gDr [(3, 0), (4, 0)] (by kernel_rfl) rfl rfl ?_
 obtain ⟨hb, h⟩ := h
 refine bY 5 (.repl 8 (.row 47 2 (List.map aa.w (b ++ [(aa.mk e [101, 108, 115, 101])])))) rfl (by kernel_rfl) (bP ab rfl rfl rfl rfl rfl (apM aa.w b (aa.mk e [101, 108, 115, 101])) (by rw [aP]; exact hb)) (okR rfl) rfl (by kernel_rfl) rfl rfl ?_
 obtain ⟨f, hs158, h⟩ := h
 refine gDC 10 hs158 [10] (by kernel_rfl) rfl (by kernel_rfl) rfl rfl .rfl ⟨⟨_, rfl, ⟨rfl, rfl, (ak _ aa.w (fun _ => rfl) (b ++ [(aa.mk e [101, 108, 115, 101])])).symm⟩⟩, trivial⟩ (by kernel_rfl) rfl ?_
 rintro _ _ ⟨rfl, rfl⟩
 refine gHR 12 (List.map aa.w f) rfl (ak _ aa.w (fun _ => rfl) f) rfl <| gDr [(11, 0)] (by kernel_rfl) rfl rfl <| gDe (by kernel_rfl) <| gR 4 rfl ?_
 subst h
 exact go_sub (F' := (mkF 365 0 [(4, .sl 1)])) (H' := ⟨2, [(1, .row 47 2 (List.map aa.w f))]⟩) [1000, 12] [] rfl hK pq1 ⟨⟨_, rfl, rfl, rfl, (ak _ aa.w (fun _ => rfl) f).symm⟩, trivial⟩ rfl <| go_endD [] ab (rs := [.tmp 4]) rfl rfl ⟨rfl, rfl⟩
theorem jP (m : Nat) (p0 : List aa) (p1 : Tree) (r0 : List aa) (h : ((p1.kind = 20) → kr m p0 p1 r0) ∧ ((p1.kind ≠ 20) → gn m p0 p1 r0)) : gA (m + 1) p0 p1 r0 := by
 intro K hK
 refine gR 6 rfl <| qBeZ 284 285 rfl rfl rfl rfl h (fun h => ?_) fun h => ?_
 exact gR 1 rfl <| gJ (h K hK) [0] [] rfl hK pq2 ⟨⟨_, rfl, rfl, rfl, (ak _ aa.w (fun _ => rfl) p0).symm⟩, trivial⟩ rfl
 exact gR 1 rfl <| gJ (h K hK) [0] [] rfl hK pq3 ⟨⟨_, rfl, rfl, rfl, (ak _ aa.w (fun _ => rfl) p0).symm⟩, trivial⟩ rfl
theorem nG (m : Nat) (p0 : List aa) (p1 : Tree) (r0 : List aa) (h : ∃ b, ah p1 0 b ∧ ∃ c, ah p1 1 c ∧ ∃ d, ah p1 2 d ∧ (p0 ++ [(aa.mk b [108, 101, 116]), (aa.mk c p1.text), (aa.mk d [61])]).length ≤ 1000000000 ∧ ∃ i, p1.kids[0]? = some i ∧ ∃ a, ai (p0 ++ [(aa.mk b [108, 101, 116]), (aa.mk c p1.text), (aa.mk d [61])]) i a ∧ ∃ e, ah p1 3 e ∧ (a ++ [(aa.mk e [105, 110])]).length ≤ 1000000000 ∧ ∃ j, p1.kids[1]? = some j ∧ ∃ g, ai (a ++ [(aa.mk e [105, 110])]) j g ∧ g = r0) : kr (m + 1) p0 p1 r0 := by
 intro K hK
 refine gR 1 rfl <| gDs [] 15 15 rfl (by kernel_rfl) (by kernel_rfl) <| gDr [(0, 2), (1, 2), (4, 2), (6, 2), (7, 2), (9, 2)] (by kernel_rfl) rfl rfl ?_
 obtain ⟨b, hs159, h⟩ := h
 refine aW 2 hs159 (by kernel_rfl) rfl (by kernel_rfl) rfl rfl .rfl rfl rfl ?_
 refine gDr [(3, 2)] (by kernel_rfl) rfl rfl ?_
 obtain ⟨c, hs160, h⟩ := h
 refine aW 5 hs160 (by kernel_rfl) rfl (by kernel_rfl) rfl rfl .rfl rfl rfl ?_
 refine gDr [(8, 2)] (by kernel_rfl) rfl rfl ?_
 obtain ⟨d, hs161, h⟩ := h
 refine aW 10 hs161 (by kernel_rfl) rfl (by kernel_rfl) rfl rfl .rfl rfl rfl ?_
 refine gDr [(11, 0), (12, 0)] (by kernel_rfl) rfl rfl ?_
 obtain ⟨hb, h⟩ := h
 refine bY 13 (.repl 0 (.row 47 2 (List.map aa.w (p0 ++ [(aa.mk b [108, 101, 116]), (aa.mk c p1.text), (aa.mk d [61])])))) rfl (by kernel_rfl) (bP ab rfl rfl rfl rfl rfl (List.map_append (f := aa.w) (l₁ := p0) (l₂ := [(aa.mk b [108, 101, 116]), (aa.mk c p1.text), (aa.mk d [61])])).symm (by rw [aP]; exact hb)) (okR rfl) rfl (by kernel_rfl) rfl rfl ?_
 refine gDr [(14, 0)] (by kernel_rfl) rfl rfl <| gDe (by kernel_rfl) <| gR 2 rfl <| gDs [] 12 12 rfl (by kernel_rfl) (by kernel_rfl) <| gDr [(0, 2), (1, 2), (2, 2)] (by kernel_rfl) rfl rfl ?_
 obtain ⟨i, hxt25_4, h⟩ := h
 refine gYd 3 rfl (by kernel_rfl) (bc (aw hxt25_4) ab rfl rfl rfl rfl) rfl rfl <| gDr [(4, 2), (6, 2)] (by kernel_rfl) rfl rfl ?_
 obtain ⟨a, hs162, h⟩ := h
 refine gDC 5 hs162 [2] (by kernel_rfl) rfl (by kernel_rfl) rfl rfl .rfl ⟨⟨_, rfl, ⟨rfl, rfl, (ak _ aa.w (fun _ => rfl) (p0 ++ [(aa.mk b [108, 101, 116]), (aa.mk c p1.text), (aa.mk d [61])])).symm⟩⟩, trivial⟩ (by kernel_rfl) rfl ?_
 rintro _ _ ⟨rfl, rfl⟩
 refine gHR 4 (List.map aa.w a) rfl (ak _ aa.w (fun _ => rfl) a) rfl ?_
 obtain ⟨e, hs163, h⟩ := h
 refine aW 7 hs163 (by kernel_rfl) rfl (by kernel_rfl) rfl rfl .rfl rfl rfl ?_
 refine gDr [(8, 0), (9, 0)] (by kernel_rfl) rfl rfl ?_
 obtain ⟨hb, h⟩ := h
 refine bY 10 (.repl 4 (.row 47 2 (List.map aa.w (a ++ [(aa.mk e [105, 110])])))) rfl (by kernel_rfl) (bP ab rfl rfl rfl rfl rfl (apM aa.w a (aa.mk e [105, 110])) (by rw [aP]; exact hb)) (okR rfl) rfl (by kernel_rfl) rfl rfl ?_
 refine gDr [(11, 0)] (by kernel_rfl) rfl rfl <| gDe (by kernel_rfl) <| gR 6 rfl ?_
 obtain ⟨j, hxt25_7, h⟩ := h
 refine gY (bc (aw hxt25_7) ab rfl rfl rfl rfl) rfl rfl <| gR 1 rfl ?_
 obtain ⟨g, hs164, h⟩ := h
 refine gC hs164 [6] (by kernel_rfl) rfl rfl .rfl ⟨⟨_, rfl, ⟨rfl, rfl, (ak _ aa.w (fun _ => rfl) (a ++ [(aa.mk e [105, 110])])).symm⟩⟩, trivial⟩ rfl ?_
 rintro _ _ ⟨rfl, rfl⟩
 refine gHR 8 (List.map aa.w g) rfl (ak _ aa.w (fun _ => rfl) g) rfl <| gR 6 rfl ?_
 subst h
 exact go_sub (F' := (mkF 365 0 [(4, .sl 1)])) (H' := ⟨2, [(1, .row 47 2 (List.map aa.w g))]⟩) [1000, 8] [] rfl hK pq1 ⟨⟨_, rfl, rfl, rfl, (ak _ aa.w (fun _ => rfl) g).symm⟩, trivial⟩ rfl <| go_endD [] ab (rs := [.tmp 4]) rfl rfl ⟨rfl, rfl⟩
theorem jG (m : Nat) (p0 : List aa) (p1 : Tree) (r0 : List aa) (h : ((p1.kind = 21) → kl m p0 p1 r0) ∧ ((p1.kind ≠ 21) → gI m p0 p1 r0)) : gn (m + 1) p0 p1 r0 := by
 intro K hK
 refine gR 6 rfl <| qBeZ 317 318 rfl rfl rfl rfl h (fun h => ?_) fun h => ?_
 exact gR 1 rfl <| gJ (h K hK) [0] [] rfl hK pq2 ⟨⟨_, rfl, rfl, rfl, (ak _ aa.w (fun _ => rfl) p0).symm⟩, trivial⟩ rfl
 exact gR 1 rfl <| gJ (h K hK) [0] [] rfl hK pq3 ⟨⟨_, rfl, rfl, rfl, (ak _ aa.w (fun _ => rfl) p0).symm⟩, trivial⟩ rfl
theorem nJ (m : Nat) (p0 : List aa) (p1 : Tree) (r0 : List aa) (h : ∃ d, p1.kids[0]? = some d ∧ ∃ a, ai p0 d a ∧ ∃ b, ah p1 0 b ∧ (a ++ [(aa.mk b p1.text)]).length ≤ 1000000000 ∧ ∃ e, p1.kids[1]? = some e ∧ ∃ c, ai (a ++ [(aa.mk b p1.text)]) e c ∧ c = r0) : kl (m + 1) p0 p1 r0 := by
 intro K hK
 refine gR 1 rfl <| gDs [] 14 14 rfl (by kernel_rfl) (by kernel_rfl) <| gDr [(0, 2), (1, 2), (2, 2)] (by kernel_rfl) rfl rfl ?_
 obtain ⟨d, hxt27_1, h⟩ := h
 refine gYd 3 rfl (by kernel_rfl) (bc (aw hxt27_1) ab rfl rfl rfl rfl) rfl rfl <| gDr [(4, 2), (6, 2), (8, 2), (9, 2)] (by kernel_rfl) rfl rfl ?_
 obtain ⟨a, hs165, h⟩ := h
 refine gDC 5 hs165 [0] (by kernel_rfl) rfl (by kernel_rfl) rfl rfl .rfl ⟨⟨_, rfl, ⟨rfl, rfl, (ak _ aa.w (fun _ => rfl) p0).symm⟩⟩, trivial⟩ (by kernel_rfl) rfl ?_
 rintro _ _ ⟨rfl, rfl⟩
 refine gHR 2 (List.map aa.w a) rfl (ak _ aa.w (fun _ => rfl) a) rfl ?_
 obtain ⟨b, hs166, h⟩ := h
 refine aW 7 hs166 (by kernel_rfl) rfl (by kernel_rfl) rfl rfl .rfl rfl rfl ?_
 refine gDr [(10, 0), (11, 0)] (by kernel_rfl) rfl rfl ?_
 obtain ⟨hb, h⟩ := h
 refine bY 12 (.repl 2 (.row 47 2 (List.map aa.w (a ++ [(aa.mk b p1.text)])))) rfl (by kernel_rfl) (bP ab rfl rfl rfl rfl rfl (apM aa.w a (aa.mk b p1.text)) (by rw [aP]; exact hb)) (okR rfl) rfl (by kernel_rfl) rfl rfl ?_
 refine gDr [(13, 0)] (by kernel_rfl) rfl rfl <| gDe (by kernel_rfl) <| gR 6 rfl ?_
 obtain ⟨e, hxt27_4, h⟩ := h
 refine gY (bc (aw hxt27_4) ab rfl rfl rfl rfl) rfl rfl <| gR 1 rfl ?_
 obtain ⟨c, hs167, h⟩ := h
 refine gC hs167 [4] (by kernel_rfl) rfl rfl .rfl ⟨⟨_, rfl, ⟨rfl, rfl, (ak _ aa.w (fun _ => rfl) (a ++ [(aa.mk b p1.text)])).symm⟩⟩, trivial⟩ rfl ?_
 rintro _ _ ⟨rfl, rfl⟩
 refine gHR 6 (List.map aa.w c) rfl (ak _ aa.w (fun _ => rfl) c) rfl <| gR 6 rfl ?_
 subst h
 exact go_sub (F' := (mkF 365 0 [(4, .sl 1)])) (H' := ⟨2, [(1, .row 47 2 (List.map aa.w c))]⟩) [1000, 6] [] rfl hK pq1 ⟨⟨_, rfl, rfl, rfl, (ak _ aa.w (fun _ => rfl) c).symm⟩, trivial⟩ rfl <| go_endD [] ab (rs := [.tmp 4]) rfl rfl ⟨rfl, rfl⟩
theorem jQ (m : Nat) (p0 : List aa) (p1 : Tree) (r0 : List aa) (h : ((p1.kind = 22) → jZ m p0 p1 r0) ∧ ((p1.kind ≠ 22) → ∃ a, ah p1 0 a ∧ (p0 ++ [(aa.mk a p1.text)]).length ≤ 1000000000 ∧ (p0 ++ [(aa.mk a p1.text)]) = r0)) : gI (m + 1) p0 p1 r0 := by
 intro K hK
 refine gR 6 rfl <| qBeZ 338 339 rfl rfl rfl rfl h (fun h => ?_) fun h => ?_
 exact gR 1 rfl <| gJ (h K hK) [0] [] rfl hK pq2 ⟨⟨_, rfl, rfl, rfl, (ak _ aa.w (fun _ => rfl) p0).symm⟩, trivial⟩ rfl
 refine gR 5 rfl <| gDs [] 9 9 rfl (by kernel_rfl) (by kernel_rfl) <| gDr [(0, 2), (1, 2), (3, 2), (4, 2)] (by kernel_rfl) rfl rfl ?_
 obtain ⟨a, hs168, h⟩ := h
 refine aW 2 hs168 (by kernel_rfl) rfl (by kernel_rfl) rfl rfl .rfl rfl rfl ?_
 refine gDr [(5, 0), (6, 0)] (by kernel_rfl) rfl rfl ?_
 obtain ⟨hb, h⟩ := h
 refine bY 7 (.repl 0 (.row 47 2 (List.map aa.w (p0 ++ [(aa.mk a p1.text)])))) rfl (by kernel_rfl) (bP ab rfl rfl rfl rfl rfl (apM aa.w p0 (aa.mk a p1.text)) (by rw [aP]; exact hb)) (okR rfl) rfl (by kernel_rfl) rfl rfl ?_
 refine gDr [(8, 0)] (by kernel_rfl) rfl rfl <| gDe (by kernel_rfl) <| gR 2 rfl ?_
 subst h
 exact go_sub (F' := (mkF 365 0 [(4, .sl 1)])) (H' := ⟨2, [(1, .row 47 2 (List.map aa.w (p0 ++ [(aa.mk a p1.text)])))]⟩) [1000, 2] [] rfl hK pq1 ⟨⟨_, rfl, rfl, rfl, (ak _ aa.w (fun _ => rfl) (p0 ++ [(aa.mk a p1.text)])).symm⟩, trivial⟩ rfl <| go_endD [] ab (rs := [.tmp 4]) rfl rfl ⟨rfl, rfl⟩
theorem nK (m : Nat) (p0 : List aa) (p1 : Tree) (r0 : List aa) (h : ∃ c, ah p1 0 c ∧ (p0 ++ [(aa.mk c [40])]).length ≤ 1000000000 ∧ ∃ d, p1.kids[0]? = some d ∧ ∃ a, ai (p0 ++ [(aa.mk c [40])]) d a ∧ ∃ b, ah p1 1 b ∧ (a ++ [(aa.mk b [41])]).length ≤ 1000000000 ∧ (a ++ [(aa.mk b [41])]) = r0) : jZ (m + 1) p0 p1 r0 := by
 intro K hK
 refine gR 4 rfl ?_
 obtain ⟨c, hs169, h⟩ := h
 refine gC0 hs169 (by kernel_rfl) rfl rfl .rfl rfl <| gR 2 rfl ?_
 obtain ⟨hb, h⟩ := h
 refine gDo (.repl 0 (.row 47 2 (List.map aa.w (p0 ++ [(aa.mk c [40])])))) (bP ab rfl rfl rfl rfl rfl (apM aa.w p0 (aa.mk c [40])) (by rw [aP]; exact hb)) (okR rfl) rfl rfl rfl <| gR 4 rfl <| gDs [] 12 12 rfl (by kernel_rfl) (by kernel_rfl) <| gDr [(0, 2), (1, 2), (2, 2)] (by kernel_rfl) rfl rfl ?_
 obtain ⟨d, hxt29_2, h⟩ := h
 refine gYd 3 rfl (by kernel_rfl) (bc (aw hxt29_2) ab rfl rfl rfl rfl) rfl rfl <| gDr [(4, 2), (6, 2)] (by kernel_rfl) rfl rfl ?_
 obtain ⟨a, hs170, h⟩ := h
 refine gDC 5 hs170 [2] (by kernel_rfl) rfl (by kernel_rfl) rfl rfl .rfl ⟨⟨_, rfl, ⟨rfl, rfl, (ak _ aa.w (fun _ => rfl) (p0 ++ [(aa.mk c [40])])).symm⟩⟩, trivial⟩ (by kernel_rfl) rfl ?_
 rintro _ _ ⟨rfl, rfl⟩
 refine gHR 4 (List.map aa.w a) rfl (ak _ aa.w (fun _ => rfl) a) rfl ?_
 obtain ⟨b, hs171, h⟩ := h
 refine aW 7 hs171 (by kernel_rfl) rfl (by kernel_rfl) rfl rfl .rfl rfl rfl ?_
 refine gDr [(8, 0), (9, 0)] (by kernel_rfl) rfl rfl ?_
 obtain ⟨hb, h⟩ := h
 refine bY 10 (.repl 4 (.row 47 2 (List.map aa.w (a ++ [(aa.mk b [41])])))) rfl (by kernel_rfl) (bP ab rfl rfl rfl rfl rfl (apM aa.w a (aa.mk b [41])) (by rw [aP]; exact hb)) (okR rfl) rfl (by kernel_rfl) rfl rfl ?_
 refine gDr [(11, 0)] (by kernel_rfl) rfl rfl <| gDe (by kernel_rfl) <| gR 4 rfl ?_
 subst h
 exact go_sub (F' := (mkF 365 0 [(4, .sl 1)])) (H' := ⟨2, [(1, .row 47 2 (List.map aa.w (a ++ [(aa.mk b [41])])))]⟩) [1000, 6] [] rfl hK pq1 ⟨⟨_, rfl, rfl, rfl, (ak _ aa.w (fun _ => rfl) (a ++ [(aa.mk b [41])])).symm⟩, trivial⟩ rfl <| go_endD [] ab (rs := [.tmp 4]) rfl rfl ⟨rfl, rfl⟩
def eD (m : Nat) (p1 : Tree) (p2 p3 p4 : Int) (a : List aa) (b : Int) (r0 : List aa) : Prop := ∀ (K : Ctx) (j1 : Nat), aB K [] → m ≤ j1 → qLG K Tryz.f82 (fun u G => u = .sl 1 ∧ G = ⟨2, [(1, .row 47 2 (List.map aa.w r0))]⟩) (cL (xE (cB (ac Tryz.f82)))) [.loop (cL (xE (cB (ac Tryz.f82)))) j1, .blk 0, .seq (xA (ac Tryz.f82))] 41 (mkF 41 0 [(0, .sl 0), (2, .int .i64 p2), (3, .int .i64 p3), (4, .int .i64 p4), (6, .box (aj p1) 0), (11, .int .i64 b)]) ⟨1, [(0, .row 47 2 (List.map aa.w a))]⟩
theorem qp (m : Nat) (p0 : List aa) (p1 : Tree) (p2 p3 p4 : Int) (r0 : List aa) (h : eD m p1 p2 p3 p4 p0 p2 r0) : dS p0 p1 p2 p3 p4 r0 := by
 refine am 41 [] Tryz.func82 rfl rfl rfl (aQ rfl) fun K hK => ?_
 exact gR 3 rfl <| gFP 1 rfl rfl rfl rfl <| gR 11 rfl <| go_loop m <| gJ (h K _ hK (by omega)) [0] [] rfl hK pq6 ⟨⟨_, rfl, rfl, rfl, (ak _ aa.w (fun _ => rfl) p0).symm⟩, trivial⟩ rfl
theorem fQ (m : Nat) (p1 : Tree) (p2 p3 p4 : Int) (b : List aa) (a : Int) (r0 : List aa) (h : ((a < p3) → ((p2 < a) → InI (p4 + a) ∧ InI ((p4 + a) - p2) ∧ InI (((p4 + a) - p2) - 1) ∧ ∃ c, ah p1 (((p4 + a) - p2) - 1) c ∧ (b ++ [(aa.mk c [44])]).length ≤ 1000000000 ∧ ∃ f, a = ((f : Nat) : Int) ∧ ∃ i, p1.kids[f]? = some i ∧ ∃ d, ai (b ++ [(aa.mk c [44])]) i d ∧ InI (a + 1) ∧ eD m p1 p2 p3 p4 d (a + 1) r0) ∧ ((¬ p2 < a) → ∃ g, a = ((g : Nat) : Int) ∧ ∃ k, p1.kids[g]? = some k ∧ ∃ e, ai b k e ∧ InI (a + 1) ∧ eD m p1 p2 p3 p4 e (a + 1) r0)) ∧ ((¬ a < p3) → b = r0)) : eD (m + 1) p1 p2 p3 p4 b a r0 := by
 intro K j1 hK hj1
 obtain ⟨j1, rfl⟩ : ∃ j, j1 = j + 1 := ⟨j1 - 1, by omega⟩
 refine gR 8 rfl <| gB 15 rfl rfl rfl ?_ ?_ <;> intro hd
 replace hd := (of_decide_eq_true hd)
 replace h := h.1 hd
 refine gR 13 rfl <| gB 20 rfl rfl rfl ?_ ?_ <;> intro hd
 replace hd := (of_decide_eq_true hd)
 replace h := h.1 hd
 refine gR 6 rfl ?_
 obtain ⟨hb, h⟩ := h
 refine gR 1 rfl <| gV 25 (.int .i64 (p4 + a)) rfl (au hb rfl) rfl <| gR 1 rfl ?_
 obtain ⟨hb, h⟩ := h
 refine gR 1 rfl <| gV 27 (.int .i64 ((p4 + a) - p2)) rfl (au hb rfl) rfl ?_
 obtain ⟨hb, h⟩ := h
 refine gR 1 rfl <| gV 28 (.int .i64 (((p4 + a) - p2) - 1)) rfl (au hb rfl) rfl ?_
 obtain ⟨c, hs7, h⟩ := h
 refine gC0 hs7 (by kernel_rfl) rfl rfl .rfl rfl <| gR 2 rfl ?_
 obtain ⟨hb, h⟩ := h
 refine gDo (.repl 0 (.row 47 2 (List.map aa.w (b ++ [(aa.mk c [44])])))) (bP ab rfl rfl rfl rfl rfl (apM aa.w b (aa.mk c [44])) (by rw [aP]; exact hb)) (okR rfl) rfl rfl rfl <| gR 8 rfl ?_
 obtain ⟨f, l, h⟩ := h
 refine gV 36 (.int .i64 ((f : Nat) : Int)) rfl (jz l) rfl ?_
 obtain ⟨i, hxt1_3, h⟩ := h
 refine gY (bc (aw hxt1_3) ab rfl rfl rfl rfl) rfl rfl <| gR 1 rfl ?_
 obtain ⟨d, hs8, h⟩ := h
 refine gC hs8 [2] (by kernel_rfl) rfl rfl .rfl ⟨⟨_, rfl, ⟨rfl, rfl, (ak _ aa.w (fun _ => rfl) (b ++ [(aa.mk c [44])])).symm⟩⟩, trivial⟩ rfl ?_
 rintro _ _ ⟨rfl, rfl⟩
 refine gHR 4 (List.map aa.w d) rfl (ak _ aa.w (fun _ => rfl) d) rfl <| gR 6 rfl ?_
 obtain ⟨hb, h⟩ := h
 exact gR 1 rfl <| gV 17 (.int .i64 (a + 1)) rfl (au hb rfl) rfl <| gR 2 rfl <| go_xloop <| gJ (h K _ hK (by omega)) [4] [] rfl hK pq6 ⟨⟨_, rfl, rfl, rfl, (ak _ aa.w (fun _ => rfl) d).symm⟩, trivial⟩ rfl
 replace hd := (of_decide_eq_false hd)
 replace h := h.2 hd
 refine gR 8 rfl ?_
 obtain ⟨g, n, h⟩ := h
 refine gV 36 (.int .i64 ((g : Nat) : Int)) rfl (jz n) rfl ?_
 obtain ⟨k, hxt1_6, h⟩ := h
 refine gY (bc (aw hxt1_6) ab rfl rfl rfl rfl) rfl rfl <| gR 1 rfl ?_
 obtain ⟨e, hs9, h⟩ := h
 refine gC hs9 [0] (by kernel_rfl) rfl rfl .rfl ⟨⟨_, rfl, ⟨rfl, rfl, (ak _ aa.w (fun _ => rfl) b).symm⟩⟩, trivial⟩ rfl ?_
 rintro _ _ ⟨rfl, rfl⟩
 refine gHR 2 (List.map aa.w e) rfl (ak _ aa.w (fun _ => rfl) e) rfl <| gR 6 rfl ?_
 obtain ⟨hb, h⟩ := h
 exact gR 1 rfl <| gV 17 (.int .i64 (a + 1)) rfl (au hb rfl) rfl <| gR 2 rfl <| go_xloop <| gJ (h K _ hK (by omega)) [2] [] rfl hK pq6 ⟨⟨_, rfl, rfl, rfl, (ak _ aa.w (fun _ => rfl) e).symm⟩, trivial⟩ rfl
 replace hd := (of_decide_eq_false hd)
 replace h := h.2 hd
 refine gR 3 rfl <| go_xloopE <| gR 9 rfl ?_
 subst h
 exact go_sub (F' := (mkF 41 0 [(10, .sl 1)])) (H' := ⟨2, [(1, .row 47 2 (List.map aa.w b))]⟩) [1000, 0] [] rfl hK pq1 ⟨⟨_, rfl, rfl, rfl, (ak _ aa.w (fun _ => rfl) b).symm⟩, trivial⟩ rfl <| go_endD [] ab (rs := [.tmp 10]) rfl rfl ⟨rfl, rfl⟩
theorem lQ (m : Nat) (p0 : Tree) (p1 : Int) (r0 : List UInt8) (h : ((p1 < (p0.leads.length : Int)) → ∃ a, p1 = ((a : Nat) : Int) ∧ ∃ b, p0.leads[a]? = some b ∧ b = r0) ∧ ((¬ p1 < (p0.leads.length : Int)) → [] = r0)) : ah p0 p1 r0 := by
 refine ⟨rfl, rfl, ?_⟩
 refine am 15 [] Tryz.func81 rfl rfl rfl (aQ rfl) fun K hK => ?_
 refine gR 3 rfl <| gFP 0 rfl rfl rfl rfl <| gR 10 rfl <| gV 8 (.int .i64 (p0.leads.length : Int)) rfl (bo (aP V.str _)) rfl <| gLB 7 rfl (aP V.str _) fun hl2 => gR 3 rfl <| qBd 9 rfl rfl rfl h (fun h => ?_) fun h => ?_
 refine gR 6 rfl ?_
 obtain ⟨a, c, h⟩ := h
 refine gV 12 (.int .i64 ((a : Nat) : Int)) rfl (jz c) rfl ?_
 obtain ⟨b, hxs0_2, h⟩ := h
 refine gY (bc (mapget (f := V.str) hxs0_2) ab rfl rfl rfl rfl) rfl rfl <| gR 6 rfl ?_
 subst h
 exact go_end ab (rs := [.tmp 4]) rfl rfl rfl
 refine gR 9 rfl ?_
 subst h
 exact go_end ab (rs := [.tmp 4]) rfl rfl rfl
end Go.Proofs.YtpnpdlnpikkeaaaGreat
namespace Go.Proofs.YtpnpdlnpikkeaaaGreat
open Go.RowKit Lx Sx
theorem sum0_calls {fid : FuncId} {us : List V} {v : V} (hp1 : pureL us = true) (hp2 : v.pure = true) (h : ∀ (S : Nat → Prop) w ρ xs, LRel S w ρ us xs → Calls Tryz.prog fid xs.toArray w fun e w' => ∃ x, e = .returned x ∧ VRel S w' ρ v x ∧ Chg [] w w') : pk Tryz.prog fid us v :=
 ⟨hp1, hp2, fun S w ρ xs hr hx => (h S w ρ xs hx).mono fun e w' ⟨x, h1, h2, hc⟩ =>
  ⟨x, S, ρ, v, _, h1, rfl, hr.chg0 hc, ⟨ChgP.of0 hc, fun _ h => h, fun _ h => .inl h, fun id b hb => .inl ⟨id, hb⟩, fun id x h => by
   simp only [rY] at h
   split at h
   ·exact h
   ·cases h⟩, h2⟩⟩
theorem xk {w w' : World} (h : Ext w w') : Chg [] w w' := Chg.of_ext h []
theorem CC (l : List UInt8) (hl : l.length ≤ 281474976710656) : pk Tryz.prog 69 [.str l] (.int .i64 (aJ l : Nat)) :=
 sum0_calls rfl rfl fun S w ρ xs hx => by
  simp only [LRel] at hx
  obtain ⟨x, ys, rfl, h1, rfl⟩ := hx
  simp only [VRel] at h1; subst h1
  exact (vC l w hl).mono fun e w' ⟨h1, h2⟩ => ⟨_, h1, by simp only [VRel], h2 ▸ Chg.refl _ _⟩
theorem Ca (l : List UInt8) (hl : l.length ≤ 281474976710656) : pk Tryz.prog 75 [.str l] (.int .i64 (aJ l : Nat)) :=
 sum0_calls rfl rfl fun S w ρ xs hx => by
  simp only [LRel] at hx
  obtain ⟨x, ys, rfl, h1, rfl⟩ := hx
  simp only [VRel] at h1; subst h1
  exact (vZ l w hl).mono fun e w' ⟨h1, h2⟩ => ⟨_, h1, by simp only [VRel], xk h2⟩
end Go.Proofs.YtpnpdlnpikkeaaaGreat
namespace Go.Proofs.YtpnpdlnpikkeaaaGreat
open Go.RowKit Lx Sx
set_option maxHeartbeats 1000000
def f0 (n : Int) (least leads list : Nat) (most : Int) : Int := if 0 ≤ most ∧ most < n then -1 else if n < least then -1 else if most < 0 ∧ (list : Int) < n then leads + (n - list - 1) else leads
def bb (k n : Int) : Int := if k = 1 then (if n < 0 then -1 else 3) else if k = 2 then f0 n 2 6 2 (-1) else if k = 16 then f0 n 0 3 0 (-1) else if k = 18 then f0 n 1 2 0 (-1) else if k = 3 then f0 n 1 3 0 1 else if k = 4 then f0 n 1 2 0 1 else if k = 8 then f0 n 1 2 0 1 else if k = 22 then f0 n 1 2 0 1 else if k = 17 then f0 n 1 0 0 1 else if k = 19 then f0 n 3 3 0 3 else if k = 20 then f0 n 2 4 0 2 else if k = 21 then f0 n 2 1 0 2 else if k = 5 ∨ k = 6 ∨ k = 7 ∨ k = 9 ∨ k = 10 ∨ k = 11 ∨ k = 12 ∨ k = 13 ∨ k = 14 ∨ k = 15 then f0 n 0 1 0 0 else -1
theorem nP (a b c : Int) : eu a b c (if a < b then -1 else c) := rm 0 _ _ _ _ ⟨fun h => by rw [if_pos h], fun h => by rw [if_neg h]⟩
theorem En (a b c : Int) : bX a b c (if a = b then c else -1) := pW 0 _ _ _ _ ⟨fun h => by rw [if_pos h], fun h => by rw [if_neg h]⟩
theorem DM (m : Nat) {n : Int} (h0 : 0 ≤ n) (h1 : n ≤ 1000000000) (a b c : Nat) (z : Int) (hb : b ≤ 10) (hc : c ≤ 2) (hz : ¬ (0 ≤ z ∧ z < n)) : jd (m + 1) n a b c z (f0 n a b c z) := by
 refine sh m _ _ _ _ _ _ ⟨fun h => ⟨fun h' => ⟨by omega, by omega, by omega, _, nP _ _ _, ?_⟩, fun h' => ⟨_, nP _ _ _, ?_⟩⟩, fun h => ⟨_, nP _ _ _, ?_⟩⟩
 ·simp only [f0, if_neg hz, h, h', true_and, if_true]
 ·simp only [f0, if_neg hz, h, h', true_and, if_false]
 ·simp only [f0, if_neg hz, h, false_and, if_false]
theorem Ed (m : Nat) {n : Int} (h0 : 0 ≤ n) (h1 : n ≤ 1000000000) (a b c : Nat) (z : Int) (hb : b ≤ 10) (hc : c ≤ 2) : aI (m + 2) n a b c z (f0 n a b c z) := by
 refine sr (m + 1) _ _ _ _ _ _ ⟨fun h => ⟨fun h' => ?_, fun h' => DM m h0 h1 _ _ _ _ hb hc (by omega)⟩, fun h => DM m h0 h1 _ _ _ _ hb hc (by omega)⟩
 simp [f0, h, h']
theorem qX {k n : Int} (h0 : 0 ≤ n) (h1 : n ≤ 1000000000) : hV k n (bb k n) := by
 have l0 : ∀ {r : Int} (a b c : Nat) (z : Int), b ≤ 10 → c ≤ 2 → r = f0 n a b c z → aI 3 n a b c z r := fun a b c z hb hc e => by rw [e]; exact Ed 1 h0 h1 a b c z hb hc
 have l0' : ∀ {r : Int} (a b c : Nat) (z : Int), b ≤ 10 → c ≤ 2 → r = f0 n a b c z → aI 4 n a b c z r := fun a b c z hb hc e => by rw [e]; exact Ed 2 h0 h1 a b c z hb hc
 refine tn 4 _ _ _ ?_
 repeat' first | (refine ⟨_, nP _ _ _, ?_⟩) | (refine And.intro (fun _ => ?_) (fun _ => ?_)) | (refine se 3 _ _ _ _ ?_)
 all_goals first | (refine l0' _ _ _ _ (by decide) (by decide) ?_) | (refine l0 _ _ _ _ (by decide) (by decide) ?_) | skip
 all_goals simp_all [bb]
theorem kJ {k n : Int} (h0 : 0 ≤ n) (h1 : n ≤ 1000000000) : eh k n (bb k n) := by
 refine pm 2 _ _ _ ?_
 repeat' first | (refine ⟨_, En _ _ _, ?_⟩) | (refine And.intro (fun _ => ?_) (fun _ => ?_)) | (refine oN 1 _ _ _ _ ?_) | (refine pb 0 _ _ _ _ ?_) | (refine And.intro (by omega) ?_)
 all_goals simp_all [bb]
 all_goals (try unfold f0)
 all_goals (repeat' split)
 all_goals omega
def qT (x : List UInt8) : Bool := x == [43] || x == [45] || x == [42] || x == [60] || x == [61, 61]
def mQ (k : Int) (x : List UInt8) : Bool := if k = 1 ∨ k = 3 then (aJ x : Int) == 2 else if k = 2 ∨ k = 4 ∨ k = 12 ∨ k = 20 then (aJ x : Int) == 1 else if k = 9 then (aJ x : Int) == 2 || (aJ x : Int) == 4 else if k = 16 then (aJ x : Int) == 1 || (aJ x : Int) == 3 else if k = 10 then (aJ x : Int) == 5 else if k = 11 then (aJ x : Int) == 6 else if k = 21 then qT x else x == []
theorem yd (x : List UInt8) : jW x (qT x) := by
 refine qM 0 _ _ ?_
 repeat' (refine And.intro (fun _ => ?_) (fun _ => ?_))
 all_goals simp_all [qT]
theorem wL (x : List UInt8) : fD x (qT x) := by
 refine mW 0 _ _ ?_
 repeat' (refine And.intro (fun _ => ?_) (fun _ => ?_))
 all_goals simp_all [qT]
theorem BC (k : Int) (x : List UInt8) (hx : x.length ≤ 281474976710656) : lG k x (mQ k x) := by
 refine sq 2 _ _ _ ?_
 refine ⟨_, CC x hx, ?_⟩
 repeat' first | (refine ⟨_, yd _, ?_⟩) | (refine And.intro (fun _ => ?_) (fun _ => ?_)) | (refine rn 1 _ _ _ _ _ ?_) | (refine rh 0 _ _ _ _ _ ?_)
 all_goals simp_all [mQ]
theorem Ac (k : Int) (x : List UInt8) (hx : x.length ≤ 281474976710656) : gr k x (mQ k x) := by
 refine nI 2 _ _ _ ?_
 refine ⟨_, Ca x hx, ?_⟩
 repeat' first | (refine ⟨_, wL _, ?_⟩) | (refine And.intro (fun _ => ?_) (fun _ => ?_)) | (refine ny 1 _ _ _ _ _ ?_) | (refine nk 0 _ _ _ _ _ ?_)
 all_goals simp_all [mQ]
def mr (k : Int) : Bool := decide (5 ≤ k ∧ k ≤ 9)
def jv (k : Int) : Bool := decide (10 ≤ k ∧ k ≤ 22 ∧ k ≠ 17)
def nR (k : Int) : Bool := jv k && decide (k ≠ 19 ∧ k ≠ 20 ∧ k ≠ 21)
theorem Cf (k : Int) : iW k (mr k) := sb 0 _ _ ⟨fun h => by simp [mr, h], fun h => by simp [mr, h]⟩
theorem zX (k : Int) : fp k (mr k) := oI 0 _ _ ⟨fun h => by simp [mr, h], fun h => by simp [mr, h]⟩
theorem mZ (a b : Int) : (a != b) = decide (a ≠ b) := by by_cases h : a = b <;> simp [h]
theorem wi (k : Int) : dB k (jv k) := ov 0 _ _ ⟨fun h => ⟨fun h' => by simp [jv, h, h', mZ], fun h' => by simp [jv, h, h']⟩, fun h => by simp [jv, h]⟩
theorem tT (k : Int) : dI k (jv k) := oG 0 _ _ ⟨fun h => ⟨fun h' => by simp [jv, h, h', mZ], fun h' => by simp [jv, h, h']⟩, fun h => by simp [jv, h]⟩
theorem BG (k : Int) : lp k (nR k) := by
 refine sk 0 _ _ ⟨_, wi k, ?_⟩
 repeat' (refine And.intro (fun _ => ?_) (fun _ => ?_))
 all_goals simp_all [nR, mZ]
theorem qi (k : Int) : fi k (nR k) := by
 refine oZ 0 _ _ ⟨_, tT k, ?_⟩
 repeat' (refine And.intro (fun _ => ?_) (fun _ => ?_))
 all_goals simp_all [nR, mZ]
def mT (k n : Int) (i : Int) (kk : Int) : Bool := if k = 1 then kk == 2 || kk == 3 else if k = 2 then (if i = n - 1 then jv kk else if i = n - 2 then mr kk else kk == 4) else if k = 3 ∨ k = 4 ∨ k = 8 then mr kk else if k = 16 then kk == 17 else if k = 21 then nR kk || (decide (i = 0) && kk == 21) else jv kk
theorem Dj {t u : Tree} {i : Nat} (hu : t.kids[i]? = some u) : ma t i (mT t.kind t.kids.length i u.kind) := by
 refine ti 1 _ _ _ ⟨i, rfl, u, hu, ?_⟩
 repeat' first | (refine ⟨_, wi _, ?_⟩) | (refine ⟨_, Cf _, ?_⟩) | (refine ⟨_, BG _, ?_⟩) | (refine And.intro (fun _ => ?_) (fun _ => ?_)) | (refine rI 0 _ _ _ _ _ ?_)
 all_goals simp_all [mT]
theorem Fd (t : Tree) (i : Nat) (kk : Int) : jV t i kk (mT t.kind t.kids.length i kk) := by
 refine qr 1 _ _ _ _ ?_
 repeat' first | (refine ⟨_, tT _, ?_⟩) | (refine ⟨_, zX _, ?_⟩) | (refine ⟨_, qi _, ?_⟩) | (refine And.intro (fun _ => ?_) (fun _ => ?_)) | (refine pZ 0 _ _ _ _ _ ?_)
 all_goals simp_all [mT]
mutual
def shapeK : Tree → Bool
 | .node k s _ ks => decide (0 ≤ bb k ks.length) && mQ k s && shapeKs k ks.length 0 ks
def shapeKs (k n : Int) : Nat → List Tree → Bool
 | _, [] => true
 | i, t :: r => mT k n i t.kind && shapeK t && shapeKs k n (i + 1) r
end
theorem nU (t : Tree) : shapeK t = (decide (0 ≤ bb t.kind t.kids.length) && mQ t.kind t.text && shapeKs t.kind t.kids.length 0 t.kids) := by cases t; simp only [shapeK]; rfl
theorem sp : ∀ t : Tree, tbulk t ≤ 1000000000 → eM t (shapeK t) := dc fun t ih hb => by
 have hk := da t
 have ht := ds t
 have loop : ∀ m i, t.kids.length - i ≤ m → (0 ≤ bb t.kind t.kids.length ∧ mQ t.kind t.text = true) → iy (m + 1) t i (shapeKs t.kind t.kids.length i (t.kids.drop i)) := fun m => by
  induction m with
  | zero =>
   intro i hi hw
   refine mP 0 _ _ _ ⟨fun h => by omega, fun h => ?_⟩
   rw [List.drop_of_length_le (by omega), shapeKs]
  | succ m ihm =>
   intro i hi hw
   refine mP (m + 1) _ _ _ ⟨fun h => ?_, fun h => ?_⟩
   ·obtain ⟨u, hu, _⟩ | h' := aH t.kids i
    ·rw [bE hu, shapeKs]
     have hbu := cJ hu
     refine ⟨u, hu, _, Dj hu, fun h1 => by simp [h1], fun h1 => ⟨_, ih i u hu (by omega), fun h2 => by simp [h1, h2], fun h2 => ⟨by omega, ?_⟩⟩⟩
     simp only [h1, h2, Bool.true_and]
     exact ihm (i + 1) (by omega) hw
    ·exact absurd h h'
   ·rw [List.drop_of_length_le (by omega), shapeKs]
 rw [nU]
 refine si (t.kids.length + 1) _ _ ⟨_, qX (by omega) (by omega), fun h => ?_, fun h => ⟨_, BC _ _ (by omega), fun h1 => by simp [h1], fun h1 => ?_⟩⟩
 ·rw [decide_eq_false (by omega)]; rfl
 ·rw [decide_eq_true (by omega), h1]
  exact loop _ 0 (by omega) ⟨by omega, h1⟩
theorem mF : ∀ t : Tree, tbulk t ≤ 1000000000 → cR t (shapeK t) := dc fun t ih hb => by
 have hk := da t
 have ht := ds t
 have loop : ∀ m i, t.kids.length - i ≤ m → eP (m + 1) t i (shapeKs t.kind t.kids.length i (t.kids.drop i)) := fun m => by
  induction m with
  | zero =>
   intro i hi
   refine kn 0 _ _ _ ⟨fun h => by omega, fun h => ?_⟩
   rw [List.drop_of_length_le (by omega), shapeKs]
  | succ m ihm =>
   intro i hi
   refine kn (m + 1) _ _ _ ⟨fun h => ?_, fun h => ?_⟩
   ·obtain ⟨u, hu, _⟩ | h' := aH t.kids i
    ·rw [bE hu, shapeKs]
     have hbu := cJ hu
     refine ⟨u, hu, _, Fd _ _ _, fun h1 => by simp [h1], fun h1 => ⟨u, hu, _, ih i u hu (by omega), fun h2 => by simp [h1, h2], fun h2 => ?_⟩⟩
     simp only [h1, h2, Bool.true_and]
     exact ihm (i + 1) (by omega)
    ·exact absurd h h'
   ·rw [List.drop_of_length_le (by omega), shapeKs]
 rw [nU]
 refine oW (t.kids.length + 1) _ _ ⟨_, kJ (by omega) (by omega), fun h => ?_, fun h => ⟨_, Ac _ _ (by omega), fun h1 => by simp [h1], fun h1 => ?_⟩⟩
 ·rw [decide_eq_false (by omega)]; rfl
 ·rw [decide_eq_true (by omega), h1]
  exact loop _ 0 (by omega)
end Go.Proofs.YtpnpdlnpikkeaaaGreat
namespace Go.Proofs.YtpnpdlnpikkeaaaGreat
open Go.RowKit Lx Sx
set_option maxHeartbeats 1000000
def Dc (L : List Int) (a : Int) : Prop := 0 ≤ a ∧ a ≤ L.length ∧ L.length ≤ 1000000000
theorem EY {a n : Int} (hn : 0 < n) (hn2 : n ≤ 1000000000) : ∃ r, kH a n r ∧ 0 ≤ r ∧ r < n := by
 have h1 := Int.lt_tmod_of_pos a hn
 have h2 := Int.tmod_lt_of_pos a hn
 by_cases h : Int.tmod a n < 0
 ·exact ⟨_, mN 0 _ _ _ ⟨by omega, fun _ => ⟨by omega, rfl⟩, fun h' => absurd h h'⟩, by omega, by omega⟩
 ·exact ⟨_, mN 0 _ _ _ ⟨by omega, fun h' => absurd h' h, fun _ => rfl⟩, by omega, by omega⟩
theorem eI {L : List Int} {a n : Int} (hd : Dc L a) (hn : 0 < n) (hn2 : n ≤ 1000000000) : ∃ r a', aC L a n r L a' ∧ (0 ≤ r ∧ r < n) ∧ Dc L a' := by
 obtain ⟨h0, h1, h2⟩ := hd
 by_cases h : (L.length : Int) ≤ a
 ·exact ⟨0, a, jH 0 _ _ _ _ _ _ ⟨fun _ => ⟨rfl, rfl, rfl⟩, fun h' => absurd h h'⟩, by omega, h0, h1, h2⟩
 ·obtain ⟨x, hx, _⟩ | h' := aH L a.toNat
  ·obtain ⟨r, hr, hr1⟩ := EY (a := x) hn hn2
   exact ⟨r, a + 1, jH 0 _ _ _ _ _ _ ⟨fun h' => absurd h' h, fun _ => ⟨by omega, by omega, a.toNat, by omega, x, hx, r, hr, rfl, rfl, rfl⟩⟩, hr1, by omega, by omega, h2⟩
  ·omega
theorem ii {L : List Int} {a : Int} (hd : Dc L a) (l : List (List UInt8)) (hl : 0 < l.length) (hl2 : l.length ≤ 1000000000) : ∃ s a', aZ L a l s L a' ∧ s ∈ l ∧ Dc L a' := by
 obtain ⟨r, a', h1, h2, h3⟩ := eI hd (n := (l.length : Int)) (by omega) (by omega)
 obtain ⟨x, hx, _⟩ | h' := aH l r.toNat
 ·exact ⟨x, a', qu 0 _ _ _ _ _ _ ⟨_, _, _, h1, r.toNat, by omega, x, hx, rfl, rfl, rfl⟩, List.mem_of_getElem? hx, h3⟩
 ·omega
def Gt (L : List Int) (C : Tree → Int → Prop) (B : Nat) : Prop := ∃ t a', C t a' ∧ Dc L a' ∧ tbulk t ≤ B
theorem Gt.map {L : List Int} {C C' : Tree → Int → Prop} {B B' : Nat} (h : Gt L C B) (hb : B ≤ B') (k : ∀ t a', C t a' → C' t a') : Gt L C' B' := by
 obtain ⟨t, a', h1, h2, h3⟩ := h; exact ⟨t, a', k t a' h1, h2, by omega⟩
theorem fZ {l : List (List UInt8)} {s : List UInt8} (h : s ∈ l) (hl : l.all (fun x => decide (x.length ≤ 5)) = true) : s.length ≤ 5 := by
 have := List.all_eq_true.1 hl s h; simpa using this
theorem tb0 (k : Int) (s : List UInt8) : tbulk (.node k s [] []) = s.length + 1 := by simp [tbulk, lsum, kbulk]
theorem tb1 (k : Int) (s : List UInt8) (t : Tree) : tbulk (.node k s [] [t]) = s.length + tbulk t + 1 := by simp [tbulk, lsum, kbulk]
theorem tb2 (k : Int) (s : List UInt8) (t u : Tree) : tbulk (.node k s [] [t, u]) = s.length + tbulk t + tbulk u + 1 := by simp [tbulk, lsum, kbulk]; omega
theorem tb3 (k : Int) (s : List UInt8) (t u v : Tree) : tbulk (.node k s [] [t, u, v]) = s.length + tbulk t + tbulk u + tbulk v + 1 := by simp [tbulk, lsum, kbulk]; omega
theorem tbK (k : Int) (s : List UInt8) (l : List Tree) : tbulk (.node k s [] l) = s.length + kbulk l + 1 := by simp [tbulk, lsum]
theorem yu {L : List Int} : ∀ (d : Nat) {a : Int}, Dc L a → d ≤ 100 → Gt L (fun t a' => cm L a d t L a') (6 + d) := fun d => by
 induction d with
 | zero =>
  intro a hd _
  obtain ⟨r, a1, h1, h2, h3⟩ := eI hd (n := 7) (by omega) (by omega)
  have top : ∀ {t a'}, fc 1 0 r L a1 false t L a' → r ≠ 0 → r ≠ 1 → cm L a 0 t L a' := fun h n0 n1 => gP 1 _ _ _ _ _ _ ⟨_, _, _, h1, fun e => absurd e n0, fun _ => by rw [show (r == 1) = false by simpa using n1]; exact h⟩
  by_cases e0 : r = 0 ∨ r = 1
  ·refine ⟨_, a1, gP 1 _ _ _ _ _ _ ⟨_, _, _, h1, fun e => bk 0 _ _ _ _ _ _ _ _ ⟨fun _ => ⟨rfl, rfl, rfl⟩, fun h => nomatch h⟩, fun e => bk 0 _ _ _ _ _ _ _ _ ⟨fun _ => ⟨rfl, rfl, rfl⟩, fun h => ?_⟩⟩, h3, by rw [tb0]; simp only [List.length_nil]; omega⟩
   rcases e0 with e0 | e0
   ·exact absurd e0 e
   ·rw [e0] at h; cases h
  ·by_cases e2 : r = 2
   ·exact ⟨_, a1, top (bk 0 _ _ _ _ _ _ _ _ ⟨fun h => (nomatch h), fun _ => ⟨fun _ => ⟨rfl, rfl, rfl⟩, fun h => absurd e2 h⟩⟩) (by omega) (by omega), h3, by rw [tb0]; simp only [List.length_nil]; omega⟩
   ·by_cases e3 : r = 3
    ·exact ⟨_, a1, top (bk 0 _ _ _ _ _ _ _ _ ⟨fun h => (nomatch h), fun _ => ⟨fun h => absurd h e2, fun _ => ⟨fun _ => ⟨rfl, rfl, rfl⟩, fun h => absurd e3 h⟩⟩⟩) (by omega) (by omega), h3, by rw [tb0]; simp only [List.length_nil]; omega⟩
    ·by_cases e4 : r = 4
     ·obtain ⟨s, a2, g1, g2, g3⟩ := ii h3 [[84], [85], [65, 46, 84], [66, 46, 85]] (by decide) (by decide)
      have := fZ g2 (by decide)
      exact ⟨_, a2, top (bk 0 _ _ _ _ _ _ _ _ ⟨fun h => (nomatch h), fun _ => ⟨fun h => absurd h e2, fun _ => ⟨fun h => absurd h e3, fun _ => ⟨fun _ => ⟨_, _, _, g1, rfl, rfl, rfl⟩, fun h => absurd e4 h⟩⟩⟩⟩) (by omega) (by omega), g3, by rw [tb0]; omega⟩
     ·exact ⟨_, a1, top (bk 0 _ _ _ _ _ _ _ _ ⟨fun h => (nomatch h), fun _ => ⟨fun h => absurd h e2, fun _ => ⟨fun h => absurd h e3, fun _ => ⟨fun h => absurd h e4, fun _ => ⟨fun _ => ⟨rfl, rfl, rfl⟩, fun h => by omega⟩⟩⟩⟩⟩) (by omega) (by omega), h3, by rw [tb0]; simp only [List.length_nil]; omega⟩
 | succ d ih =>
  intro a hd hd100
  obtain ⟨r, a1, h1, h2, h3⟩ := eI hd (n := 7) (by omega) (by omega)
  have top : ∀ {t a'}, fc 1 ((d + 1 : Nat) : Int) r L a1 false t L a' → r ≠ 0 → r ≠ 1 → cm L a ((d + 1 : Nat) : Int) t L a' := fun h n0 n1 => gP 1 _ _ _ _ _ _ ⟨_, _, _, h1, fun e => absurd e n0, fun _ => by rw [show (r == 1) = false by simpa using n1]; exact h⟩
  by_cases e0 : r = 0 ∨ r = 1
  ·refine ⟨_, a1, gP 1 _ _ _ _ _ _ ⟨_, _, _, h1, fun e => bk 0 _ _ _ _ _ _ _ _ ⟨fun _ => ⟨rfl, rfl, rfl⟩, fun h => nomatch h⟩, fun e => bk 0 _ _ _ _ _ _ _ _ ⟨fun _ => ⟨rfl, rfl, rfl⟩, fun h => ?_⟩⟩, h3, by rw [tb0]; simp only [List.length_nil]; omega⟩
   rcases e0 with e0 | e0
   ·exact absurd e0 e
   ·rw [e0] at h; cases h
  ·by_cases e2 : r = 2
   ·exact ⟨_, a1, top (bk 0 _ _ _ _ _ _ _ _ ⟨fun h => (nomatch h), fun _ => ⟨fun _ => ⟨rfl, rfl, rfl⟩, fun h => absurd e2 h⟩⟩) (by omega) (by omega), h3, by rw [tb0]; simp only [List.length_nil]; omega⟩
   ·by_cases e3 : r = 3
    ·exact ⟨_, a1, top (bk 0 _ _ _ _ _ _ _ _ ⟨fun h => (nomatch h), fun _ => ⟨fun h => absurd h e2, fun _ => ⟨fun _ => ⟨rfl, rfl, rfl⟩, fun h => absurd e3 h⟩⟩⟩) (by omega) (by omega), h3, by rw [tb0]; simp only [List.length_nil]; omega⟩
    ·by_cases e4 : r = 4
     ·obtain ⟨s, a2, g1, g2, g3⟩ := ii h3 [[84], [85], [65, 46, 84], [66, 46, 85]] (by decide) (by decide)
      have := fZ g2 (by decide)
      exact ⟨_, a2, top (bk 0 _ _ _ _ _ _ _ _ ⟨fun h => (nomatch h), fun _ => ⟨fun h => absurd h e2, fun _ => ⟨fun h => absurd h e3, fun _ => ⟨fun _ => ⟨_, _, _, g1, rfl, rfl, rfl⟩, fun h => absurd e4 h⟩⟩⟩⟩) (by omega) (by omega), g3, by rw [tb0]; omega⟩
     ·obtain ⟨t, a2, g1, g2, g3⟩ := ih h3 (by omega)
      have g1' : cm L a1 (((d + 1 : Nat) : Int) - 1) t L a2 := by rw [show ((d + 1 : Nat) : Int) - 1 = (d : Int) by omega]; exact g1
      exact ⟨_, a2, top (bk 0 _ _ _ _ _ _ _ _ ⟨fun h => (nomatch h), fun _ => ⟨fun h => absurd h e2, fun _ => ⟨fun h => absurd h e3, fun _ => ⟨fun h => absurd h e4, fun _ => ⟨fun h => by omega, fun _ => ⟨by omega, _, _, _, g1', rfl, rfl, rfl⟩⟩⟩⟩⟩⟩) (by omega) (by omega), g2, by rw [tb1]; simp only [List.length_nil]; omega⟩
def eB : Nat → Nat
 | 0 => 6
 | d + 1 => 3 * eB d + 20
section
variable {L : List Int} {d a z : Int} {t : Tree} {a' : Int} {m : Nat}
theorem up2 (h0 : z ≠ 0) (h1 : z ≠ 1) (h : gk m d L a z t L a') : ch (m + 2) d L a z t L a' :=
 rL0_semvcsmake_Expr (m + 1) _ _ _ _ _ _ _ ⟨fun e => absurd e h0, fun _ => iP m _ _ _ _ _ _ _ _ ⟨fun e => absurd (eq_of_beq e) h1, fun _ => h⟩⟩
theorem up6 (h2 : z ≠ 2) (h3 : z ≠ 3) (h4 : z ≠ 4) (h5 : z ≠ 5) (h : gm m d L a z t L a') : gk (m + 4) d L a z t L a' :=
 rL2_semvcsmake_Expr (m + 3) _ _ _ _ _ _ _ ⟨fun e => absurd e h2, fun _ => ej (m + 2) _ _ _ _ _ _ _ ⟨fun e => absurd e h3, fun _ => fK (m + 1) _ _ _ _ _ _ _ ⟨fun e => absurd e h4, fun _ => iL m _ _ _ _ _ _ _ ⟨fun e => absurd e h5, fun _ => h⟩⟩⟩⟩
theorem up9 (h6 : z ≠ 6) (h7 : z ≠ 7) (h : eK m d L a z t L a') : gm (m + 2) d L a z t L a' :=
 rL6_semvcsmake_Expr (m + 1) _ _ _ _ _ _ _ ⟨fun e => absurd e h6, fun _ => iN m _ _ _ _ _ _ _ _ ⟨fun e => absurd (eq_of_beq e) h7, fun _ => h⟩⟩
theorem DQ (h8 : z ≠ 8) (h : fM m d L a z t L a') : eK (m + 1) d L a z t L a' := lP m _ _ _ _ _ _ _ ⟨fun e => absurd e h8, fun _ => h⟩
theorem FL (h9 : z ≠ 9) (h : ec m d L a z t L a') : fM (m + 1) d L a z t L a' := lv m _ _ _ _ _ _ _ ⟨fun e => absurd e h9, fun _ => h⟩
theorem Ga (h10 : z ≠ 10) (h11 : z ≠ 11) (h : fJ m d L a z t L a') : ec (m + 2) d L a z t L a' :=
 rL14_semvcsmake_Expr (m + 1) _ _ _ _ _ _ _ ⟨fun e => absurd e h10, fun _ => iw m _ _ _ _ _ _ _ _ ⟨fun e => absurd (eq_of_beq e) h11, fun _ => h⟩⟩
end
theorem tg {L : List Int} {d a z : Int} (M : Nat) (hd : Dc L a) (h0 : 0 ≤ z) (h5 : z ≤ 5) : Gt L (fun t a' => ch (M + 8) d L a z t L a') 6 := by
 by_cases e0 : z = 0 ∨ z = 1
 ·obtain ⟨s, a2, g1, g2, g3⟩ := ii hd [[120], [121], [122]] (by decide) (by decide)
  have := fZ g2 (by decide)
  refine ⟨_, a2, rL0_semvcsmake_Expr (M + 7) _ _ _ _ _ _ _ ⟨fun e => iP (M + 6) _ _ _ _ _ _ _ _ ⟨fun _ => ⟨_, _, _, g1, rfl, rfl, rfl⟩, fun h => nomatch h⟩, fun e => iP (M + 6) _ _ _ _ _ _ _ _ ⟨fun _ => ⟨_, _, _, g1, rfl, rfl, rfl⟩, fun h => ?_⟩⟩, g3, by rw [tb0]; omega⟩
  rcases e0 with e0 | e0
  ·exact absurd e0 e
  ·rw [e0] at h; exact absurd h (by decide)
 have n0 : z ≠ 0 := by omega
 have n1 : z ≠ 1 := by omega
 by_cases e2 : z = 2
 ·obtain ⟨s, a2, g1, g2, g3⟩ := ii hd [[48], [49], [50], [49, 48]] (by decide) (by decide)
  have := fZ g2 (by decide)
  exact ⟨_, a2, up2 n0 n1 (rL2_semvcsmake_Expr (M + 5) _ _ _ _ _ _ _ ⟨fun _ => ⟨_, _, _, g1, rfl, rfl, rfl⟩, fun h => absurd e2 h⟩), g3, by rw [tb0]; omega⟩
 by_cases e3 : z = 3
 ·obtain ⟨s, a2, g1, g2, g3⟩ := ii hd [[34, 34], [34, 97, 34], [34, 35, 32, 98, 34]] (by decide) (by decide)
  have := fZ g2 (by decide)
  exact ⟨_, a2, up2 n0 n1 (rL2_semvcsmake_Expr (M + 5) _ _ _ _ _ _ _ ⟨fun h => absurd h e2, fun _ => ej (M + 4) _ _ _ _ _ _ _ ⟨fun _ => ⟨_, _, _, g1, rfl, rfl, rfl⟩, fun h => absurd e3 h⟩⟩), g3, by rw [tb0]; omega⟩
 by_cases e4 : z = 4
 ·obtain ⟨r, a2, g1, g2, g3⟩ := eI hd (n := 2) (by omega) (by omega)
  exact ⟨_, a2, up2 n0 n1 (rL2_semvcsmake_Expr (M + 5) _ _ _ _ _ _ _ ⟨fun h => absurd h e2, fun _ => ej (M + 4) _ _ _ _ _ _ _ ⟨fun h => absurd h e3, fun _ => fK (M + 3) _ _ _ _ _ _ _ ⟨fun _ => ⟨_, _, _, g1, by omega, rfl, rfl, rfl⟩, fun h => absurd e4 h⟩⟩⟩), g3, by rw [tb0]; simp only [List.length_nil]; omega⟩
 have e5 : z = 5 := by omega
 obtain ⟨r, a2, g1, g2, g3⟩ := eI hd (n := 3) (by omega) (by omega)
 by_cases er : r = 0
 ·exact ⟨_, a2, up2 n0 n1 (rL2_semvcsmake_Expr (M + 5) _ _ _ _ _ _ _ ⟨fun h => absurd h e2, fun _ => ej (M + 4) _ _ _ _ _ _ _ ⟨fun h => absurd h e3, fun _ => fK (M + 3) _ _ _ _ _ _ _ ⟨fun h => absurd h e4, fun _ => iL (M + 2) _ _ _ _ _ _ _ ⟨fun _ => ⟨_, _, _, g1, fun _ => ⟨rfl, rfl, rfl⟩, fun h => absurd er h⟩, fun h => absurd e5 h⟩⟩⟩⟩), g3, by rw [tb0]; simp only [List.length_nil]; omega⟩
 ·exact ⟨_, a2, up2 n0 n1 (rL2_semvcsmake_Expr (M + 5) _ _ _ _ _ _ _ ⟨fun h => absurd h e2, fun _ => ej (M + 4) _ _ _ _ _ _ _ ⟨fun h => absurd h e3, fun _ => fK (M + 3) _ _ _ _ _ _ _ ⟨fun h => absurd h e4, fun _ => iL (M + 2) _ _ _ _ _ _ _ ⟨fun _ => ⟨_, _, _, g1, fun h => absurd h er, fun _ => ⟨rfl, rfl, rfl⟩⟩, fun h => absurd e5 h⟩⟩⟩⟩), g3, by rw [tb0]; simp⟩
theorem wV {L : List Int} {a : Int} (hd : Dc L a) : Gt L (fun t a' => aK L a 0 t L a') 6 := by
 obtain ⟨r, a1, h1, h2, h3⟩ := eI hd (n := 14) (by omega) (by omega)
 by_cases e1 : 5 < r
 ·by_cases e2 : 5 < r - 6
  ·exact (tg 0 (d := 0) h3 (z := 0) (by omega) (by omega)).map (Nat.le_refl _) fun t a' h => gj 8 _ _ _ _ _ _ ⟨_, _, _, h1, fun _ => ⟨fun _ => ⟨by omega, fun _ => h, fun h' => absurd e2 h'⟩, fun h' => absurd e1 h'⟩, fun h' => by omega⟩
  ·exact (tg 0 (d := 0) h3 (z := r - 6) (by omega) (by omega)).map (Nat.le_refl _) fun t a' h => gj 8 _ _ _ _ _ _ ⟨_, _, _, h1, fun _ => ⟨fun _ => ⟨by omega, fun h' => absurd h' e2, fun _ => h⟩, fun h' => absurd e1 h'⟩, fun h' => by omega⟩
 ·exact (tg 0 (d := 0) h3 (z := r) (by omega) (by omega)).map (Nat.le_refl _) fun t a' h => gj 8 _ _ _ _ _ _ ⟨_, _, _, h1, fun _ => ⟨fun h' => absurd h' e1, fun _ => h⟩, fun h' => by omega⟩
theorem sX {L : List Int} {k : Int} {B : Nat} {a : Int} (h : Gt L (fun t a' => aK L a k t L a') B) : Gt L (fun t a' => dP L a k t L a') (B + 1) := by
 obtain ⟨t, a2, g1, g2, g3⟩ := h
 cases hu : nR t.kind with
 | true => exact ⟨t, a2, mJ 0 _ _ _ _ _ _ ⟨_, _, _, g1, _, qi _, fun h => absurd (hu.symm.trans h) (by decide), fun _ => ⟨rfl, rfl, rfl⟩⟩, g2, by omega⟩
 | false => exact ⟨_, a2, mJ 0 _ _ _ _ _ _ ⟨_, _, _, g1, _, qi _, fun _ => ⟨rfl, rfl, rfl⟩, fun h => absurd (hu.symm.trans h) (by decide)⟩, g2, by rw [tb1]; simp only [List.length_nil]; omega⟩
theorem Ae : ∀ d, 6 ≤ eB d
 | 0 => Nat.le_refl _
 | d + 1 => by have := Ae d; simp only [eB]; omega
theorem Ec {L : List Int} : ∀ (d : Nat) {a : Int}, Dc L a → d ≤ 5 → Gt L (fun t a' => aK L a d t L a') (eB d) := fun d => by
 induction d with
 | zero => intro a hd _; exact wV hd
 | succ d ih =>
  intro a hd hd5
  obtain ⟨z, a1, h1, h2, h3⟩ := eI hd (n := 14) (by omega) (by omega)
  have top : ∀ {M t a'}, ch M ((d + 1 : Nat) : Int) L a1 z t L a' → aK L a ((d + 1 : Nat) : Int) t L a' := fun {M} {t} {a'} h => gj M _ _ _ _ _ _ ⟨_, _, _, h1, fun h' => by omega, fun _ => h⟩
  have sub : ∀ {a}, Dc L a → Gt L (fun t a' => aK L a (((d + 1 : Nat) : Int) - 1) t L a') (eB d) := fun {a} h => by rw [show ((d + 1 : Nat) : Int) - 1 = (d : Int) by omega]; exact ih h (by omega)
  have hB : eB (d + 1) = 3 * eB d + 20 := rfl
  have hp := Ae d
  by_cases c5 : z ≤ 5
  ·exact (tg 0 (d := ((d + 1 : Nat) : Int)) h3 (by omega) c5).map (by omega) fun t a' h => top h
  have n0 : z ≠ 0 := by omega
  have n1 : z ≠ 1 := by omega
  have n2 : z ≠ 2 := by omega
  have n3 : z ≠ 3 := by omega
  have n4 : z ≠ 4 := by omega
  have n5 : z ≠ 5 := by omega
  by_cases c7 : z ≤ 7
  · -- a call
   obtain ⟨s, a2, g1, g2, g3⟩ := ii h3 [[102], [103], [104], [65, 46, 102], [66, 46, 103], [65, 46, 104]] (by decide) (by decide)
   have hs := fZ g2 (by decide)
   obtain ⟨n, a3, g4, g5, g6⟩ := eI g3 (n := 4) (by omega) (by omega)
   have loop : ∀ (k : Nat) (a : Int) (l : List Tree), Dc L a → l.length + k ≤ 100 → Gt L (fun t a' => fL (k + 1) ((d + 1 : Nat) : Int) s L a l (k : Int) t L a') (s.length + 1 + kbulk l + k * (eB d + 1)) := fun k => by
    induction k with
    | zero => intro a l hd hl; exact ⟨_, a, lC 0 _ _ _ _ _ _ _ _ _ ⟨fun h => by omega, fun _ => ⟨rfl, rfl, rfl⟩⟩, hd, by rw [tbK]; omega⟩
    | succ k ihk =>
     intro a l hd hl
     obtain ⟨t, b, q1, q2, q3⟩ := sub hd
     refine (ihk b (l ++ [.node 17 [] [] [t]]) q2 (by simp; omega)).map ?_ fun t' a' h => lC (k + 1) _ _ _ _ _ _ _ _ _ ⟨fun _ => ⟨by omega, _, _, _, q1, by simp; omega, by omega, by rw [show ((k + 1 : Nat) : Int) - 1 = (k : Int) by omega]; exact h⟩, fun h => by omega⟩
     rw [dU, Nat.succ_mul]; simp only [kbulk, tb1, List.length_nil]
     omega
   refine (loop n.toNat a3 [] g6 (by simp; omega)).map (by
    have : n.toNat * (eB d + 1) ≤ 3 * (eB d + 1) := Nat.mul_le_mul_right _ (by omega)
    simp only [kbulk]; omega) fun t a' h => ?_
   have h8 : jm (n.toNat + 2) ((d + 1 : Nat) : Int) L a1 t L a' := qa (n.toNat + 1) _ _ _ _ _ _ ⟨_, _, _, g1, _, _, _, g4, by rw [show n = ((n.toNat : Nat) : Int) by omega]; exact h⟩
   refine top (up2 n0 n1 (up6 n2 n3 n4 n5 (rL6_semvcsmake_Expr (n.toNat + 3) _ _ _ _ _ _ _ ⟨fun _ => iN (n.toNat + 2) _ _ _ _ _ _ _ _ ⟨fun _ => h8, fun h => nomatch h⟩, fun h => iN (n.toNat + 2) _ _ _ _ _ _ _ _ ⟨fun _ => h8, fun h' => ?_⟩⟩)))
   have : z ≠ 7 := by simpa using h'
   omega
  have n6 : z ≠ 6 := by omega
  have n7 : z ≠ 7 := by omega
  have t9 : ∀ {M t a'}, eK M ((d + 1 : Nat) : Int) L a1 z t L a' → aK L a ((d + 1 : Nat) : Int) t L a' := fun h => top (up2 n0 n1 (up6 n2 n3 n4 n5 (up9 n6 n7 h)))
  by_cases c8 : z = 8
  · -- a list
   obtain ⟨n, a3, g4, g5, g6⟩ := eI h3 (n := 3) (by omega) (by omega)
   have loop : ∀ (k : Nat) (a : Int) (l : List Tree), Dc L a → l.length + k ≤ 100 → Gt L (fun t a' => fO (k + 1) ((d + 1 : Nat) : Int) L a l (k : Int) t L a') (1 + kbulk l + k * (eB d)) := fun k => by
    induction k with
    | zero => intro a l hd hl; exact ⟨_, a, lD 0 _ _ _ _ _ _ _ _ ⟨fun h => by omega, fun _ => ⟨rfl, rfl, rfl⟩⟩, hd, by rw [tbK]; simp only [List.length_nil]; omega⟩
    | succ k ihk =>
     intro a l hd hl
     obtain ⟨t, b, q1, q2, q3⟩ := sub hd
     refine (ihk b (l ++ [t]) q2 (by simp; omega)).map ?_ fun t' a' h => lD (k + 1) _ _ _ _ _ _ _ _ ⟨fun _ => ⟨by omega, _, _, _, q1, by simp; omega, by omega, by rw [show ((k + 1 : Nat) : Int) - 1 = (k : Int) by omega]; exact h⟩, fun h => by omega⟩
     rw [dU, Nat.succ_mul]; simp only [kbulk]
     omega
   exact (loop (1 + n).toNat a3 [] g6 (by simp; omega)).map (by
    have : (1 + n).toNat * eB d ≤ 3 * eB d := Nat.mul_le_mul_right _ (by omega)
    simp only [kbulk]; omega) fun t a' h => t9 (lP ((1 + n).toNat + 1) _ _ _ _ _ _ _ ⟨fun _ => ⟨_, _, _, g4, by omega, by rw [show (((1 + n).toNat : Nat) : Int) = 1 + n by omega] at h; exact h⟩, fun h' => absurd c8 h'⟩)
  by_cases c9 : z = 9
  ·obtain ⟨t1, b1, q1, r1, s1⟩ := sub h3
   obtain ⟨t2, b2, q2, r2, s2⟩ := sub r1
   obtain ⟨t3, b3, q3, r3, s3⟩ := sub r2
   exact ⟨_, b3, t9 (DQ c8 (lv 1 _ _ _ _ _ _ _ ⟨fun _ => px 0 _ _ _ _ _ _ ⟨by omega, _, _, _, q1, by omega, _, _, _, q2, by omega, _, _, _, q3, rfl, rfl, rfl⟩, fun h => absurd c9 h⟩)), r3, by rw [tb3]; simp only [List.length_nil]; omega⟩
  have t14 : ∀ {M t a'}, ec M ((d + 1 : Nat) : Int) L a1 z t L a' → aK L a ((d + 1 : Nat) : Int) t L a' := fun h => t9 (DQ c8 (FL c9 h))
  by_cases c11 : z ≤ 11
  ·obtain ⟨s, b0, g1, g2, g3⟩ := ii h3 [[120], [121], [122]] (by decide) (by decide)
   have hs := fZ g2 (by decide)
   obtain ⟨t1, b1, q1, r1, s1⟩ := sub g3
   obtain ⟨t2, b2, q2, r2, s2⟩ := sub r1
   refine ⟨.node 20 s [] [t1, t2], b2, ?_, r2, by rw [tb2]; omega⟩
   have h16 : iT 1 ((d + 1 : Nat) : Int) L a1 (.node 20 s [] [t1, t2]) L b2 := pg 0 _ _ _ _ _ _ ⟨_, _, _, g1, by omega, _, _, _, q1, by omega, _, _, _, q2, rfl, rfl, rfl⟩
   refine t14 (rL14_semvcsmake_Expr 2 _ _ _ _ _ _ _ ⟨fun _ => iw 1 _ _ _ _ _ _ _ _ ⟨fun _ => h16, fun h => nomatch h⟩, fun h => iw 1 _ _ _ _ _ _ _ _ ⟨fun _ => h16, fun h' => ?_⟩⟩)
   have : z ≠ 11 := by simpa using h'
   omega
  have t17 : ∀ {M t a'}, fJ M ((d + 1 : Nat) : Int) L a1 z t L a' → aK L a ((d + 1 : Nat) : Int) t L a' := fun h => t14 (Ga (by omega) (by omega) h)
  by_cases c12 : z = 12
  ·obtain ⟨s, b0, g1, g2, g3⟩ := ii h3 [[43], [45], [42], [60], [61, 61]] (by decide) (by decide)
   have hs := fZ g2 (by decide)
   obtain ⟨t1, b1, q1, r1, s1⟩ := sX (sub g3)
   obtain ⟨n, b2, q2, q3, q4⟩ := eI r1 (n := 3) (by omega) (by omega)
   by_cases hn : n = 0
   ·obtain ⟨s', b3, g4, g5, g6⟩ := ii q4 [[43], [42]] (by decide) (by decide)
    have hs' := fZ g5 (by decide)
    obtain ⟨t2, b4, q5, r5, s5⟩ := sX (wV g6)
    obtain ⟨t3, b5, q6, r6, s6⟩ := sX (sub r5)
    exact ⟨_, b5, t17 (ip 1 _ _ _ _ _ _ _ ⟨fun _ => li 0 _ _ _ _ _ _ ⟨_, _, _, g1, by omega, _, _, _, q1, _, _, _, q2, fun _ => ⟨_, _, _, g4, _, _, _, q5, by omega, _, _, _, q6, rfl, rfl, rfl⟩, fun h => absurd hn h⟩, fun h => absurd c12 h⟩), r6, by rw [tb2, tb2]; omega⟩
   ·obtain ⟨t3, b5, q6, r6, s6⟩ := sX (sub q4)
    exact ⟨_, b5, t17 (ip 1 _ _ _ _ _ _ _ ⟨fun _ => li 0 _ _ _ _ _ _ ⟨_, _, _, g1, by omega, _, _, _, q1, _, _, _, q2, fun h => absurd h hn, fun _ => ⟨by omega, _, _, _, q6, rfl, rfl, rfl⟩⟩, fun h => absurd c12 h⟩), r6, by rw [tb2]; omega⟩
  ·obtain ⟨t1, b1, q1, r1, s1⟩ := sub h3
   exact ⟨_, b1, t17 (ip 1 _ _ _ _ _ _ _ ⟨fun h => absurd h c12, fun _ => ⟨by omega, _, _, _, q1, rfl, rfl, rfl⟩⟩), r1, by rw [tb1]; simp only [List.length_nil]; omega⟩
end Go.Proofs.YtpnpdlnpikkeaaaGreat
namespace Go.Proofs.YtpnpdlnpikkeaaaGreat
open Go.RowKit Lx
set_option maxRecDepth 100000
set_option maxHeartbeats 1000000 in
theorem CK (l : List UInt8) (fin : Bool) (w : World) (hl : l.length ≤ 281474976710656) : Calls Tryz.prog 80 #[.string ⟨l.toArray⟩, .bool fin] w fun e w' => e = .returned (.bool (aU false l fin)) ∧ w = w' := by
  obtain ⟨n, b, hLd⟩ : ∃ n b, aG false l 0 = (n, b) := ⟨_, _, rfl⟩
  have hnl : n ≤ l.length := by have h := mg false l 0; rw [hLd] at h; simpa using h
  have HLd := Lib.hid hLd
  have HW := Lib.hid (show iD false l = (b.isNone && n == l.length) from by rw [iD, hLd])
  have HT := Lib.hid (sQ l false fin)
  clear hLd
  go_enter Tryz.func80, Tryz.ntmps80
  go_wp2_with fail
  refine (Cp l 0 0 rfl _ (Nat.zero_le _) hl).mono ?_
  rintro e w' ⟨rfl, rfl⟩
  rw [List.drop_zero, HLd.out]
  cases b with
  | some q =>
    have hq2 : sa 0 (some q) = ((0 + q : Nat) : Int) := rfl
    rw [hq2, Nat.zero_add]
    have hq : (0 : Int) ≤ (q : Int) := by omega
    have HF := Lib.hid (show aU false l fin = false from by rw [HT.out, HW.out]; rfl)
    go_wp2
    go_ret
    exact ⟨aO HF.out.symm, rfl⟩
  | none =>
    have hq2 : sa 0 none = -1 := rfl
    rw [hq2]
    clear hq2
    by_cases hn : n < l.length
    · have HF := Lib.hid (show aU      false l fin = false from by rw [HT.out, HW.out]; have : (n == l.length) = false := by simp; omega
                                                                   rw [this]; rfl)
      go_wp2
      go_ret
      exact ⟨aO HF.out.symm, rfl⟩
    · have hnb : decide (n < l.length) = false := by simpa using hn
      have HF := Lib.hid (show aU false l fin = (!iv false l || fin) from by
        rw [HT.out, HW.out]; have : (n == l.length) = true := by simp; omega
        rw [this]; rfl)
      cases fin with
      | true =>
        go_wp2
        go_ret
        exact ⟨aO (by rw [HF.out]; simp), rfl⟩
      | false =>
        obtain ⟨r, hr⟩ : ∃ r, iv false l = r := ⟨_, rfl⟩
        have HR := Lib.hid hr; clear hr
        go_wp2
        go_loopg [7, 8] l.length (fun g s7 s8 wx => ∃ (i : Nat) (c : Bool), g = l.length - i ∧ wx = w ∧ i ≤ l.length ∧ s7 = .bool c ∧ s8 = .int .i64 i ∧ Hid (iv c (l.drop i) = r))
        case atStart => exact ⟨0, false, rfl, rfl, Nat.zero_le _, rfl, rfl, Lib.hid (by simpa using HR.out)⟩
        case round =>
          obtain ⟨i, c, rfl, rfl, hil, rfl, rfl, HC⟩ := hrel
          by_cases hit : i < l.length
          rotate_left
          · have HF2 := Lib.hid (show c = r from by rw [← HC.out, wb (by omega)])
            go_wp2_with fail
            go_ret
            exact ⟨aO (by rw [HF.out, HR.out, HF2.out]; simp), rfl⟩
          obtain ⟨x, hx⟩ : ∃ c, ({ data := l.toArray } : ByteArray)[i]'hit = c := ⟨_, rfl⟩
          have HXi := Lib.hid (show l[i] = x from hx)
          have HS := Lib.hid (HC.out.symm.trans (uA hit HXi.out))
          clear HC
          cases h35 : ((x.toNat : Int) == 35) <;> cases h10 : ((x.toNat : Int) == 10)
          · go_wp2
            go_roundg (l.length - (i + 1))
            case measure => omega
            case rel => exact ⟨i + 1, c, rfl, rfl, by omega, rfl, by go_num, Lib.hid (by rw [HS.out, if_neg (bB (m := 10) h10), if_neg (bB (m := 35) h35)])⟩
          · go_wp2
            go_roundg (l.length - (i + 1))
            case measure => omega
            case rel => exact ⟨i + 1, false, rfl, rfl, by omega, rfl, by go_num, Lib.hid (by rw [HS.out, if_pos (co (m := 10) h10)])⟩
          · go_wp2
            go_roundg (l.length - (i + 1))
            case measure => omega
            case rel => exact ⟨i + 1, true, rfl, rfl, by omega, rfl, by go_num, Lib.hid (by rw [HS.out, if_neg (bB (m := 10) h10), if_pos (co (m := 35) h35)])⟩
          · have h1 := co (m := 10) h10
            have h2 := co (m := 35) h35
            omega
end Go.Proofs.YtpnpdlnpikkeaaaGreat
