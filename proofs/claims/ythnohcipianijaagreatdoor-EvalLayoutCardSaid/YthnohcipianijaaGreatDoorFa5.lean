/- Contracts of the functions that the law reaches, part 5. -/
import Derived.Test.YthnohcipianijaaGreatDoorFa4
set_option linter.unusedVariables false
set_option linter.unusedSimpArgs false
namespace Go.Proofs.YthnohcipianijaaGreatDoor
open Go.RowKit Lx Sx
set_option maxRecDepth 100000
set_option maxHeartbeats 4000000
structure aa where
 Lead : (List UInt8)
 Text : (List UInt8)
abbrev aa.c (x : aa) : List V := [.str x.Lead, .str x.Text]
abbrev aa.w (x : aa) : V := .agg x.c
def gN (p0 : List UInt8) (p1 r0 : Bool) : Prop := qS 138 [.str p0, .bool p1] (.bool r0)
def lD (p0 p1 : List UInt8) (r0 : Bool) : Prop := qS 96 [.str p0, .str p1] (.bool r0)
def jX (p0 p1 r0 : Int) : Prop := qS 26 [.int .i64 p0, .int .i64 p1] (.int .i64 r0)
def mH (p0 b : List Int) (a : Int) : Prop := cx [] Tryz.prog 31 [.row 1 (List.map (V.int .i64) p0)] ⟨0, []⟩ (fun u G => u = .ptr 0 0 ∧ G = ⟨1, [(0, .var 108 [.row 1 (List.map (V.int .i64) b), .int .i64 a])]⟩)
def fJ (p0 : List Int) (r0 : Bool) : Prop := qS 20 [.row 1 (List.map (V.int .i64) p0)] (.bool r0)
def aT (c : List Int) (a : Int) (p1 : (List (List UInt8))) (r0 : List UInt8) (d : List Int) (b : Int) : Prop := cx [] Tryz.prog 90 [.ptr 0 0, .row 1 (List.map V.str p1)] ⟨1, [(0, .var 108 [.row 1 (List.map (V.int .i64) c), .int .i64 a])]⟩ (fun u G => u = .str r0 ∧ G = ⟨1, [(0, .var 108 [.row 1 (List.map (V.int .i64) d), .int .i64 b])]⟩)
def bU (c : List Int) (a p1 : Int) (r0 : Tree) (d : List Int) (b : Int) : Prop := cx [] Tryz.prog 91 [.ptr 0 0, .int .i64 p1] ⟨1, [(0, .var 108 [.row 1 (List.map (V.int .i64) c), .int .i64 a])]⟩ (fun u G => u = .agg (an r0) ∧ G = ⟨2, [(0, .var 108 [.row 1 (List.map (V.int .i64) d), .int .i64 b])]⟩)
def dq (c : List Int) (a p1 : Int) (r0 : Tree) (d : List Int) (b : Int) : Prop := cx [] Tryz.prog 135 [.ptr 0 0, .int .i64 p1] ⟨1, [(0, .var 108 [.row 1 (List.map (V.int .i64) c), .int .i64 a])]⟩ (fun u G => u = .agg (an r0) ∧ G = ⟨2, [(0, .var 108 [.row 1 (List.map (V.int .i64) d), .int .i64 b])]⟩)
def aH (c : List Int) (a p1 : Int) (r0 : Tree) (d : List Int) (b : Int) : Prop := cx [] Tryz.prog 92 [.ptr 0 0, .int .i64 p1] ⟨1, [(0, .var 108 [.row 1 (List.map (V.int .i64) c), .int .i64 a])]⟩ (fun u G => u = .agg (an r0) ∧ G = ⟨2, [(0, .var 108 [.row 1 (List.map (V.int .i64) d), .int .i64 b])]⟩)
def jW (c : List Int) (a : Int) (r0 : Tree) (d : List Int) (b : Int) : Prop := cx [] Tryz.prog 59 [.ptr 0 0] ⟨1, [(0, .var 108 [.row 1 (List.map (V.int .i64) c), .int .i64 a])]⟩ (fun u G => u = .agg (an r0) ∧ G = ⟨2, [(0, .var 108 [.row 1 (List.map (V.int .i64) d), .int .i64 b])]⟩)
def fz (c : List Int) (a : Int) (p1 r0 : Tree) (d : List Int) (b : Int) : Prop := cx [] Tryz.prog 61 [.ptr 0 0, .agg (an p1)] ⟨1, [(0, .var 108 [.row 1 (List.map (V.int .i64) c), .int .i64 a])]⟩ (fun u G => u = .agg (an r0) ∧ G = ⟨2, [(0, .var 108 [.row 1 (List.map (V.int .i64) d), .int .i64 b])]⟩)
def ib (c : List Int) (a : Int) (p1 : List UInt8) (r0 : Tree) (d : List Int) (b : Int) : Prop := cx [] Tryz.prog 40 [.ptr 0 0, .str p1] ⟨1, [(0, .var 108 [.row 1 (List.map (V.int .i64) c), .int .i64 a])]⟩ (fun u G => u = .agg (an r0) ∧ G = ⟨2, [(0, .var 108 [.row 1 (List.map (V.int .i64) d), .int .i64 b])]⟩)
def em (p0 : List Int) (r0 : List Tree) : Prop := qS 21 [.row 1 (List.map (V.int .i64) p0)] (.row 4 (kidsV r0))
def aA (c : List Int) (a p1 r0 : Int) (d : List Int) (b : Int) : Prop := cx [] Tryz.prog 39 [.ptr 0 0, .int .i64 p1] ⟨1, [(0, .var 108 [.row 1 (List.map (V.int .i64) c), .int .i64 a])]⟩ (fun u G => u = .int .i64 r0 ∧ G = ⟨1, [(0, .var 108 [.row 1 (List.map (V.int .i64) d), .int .i64 b])]⟩)
def gP (p0 : Int) (r0 : (List (List UInt8))) : Prop := cx [] Tryz.prog 136 [.int .i64 p0] ⟨0, []⟩ (fun u G => u = .sl 0 ∧ G = ⟨1, [(0, .row 9 1 (List.map V.str r0))]⟩)
def hJ (p0 : Tree) (p1 : Int) (p2 r0 : List UInt8) : Prop := qS 137 [.agg (an p0), .int .i64 p1, .str p2] (.str r0)
def dY (p0 : Tree) (p1 : List UInt8) (r0 : Tree) : Prop := qS 93 [.agg (an p0), .str p1] (.agg (an r0))
def gr (p0 r0 : Tree) : Prop := qS 60 [.agg (an p0)] (.agg (an r0))
def dE (p0 : Tree) (r0 : Bool) : Prop := qS 41 [.agg (an p0)] (.bool r0)
def dx (p0 : Tree) (r0 : Bool) : Prop := qS 62 [.agg (an p0)] (.bool r0)
def eY (p0 : Tree) (r0 : Bool) : Prop := qS 94 [.agg (an p0)] (.bool r0)
def eo (p0 : Tree) (r0 : Bool) : Prop := qS 63 [.agg (an p0)] (.bool r0)
def fh (p0 : Tree) (r0 : Int) : Prop := qS 64 [.agg (an p0)] (.int .i64 r0)
def ie (p0 : Tree) (r0 : List UInt8) : Prop := qS 65 [.agg (an p0)] (.str r0)
def kX (p0 : Tree) (r0 : List aa) : Prop := qS 95 [.agg (an p0)] (.row 2 (List.map aa.w r0))
def aj (p0 : List aa) (p1 : Tree) (r0 : List aa) : Prop := cx [] Tryz.prog 139 [.sl 0, .agg (an p1)] ⟨1, [(0, .row 152 2 (List.map aa.w p0))]⟩ (fun u G => u = .sl 1 ∧ G = ⟨2, [(1, .row 152 2 (List.map aa.w r0))]⟩)
def dr (p0 : List aa) (p1 : Tree) (p2 p3 p4 : Int) (r0 : List aa) : Prop := cx [] Tryz.prog 173 [.sl 0, .agg (an p1), .int .i64 p2, .int .i64 p3, .int .i64 p4] ⟨1, [(0, .row 152 2 (List.map aa.w p0))]⟩ (fun u G => u = .sl 1 ∧ G = ⟨2, [(1, .row 152 2 (List.map aa.w r0))]⟩)
def ai (p0 : Tree) (p1 : Int) (r0 : List UInt8) : Prop := qS 172 [.agg (an p0), .int .i64 p1] (.str r0)
theorem mE (m : Nat) (p0 p1 r0 : Int) (h : p1 ≠ 0 ∧ (((Int.tmod p0 p1) < 0) → InI ((Int.tmod p0 p1) + p1) ∧ ((Int.tmod p0 p1) + p1) = r0) ∧ ((¬ (Int.tmod p0 p1) < 0) → (Int.tmod p0 p1) = r0)) : jX p0 p1 r0 := by
 refine ⟨rfl, rfl, ?_⟩
 refine ak 14 [] Tryz.func26 rfl rfl rfl (az rfl) fun K hK => ?_
 refine gR 9 rfl ?_
 obtain ⟨hb, h⟩ := h
 refine gY (GS rfl rfl hb) rfl rfl <| gR 10 rfl <| qBd 9 rfl rfl rfl h (fun h => ?_) fun h => ?_
 refine gR 4 rfl ?_
 obtain ⟨hb, h⟩ := h
 refine gR 1 rfl <| gV 12 (.int .i64 ((Int.tmod p0 p1) + p1)) rfl (ao hb rfl) rfl <| gR 10 rfl ?_
 subst h
 exact go_end ac (rs := [.tmp 4]) rfl rfl rfl
 refine gR 10 rfl ?_
 subst h
 exact go_end ac (rs := [.tmp 4]) rfl rfl rfl
theorem re (m : Nat) (p0 b : List Int) (a : Int) (h : p0.length ≤ 1000000000 ∧ p0 = b ∧ 0 = a) : mH p0 b a := by
 refine ak 8 [] Tryz.func31 rfl rfl rfl (az rfl) fun K hK => ?_
 refine gR 9 rfl ?_
 obtain ⟨hb, h⟩ := h
 refine gDo (.repl 0 (.row 3 1 (List.map (V.int .i64) p0))) (bu ac rfl rfl rfl rfl rfl (List.nil_append _) (by rw [aY]; exact hb)) (okR rfl) rfl rfl rfl <| gR 6 rfl <| gFR 1 rfl (gW _ (fun _ => rfl) _) rfl rfl ?_
 obtain ⟨rfl, rfl⟩ := h
 exact go_sub (F' := (mkF 8 0 [(2, .ptr 0 0)])) (H' := ⟨1, [(0, .var 108 [.row 1 (List.map (V.int .i64) p0), .int .i64 0])]⟩) [2] [] rfl hK pq1 (pqo1 rfl rfl) rfl <| go_endD [] ac (rs := [.tmp 2]) rfl rfl ⟨rfl, rfl⟩
theorem qt (m : Nat) (p0 : List Int) (r0 : Bool) (h : decide ((p0.length : Int) ≤ 120) = r0) : fJ p0 r0 := by
 refine ⟨rfl, rfl, ?_⟩
 refine ak 6 [] Tryz.func20 rfl rfl rfl (az rfl) fun K hK => ?_
 refine gR 9 rfl <| gV 4 (.int .i64 (p0.length : Int)) rfl (aO (aY (V.int .i64) _)) rfl <| gLB 3 rfl (aY (V.int .i64) _) fun hl2 => gR 5 rfl ?_
 subst h
 exact go_end ac (rs := [.tmp 2]) rfl rfl rfl
theorem rb (m : Nat) (j : List Int) (e : Int) (p1 : (List (List UInt8))) (r0 : List UInt8) (k : List Int) (g : Int) (h : ∃ i a b, aA j e (p1.length : Int) i a b ∧ ∃ c, i = ((c : Nat) : Int) ∧ ∃ d, p1[c]? = some d ∧ d = r0 ∧ a = k ∧ b = g) : aT j e p1 r0 k g := by
 refine ak 12 [0] Tryz.func90 rfl rfl rfl (az rfl) fun K hK => ?_
 refine gR 11 rfl <| gV 8 (.int .i64 (p1.length : Int)) rfl (aO (aY V.str _)) rfl <| gLB 7 rfl (aY V.str _) fun hl3 => ?_
 obtain ⟨i, a, b, hs4, h⟩ := h
 refine gC hs4 [0] (by kernel_rfl) rfl rfl .rfl ⟨⟨_, rfl, ⟨rfl, au.rfl⟩⟩, trivial⟩ rfl ?_
 rintro _ _ ⟨rfl, rfl⟩
 obtain ⟨c, l, h⟩ := h
 refine gV 9 (.int .i64 ((c : Nat) : Int)) rfl (cO l) rfl ?_
 obtain ⟨d, hxs0_5, h⟩ := h
 refine gY (aG (mapget (f := V.str) hxs0_5) ac rfl rfl rfl rfl) rfl rfl <| gR 5 rfl ?_
 obtain ⟨rfl, rfl, rfl⟩ := h
 exact go_sub (F' := (mkF 12 0 [(4, .str d)])) (H' := ⟨1, [(0, .var 108 [.row 1 (List.map (V.int .i64) a), .int .i64 b])]⟩) [0] [0] rfl hK pq1 (pqo1 rfl rfl) rfl <| go_endD [] ac (rs := [.tmp 4]) rfl rfl ⟨rfl, rfl⟩
def eg (m : Nat) (p1 b : Int) (c : List Int) (d : Int) (e : Bool) (r0 : Tree) (f : List Int) (a : Int) : Prop := ∀ (K : Ctx), aq K [0] → qLG K Tryz.f91 (fun u G => u = .agg (an r0) ∧ G = ⟨2, [(0, .var 108 [.row 1 (List.map (V.int .i64) f), .int .i64 a])]⟩) (cB (xN (ae Tryz.f91))) [.blk 0, .seq (xA (ae Tryz.f91))] 32 (mkF 32 0 [(0, .ptr 0 0), (1, .int .i64 p1), (4, .ptr 1 0), (6, .int .i64 b), (7, .bool e)]) ⟨2, [(1, .var 35 [.int .i64 0, .str [], .nils, .nils]), (0, .var 108 [.row 1 (List.map (V.int .i64) c), .int .i64 d])]⟩
theorem gn (m : Nat) (g : List Int) (e p1 : Int) (r0 : Tree) (f : List Int) (b : Int) (h : ∃ a c d, aA g e 7 a c d ∧ ((a = 0) → eg m p1 a c d true r0 f b) ∧ ((a ≠ 0) → eg m p1 a c d (a == 1) r0 f b)) : bU g e p1 r0 f b := by
 refine ak 32 [0] Tryz.func91 rfl rfl rfl (az rfl) fun K hK => ?_
 refine gR 9 rfl ?_
 obtain ⟨a, c, d, hs8, h⟩ := h
 refine gC hs8 [0] (by kernel_rfl) rfl rfl .rfl ⟨⟨_, rfl, ⟨rfl, au.rfl⟩⟩, trivial⟩ rfl ?_
 rintro _ _ ⟨rfl, rfl⟩
 refine gR 10 rfl <| qBeZ 7 8 rfl rfl rfl rfl h (fun h => ?_) fun h => ?_
 exact gR 3 rfl <| gJ (h K hK) [0, 1] [0] rfl hK pq5 (pqo2 rfl rfl rfl rfl) rfl
 exact gR 6 rfl <| gJ (h K hK) [0, 1] [0] rfl hK pq5 (pqo2 rfl rfl rfl rfl) rfl
theorem bd (m : Nat) (p1 e : Int) (a : List Int) (b : Int) (n : Bool) (r0 : Tree) (f : List Int) (c : Int) (h : ((n = true) → (Tree.node 5 [] [] []) = r0 ∧ a = f ∧ b = c) ∧ ((n = false) → ((e = 2) → (Tree.node 7 [] [] []) = r0 ∧ a = f ∧ b = c) ∧ ((e ≠ 2) → ((e = 3) → (Tree.node 6 [] [] []) = r0 ∧ a = f ∧ b = c) ∧ ((e ≠ 3) → ((e = 4) → ∃ g i j, aT a b [[84], [85], [65, 46, 84], [66, 46, 85]] g i j ∧ (Tree.node 9 g [] []) = r0 ∧ i = f ∧ j = c) ∧ ((e ≠ 4) → ((p1 < 1) → (Tree.node 5 [] [] []) = r0 ∧ a = f ∧ b = c) ∧ ((¬ p1 < 1) → InI (p1 - 1) ∧ ∃ d k l, bU a b (p1 - 1) d k l ∧ (Tree.node 8 [] [] [d]) = r0 ∧ k = f ∧ l = c)))))) : eg (m + 1) p1 e a b n r0 f c := by
 intro K hK
 refine qBi 7 rfl rfl rfl h (fun h => ?_) fun h => ?_
 refine gR 10 rfl ?_
 obtain ⟨rfl, rfl, rfl⟩ := h
 exact go_sub (F' := (mkF 32 0 [(4, .ptr 1 0)])) (H' := ⟨2, [(1, .var 35 [.int .i64 ((Tree.node 5 [] [] []).kind), .str ((Tree.node 5 [] [] []).text), .row 1 (List.map V.str ((Tree.node 5 [] [] []).leads)), .row 4 (kidsV ((Tree.node 5 [] [] []).kids))]), (0, .var 108 [.row 1 (List.map (V.int .i64) a), .int .i64 b])]⟩) [0, 1] [0] rfl hK pq1 ⟨⟨_, rfl, rfl, (.cons .rfl (.cons .rfl (.cons (.nil 1) (.cons (.nil 4) .nil))))⟩, (pqo1 rfl rfl)⟩ rfl <| go_endD [1] ac (rs := [.cell 4 35]) rfl rfl ⟨rfl, rfl⟩
 refine gR 7 rfl <| qBeZ 11 12 rfl rfl rfl rfl h (fun h => ?_) fun h => ?_
 refine gR 10 rfl ?_
 obtain ⟨rfl, rfl, rfl⟩ := h
 exact go_sub (F' := (mkF 32 0 [(4, .ptr 1 0)])) (H' := ⟨2, [(1, .var 35 [.int .i64 ((Tree.node 7 [] [] []).kind), .str ((Tree.node 7 [] [] []).text), .row 1 (List.map V.str ((Tree.node 7 [] [] []).leads)), .row 4 (kidsV ((Tree.node 7 [] [] []).kids))]), (0, .var 108 [.row 1 (List.map (V.int .i64) a), .int .i64 b])]⟩) [0, 1] [0] rfl hK pq1 ⟨⟨_, rfl, rfl, (.cons .rfl (.cons .rfl (.cons (.nil 1) (.cons (.nil 4) .nil))))⟩, (pqo1 rfl rfl)⟩ rfl <| go_endD [1] ac (rs := [.cell 4 35]) rfl rfl ⟨rfl, rfl⟩
 refine gR 7 rfl <| qBeZ 14 15 rfl rfl rfl rfl h (fun h => ?_) fun h => ?_
 refine gR 10 rfl ?_
 obtain ⟨rfl, rfl, rfl⟩ := h
 exact go_sub (F' := (mkF 32 0 [(4, .ptr 1 0)])) (H' := ⟨2, [(1, .var 35 [.int .i64 ((Tree.node 6 [] [] []).kind), .str ((Tree.node 6 [] [] []).text), .row 1 (List.map V.str ((Tree.node 6 [] [] []).leads)), .row 4 (kidsV ((Tree.node 6 [] [] []).kids))]), (0, .var 108 [.row 1 (List.map (V.int .i64) a), .int .i64 b])]⟩) [0, 1] [0] rfl hK pq1 ⟨⟨_, rfl, rfl, (.cons .rfl (.cons .rfl (.cons (.nil 1) (.cons (.nil 4) .nil))))⟩, (pqo1 rfl rfl)⟩ rfl <| go_endD [1] ac (rs := [.cell 4 35]) rfl rfl ⟨rfl, rfl⟩
 refine gR 7 rfl <| qBeZ 17 18 rfl rfl rfl rfl h (fun h => ?_) fun h => ?_
 refine gR 5 rfl <| gFR 2 rfl rfl rfl rfl ?_
 obtain ⟨g, i, j, hs9, h⟩ := h
 refine gC hs9 [0] (by kernel_rfl) rfl rfl .rfl ⟨⟨_, rfl, ⟨rfl, au.rfl⟩⟩, trivial⟩ rfl ?_
 rintro _ _ ⟨rfl, rfl⟩
 refine gR 7 rfl ?_
 obtain ⟨rfl, rfl, rfl⟩ := h
 exact go_sub (F' := (mkF 32 0 [(4, .ptr 1 0)])) (H' := ⟨2, [(1, .var 35 [.int .i64 ((Tree.node 9 g [] []).kind), .str ((Tree.node 9 g [] []).text), .row 1 (List.map V.str ((Tree.node 9 g [] []).leads)), .row 4 (kidsV ((Tree.node 9 g [] []).kids))]), (0, .var 108 [.row 1 (List.map (V.int .i64) i), .int .i64 j])]⟩) [0, 1] [0] rfl hK pq1 ⟨⟨_, rfl, rfl, (.cons .rfl (.cons .rfl (.cons (.nil 1) (.cons (.nil 4) .nil))))⟩, (pqo1 rfl rfl)⟩ rfl <| go_endD [1] ac (rs := [.cell 4 35]) rfl rfl ⟨rfl, rfl⟩
 refine gR 11 rfl <| qBd 24 rfl rfl rfl h (fun h => ?_) fun h => ?_
 refine gR 9 rfl ?_
 obtain ⟨rfl, rfl, rfl⟩ := h
 exact go_sub (F' := (mkF 32 0 [(4, .ptr 1 0)])) (H' := ⟨2, [(1, .var 35 [.int .i64 ((Tree.node 5 [] [] []).kind), .str ((Tree.node 5 [] [] []).text), .row 1 (List.map V.str ((Tree.node 5 [] [] []).leads)), .row 4 (kidsV ((Tree.node 5 [] [] []).kids))]), (0, .var 108 [.row 1 (List.map (V.int .i64) a), .int .i64 b])]⟩) [0, 1] [0] rfl hK pq1 ⟨⟨_, rfl, rfl, (.cons .rfl (.cons .rfl (.cons (.nil 1) (.cons (.nil 4) .nil))))⟩, (pqo1 rfl rfl)⟩ rfl <| go_endD [1] ac (rs := [.cell 4 35]) rfl rfl ⟨rfl, rfl⟩
 refine gR 7 rfl ?_
 obtain ⟨hb, h⟩ := h
 refine gR 1 rfl <| gV 28 (.int .i64 (p1 - 1)) rfl (ao hb rfl) rfl ?_
 obtain ⟨d, k, l, hs10, h⟩ := h
 refine gC hs10 [0] (by kernel_rfl) rfl rfl .rfl ⟨⟨_, rfl, ⟨rfl, au.rfl⟩⟩, trivial⟩ rfl ?_
 rintro _ _ ⟨rfl, rfl⟩
 refine gR 1 rfl <| gHR 4 (kidsV [d]) rfl (cI d) rfl <| gR 5 rfl <| gFR 4 rfl (aU _) rfl rfl ?_
 obtain ⟨rfl, rfl, rfl⟩ := h
 exact go_sub (F' := (mkF 32 0 [(4, .ptr 1 0)])) (H' := ⟨2, [(1, .var 35 [.int .i64 ((Tree.node 8 [] [] [d]).kind), .str ((Tree.node 8 [] [] [d]).text), .row 1 (List.map V.str ((Tree.node 8 [] [] [d]).leads)), .row 4 (kidsV ((Tree.node 8 [] [] [d]).kids))]), (0, .var 108 [.row 1 (List.map (V.int .i64) k), .int .i64 l])]⟩) [0, 1] [0] rfl hK pq1 ⟨⟨_, rfl, rfl, (.cons .rfl (.cons .rfl (.cons (.nil 1) (.cons .rfl .nil))))⟩, (pqo1 rfl rfl)⟩ rfl <| go_endD [1] ac (rs := [.cell 4 35]) rfl rfl ⟨rfl, rfl⟩
theorem mo (m : Nat) (i : List Int) (f p1 : Int) (r0 : Tree) (g : List Int) (d : Int) (h : ∃ a b c, aH i f p1 a b c ∧ ∃ e, ej a.kind e ∧ ((e = false) → (Tree.node 22 [] [] [a]) = r0 ∧ b = g ∧ c = d) ∧ ((e = true) → a = r0 ∧ b = g ∧ c = d)) : dq i f p1 r0 g d := by
 refine ak 17 [0] Tryz.func135 rfl rfl rfl (az rfl) fun K hK => ?_
 refine gR 9 rfl ?_
 obtain ⟨a, b, c, hs3, h⟩ := h
 refine gC hs3 [0] (by kernel_rfl) rfl rfl .rfl ⟨⟨_, rfl, ⟨rfl, au.rfl⟩⟩, trivial⟩ rfl ?_
 rintro _ _ ⟨rfl, rfl⟩
 refine gR 9 rfl ?_
 obtain ⟨e, hs4, h⟩ := h
 refine gC0 hs4 (by kernel_rfl) rfl rfl .rfl rfl <| gR 3 rfl <| qBh 12 rfl rfl rfl h cr ct (fun h => ?_) fun h => ?_
 refine gR 5 rfl <| gHR 5 (kidsV [a]) rfl (cI a) rfl <| gR 6 rfl <| gFR 5 rfl (aU _) rfl rfl ?_
 obtain ⟨rfl, rfl, rfl⟩ := h
 exact go_sub (F' := (mkF 17 0 [(4, .ptr 1 0)])) (H' := ⟨2, [(1, .var 35 [.int .i64 ((Tree.node 22 [] [] [a]).kind), .str ((Tree.node 22 [] [] [a]).text), .row 1 (List.map V.str ((Tree.node 22 [] [] [a]).leads)), .row 4 (kidsV ((Tree.node 22 [] [] [a]).kids))]), (0, .var 108 [.row 1 (List.map (V.int .i64) b), .int .i64 c])]⟩) [0, 1] [0] rfl hK pq1 ⟨⟨_, rfl, rfl, (.cons .rfl (.cons .rfl (.cons (.nil 1) (.cons .rfl .nil))))⟩, (pqo1 rfl rfl)⟩ rfl <| go_endD [1] ac (rs := [.cell 4 35]) rfl rfl ⟨rfl, rfl⟩
 refine gR 10 rfl ?_
 obtain ⟨rfl, rfl, rfl⟩ := h
 exact go_sub (F' := (mkF 17 0 [(4, .ptr 1 0)])) (H' := ⟨2, [(1, .var 35 [.int .i64 a.kind, .str a.text, .row 1 (List.map V.str a.leads), .row 4 (kidsV a.kids)]), (0, .var 108 [.row 1 (List.map (V.int .i64) b), .int .i64 c])]⟩) [0, 1] [0] rfl hK pq1 (pqo2 rfl rfl rfl rfl) rfl <| go_endD [1] ac (rs := [.cell 4 35]) rfl rfl ⟨rfl, rfl⟩
def bS (m : Nat) (p1 : Int) (b : List Int) (c d : Int) (r0 : Tree) (e : List Int) (a : Int) : Prop := ∀ (K : Ctx), aq K [0] → qLG K Tryz.f92 (fun u G => u = .agg (an r0) ∧ G = ⟨2, [(0, .var 108 [.row 1 (List.map (V.int .i64) e), .int .i64 a])]⟩) (xH (ae Tryz.f92)) [] 168 (mkF 168 0 [(0, .ptr 0 0), (1, .int .i64 p1), (4, .ptr 1 0), (5, .int .i64 d)]) ⟨2, [(1, .var 35 [.int .i64 0, .str [], .nils, .nils]), (0, .var 108 [.row 1 (List.map (V.int .i64) b), .int .i64 c])]⟩
def iL (m : Nat) (p1 : Int) (b : List Int) (c d : Int) (e : Bool) (r0 : Tree) (f : List Int) (a : Int) : Prop := ∀ (K : Ctx), aq K [0] → qLG K Tryz.f92 (fun u G => u = .agg (an r0) ∧ G = ⟨2, [(0, .var 108 [.row 1 (List.map (V.int .i64) f), .int .i64 a])]⟩) (cB (xF (cB (ae Tryz.f92)))) [.blk 0, .seq (xJ (ae Tryz.f92))] 168 (mkF 168 0 [(0, .ptr 0 0), (1, .int .i64 p1), (4, .ptr 1 0), (24, .int .i64 d), (25, .bool e)]) ⟨2, [(1, .var 35 [.int .i64 0, .str [], .nils, .nils]), (0, .var 108 [.row 1 (List.map (V.int .i64) b), .int .i64 c])]⟩
def fP (m : Nat) (p1 : Int) (b : List Int) (c d : Int) (r0 : Tree) (e : List Int) (a : Int) : Prop := ∀ (K : Ctx), aq K [0] → qLG K Tryz.f92 (fun u G => u = .agg (an r0) ∧ G = ⟨2, [(0, .var 108 [.row 1 (List.map (V.int .i64) e), .int .i64 a])]⟩) (xK (cB (ae Tryz.f92))) [.blk 0, .seq (xJ (ae Tryz.f92))] 168 (mkF 168 0 [(0, .ptr 0 0), (1, .int .i64 p1), (4, .ptr 1 0), (24, .int .i64 d)]) ⟨2, [(1, .var 35 [.int .i64 0, .str [], .nils, .nils]), (0, .var 108 [.row 1 (List.map (V.int .i64) b), .int .i64 c])]⟩
def mv (m : Nat) (p1 : Int) (b : List Int) (c d : Int) (r0 : Tree) (e : List Int) (a : Int) : Prop := ∀ (K : Ctx), aq K [0] → qLG K Tryz.f92 (fun u G => u = .agg (an r0) ∧ G = ⟨2, [(0, .var 108 [.row 1 (List.map (V.int .i64) e), .int .i64 a])]⟩) (xC (xF (cB (ae Tryz.f92)))) [.blk 0, .seq (xJ (ae Tryz.f92))] 168 (mkF 168 0 [(0, .ptr 0 0), (1, .int .i64 p1), (4, .ptr 1 0), (24, .int .i64 d)]) ⟨2, [(1, .var 35 [.int .i64 0, .str [], .nils, .nils]), (0, .var 108 [.row 1 (List.map (V.int .i64) b), .int .i64 c])]⟩
def mx (m : Nat) (p1 : Int) (b : List Int) (c d : Int) (r0 : Tree) (e : List Int) (a : Int) : Prop := ∀ (K : Ctx), aq K [0] → qLG K Tryz.f92 (fun u G => u = .agg (an r0) ∧ G = ⟨2, [(0, .var 108 [.row 1 (List.map (V.int .i64) e), .int .i64 a])]⟩) (xC (xK (cB (ae Tryz.f92)))) [.blk 0, .seq (xJ (ae Tryz.f92))] 168 (mkF 168 0 [(0, .ptr 0 0), (1, .int .i64 p1), (4, .ptr 1 0), (24, .int .i64 d)]) ⟨2, [(1, .var 35 [.int .i64 0, .str [], .nils, .nils]), (0, .var 108 [.row 1 (List.map (V.int .i64) b), .int .i64 c])]⟩
def ms (m : Nat) (p1 : Int) (b : List Int) (c d : Int) (r0 : Tree) (e : List Int) (a : Int) : Prop := ∀ (K : Ctx), aq K [0] → qLG K Tryz.f92 (fun u G => u = .agg (an r0) ∧ G = ⟨2, [(0, .var 108 [.row 1 (List.map (V.int .i64) e), .int .i64 a])]⟩) (xG (xF (cB (ae Tryz.f92)))) [.blk 0, .seq (xJ (ae Tryz.f92))] 168 (mkF 168 0 [(0, .ptr 0 0), (1, .int .i64 p1), (4, .ptr 1 0), (24, .int .i64 d)]) ⟨2, [(1, .var 35 [.int .i64 0, .str [], .nils, .nils]), (0, .var 108 [.row 1 (List.map (V.int .i64) b), .int .i64 c])]⟩
def fK (m : Nat) (p1 : Int) (b : List Int) (c d : Int) (r0 : Tree) (e : List Int) (a : Int) : Prop := ∀ (K : Ctx), aq K [0] → qLG K Tryz.f92 (fun u G => u = .agg (an r0) ∧ G = ⟨2, [(0, .var 108 [.row 1 (List.map (V.int .i64) e), .int .i64 a])]⟩) (xG (xK (cB (ae Tryz.f92)))) [.blk 0, .seq (xJ (ae Tryz.f92))] 168 (mkF 168 0 [(0, .ptr 0 0), (1, .int .i64 p1), (4, .ptr 1 0), (24, .int .i64 d)]) ⟨2, [(1, .var 35 [.int .i64 0, .str [], .nils, .nils]), (0, .var 108 [.row 1 (List.map (V.int .i64) b), .int .i64 c])]⟩
def iC (m : Nat) (p1 : Int) (b : List Int) (c d : Int) (e : Bool) (r0 : Tree) (f : List Int) (a : Int) : Prop := ∀ (K : Ctx), aq K [0] → qLG K Tryz.f92 (fun u G => u = .agg (an r0) ∧ G = ⟨2, [(0, .var 108 [.row 1 (List.map (V.int .i64) f), .int .i64 a])]⟩) (cB (xG (xK (cB (ae Tryz.f92))))) [.blk 0, .seq (xJ (ae Tryz.f92))] 168 (mkF 168 0 [(0, .ptr 0 0), (1, .int .i64 p1), (4, .ptr 1 0), (24, .int .i64 d), (57, .bool e)]) ⟨2, [(1, .var 35 [.int .i64 0, .str [], .nils, .nils]), (0, .var 108 [.row 1 (List.map (V.int .i64) b), .int .i64 c])]⟩
def iJ (m : Nat) (p1 : Int) (b : List Int) (c : Int) (r0 : Tree) (d : List Int) (a : Int) : Prop := ∀ (K : Ctx), aq K [0] → qLG K Tryz.f92 (fun u G => u = .agg (an r0) ∧ G = ⟨2, [(0, .var 108 [.row 1 (List.map (V.int .i64) d), .int .i64 a])]⟩) (xM (xG (xK (cB (ae Tryz.f92))))) [.blk 0, .seq (xJ (ae Tryz.f92))] 168 (mkF 168 0 [(0, .ptr 0 0), (1, .int .i64 p1), (4, .ptr 1 0)]) ⟨2, [(1, .var 35 [.int .i64 0, .str [], .nils, .nils]), (0, .var 108 [.row 1 (List.map (V.int .i64) b), .int .i64 c])]⟩
def dR (m : Nat) (p1 : Int) (b : List Int) (c d : Int) (r0 : Tree) (e : List Int) (a : Int) : Prop := ∀ (K : Ctx), aq K [0] → qLG K Tryz.f92 (fun u G => u = .agg (an r0) ∧ G = ⟨2, [(0, .var 108 [.row 1 (List.map (V.int .i64) e), .int .i64 a])]⟩) (xG (xC (xF (cB (ae Tryz.f92))))) [.blk 0, .seq (xJ (ae Tryz.f92))] 168 (mkF 168 0 [(0, .ptr 0 0), (1, .int .i64 p1), (4, .ptr 1 0), (24, .int .i64 d)]) ⟨2, [(1, .var 35 [.int .i64 0, .str [], .nils, .nils]), (0, .var 108 [.row 1 (List.map (V.int .i64) b), .int .i64 c])]⟩
def fb (m : Nat) (p1 : Int) (f : List UInt8) (a : List Int) (b : Int) (c : List Tree) (d : Int) (r0 : Tree) (g : List Int) (e : Int) : Prop := ∀ (K : Ctx) (j1 : Nat), aq K [0] → m ≤ j1 → qLG K Tryz.f92 (fun u G => u = .agg (an r0) ∧ G = ⟨2, [(0, .var 108 [.row 1 (List.map (V.int .i64) g), .int .i64 e])]⟩) (cL (xN (xM (xG (xK (cB (ae Tryz.f92))))))) [.loop (cL (xN (xM (xG (xK (cB (ae Tryz.f92))))))) j1, .blk 1, .seq (xA (xM (xG (xK (cB (ae Tryz.f92)))))), .blk 0, .seq (xJ (ae Tryz.f92))] 168 (mkF 168 0 [(0, .ptr 0 0), (1, .int .i64 p1), (4, .ptr 1 0), (6, .ptr 2 0), (7, .int .i64 d)]) ⟨4, [(3, .row 35 4 (kidsV c)), (2, .var 35 [.int .i64 16, .str f, .nils, .sl 3]), (1, .var 35 [.int .i64 0, .str [], .nils, .nils]), (0, .var 108 [.row 1 (List.map (V.int .i64) a), .int .i64 b])]⟩
def fi (m : Nat) (p1 : Int) (a : List Int) (b : Int) (c : List Tree) (d : Int) (r0 : Tree) (f : List Int) (e : Int) : Prop := ∀ (K : Ctx) (j1 : Nat), aq K [0] → m ≤ j1 → qLG K Tryz.f92 (fun u G => u = .agg (an r0) ∧ G = ⟨2, [(0, .var 108 [.row 1 (List.map (V.int .i64) f), .int .i64 e])]⟩) (cL (xN (xM (xG (xC (xF (cB (ae Tryz.f92)))))))) [.loop (cL (xN (xM (xG (xC (xF (cB (ae Tryz.f92)))))))) j1, .blk 3, .seq (xA (xM (xG (xC (xF (cB (ae Tryz.f92))))))), .blk 0, .seq (xJ (ae Tryz.f92))] 168 (mkF 168 0 [(0, .ptr 0 0), (1, .int .i64 p1), (4, .ptr 1 0), (8, .ptr 2 0), (9, .int .i64 d)]) ⟨4, [(3, .row 35 4 (kidsV c)), (2, .var 35 [.int .i64 18, .str [], .nils, .sl 3]), (1, .var 35 [.int .i64 0, .str [], .nils, .nils]), (0, .var 108 [.row 1 (List.map (V.int .i64) a), .int .i64 b])]⟩
def fe (m : Nat) (p1 : Int) (b : List Int) (c d : Int) (r0 : Tree) (e : List Int) (a : Int) : Prop := ∀ (K : Ctx), aq K [0] → qLG K Tryz.f92 (fun u G => u = .agg (an r0) ∧ G = ⟨2, [(0, .var 108 [.row 1 (List.map (V.int .i64) e), .int .i64 a])]⟩) (xG (xC (xK (cB (ae Tryz.f92))))) [.blk 0, .seq (xJ (ae Tryz.f92))] 168 (mkF 168 0 [(0, .ptr 0 0), (1, .int .i64 p1), (4, .ptr 1 0), (24, .int .i64 d)]) ⟨2, [(1, .var 35 [.int .i64 0, .str [], .nils, .nils]), (0, .var 108 [.row 1 (List.map (V.int .i64) b), .int .i64 c])]⟩
def lF (m : Nat) (p1 : Int) (b : List Int) (c : Int) (r0 : Tree) (d : List Int) (a : Int) : Prop := ∀ (K : Ctx), aq K [0] → qLG K Tryz.f92 (fun u G => u = .agg (an r0) ∧ G = ⟨2, [(0, .var 108 [.row 1 (List.map (V.int .i64) d), .int .i64 a])]⟩) (xM (xG (xC (xK (cB (ae Tryz.f92)))))) [.blk 0, .seq (xJ (ae Tryz.f92))] 168 (mkF 168 0 [(0, .ptr 0 0), (1, .int .i64 p1), (4, .ptr 1 0)]) ⟨2, [(1, .var 35 [.int .i64 0, .str [], .nils, .nils]), (0, .var 108 [.row 1 (List.map (V.int .i64) b), .int .i64 c])]⟩
def dC (m : Nat) (p1 : Int) (b : List Int) (c d : Int) (r0 : Tree) (e : List Int) (a : Int) : Prop := ∀ (K : Ctx), aq K [0] → qLG K Tryz.f92 (fun u G => u = .agg (an r0) ∧ G = ⟨2, [(0, .var 108 [.row 1 (List.map (V.int .i64) e), .int .i64 a])]⟩) (xL (xF (cB (ae Tryz.f92)))) [.blk 0, .seq (xJ (ae Tryz.f92))] 168 (mkF 168 0 [(0, .ptr 0 0), (1, .int .i64 p1), (4, .ptr 1 0), (24, .int .i64 d)]) ⟨2, [(1, .var 35 [.int .i64 0, .str [], .nils, .nils]), (0, .var 108 [.row 1 (List.map (V.int .i64) b), .int .i64 c])]⟩
def ii (m : Nat) (p1 : Int) (c : List Int) (d e : Int) (a : Bool) (r0 : Tree) (f : List Int) (b : Int) : Prop := ∀ (K : Ctx), aq K [0] → qLG K Tryz.f92 (fun u G => u = .agg (an r0) ∧ G = ⟨2, [(0, .var 108 [.row 1 (List.map (V.int .i64) f), .int .i64 b])]⟩) (cB (xL (xF (cB (ae Tryz.f92))))) [.blk 0, .seq (xJ (ae Tryz.f92))] 168 (mkF 168 0 [(0, .ptr 0 0), (1, .int .i64 p1), (4, .ptr 1 0), (24, .int .i64 e), (118, .bool a)]) ⟨2, [(1, .var 35 [.int .i64 0, .str [], .nils, .nils]), (0, .var 108 [.row 1 (List.map (V.int .i64) c), .int .i64 d])]⟩
def ik (m : Nat) (p1 : Int) (b : List Int) (c : Int) (r0 : Tree) (d : List Int) (a : Int) : Prop := ∀ (K : Ctx), aq K [0] → qLG K Tryz.f92 (fun u G => u = .agg (an r0) ∧ G = ⟨2, [(0, .var 108 [.row 1 (List.map (V.int .i64) d), .int .i64 a])]⟩) (xM (xL (xF (cB (ae Tryz.f92))))) [.blk 0, .seq (xJ (ae Tryz.f92))] 168 (mkF 168 0 [(0, .ptr 0 0), (1, .int .i64 p1), (4, .ptr 1 0)]) ⟨2, [(1, .var 35 [.int .i64 0, .str [], .nils, .nils]), (0, .var 108 [.row 1 (List.map (V.int .i64) b), .int .i64 c])]⟩
def eZ (m : Nat) (p1 : Int) (b : List Int) (c d : Int) (r0 : Tree) (e : List Int) (a : Int) : Prop := ∀ (K : Ctx), aq K [0] → qLG K Tryz.f92 (fun u G => u = .agg (an r0) ∧ G = ⟨2, [(0, .var 108 [.row 1 (List.map (V.int .i64) e), .int .i64 a])]⟩) (xL (xK (cB (ae Tryz.f92)))) [.blk 0, .seq (xJ (ae Tryz.f92))] 168 (mkF 168 0 [(0, .ptr 0 0), (1, .int .i64 p1), (4, .ptr 1 0), (24, .int .i64 d)]) ⟨2, [(1, .var 35 [.int .i64 0, .str [], .nils, .nils]), (0, .var 108 [.row 1 (List.map (V.int .i64) b), .int .i64 c])]⟩
def lC (m : Nat) (p1 : Int) (b : List Int) (c : Int) (r0 : Tree) (d : List Int) (a : Int) : Prop := ∀ (K : Ctx), aq K [0] → qLG K Tryz.f92 (fun u G => u = .agg (an r0) ∧ G = ⟨2, [(0, .var 108 [.row 1 (List.map (V.int .i64) d), .int .i64 a])]⟩) (xM (xL (xK (cB (ae Tryz.f92))))) [.blk 0, .seq (xJ (ae Tryz.f92))] 168 (mkF 168 0 [(0, .ptr 0 0), (1, .int .i64 p1), (4, .ptr 1 0)]) ⟨2, [(1, .var 35 [.int .i64 0, .str [], .nils, .nils]), (0, .var 108 [.row 1 (List.map (V.int .i64) b), .int .i64 c])]⟩
theorem fG (m : Nat) (g : List Int) (f p1 : Int) (r0 : Tree) (e : List Int) (b : Int) (h : ∃ a c d, aA g f 14 a c d ∧ ((p1 < 1) → ((5 < a) → InI (a - 6) ∧ ((5 < (a - 6)) → bS m p1 c d 0 r0 e b) ∧ ((¬ 5 < (a - 6)) → bS m p1 c d (a - 6) r0 e b)) ∧ ((¬ 5 < a) → bS m p1 c d a r0 e b)) ∧ ((¬ p1 < 1) → bS m p1 c d a r0 e b)) : aH g f p1 r0 e b := by
 refine ak 168 [0] Tryz.func92 rfl rfl rfl (az rfl) fun K hK => ?_
 refine gR 8 rfl ?_
 obtain ⟨a, c, d, hs75, h⟩ := h
 refine gC hs75 [0] (by kernel_rfl) rfl rfl .rfl ⟨⟨_, rfl, ⟨rfl, au.rfl⟩⟩, trivial⟩ rfl ?_
 rintro _ _ ⟨rfl, rfl⟩
 refine gR 9 rfl <| qBdZ 16 15 rfl rfl rfl rfl h (fun h => ?_) fun h => ?_
 refine gR 5 rfl <| qBd 19 rfl rfl rfl h (fun h => ?_) fun h => ?_
 refine gR 4 rfl ?_
 obtain ⟨hb, h⟩ := h
 refine gR 1 rfl <| gV 21 (.int .i64 (a - 6)) rfl (ao hb rfl) rfl <| gR 9 rfl <| qBd 23 rfl rfl rfl h (fun h => ?_) fun h => ?_
 exact gR 5 rfl <| gJ (h K hK) [0, 1] [0] rfl hK pq4 (pqo2 rfl rfl rfl rfl) rfl
 exact gR 3 rfl <| gJ (h K hK) [0, 1] [0] rfl hK pq4 (pqo2 rfl rfl rfl rfl) rfl
 exact gR 3 rfl <| gJ (h K hK) [0, 1] [0] rfl hK pq4 (pqo2 rfl rfl rfl rfl) rfl
 exact gR 8 rfl <| gJ (h K hK) [0, 1] [0] rfl hK pq4 (pqo2 rfl rfl rfl rfl) rfl
theorem rL0_semvcsmake_Expr (m : Nat) (p1 : Int) (c : List Int) (d a : Int) (r0 : Tree) (e : List Int) (b : Int) (h : ((a = 0) → iL m p1 c d a true r0 e b) ∧ ((a ≠ 0) → iL m p1 c d a (a == 1) r0 e b)) : bS (m + 1) p1 c d a r0 e b := by
 intro K hK
 refine gR 14 rfl <| qBeZ 25 26 rfl rfl rfl rfl h (fun h => ?_) fun h => ?_
 exact gR 3 rfl <| gJ (h K hK) [0, 1] [0] rfl hK pq5 (pqo2 rfl rfl rfl rfl) rfl
 exact gR 6 rfl <| gJ (h K hK) [0, 1] [0] rfl hK pq5 (pqo2 rfl rfl rfl rfl) rfl
theorem ig (m : Nat) (p1 : Int) (e : List Int) (f j : Int) (g : Bool) (r0 : Tree) (i : List Int) (b : Int) (h : ((g = true) → ∃ a c d, aT e f [[120], [121], [122]] a c d ∧ (Tree.node 12 a [] []) = r0 ∧ c = i ∧ d = b) ∧ ((g = false) → fP m p1 e f j r0 i b)) : iL (m + 1) p1 e f j g r0 i b := by
 intro K hK
 refine qBi 25 rfl rfl rfl h (fun h => ?_) fun h => ?_
 refine gR 5 rfl <| gFR 2 rfl rfl rfl rfl ?_
 obtain ⟨a, c, d, hs76, h⟩ := h
 refine gC hs76 [0] (by kernel_rfl) rfl rfl .rfl ⟨⟨_, rfl, ⟨rfl, au.rfl⟩⟩, trivial⟩ rfl ?_
 rintro _ _ ⟨rfl, rfl⟩
 refine gR 7 rfl ?_
 obtain ⟨rfl, rfl, rfl⟩ := h
 exact go_sub (F' := (mkF 168 0 [(4, .ptr 1 0)])) (H' := ⟨2, [(1, .var 35 [.int .i64 ((Tree.node 12 a [] []).kind), .str ((Tree.node 12 a [] []).text), .row 1 (List.map V.str ((Tree.node 12 a [] []).leads)), .row 4 (kidsV ((Tree.node 12 a [] []).kids))]), (0, .var 108 [.row 1 (List.map (V.int .i64) c), .int .i64 d])]⟩) [0, 1] [0] rfl hK pq1 ⟨⟨_, rfl, rfl, (.cons .rfl (.cons .rfl (.cons (.nil 1) (.cons (.nil 4) .nil))))⟩, (pqo1 rfl rfl)⟩ rfl <| go_endD [1] ac (rs := [.cell 4 35]) rfl rfl ⟨rfl, rfl⟩
 exact gR 1 rfl <| gJ (h K hK) [0, 1] [0] rfl hK pq4 (pqo2 rfl rfl rfl rfl) rfl
theorem rL2_semvcsmake_Expr (m : Nat) (p1 : Int) (f : List Int) (g c : Int) (r0 : Tree) (i : List Int) (b : Int) (h : ((c = 2) → ∃ a d e, aT f g [[48], [49], [50], [49, 48]] a d e ∧ (Tree.node 10 a [] []) = r0 ∧ d = i ∧ e = b) ∧ ((c ≠ 2) → mv m p1 f g c r0 i b)) : fP (m + 1) p1 f g c r0 i b := by
 intro K hK
 refine gR 6 rfl <| qBeZ 32 33 rfl rfl rfl rfl h (fun h => ?_) fun h => ?_
 refine gR 5 rfl <| gFR 2 rfl rfl rfl rfl ?_
 obtain ⟨a, d, e, hs77, h⟩ := h
 refine gC hs77 [0] (by kernel_rfl) rfl rfl .rfl ⟨⟨_, rfl, ⟨rfl, au.rfl⟩⟩, trivial⟩ rfl ?_
 rintro _ _ ⟨rfl, rfl⟩
 refine gR 7 rfl ?_
 obtain ⟨rfl, rfl, rfl⟩ := h
 exact go_sub (F' := (mkF 168 0 [(4, .ptr 1 0)])) (H' := ⟨2, [(1, .var 35 [.int .i64 ((Tree.node 10 a [] []).kind), .str ((Tree.node 10 a [] []).text), .row 1 (List.map V.str ((Tree.node 10 a [] []).leads)), .row 4 (kidsV ((Tree.node 10 a [] []).kids))]), (0, .var 108 [.row 1 (List.map (V.int .i64) d), .int .i64 e])]⟩) [0, 1] [0] rfl hK pq1 ⟨⟨_, rfl, rfl, (.cons .rfl (.cons .rfl (.cons (.nil 1) (.cons (.nil 4) .nil))))⟩, (pqo1 rfl rfl)⟩ rfl <| go_endD [1] ac (rs := [.cell 4 35]) rfl rfl ⟨rfl, rfl⟩
 exact gR 1 rfl <| gJ (h K hK) [0, 1] [0] rfl hK pq4 (pqo2 rfl rfl rfl rfl) rfl
theorem dD (m : Nat) (p1 : Int) (f : List Int) (g c : Int) (r0 : Tree) (i : List Int) (b : Int) (h : ((c = 3) → ∃ a d e, aT f g [[34, 34], [34, 97, 34], [34, 35, 32, 98, 34]] a d e ∧ (Tree.node 11 a [] []) = r0 ∧ d = i ∧ e = b) ∧ ((c ≠ 3) → mx m p1 f g c r0 i b)) : mv (m + 1) p1 f g c r0 i b := by
 intro K hK
 refine gR 6 rfl <| qBeZ 38 39 rfl rfl rfl rfl h (fun h => ?_) fun h => ?_
 refine gR 5 rfl <| gFR 2 rfl rfl rfl rfl ?_
 obtain ⟨a, d, e, hs78, h⟩ := h
 refine gC hs78 [0] (by kernel_rfl) rfl rfl .rfl ⟨⟨_, rfl, ⟨rfl, au.rfl⟩⟩, trivial⟩ rfl ?_
 rintro _ _ ⟨rfl, rfl⟩
 refine gR 7 rfl ?_
 obtain ⟨rfl, rfl, rfl⟩ := h
 exact go_sub (F' := (mkF 168 0 [(4, .ptr 1 0)])) (H' := ⟨2, [(1, .var 35 [.int .i64 ((Tree.node 11 a [] []).kind), .str ((Tree.node 11 a [] []).text), .row 1 (List.map V.str ((Tree.node 11 a [] []).leads)), .row 4 (kidsV ((Tree.node 11 a [] []).kids))]), (0, .var 108 [.row 1 (List.map (V.int .i64) d), .int .i64 e])]⟩) [0, 1] [0] rfl hK pq1 ⟨⟨_, rfl, rfl, (.cons .rfl (.cons .rfl (.cons (.nil 1) (.cons (.nil 4) .nil))))⟩, (pqo1 rfl rfl)⟩ rfl <| go_endD [1] ac (rs := [.cell 4 35]) rfl rfl ⟨rfl, rfl⟩
 exact gR 1 rfl <| gJ (h K hK) [0, 1] [0] rfl hK pq4 (pqo2 rfl rfl rfl rfl) rfl
theorem fg (m : Nat) (p1 : Int) (f : List Int) (g c : Int) (r0 : Tree) (i : List Int) (b : Int) (h : ((c = 4) → ∃ a d e, aA f g 2 a d e ∧ InI (13 + a) ∧ (Tree.node (13 + a) [] [] []) = r0 ∧ d = i ∧ e = b) ∧ ((c ≠ 4) → ms m p1 f g c r0 i b)) : mx (m + 1) p1 f g c r0 i b := by
 intro K hK
 refine gR 6 rfl <| qBeZ 44 45 rfl rfl rfl rfl h (fun h => ?_) fun h => ?_
 refine gR 4 rfl ?_
 obtain ⟨a, d, e, hs79, h⟩ := h
 refine gC hs79 [0] (by kernel_rfl) rfl rfl .rfl ⟨⟨_, rfl, ⟨rfl, au.rfl⟩⟩, trivial⟩ rfl ?_
 rintro _ _ ⟨rfl, rfl⟩
 obtain ⟨hb, h⟩ := h
 refine gR 1 rfl <| gV 48 (.int .i64 (13 + a)) rfl (ao hb rfl) rfl <| gR 7 rfl ?_
 obtain ⟨rfl, rfl, rfl⟩ := h
 exact go_sub (F' := (mkF 168 0 [(4, .ptr 1 0)])) (H' := ⟨2, [(1, .var 35 [.int .i64 ((Tree.node (13 + a) [] [] []).kind), .str ((Tree.node (13 + a) [] [] []).text), .row 1 (List.map V.str ((Tree.node (13 + a) [] [] []).leads)), .row 4 (kidsV ((Tree.node (13 + a) [] [] []).kids))]), (0, .var 108 [.row 1 (List.map (V.int .i64) d), .int .i64 e])]⟩) [0, 1] [0] rfl hK pq1 ⟨⟨_, rfl, rfl, (.cons .rfl (.cons .rfl (.cons (.nil 1) (.cons (.nil 4) .nil))))⟩, (pqo1 rfl rfl)⟩ rfl <| go_endD [1] ac (rs := [.cell 4 35]) rfl rfl ⟨rfl, rfl⟩
 exact gR 1 rfl <| gJ (h K hK) [0, 1] [0] rfl hK pq4 (pqo2 rfl rfl rfl rfl) rfl
theorem ij (m : Nat) (p1 : Int) (g : List Int) (i d : Int) (r0 : Tree) (e : List Int) (c : Int) (h : ((d = 5) → ∃ f a b, aA g i 3 f a b ∧ ((f = 0) → (Tree.node 15 [] [] []) = r0 ∧ a = e ∧ b = c) ∧ ((f ≠ 0) → (Tree.node 10 [51] [] []) = r0 ∧ a = e ∧ b = c)) ∧ ((d ≠ 5) → fK m p1 g i d r0 e c)) : ms (m + 1) p1 g i d r0 e c := by
 intro K hK
 refine gR 6 rfl <| qBeZ 50 51 rfl rfl rfl rfl h (fun h => ?_) fun h => ?_
 refine gR 5 rfl ?_
 obtain ⟨f, a, b, hs80, h⟩ := h
 refine gC hs80 [0] (by kernel_rfl) rfl rfl .rfl ⟨⟨_, rfl, ⟨rfl, au.rfl⟩⟩, trivial⟩ rfl ?_
 rintro _ _ ⟨rfl, rfl⟩
 refine gR 3 rfl <| qBe 54 rfl rfl rfl h (fun h => ?_) fun h => ?_
 refine gR 11 rfl ?_
 obtain ⟨rfl, rfl, rfl⟩ := h
 exact go_sub (F' := (mkF 168 0 [(4, .ptr 1 0)])) (H' := ⟨2, [(1, .var 35 [.int .i64 ((Tree.node 15 [] [] []).kind), .str ((Tree.node 15 [] [] []).text), .row 1 (List.map V.str ((Tree.node 15 [] [] []).leads)), .row 4 (kidsV ((Tree.node 15 [] [] []).kids))]), (0, .var 108 [.row 1 (List.map (V.int .i64) a), .int .i64 b])]⟩) [0, 1] [0] rfl hK pq1 ⟨⟨_, rfl, rfl, (.cons .rfl (.cons .rfl (.cons (.nil 1) (.cons (.nil 4) .nil))))⟩, (pqo1 rfl rfl)⟩ rfl <| go_endD [1] ac (rs := [.cell 4 35]) rfl rfl ⟨rfl, rfl⟩
 refine gR 12 rfl ?_
 obtain ⟨rfl, rfl, rfl⟩ := h
 exact go_sub (F' := (mkF 168 0 [(4, .ptr 1 0)])) (H' := ⟨2, [(1, .var 35 [.int .i64 ((Tree.node 10 [51] [] []).kind), .str ((Tree.node 10 [51] [] []).text), .row 1 (List.map V.str ((Tree.node 10 [51] [] []).leads)), .row 4 (kidsV ((Tree.node 10 [51] [] []).kids))]), (0, .var 108 [.row 1 (List.map (V.int .i64) a), .int .i64 b])]⟩) [0, 1] [0] rfl hK pq1 ⟨⟨_, rfl, rfl, (.cons .rfl (.cons .rfl (.cons (.nil 1) (.cons (.nil 4) .nil))))⟩, (pqo1 rfl rfl)⟩ rfl <| go_endD [1] ac (rs := [.cell 4 35]) rfl rfl ⟨rfl, rfl⟩
 exact gR 1 rfl <| gJ (h K hK) [0, 1] [0] rfl hK pq4 (pqo2 rfl rfl rfl rfl) rfl
theorem rL6_semvcsmake_Expr (m : Nat) (p1 : Int) (c : List Int) (d a : Int) (r0 : Tree) (e : List Int) (b : Int) (h : ((a = 6) → iC m p1 c d a true r0 e b) ∧ ((a ≠ 6) → iC m p1 c d a (a == 7) r0 e b)) : fK (m + 1) p1 c d a r0 e b := by
 intro K hK
 refine gR 7 rfl <| qBeZ 57 58 rfl rfl rfl rfl h (fun h => ?_) fun h => ?_
 exact gR 3 rfl <| gJ (h K hK) [0, 1] [0] rfl hK pq5 (pqo2 rfl rfl rfl rfl) rfl
 exact gR 6 rfl <| gJ (h K hK) [0, 1] [0] rfl hK pq5 (pqo2 rfl rfl rfl rfl) rfl
theorem il (m : Nat) (p1 : Int) (b : List Int) (c f : Int) (d : Bool) (r0 : Tree) (e : List Int) (a : Int) (h : ((d = true) → iJ m p1 b c r0 e a) ∧ ((d = false) → dR m p1 b c f r0 e a)) : iC (m + 1) p1 b c f d r0 e a := by
 intro K hK
 refine qBi 57 rfl rfl rfl h (fun h => ?_) fun h => ?_
 exact gR 1 rfl <| gJ (h K hK) [0, 1] [0] rfl hK pq3 (pqo2 rfl rfl rfl rfl) rfl
 exact gR 1 rfl <| gJ (h K hK) [0, 1] [0] rfl hK pq4 (pqo2 rfl rfl rfl rfl) rfl
theorem qy (m : Nat) (p1 : Int) (i : List Int) (j : Int) (r0 : Tree) (k : List Int) (a : Int) (h : ∃ b c d, aT i j [[102], [103], [104], [65, 46, 102], [66, 46, 103], [65, 46, 104]] b c d ∧ ∃ e f g, aA c d 4 e f g ∧ fb m p1 b f g ([] : List Tree) e r0 k a) : iJ (m + 1) p1 i j r0 k a := by
 intro K hK
 refine gR 4 rfl <| gFR 2 rfl rfl rfl rfl ?_
 obtain ⟨b, c, d, hs81, h⟩ := h
 refine gC hs81 [0] (by kernel_rfl) rfl rfl .rfl ⟨⟨_, rfl, ⟨rfl, au.rfl⟩⟩, trivial⟩ rfl ?_
 rintro _ _ ⟨rfl, rfl⟩
 refine gR 9 rfl ?_
 obtain ⟨e, f, g, hs82, h⟩ := h
 refine gC hs82 [0] (by kernel_rfl) rfl rfl .rfl ⟨⟨_, rfl, ⟨rfl, au.rfl⟩⟩, trivial⟩ rfl ?_
 rintro _ _ ⟨rfl, rfl⟩
 exact gR 4 rfl <| go_loop m <| gNC 4 3 35 4 rfl rfl rfl rfl <| gJ (h K _ hK (by omega)) [0, 1, 4, 6] [0] rfl hK pq5 ⟨⟨_, rfl, rfl, rfl, rfl⟩, (pqo3 rfl rfl rfl rfl rfl rfl)⟩ rfl
theorem lH (m : Nat) (p1 : Int) (f : List Int) (g e : Int) (r0 : Tree) (i : List Int) (b : Int) (h : ((e = 8) → ∃ a c d, aA f g 3 a c d ∧ InI (1 + a) ∧ fi m p1 c d ([] : List Tree) (1 + a) r0 i b) ∧ ((e ≠ 8) → fe m p1 f g e r0 i b)) : dR (m + 1) p1 f g e r0 i b := by
 intro K hK
 refine gR 6 rfl <| gB 82 rfl rfl rfl ?_ ?_ <;> intro hd
 refine gT 83 rfl hd rfl ?_
 replace hd := (eq_of_beq hd)
 replace h := h.1 hd
 refine gR 12 rfl ?_
 obtain ⟨a, c, d, hs83, h⟩ := h
 refine gC hs83 [0] (by kernel_rfl) rfl rfl .rfl ⟨⟨_, rfl, ⟨rfl, au.rfl⟩⟩, trivial⟩ rfl ?_
 rintro _ _ ⟨rfl, rfl⟩
 obtain ⟨hb, h⟩ := h
 exact gR 1 rfl <| gV 87 (.int .i64 (1 + a)) rfl (ao hb rfl) rfl <| gR 4 rfl <| go_loop m <| gNC 2 3 35 4 rfl rfl rfl rfl <| gJ (h K _ hK (by omega)) [0, 1, 2, 4] [0] rfl hK pq5 ⟨⟨_, rfl, rfl, rfl, rfl⟩, (pqo3 rfl rfl rfl rfl rfl rfl)⟩ rfl
 refine gF 83 rfl hd rfl ?_
 replace hd := (ne_of_beq_false hd)
 replace h := h.2 hd
 exact gR 1 rfl <| gJ (h K hK) [0, 1] [0] rfl hK pq4 (pqo2 rfl rfl rfl rfl) rfl
theorem ln (m : Nat) (p1 : Int) (d : List UInt8) (e : List Int) (f : Int) (b : List Tree) (c : Int) (r0 : Tree) (l : List Int) (g : Int) (h : ((0 < c) → InI (p1 - 1) ∧ ∃ a i k, aH e f (p1 - 1) a i k ∧ (b ++ [(Tree.node 17 [] [] [a])]).length ≤ 1000000000 ∧ InI (c - 1) ∧ fb m p1 d i k (b ++ [(Tree.node 17 [] [] [a])]) (c - 1) r0 l g) ∧ ((¬ 0 < c) → (Tree.node 16 d [] b) = r0 ∧ e = l ∧ f = g)) : fb (m + 1) p1 d e f b c r0 l g := by
 intro K j1 hK hj1
 obtain ⟨j1, rfl⟩ : ∃ j, j1 = j + 1 := ⟨j1 - 1, by omega⟩
 refine gR 7 rfl <| gB 67 rfl rfl rfl ?_ ?_ <;> intro hd
 replace hd := (of_decide_eq_true hd)
 replace h := h.1 hd
 refine gR 5 rfl <| gDs [2] 11 12 rfl (by kernel_rfl) (by kernel_rfl) <| gDr [(0, 2), (1, 3), (2, 2), (3, 0)] (by kernel_rfl) rfl rfl ?_
 obtain ⟨hb, h⟩ := h
 refine gDr [(4, 0)] (by kernel_rfl) rfl rfl <| gV 74 (.int .i64 (p1 - 1)) rfl (ao hb rfl) rfl ?_
 obtain ⟨a, i, k, hs84, h⟩ := h
 refine gDC 5 hs84 [0] (by kernel_rfl) rfl (by kernel_rfl) rfl rfl .rfl ⟨⟨_, rfl, ⟨rfl, au.rfl⟩⟩, trivial⟩ (by kernel_rfl) rfl ?_
 rintro _ _ ⟨rfl, rfl⟩
 refine gDr [(6, 0)] (by kernel_rfl) rfl rfl <| gHR 6 (kidsV [a]) rfl (cI a) rfl <| gDr [(7, 0)] (by kernel_rfl) rfl rfl <| gFR 6 rfl (aU _) rfl rfl <| gS 77 (.agg [.int .i64 17, .str [], .row 1 [], .row 4 (kidsV [a])]) rfl (.agg (.cons .rfl (.cons .rfl (.cons (.nil 1) (.cons .rfl .nil))))) rfl <| gDr [(8, 0)] (by kernel_rfl) rfl rfl <| gHR 7 (kidsV [(Tree.node 17 [] [] [a])]) rfl (cI (Tree.node 17 [] [] [a])) rfl ?_
 obtain ⟨hb, h⟩ := h
 refine bW 9 (.repl 3 (.row 35 4 (kidsV (b ++ [(Tree.node 17 [] [] [a])])))) rfl (by kernel_rfl) (bu ac rfl rfl rfl rfl rfl (eN b [(Tree.node 17 [] [] [a])]).symm (by rw [aI]; exact hb)) (okR rfl) rfl (by kernel_rfl) rfl rfl ?_
 refine gDr [(10, 0), (11, 1)] (by kernel_rfl) rfl rfl <| gDe (by kernel_rfl) <| gR 4 rfl ?_
 obtain ⟨hb, h⟩ := h
 exact gR 1 rfl <| gV 69 (.int .i64 (c - 1)) rfl (ao hb rfl) rfl <| gR 2 rfl <| go_xloop <| gJ (h K _ hK (by omega)) [0, 1, 2, 8] [0] rfl hK pq5 ⟨⟨_, rfl, rfl, rfl, (eR _ (b ++ [(Tree.node 17 [] [] [a])])).symm⟩, (pqo3 rfl rfl rfl rfl rfl rfl)⟩ rfl
 replace hd := (of_decide_eq_false hd)
 replace h := h.2 hd
 refine gR 3 rfl <| go_xloopE <| gR 11 rfl <| gFR 3 rfl (aU _) rfl rfl ?_
 obtain ⟨rfl, rfl, rfl⟩ := h
 exact go_sub (F' := (mkF 168 0 [(4, .ptr 1 0)])) (H' := ⟨2, [(1, .var 35 [.int .i64 ((Tree.node 16 d [] b).kind), .str ((Tree.node 16 d [] b).text), .row 1 (List.map V.str ((Tree.node 16 d [] b).leads)), .row 4 (kidsV ((Tree.node 16 d [] b).kids))]), (0, .var 108 [.row 1 (List.map (V.int .i64) e), .int .i64 f])]⟩) [0, 1] [0] rfl hK pq1 ⟨⟨_, rfl, rfl, (.cons .rfl (.cons .rfl (.cons (.nil 1) (.cons .rfl .nil))))⟩, (pqo1 rfl rfl)⟩ rfl <| go_endD [1] ac (rs := [.cell 4 35]) rfl rfl ⟨rfl, rfl⟩
theorem kU (m : Nat) (p1 : Int) (d : List Int) (e : Int) (a : List Tree) (c : Int) (r0 : Tree) (k : List Int) (f : Int) (h : ((0 < c) → InI (p1 - 1) ∧ ∃ b g i, aH d e (p1 - 1) b g i ∧ (a ++ [b]).length ≤ 1000000000 ∧ InI (c - 1) ∧ fi m p1 g i (a ++ [b]) (c - 1) r0 k f) ∧ ((¬ 0 < c) → (Tree.node 18 [] [] a) = r0 ∧ d = k ∧ e = f)) : fi (m + 1) p1 d e a c r0 k f := by
 intro K j1 hK hj1
 obtain ⟨j1, rfl⟩ : ∃ j, j1 = j + 1 := ⟨j1 - 1, by omega⟩
 refine gR 7 rfl <| gB 89 rfl rfl rfl ?_ ?_ <;> intro hd
 replace hd := (of_decide_eq_true hd)
 replace h := h.1 hd
 refine gR 5 rfl <| gDs [2] 9 10 rfl (by kernel_rfl) (by kernel_rfl) <| gDr [(0, 2), (1, 3), (2, 2), (3, 0)] (by kernel_rfl) rfl rfl ?_
 obtain ⟨hb, h⟩ := h
 refine gDr [(4, 0)] (by kernel_rfl) rfl rfl <| gV 96 (.int .i64 (p1 - 1)) rfl (ao hb rfl) rfl ?_
 obtain ⟨b, g, i, hs85, h⟩ := h
 refine gDC 5 hs85 [0] (by kernel_rfl) rfl (by kernel_rfl) rfl rfl .rfl ⟨⟨_, rfl, ⟨rfl, au.rfl⟩⟩, trivial⟩ (by kernel_rfl) rfl ?_
 rintro _ _ ⟨rfl, rfl⟩
 refine gDr [(6, 0)] (by kernel_rfl) rfl rfl <| gHR 6 (kidsV [b]) rfl (cI b) rfl ?_
 obtain ⟨hb, h⟩ := h
 refine bW 7 (.repl 3 (.row 35 4 (kidsV (a ++ [b])))) rfl (by kernel_rfl) (bu ac rfl rfl rfl rfl rfl (eN a [b]).symm (by rw [aI]; exact hb)) (okR rfl) rfl (by kernel_rfl) rfl rfl ?_
 refine gDr [(8, 0), (9, 1)] (by kernel_rfl) rfl rfl <| gDe (by kernel_rfl) <| gR 4 rfl ?_
 obtain ⟨hb, h⟩ := h
 exact gR 1 rfl <| gV 91 (.int .i64 (c - 1)) rfl (ao hb rfl) rfl <| gR 2 rfl <| go_xloop <| gJ (h K _ hK (by omega)) [0, 1, 2, 7] [0] rfl hK pq5 ⟨⟨_, rfl, rfl, rfl, (eR _ (a ++ [b])).symm⟩, (pqo3 rfl rfl rfl rfl rfl rfl)⟩ rfl
 replace hd := (of_decide_eq_false hd)
 replace h := h.2 hd
 refine gR 3 rfl <| go_xloopE <| gR 11 rfl <| gFR 3 rfl (aU _) rfl rfl ?_
 obtain ⟨rfl, rfl, rfl⟩ := h
 exact go_sub (F' := (mkF 168 0 [(4, .ptr 1 0)])) (H' := ⟨2, [(1, .var 35 [.int .i64 ((Tree.node 18 [] [] a).kind), .str ((Tree.node 18 [] [] a).text), .row 1 (List.map V.str ((Tree.node 18 [] [] a).leads)), .row 4 (kidsV ((Tree.node 18 [] [] a).kids))]), (0, .var 108 [.row 1 (List.map (V.int .i64) d), .int .i64 e])]⟩) [0, 1] [0] rfl hK pq1 ⟨⟨_, rfl, rfl, (.cons .rfl (.cons .rfl (.cons (.nil 1) (.cons .rfl .nil))))⟩, (pqo1 rfl rfl)⟩ rfl <| go_endD [1] ac (rs := [.cell 4 35]) rfl rfl ⟨rfl, rfl⟩
theorem kL (m : Nat) (p1 : Int) (c : List Int) (d b : Int) (r0 : Tree) (e : List Int) (a : Int) (h : ((b = 9) → lF m p1 c d r0 e a) ∧ ((b ≠ 9) → dC m p1 c d b r0 e a)) : fe (m + 1) p1 c d b r0 e a := by
 intro K hK
 refine gR 6 rfl <| qBeZ 102 103 rfl rfl rfl rfl h (fun h => ?_) fun h => ?_
 exact gR 1 rfl <| gJ (h K hK) [0, 1] [0] rfl hK pq3 (pqo2 rfl rfl rfl rfl) rfl
 exact gR 1 rfl <| gJ (h K hK) [0, 1] [0] rfl hK pq4 (pqo2 rfl rfl rfl rfl) rfl
theorem pw (m : Nat) (p1 : Int) (l : List Int) (n : Int) (r0 : Tree) (o : List Int) (k : Int) (h : InI (p1 - 1) ∧ ∃ a f g, aH l n (p1 - 1) a f g ∧ InI (p1 - 1) ∧ ∃ b i j, aH f g (p1 - 1) b i j ∧ InI (p1 - 1) ∧ ∃ c d e, aH i j (p1 - 1) c d e ∧ (Tree.node 19 [] [] [a, b, c]) = r0 ∧ d = o ∧ e = k) : lF (m + 1) p1 l n r0 o k := by
 intro K hK
 refine gR 4 rfl ?_
 obtain ⟨hb, h⟩ := h
 refine gR 1 rfl <| gV 106 (.int .i64 (p1 - 1)) rfl (ao hb rfl) rfl ?_
 obtain ⟨a, f, g, hs86, h⟩ := h
 refine gC hs86 [0] (by kernel_rfl) rfl rfl .rfl ⟨⟨_, rfl, ⟨rfl, au.rfl⟩⟩, trivial⟩ rfl ?_
 rintro _ _ ⟨rfl, rfl⟩
 refine gR 2 rfl ?_
 obtain ⟨hb, h⟩ := h
 refine gR 1 rfl <| gV 110 (.int .i64 (p1 - 1)) rfl (ao hb rfl) rfl ?_
 obtain ⟨b, i, j, hs87, h⟩ := h
 refine gC hs87 [0] (by kernel_rfl) rfl rfl .rfl ⟨⟨_, rfl, ⟨rfl, au.rfl⟩⟩, trivial⟩ rfl ?_
 rintro _ _ ⟨rfl, rfl⟩
 refine gR 2 rfl ?_
 obtain ⟨hb, h⟩ := h
 refine gR 1 rfl <| gV 114 (.int .i64 (p1 - 1)) rfl (ao hb rfl) rfl ?_
 obtain ⟨c, d, e, hs88, h⟩ := h
 refine gC hs88 [0] (by kernel_rfl) rfl rfl .rfl ⟨⟨_, rfl, ⟨rfl, au.rfl⟩⟩, trivial⟩ rfl ?_
 rintro _ _ ⟨rfl, rfl⟩
 refine gR 1 rfl <| gHR 8 (kidsV [a, b, c]) rfl (tO [a, b, c]) rfl <| gR 7 rfl <| gFR 8 rfl (aU _) rfl rfl ?_
 obtain ⟨rfl, rfl, rfl⟩ := h
 exact go_sub (F' := (mkF 168 0 [(4, .ptr 1 0)])) (H' := ⟨2, [(1, .var 35 [.int .i64 ((Tree.node 19 [] [] [a, b, c]).kind), .str ((Tree.node 19 [] [] [a, b, c]).text), .row 1 (List.map V.str ((Tree.node 19 [] [] [a, b, c]).leads)), .row 4 (kidsV ((Tree.node 19 [] [] [a, b, c]).kids))]), (0, .var 108 [.row 1 (List.map (V.int .i64) d), .int .i64 e])]⟩) [0, 1] [0] rfl hK pq1 ⟨⟨_, rfl, rfl, (.cons .rfl (.cons .rfl (.cons (.nil 1) (.cons .rfl .nil))))⟩, (pqo1 rfl rfl)⟩ rfl <| go_endD [1] ac (rs := [.cell 4 35]) rfl rfl ⟨rfl, rfl⟩
theorem rL14_semvcsmake_Expr (m : Nat) (p1 : Int) (c : List Int) (d a : Int) (r0 : Tree) (e : List Int) (b : Int) (h : ((a = 10) → ii m p1 c d a true r0 e b) ∧ ((a ≠ 10) → ii m p1 c d a (a == 11) r0 e b)) : dC (m + 1) p1 c d a r0 e b := by
 intro K hK
 refine gR 7 rfl <| qBeZ 118 119 rfl rfl rfl rfl h (fun h => ?_) fun h => ?_
 exact gR 3 rfl <| gJ (h K hK) [0, 1] [0] rfl hK pq5 (pqo2 rfl rfl rfl rfl) rfl
 exact gR 6 rfl <| gJ (h K hK) [0, 1] [0] rfl hK pq5 (pqo2 rfl rfl rfl rfl) rfl
theorem gO (m : Nat) (p1 : Int) (c : List Int) (d f : Int) (a : Bool) (r0 : Tree) (e : List Int) (b : Int) (h : ((a = true) → ik m p1 c d r0 e b) ∧ ((a = false) → eZ m p1 c d f r0 e b)) : ii (m + 1) p1 c d f a r0 e b := by
 intro K hK
 refine qBi 118 rfl rfl rfl h (fun h => ?_) fun h => ?_
 exact gR 1 rfl <| gJ (h K hK) [0, 1] [0] rfl hK pq3 (pqo2 rfl rfl rfl rfl) rfl
 exact gR 1 rfl <| gJ (h K hK) [0, 1] [0] rfl hK pq4 (pqo2 rfl rfl rfl rfl) rfl
theorem qg (m : Nat) (p1 : Int) (l : List Int) (n : Int) (r0 : Tree) (o : List Int) (k : Int) (h : ∃ c f g, aT l n [[120], [121], [122]] c f g ∧ InI (p1 - 1) ∧ ∃ a i j, aH f g (p1 - 1) a i j ∧ InI (p1 - 1) ∧ ∃ b d e, aH i j (p1 - 1) b d e ∧ (Tree.node 20 c [] [a, b]) = r0 ∧ d = o ∧ e = k) : ik (m + 1) p1 l n r0 o k := by
 intro K hK
 refine gR 4 rfl <| gFR 2 rfl rfl rfl rfl ?_
 obtain ⟨c, f, g, hs89, h⟩ := h
 refine gC hs89 [0] (by kernel_rfl) rfl rfl .rfl ⟨⟨_, rfl, ⟨rfl, au.rfl⟩⟩, trivial⟩ rfl ?_
 rintro _ _ ⟨rfl, rfl⟩
 refine gR 2 rfl ?_
 obtain ⟨hb, h⟩ := h
 refine gR 1 rfl <| gV 126 (.int .i64 (p1 - 1)) rfl (ao hb rfl) rfl ?_
 obtain ⟨a, i, j, hs90, h⟩ := h
 refine gC hs90 [0] (by kernel_rfl) rfl rfl .rfl ⟨⟨_, rfl, ⟨rfl, au.rfl⟩⟩, trivial⟩ rfl ?_
 rintro _ _ ⟨rfl, rfl⟩
 refine gR 2 rfl ?_
 obtain ⟨hb, h⟩ := h
 refine gR 1 rfl <| gV 130 (.int .i64 (p1 - 1)) rfl (ao hb rfl) rfl ?_
 obtain ⟨b, d, e, hs91, h⟩ := h
 refine gC hs91 [0] (by kernel_rfl) rfl rfl .rfl ⟨⟨_, rfl, ⟨rfl, au.rfl⟩⟩, trivial⟩ rfl ?_
 rintro _ _ ⟨rfl, rfl⟩
 refine gR 1 rfl <| gHR 8 (kidsV [a, b]) rfl (tO [a, b]) rfl <| gR 7 rfl <| gFR 8 rfl (aU _) rfl rfl ?_
 obtain ⟨rfl, rfl, rfl⟩ := h
 exact go_sub (F' := (mkF 168 0 [(4, .ptr 1 0)])) (H' := ⟨2, [(1, .var 35 [.int .i64 ((Tree.node 20 c [] [a, b]).kind), .str ((Tree.node 20 c [] [a, b]).text), .row 1 (List.map V.str ((Tree.node 20 c [] [a, b]).leads)), .row 4 (kidsV ((Tree.node 20 c [] [a, b]).kids))]), (0, .var 108 [.row 1 (List.map (V.int .i64) d), .int .i64 e])]⟩) [0, 1] [0] rfl hK pq1 ⟨⟨_, rfl, rfl, (.cons .rfl (.cons .rfl (.cons (.nil 1) (.cons .rfl .nil))))⟩, (pqo1 rfl rfl)⟩ rfl <| go_endD [1] ac (rs := [.cell 4 35]) rfl rfl ⟨rfl, rfl⟩
theorem hD (m : Nat) (p1 : Int) (e : List Int) (f g : Int) (r0 : Tree) (i : List Int) (d : Int) (h : ((g = 12) → lC m p1 e f r0 i d) ∧ ((g ≠ 12) → InI (p1 - 1) ∧ ∃ a b c, aH e f (p1 - 1) a b c ∧ (Tree.node 22 [] [] [a]) = r0 ∧ b = i ∧ c = d)) : eZ (m + 1) p1 e f g r0 i d := by
 intro K hK
 refine gR 6 rfl <| qBeZ 134 135 rfl rfl rfl rfl h (fun h => ?_) fun h => ?_
 exact gR 1 rfl <| gJ (h K hK) [0, 1] [0] rfl hK pq3 (pqo2 rfl rfl rfl rfl) rfl
 refine gR 8 rfl ?_
 obtain ⟨hb, h⟩ := h
 refine gR 1 rfl <| gV 164 (.int .i64 (p1 - 1)) rfl (ao hb rfl) rfl ?_
 obtain ⟨a, b, c, hs92, h⟩ := h
 refine gC hs92 [0] (by kernel_rfl) rfl rfl .rfl ⟨⟨_, rfl, ⟨rfl, au.rfl⟩⟩, trivial⟩ rfl ?_
 rintro _ _ ⟨rfl, rfl⟩
 refine gR 1 rfl <| gHR 4 (kidsV [a]) rfl (cI a) rfl <| gR 5 rfl <| gFR 4 rfl (aU _) rfl rfl ?_
 obtain ⟨rfl, rfl, rfl⟩ := h
 exact go_sub (F' := (mkF 168 0 [(4, .ptr 1 0)])) (H' := ⟨2, [(1, .var 35 [.int .i64 ((Tree.node 22 [] [] [a]).kind), .str ((Tree.node 22 [] [] [a]).text), .row 1 (List.map V.str ((Tree.node 22 [] [] [a]).leads)), .row 4 (kidsV ((Tree.node 22 [] [] [a]).kids))]), (0, .var 108 [.row 1 (List.map (V.int .i64) b), .int .i64 c])]⟩) [0, 1] [0] rfl hK pq1 ⟨⟨_, rfl, rfl, (.cons .rfl (.cons .rfl (.cons (.nil 1) (.cons .rfl .nil))))⟩, (pqo1 rfl rfl)⟩ rfl <| go_endD [1] ac (rs := [.cell 4 35]) rfl rfl ⟨rfl, rfl⟩
theorem kD (m : Nat) (p1 : Int) (α : List Int) (β : Int) (r0 : Tree) (z : List Int) (t : Int) (h : ∃ d v w, aT α β [[43], [45], [42], [60], [61, 61]] d v w ∧ InI (p1 - 1) ∧ ∃ a x y, dq v w (p1 - 1) a x y ∧ ∃ l n o, aA x y 3 l n o ∧ ((l = 0) → ∃ c p q, aT n o [[43], [42]] c p q ∧ ∃ b r s, dq p q 0 b r s ∧ InI (p1 - 1) ∧ ∃ e g i, dq r s (p1 - 1) e g i ∧ (Tree.node 21 d [] [(Tree.node 21 c [] [a, b]), e]) = r0 ∧ g = z ∧ i = t) ∧ ((l ≠ 0) → InI (p1 - 1) ∧ ∃ f j k, dq n o (p1 - 1) f j k ∧ (Tree.node 21 d [] [a, f]) = r0 ∧ j = z ∧ k = t)) : lC (m + 1) p1 α β r0 z t := by
 intro K hK
 refine gR 4 rfl <| gFR 2 rfl rfl rfl rfl ?_
 obtain ⟨d, v, w, hs93, h⟩ := h
 refine gC hs93 [0] (by kernel_rfl) rfl rfl .rfl ⟨⟨_, rfl, ⟨rfl, au.rfl⟩⟩, trivial⟩ rfl ?_
 rintro _ _ ⟨rfl, rfl⟩
 refine gR 7 rfl ?_
 obtain ⟨hb, h⟩ := h
 refine gR 1 rfl <| gV 141 (.int .i64 (p1 - 1)) rfl (ao hb rfl) rfl ?_
 obtain ⟨a, x, y, hs94, h⟩ := h
 refine gC hs94 [0] (by kernel_rfl) rfl rfl .rfl ⟨⟨_, rfl, ⟨rfl, au.rfl⟩⟩, trivial⟩ rfl ?_
 rintro _ _ ⟨rfl, rfl⟩
 refine gR 8 rfl ?_
 obtain ⟨l, n, o, hs95, h⟩ := h
 refine gC hs95 [0] (by kernel_rfl) rfl rfl .rfl ⟨⟨_, rfl, ⟨rfl, au.rfl⟩⟩, trivial⟩ rfl ?_
 rintro _ _ ⟨rfl, rfl⟩
 refine gR 3 rfl <| qBe 145 rfl rfl rfl h (fun h => ?_) fun h => ?_
 refine gR 1 rfl <| gDs [6] 8 9 rfl (by kernel_rfl) (by kernel_rfl) <| gDr [(0, 2), (3, 3), (4, 2), (1, 0)] (by kernel_rfl) rfl rfl <| gFR 8 rfl rfl rfl rfl ?_
 obtain ⟨c, p, q, hs96, h⟩ := h
 refine gDC 2 hs96 [0] (by kernel_rfl) rfl (by kernel_rfl) rfl rfl .rfl ⟨⟨_, rfl, ⟨rfl, au.rfl⟩⟩, trivial⟩ (by kernel_rfl) rfl ?_
 rintro _ _ ⟨rfl, rfl⟩
 obtain ⟨b, r, s, hs97, h⟩ := h
 refine gDC 5 hs97 [0] (by kernel_rfl) rfl (by kernel_rfl) rfl rfl .rfl ⟨⟨_, rfl, ⟨rfl, au.rfl⟩⟩, trivial⟩ (by kernel_rfl) rfl ?_
 rintro _ _ ⟨rfl, rfl⟩
 refine gDr [(6, 0)] (by kernel_rfl) rfl rfl <| gHR 12 (kidsV [a, b]) rfl (tO [a, b]) rfl <| gDr [(7, 0), (8, 1)] (by kernel_rfl) rfl rfl <| gDe (by kernel_rfl) <| gR 2 rfl <| gDs [6] 8 9 rfl (by kernel_rfl) (by kernel_rfl) <| gDr [(0, 2), (1, 3), (2, 2), (3, 0)] (by kernel_rfl) rfl rfl ?_
 obtain ⟨hb, h⟩ := h
 refine gDr [(4, 0)] (by kernel_rfl) rfl rfl <| gV 158 (.int .i64 (p1 - 1)) rfl (ao hb rfl) rfl ?_
 obtain ⟨e, g, i, hs98, h⟩ := h
 refine gDC 5 hs98 [0] (by kernel_rfl) rfl (by kernel_rfl) rfl rfl .rfl ⟨⟨_, rfl, ⟨rfl, au.rfl⟩⟩, trivial⟩ (by kernel_rfl) rfl ?_
 rintro _ _ ⟨rfl, rfl⟩
 refine gFR 12 rfl (aU _) rfl rfl <| gS 155 (.agg [.int .i64 21, .str c, .row 1 [], .row 4 (kidsV [a, b])]) rfl (.agg (.cons .rfl (.cons .rfl (.cons (.nil 1) (.cons .rfl .nil))))) rfl <| gDr [(6, 0)] (by kernel_rfl) rfl rfl <| gHR 15 (kidsV [(Tree.node 21 c [] [a, b]), e]) rfl (tO [(Tree.node 21 c [] [a, b]), e]) rfl <| gDr [(7, 0), (8, 1)] (by kernel_rfl) rfl rfl <| gDe (by kernel_rfl) <| gR 4 rfl <| gFR 15 rfl (aU _) rfl rfl ?_
 obtain ⟨rfl, rfl, rfl⟩ := h
 exact go_sub (F' := (mkF 168 0 [(4, .ptr 1 0)])) (H' := ⟨2, [(1, .var 35 [.int .i64 ((Tree.node 21 d [] [(Tree.node 21 c [] [a, b]), e]).kind), .str ((Tree.node 21 d [] [(Tree.node 21 c [] [a, b]), e]).text), .row 1 (List.map V.str ((Tree.node 21 d [] [(Tree.node 21 c [] [a, b]), e]).leads)), .row 4 (kidsV ((Tree.node 21 d [] [(Tree.node 21 c [] [a, b]), e]).kids))]), (0, .var 108 [.row 1 (List.map (V.int .i64) g), .int .i64 i])]⟩) [0, 1] [0] rfl hK pq1 ⟨⟨_, rfl, rfl, (.cons .rfl (.cons .rfl (.cons (.nil 1) (.cons .rfl .nil))))⟩, (pqo1 rfl rfl)⟩ rfl <| go_endD [1] ac (rs := [.cell 4 35]) rfl rfl ⟨rfl, rfl⟩
 refine gR 4 rfl <| gDs [6] 8 9 rfl (by kernel_rfl) (by kernel_rfl) <| gDr [(0, 2), (1, 3), (2, 2), (3, 0)] (by kernel_rfl) rfl rfl ?_
 obtain ⟨hb, h⟩ := h
 refine gDr [(4, 0)] (by kernel_rfl) rfl rfl <| gV 158 (.int .i64 (p1 - 1)) rfl (ao hb rfl) rfl ?_
 obtain ⟨f, j, k, hs99, h⟩ := h
 refine gDC 5 hs99 [0] (by kernel_rfl) rfl (by kernel_rfl) rfl rfl .rfl ⟨⟨_, rfl, ⟨rfl, au.rfl⟩⟩, trivial⟩ (by kernel_rfl) rfl ?_
 rintro _ _ ⟨rfl, rfl⟩
 refine gDr [(6, 0)] (by kernel_rfl) rfl rfl <| gHR 10 (kidsV [a, f]) rfl (tO [a, f]) rfl <| gDr [(7, 0), (8, 1)] (by kernel_rfl) rfl rfl <| gDe (by kernel_rfl) <| gR 4 rfl <| gFR 10 rfl (aU _) rfl rfl ?_
 obtain ⟨rfl, rfl, rfl⟩ := h
 exact go_sub (F' := (mkF 168 0 [(4, .ptr 1 0)])) (H' := ⟨2, [(1, .var 35 [.int .i64 ((Tree.node 21 d [] [a, f]).kind), .str ((Tree.node 21 d [] [a, f]).text), .row 1 (List.map V.str ((Tree.node 21 d [] [a, f]).leads)), .row 4 (kidsV ((Tree.node 21 d [] [a, f]).kids))]), (0, .var 108 [.row 1 (List.map (V.int .i64) j), .int .i64 k])]⟩) [0, 1] [0] rfl hK pq1 ⟨⟨_, rfl, rfl, (.cons .rfl (.cons .rfl (.cons (.nil 1) (.cons .rfl .nil))))⟩, (pqo1 rfl rfl)⟩ rfl <| go_endD [1] ac (rs := [.cell 4 35]) rfl rfl ⟨rfl, rfl⟩
def go (m : Nat) (a : List UInt8) (c : List Int) (d : Int) (e : List Tree) (f : Int) (r0 : Tree) (g : List Int) (b : Int) : Prop := ∀ (K : Ctx) (j1 : Nat), aq K [0] → m ≤ j1 → qLG K Tryz.f59 (fun u G => u = .agg (an r0) ∧ G = ⟨2, [(0, .var 108 [.row 1 (List.map (V.int .i64) g), .int .i64 b])]⟩) (xI (cB (ae Tryz.f59))) [.loop (xI (cB (ae Tryz.f59))) j1, .blk 0, .seq (xJ (ae Tryz.f59))] 47 (mkF 47 0 [(0, .ptr 0 0), (2, .ptr 1 0), (3, .ptr 2 0), (4, .int .i64 f)]) ⟨4, [(3, .row 35 4 (kidsV e)), (2, .var 35 [.int .i64 2, .str a, .nils, .sl 3]), (1, .var 35 [.int .i64 0, .str [], .nils, .nils]), (0, .var 108 [.row 1 (List.map (V.int .i64) c), .int .i64 d])]⟩
theorem mG (m : Nat) (v : List Int) (q : Int) (r0 : Tree) (r : List Int) (c : Int) (h : ∃ k l n, aA v q 5 k l n ∧ ((k = 0) → ∃ b s t, aT l n [[84], [85]] b s t ∧ ∃ a o p, bU s t 2 a o p ∧ (Tree.node 3 b [] [a]) = r0 ∧ o = r ∧ p = c) ∧ ((k ≠ 0) → ∃ d e f, aT l n [[102], [103], [104]] d e f ∧ ∃ g i j, aA e f 4 g i j ∧ go m d i j ([] : List Tree) g r0 r c)) : jW v q r0 r c := by
 refine ak 47 [0] Tryz.func59 rfl rfl rfl (az rfl) fun K hK => ?_
 refine gR 9 rfl ?_
 obtain ⟨k, l, n, hs19, h⟩ := h
 refine gC hs19 [0] (by kernel_rfl) rfl rfl .rfl ⟨⟨_, rfl, ⟨rfl, au.rfl⟩⟩, trivial⟩ rfl ?_
 rintro _ _ ⟨rfl, rfl⟩
 refine gR 3 rfl <| gB 7 rfl rfl rfl ?_ ?_ <;> intro hd
 replace hd := (eq_of_beq hd)
 replace h := h.1 hd
 refine gR 5 rfl <| gFR 3 rfl rfl rfl rfl ?_
 obtain ⟨b, s, t, hs20, h⟩ := h
 refine gC hs20 [0] (by kernel_rfl) rfl rfl .rfl ⟨⟨_, rfl, ⟨rfl, au.rfl⟩⟩, trivial⟩ rfl ?_
 rintro _ _ ⟨rfl, rfl⟩
 refine gR 1 rfl ?_
 obtain ⟨a, o, p, hs21, h⟩ := h
 refine gC hs21 [0] (by kernel_rfl) rfl rfl .rfl ⟨⟨_, rfl, ⟨rfl, au.rfl⟩⟩, trivial⟩ rfl ?_
 rintro _ _ ⟨rfl, rfl⟩
 refine gR 1 rfl <| gHR 7 (kidsV [a]) rfl (cI a) rfl <| gR 6 rfl <| gFR 7 rfl (aU _) rfl rfl ?_
 obtain ⟨rfl, rfl, rfl⟩ := h
 exact go_sub (F' := (mkF 47 0 [(2, .ptr 1 0)])) (H' := ⟨2, [(1, .var 35 [.int .i64 ((Tree.node 3 b [] [a]).kind), .str ((Tree.node 3 b [] [a]).text), .row 1 (List.map V.str ((Tree.node 3 b [] [a]).leads)), .row 4 (kidsV ((Tree.node 3 b [] [a]).kids))]), (0, .var 108 [.row 1 (List.map (V.int .i64) o), .int .i64 p])]⟩) [0, 1] [0] rfl hK pq1 ⟨⟨_, rfl, rfl, (.cons .rfl (.cons .rfl (.cons (.nil 1) (.cons .rfl .nil))))⟩, (pqo1 rfl rfl)⟩ rfl <| go_endD [1] ac (rs := [.cell 2 35]) rfl rfl ⟨rfl, rfl⟩
 replace hd := (ne_of_beq_false hd)
 replace h := h.2 hd
 refine gR 7 rfl <| gFR 3 rfl rfl rfl rfl ?_
 obtain ⟨d, e, f, hs22, h⟩ := h
 refine gC hs22 [0] (by kernel_rfl) rfl rfl .rfl ⟨⟨_, rfl, ⟨rfl, au.rfl⟩⟩, trivial⟩ rfl ?_
 rintro _ _ ⟨rfl, rfl⟩
 refine gR 9 rfl ?_
 obtain ⟨g, i, j, hs23, h⟩ := h
 refine gC hs23 [0] (by kernel_rfl) rfl rfl .rfl ⟨⟨_, rfl, ⟨rfl, au.rfl⟩⟩, trivial⟩ rfl ?_
 rintro _ _ ⟨rfl, rfl⟩
 exact gR 4 rfl <| go_loop m <| gNC 5 3 35 4 rfl rfl rfl rfl <| gJ (h K _ hK (by omega)) [0, 1, 5, 7] [0] rfl hK pq4 ⟨⟨_, rfl, rfl, rfl, rfl⟩, (pqo3 rfl rfl rfl rfl rfl rfl)⟩ rfl
theorem mq (m : Nat) (f : List UInt8) (n : List Int) (o : Int) (b : List Tree) (g : Int) (r0 : Tree) (p : List Int) (l : Int) (h : ((0 < g) → ∃ e q r, aT n o [[120], [121], [122]] e q r ∧ ∃ c s t, bU q r 1 c s t ∧ (b ++ [(Tree.node 4 e [] [c])]).length ≤ 1000000000 ∧ InI (g - 1) ∧ go m f s t (b ++ [(Tree.node 4 e [] [c])]) (g - 1) r0 p l) ∧ ((¬ 0 < g) → ∃ d v w, bU n o 1 d v w ∧ ∃ a i k, aH v w 3 a i k ∧ (b ++ [d, a]).length ≤ 1000000000 ∧ (Tree.node 2 f [] (b ++ [d, a])) = r0 ∧ i = p ∧ k = l)) : go (m + 1) f n o b g r0 p l := by
 intro K j1 hK hj1
 obtain ⟨j1, rfl⟩ : ∃ j, j1 = j + 1 := ⟨j1 - 1, by omega⟩
 refine gR 7 rfl <| gB 22 rfl rfl rfl ?_ ?_ <;> intro hd
 replace hd := (of_decide_eq_true hd)
 replace h := h.1 hd
 refine gR 5 rfl <| gDs [2] 12 13 rfl (by kernel_rfl) (by kernel_rfl) <| gDr [(0, 2), (1, 3), (2, 2), (5, 2), (3, 0)] (by kernel_rfl) rfl rfl <| gFR 4 rfl rfl rfl rfl ?_
 obtain ⟨e, q, r, hs24, h⟩ := h
 refine gDC 4 hs24 [0] (by kernel_rfl) rfl (by kernel_rfl) rfl rfl .rfl ⟨⟨_, rfl, ⟨rfl, au.rfl⟩⟩, trivial⟩ (by kernel_rfl) rfl ?_
 rintro _ _ ⟨rfl, rfl⟩
 obtain ⟨c, s, t, hs25, h⟩ := h
 refine gDC 6 hs25 [0] (by kernel_rfl) rfl (by kernel_rfl) rfl rfl .rfl ⟨⟨_, rfl, ⟨rfl, au.rfl⟩⟩, trivial⟩ (by kernel_rfl) rfl ?_
 rintro _ _ ⟨rfl, rfl⟩
 refine gDr [(7, 0)] (by kernel_rfl) rfl rfl <| gHR 8 (kidsV [c]) rfl (cI c) rfl <| gDr [(8, 0)] (by kernel_rfl) rfl rfl <| gFR 8 rfl (aU _) rfl rfl <| gS 33 (.agg [.int .i64 4, .str e, .row 1 [], .row 4 (kidsV [c])]) rfl (.agg (.cons .rfl (.cons .rfl (.cons (.nil 1) (.cons .rfl .nil))))) rfl <| gDr [(9, 0)] (by kernel_rfl) rfl rfl <| gHR 9 (kidsV [(Tree.node 4 e [] [c])]) rfl (cI (Tree.node 4 e [] [c])) rfl ?_
 obtain ⟨hb, h⟩ := h
 refine bW 10 (.repl 3 (.row 35 4 (kidsV (b ++ [(Tree.node 4 e [] [c])])))) rfl (by kernel_rfl) (bu ac rfl rfl rfl rfl rfl (eN b [(Tree.node 4 e [] [c])]).symm (by rw [aI]; exact hb)) (okR rfl) rfl (by kernel_rfl) rfl rfl ?_
 refine gDr [(11, 0), (12, 1)] (by kernel_rfl) rfl rfl <| gDe (by kernel_rfl) <| gR 4 rfl ?_
 obtain ⟨hb, h⟩ := h
 exact gR 1 rfl <| gV 24 (.int .i64 (g - 1)) rfl (ao hb rfl) rfl <| gR 2 rfl <| go_xloop <| gJ (h K _ hK (by omega)) [0, 1, 2, 10] [0] rfl hK pq4 ⟨⟨_, rfl, rfl, rfl, (eR _ (b ++ [(Tree.node 4 e [] [c])])).symm⟩, (pqo3 rfl rfl rfl rfl rfl rfl)⟩ rfl
 replace hd := (of_decide_eq_false hd)
 replace h := h.2 hd
 refine gR 3 rfl <| go_xloopE <| gR 3 rfl <| gDs [2] 9 10 rfl (by kernel_rfl) (by kernel_rfl) <| gDr [(0, 2), (1, 3), (2, 2), (4, 2)] (by kernel_rfl) rfl rfl ?_
 obtain ⟨d, v, w, hs26, h⟩ := h
 refine gDC 3 hs26 [0] (by kernel_rfl) rfl (by kernel_rfl) rfl rfl .rfl ⟨⟨_, rfl, ⟨rfl, au.rfl⟩⟩, trivial⟩ (by kernel_rfl) rfl ?_
 rintro _ _ ⟨rfl, rfl⟩
 obtain ⟨a, i, k, hs27, h⟩ := h
 refine gDC 5 hs27 [0] (by kernel_rfl) rfl (by kernel_rfl) rfl rfl .rfl ⟨⟨_, rfl, ⟨rfl, au.rfl⟩⟩, trivial⟩ (by kernel_rfl) rfl ?_
 rintro _ _ ⟨rfl, rfl⟩
 refine gDr [(6, 0)] (by kernel_rfl) rfl rfl <| gHR 8 (kidsV [d, a]) rfl (tO [d, a]) rfl ?_
 obtain ⟨hb, h⟩ := h
 refine bW 7 (.repl 3 (.row 35 4 (kidsV (b ++ [d, a])))) rfl (by kernel_rfl) (bu ac rfl rfl rfl rfl rfl (eN _ _).symm (by rw [aI]; exact hb)) (okR rfl) rfl (by kernel_rfl) rfl rfl ?_
 refine gDr [(8, 0), (9, 1)] (by kernel_rfl) rfl rfl <| gDe (by kernel_rfl) <| gR 8 rfl <| gFR 9 rfl (aU _) rfl rfl ?_
 obtain ⟨rfl, rfl, rfl⟩ := h
 exact go_sub (F' := (mkF 47 0 [(2, .ptr 1 0)])) (H' := ⟨2, [(1, .var 35 [.int .i64 ((Tree.node 2 f [] (b ++ [d, a])).kind), .str ((Tree.node 2 f [] (b ++ [d, a])).text), .row 1 (List.map V.str ((Tree.node 2 f [] (b ++ [d, a])).leads)), .row 4 (kidsV ((Tree.node 2 f [] (b ++ [d, a])).kids))]), (0, .var 108 [.row 1 (List.map (V.int .i64) i), .int .i64 k])]⟩) [0, 1] [0] rfl hK pq1 ⟨⟨_, rfl, rfl, (.cons .rfl (.cons .rfl (.cons (.nil 1) (.cons .rfl .nil))))⟩, (pqo1 rfl rfl)⟩ rfl <| go_endD [1] ac (rs := [.cell 2 35]) rfl rfl ⟨rfl, rfl⟩
def cF (m : Nat) (p1 : Tree) (b : List Int) (c : Int) (d : (List (List UInt8))) (e : Nat) (r0 : Tree) (f : List Int) (a : Int) : Prop := ∀ (K : Ctx) (j1 : Nat), aq K [0] → m ≤ j1 → qLG K Tryz.f61 (fun u G => u = .agg (an r0) ∧ G = ⟨2, [(0, .var 108 [.row 1 (List.map (V.int .i64) f), .int .i64 a])]⟩) (xI (ae Tryz.f61)) [.loop (xI (ae Tryz.f61)) j1, .blk 0, .seq (xH (ae Tryz.f61))] 53 (mkF 53 0 [(0, .ptr 0 0), (3, .ptr 1 0), (4, .ptr 2 0), (5, .int .i64 (e : Int))]) ⟨4, [(3, .row 9 1 (List.map V.str d)), (2, .var 35 [.int .i64 0, .str [], .nils, .nils]), (1, .var 35 [.int .i64 p1.kind, .str p1.text, .sl 3, .row 4 (kidsV p1.kids)]), (0, .var 108 [.row 1 (List.map (V.int .i64) b), .int .i64 c])]⟩
def dG (m : Nat) (p1 : Tree) (b : List Int) (c : Int) (d : List Tree) (e : Nat) (f : (List (List UInt8))) (r0 : Tree) (g : List Int) (a : Int) : Prop := ∀ (K : Ctx) (j1 : Nat), aq K [0] → m ≤ j1 → qLG K Tryz.f61 (fun u G => u = .agg (an r0) ∧ G = ⟨2, [(0, .var 108 [.row 1 (List.map (V.int .i64) g), .int .i64 a])]⟩) (xI (xA (ae Tryz.f61))) [.loop (xI (xA (ae Tryz.f61))) j1, .blk 2, .seq (xA (xH (ae Tryz.f61)))] 53 (mkF 53 0 [(0, .ptr 0 0), (3, .ptr 1 0), (4, .ptr 2 0), (6, .int .i64 (e : Int))]) ⟨5, [(4, .row 35 4 (kidsV d)), (3, .row 9 1 (List.map V.str f)), (2, .var 35 [.int .i64 0, .str [], .nils, .nils]), (1, .var 35 [.int .i64 p1.kind, .str p1.text, .sl 3, .sl 4]), (0, .var 108 [.row 1 (List.map (V.int .i64) b), .int .i64 c])]⟩
theorem qz (m : Nat) (c : List Int) (a : Int) (p1 r0 : Tree) (d : List Int) (b : Int) (h : p1.leads.length ≤ 1000000000 ∧ cF m p1 c a p1.leads 0 r0 d b) : fz c a p1 r0 d b := by
 refine ak 53 [0] Tryz.func61 rfl rfl rfl (az rfl) fun K hK => ?_
 refine gR 11 rfl ?_
 obtain ⟨hb, h⟩ := h
 exact gDo (.repl 3 (.row 9 1 (List.map V.str p1.leads))) (bu ac rfl rfl rfl rfl rfl (List.nil_append _) (by rw [aY]; exact hb)) (okR rfl) rfl rfl rfl <| gR 11 rfl <| go_loop m <| gJ (h K _ hK (by omega)) [0, 1, 2, 4] [0] rfl hK pq4 ⟨⟨_, rfl, rfl, rfl, (am _ V.str (fun _ => rfl) p1.leads).symm⟩, (pqo3 rfl rfl rfl rfl rfl rfl)⟩ rfl
theorem hG (m : Nat) (p1 : Tree) (l : List Int) (n : Int) (a : (List (List UInt8))) (b : Nat) (r0 : Tree) (e : List Int) (d : Int) (h : ((b < a.length) → ∃ g i k, aA l n 9 g i k ∧ ((g = 1) → ∃ c o p, aT i k [[32, 35, 32, 99, 10], [32, 32], [10, 9], [35, 10]] c o p ∧ ∃ q, a[b]? = some q ∧ cF m p1 o p (a.set b c) (b + 1) r0 e d) ∧ ((g ≠ 1) → cF m p1 i k a (b + 1) r0 e d)) ∧ ((¬ b < a.length) → p1.kids.length ≤ 1000000000 ∧ dG m p1 l n p1.kids 0 a r0 e d)) : cF (m + 1) p1 l n a b r0 e d := by
 intro K j1 hK hj1
 obtain ⟨j1, rfl⟩ : ∃ j, j1 = j + 1 := ⟨j1 - 1, by omega⟩
 refine gR 7 rfl <| gV 15 (.int .i64 (a.length : Int)) rfl (aO (aY V.str _)) rfl <| gLO 3 rfl (aY V.str _) fun hl16 => gR 3 rfl <| gB 16 rfl rfl rfl ?_ ?_ <;> intro hd
 replace hd := (ch hd)
 replace h := h.1 hd
 refine gR 8 rfl ?_
 obtain ⟨g, i, k, hs17, h⟩ := h
 refine gC hs17 [0] (by kernel_rfl) rfl rfl .rfl ⟨⟨_, rfl, ⟨rfl, au.rfl⟩⟩, trivial⟩ rfl ?_
 rintro _ _ ⟨rfl, rfl⟩
 refine gR 3 rfl <| gB 21 rfl rfl rfl ?_ ?_ <;> intro hd
 replace hd := (eq_of_beq hd)
 replace h := h.1 hd
 refine gR 1 rfl <| gDs [1] 7 8 rfl (by kernel_rfl) (by kernel_rfl) <| gDr [(0, 2), (1, 3), (2, 2), (3, 2), (4, 0)] (by kernel_rfl) rfl rfl <| gFR 5 rfl rfl rfl rfl ?_
 obtain ⟨c, o, p, hs18, h⟩ := h
 refine gDC 5 hs18 [0] (by kernel_rfl) rfl (by kernel_rfl) rfl rfl .rfl ⟨⟨_, rfl, ⟨rfl, au.rfl⟩⟩, trivial⟩ (by kernel_rfl) rfl ?_
 rintro _ _ ⟨rfl, rfl⟩
 obtain ⟨q, hxs1_7, h⟩ := h
 refine ev 6 rfl (by kernel_rfl) (yIO ac rfl rfl rfl rfl (by have := (mapget (f := V.str) hxs1_7); exact (List.getElem?_eq_some_iff.1 this).1)) rfl rfl ?_
 refine bW 7 (.set 3 (.row 9 1 (List.map V.str (a.set b c)))) rfl (by kernel_rfl) (dSe ac rfl rfl rfl rfl (mapget (f := V.str) hxs1_7) rfl (nd V.str a b c)) (okS rfl) rfl (by kernel_rfl) rfl rfl ?_
 exact gDe (by kernel_rfl) <| gR 5 rfl <| gV 18 (.int .i64 ((b + 1 : Nat) : Int)) rfl (ao (by have := hl16; omega) (by omega)) rfl <| gR 2 rfl <| go_xloop <| gJ (h K _ hK (by omega)) [0, 1, 2, 3] [0] rfl hK pq4 ⟨⟨_, rfl, rfl, rfl, (am _ V.str (fun _ => rfl) (a.set b c)).symm⟩, (pqo3 rfl rfl rfl rfl rfl rfl)⟩ rfl
 replace hd := (ne_of_beq_false hd)
 replace h := h.2 hd
 exact gR 7 rfl <| gV 18 (.int .i64 ((b + 1 : Nat) : Int)) rfl (ao (by have := hl16; omega) (by omega)) rfl <| gR 2 rfl <| go_xloop <| gJ (h K _ hK (by omega)) [0, 1, 2, 3] [0] rfl hK pq4 ⟨⟨_, rfl, rfl, rfl, (am _ V.str (fun _ => rfl) a).symm⟩, (pqo3 rfl rfl rfl rfl rfl rfl)⟩ rfl
 replace hd := (cg hd)
 replace h := h.2 hd
 refine gR 3 rfl <| go_xloopE <| gR 7 rfl ?_
 obtain ⟨hb, h⟩ := h
 exact gDo (.repl 4 (.row 35 4 (kidsV p1.kids))) (bu ac rfl rfl rfl rfl rfl (List.nil_append _) (by rw [aI]; exact hb)) (okR rfl) rfl rfl rfl <| gR 11 rfl <| go_loop m <| gJ (h K _ hK (by omega)) [0, 1, 2, 3, 5] [0] rfl hK pq4 ⟨⟨_, rfl, rfl, rfl, (eR _ p1.kids).symm⟩, ⟨_, rfl, rfl, rfl, (am _ V.str (fun _ => rfl) a).symm⟩, (pqo3 rfl rfl rfl rfl rfl rfl)⟩ rfl
theorem lx (m : Nat) (p1 : Tree) (f : List Int) (g : Int) (a : List Tree) (b : Nat) (c : (List (List UInt8))) (r0 : Tree) (i : List Int) (e : Int) (h : ((b < a.length) → ∃ k, a[b]? = some k ∧ ∃ d l n, fz f g k d l n ∧ ∃ o, a[b]? = some o ∧ dG m p1 l n (a.set b d) (b + 1) c r0 i e) ∧ ((¬ b < a.length) → (Tree.node p1.kind p1.text c a) = r0 ∧ f = i ∧ g = e)) : dG (m + 1) p1 f g a b c r0 i e := by
 intro K j1 hK hj1
 obtain ⟨j1, rfl⟩ : ∃ j, j1 = j + 1 := ⟨j1 - 1, by omega⟩
 refine gR 7 rfl <| gV 37 (.int .i64 (a.length : Int)) rfl (aO (aI _)) rfl <| gLO 4 rfl (aI _) fun hl19 => gR 3 rfl <| gB 38 rfl rfl rfl ?_ ?_ <;> intro hd
 replace hd := (ch hd)
 replace h := h.1 hd
 refine gR 5 rfl <| gDs [1, 4] 11 12 rfl (by kernel_rfl) (by kernel_rfl) <| gDr [(0, 2), (1, 3), (2, 2), (3, 2), (4, 2), (5, 3), (6, 0)] (by kernel_rfl) rfl rfl ?_
 obtain ⟨k, hxt2_1, h⟩ := h
 refine ev 7 rfl (by kernel_rfl) (yIO ac rfl rfl rfl rfl (by have := (av hxt2_1); exact (List.getElem?_eq_some_iff.1 this).1)) rfl rfl ?_
 refine bW 8 (.nop) rfl (by kernel_rfl) (dLe ac rfl rfl rfl (av hxt2_1) rfl) trivial rfl (by kernel_rfl) rfl rfl ?_
 obtain ⟨d, l, n, hs20, h⟩ := h
 refine gDC 9 hs20 [0] (by kernel_rfl) rfl (by kernel_rfl) rfl rfl .rfl ⟨⟨_, rfl, ⟨rfl, au.rfl⟩⟩, trivial⟩ (by kernel_rfl) rfl ?_
 rintro _ _ ⟨rfl, rfl⟩
 obtain ⟨o, hxt2_5, h⟩ := h
 refine ev 10 rfl (by kernel_rfl) (yIO ac rfl rfl rfl rfl (by have := (av hxt2_5); exact (List.getElem?_eq_some_iff.1 this).1)) rfl rfl ?_
 refine bW 11 (.set 4 (.row 35 4 (kidsV (a.set b d)))) rfl (by kernel_rfl) (dSe ac rfl rfl rfl rfl (av hxt2_5) rfl (BJ a b d)) (okS rfl) rfl (by kernel_rfl) rfl rfl ?_
 exact gDe (by kernel_rfl) <| gR 5 rfl <| gV 40 (.int .i64 ((b + 1 : Nat) : Int)) rfl (ao (by have := hl19; omega) (by omega)) rfl <| gR 2 rfl <| go_xloop <| gJ (h K _ hK (by omega)) [0, 1, 2, 3, 4] [0] rfl hK pq4 ⟨⟨_, rfl, rfl, rfl, (eR _ (a.set b d)).symm⟩, ⟨_, rfl, rfl, rfl, (am _ V.str (fun _ => rfl) c).symm⟩, (pqo3 rfl rfl rfl rfl rfl rfl)⟩ rfl
 replace hd := (cg hd)
 replace h := h.2 hd
 refine gR 3 rfl <| go_xloopE <| gR 9 rfl <| gFR 3 rfl (gW _ (fun _ => rfl) _) rfl rfl <| gFR 4 rfl (aU _) rfl rfl ?_
 obtain ⟨rfl, rfl, rfl⟩ := h
 exact go_sub (F' := (mkF 53 0 [(4, .ptr 1 0)])) (H' := ⟨2, [(1, .var 35 [.int .i64 ((Tree.node p1.kind p1.text c a).kind), .str ((Tree.node p1.kind p1.text c a).text), .row 1 (List.map V.str ((Tree.node p1.kind p1.text c a).leads)), .row 4 (kidsV ((Tree.node p1.kind p1.text c a).kids))]), (0, .var 108 [.row 1 (List.map (V.int .i64) f), .int .i64 g])]⟩) [0, 2] [0] rfl hK pq1 (pqo2 rfl rfl rfl rfl) rfl <| go_endD [1] ac (rs := [.cell 4 35]) rfl rfl ⟨rfl, rfl⟩
def en (m : Nat) (p1 : List UInt8) (b : List Int) (c : Int) (d : List Tree) (e : Int) (r0 : Tree) (f : List Int) (a : Int) : Prop := ∀ (K : Ctx) (j1 : Nat), aq K [0] → m ≤ j1 → qLG K Tryz.f40 (fun u G => u = .agg (an r0) ∧ G = ⟨2, [(0, .var 108 [.row 1 (List.map (V.int .i64) f), .int .i64 a])]⟩) (xI (ae Tryz.f40)) [.loop (xI (ae Tryz.f40)) j1, .blk 0, .seq (xH (ae Tryz.f40))] 31 (mkF 31 0 [(0, .ptr 0 0), (4, .ptr 1 0), (5, .ptr 2 0), (6, .int .i64 e)]) ⟨4, [(3, .row 35 4 (kidsV d)), (2, .var 35 [.int .i64 1, .str p1, .nils, .sl 3]), (1, .var 35 [.int .i64 0, .str [], .nils, .nils]), (0, .var 108 [.row 1 (List.map (V.int .i64) b), .int .i64 c])]⟩
theorem pI (m : Nat) (f : List Int) (a : Int) (p1 : List UInt8) (r0 : Tree) (g : List Int) (b : Int) (h : ∃ c d e, aA f a 4 c d e ∧ en m p1 d e ([] : List Tree) c r0 g b) : ib f a p1 r0 g b := by
 refine ak 31 [0] Tryz.func40 rfl rfl rfl (az rfl) fun K hK => ?_
 refine gR 17 rfl ?_
 obtain ⟨c, d, e, hs11, h⟩ := h
 refine gC hs11 [0] (by kernel_rfl) rfl rfl .rfl ⟨⟨_, rfl, ⟨rfl, au.rfl⟩⟩, trivial⟩ rfl ?_
 rintro _ _ ⟨rfl, rfl⟩
 exact gR 4 rfl <| go_loop m <| gNC 2 3 35 4 rfl rfl rfl rfl <| gJ (h K _ hK (by omega)) [0, 1, 2, 4] [0] rfl hK pq4 ⟨⟨_, rfl, rfl, rfl, rfl⟩, (pqo3 rfl rfl rfl rfl rfl rfl)⟩ rfl
theorem gy (m : Nat) (p1 : List UInt8) (p : List Int) (q : Int) (c : List Tree) (e : Int) (r0 : Tree) (l : List Int) (f : Int) (h : ((0 < e) → ∃ a r s, jW p q a r s ∧ (c ++ [a]).length ≤ 1000000000 ∧ InI (e - 1) ∧ en m p1 r s (c ++ [a]) (e - 1) r0 l f) ∧ ((¬ 0 < e) → ∃ b, gr (Tree.node 1 p1 [] c) b ∧ ∃ n i k, aA p q 2 n i k ∧ ((n = 0) → ∃ d o g, fz i k b d o g ∧ d = r0 ∧ o = l ∧ g = f) ∧ ((n ≠ 0) → b = r0 ∧ i = l ∧ k = f))) : en (m + 1) p1 p q c e r0 l f := by
 intro K j1 hK hj1
 obtain ⟨j1, rfl⟩ : ∃ j, j1 = j + 1 := ⟨j1 - 1, by omega⟩
 refine gR 7 rfl <| gB 12 rfl rfl rfl ?_ ?_ <;> intro hd
 replace hd := (of_decide_eq_true hd)
 replace h := h.1 hd
 refine gR 5 rfl <| gDs [2] 7 8 rfl (by kernel_rfl) (by kernel_rfl) <| gDr [(0, 2), (1, 3), (2, 0)] (by kernel_rfl) rfl rfl ?_
 obtain ⟨a, r, s, hs12, h⟩ := h
 refine gDC 3 hs12 [0] (by kernel_rfl) rfl (by kernel_rfl) rfl rfl .rfl ⟨⟨_, rfl, ⟨rfl, au.rfl⟩⟩, trivial⟩ (by kernel_rfl) rfl ?_
 rintro _ _ ⟨rfl, rfl⟩
 refine gDr [(4, 0)] (by kernel_rfl) rfl rfl <| gHR 6 (kidsV [a]) rfl (cI a) rfl ?_
 obtain ⟨hb, h⟩ := h
 refine bW 5 (.repl 3 (.row 35 4 (kidsV (c ++ [a])))) rfl (by kernel_rfl) (bu ac rfl rfl rfl rfl rfl (eN c [a]).symm (by rw [aI]; exact hb)) (okR rfl) rfl (by kernel_rfl) rfl rfl ?_
 refine gDr [(6, 0), (7, 1)] (by kernel_rfl) rfl rfl <| gDe (by kernel_rfl) <| gR 4 rfl ?_
 obtain ⟨hb, h⟩ := h
 exact gR 1 rfl <| gV 14 (.int .i64 (e - 1)) rfl (ao hb rfl) rfl <| gR 2 rfl <| go_xloop <| gJ (h K _ hK (by omega)) [0, 1, 2, 7] [0] rfl hK pq4 ⟨⟨_, rfl, rfl, rfl, (eR _ (c ++ [a])).symm⟩, (pqo3 rfl rfl rfl rfl rfl rfl)⟩ rfl
 replace hd := (of_decide_eq_false hd)
 replace h := h.2 hd
 refine gR 3 rfl <| go_xloopE <| gR 5 rfl <| gFR 3 rfl (aU _) rfl rfl ?_
 obtain ⟨b, hs13, h⟩ := h
 refine gC0 hs13 (by kernel_rfl) rfl rfl (.cons (.agg (.cons .rfl (.cons .rfl (.cons (.nil 1) (.cons .rfl .nil))))) .nil) rfl <| gR 7 rfl ?_
 obtain ⟨n, i, k, hs14, h⟩ := h
 refine gC hs14 [0] (by kernel_rfl) rfl rfl .rfl ⟨⟨_, rfl, ⟨rfl, au.rfl⟩⟩, trivial⟩ rfl ?_
 rintro _ _ ⟨rfl, rfl⟩
 refine gR 3 rfl <| gB 26 rfl rfl rfl ?_ ?_ <;> intro hd
 replace hd := (eq_of_beq hd)
 replace h := h.1 hd
 refine gR 4 rfl ?_
 obtain ⟨d, o, g, hs15, h⟩ := h
 refine gC hs15 [0] (by kernel_rfl) rfl rfl .rfl ⟨⟨_, rfl, ⟨rfl, au.rfl⟩⟩, trivial⟩ rfl ?_
 rintro _ _ ⟨rfl, rfl⟩
 refine gR 10 rfl ?_
 obtain ⟨rfl, rfl, rfl⟩ := h
 exact go_sub (F' := (mkF 31 0 [(4, .ptr 1 0)])) (H' := ⟨2, [(1, .var 35 [.int .i64 d.kind, .str d.text, .row 1 (List.map V.str d.leads), .row 4 (kidsV d.kids)]), (0, .var 108 [.row 1 (List.map (V.int .i64) o), .int .i64 g])]⟩) [0, 1] [0] rfl hK pq1 (pqo2 rfl rfl rfl rfl) rfl <| go_endD [1] ac (rs := [.cell 4 35]) rfl rfl ⟨rfl, rfl⟩
 replace hd := (ne_of_beq_false hd)
 replace h := h.2 hd
 refine gR 10 rfl ?_
 obtain ⟨rfl, rfl, rfl⟩ := h
 exact go_sub (F' := (mkF 31 0 [(4, .ptr 1 0)])) (H' := ⟨2, [(1, .var 35 [.int .i64 b.kind, .str b.text, .row 1 (List.map V.str b.leads), .row 4 (kidsV b.kids)]), (0, .var 108 [.row 1 (List.map (V.int .i64) i), .int .i64 k])]⟩) [0, 1] [0] rfl hK pq1 (pqo2 rfl rfl rfl rfl) rfl <| go_endD [1] ac (rs := [.cell 4 35]) rfl rfl ⟨rfl, rfl⟩
def bp (m : Nat) (a : List Int) (b : Int) (c : List Tree) (d : Int) (r0 : List Tree) : Prop := ∀ (K : Ctx) (j1 : Nat), aq K [] → m ≤ j1 → qLG K Tryz.f21 (fun u _ => u = .row 4 (kidsV r0)) (xI (xA (ae Tryz.f21))) [.loop (xI (xA (ae Tryz.f21))) j1, .blk 0, .seq (xA (xH (ae Tryz.f21)))] 35 (mkF 35 0 [(3, .ptr 0 0), (4, .sl 1), (5, .sl 2), (6, .int .i64 d)]) ⟨3, [(2, .row 9 1 [.str [65], .str [66], .str [67]]), (1, .row 35 4 (kidsV c)), (0, .var 108 [.row 1 (List.map (V.int .i64) a), .int .i64 b])]⟩
theorem oB (m : Nat) (p0 : List Int) (r0 : List Tree) (h : ∃ a b, mH p0 a b ∧ ∃ c d e, aA a b 4 c d e ∧ bp m d e ([] : List Tree) c r0) : em p0 r0 := by
 refine ⟨rfl, rfl, ?_⟩
 refine ak 35 [] Tryz.func21 rfl rfl rfl (az rfl) fun K hK => ?_
 refine gR 8 rfl ?_
 obtain ⟨a, b, hs14, h⟩ := h
 refine gC hs14 [] (by kernel_rfl) rfl rfl .rfl trivial rfl ?_
 rintro _ _ ⟨rfl, rfl⟩
 refine gR 18 rfl ?_
 obtain ⟨c, d, e, hs15, h⟩ := h
 refine gC hs15 [0] (by kernel_rfl) rfl rfl .rfl ⟨⟨_, rfl, ⟨rfl, au.rfl⟩⟩, trivial⟩ rfl ?_
 rintro _ _ ⟨rfl, rfl⟩
 exact gR 4 rfl <| go_loop m <| gNS 4 35 4 rfl rfl rfl rfl <| gJ (h K _ hK (by omega)) [0, 3, 1] [] rfl hK pq4 ⟨⟨_, rfl, rfl, rfl, rfl⟩, ⟨_, rfl, rfl, rfl, rfl⟩, (pqo1 rfl rfl)⟩ rfl
theorem fR (m : Nat) (p : List Int) (q : Int) (b : List Tree) (c : Int) (r0 : List Tree) (h : ((0 < c) → ∃ l, [[65], [66], [67]][b.length]? = some l ∧ ∃ a n o, ib p q l a n o ∧ ∃ g d e, aA n o 8 g d e ∧ ((g = 7) → ∃ i, dE (Tree.node a.kind [65] a.leads a.kids) i ∧ ((i = true) → (b ++ [(Tree.node a.kind [65] a.leads a.kids)]).length ≤ 1000000000 ∧ InI (c - 1) ∧ bp m d e (b ++ [(Tree.node a.kind [65] a.leads a.kids)]) (c - 1) r0) ∧ ((i = false) → InI (c - 1) ∧ bp m d e b (c - 1) r0)) ∧ ((g ≠ 7) → ∃ k, dE a k ∧ ((k = true) → (b ++ [a]).length ≤ 1000000000 ∧ InI (c - 1) ∧ bp m d e (b ++ [a]) (c - 1) r0) ∧ ((k = false) → InI (c - 1) ∧ bp m d e b (c - 1) r0))) ∧ ((¬ 0 < c) → b = r0)) : bp (m + 1) p q b c r0 := by
 intro K j1 hK hj1
 obtain ⟨j1, rfl⟩ : ∃ j, j1 = j + 1 := ⟨j1 - 1, by omega⟩
 refine gR 7 rfl <| gB 14 rfl rfl rfl ?_ ?_ <;> intro hd
 replace hd := (of_decide_eq_true hd)
 replace h := h.1 hd
 refine gR 11 rfl <| gV 20 (.int .i64 (b.length : Int)) rfl (aO (aI _)) rfl <| gLO 1 rfl (aI _) fun hl16 => ?_
 obtain ⟨l, hxs1_1, h⟩ := h
 refine gY (yIO ac rfl rfl rfl rfl (by have := (mapget (f := V.str) hxs1_1); exact (List.getElem?_eq_some_iff.1 this).1)) rfl rfl ?_
 refine gDo (.nop) (dLe ac rfl rfl rfl (mapget (f := V.str) hxs1_1) rfl) trivial rfl rfl rfl ?_
 obtain ⟨a, n, o, hs17, h⟩ := h
 refine gC hs17 [0] (by kernel_rfl) rfl rfl .rfl ⟨⟨_, rfl, ⟨rfl, au.rfl⟩⟩, trivial⟩ rfl ?_
 rintro _ _ ⟨rfl, rfl⟩
 refine gR 8 rfl ?_
 obtain ⟨g, d, e, hs18, h⟩ := h
 refine gC hs18 [0] (by kernel_rfl) rfl rfl .rfl ⟨⟨_, rfl, ⟨rfl, au.rfl⟩⟩, trivial⟩ rfl ?_
 rintro _ _ ⟨rfl, rfl⟩
 refine gR 3 rfl <| gB 26 rfl rfl rfl ?_ ?_ <;> intro hd
 replace hd := (eq_of_beq hd)
 replace h := h.1 hd
 refine gR 9 rfl ?_
 obtain ⟨i, hs19, h⟩ := h
 refine gC0 hs19 (by kernel_rfl) rfl rfl .rfl rfl <| gR 2 rfl <| gB 29 rfl rfl rfl ?_ ?_ <;> intro hd
 replace h := h.1 hd
 refine gR 5 rfl <| gHR 7 (kidsV [(Tree.node a.kind [65] a.leads a.kids)]) rfl (cI (Tree.node a.kind [65] a.leads a.kids)) rfl ?_
 obtain ⟨hb, h⟩ := h
 refine gDo (.repl 1 (.row 35 4 (kidsV (b ++ [(Tree.node a.kind [65] a.leads a.kids)])))) (bu ac rfl rfl rfl rfl rfl (eN b [(Tree.node a.kind [65] a.leads a.kids)]).symm (by rw [aI]; exact hb)) (okR rfl) rfl rfl rfl <| gR 6 rfl ?_
 obtain ⟨hb, h⟩ := h
 exact gR 1 rfl <| gV 16 (.int .i64 (c - 1)) rfl (ao hb rfl) rfl <| gR 2 rfl <| go_xloop <| gJ (h K _ hK (by omega)) [0, 8, 2] [] rfl hK pq4 ⟨⟨_, rfl, rfl, rfl, rfl⟩, ⟨_, rfl, rfl, rfl, (eR _ (b ++ [(Tree.node a.kind [65] a.leads a.kids)])).symm⟩, (pqo1 rfl rfl)⟩ rfl
 replace h := h.2 hd
 refine gR 6 rfl ?_
 obtain ⟨hb, h⟩ := h
 exact gR 1 rfl <| gV 16 (.int .i64 (c - 1)) rfl (ao hb rfl) rfl <| gR 2 rfl <| go_xloop <| gJ (h K _ hK (by omega)) [0, 1, 2] [] rfl hK pq4 ⟨⟨_, rfl, rfl, rfl, rfl⟩, ⟨_, rfl, rfl, rfl, (eR _ b).symm⟩, (pqo1 rfl rfl)⟩ rfl
 replace hd := (ne_of_beq_false hd)
 replace h := h.2 hd
 refine gR 6 rfl ?_
 obtain ⟨k, hs20, h⟩ := h
 refine gC0 hs20 (by kernel_rfl) rfl rfl .rfl rfl <| gR 2 rfl <| gB 29 rfl rfl rfl ?_ ?_ <;> intro hd
 replace h := h.1 hd
 refine gR 5 rfl <| gHR 7 (kidsV [a]) rfl (cI a) rfl ?_
 obtain ⟨hb, h⟩ := h
 refine gDo (.repl 1 (.row 35 4 (kidsV (b ++ [a])))) (bu ac rfl rfl rfl rfl rfl (eN b [a]).symm (by rw [aI]; exact hb)) (okR rfl) rfl rfl rfl <| gR 6 rfl ?_
 obtain ⟨hb, h⟩ := h
 exact gR 1 rfl <| gV 16 (.int .i64 (c - 1)) rfl (ao hb rfl) rfl <| gR 2 rfl <| go_xloop <| gJ (h K _ hK (by omega)) [0, 8, 2] [] rfl hK pq4 ⟨⟨_, rfl, rfl, rfl, rfl⟩, ⟨_, rfl, rfl, rfl, (eR _ (b ++ [a])).symm⟩, (pqo1 rfl rfl)⟩ rfl
 replace h := h.2 hd
 refine gR 6 rfl ?_
 obtain ⟨hb, h⟩ := h
 exact gR 1 rfl <| gV 16 (.int .i64 (c - 1)) rfl (ao hb rfl) rfl <| gR 2 rfl <| go_xloop <| gJ (h K _ hK (by omega)) [0, 1, 2] [] rfl hK pq4 ⟨⟨_, rfl, rfl, rfl, rfl⟩, ⟨_, rfl, rfl, rfl, (eR _ b).symm⟩, (pqo1 rfl rfl)⟩ rfl
 replace hd := (of_decide_eq_false hd)
 replace h := h.2 hd
 refine gR 3 rfl <| go_xloopE <| gR 9 rfl <| gFR 1 rfl (aU _) rfl rfl ?_
 subst h
 exact go_end ac (rs := [.tmp 2]) rfl rfl rfl
theorem jb (m : Nat) (b : List Int) (a p1 r0 : Int) (g : List Int) (c : Int) (h : (((b.length : Int) ≤ a) → 0 = r0 ∧ b = g ∧ a = c) ∧ ((¬ (b.length : Int) ≤ a) → InI (a + 1) ∧ InI ((a + 1) - 1) ∧ ∃ d, ((a + 1) - 1) = ((d : Nat) : Int) ∧ ∃ i, b[d]? = some i ∧ ∃ e, jX i p1 e ∧ e = r0 ∧ b = g ∧ (a + 1) = c)) : aA b a p1 r0 g c := by
 refine ak 35 [0] Tryz.func39 rfl rfl rfl (az rfl) fun K hK => ?_
 refine gR 7 rfl <| gDs [0] 10 10 rfl (by kernel_rfl) (by kernel_rfl) <| gDr [(0, 2), (1, 2), (2, 2), (3, 3), (4, 0), (5, 0), (6, 0), (7, 0), (8, 0)] (by kernel_rfl) rfl rfl <| gV 13 (.int .i64 (b.length : Int)) rfl (aO (aY (V.int .i64) _)) rfl <| gLB 12 rfl (aY (V.int .i64) _) fun hl9 => gDr [(9, 0)] (by kernel_rfl) rfl rfl <| gDe (by kernel_rfl) <| gR 1 rfl <| qBd 14 rfl rfl rfl h (fun h => ?_) fun h => ?_
 refine gR 8 rfl ?_
 obtain ⟨rfl, rfl, rfl⟩ := h
 exact go_sub (F' := (mkF 35 0 [(4, .int .i64 0)])) (H' := ⟨1, [(0, .var 108 [.row 1 (List.map (V.int .i64) b), .int .i64 a])]⟩) [0] [0] rfl hK pq1 (pqo1 rfl rfl) rfl <| go_endD [] ac (rs := [.tmp 4]) rfl rfl ⟨rfl, rfl⟩
 refine gR 9 rfl ?_
 obtain ⟨hb, h⟩ := h
 refine gR 1 rfl <| gV 19 (.int .i64 (a + 1)) rfl (ao hb rfl) rfl <| gR 6 rfl <| gDs [0] 13 14 rfl (by kernel_rfl) (by kernel_rfl) <| gDr [(0, 2), (1, 2), (2, 2), (3, 3), (4, 2), (5, 2), (6, 2), (7, 3)] (by kernel_rfl) rfl rfl ?_
 obtain ⟨hb, h⟩ := h
 refine gDr [(8, 2)] (by kernel_rfl) rfl rfl <| gV 30 (.int .i64 ((a + 1) - 1)) rfl (ao hb rfl) rfl ?_
 obtain ⟨d, j, h⟩ := h
 refine gV 30 (.int .i64 ((d : Nat) : Int)) rfl (cO j) rfl ?_
 obtain ⟨i, hxn0_2, h⟩ := h
 refine gYd 9 rfl (by kernel_rfl) (aG (mapget (f := (V.int .i64)) hxn0_2) ac rfl rfl rfl rfl) rfl rfl <| gDr [(10, 2), (11, 0)] (by kernel_rfl) rfl rfl ?_
 obtain ⟨e, hs10, h⟩ := h
 refine aN 12 hs10 (by kernel_rfl) rfl (by kernel_rfl) rfl rfl .rfl rfl rfl ?_
 refine gDr [(13, 1)] (by kernel_rfl) rfl rfl <| gDe (by kernel_rfl) <| gR 2 rfl ?_
 obtain ⟨rfl, rfl, rfl⟩ := h
 exact go_sub (F' := (mkF 35 0 [(4, .int .i64 e)])) (H' := ⟨1, [(0, .var 108 [.row 1 (List.map (V.int .i64) b), .int .i64 (a + 1)])]⟩) [0] [0] rfl hK pq1 (pqo1 rfl rfl) rfl <| go_endD [] ac (rs := [.tmp 4]) rfl rfl ⟨rfl, rfl⟩
def dZ (m : Nat) (p0 : Int) (a : (List (List UInt8))) (b : Nat) (r0 : (List (List UInt8))) : Prop := ∀ (K : Ctx) (j1 : Nat), aq K [] → m ≤ j1 → qLG K Tryz.f136 (fun u G => u = .sl 0 ∧ G = ⟨1, [(0, .row 9 1 (List.map V.str r0))]⟩) (xI (ae Tryz.f136)) [.loop (xI (ae Tryz.f136)) j1, .blk 0, .seq (xH (ae Tryz.f136))] 14 (mkF 14 0 [(0, .int .i64 p0), (3, .sl 0), (4, .int .i64 (b : Int))]) ⟨1, [(0, .row 9 1 (List.map V.str a))]⟩
theorem oQ (m : Nat) (p0 : Int) (r0 : (List (List UInt8))) (h : dZ m p0 ([] : List (List UInt8)) 0 r0) : gP p0 r0 := by
 refine ak 14 [] Tryz.func136 rfl rfl rfl (az rfl) fun K hK => ?_
 exact gR 17 rfl <| go_loop m <| gNS 3 9 1 rfl rfl rfl rfl <| gJ (h K _ hK (by omega)) [0] [] rfl hK pq3 ⟨⟨_, rfl, rfl, rfl, rfl⟩, trivial⟩ rfl
theorem fY (m : Nat) (p0 : Int) (a : (List (List UInt8))) (b : Nat) (r0 : (List (List UInt8))) (h : (((b : Int) < p0) → (a ++ [[32]]).length ≤ 1000000000 ∧ b + 1 ≤ 9223372036854775807 ∧ dZ m p0 (a ++ [[32]]) (b + 1) r0) ∧ ((¬ (b : Int) < p0) → a = r0)) : dZ (m + 1) p0 a b r0 := by
 intro K j1 hK hj1
 obtain ⟨j1, rfl⟩ : ∃ j, j1 = j + 1 := ⟨j1 - 1, by omega⟩
 refine gR 8 rfl <| gB 7 rfl rfl rfl ?_ ?_ <;> intro hd
 replace hd := (of_decide_eq_true hd)
 replace h := h.1 hd
 refine gR 8 rfl ?_
 obtain ⟨hb, h⟩ := h
 refine gDo (.repl 0 (.row 9 1 (List.map V.str (a ++ [[32]])))) (bu ac rfl rfl rfl rfl rfl (apM V.str a [32]) (by rw [aY]; exact hb)) (okR rfl) rfl rfl rfl <| gR 6 rfl ?_
 obtain ⟨hb, h⟩ := h
 exact gR 1 rfl <| gV 9 (.int .i64 ((b + 1 : Nat) : Int)) rfl (ao (by omega) (by omega)) rfl <| gR 2 rfl <| go_xloop <| gJ (h K _ hK (by omega)) [2] [] rfl hK pq3 ⟨⟨_, rfl, rfl, rfl, (am _ V.str (fun _ => rfl) (a ++ [[32]])).symm⟩, trivial⟩ rfl
 replace hd := (of_decide_eq_false hd)
 replace h := h.2 hd
 refine gR 3 rfl <| go_xloopE <| gR 9 rfl ?_
 subst h
 exact go_sub (F' := (mkF 14 0 [(2, .sl 0)])) (H' := ⟨1, [(0, .row 9 1 (List.map V.str a))]⟩) [0] [] rfl hK pq1 ⟨⟨_, rfl, rfl, rfl, (am _ V.str (fun _ => rfl) a).symm⟩, trivial⟩ rfl <| go_endD [] ac (rs := [.tmp 2]) rfl rfl ⟨rfl, rfl⟩
def cU (m : Nat) (p0 : Tree) (p2 : List UInt8) (a : Bool) (r0 : List UInt8) : Prop := ∀ (K : Ctx), aq K [] → qLG K Tryz.f137 (fun u _ => u = .str r0) (cB (xF (ae Tryz.f137))) [.blk 1, .seq (xH (ae Tryz.f137))] 31 (mkF 31 0 [(2, .str p2), (3, .box (an p0) 0), (15, .int .i64 p0.kind), (16, .bool a)]) ⟨0, []⟩
theorem oJ (m : Nat) (p0 : Tree) (p1 : Int) (p2 r0 : List UInt8) (h : ((p0.kind = 1) → [10, 10] = r0) ∧ ((p0.kind ≠ 1) → ((0 < p1) → [32] = r0) ∧ ((¬ 0 < p1) → ((p0.kind = 8) → cU m p0 p2 true r0) ∧ ((p0.kind ≠ 8) → ((p0.kind = 22) → cU m p0 p2 true r0) ∧ ((p0.kind ≠ 22) → ((p0.kind = 16) → cU m p0 p2 true r0) ∧ ((p0.kind ≠ 16) → cU m p0 p2 (p0.kind == 18) r0)))))) : hJ p0 p1 p2 r0 := by
 refine ⟨rfl, rfl, ?_⟩
 refine ak 31 [] Tryz.func137 rfl rfl rfl (az rfl) fun K hK => ?_
 refine gR 3 rfl <| gFP 0 rfl rfl rfl rfl <| gR 13 rfl <| qBeZ 7 10 rfl rfl rfl rfl h (fun h => ?_) fun h => ?_
 refine gR 9 rfl ?_
 subst h
 exact go_end ac (rs := [.tmp 6]) rfl rfl rfl
 refine gR 8 rfl <| qBdZ 11 13 rfl rfl rfl rfl h (fun h => ?_) fun h => ?_
 refine gR 9 rfl ?_
 subst h
 exact go_end ac (rs := [.tmp 6]) rfl rfl rfl
 refine gR 19 rfl <| qBeZ 16 17 rfl rfl rfl rfl h (fun h => ?_) fun h => ?_
 exact gR 3 rfl <| gJ (h K hK) [] [] rfl hK pq4 trivial rfl
 refine gR 7 rfl <| qBeZ 16 18 rfl rfl rfl rfl h (fun h => ?_) fun h => ?_
 exact gR 3 rfl <| gJ (h K hK) [] [] rfl hK pq4 trivial rfl
 refine gR 7 rfl <| qBeZ 16 19 rfl rfl rfl rfl h (fun h => ?_) fun h => ?_
 exact gR 3 rfl <| gJ (h K hK) [] [] rfl hK pq4 trivial rfl
 exact gR 6 rfl <| gJ (h K hK) [] [] rfl hK pq4 trivial rfl
theorem ot (m : Nat) (p0 : Tree) (p2 : List UInt8) (a : Bool) (r0 : List UInt8) (h : ((a = true) → [] = r0) ∧ ((a = false) → ((p0.kind = 2) → ((2 < (p0.kids.length : Int)) → [] = r0) ∧ ((¬ 2 < (p0.kids.length : Int)) → [32] = r0)) ∧ ((p0.kind ≠ 2) → ((p0.kind = 17) → p2 = r0) ∧ ((p0.kind ≠ 17) → ((p0.kind = 21) → p2 = r0) ∧ ((p0.kind ≠ 21) → [32] = r0))))) : cU (m + 1) p0 p2 a r0 := by
 intro K hK
 refine qBi 16 rfl rfl rfl h (fun h => ?_) fun h => ?_
 refine gR 9 rfl ?_
 subst h
 exact go_end ac (rs := [.tmp 6]) rfl rfl rfl
 refine gR 7 rfl <| qBeZ 21 22 rfl rfl rfl rfl h (fun h => ?_) fun h => ?_
 refine gR 6 rfl <| gV 25 (.int .i64 (p0.kids.length : Int)) rfl (aO (aI _)) rfl <| gLB 24 rfl (aI _) fun hl3 => gR 3 rfl <| qBd 26 rfl rfl rfl h (fun h => ?_) fun h => ?_
 refine gR 9 rfl ?_
 subst h
 exact go_end ac (rs := [.tmp 6]) rfl rfl rfl
 refine gR 10 rfl ?_
 subst h
 exact go_end ac (rs := [.tmp 6]) rfl rfl rfl
 refine gR 8 rfl <| qBeZ 27 28 rfl rfl rfl rfl h (fun h => ?_) fun h => ?_
 refine gR 13 rfl ?_
 subst h
 exact go_end ac (rs := [.tmp 6]) rfl rfl rfl
 refine gR 6 rfl <| qBeZ 27 29 rfl rfl rfl rfl h (fun h => ?_) fun h => ?_
 refine gR 10 rfl ?_
 subst h
 exact go_end ac (rs := [.tmp 6]) rfl rfl rfl
 refine gR 10 rfl ?_
 subst h
 exact go_end ac (rs := [.tmp 6]) rfl rfl rfl
def jF (m : Nat) (p0 : Tree) (p1 : List UInt8) (a : (List (List UInt8))) (r0 : Tree) : Prop := ∀ (K : Ctx), aq K [] → Go Tryz.prog K (bodyPost Tryz.prog Tryz.f93 (SP K (fun u _ => u = .agg (an r0)))) (.ex .normal) [.seq (xH (ae Tryz.f93))] 109 (mkF 109 0 [(1, .str p1), (2, .box (an p0) 0), (4, .ptr 0 0), (5, .int .i64 (p0.kids.length : Int)), (6, .ptr 1 0)]) ⟨3, [(2, .row 9 1 (List.map V.str a)), (1, .var 35 [.int .i64 p0.kind, .str p0.text, .sl 2, .nils]), (0, .var 35 [.int .i64 0, .str [], .nils, .nils])]⟩
def cN (m : Nat) (p0 : Tree) (p1 : List UInt8) (a : (List (List UInt8))) (b : List Tree) (c : Nat) (r0 : Tree) : Prop := ∀ (K : Ctx) (j1 : Nat), aq K [] → m ≤ j1 → qLG K Tryz.f93 (fun u _ => u = .agg (an r0)) (xI (xA (ae Tryz.f93))) [.loop (xI (xA (ae Tryz.f93))) j1, .blk 0, .seq (xA (xH (ae Tryz.f93)))] 109 (mkF 109 0 [(1, .str p1), (2, .box (an p0) 0), (4, .ptr 0 0), (5, .int .i64 (p0.kids.length : Int)), (6, .ptr 1 0), (7, .sl 2), (8, .int .i64 (c : Int))]) ⟨4, [(3, .row 9 1 (List.map V.str a)), (2, .row 35 4 (kidsV b)), (1, .var 35 [.int .i64 p0.kind, .str p0.text, .sl 3, .nils]), (0, .var 35 [.int .i64 0, .str [], .nils, .nils])]⟩
def cG (m : Nat) (p0 : Tree) (a : (List (List UInt8))) (b : List Tree) (r0 : Tree) : Prop := ∀ (K : Ctx), aq K [] → qLG K Tryz.f93 (fun u _ => u = .agg (an r0)) (xJ (xA (ae Tryz.f93))) [] 109 (mkF 109 0 [(2, .box (an p0) 0), (4, .ptr 0 0), (6, .ptr 1 0), (7, .sl 2)]) ⟨4, [(3, .row 9 1 (List.map V.str a)), (2, .row 35 4 (kidsV b)), (1, .var 35 [.int .i64 p0.kind, .str p0.text, .sl 3, .nils]), (0, .var 35 [.int .i64 0, .str [], .nils, .nils])]⟩
def dO (m : Nat) (p0 : Tree) (a : (List (List UInt8))) (b : Nat) (c : List Tree) (r0 : Tree) : Prop := ∀ (K : Ctx) (j1 : Nat), aq K [] → m ≤ j1 → qLG K Tryz.f93 (fun u _ => u = .agg (an r0)) (cL (cK (xA (xM (xK (xJ (ae Tryz.f93))))))) [.loop (cL (cK (xA (xM (xK (xJ (ae Tryz.f93))))))) j1, .blk 3, .blk 2, .seq (xJ (xH (ae Tryz.f93)))] 109 (mkF 109 0 [(4, .ptr 0 0), (6, .ptr 1 0), (7, .sl 2), (9, .int .i64 (b : Int))]) ⟨4, [(3, .row 9 1 (List.map V.str a)), (2, .row 35 4 (kidsV c)), (1, .var 35 [.int .i64 p0.kind, .str p0.text, .sl 3, .nils]), (0, .var 35 [.int .i64 0, .str [], .nils, .nils])]⟩
def cM (m : Nat) (p0 : Tree) (a : (List (List UInt8))) (b : Nat) (c : List Tree) (r0 : Tree) : Prop := ∀ (K : Ctx) (j1 : Nat), aq K [] → m ≤ j1 → qLG K Tryz.f93 (fun u _ => u = .agg (an r0)) (cL (xD (xM (xC (xK (xJ (ae Tryz.f93))))))) [.loop (cL (xD (xM (xC (xK (xJ (ae Tryz.f93))))))) j1, .blk 5, .blk 2, .seq (xJ (xH (ae Tryz.f93)))] 109 (mkF 109 0 [(4, .ptr 0 0), (6, .ptr 1 0), (7, .sl 2), (10, .int .i64 (b : Int))]) ⟨4, [(3, .row 9 1 (List.map V.str a)), (2, .row 35 4 (kidsV c)), (1, .var 35 [.int .i64 p0.kind, .str p0.text, .sl 3, .nils]), (0, .var 35 [.int .i64 0, .str [], .nils, .nils])]⟩
theorem ox (m : Nat) (p0 : Tree) (p1 : List UInt8) (r0 : Tree) (h : ∃ b, dF p0.kind (p0.kids.length : Int) b ∧ ∃ a, gP b a ∧ jF m p0 p1 a r0) : dY p0 p1 r0 := by
 refine ⟨rfl, rfl, ?_⟩
 refine ak 109 [] Tryz.func93 rfl rfl rfl (az rfl) fun K hK => ?_
 refine gR 3 rfl <| gFP 0 rfl rfl rfl rfl <| gR 8 rfl <| gV 13 (.int .i64 (p0.kids.length : Int)) rfl (aO (aI _)) rfl <| gLB 12 rfl (aI _) fun hl31 => gR 4 rfl <| gDs [] 11 12 rfl (by kernel_rfl) (by kernel_rfl) <| gDr [(0, 2), (1, 2), (2, 2), (3, 2), (4, 2), (5, 2), (6, 2)] (by kernel_rfl) rfl rfl ?_
 obtain ⟨b, hs32, h⟩ := h
 apply be (i := 7) (j := 10) (by kernel_rfl) rfl rfl rfl rfl
 exact (bL (L' := []) (by kernel_rfl) rfl rfl (gk hs32 .rfl [] rfl) (.inl rfl))
 exact (ay ac rfl rfl)
 obtain ⟨a, hs33, h⟩ := h
 apply be (i := 8) (j := 10) (by kernel_rfl) rfl rfl rfl rfl
 exact (bL (L' := []) (by kernel_rfl) rfl rfl (ra (H := ⟨2, [(1, .var 35 [.int .i64 0, .str [], .nils, .nils])]⟩) hs33 [] .rfl trivial rfl [] rfl) (.inl rfl))
 exact (ay ac rfl rfl)
 exact gHR 2 (List.map V.str a) rfl (am _ V.str (fun _ => rfl) a) rfl <| gDr [(9, 2), (10, 0), (11, 1)] (by kernel_rfl) rfl rfl <| gDe (by kernel_rfl) <| gJ (h K hK) [1, 3, 2] [] rfl hK pq5 ⟨⟨_, rfl, rfl, rfl, (am _ V.str (fun _ => rfl) a).symm⟩, (pqo2 rfl rfl rfl rfl)⟩ rfl
 refine gDC 8 hs33 [] (by kernel_rfl) rfl (by kernel_rfl) rfl rfl .rfl trivial (by kernel_rfl) rfl ?_
 rintro _ _ ⟨rfl, rfl⟩
 exact gHR 3 (List.map V.str a) rfl (am _ V.str (fun _ => rfl) a) rfl <| gDr [(9, 0), (11, 1)] (by kernel_rfl) rfl rfl <| gDe (by kernel_rfl) <| gJ (h K hK) [1, 2, 3] [] rfl hK pq5 ⟨⟨_, rfl, rfl, rfl, (am _ V.str (fun _ => rfl) a).symm⟩, (pqo2 rfl rfl rfl rfl)⟩ rfl
 refine aN 7 hs32 (by kernel_rfl) rfl (by kernel_rfl) rfl rfl .rfl rfl rfl ?_
 obtain ⟨a, hs34, h⟩ := h
 refine gDC 8 hs34 [] (by kernel_rfl) rfl (by kernel_rfl) rfl rfl .rfl trivial (by kernel_rfl) rfl ?_
 rintro _ _ ⟨rfl, rfl⟩
 exact gHR 3 (List.map V.str a) rfl (am _ V.str (fun _ => rfl) a) rfl <| gDr [(9, 0), (11, 1)] (by kernel_rfl) rfl rfl <| gDe (by kernel_rfl) <| gJ (h K hK) [1, 2, 3] [] rfl hK pq5 ⟨⟨_, rfl, rfl, rfl, (am _ V.str (fun _ => rfl) a).symm⟩, (pqo2 rfl rfl rfl rfl)⟩ rfl
theorem nB (m : Nat) (p0 : Tree) (p1 : List UInt8) (a : (List (List UInt8))) (r0 : Tree) (h : p0.kids.length ≤ 1000000000 ∧ cN m p0 p1 a (List.replicate p0.kids.length (Tree.node 0 [] [] [])) 0 r0) : jF (m + 1) p0 p1 a r0 := by
 intro K hK
 refine gR 4 rfl ?_
 obtain ⟨hb, h⟩ := h
 exact gDo (.new (.row 35 4 (List.replicate p0.kids.length (.agg [.int .i64 0, .str [], .nils, .nils])))) (dMk ac rfl rfl rfl rfl rfl rfl rfl (by kernel_rfl) hb) trivial rfl rfl rfl <| gHW 3 (List.replicate p0.kids.length (.agg [.int .i64 0, .str [], .row 1 [], .row 4 (kidsV [])])) rfl rfl (au.rep (.agg (.cons .rfl (.cons .rfl (.cons (.nil 1) (.cons (.nil 4) .nil))))) _) rfl <| gHR 3 (kidsV (List.replicate p0.kids.length (Tree.node 0 [] [] []))) rfl (by first | (simp only [rc, List.map_replicate]; done) | (simp only [rc, List.map_replicate]; rfl)) rfl <| gR 10 rfl <| go_loop m <| gJ (h K _ hK (by omega)) [0, 1, 3, 2] [] rfl hK pq7 ⟨⟨_, rfl, rfl, rfl, (am _ V.str (fun _ => rfl) a).symm⟩, ⟨_, rfl, rfl, rfl, (eR _ (List.replicate p0.kids.length (Tree.node 0 [] [] []))).symm⟩, (pqo2 rfl rfl rfl rfl)⟩ rfl
theorem dw (m : Nat) (p0 : Tree) (p1 : List UInt8) (b : (List (List UInt8))) (c : List Tree) (a : Nat) (r0 : Tree) (h : ((a < p0.kids.length) → ∃ e, p0.kids[a]? = some e ∧ ∃ g, hJ p0 (a : Int) p1 g ∧ ∃ d, dY e g d ∧ ∃ i, c[a]? = some i ∧ a + 1 ≤ 9223372036854775807 ∧ cN m p0 p1 b (c.set a d) (a + 1) r0) ∧ ((¬ a < p0.kids.length) → ((p0.kind ≠ 17) → ((p0.kind ≠ 21) → ∃ k, b[0]? = some k ∧ cG m p0 (b.set 0 p1) c r0) ∧ ((p0.kind = 21) → cG m p0 b c r0)) ∧ ((p0.kind = 17) → cG m p0 b c r0))) : cN (m + 1) p0 p1 b c a r0 := by
 intro K j1 hK hj1
 obtain ⟨j1, rfl⟩ : ∃ j, j1 = j + 1 := ⟨j1 - 1, by omega⟩
 refine gR 8 rfl <| gB 28 rfl rfl rfl ?_ ?_ <;> intro hd
 replace hd := (ch hd)
 replace h := h.1 hd
 refine gR 5 rfl <| gDs [] 13 14 rfl (by kernel_rfl) (by kernel_rfl) <| gDr [(0, 2), (1, 2), (2, 2), (3, 2), (4, 2)] (by kernel_rfl) rfl rfl ?_
 obtain ⟨e, hxt2_1, h⟩ := h
 refine gYd 5 rfl (by kernel_rfl) (aG (av hxt2_1) ac rfl rfl rfl rfl) rfl rfl <| gDr [(6, 2), (7, 2), (8, 2), (9, 0)] (by kernel_rfl) rfl rfl ?_
 obtain ⟨g, hs35, h⟩ := h
 refine aN 10 hs35 (by kernel_rfl) rfl (by kernel_rfl) rfl rfl .rfl rfl rfl ?_
 obtain ⟨d, hs36, h⟩ := h
 refine aN 11 hs36 (by kernel_rfl) rfl (by kernel_rfl) rfl rfl .rfl rfl rfl ?_
 obtain ⟨i, hxt2_4, h⟩ := h
 refine ev 12 rfl (by kernel_rfl) (yIO ac rfl rfl rfl rfl (by have := (av hxt2_4); exact (List.getElem?_eq_some_iff.1 this).1)) rfl rfl ?_
 refine bW 13 (.set 2 (.row 35 4 (kidsV (c.set a d)))) rfl (by kernel_rfl) (dSe ac rfl rfl rfl rfl (av hxt2_4) rfl (BJ c a d)) (okS rfl) rfl (by kernel_rfl) rfl rfl ?_
 refine gDe (by kernel_rfl) <| gR 4 rfl ?_
 obtain ⟨hb, h⟩ := h
 exact gR 1 rfl <| gV 30 (.int .i64 ((a + 1 : Nat) : Int)) rfl (ao (by omega) (by omega)) rfl <| gR 2 rfl <| go_xloop <| gJ (h K _ hK (by omega)) [0, 1, 2, 3] [] rfl hK pq7 ⟨⟨_, rfl, rfl, rfl, (am _ V.str (fun _ => rfl) b).symm⟩, ⟨_, rfl, rfl, rfl, (eR _ (c.set a d)).symm⟩, (pqo2 rfl rfl rfl rfl)⟩ rfl
 replace hd := (cg hd)
 replace h := h.2 hd
 refine gR 3 rfl <| go_xloopE <| gR 9 rfl <| gB 47 rfl rfl rfl ?_ ?_ <;> intro hd
 refine gT 46 rfl hd rfl ?_
 replace hd := (cz hd)
 replace h := h.1 hd
 refine gR 6 rfl <| gB 51 rfl rfl rfl ?_ ?_ <;> intro hd
 replace hd := (cz hd)
 replace h := h.1 hd
 refine gR 5 rfl ?_
 obtain ⟨k, hxs2_5, h⟩ := h
 refine gY (yIO ac rfl rfl rfl rfl (by have := (mapget (f := V.str) hxs2_5); exact (List.getElem?_eq_some_iff.1 this).1)) rfl rfl ?_
 exact gDo (.set 3 (.row 9 1 (List.map V.str (b.set 0 p1)))) (dSe ac rfl rfl rfl rfl (mapget (f := V.str) hxs2_5) rfl (nd V.str b 0 p1)) (okS rfl) rfl rfl rfl <| gR 2 rfl <| gJ (h K hK) [0, 1, 2, 3] [] rfl hK pq4 ⟨⟨_, rfl, rfl, rfl, (am _ V.str (fun _ => rfl) (b.set 0 p1)).symm⟩, ⟨_, rfl, rfl, rfl, (eR _ c).symm⟩, (pqo2 rfl rfl rfl rfl)⟩ rfl
 replace hd := (bN hd)
 replace h := h.2 hd
 exact gR 3 rfl <| gJ (h K hK) [0, 1, 2, 3] [] rfl hK pq4 ⟨⟨_, rfl, rfl, rfl, (am _ V.str (fun _ => rfl) b).symm⟩, ⟨_, rfl, rfl, rfl, (eR _ c).symm⟩, (pqo2 rfl rfl rfl rfl)⟩ rfl
 refine gF 46 rfl hd rfl ?_
 replace hd := (bN hd)
 replace h := h.2 hd
 exact gR 9 rfl <| gJ (h K hK) [0, 1, 2, 3] [] rfl hK pq4 ⟨⟨_, rfl, rfl, rfl, (am _ V.str (fun _ => rfl) b).symm⟩, ⟨_, rfl, rfl, rfl, (eR _ c).symm⟩, (pqo2 rfl rfl rfl rfl)⟩ rfl
theorem br (m : Nat) (p0 : Tree) (a : (List (List UInt8))) (b : List Tree) (r0 : Tree) (h : ((p0.kind = 1) → ∃ c, a[2]? = some c ∧ (Tree.node p0.kind p0.text (a.set 2 [10]) b) = r0) ∧ ((p0.kind ≠ 1) → ((p0.kind = 2) → ∃ d, a[2]? = some d ∧ ∃ e, (a.set 2 [])[3]? = some e ∧ ∃ g, ((a.set 2 []).set 3 [])[4]? = some g ∧ dO m p0 (((a.set 2 []).set 3 []).set 4 []) 6 b r0) ∧ ((p0.kind ≠ 2) → ((p0.kind = 4) → ∃ i, a[1]? = some i ∧ (Tree.node p0.kind p0.text (a.set 1 []) b) = r0) ∧ ((p0.kind ≠ 4) → ((p0.kind = 8) → ∃ j, a[1]? = some j ∧ (Tree.node p0.kind p0.text (a.set 1 []) b) = r0) ∧ ((p0.kind ≠ 8) → ((p0.kind = 22) → ∃ k, a[1]? = some k ∧ (Tree.node p0.kind p0.text (a.set 1 []) b) = r0) ∧ ((p0.kind ≠ 22) → ((p0.kind = 16) → cM m p0 a 1 b r0) ∧ ((p0.kind ≠ 16) → ((p0.kind = 18) → cM m p0 a 1 b r0) ∧ ((p0.kind ≠ 18) → (Tree.node p0.kind p0.text a b) = r0)))))))) : cG (m + 1) p0 a b r0 := by
 intro K hK
 refine gR 14 rfl <| gB 58 rfl rfl rfl ?_ ?_ <;> intro hd
 refine gT 59 rfl hd rfl ?_
 replace hd := (eq_of_beq hd)
 replace h := h.1 hd
 refine gR 4 rfl ?_
 obtain ⟨c, hxs3_1, h⟩ := h
 refine gY (yIO ac rfl rfl rfl rfl (by have := (mapget (f := V.str) hxs3_1); exact (List.getElem?_eq_some_iff.1 this).1)) rfl rfl ?_
 refine gDo (.set 3 (.row 9 1 (List.map V.str (a.set 2 [10])))) (dSe ac rfl rfl rfl rfl (mapget (f := V.str) hxs3_1) rfl (nd V.str a 2 [10])) (okS rfl) rfl rfl rfl <| gR 17 rfl <| gFR 3 rfl (gW _ (fun _ => rfl) _) rfl rfl <| gFR 2 rfl (aU _) rfl rfl ?_
 subst h
 exact go_sub (F' := (mkF 109 0 [(4, .ptr 0 0)])) (H' := ⟨1, [(0, .var 35 [.int .i64 ((Tree.node p0.kind p0.text (a.set 2 [10]) b).kind), .str ((Tree.node p0.kind p0.text (a.set 2 [10]) b).text), .row 1 (List.map V.str ((Tree.node p0.kind p0.text (a.set 2 [10]) b).leads)), .row 4 (kidsV ((Tree.node p0.kind p0.text (a.set 2 [10]) b).kids))])]⟩) [0] [] rfl hK pq1 (pqo1 rfl rfl) rfl <| go_end ac (rs := [.cell 4 35]) rfl rfl rfl
 refine gF 59 rfl hd rfl ?_
 replace hd := (ne_of_beq_false hd)
 replace h := h.2 hd
 refine gR 7 rfl <| gB 63 rfl rfl rfl ?_ ?_ <;> intro hd
 refine gT 64 rfl hd rfl ?_
 replace hd := (eq_of_beq hd)
 replace h := h.1 hd
 refine gR 2 rfl <| gDs [1] 11 12 rfl (by kernel_rfl) (by kernel_rfl) <| gDr [(0, 2), (1, 3), (2, 2), (3, 3), (4, 2), (5, 3)] (by kernel_rfl) rfl rfl ?_
 obtain ⟨d, hxs3_2, h⟩ := h
 refine ev 6 rfl (by kernel_rfl) (yIO ac rfl rfl rfl rfl (by have := (mapget (f := V.str) hxs3_2); exact (List.getElem?_eq_some_iff.1 this).1)) rfl rfl ?_
 refine bW 7 (.set 3 (.row 9 1 (List.map V.str (a.set 2 [])))) rfl (by kernel_rfl) (dSe ac rfl rfl rfl rfl (mapget (f := V.str) hxs3_2) rfl (nd V.str a 2 [])) (okS rfl) rfl (by kernel_rfl) rfl rfl ?_
 obtain ⟨e, hxs3_3, h⟩ := h
 refine ev 8 rfl (by kernel_rfl) (yIO ac rfl rfl rfl rfl (by have := (mapget (f := V.str) hxs3_3); exact (List.getElem?_eq_some_iff.1 this).1)) rfl rfl ?_
 refine bW 9 (.set 3 (.row 9 1 (List.map V.str ((a.set 2 []).set 3 [])))) rfl (by kernel_rfl) (dSe ac rfl rfl rfl rfl (mapget (f := V.str) hxs3_3) rfl (nd V.str (a.set 2 []) 3 [])) (okS rfl) rfl (by kernel_rfl) rfl rfl ?_
 obtain ⟨g, hxs3_4, h⟩ := h
 refine ev 10 rfl (by kernel_rfl) (yIO ac rfl rfl rfl rfl (by have := (mapget (f := V.str) hxs3_4); exact (List.getElem?_eq_some_iff.1 this).1)) rfl rfl ?_
 refine bW 11 (.set 3 (.row 9 1 (List.map V.str (((a.set 2 []).set 3 []).set 4 [])))) rfl (by kernel_rfl) (dSe ac rfl rfl rfl rfl (mapget (f := V.str) hxs3_4) rfl (nd V.str ((a.set 2 []).set 3 []) 4 [])) (okS rfl) rfl (by kernel_rfl) rfl rfl ?_
 exact gDe (by kernel_rfl) <| gR 7 rfl <| go_loop m <| gJ (h K _ hK (by omega)) [0, 1, 2, 3] [] rfl hK pq4 ⟨⟨_, rfl, rfl, rfl, (am _ V.str (fun _ => rfl) (((a.set 2 []).set 3 []).set 4 [])).symm⟩, ⟨_, rfl, rfl, rfl, (eR _ b).symm⟩, (pqo2 rfl rfl rfl rfl)⟩ rfl
 refine gF 64 rfl hd rfl ?_
 replace hd := (ne_of_beq_false hd)
 replace h := h.2 hd
 refine gR 8 rfl <| gB 85 rfl rfl rfl ?_ ?_ <;> intro hd
 refine gT 86 rfl hd rfl ?_
 replace hd := (eq_of_beq hd)
 replace h := h.1 hd
 refine gR 7 rfl ?_
 obtain ⟨i, hxs3_5, h⟩ := h
 refine gY (yIO ac rfl rfl rfl rfl (by have := (mapget (f := V.str) hxs3_5); exact (List.getElem?_eq_some_iff.1 this).1)) rfl rfl ?_
 refine gDo (.set 3 (.row 9 1 (List.map V.str (a.set 1 [])))) (dSe ac rfl rfl rfl rfl (mapget (f := V.str) hxs3_5) rfl (nd V.str a 1 [])) (okS rfl) rfl rfl rfl <| gR 17 rfl <| gFR 3 rfl (gW _ (fun _ => rfl) _) rfl rfl <| gFR 2 rfl (aU _) rfl rfl ?_
 subst h
 exact go_sub (F' := (mkF 109 0 [(4, .ptr 0 0)])) (H' := ⟨1, [(0, .var 35 [.int .i64 ((Tree.node p0.kind p0.text (a.set 1 []) b).kind), .str ((Tree.node p0.kind p0.text (a.set 1 []) b).text), .row 1 (List.map V.str ((Tree.node p0.kind p0.text (a.set 1 []) b).leads)), .row 4 (kidsV ((Tree.node p0.kind p0.text (a.set 1 []) b).kids))])]⟩) [0] [] rfl hK pq1 (pqo1 rfl rfl) rfl <| go_end ac (rs := [.cell 4 35]) rfl rfl rfl
 refine gF 86 rfl hd rfl ?_
 replace hd := (ne_of_beq_false hd)
 replace h := h.2 hd
 refine gR 7 rfl <| gB 85 rfl rfl rfl ?_ ?_ <;> intro hd
 refine gT 87 rfl hd rfl ?_
 replace hd := (eq_of_beq hd)
 replace h := h.1 hd
 refine gR 7 rfl ?_
 obtain ⟨j, hxs3_6, h⟩ := h
 refine gY (yIO ac rfl rfl rfl rfl (by have := (mapget (f := V.str) hxs3_6); exact (List.getElem?_eq_some_iff.1 this).1)) rfl rfl ?_
 refine gDo (.set 3 (.row 9 1 (List.map V.str (a.set 1 [])))) (dSe ac rfl rfl rfl rfl (mapget (f := V.str) hxs3_6) rfl (nd V.str a 1 [])) (okS rfl) rfl rfl rfl <| gR 17 rfl <| gFR 3 rfl (gW _ (fun _ => rfl) _) rfl rfl <| gFR 2 rfl (aU _) rfl rfl ?_
 subst h
 exact go_sub (F' := (mkF 109 0 [(4, .ptr 0 0)])) (H' := ⟨1, [(0, .var 35 [.int .i64 ((Tree.node p0.kind p0.text (a.set 1 []) b).kind), .str ((Tree.node p0.kind p0.text (a.set 1 []) b).text), .row 1 (List.map V.str ((Tree.node p0.kind p0.text (a.set 1 []) b).leads)), .row 4 (kidsV ((Tree.node p0.kind p0.text (a.set 1 []) b).kids))])]⟩) [0] [] rfl hK pq1 (pqo1 rfl rfl) rfl <| go_end ac (rs := [.cell 4 35]) rfl rfl rfl
 refine gF 87 rfl hd rfl ?_
 replace hd := (ne_of_beq_false hd)
 replace h := h.2 hd
 refine gR 6 rfl <| gB 85 rfl rfl rfl ?_ ?_ <;> intro hd
 refine gT 88 rfl hd rfl ?_
 replace hd := (eq_of_beq hd)
 replace h := h.1 hd
 refine gR 4 rfl ?_
 obtain ⟨k, hxs3_7, h⟩ := h
 refine gY (yIO ac rfl rfl rfl rfl (by have := (mapget (f := V.str) hxs3_7); exact (List.getElem?_eq_some_iff.1 this).1)) rfl rfl ?_
 refine gDo (.set 3 (.row 9 1 (List.map V.str (a.set 1 [])))) (dSe ac rfl rfl rfl rfl (mapget (f := V.str) hxs3_7) rfl (nd V.str a 1 [])) (okS rfl) rfl rfl rfl <| gR 17 rfl <| gFR 3 rfl (gW _ (fun _ => rfl) _) rfl rfl <| gFR 2 rfl (aU _) rfl rfl ?_
 subst h
 exact go_sub (F' := (mkF 109 0 [(4, .ptr 0 0)])) (H' := ⟨1, [(0, .var 35 [.int .i64 ((Tree.node p0.kind p0.text (a.set 1 []) b).kind), .str ((Tree.node p0.kind p0.text (a.set 1 []) b).text), .row 1 (List.map V.str ((Tree.node p0.kind p0.text (a.set 1 []) b).leads)), .row 4 (kidsV ((Tree.node p0.kind p0.text (a.set 1 []) b).kids))])]⟩) [0] [] rfl hK pq1 (pqo1 rfl rfl) rfl <| go_end ac (rs := [.cell 4 35]) rfl rfl rfl
 refine gF 88 rfl hd rfl ?_
 replace hd := (ne_of_beq_false hd)
 replace h := h.2 hd
 refine gR 8 rfl <| gB 92 rfl rfl rfl ?_ ?_ <;> intro hd
 refine gT 93 rfl hd rfl ?_
 replace hd := (eq_of_beq hd)
 replace h := h.1 hd
 exact gR 10 rfl <| go_loop m <| gJ (h K _ hK (by omega)) [0, 1, 2, 3] [] rfl hK pq4 ⟨⟨_, rfl, rfl, rfl, (am _ V.str (fun _ => rfl) a).symm⟩, ⟨_, rfl, rfl, rfl, (eR _ b).symm⟩, (pqo2 rfl rfl rfl rfl)⟩ rfl
 refine gF 93 rfl hd rfl ?_
 replace hd := (ne_of_beq_false hd)
 replace h := h.2 hd
 refine gR 6 rfl <| gB 92 rfl rfl rfl ?_ ?_ <;> intro hd
 refine gT 94 rfl hd rfl ?_
 replace hd := (eq_of_beq hd)
 replace h := h.1 hd
 exact gR 7 rfl <| go_loop m <| gJ (h K _ hK (by omega)) [0, 1, 2, 3] [] rfl hK pq4 ⟨⟨_, rfl, rfl, rfl, (am _ V.str (fun _ => rfl) a).symm⟩, ⟨_, rfl, rfl, rfl, (eR _ b).symm⟩, (pqo2 rfl rfl rfl rfl)⟩ rfl
 refine gF 94 rfl hd rfl ?_
 replace hd := (ne_of_beq_false hd)
 replace h := h.2 hd
 refine gR 18 rfl <| gFR 3 rfl (gW _ (fun _ => rfl) _) rfl rfl <| gFR 2 rfl (aU _) rfl rfl ?_
 subst h
 exact go_sub (F' := (mkF 109 0 [(4, .ptr 0 0)])) (H' := ⟨1, [(0, .var 35 [.int .i64 ((Tree.node p0.kind p0.text a b).kind), .str ((Tree.node p0.kind p0.text a b).text), .row 1 (List.map V.str ((Tree.node p0.kind p0.text a b).leads)), .row 4 (kidsV ((Tree.node p0.kind p0.text a b).kids))])]⟩) [0] [] rfl hK pq1 (pqo1 rfl rfl) rfl <| go_end ac (rs := [.cell 4 35]) rfl rfl rfl
theorem fq (m : Nat) (p0 : Tree) (a : (List (List UInt8))) (b : Nat) (c : List Tree) (r0 : Tree) (h : ((b < a.length) → ∃ d, a[b]? = some d ∧ dO m p0 (a.set b []) (b + 1) c r0) ∧ ((¬ b < a.length) → (Tree.node p0.kind p0.text a c) = r0)) : dO (m + 1) p0 a b c r0 := by
 intro K j1 hK hj1
 obtain ⟨j1, rfl⟩ : ∃ j, j1 = j + 1 := ⟨j1 - 1, by omega⟩
 refine gR 7 rfl <| gV 77 (.int .i64 (a.length : Int)) rfl (aO (aY V.str _)) rfl <| gLO 3 rfl (aY V.str _) fun hl37 => gR 3 rfl <| gB 78 rfl rfl rfl ?_ ?_ <;> intro hd
 replace hd := (ch hd)
 replace h := h.1 hd
 refine gR 9 rfl ?_
 obtain ⟨d, hxs4_1, h⟩ := h
 refine gY (yIO ac rfl rfl rfl rfl (by have := (mapget (f := V.str) hxs4_1); exact (List.getElem?_eq_some_iff.1 this).1)) rfl rfl ?_
 exact gDo (.set 3 (.row 9 1 (List.map V.str (a.set b [])))) (dSe ac rfl rfl rfl rfl (mapget (f := V.str) hxs4_1) rfl (nd V.str a b [])) (okS rfl) rfl rfl rfl <| gR 6 rfl <| gV 80 (.int .i64 ((b + 1 : Nat) : Int)) rfl (ao (by have := hl37; omega) (by omega)) rfl <| gR 2 rfl <| go_xloop <| gJ (h K _ hK (by omega)) [0, 1, 2, 3] [] rfl hK pq4 ⟨⟨_, rfl, rfl, rfl, (am _ V.str (fun _ => rfl) (a.set b [])).symm⟩, ⟨_, rfl, rfl, rfl, (eR _ c).symm⟩, (pqo2 rfl rfl rfl rfl)⟩ rfl
 replace hd := (cg hd)
 replace h := h.2 hd
 refine gR 3 rfl <| go_xloopE <| gR 17 rfl <| gFR 3 rfl (gW _ (fun _ => rfl) _) rfl rfl <| gFR 2 rfl (aU _) rfl rfl ?_
 subst h
 exact go_sub (F' := (mkF 109 0 [(4, .ptr 0 0)])) (H' := ⟨1, [(0, .var 35 [.int .i64 ((Tree.node p0.kind p0.text a c).kind), .str ((Tree.node p0.kind p0.text a c).text), .row 1 (List.map V.str ((Tree.node p0.kind p0.text a c).leads)), .row 4 (kidsV ((Tree.node p0.kind p0.text a c).kids))])]⟩) [0] [] rfl hK pq1 (pqo1 rfl rfl) rfl <| go_end ac (rs := [.cell 4 35]) rfl rfl rfl
theorem fo (m : Nat) (p0 : Tree) (a : (List (List UInt8))) (b : Nat) (c : List Tree) (r0 : Tree) (h : ((b < a.length) → ∃ d, a[b]? = some d ∧ cM m p0 (a.set b []) (b + 1) c r0) ∧ ((¬ b < a.length) → (Tree.node p0.kind p0.text a c) = r0)) : cM (m + 1) p0 a b c r0 := by
 intro K j1 hK hj1
 obtain ⟨j1, rfl⟩ : ∃ j, j1 = j + 1 := ⟨j1 - 1, by omega⟩
 refine gR 7 rfl <| gV 98 (.int .i64 (a.length : Int)) rfl (aO (aY V.str _)) rfl <| gLO 3 rfl (aY V.str _) fun hl38 => gR 3 rfl <| gB 99 rfl rfl rfl ?_ ?_ <;> intro hd
 replace hd := (ch hd)
 replace h := h.1 hd
 refine gR 9 rfl ?_
 obtain ⟨d, hxs5_1, h⟩ := h
 refine gY (yIO ac rfl rfl rfl rfl (by have := (mapget (f := V.str) hxs5_1); exact (List.getElem?_eq_some_iff.1 this).1)) rfl rfl ?_
 exact gDo (.set 3 (.row 9 1 (List.map V.str (a.set b [])))) (dSe ac rfl rfl rfl rfl (mapget (f := V.str) hxs5_1) rfl (nd V.str a b [])) (okS rfl) rfl rfl rfl <| gR 6 rfl <| gV 101 (.int .i64 ((b + 1 : Nat) : Int)) rfl (ao (by have := hl38; omega) (by omega)) rfl <| gR 2 rfl <| go_xloop <| gJ (h K _ hK (by omega)) [0, 1, 2, 3] [] rfl hK pq4 ⟨⟨_, rfl, rfl, rfl, (am _ V.str (fun _ => rfl) (a.set b [])).symm⟩, ⟨_, rfl, rfl, rfl, (eR _ c).symm⟩, (pqo2 rfl rfl rfl rfl)⟩ rfl
 replace hd := (cg hd)
 replace h := h.2 hd
 refine gR 3 rfl <| go_xloopE <| gR 17 rfl <| gFR 3 rfl (gW _ (fun _ => rfl) _) rfl rfl <| gFR 2 rfl (aU _) rfl rfl ?_
 subst h
 exact go_sub (F' := (mkF 109 0 [(4, .ptr 0 0)])) (H' := ⟨1, [(0, .var 35 [.int .i64 ((Tree.node p0.kind p0.text a c).kind), .str ((Tree.node p0.kind p0.text a c).text), .row 1 (List.map V.str ((Tree.node p0.kind p0.text a c).leads)), .row 4 (kidsV ((Tree.node p0.kind p0.text a c).kids))])]⟩) [0] [] rfl hK pq1 (pqo1 rfl rfl) rfl <| go_end ac (rs := [.cell 4 35]) rfl rfl rfl
theorem jo (m : Nat) (p0 r0 : Tree) (h : ∃ b, dn p0 b ∧ ((b = false) → (Tree.node 0 [] [] []) = r0) ∧ ((b = true) → ∃ a, dY p0 [] a ∧ a = r0)) : gr p0 r0 := by
 refine ⟨rfl, rfl, ?_⟩
 refine ak 9 [] Tryz.func60 rfl rfl rfl (az rfl) fun K hK => ?_
 refine gR 3 rfl <| gFP 0 rfl rfl rfl rfl <| gR 7 rfl ?_
 obtain ⟨b, hs3, h⟩ := h
 refine gC0 hs3 (by kernel_rfl) rfl rfl .rfl rfl <| gR 3 rfl <| qBh 5 rfl rfl rfl h cr ct (fun h => ?_) fun h => ?_
 refine gR 9 rfl ?_
 subst h
 exact go_sub (F' := (mkF 9 0 [(2, .ptr 0 0)])) (H' := ⟨1, [(0, .var 35 [.int .i64 ((Tree.node 0 [] [] []).kind), .str ((Tree.node 0 [] [] []).text), .row 1 (List.map V.str ((Tree.node 0 [] [] []).leads)), .row 4 (kidsV ((Tree.node 0 [] [] []).kids))])]⟩) [1] [] rfl hK pq1 ⟨⟨_, rfl, rfl, (.cons .rfl (.cons .rfl (.cons (.nil 1) (.cons (.nil 4) .nil))))⟩, trivial⟩ rfl <| go_end ac (rs := [.cell 2 35]) rfl rfl rfl
 refine gR 6 rfl ?_
 obtain ⟨a, hs4, h⟩ := h
 refine gC0 hs4 (by kernel_rfl) rfl rfl .rfl rfl <| gR 4 rfl ?_
 subst h
 exact go_sub (F' := (mkF 9 0 [(2, .ptr 0 0)])) (H' := ⟨1, [(0, .var 35 [.int .i64 a.kind, .str a.text, .row 1 (List.map V.str a.leads), .row 4 (kidsV a.kids)])]⟩) [1] [] rfl hK pq1 (pqo1 rfl rfl) rfl <| go_end ac (rs := [.cell 2 35]) rfl rfl rfl
theorem ep (m : Nat) (p0 : Tree) (r0 : Bool) (h : ∃ a, dx p0 a ∧ ((a = true) → ∃ b, eo p0 b ∧ ((b = true) → ∃ c, fh p0 c ∧ ((c ≤ 40) → ∃ d, ie p0 d ∧ decide ((d.length : Int) ≤ 4096) = r0) ∧ ((¬ c ≤ 40) → false = r0)) ∧ ((b = false) → false = r0)) ∧ ((a = false) → false = r0)) : dE p0 r0 := by
 refine ⟨rfl, rfl, ?_⟩
 refine ak 20 [] Tryz.func41 rfl rfl rfl (az rfl) fun K hK => ?_
 refine gR 3 rfl <| gFP 0 rfl rfl rfl rfl <| gR 6 rfl ?_
 obtain ⟨a, hs5, h⟩ := h
 refine gC0 hs5 (by kernel_rfl) rfl rfl .rfl rfl <| gR 1 rfl <| qBiZ 5 4 rfl rfl rfl rfl h (fun h => ?_) fun h => ?_
 refine gR 1 rfl ?_
 obtain ⟨b, hs6, h⟩ := h
 refine gC0 hs6 (by kernel_rfl) rfl rfl .rfl rfl <| gR 2 rfl <| qBiZ 9 8 rfl rfl rfl rfl h (fun h => ?_) fun h => ?_
 refine gR 1 rfl ?_
 obtain ⟨c, hs7, h⟩ := h
 refine gC0 hs7 (by kernel_rfl) rfl rfl .rfl rfl <| gR 3 rfl <| qBdZ 14 13 rfl rfl rfl rfl h (fun h => ?_) fun h => ?_
 refine gR 1 rfl ?_
 obtain ⟨d, hs8, h⟩ := h
 refine gC0 hs8 (by kernel_rfl) rfl rfl .rfl rfl <| gR 7 rfl ?_
 subst h
 exact go_end ac (rs := [.tmp 2]) rfl rfl rfl
 refine gR 9 rfl ?_
 subst h
 exact go_end ac (rs := [.tmp 2]) rfl rfl rfl
 refine gR 14 rfl ?_
 subst h
 exact go_end ac (rs := [.tmp 2]) rfl rfl rfl
 refine gR 18 rfl ?_
 subst h
 exact go_end ac (rs := [.tmp 2]) rfl rfl rfl
theorem iG (m : Nat) (p0 : Tree) (r0 : Bool) (h : ∃ a, dn p0 a ∧ ((a = true) → ∃ b, eY p0 b ∧ b = r0) ∧ ((a = false) → false = r0)) : dx p0 r0 := by
 refine ⟨rfl, rfl, ?_⟩
 refine ak 9 [] Tryz.func62 rfl rfl rfl (az rfl) fun K hK => ?_
 refine gR 3 rfl <| gFP 0 rfl rfl rfl rfl <| gR 6 rfl ?_
 obtain ⟨a, hs3, h⟩ := h
 refine gC0 hs3 (by kernel_rfl) rfl rfl .rfl rfl <| gR 1 rfl <| qBiZ 5 4 rfl rfl rfl rfl h (fun h => ?_) fun h => ?_
 refine gR 1 rfl ?_
 obtain ⟨b, hs4, h⟩ := h
 refine gC0 hs4 (by kernel_rfl) rfl rfl .rfl rfl <| gR 5 rfl ?_
 subst h
 exact go_end ac (rs := [.tmp 2]) rfl rfl rfl
 refine gR 7 rfl ?_
 subst h
 exact go_end ac (rs := [.tmp 2]) rfl rfl rfl
def cq (m : Nat) (p0 : Tree) (a : Nat) (r0 : Bool) : Prop := ∀ (K : Ctx) (j1 : Nat), aq K [] → m ≤ j1 → qLG K Tryz.f94 (fun u _ => u = .bool r0) (xI (ae Tryz.f94)) [.loop (xI (ae Tryz.f94)) j1, .blk 0, .seq (xH (ae Tryz.f94))] 50 (mkF 50 0 [(1, .box (an p0) 0), (3, .int .i64 (a : Int))]) ⟨0, []⟩
def eF (m : Nat) (p0 : Tree) (a : Nat) (r0 : Bool) : Prop := ∀ (K : Ctx) (j1 : Nat), aq K [] → m ≤ j1 → qLG K Tryz.f94 (fun u _ => u = .bool r0) (xI (cB (ae Tryz.f94))) [.loop (xI (cB (ae Tryz.f94))) j1, .blk 2, .seq (xJ (ae Tryz.f94))] 50 (mkF 50 0 [(1, .box (an p0) 0), (4, .int .i64 (a : Int))]) ⟨0, []⟩
theorem lb (m : Nat) (p0 : Tree) (r0 : Bool) (h : ∃ a, dF p0.kind (p0.kids.length : Int) a ∧ (((p0.leads.length : Int) ≠ a) → false = r0) ∧ (((p0.leads.length : Int) = a) → cq m p0 0 r0)) : eY p0 r0 := by
 refine ⟨rfl, rfl, ?_⟩
 refine ak 50 [] Tryz.func94 rfl rfl rfl (az rfl) fun K hK => ?_
 refine gR 3 rfl <| gFP 0 rfl rfl rfl rfl <| gR 5 rfl <| gDs [] 10 10 rfl (by kernel_rfl) (by kernel_rfl) <| gDr [(0, 2), (1, 2), (2, 2)] (by kernel_rfl) rfl rfl <| gV 7 (.int .i64 (p0.leads.length : Int)) rfl (aO (aY V.str _)) rfl <| gLB 6 rfl (aY V.str _) fun hl35 => gDr [(3, 2), (4, 2), (5, 0), (6, 0), (7, 0)] (by kernel_rfl) rfl rfl <| gV 12 (.int .i64 (p0.kids.length : Int)) rfl (aO (aI _)) rfl <| gLB 11 rfl (aI _) fun hl36 => ?_
 obtain ⟨a, hs37, h⟩ := h
 refine aN 8 hs37 (by kernel_rfl) rfl (by kernel_rfl) rfl rfl .rfl rfl rfl ?_
 refine gDr [(9, 0)] (by kernel_rfl) rfl rfl <| gDe (by kernel_rfl) <| gR 1 rfl <| gB 14 rfl rfl rfl ?_ ?_ <;> intro hd
 replace hd := (cz hd)
 replace h := h.1 hd
 refine gR 8 rfl ?_
 subst h
 exact go_end ac (rs := [.tmp 2]) rfl rfl rfl
 replace hd := (bN hd)
 replace h := h.2 hd
 exact gR 10 rfl <| go_loop m <| gJ (h K _ hK (by omega)) [] [] rfl hK pq2 trivial rfl
theorem df (m : Nat) (p0 : Tree) (a : Nat) (r0 : Bool) (h : ((a < p0.leads.length) → ∃ b, p0.leads[a]? = some b ∧ ((p0.kind = 1) → ∃ c, gN b ((a : Int) == 2) c ∧ ((c = false) → false = r0) ∧ ((c = true) → cq m p0 (a + 1) r0)) ∧ ((p0.kind ≠ 1) → ∃ d, gN b false d ∧ ((d = false) → false = r0) ∧ ((d = true) → cq m p0 (a + 1) r0))) ∧ ((¬ a < p0.leads.length) → eF m p0 0 r0)) : cq (m + 1) p0 a r0 := by
 intro K j1 hK hj1
 obtain ⟨j1, rfl⟩ : ∃ j, j1 = j + 1 := ⟨j1 - 1, by omega⟩
 refine gR 7 rfl <| gV 18 (.int .i64 (p0.leads.length : Int)) rfl (aO (aY V.str _)) rfl <| gLB 17 rfl (aY V.str _) fun hl38 => gR 3 rfl <| gB 19 rfl rfl rfl ?_ ?_ <;> intro hd
 replace hd := (ch hd)
 replace h := h.1 hd
 refine gR 6 rfl <| gDs [] 14 14 rfl (by kernel_rfl) (by kernel_rfl) <| gDr [(0, 2), (1, 2), (2, 2)] (by kernel_rfl) rfl rfl ?_
 obtain ⟨b, hxs1_1, h⟩ := h
 refine gYd 3 rfl (by kernel_rfl) (aG (mapget (f := V.str) hxs1_1) ac rfl rfl rfl rfl) rfl rfl <| gDr [(4, 2), (5, 0), (6, 0), (7, 0), (8, 0)] (by kernel_rfl) rfl rfl <| gB 30 rfl rfl rfl ?_ ?_ <;> intro hd
 refine gT 29 rfl hd rfl ?_
 replace hd := (eq_of_beq hd)
 replace h := h.1 hd
 refine gDr [(9, 0), (10, 0), (11, 0)] (by kernel_rfl) rfl rfl ?_
 obtain ⟨c, hs39, h⟩ := h
 refine aN 12 hs39 (by kernel_rfl) rfl (by kernel_rfl) rfl rfl .rfl rfl rfl ?_
 refine gDr [(13, 0)] (by kernel_rfl) rfl rfl <| gDe (by kernel_rfl) <| gR 1 rfl <| gB 35 rfl rfl rfl ?_ ?_ <;> intro hd
 replace hd := (cr hd)
 replace h := h.1 hd
 refine gR 9 rfl <| go_xloopR <| gR 2 rfl ?_
 subst h
 exact go_end ac (rs := [.tmp 2]) rfl rfl rfl
 replace hd := (ct hd)
 replace h := h.2 hd
 exact gR 7 rfl <| gV 21 (.int .i64 ((a + 1 : Nat) : Int)) rfl (ao (by have := hl38; omega) (by omega)) rfl <| gR 2 rfl <| go_xloop <| gJ (h K _ hK (by omega)) [] [] rfl hK pq2 trivial rfl
 refine gF 29 rfl hd rfl ?_
 replace hd := (ne_of_beq_false hd)
 replace h := h.2 hd
 refine gDr [(9, 0), (10, 0), (11, 0)] (by kernel_rfl) rfl rfl ?_
 obtain ⟨d, hs40, h⟩ := h
 refine aN 12 hs40 (by kernel_rfl) rfl (by kernel_rfl) rfl rfl .rfl rfl rfl ?_
 refine gDr [(13, 0)] (by kernel_rfl) rfl rfl <| gDe (by kernel_rfl) <| gR 1 rfl <| gB 35 rfl rfl rfl ?_ ?_ <;> intro hd
 replace hd := (cr hd)
 replace h := h.1 hd
 refine gR 9 rfl <| go_xloopR <| gR 2 rfl ?_
 subst h
 exact go_end ac (rs := [.tmp 2]) rfl rfl rfl
 replace hd := (ct hd)
 replace h := h.2 hd
 exact gR 7 rfl <| gV 21 (.int .i64 ((a + 1 : Nat) : Int)) rfl (ao (by have := hl38; omega) (by omega)) rfl <| gR 2 rfl <| go_xloop <| gJ (h K _ hK (by omega)) [] [] rfl hK pq2 trivial rfl
 replace hd := (cg hd)
 replace h := h.2 hd
 exact gR 3 rfl <| go_xloopE <| gR 9 rfl <| go_loop m <| gJ (h K _ hK (by omega)) [] [] rfl hK pq2 trivial rfl
theorem dX (m : Nat) (p0 : Tree) (a : Nat) (r0 : Bool) (h : ((a < p0.kids.length) → ∃ c, p0.kids[a]? = some c ∧ ∃ b, eY c b ∧ ((b = false) → false = r0) ∧ ((b = true) → eF m p0 (a + 1) r0)) ∧ ((¬ a < p0.kids.length) → true = r0)) : eF (m + 1) p0 a r0 := by
 intro K j1 hK hj1
 obtain ⟨j1, rfl⟩ : ∃ j, j1 = j + 1 := ⟨j1 - 1, by omega⟩
 refine gR 7 rfl <| gV 39 (.int .i64 (p0.kids.length : Int)) rfl (aO (aI _)) rfl <| gLB 38 rfl (aI _) fun hl41 => gR 3 rfl <| gB 40 rfl rfl rfl ?_ ?_ <;> intro hd
 replace hd := (ch hd)
 replace h := h.1 hd
 refine gR 10 rfl ?_
 obtain ⟨c, hxt2_1, h⟩ := h
 refine gY (aG (av hxt2_1) ac rfl rfl rfl rfl) rfl rfl <| gR 1 rfl ?_
 obtain ⟨b, hs42, h⟩ := h
 refine gC0 hs42 (by kernel_rfl) rfl rfl .rfl rfl <| gR 3 rfl <| gB 49 rfl rfl rfl ?_ ?_ <;> intro hd
 replace hd := (cr hd)
 replace h := h.1 hd
 refine gR 9 rfl <| go_xloopR <| gR 2 rfl ?_
 subst h
 exact go_end ac (rs := [.tmp 2]) rfl rfl rfl
 replace hd := (ct hd)
 replace h := h.2 hd
 exact gR 7 rfl <| gV 42 (.int .i64 ((a + 1 : Nat) : Int)) rfl (ao (by have := hl41; omega) (by omega)) rfl <| gR 2 rfl <| go_xloop <| gJ (h K _ hK (by omega)) [] [] rfl hK pq2 trivial rfl
 replace hd := (cg hd)
 replace h := h.2 hd
 refine gR 3 rfl <| go_xloopE <| gR 8 rfl ?_
 subst h
 exact go_end ac (rs := [.tmp 2]) rfl rfl rfl
def ax (m : Nat) (p0 : Tree) (a : Nat) (r0 : Bool) : Prop := ∀ (K : Ctx) (j1 : Nat), aq K [] → m ≤ j1 → qLG K Tryz.f63 (fun u _ => u = .bool r0) (xI (cB (ae Tryz.f63))) [.loop (xI (cB (ae Tryz.f63))) j1, .blk 0, .seq (xJ (ae Tryz.f63))] 54 (mkF 54 0 [(1, .box (an p0) 0), (3, .int .i64 (p0.kids.length : Int)), (4, .int .i64 (a : Int))]) ⟨0, []⟩
theorem kn (m : Nat) (p0 : Tree) (r0 : Bool) (h : ((p0.kind = 1) → ((40 < (p0.kids.length : Int)) → false = r0) ∧ ((¬ 40 < (p0.kids.length : Int)) → ((p0.kind = 2) → ((10 < (p0.kids.length : Int)) → false = r0) ∧ ((¬ 10 < (p0.kids.length : Int)) → ((p0.kind = 16) → ((8 < (p0.kids.length : Int)) → false = r0) ∧ ((¬ 8 < (p0.kids.length : Int)) → ((p0.kind = 18) → ((16 < (p0.kids.length : Int)) → false = r0) ∧ ((¬ 16 < (p0.kids.length : Int)) → ax m p0 0 r0)) ∧ ((p0.kind ≠ 18) → ax m p0 0 r0))) ∧ ((p0.kind ≠ 16) → ((p0.kind = 18) → ((16 < (p0.kids.length : Int)) → false = r0) ∧ ((¬ 16 < (p0.kids.length : Int)) → ax m p0 0 r0)) ∧ ((p0.kind ≠ 18) → ax m p0 0 r0)))) ∧ ((p0.kind ≠ 2) → ((p0.kind = 16) → ((8 < (p0.kids.length : Int)) → false = r0) ∧ ((¬ 8 < (p0.kids.length : Int)) → ((p0.kind = 18) → ((16 < (p0.kids.length : Int)) → false = r0) ∧ ((¬ 16 < (p0.kids.length : Int)) → ax m p0 0 r0)) ∧ ((p0.kind ≠ 18) → ax m p0 0 r0))) ∧ ((p0.kind ≠ 16) → ((p0.kind = 18) → ((16 < (p0.kids.length : Int)) → false = r0) ∧ ((¬ 16 < (p0.kids.length : Int)) → ax m p0 0 r0)) ∧ ((p0.kind ≠ 18) → ax m p0 0 r0))))) ∧ ((p0.kind ≠ 1) → ((p0.kind = 2) → ((10 < (p0.kids.length : Int)) → false = r0) ∧ ((¬ 10 < (p0.kids.length : Int)) → ((p0.kind = 16) → ((8 < (p0.kids.length : Int)) → false = r0) ∧ ((¬ 8 < (p0.kids.length : Int)) → ((p0.kind = 18) → ((16 < (p0.kids.length : Int)) → false = r0) ∧ ((¬ 16 < (p0.kids.length : Int)) → ax m p0 0 r0)) ∧ ((p0.kind ≠ 18) → ax m p0 0 r0))) ∧ ((p0.kind ≠ 16) → ((p0.kind = 18) → ((16 < (p0.kids.length : Int)) → false = r0) ∧ ((¬ 16 < (p0.kids.length : Int)) → ax m p0 0 r0)) ∧ ((p0.kind ≠ 18) → ax m p0 0 r0)))) ∧ ((p0.kind ≠ 2) → ((p0.kind = 16) → ((8 < (p0.kids.length : Int)) → false = r0) ∧ ((¬ 8 < (p0.kids.length : Int)) → ((p0.kind = 18) → ((16 < (p0.kids.length : Int)) → false = r0) ∧ ((¬ 16 < (p0.kids.length : Int)) → ax m p0 0 r0)) ∧ ((p0.kind ≠ 18) → ax m p0 0 r0))) ∧ ((p0.kind ≠ 16) → ((p0.kind = 18) → ((16 < (p0.kids.length : Int)) → false = r0) ∧ ((¬ 16 < (p0.kids.length : Int)) → ax m p0 0 r0)) ∧ ((p0.kind ≠ 18) → ax m p0 0 r0))))) : eo p0 r0 := by
 refine ⟨rfl, rfl, ?_⟩
 refine ak 54 [] Tryz.func63 rfl rfl rfl (az rfl) fun K hK => ?_
 refine gR 3 rfl <| gFP 0 rfl rfl rfl rfl <| gR 8 rfl <| gV 7 (.int .i64 (p0.kids.length : Int)) rfl (aO (aI _)) rfl <| gLB 6 rfl (aI _) fun hl5 => gR 10 rfl <| gB 11 rfl rfl rfl ?_ ?_ <;> intro hd
 refine gT 10 rfl hd rfl ?_
 replace hd := (eq_of_beq hd)
 replace h := h.1 hd
 refine gR 4 rfl <| gB 15 rfl rfl rfl ?_ ?_ <;> intro hd
 refine gT 14 rfl hd rfl ?_
 replace hd := (of_decide_eq_true hd)
 replace h := h.1 hd
 refine gR 36 rfl ?_
 subst h
 exact go_end ac (rs := [.tmp 2]) rfl rfl rfl
 refine gF 14 rfl hd rfl ?_
 replace hd := (of_decide_eq_false hd)
 replace h := h.2 hd
 refine gR 4 rfl <| gB 19 rfl rfl rfl ?_ ?_ <;> intro hd
 refine gT 18 rfl hd rfl ?_
 replace hd := (eq_of_beq hd)
 replace h := h.1 hd
 refine gR 5 rfl <| gB 24 rfl rfl rfl ?_ ?_ <;> intro hd
 refine gT 23 rfl hd rfl ?_
 replace hd := (of_decide_eq_true hd)
 replace h := h.1 hd
 refine gR 27 rfl ?_
 subst h
 exact go_end ac (rs := [.tmp 2]) rfl rfl rfl
 refine gF 23 rfl hd rfl ?_
 replace hd := (of_decide_eq_false hd)
 replace h := h.2 hd
 refine gR 4 rfl <| gB 28 rfl rfl rfl ?_ ?_ <;> intro hd
 refine gT 27 rfl hd rfl ?_
 replace hd := (eq_of_beq hd)
 replace h := h.1 hd
 refine gR 5 rfl <| gB 33 rfl rfl rfl ?_ ?_ <;> intro hd
 refine gT 32 rfl hd rfl ?_
 replace hd := (of_decide_eq_true hd)
 replace h := h.1 hd
 refine gR 18 rfl ?_
 subst h
 exact go_end ac (rs := [.tmp 2]) rfl rfl rfl
 refine gF 32 rfl hd rfl ?_
 replace hd := (of_decide_eq_false hd)
 replace h := h.2 hd
 refine gR 4 rfl <| gB 37 rfl rfl rfl ?_ ?_ <;> intro hd
 refine gT 36 rfl hd rfl ?_
 replace hd := (eq_of_beq hd)
 replace h := h.1 hd
 refine gR 6 rfl <| gB 41 rfl rfl rfl ?_ ?_ <;> intro hd
 replace hd := (of_decide_eq_true hd)
 replace h := h.1 hd
 refine gR 8 rfl ?_
 subst h
 exact go_end ac (rs := [.tmp 2]) rfl rfl rfl
 replace hd := (of_decide_eq_false hd)
 replace h := h.2 hd
 exact gR 10 rfl <| go_loop m <| gJ (h K _ hK (by omega)) [] [] rfl hK pq3 trivial rfl
 refine gF 36 rfl hd rfl ?_
 replace hd := (ne_of_beq_false hd)
 replace h := h.2 hd
 exact gR 16 rfl <| go_loop m <| gJ (h K _ hK (by omega)) [] [] rfl hK pq3 trivial rfl
 refine gF 27 rfl hd rfl ?_
 replace hd := (ne_of_beq_false hd)
 replace h := h.2 hd
 refine gR 9 rfl <| gB 37 rfl rfl rfl ?_ ?_ <;> intro hd
 refine gT 36 rfl hd rfl ?_
 replace hd := (eq_of_beq hd)
 replace h := h.1 hd
 refine gR 6 rfl <| gB 41 rfl rfl rfl ?_ ?_ <;> intro hd
 replace hd := (of_decide_eq_true hd)
 replace h := h.1 hd
 refine gR 8 rfl ?_
 subst h
 exact go_end ac (rs := [.tmp 2]) rfl rfl rfl
 replace hd := (of_decide_eq_false hd)
 replace h := h.2 hd
 exact gR 10 rfl <| go_loop m <| gJ (h K _ hK (by omega)) [] [] rfl hK pq3 trivial rfl
 refine gF 36 rfl hd rfl ?_
 replace hd := (ne_of_beq_false hd)
 replace h := h.2 hd
 exact gR 16 rfl <| go_loop m <| gJ (h K _ hK (by omega)) [] [] rfl hK pq3 trivial rfl
 refine gF 18 rfl hd rfl ?_
 replace hd := (ne_of_beq_false hd)
 replace h := h.2 hd
 refine gR 9 rfl <| gB 28 rfl rfl rfl ?_ ?_ <;> intro hd
 refine gT 27 rfl hd rfl ?_
 replace hd := (eq_of_beq hd)
 replace h := h.1 hd
 refine gR 5 rfl <| gB 33 rfl rfl rfl ?_ ?_ <;> intro hd
 refine gT 32 rfl hd rfl ?_
 replace hd := (of_decide_eq_true hd)
 replace h := h.1 hd
 refine gR 18 rfl ?_
 subst h
 exact go_end ac (rs := [.tmp 2]) rfl rfl rfl
 refine gF 32 rfl hd rfl ?_
 replace hd := (of_decide_eq_false hd)
 replace h := h.2 hd
 refine gR 4 rfl <| gB 37 rfl rfl rfl ?_ ?_ <;> intro hd
 refine gT 36 rfl hd rfl ?_
 replace hd := (eq_of_beq hd)
 replace h := h.1 hd
 refine gR 6 rfl <| gB 41 rfl rfl rfl ?_ ?_ <;> intro hd
 replace hd := (of_decide_eq_true hd)
 replace h := h.1 hd
 refine gR 8 rfl ?_
 subst h
 exact go_end ac (rs := [.tmp 2]) rfl rfl rfl
 replace hd := (of_decide_eq_false hd)
 replace h := h.2 hd
 exact gR 10 rfl <| go_loop m <| gJ (h K _ hK (by omega)) [] [] rfl hK pq3 trivial rfl
 refine gF 36 rfl hd rfl ?_
 replace hd := (ne_of_beq_false hd)
 replace h := h.2 hd
 exact gR 16 rfl <| go_loop m <| gJ (h K _ hK (by omega)) [] [] rfl hK pq3 trivial rfl
 refine gF 27 rfl hd rfl ?_
 replace hd := (ne_of_beq_false hd)
 replace h := h.2 hd
 refine gR 9 rfl <| gB 37 rfl rfl rfl ?_ ?_ <;> intro hd
 refine gT 36 rfl hd rfl ?_
 replace hd := (eq_of_beq hd)
 replace h := h.1 hd
 refine gR 6 rfl <| gB 41 rfl rfl rfl ?_ ?_ <;> intro hd
 replace hd := (of_decide_eq_true hd)
 replace h := h.1 hd
 refine gR 8 rfl ?_
 subst h
 exact go_end ac (rs := [.tmp 2]) rfl rfl rfl
 replace hd := (of_decide_eq_false hd)
 replace h := h.2 hd
 exact gR 10 rfl <| go_loop m <| gJ (h K _ hK (by omega)) [] [] rfl hK pq3 trivial rfl
 refine gF 36 rfl hd rfl ?_
 replace hd := (ne_of_beq_false hd)
 replace h := h.2 hd
 exact gR 16 rfl <| go_loop m <| gJ (h K _ hK (by omega)) [] [] rfl hK pq3 trivial rfl
 refine gF 10 rfl hd rfl ?_
 replace hd := (ne_of_beq_false hd)
 replace h := h.2 hd
 refine gR 8 rfl <| gB 19 rfl rfl rfl ?_ ?_ <;> intro hd
 refine gT 18 rfl hd rfl ?_
 replace hd := (eq_of_beq hd)
 replace h := h.1 hd
 refine gR 5 rfl <| gB 24 rfl rfl rfl ?_ ?_ <;> intro hd
 refine gT 23 rfl hd rfl ?_
 replace hd := (of_decide_eq_true hd)
 replace h := h.1 hd
 refine gR 27 rfl ?_
 subst h
 exact go_end ac (rs := [.tmp 2]) rfl rfl rfl
 refine gF 23 rfl hd rfl ?_
 replace hd := (of_decide_eq_false hd)
 replace h := h.2 hd
 refine gR 4 rfl <| gB 28 rfl rfl rfl ?_ ?_ <;> intro hd
 refine gT 27 rfl hd rfl ?_
 replace hd := (eq_of_beq hd)
 replace h := h.1 hd
 refine gR 5 rfl <| gB 33 rfl rfl rfl ?_ ?_ <;> intro hd
 refine gT 32 rfl hd rfl ?_
 replace hd := (of_decide_eq_true hd)
 replace h := h.1 hd
 refine gR 18 rfl ?_
 subst h
 exact go_end ac (rs := [.tmp 2]) rfl rfl rfl
 refine gF 32 rfl hd rfl ?_
 replace hd := (of_decide_eq_false hd)
 replace h := h.2 hd
 refine gR 4 rfl <| gB 37 rfl rfl rfl ?_ ?_ <;> intro hd
 refine gT 36 rfl hd rfl ?_
 replace hd := (eq_of_beq hd)
 replace h := h.1 hd
 refine gR 6 rfl <| gB 41 rfl rfl rfl ?_ ?_ <;> intro hd
 replace hd := (of_decide_eq_true hd)
 replace h := h.1 hd
 refine gR 8 rfl ?_
 subst h
 exact go_end ac (rs := [.tmp 2]) rfl rfl rfl
 replace hd := (of_decide_eq_false hd)
 replace h := h.2 hd
 exact gR 10 rfl <| go_loop m <| gJ (h K _ hK (by omega)) [] [] rfl hK pq3 trivial rfl
 refine gF 36 rfl hd rfl ?_
 replace hd := (ne_of_beq_false hd)
 replace h := h.2 hd
 exact gR 16 rfl <| go_loop m <| gJ (h K _ hK (by omega)) [] [] rfl hK pq3 trivial rfl
 refine gF 27 rfl hd rfl ?_
 replace hd := (ne_of_beq_false hd)
 replace h := h.2 hd
 refine gR 9 rfl <| gB 37 rfl rfl rfl ?_ ?_ <;> intro hd
 refine gT 36 rfl hd rfl ?_
 replace hd := (eq_of_beq hd)
 replace h := h.1 hd
 refine gR 6 rfl <| gB 41 rfl rfl rfl ?_ ?_ <;> intro hd
 replace hd := (of_decide_eq_true hd)
 replace h := h.1 hd
 refine gR 8 rfl ?_
 subst h
 exact go_end ac (rs := [.tmp 2]) rfl rfl rfl
 replace hd := (of_decide_eq_false hd)
 replace h := h.2 hd
 exact gR 10 rfl <| go_loop m <| gJ (h K _ hK (by omega)) [] [] rfl hK pq3 trivial rfl
 refine gF 36 rfl hd rfl ?_
 replace hd := (ne_of_beq_false hd)
 replace h := h.2 hd
 exact gR 16 rfl <| go_loop m <| gJ (h K _ hK (by omega)) [] [] rfl hK pq3 trivial rfl
 refine gF 18 rfl hd rfl ?_
 replace hd := (ne_of_beq_false hd)
 replace h := h.2 hd
 refine gR 9 rfl <| gB 28 rfl rfl rfl ?_ ?_ <;> intro hd
 refine gT 27 rfl hd rfl ?_
 replace hd := (eq_of_beq hd)
 replace h := h.1 hd
 refine gR 5 rfl <| gB 33 rfl rfl rfl ?_ ?_ <;> intro hd
 refine gT 32 rfl hd rfl ?_
 replace hd := (of_decide_eq_true hd)
 replace h := h.1 hd
 refine gR 18 rfl ?_
 subst h
 exact go_end ac (rs := [.tmp 2]) rfl rfl rfl
 refine gF 32 rfl hd rfl ?_
 replace hd := (of_decide_eq_false hd)
 replace h := h.2 hd
 refine gR 4 rfl <| gB 37 rfl rfl rfl ?_ ?_ <;> intro hd
 refine gT 36 rfl hd rfl ?_
 replace hd := (eq_of_beq hd)
 replace h := h.1 hd
 refine gR 6 rfl <| gB 41 rfl rfl rfl ?_ ?_ <;> intro hd
 replace hd := (of_decide_eq_true hd)
 replace h := h.1 hd
 refine gR 8 rfl ?_
 subst h
 exact go_end ac (rs := [.tmp 2]) rfl rfl rfl
 replace hd := (of_decide_eq_false hd)
 replace h := h.2 hd
 exact gR 10 rfl <| go_loop m <| gJ (h K _ hK (by omega)) [] [] rfl hK pq3 trivial rfl
 refine gF 36 rfl hd rfl ?_
 replace hd := (ne_of_beq_false hd)
 replace h := h.2 hd
 exact gR 16 rfl <| go_loop m <| gJ (h K _ hK (by omega)) [] [] rfl hK pq3 trivial rfl
 refine gF 27 rfl hd rfl ?_
 replace hd := (ne_of_beq_false hd)
 replace h := h.2 hd
 refine gR 9 rfl <| gB 37 rfl rfl rfl ?_ ?_ <;> intro hd
 refine gT 36 rfl hd rfl ?_
 replace hd := (eq_of_beq hd)
 replace h := h.1 hd
 refine gR 6 rfl <| gB 41 rfl rfl rfl ?_ ?_ <;> intro hd
 replace hd := (of_decide_eq_true hd)
 replace h := h.1 hd
 refine gR 8 rfl ?_
 subst h
 exact go_end ac (rs := [.tmp 2]) rfl rfl rfl
 replace hd := (of_decide_eq_false hd)
 replace h := h.2 hd
 exact gR 10 rfl <| go_loop m <| gJ (h K _ hK (by omega)) [] [] rfl hK pq3 trivial rfl
 refine gF 36 rfl hd rfl ?_
 replace hd := (ne_of_beq_false hd)
 replace h := h.2 hd
 exact gR 16 rfl <| go_loop m <| gJ (h K _ hK (by omega)) [] [] rfl hK pq3 trivial rfl
theorem dM (m : Nat) (p0 : Tree) (a : Nat) (r0 : Bool) (h : ((a < p0.kids.length) → ∃ c, p0.kids[a]? = some c ∧ ∃ b, eo c b ∧ ((b = false) → false = r0) ∧ ((b = true) → a + 1 ≤ 9223372036854775807 ∧ ax m p0 (a + 1) r0)) ∧ ((¬ a < p0.kids.length) → true = r0)) : ax (m + 1) p0 a r0 := by
 intro K j1 hK hj1
 obtain ⟨j1, rfl⟩ : ∃ j, j1 = j + 1 := ⟨j1 - 1, by omega⟩
 refine gR 8 rfl <| gB 44 rfl rfl rfl ?_ ?_ <;> intro hd
 replace hd := (ch hd)
 replace h := h.1 hd
 refine gR 10 rfl ?_
 obtain ⟨c, hxt1_1, h⟩ := h
 refine gY (aG (av hxt1_1) ac rfl rfl rfl rfl) rfl rfl <| gR 1 rfl ?_
 obtain ⟨b, hs6, h⟩ := h
 refine gC0 hs6 (by kernel_rfl) rfl rfl .rfl rfl <| gR 3 rfl <| gB 53 rfl rfl rfl ?_ ?_ <;> intro hd
 replace hd := (cr hd)
 replace h := h.1 hd
 refine gR 9 rfl <| go_xloopR <| gR 2 rfl ?_
 subst h
 exact go_end ac (rs := [.tmp 2]) rfl rfl rfl
 replace hd := (ct hd)
 replace h := h.2 hd
 refine gR 6 rfl ?_
 obtain ⟨hb, h⟩ := h
 exact gR 1 rfl <| gV 46 (.int .i64 ((a + 1 : Nat) : Int)) rfl (ao (by omega) (by omega)) rfl <| gR 2 rfl <| go_xloop <| gJ (h K _ hK (by omega)) [] [] rfl hK pq3 trivial rfl
 replace hd := (cg hd)
 replace h := h.2 hd
 refine gR 3 rfl <| go_xloopE <| gR 8 rfl ?_
 subst h
 exact go_end ac (rs := [.tmp 2]) rfl rfl rfl
def ey (m : Nat) (p0 : Tree) (a : Int) (b : Nat) (r0 : Int) : Prop := ∀ (K : Ctx) (j1 : Nat), aq K [] → m ≤ j1 → qLG K Tryz.f64 (fun u _ => u = .int .i64 r0) (xI (ae Tryz.f64)) [.loop (xI (ae Tryz.f64)) j1, .blk 0, .seq (xH (ae Tryz.f64))] 22 (mkF 22 0 [(1, .box (an p0) 0), (3, .int .i64 a), (4, .int .i64 (b : Int))]) ⟨0, []⟩
theorem pj (m : Nat) (p0 : Tree) (r0 : Int) (h : ey m p0 0 0 r0) : fh p0 r0 := by
 refine ⟨rfl, rfl, ?_⟩
 refine ak 22 [] Tryz.func64 rfl rfl rfl (az rfl) fun K hK => ?_
 exact gR 3 rfl <| gFP 0 rfl rfl rfl rfl <| gR 15 rfl <| go_loop m <| gJ (h K _ hK (by omega)) [] [] rfl hK pq3 trivial rfl
theorem gI (m : Nat) (p0 : Tree) (b : Int) (a : Nat) (r0 : Int) (h : ((a < p0.kids.length) → ∃ c, p0.kids[a]? = some c ∧ ∃ d, fh c d ∧ ey m p0 (max b d) (a + 1) r0) ∧ ((¬ a < p0.kids.length) → InI (b + 1) ∧ (b + 1) = r0)) : ey (m + 1) p0 b a r0 := by
 intro K j1 hK hj1
 obtain ⟨j1, rfl⟩ : ∃ j, j1 = j + 1 := ⟨j1 - 1, by omega⟩
 refine gR 7 rfl <| gV 8 (.int .i64 (p0.kids.length : Int)) rfl (aO (aI _)) rfl <| gLB 7 rfl (aI _) fun hl5 => gR 3 rfl <| gB 9 rfl rfl rfl ?_ ?_ <;> intro hd
 replace hd := (ch hd)
 replace h := h.1 hd
 refine gR 10 rfl ?_
 obtain ⟨c, hxt1_1, h⟩ := h
 refine gY (aG (av hxt1_1) ac rfl rfl rfl rfl) rfl rfl <| gR 1 rfl ?_
 obtain ⟨d, hs6, h⟩ := h
 exact gC0 hs6 (by kernel_rfl) rfl rfl .rfl rfl <| gR 8 rfl <| gV 11 (.int .i64 ((a + 1 : Nat) : Int)) rfl (ao (by have := hl5; omega) (by omega)) rfl <| gR 2 rfl <| go_xloop <| gJ (h K _ hK (by omega)) [] [] rfl hK pq3 trivial rfl
 replace hd := (cg hd)
 replace h := h.2 hd
 refine gR 3 rfl <| go_xloopE <| gR 5 rfl ?_
 obtain ⟨hb, h⟩ := h
 refine gR 1 rfl <| gV 21 (.int .i64 (b + 1)) rfl (ao hb rfl) rfl <| gR 4 rfl ?_
 subst h
 exact go_end ac (rs := [.tmp 2]) rfl rfl rfl
def bI (m : Nat) (a : List aa) (b : List UInt8) (c : Nat) (r0 : List UInt8) : Prop := ∀ (K : Ctx) (j1 : Nat), aq K [] → m ≤ j1 → qLG K Tryz.f65 (fun u _ => u = .str r0) (xI (xA (ae Tryz.f65))) [.loop (xI (xA (ae Tryz.f65))) j1, .blk 0, .seq (xA (xH (ae Tryz.f65)))] 57 (mkF 57 0 [(3, .row 2 (List.map aa.w a)), (4, .str b), (5, .int .i64 (c : Int))]) ⟨0, []⟩
theorem lv (m : Nat) (p0 : Tree) (r0 : List UInt8) (h : ∃ a, dx p0 a ∧ ((a = false) → [] = r0) ∧ ((a = true) → ∃ b, kX p0 b ∧ bI m b [] 0 r0)) : ie p0 r0 := by
 refine ⟨rfl, rfl, ?_⟩
 refine ak 57 [] Tryz.func65 rfl rfl rfl (az rfl) fun K hK => ?_
 refine gR 3 rfl <| gFP 0 rfl rfl rfl rfl <| gR 7 rfl ?_
 obtain ⟨a, hs8, h⟩ := h
 refine gC0 hs8 (by kernel_rfl) rfl rfl .rfl rfl <| gR 3 rfl <| gB 8 rfl rfl rfl ?_ ?_ <;> intro hd
 replace hd := (cr hd)
 replace h := h.1 hd
 refine gR 8 rfl ?_
 subst h
 exact go_end ac (rs := [.tmp 2]) rfl rfl rfl
 replace hd := (ct hd)
 replace h := h.2 hd
 refine gR 6 rfl ?_
 obtain ⟨b, hs9, h⟩ := h
 exact gC0 hs9 (by kernel_rfl) rfl rfl .rfl rfl <| gR 15 rfl <| go_loop m <| gJ (h K _ hK (by omega)) [] [] rfl hK pq3 trivial rfl
theorem ce (m : Nat) (b : List aa) (c : List UInt8) (a : Nat) (r0 : List UInt8) (h : ((a < b.length) → ((0 < (a : Int)) → ∃ n, b[a]? = some n ∧ ((n.Lead = []) → InI ((a : Int) - 1) ∧ ∃ o, ((a : Int) - 1) = ((o : Nat) : Int) ∧ ∃ s, b[o]? = some s ∧ ∃ t, b[a]? = some t ∧ ∃ p, lD s.Text t.Text p ∧ ((p = true) → c.length + [32].length ≤ 9223372036854775807 ∧ ∃ k, b[a]? = some k ∧ (c ++ [32]).length + k.Lead.length ≤ 9223372036854775807 ∧ ∃ q, b[a]? = some q ∧ ((c ++ [32]) ++ k.Lead).length + q.Text.length ≤ 9223372036854775807 ∧ bI m b (((c ++ [32]) ++ k.Lead) ++ q.Text) (a + 1) r0) ∧ ((p = false) → ∃ l, b[a]? = some l ∧ c.length + l.Lead.length ≤ 9223372036854775807 ∧ ∃ r, b[a]? = some r ∧ (c ++ l.Lead).length + r.Text.length ≤ 9223372036854775807 ∧ bI m b ((c ++ l.Lead) ++ r.Text) (a + 1) r0)) ∧ ((n.Lead ≠ []) → ∃ d, b[a]? = some d ∧ c.length + d.Lead.length ≤ 9223372036854775807 ∧ ∃ g, b[a]? = some g ∧ (c ++ d.Lead).length + g.Text.length ≤ 9223372036854775807 ∧ bI m b ((c ++ d.Lead) ++ g.Text) (a + 1) r0)) ∧ ((¬ 0 < (a : Int)) → ∃ e, b[a]? = some e ∧ c.length + e.Lead.length ≤ 9223372036854775807 ∧ ∃ i, b[a]? = some i ∧ (c ++ e.Lead).length + i.Text.length ≤ 9223372036854775807 ∧ bI m b ((c ++ e.Lead) ++ i.Text) (a + 1) r0)) ∧ ((¬ a < b.length) → c = r0)) : bI (m + 1) b c a r0 := by
 intro K j1 hK hj1
 obtain ⟨j1, rfl⟩ : ∃ j, j1 = j + 1 := ⟨j1 - 1, by omega⟩
 refine gR 6 rfl <| gV 13 (.int .i64 (b.length : Int)) rfl (aO (aY aa.w _)) rfl <| gLB 12 rfl (aY aa.w _) fun hl10 => gR 3 rfl <| gB 14 rfl rfl rfl ?_ ?_ <;> intro hd
 replace hd := (ch hd)
 replace h := h.1 hd
 refine gR 7 rfl <| gDs [] 24 24 rfl (by kernel_rfl) (by kernel_rfl) <| gDr [(0, 0), (1, 0), (2, 0)] (by kernel_rfl) rfl rfl <| gB 19 rfl rfl rfl ?_ ?_ <;> intro hd
 refine gT 18 rfl hd rfl ?_
 replace hd := (of_decide_eq_true hd)
 replace h := h.1 hd
 refine gDr [(3, 2), (4, 0)] (by kernel_rfl) rfl rfl ?_
 obtain ⟨n, hxx1_1, h⟩ := h
 refine ev 5 rfl (by kernel_rfl) (aG (mapget (f := aa.w) hxx1_1) ac rfl rfl rfl rfl) rfl rfl ?_
 refine gDr [(6, 0), (7, 0), (8, 0), (9, 0), (10, 0)] (by kernel_rfl) rfl rfl <| gB 27 rfl rfl rfl ?_ ?_ <;> intro hd
 refine gT 26 rfl hd rfl ?_
 replace hd := (eq_of_beq hd)
 replace h := h.1 hd
 refine gDr [(11, 2), (12, 2)] (by kernel_rfl) rfl rfl ?_
 obtain ⟨hb, h⟩ := h
 refine gDr [(13, 2)] (by kernel_rfl) rfl rfl <| gV 30 (.int .i64 ((a : Int) - 1)) rfl (ao hb rfl) rfl ?_
 obtain ⟨o, v, h⟩ := h
 refine gV 30 (.int .i64 ((o : Nat) : Int)) rfl (cO v) rfl ?_
 obtain ⟨s, hxx1_3, h⟩ := h
 refine gYd 14 rfl (by kernel_rfl) (aG (mapget (f := aa.w) hxx1_3) ac rfl rfl rfl rfl) rfl rfl <| gDr [(15, 2), (16, 2), (17, 2), (18, 0)] (by kernel_rfl) rfl rfl ?_
 obtain ⟨t, hxx1_4, h⟩ := h
 refine ev 19 rfl (by kernel_rfl) (aG (mapget (f := aa.w) hxx1_4) ac rfl rfl rfl rfl) rfl rfl ?_
 refine gDr [(20, 0), (21, 0)] (by kernel_rfl) rfl rfl ?_
 obtain ⟨p, hs11, h⟩ := h
 refine aN 22 hs11 (by kernel_rfl) rfl (by kernel_rfl) rfl rfl .rfl rfl rfl ?_
 refine gDr [(23, 0)] (by kernel_rfl) rfl rfl <| gDe (by kernel_rfl) <| gR 1 rfl <| gB 40 rfl rfl rfl ?_ ?_ <;> intro hd
 replace h := h.1 hd
 refine gR 3 rfl ?_
 obtain ⟨hb, h⟩ := h
 refine gY (oy rfl rfl hb) rfl rfl <| gR 3 rfl <| gDs [] 14 14 rfl (by kernel_rfl) (by kernel_rfl) <| gDr [(0, 2), (1, 2), (2, 2)] (by kernel_rfl) rfl rfl ?_
 obtain ⟨k, hxx1_6, h⟩ := h
 refine gYd 3 rfl (by kernel_rfl) (aG (mapget (f := aa.w) hxx1_6) ac rfl rfl rfl rfl) rfl rfl <| gDr [(4, 2), (5, 2)] (by kernel_rfl) rfl rfl ?_
 obtain ⟨hb, h⟩ := h
 refine gYd 6 rfl (by kernel_rfl) (oy rfl rfl hb) rfl rfl <| gDr [(7, 2), (8, 0)] (by kernel_rfl) rfl rfl ?_
 obtain ⟨q, hxx1_7, h⟩ := h
 refine ev 9 rfl (by kernel_rfl) (aG (mapget (f := aa.w) hxx1_7) ac rfl rfl rfl rfl) rfl rfl ?_
 refine gDr [(10, 0), (11, 0)] (by kernel_rfl) rfl rfl ?_
 obtain ⟨hb, h⟩ := h
 refine ev 12 rfl (by kernel_rfl) (oy rfl rfl hb) rfl rfl ?_
 exact gDr [(13, 0)] (by kernel_rfl) rfl rfl <| gDe (by kernel_rfl) <| gR 5 rfl <| gV 16 (.int .i64 ((a + 1 : Nat) : Int)) rfl (ao (by have := hl10; omega) (by omega)) rfl <| gR 2 rfl <| go_xloop <| gJ (h K _ hK (by omega)) [] [] rfl hK pq3 trivial rfl
 replace h := h.2 hd
 refine gR 3 rfl <| gDs [] 14 14 rfl (by kernel_rfl) (by kernel_rfl) <| gDr [(0, 2), (1, 2), (2, 2)] (by kernel_rfl) rfl rfl ?_
 obtain ⟨l, hxx1_8, h⟩ := h
 refine gYd 3 rfl (by kernel_rfl) (aG (mapget (f := aa.w) hxx1_8) ac rfl rfl rfl rfl) rfl rfl <| gDr [(4, 2), (5, 2)] (by kernel_rfl) rfl rfl ?_
 obtain ⟨hb, h⟩ := h
 refine gYd 6 rfl (by kernel_rfl) (oy rfl rfl hb) rfl rfl <| gDr [(7, 2), (8, 0)] (by kernel_rfl) rfl rfl ?_
 obtain ⟨r, hxx1_9, h⟩ := h
 refine ev 9 rfl (by kernel_rfl) (aG (mapget (f := aa.w) hxx1_9) ac rfl rfl rfl rfl) rfl rfl ?_
 refine gDr [(10, 0), (11, 0)] (by kernel_rfl) rfl rfl ?_
 obtain ⟨hb, h⟩ := h
 refine ev 12 rfl (by kernel_rfl) (oy rfl rfl hb) rfl rfl ?_
 exact gDr [(13, 0)] (by kernel_rfl) rfl rfl <| gDe (by kernel_rfl) <| gR 5 rfl <| gV 16 (.int .i64 ((a + 1 : Nat) : Int)) rfl (ao (by have := hl10; omega) (by omega)) rfl <| gR 2 rfl <| go_xloop <| gJ (h K _ hK (by omega)) [] [] rfl hK pq3 trivial rfl
 refine gF 26 rfl hd rfl ?_
 replace hd := (ne_of_beq_false hd)
 replace h := h.2 hd
 refine gDr [(11, 2), (12, 2), (13, 2), (14, 2), (15, 2), (16, 2), (17, 2), (18, 0), (19, 0), (20, 0), (21, 0), (22, 0), (23, 0)] (by kernel_rfl) rfl rfl <| gDe (by kernel_rfl) <| gR 4 rfl <| gDs [] 14 14 rfl (by kernel_rfl) (by kernel_rfl) <| gDr [(0, 2), (1, 2), (2, 2)] (by kernel_rfl) rfl rfl ?_
 obtain ⟨d, hxx1_10, h⟩ := h
 refine gYd 3 rfl (by kernel_rfl) (aG (mapget (f := aa.w) hxx1_10) ac rfl rfl rfl rfl) rfl rfl <| gDr [(4, 2), (5, 2)] (by kernel_rfl) rfl rfl ?_
 obtain ⟨hb, h⟩ := h
 refine gYd 6 rfl (by kernel_rfl) (oy rfl rfl hb) rfl rfl <| gDr [(7, 2), (8, 0)] (by kernel_rfl) rfl rfl ?_
 obtain ⟨g, hxx1_11, h⟩ := h
 refine ev 9 rfl (by kernel_rfl) (aG (mapget (f := aa.w) hxx1_11) ac rfl rfl rfl rfl) rfl rfl ?_
 refine gDr [(10, 0), (11, 0)] (by kernel_rfl) rfl rfl ?_
 obtain ⟨hb, h⟩ := h
 refine ev 12 rfl (by kernel_rfl) (oy rfl rfl hb) rfl rfl ?_
 exact gDr [(13, 0)] (by kernel_rfl) rfl rfl <| gDe (by kernel_rfl) <| gR 5 rfl <| gV 16 (.int .i64 ((a + 1 : Nat) : Int)) rfl (ao (by have := hl10; omega) (by omega)) rfl <| gR 2 rfl <| go_xloop <| gJ (h K _ hK (by omega)) [] [] rfl hK pq3 trivial rfl
 refine gF 18 rfl hd rfl ?_
 replace hd := (of_decide_eq_false hd)
 replace h := h.2 hd
 refine gDr [(3, 2), (4, 0), (5, 0), (6, 0), (7, 0), (8, 0), (9, 0), (10, 0), (11, 2), (12, 2), (13, 2), (14, 2), (15, 2), (16, 2), (17, 2), (18, 0), (19, 0), (20, 0), (21, 0), (22, 0), (23, 0)] (by kernel_rfl) rfl rfl <| gDe (by kernel_rfl) <| gR 4 rfl <| gDs [] 14 14 rfl (by kernel_rfl) (by kernel_rfl) <| gDr [(0, 2), (1, 2), (2, 2)] (by kernel_rfl) rfl rfl ?_
 obtain ⟨e, hxx1_12, h⟩ := h
 refine gYd 3 rfl (by kernel_rfl) (aG (mapget (f := aa.w) hxx1_12) ac rfl rfl rfl rfl) rfl rfl <| gDr [(4, 2), (5, 2)] (by kernel_rfl) rfl rfl ?_
 obtain ⟨hb, h⟩ := h
 refine gYd 6 rfl (by kernel_rfl) (oy rfl rfl hb) rfl rfl <| gDr [(7, 2), (8, 0)] (by kernel_rfl) rfl rfl ?_
 obtain ⟨i, hxx1_13, h⟩ := h
 refine ev 9 rfl (by kernel_rfl) (aG (mapget (f := aa.w) hxx1_13) ac rfl rfl rfl rfl) rfl rfl ?_
 refine gDr [(10, 0), (11, 0)] (by kernel_rfl) rfl rfl ?_
 obtain ⟨hb, h⟩ := h
 refine ev 12 rfl (by kernel_rfl) (oy rfl rfl hb) rfl rfl ?_
 exact gDr [(13, 0)] (by kernel_rfl) rfl rfl <| gDe (by kernel_rfl) <| gR 5 rfl <| gV 16 (.int .i64 ((a + 1 : Nat) : Int)) rfl (ao (by have := hl10; omega) (by omega)) rfl <| gR 2 rfl <| go_xloop <| gJ (h K _ hK (by omega)) [] [] rfl hK pq3 trivial rfl
 replace hd := (cg hd)
 replace h := h.2 hd
 refine gR 3 rfl <| go_xloopE <| gR 9 rfl ?_
 subst h
 exact go_end ac (rs := [.tmp 2]) rfl rfl rfl
theorem oN (m : Nat) (p0 : Tree) (r0 : List aa) (h : ∃ a, aj ([] : List aa) p0 a ∧ a = r0) : kX p0 r0 := by
 refine ⟨rfl, rfl, ?_⟩
 refine ak 5 [] Tryz.func95 rfl rfl rfl (az rfl) fun K hK => ?_
 refine gR 3 rfl <| gFP 0 rfl rfl rfl rfl <| gR 6 rfl ?_
 obtain ⟨a, hs2, h⟩ := h
 refine gCn 0 152 2 hs2 [1] (by kernel_rfl) rfl rfl rfl rfl .rfl ⟨⟨_, rfl, ⟨rfl, rfl, rfl⟩⟩, trivial⟩ rfl ?_
 rintro _ _ ⟨rfl, rfl⟩
 refine gHR 3 (List.map aa.w a) rfl (am _ aa.w (fun _ => rfl) a) rfl <| gR 4 rfl <| gFR 3 rfl (gW _ (fun _ => rfl) _) rfl rfl ?_
 subst h
 exact go_end ac (rs := [.tmp 2]) rfl rfl rfl
def kz (m : Nat) (p0 : List aa) (p1 : Tree) (r0 : List aa) : Prop := ∀ (K : Ctx), aq K [] → qLG K Tryz.f139 (fun u G => u = .sl 1 ∧ G = ⟨2, [(1, .row 152 2 (List.map aa.w r0))]⟩) (xM (xF (ae Tryz.f139))) [.blk 0, .seq (xH (ae Tryz.f139))] 365 (mkF 365 0 [(0, .sl 0), (3, .box (an p1) 0), (5, .int .i64 (p1.kids.length : Int))]) ⟨1, [(0, .row 152 2 (List.map aa.w p0))]⟩
def gx (m : Nat) (p0 : List aa) (p1 : Tree) (r0 : List aa) : Prop := ∀ (K : Ctx), aq K [] → qLG K Tryz.f139 (fun u G => u = .sl 1 ∧ G = ⟨2, [(1, .row 152 2 (List.map aa.w r0))]⟩) (xK (ae Tryz.f139)) [.blk 0, .seq (xH (ae Tryz.f139))] 365 (mkF 365 0 [(0, .sl 0), (3, .box (an p1) 0), (5, .int .i64 (p1.kids.length : Int)), (11, .int .i64 p1.kind)]) ⟨1, [(0, .row 152 2 (List.map aa.w p0))]⟩
def dc (m : Nat) (p1 : Tree) (a : List aa) (b : Nat) (r0 : List aa) : Prop := ∀ (K : Ctx) (j1 : Nat), aq K [] → m ≤ j1 → qLG K Tryz.f139 (fun u G => u = .sl 1 ∧ G = ⟨2, [(1, .row 152 2 (List.map aa.w r0))]⟩) (cL (xN (xM (xF (ae Tryz.f139))))) [.loop (cL (xN (xM (xF (ae Tryz.f139))))) j1, .blk 1, .seq (xA (xM (xF (ae Tryz.f139)))), .blk 0, .seq (xH (ae Tryz.f139))] 365 (mkF 365 0 [(0, .sl 0), (3, .box (an p1) 0), (5, .int .i64 (p1.kids.length : Int)), (6, .int .i64 (b : Int))]) ⟨1, [(0, .row 152 2 (List.map aa.w a))]⟩
def kv (m : Nat) (p0 : List aa) (p1 : Tree) (r0 : List aa) : Prop := ∀ (K : Ctx), aq K [] → qLG K Tryz.f139 (fun u G => u = .sl 1 ∧ G = ⟨2, [(1, .row 152 2 (List.map aa.w r0))]⟩) (xM (xK (ae Tryz.f139))) [.blk 0, .seq (xH (ae Tryz.f139))] 365 (mkF 365 0 [(0, .sl 0), (3, .box (an p1) 0), (5, .int .i64 (p1.kids.length : Int))]) ⟨1, [(0, .row 152 2 (List.map aa.w p0))]⟩
def gH (m : Nat) (p0 : List aa) (p1 : Tree) (r0 : List aa) : Prop := ∀ (K : Ctx), aq K [] → qLG K Tryz.f139 (fun u G => u = .sl 1 ∧ G = ⟨2, [(1, .row 152 2 (List.map aa.w r0))]⟩) (xC (xF (ae Tryz.f139))) [.blk 0, .seq (xH (ae Tryz.f139))] 365 (mkF 365 0 [(0, .sl 0), (3, .box (an p1) 0), (5, .int .i64 (p1.kids.length : Int)), (11, .int .i64 p1.kind)]) ⟨1, [(0, .row 152 2 (List.map aa.w p0))]⟩
def kx (m : Nat) (p0 : List aa) (p1 : Tree) (r0 : List aa) : Prop := ∀ (K : Ctx), aq K [] → qLG K Tryz.f139 (fun u G => u = .sl 1 ∧ G = ⟨2, [(1, .row 152 2 (List.map aa.w r0))]⟩) (xM (xC (xF (ae Tryz.f139)))) [.blk 0, .seq (xH (ae Tryz.f139))] 365 (mkF 365 0 [(0, .sl 0), (3, .box (an p1) 0)]) ⟨1, [(0, .row 152 2 (List.map aa.w p0))]⟩
def gq (m : Nat) (p0 : List aa) (p1 : Tree) (r0 : List aa) : Prop := ∀ (K : Ctx), aq K [] → qLG K Tryz.f139 (fun u G => u = .sl 1 ∧ G = ⟨2, [(1, .row 152 2 (List.map aa.w r0))]⟩) (xC (xK (ae Tryz.f139))) [.blk 0, .seq (xH (ae Tryz.f139))] 365 (mkF 365 0 [(0, .sl 0), (3, .box (an p1) 0), (5, .int .i64 (p1.kids.length : Int)), (11, .int .i64 p1.kind)]) ⟨1, [(0, .row 152 2 (List.map aa.w p0))]⟩
def kq (m : Nat) (p0 : List aa) (p1 : Tree) (r0 : List aa) : Prop := ∀ (K : Ctx), aq K [] → qLG K Tryz.f139 (fun u G => u = .sl 1 ∧ G = ⟨2, [(1, .row 152 2 (List.map aa.w r0))]⟩) (xM (xC (xK (ae Tryz.f139)))) [.blk 0, .seq (xH (ae Tryz.f139))] 365 (mkF 365 0 [(0, .sl 0), (3, .box (an p1) 0)]) ⟨1, [(0, .row 152 2 (List.map aa.w p0))]⟩
def gE (m : Nat) (p0 : List aa) (p1 : Tree) (r0 : List aa) : Prop := ∀ (K : Ctx), aq K [] → qLG K Tryz.f139 (fun u G => u = .sl 1 ∧ G = ⟨2, [(1, .row 152 2 (List.map aa.w r0))]⟩) (xG (xF (ae Tryz.f139))) [.blk 0, .seq (xH (ae Tryz.f139))] 365 (mkF 365 0 [(0, .sl 0), (3, .box (an p1) 0), (5, .int .i64 (p1.kids.length : Int)), (11, .int .i64 p1.kind)]) ⟨1, [(0, .row 152 2 (List.map aa.w p0))]⟩
def gu (m : Nat) (p0 : List aa) (p1 : Tree) (r0 : List aa) : Prop := ∀ (K : Ctx), aq K [] → qLG K Tryz.f139 (fun u G => u = .sl 1 ∧ G = ⟨2, [(1, .row 152 2 (List.map aa.w r0))]⟩) (xG (xK (ae Tryz.f139))) [.blk 0, .seq (xH (ae Tryz.f139))] 365 (mkF 365 0 [(0, .sl 0), (3, .box (an p1) 0), (5, .int .i64 (p1.kids.length : Int)), (11, .int .i64 p1.kind)]) ⟨1, [(0, .row 152 2 (List.map aa.w p0))]⟩
def gb (m : Nat) (p0 : List aa) (p1 : Tree) (r0 : List aa) : Prop := ∀ (K : Ctx), aq K [] → qLG K Tryz.f139 (fun u G => u = .sl 1 ∧ G = ⟨2, [(1, .row 152 2 (List.map aa.w r0))]⟩) (xG (xC (xF (ae Tryz.f139)))) [.blk 0, .seq (xH (ae Tryz.f139))] 365 (mkF 365 0 [(0, .sl 0), (3, .box (an p1) 0), (5, .int .i64 (p1.kids.length : Int)), (11, .int .i64 p1.kind)]) ⟨1, [(0, .row 152 2 (List.map aa.w p0))]⟩
def gd (m : Nat) (p0 : List aa) (p1 : Tree) (r0 : List aa) : Prop := ∀ (K : Ctx), aq K [] → qLG K Tryz.f139 (fun u G => u = .sl 1 ∧ G = ⟨2, [(1, .row 152 2 (List.map aa.w r0))]⟩) (xG (xC (xK (ae Tryz.f139)))) [.blk 0, .seq (xH (ae Tryz.f139))] 365 (mkF 365 0 [(0, .sl 0), (3, .box (an p1) 0), (5, .int .i64 (p1.kids.length : Int)), (11, .int .i64 p1.kind)]) ⟨1, [(0, .row 152 2 (List.map aa.w p0))]⟩
def gc (m : Nat) (p0 : List aa) (p1 : Tree) (r0 : List aa) : Prop := ∀ (K : Ctx), aq K [] → qLG K Tryz.f139 (fun u G => u = .sl 1 ∧ G = ⟨2, [(1, .row 152 2 (List.map aa.w r0))]⟩) (xL (xF (ae Tryz.f139))) [.blk 0, .seq (xH (ae Tryz.f139))] 365 (mkF 365 0 [(0, .sl 0), (3, .box (an p1) 0), (5, .int .i64 (p1.kids.length : Int)), (11, .int .i64 p1.kind)]) ⟨1, [(0, .row 152 2 (List.map aa.w p0))]⟩
def gf (m : Nat) (p0 : List aa) (p1 : Tree) (r0 : List aa) : Prop := ∀ (K : Ctx), aq K [] → qLG K Tryz.f139 (fun u G => u = .sl 1 ∧ G = ⟨2, [(1, .row 152 2 (List.map aa.w r0))]⟩) (xL (xK (ae Tryz.f139))) [.blk 0, .seq (xH (ae Tryz.f139))] 365 (mkF 365 0 [(0, .sl 0), (3, .box (an p1) 0), (5, .int .i64 (p1.kids.length : Int)), (11, .int .i64 p1.kind)]) ⟨1, [(0, .row 152 2 (List.map aa.w p0))]⟩
def fW (m : Nat) (p0 : List aa) (p1 : Tree) (r0 : List aa) : Prop := ∀ (K : Ctx), aq K [] → qLG K Tryz.f139 (fun u G => u = .sl 1 ∧ G = ⟨2, [(1, .row 152 2 (List.map aa.w r0))]⟩) (xL (xC (xF (ae Tryz.f139)))) [.blk 0, .seq (xH (ae Tryz.f139))] 365 (mkF 365 0 [(0, .sl 0), (3, .box (an p1) 0), (5, .int .i64 (p1.kids.length : Int)), (11, .int .i64 p1.kind)]) ⟨1, [(0, .row 152 2 (List.map aa.w p0))]⟩
def jz (m : Nat) (p0 : List aa) (p1 : Tree) (r0 : List aa) : Prop := ∀ (K : Ctx), aq K [] → qLG K Tryz.f139 (fun u G => u = .sl 1 ∧ G = ⟨2, [(1, .row 152 2 (List.map aa.w r0))]⟩) (xM (xL (xC (xF (ae Tryz.f139))))) [.blk 0, .seq (xH (ae Tryz.f139))] 365 (mkF 365 0 [(0, .sl 0), (3, .box (an p1) 0)]) ⟨1, [(0, .row 152 2 (List.map aa.w p0))]⟩
def fT (m : Nat) (p0 : List aa) (p1 : Tree) (r0 : List aa) : Prop := ∀ (K : Ctx), aq K [] → qLG K Tryz.f139 (fun u G => u = .sl 1 ∧ G = ⟨2, [(1, .row 152 2 (List.map aa.w r0))]⟩) (xL (xC (xK (ae Tryz.f139)))) [.blk 0, .seq (xH (ae Tryz.f139))] 365 (mkF 365 0 [(0, .sl 0), (3, .box (an p1) 0), (5, .int .i64 (p1.kids.length : Int)), (11, .int .i64 p1.kind)]) ⟨1, [(0, .row 152 2 (List.map aa.w p0))]⟩
def jG (m : Nat) (p0 : List aa) (p1 : Tree) (r0 : List aa) : Prop := ∀ (K : Ctx), aq K [] → qLG K Tryz.f139 (fun u G => u = .sl 1 ∧ G = ⟨2, [(1, .row 152 2 (List.map aa.w r0))]⟩) (xM (xL (xC (xK (ae Tryz.f139))))) [.blk 0, .seq (xH (ae Tryz.f139))] 365 (mkF 365 0 [(0, .sl 0), (3, .box (an p1) 0), (5, .int .i64 (p1.kids.length : Int))]) ⟨1, [(0, .row 152 2 (List.map aa.w p0))]⟩
def fS (m : Nat) (p0 : List aa) (p1 : Tree) (r0 : List aa) : Prop := ∀ (K : Ctx), aq K [] → qLG K Tryz.f139 (fun u G => u = .sl 1 ∧ G = ⟨2, [(1, .row 152 2 (List.map aa.w r0))]⟩) (xL (xG (xF (ae Tryz.f139)))) [.blk 0, .seq (xH (ae Tryz.f139))] 365 (mkF 365 0 [(0, .sl 0), (3, .box (an p1) 0), (5, .int .i64 (p1.kids.length : Int)), (11, .int .i64 p1.kind)]) ⟨1, [(0, .row 152 2 (List.map aa.w p0))]⟩
def fV (m : Nat) (p0 : List aa) (p1 : Tree) (r0 : List aa) : Prop := ∀ (K : Ctx), aq K [] → qLG K Tryz.f139 (fun u G => u = .sl 1 ∧ G = ⟨2, [(1, .row 152 2 (List.map aa.w r0))]⟩) (xL (xG (xK (ae Tryz.f139)))) [.blk 0, .seq (xH (ae Tryz.f139))] 365 (mkF 365 0 [(0, .sl 0), (3, .box (an p1) 0), (5, .int .i64 (p1.kids.length : Int)), (11, .int .i64 p1.kind)]) ⟨1, [(0, .row 152 2 (List.map aa.w p0))]⟩
def jx (m : Nat) (p0 : List aa) (p1 : Tree) (r0 : List aa) : Prop := ∀ (K : Ctx), aq K [] → qLG K Tryz.f139 (fun u G => u = .sl 1 ∧ G = ⟨2, [(1, .row 152 2 (List.map aa.w r0))]⟩) (xM (xL (xG (xK (ae Tryz.f139))))) [.blk 0, .seq (xH (ae Tryz.f139))] 365 (mkF 365 0 [(0, .sl 0), (3, .box (an p1) 0), (5, .int .i64 (p1.kids.length : Int))]) ⟨1, [(0, .row 152 2 (List.map aa.w p0))]⟩
def fX (m : Nat) (p0 : List aa) (p1 : Tree) (r0 : List aa) : Prop := ∀ (K : Ctx), aq K [] → qLG K Tryz.f139 (fun u G => u = .sl 1 ∧ G = ⟨2, [(1, .row 152 2 (List.map aa.w r0))]⟩) (xL (xG (xC (xF (ae Tryz.f139))))) [.blk 0, .seq (xH (ae Tryz.f139))] 365 (mkF 365 0 [(0, .sl 0), (3, .box (an p1) 0), (11, .int .i64 p1.kind)]) ⟨1, [(0, .row 152 2 (List.map aa.w p0))]⟩
def jC (m : Nat) (p0 : List aa) (p1 : Tree) (r0 : List aa) : Prop := ∀ (K : Ctx), aq K [] → qLG K Tryz.f139 (fun u G => u = .sl 1 ∧ G = ⟨2, [(1, .row 152 2 (List.map aa.w r0))]⟩) (xM (xL (xG (xC (xF (ae Tryz.f139)))))) [.blk 0, .seq (xH (ae Tryz.f139))] 365 (mkF 365 0 [(0, .sl 0), (3, .box (an p1) 0)]) ⟨1, [(0, .row 152 2 (List.map aa.w p0))]⟩
def ga (m : Nat) (p0 : List aa) (p1 : Tree) (r0 : List aa) : Prop := ∀ (K : Ctx), aq K [] → qLG K Tryz.f139 (fun u G => u = .sl 1 ∧ G = ⟨2, [(1, .row 152 2 (List.map aa.w r0))]⟩) (xL (xG (xC (xK (ae Tryz.f139))))) [.blk 0, .seq (xH (ae Tryz.f139))] 365 (mkF 365 0 [(0, .sl 0), (3, .box (an p1) 0), (11, .int .i64 p1.kind)]) ⟨1, [(0, .row 152 2 (List.map aa.w p0))]⟩
def jy (m : Nat) (p0 : List aa) (p1 : Tree) (r0 : List aa) : Prop := ∀ (K : Ctx), aq K [] → qLG K Tryz.f139 (fun u G => u = .sl 1 ∧ G = ⟨2, [(1, .row 152 2 (List.map aa.w r0))]⟩) (xM (xL (xG (xC (xK (ae Tryz.f139)))))) [.blk 0, .seq (xH (ae Tryz.f139))] 365 (mkF 365 0 [(0, .sl 0), (3, .box (an p1) 0)]) ⟨1, [(0, .row 152 2 (List.map aa.w p0))]⟩
def fZ (m : Nat) (p0 : List aa) (p1 : Tree) (r0 : List aa) : Prop := ∀ (K : Ctx), aq K [] → qLG K Tryz.f139 (fun u G => u = .sl 1 ∧ G = ⟨2, [(1, .row 152 2 (List.map aa.w r0))]⟩) (xL (xL (xF (ae Tryz.f139)))) [.blk 0, .seq (xH (ae Tryz.f139))] 365 (mkF 365 0 [(0, .sl 0), (3, .box (an p1) 0), (11, .int .i64 p1.kind)]) ⟨1, [(0, .row 152 2 (List.map aa.w p0))]⟩
def js (m : Nat) (p0 : List aa) (p1 : Tree) (r0 : List aa) : Prop := ∀ (K : Ctx), aq K [] → qLG K Tryz.f139 (fun u G => u = .sl 1 ∧ G = ⟨2, [(1, .row 152 2 (List.map aa.w r0))]⟩) (xM (xL (xL (xF (ae Tryz.f139))))) [.blk 0, .seq (xH (ae Tryz.f139))] 365 (mkF 365 0 [(0, .sl 0), (3, .box (an p1) 0)]) ⟨1, [(0, .row 152 2 (List.map aa.w p0))]⟩
def gj (m : Nat) (p0 : List aa) (p1 : Tree) (r0 : List aa) : Prop := ∀ (K : Ctx), aq K [] → qLG K Tryz.f139 (fun u G => u = .sl 1 ∧ G = ⟨2, [(1, .row 152 2 (List.map aa.w r0))]⟩) (xL (xL (xK (ae Tryz.f139)))) [.blk 0, .seq (xH (ae Tryz.f139))] 365 (mkF 365 0 [(0, .sl 0), (3, .box (an p1) 0), (11, .int .i64 p1.kind)]) ⟨1, [(0, .row 152 2 (List.map aa.w p0))]⟩
def jD (m : Nat) (p0 : List aa) (p1 : Tree) (r0 : List aa) : Prop := ∀ (K : Ctx), aq K [] → qLG K Tryz.f139 (fun u G => u = .sl 1 ∧ G = ⟨2, [(1, .row 152 2 (List.map aa.w r0))]⟩) (xM (xL (xL (xK (ae Tryz.f139))))) [.blk 0, .seq (xH (ae Tryz.f139))] 365 (mkF 365 0 [(0, .sl 0), (3, .box (an p1) 0)]) ⟨1, [(0, .row 152 2 (List.map aa.w p0))]⟩
theorem ko (m : Nat) (p0 : List aa) (p1 : Tree) (r0 : List aa) (h : ((p1.kind = 1) → kz m p0 p1 r0) ∧ ((p1.kind ≠ 1) → gx m p0 p1 r0)) : aj p0 p1 r0 := by
 refine ak 365 [] Tryz.func139 rfl rfl rfl (az rfl) fun K hK => ?_
 refine gR 3 rfl <| gFP 1 rfl rfl rfl rfl <| gR 8 rfl <| gV 9 (.int .i64 (p1.kids.length : Int)) rfl (aO (aI _)) rfl <| gLB 8 rfl (aI _) fun hl115 => gR 17 rfl <| qBeZ 12 13 rfl rfl rfl rfl h (fun h => ?_) fun h => ?_
 exact gR 1 rfl <| gJ (h K hK) [0] [] rfl hK pq3 ⟨⟨_, rfl, rfl, rfl, (am _ aa.w (fun _ => rfl) p0).symm⟩, trivial⟩ rfl
 exact gR 1 rfl <| gJ (h K hK) [0] [] rfl hK pq4 ⟨⟨_, rfl, rfl, rfl, (am _ aa.w (fun _ => rfl) p0).symm⟩, trivial⟩ rfl
theorem oa (m : Nat) (p0 : List aa) (p1 : Tree) (r0 : List aa) (h : ∃ a, ai p1 0 a ∧ ∃ b, ai p1 1 b ∧ (p0 ++ [(aa.mk a [109, 111, 100, 117, 108, 101]), (aa.mk b p1.text)]).length ≤ 1000000000 ∧ dc m p1 (p0 ++ [(aa.mk a [109, 111, 100, 117, 108, 101]), (aa.mk b p1.text)]) 0 r0) : kz (m + 1) p0 p1 r0 := by
 intro K hK
 refine gR 1 rfl <| gDs [] 12 12 rfl (by kernel_rfl) (by kernel_rfl) <| gDr [(0, 2), (1, 2), (4, 2), (6, 2), (7, 2)] (by kernel_rfl) rfl rfl ?_
 obtain ⟨a, hs116, h⟩ := h
 refine aN 2 hs116 (by kernel_rfl) rfl (by kernel_rfl) rfl rfl .rfl rfl rfl ?_
 refine gDr [(3, 2)] (by kernel_rfl) rfl rfl ?_
 obtain ⟨b, hs117, h⟩ := h
 refine aN 5 hs117 (by kernel_rfl) rfl (by kernel_rfl) rfl rfl .rfl rfl rfl ?_
 refine gDr [(8, 0), (9, 0)] (by kernel_rfl) rfl rfl ?_
 obtain ⟨hb, h⟩ := h
 refine bW 10 (.repl 0 (.row 152 2 (List.map aa.w (p0 ++ [(aa.mk a [109, 111, 100, 117, 108, 101]), (aa.mk b p1.text)])))) rfl (by kernel_rfl) (bu ac rfl rfl rfl rfl rfl (List.map_append (f := aa.w) (l₁ := p0) (l₂ := [(aa.mk a [109, 111, 100, 117, 108, 101]), (aa.mk b p1.text)])).symm (by rw [aY]; exact hb)) (okR rfl) rfl (by kernel_rfl) rfl rfl ?_
 exact gDr [(11, 0)] (by kernel_rfl) rfl rfl <| gDe (by kernel_rfl) <| gR 8 rfl <| go_loop m <| gJ (h K _ hK (by omega)) [2] [] rfl hK pq4 ⟨⟨_, rfl, rfl, rfl, (am _ aa.w (fun _ => rfl) (p0 ++ [(aa.mk a [109, 111, 100, 117, 108, 101]), (aa.mk b p1.text)])).symm⟩, trivial⟩ rfl
theorem jw (m : Nat) (p0 : List aa) (p1 : Tree) (r0 : List aa) (h : ((p1.kind = 2) → kv m p0 p1 r0) ∧ ((p1.kind ≠ 2) → gH m p0 p1 r0)) : gx (m + 1) p0 p1 r0 := by
 intro K hK
 refine gR 6 rfl <| qBeZ 43 44 rfl rfl rfl rfl h (fun h => ?_) fun h => ?_
 exact gR 1 rfl <| gJ (h K hK) [0] [] rfl hK pq3 ⟨⟨_, rfl, rfl, rfl, (am _ aa.w (fun _ => rfl) p0).symm⟩, trivial⟩ rfl
 exact gR 1 rfl <| gJ (h K hK) [0] [] rfl hK pq4 ⟨⟨_, rfl, rfl, rfl, (am _ aa.w (fun _ => rfl) p0).symm⟩, trivial⟩ rfl
theorem jJ (m : Nat) (p1 : Tree) (a : List aa) (c : Nat) (r0 : List aa) (h : ((c < p1.kids.length) → ∃ e, p1.kids[c]? = some e ∧ ∃ d, aj a e d ∧ c + 1 ≤ 9223372036854775807 ∧ dc m p1 d (c + 1) r0) ∧ ((¬ c < p1.kids.length) → ∃ b, ai p1 2 b ∧ (a ++ [(aa.mk b [])]).length ≤ 1000000000 ∧ (a ++ [(aa.mk b [])]) = r0)) : dc (m + 1) p1 a c r0 := by
 intro K j1 hK hj1
 obtain ⟨j1, rfl⟩ : ∃ j, j1 = j + 1 := ⟨j1 - 1, by omega⟩
 refine gR 8 rfl <| gB 27 rfl rfl rfl ?_ ?_ <;> intro hd
 replace hd := (ch hd)
 replace h := h.1 hd
 refine gR 10 rfl ?_
 obtain ⟨e, hxt3_1, h⟩ := h
 refine gY (aG (av hxt3_1) ac rfl rfl rfl rfl) rfl rfl <| gR 1 rfl ?_
 obtain ⟨d, hs118, h⟩ := h
 refine gC hs118 [0] (by kernel_rfl) rfl rfl .rfl ⟨⟨_, rfl, ⟨rfl, rfl, (am _ aa.w (fun _ => rfl) a).symm⟩⟩, trivial⟩ rfl ?_
 rintro _ _ ⟨rfl, rfl⟩
 refine gHR 2 (List.map aa.w d) rfl (am _ aa.w (fun _ => rfl) d) rfl <| gR 6 rfl ?_
 obtain ⟨hb, h⟩ := h
 exact gR 1 rfl <| gV 29 (.int .i64 ((c + 1 : Nat) : Int)) rfl (ao (by omega) (by omega)) rfl <| gR 2 rfl <| go_xloop <| gJ (h K _ hK (by omega)) [2] [] rfl hK pq4 ⟨⟨_, rfl, rfl, rfl, (am _ aa.w (fun _ => rfl) d).symm⟩, trivial⟩ rfl
 replace hd := (cg hd)
 replace h := h.2 hd
 refine gR 3 rfl <| go_xloopE <| gR 6 rfl ?_
 obtain ⟨b, hs119, h⟩ := h
 refine gC0 hs119 (by kernel_rfl) rfl rfl .rfl rfl <| gR 2 rfl ?_
 obtain ⟨hb, h⟩ := h
 refine gDo (.repl 0 (.row 152 2 (List.map aa.w (a ++ [(aa.mk b [])])))) (bu ac rfl rfl rfl rfl rfl (apM aa.w a (aa.mk b [])) (by rw [aY]; exact hb)) (okR rfl) rfl rfl rfl <| gR 6 rfl ?_
 subst h
 exact go_sub (F' := (mkF 365 0 [(4, .sl 1)])) (H' := ⟨2, [(1, .row 152 2 (List.map aa.w (a ++ [(aa.mk b [])])))]⟩) [1000, 2] [] rfl hK pq1 ⟨⟨_, rfl, rfl, rfl, (am _ aa.w (fun _ => rfl) (a ++ [(aa.mk b [])])).symm⟩, trivial⟩ rfl <| go_endD [] ac (rs := [.tmp 4]) rfl rfl ⟨rfl, rfl⟩
theorem nZ (m : Nat) (p0 : List aa) (p1 : Tree) (r0 : List aa) (h : ∃ e, ai p1 0 e ∧ ∃ g, ai p1 1 g ∧ ∃ i, ai p1 2 i ∧ (p0 ++ [(aa.mk e [100, 101, 102]), (aa.mk g p1.text), (aa.mk i [40])]).length ≤ 1000000000 ∧ InI ((p1.kids.length : Int) - 2) ∧ ∃ d, dr (p0 ++ [(aa.mk e [100, 101, 102]), (aa.mk g p1.text), (aa.mk i [40])]) p1 0 ((p1.kids.length : Int) - 2) 6 d ∧ ∃ j, ai p1 3 j ∧ ∃ k, ai p1 4 k ∧ (d ++ [(aa.mk j [41]), (aa.mk k [58])]).length ≤ 1000000000 ∧ InI ((p1.kids.length : Int) - 2) ∧ ∃ o, ((p1.kids.length : Int) - 2) = ((o : Nat) : Int) ∧ ∃ p, p1.kids[o]? = some p ∧ ∃ b, aj (d ++ [(aa.mk j [41]), (aa.mk k [58])]) p b ∧ ∃ a, ai p1 5 a ∧ (b ++ [(aa.mk a [61])]).length ≤ 1000000000 ∧ InI ((p1.kids.length : Int) - 1) ∧ ∃ l, ((p1.kids.length : Int) - 1) = ((l : Nat) : Int) ∧ ∃ n, p1.kids[l]? = some n ∧ ∃ c, aj (b ++ [(aa.mk a [61])]) n c ∧ c = r0) : kv (m + 1) p0 p1 r0 := by
 intro K hK
 refine gR 1 rfl <| gDs [] 15 15 rfl (by kernel_rfl) (by kernel_rfl) <| gDr [(0, 2), (1, 2), (4, 2), (6, 2), (7, 2), (9, 2)] (by kernel_rfl) rfl rfl ?_
 obtain ⟨e, hs120, h⟩ := h
 refine aN 2 hs120 (by kernel_rfl) rfl (by kernel_rfl) rfl rfl .rfl rfl rfl ?_
 refine gDr [(3, 2)] (by kernel_rfl) rfl rfl ?_
 obtain ⟨g, hs121, h⟩ := h
 refine aN 5 hs121 (by kernel_rfl) rfl (by kernel_rfl) rfl rfl .rfl rfl rfl ?_
 refine gDr [(8, 2)] (by kernel_rfl) rfl rfl ?_
 obtain ⟨i, hs122, h⟩ := h
 refine aN 10 hs122 (by kernel_rfl) rfl (by kernel_rfl) rfl rfl .rfl rfl rfl ?_
 refine gDr [(11, 0), (12, 0)] (by kernel_rfl) rfl rfl ?_
 obtain ⟨hb, h⟩ := h
 refine bW 13 (.repl 0 (.row 152 2 (List.map aa.w (p0 ++ [(aa.mk e [100, 101, 102]), (aa.mk g p1.text), (aa.mk i [40])])))) rfl (by kernel_rfl) (bu ac rfl rfl rfl rfl rfl (List.map_append (f := aa.w) (l₁ := p0) (l₂ := [(aa.mk e [100, 101, 102]), (aa.mk g p1.text), (aa.mk i [40])])).symm (by rw [aY]; exact hb)) (okR rfl) rfl (by kernel_rfl) rfl rfl ?_
 refine gDr [(14, 0)] (by kernel_rfl) rfl rfl <| gDe (by kernel_rfl) <| gR 6 rfl ?_
 obtain ⟨hb, h⟩ := h
 refine gR 1 rfl <| gV 62 (.int .i64 ((p1.kids.length : Int) - 2)) rfl (ao hb rfl) rfl ?_
 obtain ⟨d, hs123, h⟩ := h
 refine gC hs123 [2] (by kernel_rfl) rfl rfl .rfl ⟨⟨_, rfl, ⟨rfl, rfl, (am _ aa.w (fun _ => rfl) (p0 ++ [(aa.mk e [100, 101, 102]), (aa.mk g p1.text), (aa.mk i [40])])).symm⟩⟩, trivial⟩ rfl ?_
 rintro _ _ ⟨rfl, rfl⟩
 refine gHR 4 (List.map aa.w d) rfl (am _ aa.w (fun _ => rfl) d) rfl <| gR 4 rfl <| gDs [] 10 10 rfl (by kernel_rfl) (by kernel_rfl) <| gDr [(0, 2), (1, 2), (4, 2)] (by kernel_rfl) rfl rfl ?_
 obtain ⟨j, hs124, h⟩ := h
 refine aN 2 hs124 (by kernel_rfl) rfl (by kernel_rfl) rfl rfl .rfl rfl rfl ?_
 refine gDr [(3, 2)] (by kernel_rfl) rfl rfl ?_
 obtain ⟨k, hs125, h⟩ := h
 refine aN 5 hs125 (by kernel_rfl) rfl (by kernel_rfl) rfl rfl .rfl rfl rfl ?_
 refine gDr [(6, 0), (7, 0)] (by kernel_rfl) rfl rfl ?_
 obtain ⟨hb, h⟩ := h
 refine bW 8 (.repl 4 (.row 152 2 (List.map aa.w (d ++ [(aa.mk j [41]), (aa.mk k [58])])))) rfl (by kernel_rfl) (bu ac rfl rfl rfl rfl rfl (List.map_append (f := aa.w) (l₁ := d) (l₂ := [(aa.mk j [41]), (aa.mk k [58])])).symm (by rw [aY]; exact hb)) (okR rfl) rfl (by kernel_rfl) rfl rfl ?_
 refine gDr [(9, 0)] (by kernel_rfl) rfl rfl <| gDe (by kernel_rfl) <| gR 2 rfl <| gDs [] 14 14 rfl (by kernel_rfl) (by kernel_rfl) <| gDr [(0, 2), (1, 2), (2, 2), (3, 2)] (by kernel_rfl) rfl rfl ?_
 obtain ⟨hb, h⟩ := h
 refine gDr [(4, 2)] (by kernel_rfl) rfl rfl <| gV 77 (.int .i64 ((p1.kids.length : Int) - 2)) rfl (ao hb rfl) rfl ?_
 obtain ⟨o, r, h⟩ := h
 refine gV 77 (.int .i64 ((o : Nat) : Int)) rfl (cO r) rfl ?_
 obtain ⟨p, hxt4_8, h⟩ := h
 refine gYd 5 rfl (by kernel_rfl) (aG (av hxt4_8) ac rfl rfl rfl rfl) rfl rfl <| gDr [(6, 2), (8, 2)] (by kernel_rfl) rfl rfl ?_
 obtain ⟨b, hs126, h⟩ := h
 refine gDC 7 hs126 [6] (by kernel_rfl) rfl (by kernel_rfl) rfl rfl .rfl ⟨⟨_, rfl, ⟨rfl, rfl, (am _ aa.w (fun _ => rfl) (d ++ [(aa.mk j [41]), (aa.mk k [58])])).symm⟩⟩, trivial⟩ (by kernel_rfl) rfl ?_
 rintro _ _ ⟨rfl, rfl⟩
 refine gHR 8 (List.map aa.w b) rfl (am _ aa.w (fun _ => rfl) b) rfl ?_
 obtain ⟨a, hs127, h⟩ := h
 refine aN 9 hs127 (by kernel_rfl) rfl (by kernel_rfl) rfl rfl .rfl rfl rfl ?_
 refine gDr [(10, 0), (11, 0)] (by kernel_rfl) rfl rfl ?_
 obtain ⟨hb, h⟩ := h
 refine bW 12 (.repl 8 (.row 152 2 (List.map aa.w (b ++ [(aa.mk a [61])])))) rfl (by kernel_rfl) (bu ac rfl rfl rfl rfl rfl (apM aa.w b (aa.mk a [61])) (by rw [aY]; exact hb)) (okR rfl) rfl (by kernel_rfl) rfl rfl ?_
 refine gDr [(13, 0)] (by kernel_rfl) rfl rfl <| gDe (by kernel_rfl) <| gR 1 rfl <| go_sub (F' := (mkF 365 0 [(0, .sl 0), (3, .box (an p1) 0), (5, .int .i64 (p1.kids.length : Int))])) (H' := ⟨1, [(0, .row 152 2 (List.map aa.w (b ++ [(aa.mk a [61])])))]⟩) [10] [] rfl hK pq3 ⟨⟨_, rfl, rfl, rfl, (am _ aa.w (fun _ => rfl) (b ++ [(aa.mk a [61])])).symm⟩, trivial⟩ rfl <| gR 6 rfl ?_
 obtain ⟨hb, h⟩ := h
 refine gR 1 rfl <| gV 90 (.int .i64 ((p1.kids.length : Int) - 1)) rfl (ao hb rfl) rfl ?_
 obtain ⟨l, q, h⟩ := h
 refine gV 90 (.int .i64 ((l : Nat) : Int)) rfl (cO q) rfl ?_
 obtain ⟨n, hxt4_12, h⟩ := h
 refine gY (aG (av hxt4_12) ac rfl rfl rfl rfl) rfl rfl <| gR 1 rfl ?_
 obtain ⟨c, hs128, h⟩ := h
 refine gC hs128 [0] (by kernel_rfl) rfl rfl .rfl ⟨⟨_, rfl, ⟨rfl, rfl, (am _ aa.w (fun _ => rfl) (b ++ [(aa.mk a [61])])).symm⟩⟩, trivial⟩ rfl ?_
 rintro _ _ ⟨rfl, rfl⟩
 refine gHR 2 (List.map aa.w c) rfl (am _ aa.w (fun _ => rfl) c) rfl <| gR 6 rfl ?_
 subst h
 exact go_sub (F' := (mkF 365 0 [(4, .sl 1)])) (H' := ⟨2, [(1, .row 152 2 (List.map aa.w c))]⟩) [1000, 2] [] rfl hK pq1 ⟨⟨_, rfl, rfl, rfl, (am _ aa.w (fun _ => rfl) c).symm⟩, trivial⟩ rfl <| go_endD [] ac (rs := [.tmp 4]) rfl rfl ⟨rfl, rfl⟩
theorem jp (m : Nat) (p0 : List aa) (p1 : Tree) (r0 : List aa) (h : ((p1.kind = 3) → kx m p0 p1 r0) ∧ ((p1.kind ≠ 3) → gq m p0 p1 r0)) : gH (m + 1) p0 p1 r0 := by
 intro K hK
 refine gR 6 rfl <| qBeZ 94 95 rfl rfl rfl rfl h (fun h => ?_) fun h => ?_
 exact gR 1 rfl <| gJ (h K hK) [0] [] rfl hK pq2 ⟨⟨_, rfl, rfl, rfl, (am _ aa.w (fun _ => rfl) p0).symm⟩, trivial⟩ rfl
 exact gR 1 rfl <| gJ (h K hK) [0] [] rfl hK pq4 ⟨⟨_, rfl, rfl, rfl, (am _ aa.w (fun _ => rfl) p0).symm⟩, trivial⟩ rfl
theorem oh (m : Nat) (p0 : List aa) (p1 : Tree) (r0 : List aa) (h : ∃ a, ai p1 0 a ∧ ∃ b, ai p1 1 b ∧ ∃ c, ai p1 2 c ∧ (p0 ++ [(aa.mk a [116, 121, 112, 101]), (aa.mk b p1.text), (aa.mk c [61])]).length ≤ 1000000000 ∧ ∃ e, p1.kids[0]? = some e ∧ ∃ d, aj (p0 ++ [(aa.mk a [116, 121, 112, 101]), (aa.mk b p1.text), (aa.mk c [61])]) e d ∧ d = r0) : kx (m + 1) p0 p1 r0 := by
 intro K hK
 refine gR 1 rfl <| gDs [] 15 15 rfl (by kernel_rfl) (by kernel_rfl) <| gDr [(0, 2), (1, 2), (4, 2), (6, 2), (7, 2), (9, 2)] (by kernel_rfl) rfl rfl ?_
 obtain ⟨a, hs129, h⟩ := h
 refine aN 2 hs129 (by kernel_rfl) rfl (by kernel_rfl) rfl rfl .rfl rfl rfl ?_
 refine gDr [(3, 2)] (by kernel_rfl) rfl rfl ?_
 obtain ⟨b, hs130, h⟩ := h
 refine aN 5 hs130 (by kernel_rfl) rfl (by kernel_rfl) rfl rfl .rfl rfl rfl ?_
 refine gDr [(8, 2)] (by kernel_rfl) rfl rfl ?_
 obtain ⟨c, hs131, h⟩ := h
 refine aN 10 hs131 (by kernel_rfl) rfl (by kernel_rfl) rfl rfl .rfl rfl rfl ?_
 refine gDr [(11, 0), (12, 0)] (by kernel_rfl) rfl rfl ?_
 obtain ⟨hb, h⟩ := h
 refine bW 13 (.repl 0 (.row 152 2 (List.map aa.w (p0 ++ [(aa.mk a [116, 121, 112, 101]), (aa.mk b p1.text), (aa.mk c [61])])))) rfl (by kernel_rfl) (bu ac rfl rfl rfl rfl rfl (List.map_append (f := aa.w) (l₁ := p0) (l₂ := [(aa.mk a [116, 121, 112, 101]), (aa.mk b p1.text), (aa.mk c [61])])).symm (by rw [aY]; exact hb)) (okR rfl) rfl (by kernel_rfl) rfl rfl ?_
 refine gDr [(14, 0)] (by kernel_rfl) rfl rfl <| gDe (by kernel_rfl) <| gR 6 rfl ?_
 obtain ⟨e, hxt6_4, h⟩ := h
 refine gY (aG (av hxt6_4) ac rfl rfl rfl rfl) rfl rfl <| gR 1 rfl ?_
 obtain ⟨d, hs132, h⟩ := h
 refine gC hs132 [2] (by kernel_rfl) rfl rfl .rfl ⟨⟨_, rfl, ⟨rfl, rfl, (am _ aa.w (fun _ => rfl) (p0 ++ [(aa.mk a [116, 121, 112, 101]), (aa.mk b p1.text), (aa.mk c [61])])).symm⟩⟩, trivial⟩ rfl ?_
 rintro _ _ ⟨rfl, rfl⟩
 refine gHR 4 (List.map aa.w d) rfl (am _ aa.w (fun _ => rfl) d) rfl <| gR 6 rfl ?_
 subst h
 exact go_sub (F' := (mkF 365 0 [(4, .sl 1)])) (H' := ⟨2, [(1, .row 152 2 (List.map aa.w d))]⟩) [1000, 4] [] rfl hK pq1 ⟨⟨_, rfl, rfl, rfl, (am _ aa.w (fun _ => rfl) d).symm⟩, trivial⟩ rfl <| go_endD [] ac (rs := [.tmp 4]) rfl rfl ⟨rfl, rfl⟩
theorem jH (m : Nat) (p0 : List aa) (p1 : Tree) (r0 : List aa) (h : ((p1.kind = 4) → kq m p0 p1 r0) ∧ ((p1.kind ≠ 4) → gE m p0 p1 r0)) : gq (m + 1) p0 p1 r0 := by
 intro K hK
 refine gR 6 rfl <| qBeZ 116 117 rfl rfl rfl rfl h (fun h => ?_) fun h => ?_
 exact gR 1 rfl <| gJ (h K hK) [0] [] rfl hK pq2 ⟨⟨_, rfl, rfl, rfl, (am _ aa.w (fun _ => rfl) p0).symm⟩, trivial⟩ rfl
 exact gR 1 rfl <| gJ (h K hK) [0] [] rfl hK pq4 ⟨⟨_, rfl, rfl, rfl, (am _ aa.w (fun _ => rfl) p0).symm⟩, trivial⟩ rfl
theorem nX (m : Nat) (p0 : List aa) (p1 : Tree) (r0 : List aa) (h : ∃ a, ai p1 0 a ∧ ∃ b, ai p1 1 b ∧ (p0 ++ [(aa.mk a p1.text), (aa.mk b [58])]).length ≤ 1000000000 ∧ ∃ d, p1.kids[0]? = some d ∧ ∃ c, aj (p0 ++ [(aa.mk a p1.text), (aa.mk b [58])]) d c ∧ c = r0) : kq (m + 1) p0 p1 r0 := by
 intro K hK
 refine gR 1 rfl <| gDs [] 12 12 rfl (by kernel_rfl) (by kernel_rfl) <| gDr [(0, 2), (1, 2), (3, 2), (4, 2), (6, 2)] (by kernel_rfl) rfl rfl ?_
 obtain ⟨a, hs133, h⟩ := h
 refine aN 2 hs133 (by kernel_rfl) rfl (by kernel_rfl) rfl rfl .rfl rfl rfl ?_
 refine gDr [(5, 2)] (by kernel_rfl) rfl rfl ?_
 obtain ⟨b, hs134, h⟩ := h
 refine aN 7 hs134 (by kernel_rfl) rfl (by kernel_rfl) rfl rfl .rfl rfl rfl ?_
 refine gDr [(8, 0), (9, 0)] (by kernel_rfl) rfl rfl ?_
 obtain ⟨hb, h⟩ := h
 refine bW 10 (.repl 0 (.row 152 2 (List.map aa.w (p0 ++ [(aa.mk a p1.text), (aa.mk b [58])])))) rfl (by kernel_rfl) (bu ac rfl rfl rfl rfl rfl (List.map_append (f := aa.w) (l₁ := p0) (l₂ := [(aa.mk a p1.text), (aa.mk b [58])])).symm (by rw [aY]; exact hb)) (okR rfl) rfl (by kernel_rfl) rfl rfl ?_
 refine gDr [(11, 0)] (by kernel_rfl) rfl rfl <| gDe (by kernel_rfl) <| gR 6 rfl ?_
 obtain ⟨d, hxt8_3, h⟩ := h
 refine gY (aG (av hxt8_3) ac rfl rfl rfl rfl) rfl rfl <| gR 1 rfl ?_
 obtain ⟨c, hs135, h⟩ := h
 refine gC hs135 [2] (by kernel_rfl) rfl rfl .rfl ⟨⟨_, rfl, ⟨rfl, rfl, (am _ aa.w (fun _ => rfl) (p0 ++ [(aa.mk a p1.text), (aa.mk b [58])])).symm⟩⟩, trivial⟩ rfl ?_
 rintro _ _ ⟨rfl, rfl⟩
 refine gHR 4 (List.map aa.w c) rfl (am _ aa.w (fun _ => rfl) c) rfl <| gR 6 rfl ?_
 subst h
 exact go_sub (F' := (mkF 365 0 [(4, .sl 1)])) (H' := ⟨2, [(1, .row 152 2 (List.map aa.w c))]⟩) [1000, 4] [] rfl hK pq1 ⟨⟨_, rfl, rfl, rfl, (am _ aa.w (fun _ => rfl) c).symm⟩, trivial⟩ rfl <| go_endD [] ac (rs := [.tmp 4]) rfl rfl ⟨rfl, rfl⟩
theorem jn (m : Nat) (p0 : List aa) (p1 : Tree) (r0 : List aa) (h : ((p1.kind = 5) → ∃ a, ai p1 0 a ∧ (p0 ++ [(aa.mk a [73, 110, 116])]).length ≤ 1000000000 ∧ (p0 ++ [(aa.mk a [73, 110, 116])]) = r0) ∧ ((p1.kind ≠ 5) → gu m p0 p1 r0)) : gE (m + 1) p0 p1 r0 := by
 intro K hK
 refine gR 6 rfl <| qBeZ 135 136 rfl rfl rfl rfl h (fun h => ?_) fun h => ?_
 refine gR 5 rfl ?_
 obtain ⟨a, hs136, h⟩ := h
 refine gC0 hs136 (by kernel_rfl) rfl rfl .rfl rfl <| gR 2 rfl ?_
 obtain ⟨hb, h⟩ := h
 refine gDo (.repl 0 (.row 152 2 (List.map aa.w (p0 ++ [(aa.mk a [73, 110, 116])])))) (bu ac rfl rfl rfl rfl rfl (apM aa.w p0 (aa.mk a [73, 110, 116])) (by rw [aY]; exact hb)) (okR rfl) rfl rfl rfl <| gR 6 rfl ?_
 subst h
 exact go_sub (F' := (mkF 365 0 [(4, .sl 1)])) (H' := ⟨2, [(1, .row 152 2 (List.map aa.w (p0 ++ [(aa.mk a [73, 110, 116])])))]⟩) [1000, 2] [] rfl hK pq1 ⟨⟨_, rfl, rfl, rfl, (am _ aa.w (fun _ => rfl) (p0 ++ [(aa.mk a [73, 110, 116])])).symm⟩, trivial⟩ rfl <| go_endD [] ac (rs := [.tmp 4]) rfl rfl ⟨rfl, rfl⟩
 exact gR 1 rfl <| gJ (h K hK) [0] [] rfl hK pq4 ⟨⟨_, rfl, rfl, rfl, (am _ aa.w (fun _ => rfl) p0).symm⟩, trivial⟩ rfl
theorem ju (m : Nat) (p0 : List aa) (p1 : Tree) (r0 : List aa) (h : ((p1.kind = 6) → ∃ a, ai p1 0 a ∧ (p0 ++ [(aa.mk a [84, 101, 120, 116])]).length ≤ 1000000000 ∧ (p0 ++ [(aa.mk a [84, 101, 120, 116])]) = r0) ∧ ((p1.kind ≠ 6) → gb m p0 p1 r0)) : gu (m + 1) p0 p1 r0 := by
 intro K hK
 refine gR 6 rfl <| qBeZ 143 144 rfl rfl rfl rfl h (fun h => ?_) fun h => ?_
 refine gR 5 rfl ?_
 obtain ⟨a, hs137, h⟩ := h
 refine gC0 hs137 (by kernel_rfl) rfl rfl .rfl rfl <| gR 2 rfl ?_
 obtain ⟨hb, h⟩ := h
 refine gDo (.repl 0 (.row 152 2 (List.map aa.w (p0 ++ [(aa.mk a [84, 101, 120, 116])])))) (bu ac rfl rfl rfl rfl rfl (apM aa.w p0 (aa.mk a [84, 101, 120, 116])) (by rw [aY]; exact hb)) (okR rfl) rfl rfl rfl <| gR 6 rfl ?_
 subst h
 exact go_sub (F' := (mkF 365 0 [(4, .sl 1)])) (H' := ⟨2, [(1, .row 152 2 (List.map aa.w (p0 ++ [(aa.mk a [84, 101, 120, 116])])))]⟩) [1000, 2] [] rfl hK pq1 ⟨⟨_, rfl, rfl, rfl, (am _ aa.w (fun _ => rfl) (p0 ++ [(aa.mk a [84, 101, 120, 116])])).symm⟩, trivial⟩ rfl <| go_endD [] ac (rs := [.tmp 4]) rfl rfl ⟨rfl, rfl⟩
 exact gR 1 rfl <| gJ (h K hK) [0] [] rfl hK pq4 ⟨⟨_, rfl, rfl, rfl, (am _ aa.w (fun _ => rfl) p0).symm⟩, trivial⟩ rfl
theorem iX (m : Nat) (p0 : List aa) (p1 : Tree) (r0 : List aa) (h : ((p1.kind = 7) → ∃ a, ai p1 0 a ∧ (p0 ++ [(aa.mk a [66, 111, 111, 108])]).length ≤ 1000000000 ∧ (p0 ++ [(aa.mk a [66, 111, 111, 108])]) = r0) ∧ ((p1.kind ≠ 7) → gd m p0 p1 r0)) : gb (m + 1) p0 p1 r0 := by
 intro K hK
 refine gR 6 rfl <| qBeZ 151 152 rfl rfl rfl rfl h (fun h => ?_) fun h => ?_
 refine gR 5 rfl ?_
 obtain ⟨a, hs138, h⟩ := h
 refine gC0 hs138 (by kernel_rfl) rfl rfl .rfl rfl <| gR 2 rfl ?_
 obtain ⟨hb, h⟩ := h
 refine gDo (.repl 0 (.row 152 2 (List.map aa.w (p0 ++ [(aa.mk a [66, 111, 111, 108])])))) (bu ac rfl rfl rfl rfl rfl (apM aa.w p0 (aa.mk a [66, 111, 111, 108])) (by rw [aY]; exact hb)) (okR rfl) rfl rfl rfl <| gR 6 rfl ?_
 subst h
 exact go_sub (F' := (mkF 365 0 [(4, .sl 1)])) (H' := ⟨2, [(1, .row 152 2 (List.map aa.w (p0 ++ [(aa.mk a [66, 111, 111, 108])])))]⟩) [1000, 2] [] rfl hK pq1 ⟨⟨_, rfl, rfl, rfl, (am _ aa.w (fun _ => rfl) (p0 ++ [(aa.mk a [66, 111, 111, 108])])).symm⟩, trivial⟩ rfl <| go_endD [] ac (rs := [.tmp 4]) rfl rfl ⟨rfl, rfl⟩
 exact gR 1 rfl <| gJ (h K hK) [0] [] rfl hK pq4 ⟨⟨_, rfl, rfl, rfl, (am _ aa.w (fun _ => rfl) p0).symm⟩, trivial⟩ rfl
theorem je (m : Nat) (p0 : List aa) (p1 : Tree) (r0 : List aa) (h : ((p1.kind = 13) → ∃ a, ai p1 0 a ∧ (p0 ++ [(aa.mk a [116, 114, 117, 101])]).length ≤ 1000000000 ∧ (p0 ++ [(aa.mk a [116, 114, 117, 101])]) = r0) ∧ ((p1.kind ≠ 13) → gc m p0 p1 r0)) : gd (m + 1) p0 p1 r0 := by
 intro K hK
 refine gR 6 rfl <| qBeZ 159 160 rfl rfl rfl rfl h (fun h => ?_) fun h => ?_
 refine gR 5 rfl ?_
 obtain ⟨a, hs139, h⟩ := h
 refine gC0 hs139 (by kernel_rfl) rfl rfl .rfl rfl <| gR 2 rfl ?_
 obtain ⟨hb, h⟩ := h
 refine gDo (.repl 0 (.row 152 2 (List.map aa.w (p0 ++ [(aa.mk a [116, 114, 117, 101])])))) (bu ac rfl rfl rfl rfl rfl (apM aa.w p0 (aa.mk a [116, 114, 117, 101])) (by rw [aY]; exact hb)) (okR rfl) rfl rfl rfl <| gR 6 rfl ?_
 subst h
 exact go_sub (F' := (mkF 365 0 [(4, .sl 1)])) (H' := ⟨2, [(1, .row 152 2 (List.map aa.w (p0 ++ [(aa.mk a [116, 114, 117, 101])])))]⟩) [1000, 2] [] rfl hK pq1 ⟨⟨_, rfl, rfl, rfl, (am _ aa.w (fun _ => rfl) (p0 ++ [(aa.mk a [116, 114, 117, 101])])).symm⟩, trivial⟩ rfl <| go_endD [] ac (rs := [.tmp 4]) rfl rfl ⟨rfl, rfl⟩
 exact gR 1 rfl <| gJ (h K hK) [0] [] rfl hK pq4 ⟨⟨_, rfl, rfl, rfl, (am _ aa.w (fun _ => rfl) p0).symm⟩, trivial⟩ rfl
theorem iZ (m : Nat) (p0 : List aa) (p1 : Tree) (r0 : List aa) (h : ((p1.kind = 14) → ∃ a, ai p1 0 a ∧ (p0 ++ [(aa.mk a [102, 97, 108, 115, 101])]).length ≤ 1000000000 ∧ (p0 ++ [(aa.mk a [102, 97, 108, 115, 101])]) = r0) ∧ ((p1.kind ≠ 14) → gf m p0 p1 r0)) : gc (m + 1) p0 p1 r0 := by
 intro K hK
 refine gR 6 rfl <| qBeZ 167 168 rfl rfl rfl rfl h (fun h => ?_) fun h => ?_
 refine gR 5 rfl ?_
 obtain ⟨a, hs140, h⟩ := h
 refine gC0 hs140 (by kernel_rfl) rfl rfl .rfl rfl <| gR 2 rfl ?_
 obtain ⟨hb, h⟩ := h
 refine gDo (.repl 0 (.row 152 2 (List.map aa.w (p0 ++ [(aa.mk a [102, 97, 108, 115, 101])])))) (bu ac rfl rfl rfl rfl rfl (apM aa.w p0 (aa.mk a [102, 97, 108, 115, 101])) (by rw [aY]; exact hb)) (okR rfl) rfl rfl rfl <| gR 6 rfl ?_
 subst h
 exact go_sub (F' := (mkF 365 0 [(4, .sl 1)])) (H' := ⟨2, [(1, .row 152 2 (List.map aa.w (p0 ++ [(aa.mk a [102, 97, 108, 115, 101])])))]⟩) [1000, 2] [] rfl hK pq1 ⟨⟨_, rfl, rfl, rfl, (am _ aa.w (fun _ => rfl) (p0 ++ [(aa.mk a [102, 97, 108, 115, 101])])).symm⟩, trivial⟩ rfl <| go_endD [] ac (rs := [.tmp 4]) rfl rfl ⟨rfl, rfl⟩
 exact gR 1 rfl <| gJ (h K hK) [0] [] rfl hK pq4 ⟨⟨_, rfl, rfl, rfl, (am _ aa.w (fun _ => rfl) p0).symm⟩, trivial⟩ rfl
theorem iW (m : Nat) (p0 : List aa) (p1 : Tree) (r0 : List aa) (h : ((p1.kind = 15) → ∃ a, ai p1 0 a ∧ (p0 ++ [(aa.mk a [63])]).length ≤ 1000000000 ∧ (p0 ++ [(aa.mk a [63])]) = r0) ∧ ((p1.kind ≠ 15) → fW m p0 p1 r0)) : gf (m + 1) p0 p1 r0 := by
 intro K hK
 refine gR 6 rfl <| qBeZ 175 176 rfl rfl rfl rfl h (fun h => ?_) fun h => ?_
 refine gR 5 rfl ?_
 obtain ⟨a, hs141, h⟩ := h
 refine gC0 hs141 (by kernel_rfl) rfl rfl .rfl rfl <| gR 2 rfl ?_
 obtain ⟨hb, h⟩ := h
 refine gDo (.repl 0 (.row 152 2 (List.map aa.w (p0 ++ [(aa.mk a [63])])))) (bu ac rfl rfl rfl rfl rfl (apM aa.w p0 (aa.mk a [63])) (by rw [aY]; exact hb)) (okR rfl) rfl rfl rfl <| gR 6 rfl ?_
 subst h
 exact go_sub (F' := (mkF 365 0 [(4, .sl 1)])) (H' := ⟨2, [(1, .row 152 2 (List.map aa.w (p0 ++ [(aa.mk a [63])])))]⟩) [1000, 2] [] rfl hK pq1 ⟨⟨_, rfl, rfl, rfl, (am _ aa.w (fun _ => rfl) (p0 ++ [(aa.mk a [63])])).symm⟩, trivial⟩ rfl <| go_endD [] ac (rs := [.tmp 4]) rfl rfl ⟨rfl, rfl⟩
 exact gR 1 rfl <| gJ (h K hK) [0] [] rfl hK pq4 ⟨⟨_, rfl, rfl, rfl, (am _ aa.w (fun _ => rfl) p0).symm⟩, trivial⟩ rfl
theorem jh (m : Nat) (p0 : List aa) (p1 : Tree) (r0 : List aa) (h : ((p1.kind = 8) → jz m p0 p1 r0) ∧ ((p1.kind ≠ 8) → fT m p0 p1 r0)) : fW (m + 1) p0 p1 r0 := by
 intro K hK
 refine gR 6 rfl <| qBeZ 183 184 rfl rfl rfl rfl h (fun h => ?_) fun h => ?_
 exact gR 1 rfl <| gJ (h K hK) [0] [] rfl hK pq2 ⟨⟨_, rfl, rfl, rfl, (am _ aa.w (fun _ => rfl) p0).symm⟩, trivial⟩ rfl
 exact gR 1 rfl <| gJ (h K hK) [0] [] rfl hK pq4 ⟨⟨_, rfl, rfl, rfl, (am _ aa.w (fun _ => rfl) p0).symm⟩, trivial⟩ rfl
theorem nw (m : Nat) (p0 : List aa) (p1 : Tree) (r0 : List aa) (h : ∃ c, ai p1 0 c ∧ (p0 ++ [(aa.mk c [91])]).length ≤ 1000000000 ∧ ∃ d, p1.kids[0]? = some d ∧ ∃ a, aj (p0 ++ [(aa.mk c [91])]) d a ∧ ∃ b, ai p1 1 b ∧ (a ++ [(aa.mk b [93])]).length ≤ 1000000000 ∧ (a ++ [(aa.mk b [93])]) = r0) : jz (m + 1) p0 p1 r0 := by
 intro K hK
 refine gR 4 rfl ?_
 obtain ⟨c, hs142, h⟩ := h
 refine gC0 hs142 (by kernel_rfl) rfl rfl .rfl rfl <| gR 2 rfl ?_
 obtain ⟨hb, h⟩ := h
 refine gDo (.repl 0 (.row 152 2 (List.map aa.w (p0 ++ [(aa.mk c [91])])))) (bu ac rfl rfl rfl rfl rfl (apM aa.w p0 (aa.mk c [91])) (by rw [aY]; exact hb)) (okR rfl) rfl rfl rfl <| gR 4 rfl <| gDs [] 12 12 rfl (by kernel_rfl) (by kernel_rfl) <| gDr [(0, 2), (1, 2), (2, 2)] (by kernel_rfl) rfl rfl ?_
 obtain ⟨d, hxt16_2, h⟩ := h
 refine gYd 3 rfl (by kernel_rfl) (aG (av hxt16_2) ac rfl rfl rfl rfl) rfl rfl <| gDr [(4, 2), (6, 2)] (by kernel_rfl) rfl rfl ?_
 obtain ⟨a, hs143, h⟩ := h
 refine gDC 5 hs143 [2] (by kernel_rfl) rfl (by kernel_rfl) rfl rfl .rfl ⟨⟨_, rfl, ⟨rfl, rfl, (am _ aa.w (fun _ => rfl) (p0 ++ [(aa.mk c [91])])).symm⟩⟩, trivial⟩ (by kernel_rfl) rfl ?_
 rintro _ _ ⟨rfl, rfl⟩
 refine gHR 4 (List.map aa.w a) rfl (am _ aa.w (fun _ => rfl) a) rfl ?_
 obtain ⟨b, hs144, h⟩ := h
 refine aN 7 hs144 (by kernel_rfl) rfl (by kernel_rfl) rfl rfl .rfl rfl rfl ?_
 refine gDr [(8, 0), (9, 0)] (by kernel_rfl) rfl rfl ?_
 obtain ⟨hb, h⟩ := h
 refine bW 10 (.repl 4 (.row 152 2 (List.map aa.w (a ++ [(aa.mk b [93])])))) rfl (by kernel_rfl) (bu ac rfl rfl rfl rfl rfl (apM aa.w a (aa.mk b [93])) (by rw [aY]; exact hb)) (okR rfl) rfl (by kernel_rfl) rfl rfl ?_
 refine gDr [(11, 0)] (by kernel_rfl) rfl rfl <| gDe (by kernel_rfl) <| gR 4 rfl ?_
 subst h
 exact go_sub (F' := (mkF 365 0 [(4, .sl 1)])) (H' := ⟨2, [(1, .row 152 2 (List.map aa.w (a ++ [(aa.mk b [93])])))]⟩) [1000, 6] [] rfl hK pq1 ⟨⟨_, rfl, rfl, rfl, (am _ aa.w (fun _ => rfl) (a ++ [(aa.mk b [93])])).symm⟩, trivial⟩ rfl <| go_endD [] ac (rs := [.tmp 4]) rfl rfl ⟨rfl, rfl⟩
theorem iY (m : Nat) (p0 : List aa) (p1 : Tree) (r0 : List aa) (h : ((p1.kind = 16) → jG m p0 p1 r0) ∧ ((p1.kind ≠ 16) → fS m p0 p1 r0)) : fT (m + 1) p0 p1 r0 := by
 intro K hK
 refine gR 6 rfl <| qBeZ 202 203 rfl rfl rfl rfl h (fun h => ?_) fun h => ?_
 exact gR 1 rfl <| gJ (h K hK) [0] [] rfl hK pq3 ⟨⟨_, rfl, rfl, rfl, (am _ aa.w (fun _ => rfl) p0).symm⟩, trivial⟩ rfl
 exact gR 1 rfl <| gJ (h K hK) [0] [] rfl hK pq4 ⟨⟨_, rfl, rfl, rfl, (am _ aa.w (fun _ => rfl) p0).symm⟩, trivial⟩ rfl
theorem nt (m : Nat) (p0 : List aa) (p1 : Tree) (r0 : List aa) (h : ∃ c, ai p1 0 c ∧ ∃ d, ai p1 1 d ∧ (p0 ++ [(aa.mk c p1.text), (aa.mk d [40])]).length ≤ 1000000000 ∧ ∃ a, dr (p0 ++ [(aa.mk c p1.text), (aa.mk d [40])]) p1 0 (p1.kids.length : Int) 3 a ∧ ∃ b, ai p1 2 b ∧ (a ++ [(aa.mk b [41])]).length ≤ 1000000000 ∧ (a ++ [(aa.mk b [41])]) = r0) : jG (m + 1) p0 p1 r0 := by
 intro K hK
 refine gR 1 rfl <| gDs [] 12 12 rfl (by kernel_rfl) (by kernel_rfl) <| gDr [(0, 2), (1, 2), (3, 2), (4, 2), (6, 2)] (by kernel_rfl) rfl rfl ?_
 obtain ⟨c, hs145, h⟩ := h
 refine aN 2 hs145 (by kernel_rfl) rfl (by kernel_rfl) rfl rfl .rfl rfl rfl ?_
 refine gDr [(5, 2)] (by kernel_rfl) rfl rfl ?_
 obtain ⟨d, hs146, h⟩ := h
 refine aN 7 hs146 (by kernel_rfl) rfl (by kernel_rfl) rfl rfl .rfl rfl rfl ?_
 refine gDr [(8, 0), (9, 0)] (by kernel_rfl) rfl rfl ?_
 obtain ⟨hb, h⟩ := h
 refine bW 10 (.repl 0 (.row 152 2 (List.map aa.w (p0 ++ [(aa.mk c p1.text), (aa.mk d [40])])))) rfl (by kernel_rfl) (bu ac rfl rfl rfl rfl rfl (List.map_append (f := aa.w) (l₁ := p0) (l₂ := [(aa.mk c p1.text), (aa.mk d [40])])).symm (by rw [aY]; exact hb)) (okR rfl) rfl (by kernel_rfl) rfl rfl ?_
 refine gDr [(11, 0)] (by kernel_rfl) rfl rfl <| gDe (by kernel_rfl) <| gR 2 rfl <| gDs [] 10 10 rfl (by kernel_rfl) (by kernel_rfl) <| gDr [(0, 2), (1, 2), (2, 2), (4, 2)] (by kernel_rfl) rfl rfl ?_
 obtain ⟨a, hs147, h⟩ := h
 refine gDC 3 hs147 [2] (by kernel_rfl) rfl (by kernel_rfl) rfl rfl .rfl ⟨⟨_, rfl, ⟨rfl, rfl, (am _ aa.w (fun _ => rfl) (p0 ++ [(aa.mk c p1.text), (aa.mk d [40])])).symm⟩⟩, trivial⟩ (by kernel_rfl) rfl ?_
 rintro _ _ ⟨rfl, rfl⟩
 refine gHR 4 (List.map aa.w a) rfl (am _ aa.w (fun _ => rfl) a) rfl ?_
 obtain ⟨b, hs148, h⟩ := h
 refine aN 5 hs148 (by kernel_rfl) rfl (by kernel_rfl) rfl rfl .rfl rfl rfl ?_
 refine gDr [(6, 0), (7, 0)] (by kernel_rfl) rfl rfl ?_
 obtain ⟨hb, h⟩ := h
 refine bW 8 (.repl 4 (.row 152 2 (List.map aa.w (a ++ [(aa.mk b [41])])))) rfl (by kernel_rfl) (bu ac rfl rfl rfl rfl rfl (apM aa.w a (aa.mk b [41])) (by rw [aY]; exact hb)) (okR rfl) rfl (by kernel_rfl) rfl rfl ?_
 refine gDr [(9, 0)] (by kernel_rfl) rfl rfl <| gDe (by kernel_rfl) <| gR 4 rfl ?_
 subst h
 exact go_sub (F' := (mkF 365 0 [(4, .sl 1)])) (H' := ⟨2, [(1, .row 152 2 (List.map aa.w (a ++ [(aa.mk b [41])])))]⟩) [1000, 6] [] rfl hK pq1 ⟨⟨_, rfl, rfl, rfl, (am _ aa.w (fun _ => rfl) (a ++ [(aa.mk b [41])])).symm⟩, trivial⟩ rfl <| go_endD [] ac (rs := [.tmp 4]) rfl rfl ⟨rfl, rfl⟩
theorem jf (m : Nat) (p0 : List aa) (p1 : Tree) (r0 : List aa) (h : ((p1.kind = 17) → ∃ b, p1.kids[0]? = some b ∧ ∃ a, aj p0 b a ∧ a = r0) ∧ ((p1.kind ≠ 17) → fV m p0 p1 r0)) : fS (m + 1) p0 p1 r0 := by
 intro K hK
 refine gR 6 rfl <| qBeZ 224 225 rfl rfl rfl rfl h (fun h => ?_) fun h => ?_
 refine gR 6 rfl ?_
 obtain ⟨b, hxt19_1, h⟩ := h
 refine gY (aG (av hxt19_1) ac rfl rfl rfl rfl) rfl rfl <| gR 1 rfl ?_
 obtain ⟨a, hs149, h⟩ := h
 refine gC hs149 [0] (by kernel_rfl) rfl rfl .rfl ⟨⟨_, rfl, ⟨rfl, rfl, (am _ aa.w (fun _ => rfl) p0).symm⟩⟩, trivial⟩ rfl ?_
 rintro _ _ ⟨rfl, rfl⟩
 refine gHR 2 (List.map aa.w a) rfl (am _ aa.w (fun _ => rfl) a) rfl <| gR 6 rfl ?_
 subst h
 exact go_sub (F' := (mkF 365 0 [(4, .sl 1)])) (H' := ⟨2, [(1, .row 152 2 (List.map aa.w a))]⟩) [1000, 2] [] rfl hK pq1 ⟨⟨_, rfl, rfl, rfl, (am _ aa.w (fun _ => rfl) a).symm⟩, trivial⟩ rfl <| go_endD [] ac (rs := [.tmp 4]) rfl rfl ⟨rfl, rfl⟩
 exact gR 1 rfl <| gJ (h K hK) [0] [] rfl hK pq4 ⟨⟨_, rfl, rfl, rfl, (am _ aa.w (fun _ => rfl) p0).symm⟩, trivial⟩ rfl
theorem iU (m : Nat) (p0 : List aa) (p1 : Tree) (r0 : List aa) (h : ((p1.kind = 18) → jx m p0 p1 r0) ∧ ((p1.kind ≠ 18) → fX m p0 p1 r0)) : fV (m + 1) p0 p1 r0 := by
 intro K hK
 refine gR 6 rfl <| qBeZ 232 233 rfl rfl rfl rfl h (fun h => ?_) fun h => ?_
 exact gR 1 rfl <| gJ (h K hK) [0] [] rfl hK pq3 ⟨⟨_, rfl, rfl, rfl, (am _ aa.w (fun _ => rfl) p0).symm⟩, trivial⟩ rfl
 exact gR 1 rfl <| gJ (h K hK) [0] [] rfl hK pq3 ⟨⟨_, rfl, rfl, rfl, (am _ aa.w (fun _ => rfl) p0).symm⟩, trivial⟩ rfl
theorem nz (m : Nat) (p0 : List aa) (p1 : Tree) (r0 : List aa) (h : ∃ c, ai p1 0 c ∧ (p0 ++ [(aa.mk c [91])]).length ≤ 1000000000 ∧ ∃ a, dr (p0 ++ [(aa.mk c [91])]) p1 0 (p1.kids.length : Int) 2 a ∧ ∃ b, ai p1 1 b ∧ (a ++ [(aa.mk b [93])]).length ≤ 1000000000 ∧ (a ++ [(aa.mk b [93])]) = r0) : jx (m + 1) p0 p1 r0 := by
 intro K hK
 refine gR 4 rfl ?_
 obtain ⟨c, hs150, h⟩ := h
 refine gC0 hs150 (by kernel_rfl) rfl rfl .rfl rfl <| gR 2 rfl ?_
 obtain ⟨hb, h⟩ := h
 refine gDo (.repl 0 (.row 152 2 (List.map aa.w (p0 ++ [(aa.mk c [91])])))) (bu ac rfl rfl rfl rfl rfl (apM aa.w p0 (aa.mk c [91])) (by rw [aY]; exact hb)) (okR rfl) rfl rfl rfl <| gR 4 rfl <| gDs [] 10 10 rfl (by kernel_rfl) (by kernel_rfl) <| gDr [(0, 2), (1, 2), (2, 2), (4, 2)] (by kernel_rfl) rfl rfl ?_
 obtain ⟨a, hs151, h⟩ := h
 refine gDC 3 hs151 [2] (by kernel_rfl) rfl (by kernel_rfl) rfl rfl .rfl ⟨⟨_, rfl, ⟨rfl, rfl, (am _ aa.w (fun _ => rfl) (p0 ++ [(aa.mk c [91])])).symm⟩⟩, trivial⟩ (by kernel_rfl) rfl ?_
 rintro _ _ ⟨rfl, rfl⟩
 refine gHR 4 (List.map aa.w a) rfl (am _ aa.w (fun _ => rfl) a) rfl ?_
 obtain ⟨b, hs152, h⟩ := h
 refine aN 5 hs152 (by kernel_rfl) rfl (by kernel_rfl) rfl rfl .rfl rfl rfl ?_
 refine gDr [(6, 0), (7, 0)] (by kernel_rfl) rfl rfl ?_
 obtain ⟨hb, h⟩ := h
 refine bW 8 (.repl 4 (.row 152 2 (List.map aa.w (a ++ [(aa.mk b [93])])))) rfl (by kernel_rfl) (bu ac rfl rfl rfl rfl rfl (apM aa.w a (aa.mk b [93])) (by rw [aY]; exact hb)) (okR rfl) rfl (by kernel_rfl) rfl rfl ?_
 refine gDr [(9, 0)] (by kernel_rfl) rfl rfl <| gDe (by kernel_rfl) <| gR 4 rfl ?_
 subst h
 exact go_sub (F' := (mkF 365 0 [(4, .sl 1)])) (H' := ⟨2, [(1, .row 152 2 (List.map aa.w (a ++ [(aa.mk b [93])])))]⟩) [1000, 6] [] rfl hK pq1 ⟨⟨_, rfl, rfl, rfl, (am _ aa.w (fun _ => rfl) (a ++ [(aa.mk b [93])])).symm⟩, trivial⟩ rfl <| go_endD [] ac (rs := [.tmp 4]) rfl rfl ⟨rfl, rfl⟩
theorem ji (m : Nat) (p0 : List aa) (p1 : Tree) (r0 : List aa) (h : ((p1.kind = 19) → jC m p0 p1 r0) ∧ ((p1.kind ≠ 19) → ga m p0 p1 r0)) : fX (m + 1) p0 p1 r0 := by
 intro K hK
 refine gR 6 rfl <| qBeZ 249 250 rfl rfl rfl rfl h (fun h => ?_) fun h => ?_
 exact gR 1 rfl <| gJ (h K hK) [0] [] rfl hK pq2 ⟨⟨_, rfl, rfl, rfl, (am _ aa.w (fun _ => rfl) p0).symm⟩, trivial⟩ rfl
 exact gR 1 rfl <| gJ (h K hK) [0] [] rfl hK pq3 ⟨⟨_, rfl, rfl, rfl, (am _ aa.w (fun _ => rfl) p0).symm⟩, trivial⟩ rfl
theorem nE (m : Nat) (p0 : List aa) (p1 : Tree) (r0 : List aa) (h : ∃ g, p1.kids[0]? = some g ∧ ∃ c, ai p1 0 c ∧ (p0 ++ [(aa.mk c [105, 102])]).length ≤ 1000000000 ∧ ∃ a, aj (p0 ++ [(aa.mk c [105, 102])]) g a ∧ ∃ i, p1.kids[1]? = some i ∧ ∃ d, ai p1 1 d ∧ (a ++ [(aa.mk d [116, 104, 101, 110])]).length ≤ 1000000000 ∧ ∃ b, aj (a ++ [(aa.mk d [116, 104, 101, 110])]) i b ∧ ∃ j, p1.kids[2]? = some j ∧ ∃ e, ai p1 2 e ∧ (b ++ [(aa.mk e [101, 108, 115, 101])]).length ≤ 1000000000 ∧ ∃ f, aj (b ++ [(aa.mk e [101, 108, 115, 101])]) j f ∧ f = r0) : jC (m + 1) p0 p1 r0 := by
 intro K hK
 refine gR 1 rfl <| gDs [] 12 12 rfl (by kernel_rfl) (by kernel_rfl) <| gDr [(0, 2), (1, 2), (6, 2), (7, 2)] (by kernel_rfl) rfl rfl ?_
 obtain ⟨g, hxt23_1, h⟩ := h
 refine gYd 8 rfl (by kernel_rfl) (aG (av hxt23_1) ac rfl rfl rfl rfl) rfl rfl <| gDr [(9, 2)] (by kernel_rfl) rfl rfl ?_
 obtain ⟨c, hs153, h⟩ := h
 refine aN 2 hs153 (by kernel_rfl) rfl (by kernel_rfl) rfl rfl .rfl rfl rfl ?_
 refine gDr [(3, 0), (4, 0)] (by kernel_rfl) rfl rfl ?_
 obtain ⟨hb, h⟩ := h
 refine bW 5 (.repl 0 (.row 152 2 (List.map aa.w (p0 ++ [(aa.mk c [105, 102])])))) rfl (by kernel_rfl) (bu ac rfl rfl rfl rfl rfl (apM aa.w p0 (aa.mk c [105, 102])) (by rw [aY]; exact hb)) (okR rfl) rfl (by kernel_rfl) rfl rfl ?_
 obtain ⟨a, hs154, h⟩ := h
 refine gDC 10 hs154 [2] (by kernel_rfl) rfl (by kernel_rfl) rfl rfl .rfl ⟨⟨_, rfl, ⟨rfl, rfl, (am _ aa.w (fun _ => rfl) (p0 ++ [(aa.mk c [105, 102])])).symm⟩⟩, trivial⟩ (by kernel_rfl) rfl ?_
 rintro _ _ ⟨rfl, rfl⟩
 refine gHR 4 (List.map aa.w a) rfl (am _ aa.w (fun _ => rfl) a) rfl <| gDr [(11, 0)] (by kernel_rfl) rfl rfl <| gDe (by kernel_rfl) <| gR 2 rfl <| gDs [] 12 12 rfl (by kernel_rfl) (by kernel_rfl) <| gDr [(0, 2), (1, 2), (6, 2), (7, 2)] (by kernel_rfl) rfl rfl ?_
 obtain ⟨i, hxt23_4, h⟩ := h
 refine gYd 8 rfl (by kernel_rfl) (aG (av hxt23_4) ac rfl rfl rfl rfl) rfl rfl <| gDr [(9, 2)] (by kernel_rfl) rfl rfl ?_
 obtain ⟨d, hs155, h⟩ := h
 refine aN 2 hs155 (by kernel_rfl) rfl (by kernel_rfl) rfl rfl .rfl rfl rfl ?_
 refine gDr [(3, 0), (4, 0)] (by kernel_rfl) rfl rfl ?_
 obtain ⟨hb, h⟩ := h
 refine bW 5 (.repl 4 (.row 152 2 (List.map aa.w (a ++ [(aa.mk d [116, 104, 101, 110])])))) rfl (by kernel_rfl) (bu ac rfl rfl rfl rfl rfl (apM aa.w a (aa.mk d [116, 104, 101, 110])) (by rw [aY]; exact hb)) (okR rfl) rfl (by kernel_rfl) rfl rfl ?_
 obtain ⟨b, hs156, h⟩ := h
 refine gDC 10 hs156 [6] (by kernel_rfl) rfl (by kernel_rfl) rfl rfl .rfl ⟨⟨_, rfl, ⟨rfl, rfl, (am _ aa.w (fun _ => rfl) (a ++ [(aa.mk d [116, 104, 101, 110])])).symm⟩⟩, trivial⟩ (by kernel_rfl) rfl ?_
 rintro _ _ ⟨rfl, rfl⟩
 refine gHR 8 (List.map aa.w b) rfl (am _ aa.w (fun _ => rfl) b) rfl <| gDr [(11, 0)] (by kernel_rfl) rfl rfl <| gDe (by kernel_rfl) <| gR 2 rfl <| gDs [] 12 12 rfl (by kernel_rfl) (by kernel_rfl) <| gDr [(0, 2), (1, 2), (6, 2), (7, 2)] (by kernel_rfl) rfl rfl ?_
 obtain ⟨j, hxt23_7, h⟩ := h
 refine gYd 8 rfl (by kernel_rfl) (aG (av hxt23_7) ac rfl rfl rfl rfl) rfl rfl <| gDr [(9, 2)] (by kernel_rfl) rfl rfl ?_
 obtain ⟨e, hs157, h⟩ := h
 refine aN 2 hs157 (by kernel_rfl) rfl (by kernel_rfl) rfl rfl .rfl rfl rfl ?_
 refine gDr [(3, 0), (4, 0)] (by kernel_rfl) rfl rfl ?_
 obtain ⟨hb, h⟩ := h
 refine bW 5 (.repl 8 (.row 152 2 (List.map aa.w (b ++ [(aa.mk e [101, 108, 115, 101])])))) rfl (by kernel_rfl) (bu ac rfl rfl rfl rfl rfl (apM aa.w b (aa.mk e [101, 108, 115, 101])) (by rw [aY]; exact hb)) (okR rfl) rfl (by kernel_rfl) rfl rfl ?_
 obtain ⟨f, hs158, h⟩ := h
 refine gDC 10 hs158 [10] (by kernel_rfl) rfl (by kernel_rfl) rfl rfl .rfl ⟨⟨_, rfl, ⟨rfl, rfl, (am _ aa.w (fun _ => rfl) (b ++ [(aa.mk e [101, 108, 115, 101])])).symm⟩⟩, trivial⟩ (by kernel_rfl) rfl ?_
 rintro _ _ ⟨rfl, rfl⟩
 refine gHR 12 (List.map aa.w f) rfl (am _ aa.w (fun _ => rfl) f) rfl <| gDr [(11, 0)] (by kernel_rfl) rfl rfl <| gDe (by kernel_rfl) <| gR 4 rfl ?_
 subst h
 exact go_sub (F' := (mkF 365 0 [(4, .sl 1)])) (H' := ⟨2, [(1, .row 152 2 (List.map aa.w f))]⟩) [1000, 12] [] rfl hK pq1 ⟨⟨_, rfl, rfl, rfl, (am _ aa.w (fun _ => rfl) f).symm⟩, trivial⟩ rfl <| go_endD [] ac (rs := [.tmp 4]) rfl rfl ⟨rfl, rfl⟩
theorem jc (m : Nat) (p0 : List aa) (p1 : Tree) (r0 : List aa) (h : ((p1.kind = 20) → jy m p0 p1 r0) ∧ ((p1.kind ≠ 20) → fZ m p0 p1 r0)) : ga (m + 1) p0 p1 r0 := by
 intro K hK
 refine gR 6 rfl <| qBeZ 284 285 rfl rfl rfl rfl h (fun h => ?_) fun h => ?_
 exact gR 1 rfl <| gJ (h K hK) [0] [] rfl hK pq2 ⟨⟨_, rfl, rfl, rfl, (am _ aa.w (fun _ => rfl) p0).symm⟩, trivial⟩ rfl
 exact gR 1 rfl <| gJ (h K hK) [0] [] rfl hK pq3 ⟨⟨_, rfl, rfl, rfl, (am _ aa.w (fun _ => rfl) p0).symm⟩, trivial⟩ rfl
theorem nq (m : Nat) (p0 : List aa) (p1 : Tree) (r0 : List aa) (h : ∃ b, ai p1 0 b ∧ ∃ c, ai p1 1 c ∧ ∃ d, ai p1 2 d ∧ (p0 ++ [(aa.mk b [108, 101, 116]), (aa.mk c p1.text), (aa.mk d [61])]).length ≤ 1000000000 ∧ ∃ i, p1.kids[0]? = some i ∧ ∃ a, aj (p0 ++ [(aa.mk b [108, 101, 116]), (aa.mk c p1.text), (aa.mk d [61])]) i a ∧ ∃ e, ai p1 3 e ∧ (a ++ [(aa.mk e [105, 110])]).length ≤ 1000000000 ∧ ∃ j, p1.kids[1]? = some j ∧ ∃ g, aj (a ++ [(aa.mk e [105, 110])]) j g ∧ g = r0) : jy (m + 1) p0 p1 r0 := by
 intro K hK
 refine gR 1 rfl <| gDs [] 15 15 rfl (by kernel_rfl) (by kernel_rfl) <| gDr [(0, 2), (1, 2), (4, 2), (6, 2), (7, 2), (9, 2)] (by kernel_rfl) rfl rfl ?_
 obtain ⟨b, hs159, h⟩ := h
 refine aN 2 hs159 (by kernel_rfl) rfl (by kernel_rfl) rfl rfl .rfl rfl rfl ?_
 refine gDr [(3, 2)] (by kernel_rfl) rfl rfl ?_
 obtain ⟨c, hs160, h⟩ := h
 refine aN 5 hs160 (by kernel_rfl) rfl (by kernel_rfl) rfl rfl .rfl rfl rfl ?_
 refine gDr [(8, 2)] (by kernel_rfl) rfl rfl ?_
 obtain ⟨d, hs161, h⟩ := h
 refine aN 10 hs161 (by kernel_rfl) rfl (by kernel_rfl) rfl rfl .rfl rfl rfl ?_
 refine gDr [(11, 0), (12, 0)] (by kernel_rfl) rfl rfl ?_
 obtain ⟨hb, h⟩ := h
 refine bW 13 (.repl 0 (.row 152 2 (List.map aa.w (p0 ++ [(aa.mk b [108, 101, 116]), (aa.mk c p1.text), (aa.mk d [61])])))) rfl (by kernel_rfl) (bu ac rfl rfl rfl rfl rfl (List.map_append (f := aa.w) (l₁ := p0) (l₂ := [(aa.mk b [108, 101, 116]), (aa.mk c p1.text), (aa.mk d [61])])).symm (by rw [aY]; exact hb)) (okR rfl) rfl (by kernel_rfl) rfl rfl ?_
 refine gDr [(14, 0)] (by kernel_rfl) rfl rfl <| gDe (by kernel_rfl) <| gR 2 rfl <| gDs [] 12 12 rfl (by kernel_rfl) (by kernel_rfl) <| gDr [(0, 2), (1, 2), (2, 2)] (by kernel_rfl) rfl rfl ?_
 obtain ⟨i, hxt25_4, h⟩ := h
 refine gYd 3 rfl (by kernel_rfl) (aG (av hxt25_4) ac rfl rfl rfl rfl) rfl rfl <| gDr [(4, 2), (6, 2)] (by kernel_rfl) rfl rfl ?_
 obtain ⟨a, hs162, h⟩ := h
 refine gDC 5 hs162 [2] (by kernel_rfl) rfl (by kernel_rfl) rfl rfl .rfl ⟨⟨_, rfl, ⟨rfl, rfl, (am _ aa.w (fun _ => rfl) (p0 ++ [(aa.mk b [108, 101, 116]), (aa.mk c p1.text), (aa.mk d [61])])).symm⟩⟩, trivial⟩ (by kernel_rfl) rfl ?_
 rintro _ _ ⟨rfl, rfl⟩
 refine gHR 4 (List.map aa.w a) rfl (am _ aa.w (fun _ => rfl) a) rfl ?_
 obtain ⟨e, hs163, h⟩ := h
 refine aN 7 hs163 (by kernel_rfl) rfl (by kernel_rfl) rfl rfl .rfl rfl rfl ?_
 refine gDr [(8, 0), (9, 0)] (by kernel_rfl) rfl rfl ?_
 obtain ⟨hb, h⟩ := h
 refine bW 10 (.repl 4 (.row 152 2 (List.map aa.w (a ++ [(aa.mk e [105, 110])])))) rfl (by kernel_rfl) (bu ac rfl rfl rfl rfl rfl (apM aa.w a (aa.mk e [105, 110])) (by rw [aY]; exact hb)) (okR rfl) rfl (by kernel_rfl) rfl rfl ?_
 refine gDr [(11, 0)] (by kernel_rfl) rfl rfl <| gDe (by kernel_rfl) <| gR 6 rfl ?_
 obtain ⟨j, hxt25_7, h⟩ := h
 refine gY (aG (av hxt25_7) ac rfl rfl rfl rfl) rfl rfl <| gR 1 rfl ?_
 obtain ⟨g, hs164, h⟩ := h
 refine gC hs164 [6] (by kernel_rfl) rfl rfl .rfl ⟨⟨_, rfl, ⟨rfl, rfl, (am _ aa.w (fun _ => rfl) (a ++ [(aa.mk e [105, 110])])).symm⟩⟩, trivial⟩ rfl ?_
 rintro _ _ ⟨rfl, rfl⟩
 refine gHR 8 (List.map aa.w g) rfl (am _ aa.w (fun _ => rfl) g) rfl <| gR 6 rfl ?_
 subst h
 exact go_sub (F' := (mkF 365 0 [(4, .sl 1)])) (H' := ⟨2, [(1, .row 152 2 (List.map aa.w g))]⟩) [1000, 8] [] rfl hK pq1 ⟨⟨_, rfl, rfl, rfl, (am _ aa.w (fun _ => rfl) g).symm⟩, trivial⟩ rfl <| go_endD [] ac (rs := [.tmp 4]) rfl rfl ⟨rfl, rfl⟩
theorem ja (m : Nat) (p0 : List aa) (p1 : Tree) (r0 : List aa) (h : ((p1.kind = 21) → js m p0 p1 r0) ∧ ((p1.kind ≠ 21) → gj m p0 p1 r0)) : fZ (m + 1) p0 p1 r0 := by
 intro K hK
 refine gR 6 rfl <| qBeZ 317 318 rfl rfl rfl rfl h (fun h => ?_) fun h => ?_
 exact gR 1 rfl <| gJ (h K hK) [0] [] rfl hK pq2 ⟨⟨_, rfl, rfl, rfl, (am _ aa.w (fun _ => rfl) p0).symm⟩, trivial⟩ rfl
 exact gR 1 rfl <| gJ (h K hK) [0] [] rfl hK pq3 ⟨⟨_, rfl, rfl, rfl, (am _ aa.w (fun _ => rfl) p0).symm⟩, trivial⟩ rfl
theorem nC (m : Nat) (p0 : List aa) (p1 : Tree) (r0 : List aa) (h : ∃ d, p1.kids[0]? = some d ∧ ∃ a, aj p0 d a ∧ ∃ b, ai p1 0 b ∧ (a ++ [(aa.mk b p1.text)]).length ≤ 1000000000 ∧ ∃ e, p1.kids[1]? = some e ∧ ∃ c, aj (a ++ [(aa.mk b p1.text)]) e c ∧ c = r0) : js (m + 1) p0 p1 r0 := by
 intro K hK
 refine gR 1 rfl <| gDs [] 14 14 rfl (by kernel_rfl) (by kernel_rfl) <| gDr [(0, 2), (1, 2), (2, 2)] (by kernel_rfl) rfl rfl ?_
 obtain ⟨d, hxt27_1, h⟩ := h
 refine gYd 3 rfl (by kernel_rfl) (aG (av hxt27_1) ac rfl rfl rfl rfl) rfl rfl <| gDr [(4, 2), (6, 2), (8, 2), (9, 2)] (by kernel_rfl) rfl rfl ?_
 obtain ⟨a, hs165, h⟩ := h
 refine gDC 5 hs165 [0] (by kernel_rfl) rfl (by kernel_rfl) rfl rfl .rfl ⟨⟨_, rfl, ⟨rfl, rfl, (am _ aa.w (fun _ => rfl) p0).symm⟩⟩, trivial⟩ (by kernel_rfl) rfl ?_
 rintro _ _ ⟨rfl, rfl⟩
 refine gHR 2 (List.map aa.w a) rfl (am _ aa.w (fun _ => rfl) a) rfl ?_
 obtain ⟨b, hs166, h⟩ := h
 refine aN 7 hs166 (by kernel_rfl) rfl (by kernel_rfl) rfl rfl .rfl rfl rfl ?_
 refine gDr [(10, 0), (11, 0)] (by kernel_rfl) rfl rfl ?_
 obtain ⟨hb, h⟩ := h
 refine bW 12 (.repl 2 (.row 152 2 (List.map aa.w (a ++ [(aa.mk b p1.text)])))) rfl (by kernel_rfl) (bu ac rfl rfl rfl rfl rfl (apM aa.w a (aa.mk b p1.text)) (by rw [aY]; exact hb)) (okR rfl) rfl (by kernel_rfl) rfl rfl ?_
 refine gDr [(13, 0)] (by kernel_rfl) rfl rfl <| gDe (by kernel_rfl) <| gR 6 rfl ?_
 obtain ⟨e, hxt27_4, h⟩ := h
 refine gY (aG (av hxt27_4) ac rfl rfl rfl rfl) rfl rfl <| gR 1 rfl ?_
 obtain ⟨c, hs167, h⟩ := h
 refine gC hs167 [4] (by kernel_rfl) rfl rfl .rfl ⟨⟨_, rfl, ⟨rfl, rfl, (am _ aa.w (fun _ => rfl) (a ++ [(aa.mk b p1.text)])).symm⟩⟩, trivial⟩ rfl ?_
 rintro _ _ ⟨rfl, rfl⟩
 refine gHR 6 (List.map aa.w c) rfl (am _ aa.w (fun _ => rfl) c) rfl <| gR 6 rfl ?_
 subst h
 exact go_sub (F' := (mkF 365 0 [(4, .sl 1)])) (H' := ⟨2, [(1, .row 152 2 (List.map aa.w c))]⟩) [1000, 6] [] rfl hK pq1 ⟨⟨_, rfl, rfl, rfl, (am _ aa.w (fun _ => rfl) c).symm⟩, trivial⟩ rfl <| go_endD [] ac (rs := [.tmp 4]) rfl rfl ⟨rfl, rfl⟩
theorem jg (m : Nat) (p0 : List aa) (p1 : Tree) (r0 : List aa) (h : ((p1.kind = 22) → jD m p0 p1 r0) ∧ ((p1.kind ≠ 22) → ∃ a, ai p1 0 a ∧ (p0 ++ [(aa.mk a p1.text)]).length ≤ 1000000000 ∧ (p0 ++ [(aa.mk a p1.text)]) = r0)) : gj (m + 1) p0 p1 r0 := by
 intro K hK
 refine gR 6 rfl <| qBeZ 338 339 rfl rfl rfl rfl h (fun h => ?_) fun h => ?_
 exact gR 1 rfl <| gJ (h K hK) [0] [] rfl hK pq2 ⟨⟨_, rfl, rfl, rfl, (am _ aa.w (fun _ => rfl) p0).symm⟩, trivial⟩ rfl
 refine gR 5 rfl <| gDs [] 9 9 rfl (by kernel_rfl) (by kernel_rfl) <| gDr [(0, 2), (1, 2), (3, 2), (4, 2)] (by kernel_rfl) rfl rfl ?_
 obtain ⟨a, hs168, h⟩ := h
 refine aN 2 hs168 (by kernel_rfl) rfl (by kernel_rfl) rfl rfl .rfl rfl rfl ?_
 refine gDr [(5, 0), (6, 0)] (by kernel_rfl) rfl rfl ?_
 obtain ⟨hb, h⟩ := h
 refine bW 7 (.repl 0 (.row 152 2 (List.map aa.w (p0 ++ [(aa.mk a p1.text)])))) rfl (by kernel_rfl) (bu ac rfl rfl rfl rfl rfl (apM aa.w p0 (aa.mk a p1.text)) (by rw [aY]; exact hb)) (okR rfl) rfl (by kernel_rfl) rfl rfl ?_
 refine gDr [(8, 0)] (by kernel_rfl) rfl rfl <| gDe (by kernel_rfl) <| gR 2 rfl ?_
 subst h
 exact go_sub (F' := (mkF 365 0 [(4, .sl 1)])) (H' := ⟨2, [(1, .row 152 2 (List.map aa.w (p0 ++ [(aa.mk a p1.text)])))]⟩) [1000, 2] [] rfl hK pq1 ⟨⟨_, rfl, rfl, rfl, (am _ aa.w (fun _ => rfl) (p0 ++ [(aa.mk a p1.text)])).symm⟩, trivial⟩ rfl <| go_endD [] ac (rs := [.tmp 4]) rfl rfl ⟨rfl, rfl⟩
theorem nr (m : Nat) (p0 : List aa) (p1 : Tree) (r0 : List aa) (h : ∃ c, ai p1 0 c ∧ (p0 ++ [(aa.mk c [40])]).length ≤ 1000000000 ∧ ∃ d, p1.kids[0]? = some d ∧ ∃ a, aj (p0 ++ [(aa.mk c [40])]) d a ∧ ∃ b, ai p1 1 b ∧ (a ++ [(aa.mk b [41])]).length ≤ 1000000000 ∧ (a ++ [(aa.mk b [41])]) = r0) : jD (m + 1) p0 p1 r0 := by
 intro K hK
 refine gR 4 rfl ?_
 obtain ⟨c, hs169, h⟩ := h
 refine gC0 hs169 (by kernel_rfl) rfl rfl .rfl rfl <| gR 2 rfl ?_
 obtain ⟨hb, h⟩ := h
 refine gDo (.repl 0 (.row 152 2 (List.map aa.w (p0 ++ [(aa.mk c [40])])))) (bu ac rfl rfl rfl rfl rfl (apM aa.w p0 (aa.mk c [40])) (by rw [aY]; exact hb)) (okR rfl) rfl rfl rfl <| gR 4 rfl <| gDs [] 12 12 rfl (by kernel_rfl) (by kernel_rfl) <| gDr [(0, 2), (1, 2), (2, 2)] (by kernel_rfl) rfl rfl ?_
 obtain ⟨d, hxt29_2, h⟩ := h
 refine gYd 3 rfl (by kernel_rfl) (aG (av hxt29_2) ac rfl rfl rfl rfl) rfl rfl <| gDr [(4, 2), (6, 2)] (by kernel_rfl) rfl rfl ?_
 obtain ⟨a, hs170, h⟩ := h
 refine gDC 5 hs170 [2] (by kernel_rfl) rfl (by kernel_rfl) rfl rfl .rfl ⟨⟨_, rfl, ⟨rfl, rfl, (am _ aa.w (fun _ => rfl) (p0 ++ [(aa.mk c [40])])).symm⟩⟩, trivial⟩ (by kernel_rfl) rfl ?_
 rintro _ _ ⟨rfl, rfl⟩
 refine gHR 4 (List.map aa.w a) rfl (am _ aa.w (fun _ => rfl) a) rfl ?_
 obtain ⟨b, hs171, h⟩ := h
 refine aN 7 hs171 (by kernel_rfl) rfl (by kernel_rfl) rfl rfl .rfl rfl rfl ?_
 refine gDr [(8, 0), (9, 0)] (by kernel_rfl) rfl rfl ?_
 obtain ⟨hb, h⟩ := h
 refine bW 10 (.repl 4 (.row 152 2 (List.map aa.w (a ++ [(aa.mk b [41])])))) rfl (by kernel_rfl) (bu ac rfl rfl rfl rfl rfl (apM aa.w a (aa.mk b [41])) (by rw [aY]; exact hb)) (okR rfl) rfl (by kernel_rfl) rfl rfl ?_
 refine gDr [(11, 0)] (by kernel_rfl) rfl rfl <| gDe (by kernel_rfl) <| gR 4 rfl ?_
 subst h
 exact go_sub (F' := (mkF 365 0 [(4, .sl 1)])) (H' := ⟨2, [(1, .row 152 2 (List.map aa.w (a ++ [(aa.mk b [41])])))]⟩) [1000, 6] [] rfl hK pq1 ⟨⟨_, rfl, rfl, rfl, (am _ aa.w (fun _ => rfl) (a ++ [(aa.mk b [41])])).symm⟩, trivial⟩ rfl <| go_endD [] ac (rs := [.tmp 4]) rfl rfl ⟨rfl, rfl⟩
def dQ (m : Nat) (p1 : Tree) (p2 p3 p4 : Int) (a : List aa) (b : Int) (r0 : List aa) : Prop := ∀ (K : Ctx) (j1 : Nat), aq K [] → m ≤ j1 → qLG K Tryz.f173 (fun u G => u = .sl 1 ∧ G = ⟨2, [(1, .row 152 2 (List.map aa.w r0))]⟩) (cL (xN (ae Tryz.f173))) [.loop (cL (xN (ae Tryz.f173))) j1, .blk 0, .seq (xA (ae Tryz.f173))] 41 (mkF 41 0 [(0, .sl 0), (2, .int .i64 p2), (3, .int .i64 p3), (4, .int .i64 p4), (6, .box (an p1) 0), (11, .int .i64 b)]) ⟨1, [(0, .row 152 2 (List.map aa.w a))]⟩
theorem qM (m : Nat) (p0 : List aa) (p1 : Tree) (p2 p3 p4 : Int) (r0 : List aa) (h : dQ m p1 p2 p3 p4 p0 p2 r0) : dr p0 p1 p2 p3 p4 r0 := by
 refine ak 41 [] Tryz.func173 rfl rfl rfl (az rfl) fun K hK => ?_
 exact gR 3 rfl <| gFP 1 rfl rfl rfl rfl <| gR 11 rfl <| go_loop m <| gJ (h K _ hK (by omega)) [0] [] rfl hK pq6 ⟨⟨_, rfl, rfl, rfl, (am _ aa.w (fun _ => rfl) p0).symm⟩, trivial⟩ rfl
theorem ff (m : Nat) (p1 : Tree) (p2 p3 p4 : Int) (b : List aa) (a : Int) (r0 : List aa) (h : ((a < p3) → ((p2 < a) → InI (p4 + a) ∧ InI ((p4 + a) - p2) ∧ InI (((p4 + a) - p2) - 1) ∧ ∃ c, ai p1 (((p4 + a) - p2) - 1) c ∧ (b ++ [(aa.mk c [44])]).length ≤ 1000000000 ∧ ∃ f, a = ((f : Nat) : Int) ∧ ∃ i, p1.kids[f]? = some i ∧ ∃ d, aj (b ++ [(aa.mk c [44])]) i d ∧ InI (a + 1) ∧ dQ m p1 p2 p3 p4 d (a + 1) r0) ∧ ((¬ p2 < a) → ∃ g, a = ((g : Nat) : Int) ∧ ∃ k, p1.kids[g]? = some k ∧ ∃ e, aj b k e ∧ InI (a + 1) ∧ dQ m p1 p2 p3 p4 e (a + 1) r0)) ∧ ((¬ a < p3) → b = r0)) : dQ (m + 1) p1 p2 p3 p4 b a r0 := by
 intro K j1 hK hj1
 obtain ⟨j1, rfl⟩ : ∃ j, j1 = j + 1 := ⟨j1 - 1, by omega⟩
 refine gR 8 rfl <| gB 15 rfl rfl rfl ?_ ?_ <;> intro hd
 replace hd := (of_decide_eq_true hd)
 replace h := h.1 hd
 refine gR 13 rfl <| gB 20 rfl rfl rfl ?_ ?_ <;> intro hd
 replace hd := (of_decide_eq_true hd)
 replace h := h.1 hd
 refine gR 6 rfl ?_
 obtain ⟨hb, h⟩ := h
 refine gR 1 rfl <| gV 25 (.int .i64 (p4 + a)) rfl (ao hb rfl) rfl <| gR 1 rfl ?_
 obtain ⟨hb, h⟩ := h
 refine gR 1 rfl <| gV 27 (.int .i64 ((p4 + a) - p2)) rfl (ao hb rfl) rfl ?_
 obtain ⟨hb, h⟩ := h
 refine gR 1 rfl <| gV 28 (.int .i64 (((p4 + a) - p2) - 1)) rfl (ao hb rfl) rfl ?_
 obtain ⟨c, hs7, h⟩ := h
 refine gC0 hs7 (by kernel_rfl) rfl rfl .rfl rfl <| gR 2 rfl ?_
 obtain ⟨hb, h⟩ := h
 refine gDo (.repl 0 (.row 152 2 (List.map aa.w (b ++ [(aa.mk c [44])])))) (bu ac rfl rfl rfl rfl rfl (apM aa.w b (aa.mk c [44])) (by rw [aY]; exact hb)) (okR rfl) rfl rfl rfl <| gR 8 rfl ?_
 obtain ⟨f, l, h⟩ := h
 refine gV 36 (.int .i64 ((f : Nat) : Int)) rfl (cO l) rfl ?_
 obtain ⟨i, hxt1_3, h⟩ := h
 refine gY (aG (av hxt1_3) ac rfl rfl rfl rfl) rfl rfl <| gR 1 rfl ?_
 obtain ⟨d, hs8, h⟩ := h
 refine gC hs8 [2] (by kernel_rfl) rfl rfl .rfl ⟨⟨_, rfl, ⟨rfl, rfl, (am _ aa.w (fun _ => rfl) (b ++ [(aa.mk c [44])])).symm⟩⟩, trivial⟩ rfl ?_
 rintro _ _ ⟨rfl, rfl⟩
 refine gHR 4 (List.map aa.w d) rfl (am _ aa.w (fun _ => rfl) d) rfl <| gR 6 rfl ?_
 obtain ⟨hb, h⟩ := h
 exact gR 1 rfl <| gV 17 (.int .i64 (a + 1)) rfl (ao hb rfl) rfl <| gR 2 rfl <| go_xloop <| gJ (h K _ hK (by omega)) [4] [] rfl hK pq6 ⟨⟨_, rfl, rfl, rfl, (am _ aa.w (fun _ => rfl) d).symm⟩, trivial⟩ rfl
 replace hd := (of_decide_eq_false hd)
 replace h := h.2 hd
 refine gR 8 rfl ?_
 obtain ⟨g, n, h⟩ := h
 refine gV 36 (.int .i64 ((g : Nat) : Int)) rfl (cO n) rfl ?_
 obtain ⟨k, hxt1_6, h⟩ := h
 refine gY (aG (av hxt1_6) ac rfl rfl rfl rfl) rfl rfl <| gR 1 rfl ?_
 obtain ⟨e, hs9, h⟩ := h
 refine gC hs9 [0] (by kernel_rfl) rfl rfl .rfl ⟨⟨_, rfl, ⟨rfl, rfl, (am _ aa.w (fun _ => rfl) b).symm⟩⟩, trivial⟩ rfl ?_
 rintro _ _ ⟨rfl, rfl⟩
 refine gHR 2 (List.map aa.w e) rfl (am _ aa.w (fun _ => rfl) e) rfl <| gR 6 rfl ?_
 obtain ⟨hb, h⟩ := h
 exact gR 1 rfl <| gV 17 (.int .i64 (a + 1)) rfl (ao hb rfl) rfl <| gR 2 rfl <| go_xloop <| gJ (h K _ hK (by omega)) [2] [] rfl hK pq6 ⟨⟨_, rfl, rfl, rfl, (am _ aa.w (fun _ => rfl) e).symm⟩, trivial⟩ rfl
 replace hd := (of_decide_eq_false hd)
 replace h := h.2 hd
 refine gR 3 rfl <| go_xloopE <| gR 9 rfl ?_
 subst h
 exact go_sub (F' := (mkF 41 0 [(10, .sl 1)])) (H' := ⟨2, [(1, .row 152 2 (List.map aa.w b))]⟩) [1000, 0] [] rfl hK pq1 ⟨⟨_, rfl, rfl, rfl, (am _ aa.w (fun _ => rfl) b).symm⟩, trivial⟩ rfl <| go_endD [] ac (rs := [.tmp 10]) rfl rfl ⟨rfl, rfl⟩
theorem lE (m : Nat) (p0 : Tree) (p1 : Int) (r0 : List UInt8) (h : ((p1 < (p0.leads.length : Int)) → ∃ a, p1 = ((a : Nat) : Int) ∧ ∃ b, p0.leads[a]? = some b ∧ b = r0) ∧ ((¬ p1 < (p0.leads.length : Int)) → [] = r0)) : ai p0 p1 r0 := by
 refine ⟨rfl, rfl, ?_⟩
 refine ak 15 [] Tryz.func172 rfl rfl rfl (az rfl) fun K hK => ?_
 refine gR 3 rfl <| gFP 0 rfl rfl rfl rfl <| gR 10 rfl <| gV 8 (.int .i64 (p0.leads.length : Int)) rfl (aO (aY V.str _)) rfl <| gLB 7 rfl (aY V.str _) fun hl2 => gR 3 rfl <| qBd 9 rfl rfl rfl h (fun h => ?_) fun h => ?_
 refine gR 6 rfl ?_
 obtain ⟨a, c, h⟩ := h
 refine gV 12 (.int .i64 ((a : Nat) : Int)) rfl (cO c) rfl ?_
 obtain ⟨b, hxs0_2, h⟩ := h
 refine gY (aG (mapget (f := V.str) hxs0_2) ac rfl rfl rfl rfl) rfl rfl <| gR 6 rfl ?_
 subst h
 exact go_end ac (rs := [.tmp 4]) rfl rfl rfl
 refine gR 9 rfl ?_
 subst h
 exact go_end ac (rs := [.tmp 4]) rfl rfl rfl
end Go.Proofs.YthnohcipianijaaGreatDoor
namespace Go.Proofs.YthnohcipianijaaGreatDoor
open Go.RowKit Lx Sx
set_option maxRecDepth 100000
set_option maxHeartbeats 4000000
def aM (r0 : Bool) : Prop := qS 13 [] (.bool r0)
def rT (p0 : List UInt8) (r0 : Tree) (r1 r2 : Int) : Prop := qS 27 [.str p0] (.tup [.agg (an r0), .int .i64 r1, .int .i64 r2])
def kw (r0 : Bool) : Prop := qS 13 [] (.bool r0)
def jv (m : Nat) (a : Tree) (b : Int) (d : GDatum) (e f : Int) (r0 : Bool) : Prop := ∀ (K : Ctx), aq K [] → Go Tryz.prog K (bodyPost Tryz.prog Tryz.f13 (SP K (fun u _ => u = .bool r0))) (.ex .normal) [.seq (xH (ae Tryz.f13))] 60 (mkF 60 0 [(1, .ptr 0 0), (3, .int .i64 b), (4, .ptr 1 0), (5, .int .i64 e), (6, .int .i64 f)]) ⟨2, [(1, .var 24 (GDatum.c d)), (0, .var 35 (an a))]⟩
def jB (m : Nat) (a : Int) (b : GDatum) (d e f g : Int) (r0 : Bool) : Prop := ∀ (K : Ctx), aq K [] → Go Tryz.prog K (bodyPost Tryz.prog Tryz.f13 (SP K (fun u _ => u = .bool r0))) (.ex .normal) [.seq (xJ (ae Tryz.f13))] 60 (mkF 60 0 [(3, .int .i64 a), (4, .ptr 0 0), (5, .int .i64 d), (6, .int .i64 e), (8, .int .i64 f), (9, .int .i64 g)]) ⟨1, [(0, .var 24 (GDatum.c b))]⟩
theorem oc (m : Nat) (r0 : Bool) (h : ∃ b g f, rT [109, 111, 100, 117, 108, 101, 32, 77, 32, 100, 101, 102, 32, 102, 40, 110, 58, 32, 73, 110, 116, 41, 58, 32, 73, 110, 116, 32, 61, 32, 105, 102, 32, 110, 32, 60, 32, 49, 32, 116, 104, 101, 110, 32, 48, 32, 101, 108, 115, 101, 32, 110, 32, 43, 32, 102, 40, 110, 32, 45, 32, 49, 41] b g f ∧ ∃ a, dm 2 a ∧ ∃ c d e, fL [b] 0 0 [a] 100 c d e ∧ jv m b f c d e r0) : kw r0 := by
 refine ⟨rfl, rfl, ?_⟩
 refine ak 60 [] Tryz.func13 rfl rfl rfl (az rfl) fun K hK => ?_
 refine gR 7 rfl ?_
 obtain ⟨b, g, f, hs61, h⟩ := h
 refine gC0 hs61 (by kernel_rfl) rfl rfl .rfl rfl <| gR 11 rfl <| gDs [0] 10 13 rfl (by kernel_rfl) (by kernel_rfl) <| gDr [(0, 3)] (by kernel_rfl) rfl rfl ?_
 obtain ⟨a, hs62, h⟩ := h
 apply tm (i := 1) (j := 2) (l := 9) (by kernel_rfl) rfl rfl rfl rfl rfl rfl
 exact (ay ac rfl rfl)
 exact (bL (L' := [0]) (by kernel_rfl) rfl rfl (gk hs62 .rfl [0] rfl) (.inl rfl))
 exact (ay ac rfl rfl)
 refine gHR 1 (kidsV [b]) rfl (cI b) rfl ?_
 apply be (i := 2) (j := 9) (by kernel_rfl) rfl rfl rfl rfl
 exact (bL (L' := [0]) (by kernel_rfl) rfl rfl (gk hs62 .rfl [0] rfl) (.inl rfl))
 exact (ay ac rfl rfl)
 apply be (i := 3) (j := 9) (by kernel_rfl) rfl rfl rfl rfl
 exact (ay ac rfl rfl)
 exact (ay ac rfl rfl)
 refine gHR 2 (GDatum.vs [a]) rfl (GDatum.vone a) rfl <| gFR 1 rfl (aU _) rfl rfl <| gFR 2 rfl (GDatum.vpure _) rfl rfl ?_
 obtain ⟨c, d, e, hs63, h⟩ := h
 apply be (i := 4) (j := 9) (by kernel_rfl) rfl rfl rfl rfl
 exact (bL (L' := [0]) (by kernel_rfl) rfl rfl (gk hs63 .rfl [0] rfl) (.inl rfl))
 exact (ay ac rfl rfl)
 exact gDr [(5, 2), (6, 2), (7, 2), (8, 2), (9, 0), (10, 1), (11, 1), (12, 1)] (by kernel_rfl) rfl rfl <| gDe (by kernel_rfl) <| gJ (h K hK) [0, 3] [] rfl hK pq5 (pqo2 rfl rfl rfl rfl) rfl
 refine aN 4 hs63 (by kernel_rfl) rfl (by kernel_rfl) rfl rfl .rfl rfl rfl ?_
 exact gDr [(5, 0), (6, 2), (7, 2), (8, 2), (10, 1), (11, 1), (12, 1)] (by kernel_rfl) rfl rfl <| gDe (by kernel_rfl) <| gJ (h K hK) [0, 3] [] rfl hK pq5 (pqo2 rfl rfl rfl rfl) rfl
 refine gDr [(3, 0)] (by kernel_rfl) rfl rfl <| gHR 3 (GDatum.vs [a]) rfl (GDatum.vone a) rfl <| gFR 1 rfl (aU _) rfl rfl <| gFR 3 rfl (GDatum.vpure _) rfl rfl ?_
 obtain ⟨c, d, e, hs64, h⟩ := h
 refine aN 4 hs64 (by kernel_rfl) rfl (by kernel_rfl) rfl rfl .rfl rfl rfl ?_
 exact gDr [(5, 0), (6, 2), (7, 2), (8, 2), (10, 1), (11, 1), (12, 1)] (by kernel_rfl) rfl rfl <| gDe (by kernel_rfl) <| gJ (h K hK) [0, 2] [] rfl hK pq5 (pqo2 rfl rfl rfl rfl) rfl
 refine aN 2 hs62 (by kernel_rfl) rfl (by kernel_rfl) rfl rfl .rfl rfl rfl ?_
 refine gDr [(3, 0)] (by kernel_rfl) rfl rfl <| gHR 3 (GDatum.vs [a]) rfl (GDatum.vone a) rfl <| gFR 1 rfl (aU _) rfl rfl <| gFR 3 rfl (GDatum.vpure _) rfl rfl ?_
 obtain ⟨c, d, e, hs65, h⟩ := h
 refine aN 4 hs65 (by kernel_rfl) rfl (by kernel_rfl) rfl rfl .rfl rfl rfl ?_
 exact gDr [(5, 0), (6, 2), (7, 2), (8, 2), (10, 1), (11, 1), (12, 1)] (by kernel_rfl) rfl rfl <| gDe (by kernel_rfl) <| gJ (h K hK) [0, 2] [] rfl hK pq5 (pqo2 rfl rfl rfl rfl) rfl
 apply tm (i := 1) (j := 3) (l := 9) (by kernel_rfl) rfl rfl rfl rfl rfl rfl
 exact (ay ac rfl rfl)
 exact (ay ac rfl rfl)
 exact (ay ac rfl rfl)
 refine gHR 1 (kidsV [b]) rfl (cI b) rfl ?_
 apply be (i := 3) (j := 9) (by kernel_rfl) rfl rfl rfl rfl
 exact (ay ac rfl rfl)
 exact (ay ac rfl rfl)
 refine gHR 2 (GDatum.vs [a]) rfl (GDatum.vone a) rfl <| gFR 1 rfl (aU _) rfl rfl <| gFR 2 rfl (GDatum.vpure _) rfl rfl ?_
 obtain ⟨c, d, e, hs66, h⟩ := h
 apply be (i := 4) (j := 9) (by kernel_rfl) rfl rfl rfl rfl
 exact (bL (L' := [0]) (by kernel_rfl) rfl rfl (gk hs66 .rfl [0] rfl) (.inl rfl))
 exact (ay ac rfl rfl)
 exact gDr [(5, 2), (6, 2), (7, 2), (8, 2), (9, 0), (10, 1), (11, 1), (12, 1)] (by kernel_rfl) rfl rfl <| gDe (by kernel_rfl) <| gJ (h K hK) [0, 3] [] rfl hK pq5 (pqo2 rfl rfl rfl rfl) rfl
 refine aN 4 hs66 (by kernel_rfl) rfl (by kernel_rfl) rfl rfl .rfl rfl rfl ?_
 exact gDr [(5, 0), (6, 2), (7, 2), (8, 2), (10, 1), (11, 1), (12, 1)] (by kernel_rfl) rfl rfl <| gDe (by kernel_rfl) <| gJ (h K hK) [0, 3] [] rfl hK pq5 (pqo2 rfl rfl rfl rfl) rfl
 refine gDr [(3, 0)] (by kernel_rfl) rfl rfl <| gHR 3 (GDatum.vs [a]) rfl (GDatum.vone a) rfl <| gFR 1 rfl (aU _) rfl rfl <| gFR 3 rfl (GDatum.vpure _) rfl rfl ?_
 obtain ⟨c, d, e, hs67, h⟩ := h
 refine aN 4 hs67 (by kernel_rfl) rfl (by kernel_rfl) rfl rfl .rfl rfl rfl ?_
 exact gDr [(5, 0), (6, 2), (7, 2), (8, 2), (10, 1), (11, 1), (12, 1)] (by kernel_rfl) rfl rfl <| gDe (by kernel_rfl) <| gJ (h K hK) [0, 2] [] rfl hK pq5 (pqo2 rfl rfl rfl rfl) rfl
 refine gHR 1 (GDatum.vs [a]) rfl (GDatum.vone a) rfl ?_
 apply be (i := 1) (j := 9) (by kernel_rfl) rfl rfl rfl rfl
 exact (ay ac rfl rfl)
 exact (ay ac rfl rfl)
 refine gHR 2 (kidsV [b]) rfl (cI b) rfl <| gFR 2 rfl (aU _) rfl rfl <| gFR 1 rfl (GDatum.vpure _) rfl rfl ?_
 obtain ⟨c, d, e, hs68, h⟩ := h
 apply be (i := 4) (j := 9) (by kernel_rfl) rfl rfl rfl rfl
 exact (bL (L' := [0]) (by kernel_rfl) rfl rfl (gk hs68 .rfl [0] rfl) (.inl rfl))
 exact (ay ac rfl rfl)
 exact gDr [(5, 2), (6, 2), (7, 2), (8, 2), (9, 0), (10, 1), (11, 1), (12, 1)] (by kernel_rfl) rfl rfl <| gDe (by kernel_rfl) <| gJ (h K hK) [0, 3] [] rfl hK pq5 (pqo2 rfl rfl rfl rfl) rfl
 refine aN 4 hs68 (by kernel_rfl) rfl (by kernel_rfl) rfl rfl .rfl rfl rfl ?_
 exact gDr [(5, 0), (6, 2), (7, 2), (8, 2), (10, 1), (11, 1), (12, 1)] (by kernel_rfl) rfl rfl <| gDe (by kernel_rfl) <| gJ (h K hK) [0, 3] [] rfl hK pq5 (pqo2 rfl rfl rfl rfl) rfl
 refine gDr [(1, 0)] (by kernel_rfl) rfl rfl <| gHR 3 (kidsV [b]) rfl (cI b) rfl <| gFR 3 rfl (aU _) rfl rfl <| gFR 1 rfl (GDatum.vpure _) rfl rfl ?_
 obtain ⟨c, d, e, hs69, h⟩ := h
 refine aN 4 hs69 (by kernel_rfl) rfl (by kernel_rfl) rfl rfl .rfl rfl rfl ?_
 exact gDr [(5, 0), (6, 2), (7, 2), (8, 2), (10, 1), (11, 1), (12, 1)] (by kernel_rfl) rfl rfl <| gDe (by kernel_rfl) <| gJ (h K hK) [0, 2] [] rfl hK pq5 (pqo2 rfl rfl rfl rfl) rfl
 apply be (i := 1) (j := 3) (by kernel_rfl) rfl rfl rfl rfl
 exact (ay ac rfl rfl)
 exact (ay ac rfl rfl)
 refine gHR 2 (kidsV [b]) rfl (cI b) rfl <| gDr [(3, 0)] (by kernel_rfl) rfl rfl <| gHR 3 (GDatum.vs [a]) rfl (GDatum.vone a) rfl <| gFR 2 rfl (aU _) rfl rfl <| gFR 3 rfl (GDatum.vpure _) rfl rfl ?_
 obtain ⟨c, d, e, hs70, h⟩ := h
 refine aN 4 hs70 (by kernel_rfl) rfl (by kernel_rfl) rfl rfl .rfl rfl rfl ?_
 exact gDr [(5, 0), (6, 2), (7, 2), (8, 2), (10, 1), (11, 1), (12, 1)] (by kernel_rfl) rfl rfl <| gDe (by kernel_rfl) <| gJ (h K hK) [0, 1] [] rfl hK pq5 (pqo2 rfl rfl rfl rfl) rfl
 refine gHR 2 (GDatum.vs [a]) rfl (GDatum.vone a) rfl <| gDr [(1, 0)] (by kernel_rfl) rfl rfl <| gHR 3 (kidsV [b]) rfl (cI b) rfl <| gFR 3 rfl (aU _) rfl rfl <| gFR 2 rfl (GDatum.vpure _) rfl rfl ?_
 obtain ⟨c, d, e, hs71, h⟩ := h
 refine aN 4 hs71 (by kernel_rfl) rfl (by kernel_rfl) rfl rfl .rfl rfl rfl ?_
 exact gDr [(5, 0), (6, 2), (7, 2), (8, 2), (10, 1), (11, 1), (12, 1)] (by kernel_rfl) rfl rfl <| gDe (by kernel_rfl) <| gJ (h K hK) [0, 1] [] rfl hK pq5 (pqo2 rfl rfl rfl rfl) rfl
 apply be (i := 1) (j := 2) (by kernel_rfl) rfl rfl rfl rfl
 exact (ay ac rfl rfl)
 exact (bL (L' := [0]) (by kernel_rfl) rfl rfl (gk hs62 .rfl [0] rfl) (.inl rfl))
 refine gHR 2 (kidsV [b]) rfl (cI b) rfl <| aN 2 hs62 (by kernel_rfl) rfl (by kernel_rfl) rfl rfl .rfl rfl rfl <| gDr [(3, 0)] (by kernel_rfl) rfl rfl <| gHR 3 (GDatum.vs [a]) rfl (GDatum.vone a) rfl <| gFR 2 rfl (aU _) rfl rfl <| gFR 3 rfl (GDatum.vpure _) rfl rfl ?_
 obtain ⟨c, d, e, hs72, h⟩ := h
 refine aN 4 hs72 (by kernel_rfl) rfl (by kernel_rfl) rfl rfl .rfl rfl rfl ?_
 exact gDr [(5, 0), (6, 2), (7, 2), (8, 2), (10, 1), (11, 1), (12, 1)] (by kernel_rfl) rfl rfl <| gDe (by kernel_rfl) <| gJ (h K hK) [0, 1] [] rfl hK pq5 (pqo2 rfl rfl rfl rfl) rfl
 apply be (i := 1) (j := 3) (by kernel_rfl) rfl rfl rfl rfl
 exact (ay ac rfl rfl)
 exact (ay ac rfl rfl)
 refine gHR 2 (kidsV [b]) rfl (cI b) rfl <| gDr [(3, 0)] (by kernel_rfl) rfl rfl <| gHR 3 (GDatum.vs [a]) rfl (GDatum.vone a) rfl <| gFR 2 rfl (aU _) rfl rfl <| gFR 3 rfl (GDatum.vpure _) rfl rfl ?_
 obtain ⟨c, d, e, hs73, h⟩ := h
 refine aN 4 hs73 (by kernel_rfl) rfl (by kernel_rfl) rfl rfl .rfl rfl rfl ?_
 exact gDr [(5, 0), (6, 2), (7, 2), (8, 2), (10, 1), (11, 1), (12, 1)] (by kernel_rfl) rfl rfl <| gDe (by kernel_rfl) <| gJ (h K hK) [0, 1] [] rfl hK pq5 (pqo2 rfl rfl rfl rfl) rfl
 refine gHR 2 (GDatum.vs [a]) rfl (GDatum.vone a) rfl <| gDr [(1, 0)] (by kernel_rfl) rfl rfl <| gHR 3 (kidsV [b]) rfl (cI b) rfl <| gFR 3 rfl (aU _) rfl rfl <| gFR 2 rfl (GDatum.vpure _) rfl rfl ?_
 obtain ⟨c, d, e, hs74, h⟩ := h
 refine aN 4 hs74 (by kernel_rfl) rfl (by kernel_rfl) rfl rfl .rfl rfl rfl ?_
 exact gDr [(5, 0), (6, 2), (7, 2), (8, 2), (10, 1), (11, 1), (12, 1)] (by kernel_rfl) rfl rfl <| gDe (by kernel_rfl) <| gJ (h K hK) [0, 1] [] rfl hK pq5 (pqo2 rfl rfl rfl rfl) rfl
theorem nu (m : Nat) (b : Tree) (f : Int) (g : GDatum) (k n : Int) (r0 : Bool) (h : ∃ a, dm 2 a ∧ ∃ e c d, fL [b] 0 0 [a] 5 e c d ∧ jB m f g k n c d r0) : jv (m + 1) b f g k n r0 := by
 intro K hK
 refine gR 2 rfl <| gDs [0] 10 13 rfl (by kernel_rfl) (by kernel_rfl) <| gDr [(0, 3)] (by kernel_rfl) rfl rfl ?_
 obtain ⟨a, hs75, h⟩ := h
 apply tm (i := 1) (j := 2) (l := 9) (by kernel_rfl) rfl rfl rfl rfl rfl rfl
 exact (ay ac rfl rfl)
 exact (bL (L' := [0]) (by kernel_rfl) rfl rfl (gk hs75 .rfl [0] rfl) (.inl rfl))
 exact (ay ac rfl rfl)
 refine gHR 2 (kidsV [b]) rfl (cI b) rfl ?_
 apply be (i := 2) (j := 9) (by kernel_rfl) rfl rfl rfl rfl
 exact (bL (L' := [0]) (by kernel_rfl) rfl rfl (gk hs75 .rfl [0] rfl) (.inl rfl))
 exact (ay ac rfl rfl)
 apply be (i := 3) (j := 9) (by kernel_rfl) rfl rfl rfl rfl
 exact (ay ac rfl rfl)
 exact (ay ac rfl rfl)
 refine gHR 3 (GDatum.vs [a]) rfl (GDatum.vone a) rfl <| gFR 2 rfl (aU _) rfl rfl <| gFR 3 rfl (GDatum.vpure _) rfl rfl ?_
 obtain ⟨e, c, d, hs76, h⟩ := h
 apply be (i := 4) (j := 9) (by kernel_rfl) rfl rfl rfl rfl
 exact (bL (L' := [0]) (by kernel_rfl) rfl rfl (gk hs76 .rfl [0] rfl) (.inl rfl))
 exact (ay ac rfl rfl)
 exact gDr [(5, 2), (6, 2), (7, 2), (8, 2), (9, 0), (10, 1), (11, 1), (12, 1)] (by kernel_rfl) rfl rfl <| gDe (by kernel_rfl) <| gJ (h K hK) [1] [] rfl hK pq6 (pqo1 rfl rfl) rfl
 refine aN 4 hs76 (by kernel_rfl) rfl (by kernel_rfl) rfl rfl .rfl rfl rfl ?_
 exact gDr [(5, 0), (6, 2), (7, 2), (8, 2), (10, 1), (11, 1), (12, 1)] (by kernel_rfl) rfl rfl <| gDe (by kernel_rfl) <| gJ (h K hK) [1] [] rfl hK pq6 (pqo1 rfl rfl) rfl
 refine gDr [(3, 0)] (by kernel_rfl) rfl rfl <| gHR 4 (GDatum.vs [a]) rfl (GDatum.vone a) rfl <| gFR 2 rfl (aU _) rfl rfl <| gFR 4 rfl (GDatum.vpure _) rfl rfl ?_
 obtain ⟨e, c, d, hs77, h⟩ := h
 refine aN 4 hs77 (by kernel_rfl) rfl (by kernel_rfl) rfl rfl .rfl rfl rfl ?_
 exact gDr [(5, 0), (6, 2), (7, 2), (8, 2), (10, 1), (11, 1), (12, 1)] (by kernel_rfl) rfl rfl <| gDe (by kernel_rfl) <| gJ (h K hK) [1] [] rfl hK pq6 (pqo1 rfl rfl) rfl
 refine aN 2 hs75 (by kernel_rfl) rfl (by kernel_rfl) rfl rfl .rfl rfl rfl ?_
 refine gDr [(3, 0)] (by kernel_rfl) rfl rfl <| gHR 4 (GDatum.vs [a]) rfl (GDatum.vone a) rfl <| gFR 2 rfl (aU _) rfl rfl <| gFR 4 rfl (GDatum.vpure _) rfl rfl ?_
 obtain ⟨e, c, d, hs78, h⟩ := h
 refine aN 4 hs78 (by kernel_rfl) rfl (by kernel_rfl) rfl rfl .rfl rfl rfl ?_
 exact gDr [(5, 0), (6, 2), (7, 2), (8, 2), (10, 1), (11, 1), (12, 1)] (by kernel_rfl) rfl rfl <| gDe (by kernel_rfl) <| gJ (h K hK) [1] [] rfl hK pq6 (pqo1 rfl rfl) rfl
 apply tm (i := 1) (j := 3) (l := 9) (by kernel_rfl) rfl rfl rfl rfl rfl rfl
 exact (ay ac rfl rfl)
 exact (ay ac rfl rfl)
 exact (ay ac rfl rfl)
 refine gHR 2 (kidsV [b]) rfl (cI b) rfl ?_
 apply be (i := 3) (j := 9) (by kernel_rfl) rfl rfl rfl rfl
 exact (ay ac rfl rfl)
 exact (ay ac rfl rfl)
 refine gHR 3 (GDatum.vs [a]) rfl (GDatum.vone a) rfl <| gFR 2 rfl (aU _) rfl rfl <| gFR 3 rfl (GDatum.vpure _) rfl rfl ?_
 obtain ⟨e, c, d, hs79, h⟩ := h
 apply be (i := 4) (j := 9) (by kernel_rfl) rfl rfl rfl rfl
 exact (bL (L' := [0]) (by kernel_rfl) rfl rfl (gk hs79 .rfl [0] rfl) (.inl rfl))
 exact (ay ac rfl rfl)
 exact gDr [(5, 2), (6, 2), (7, 2), (8, 2), (9, 0), (10, 1), (11, 1), (12, 1)] (by kernel_rfl) rfl rfl <| gDe (by kernel_rfl) <| gJ (h K hK) [1] [] rfl hK pq6 (pqo1 rfl rfl) rfl
 refine aN 4 hs79 (by kernel_rfl) rfl (by kernel_rfl) rfl rfl .rfl rfl rfl ?_
 exact gDr [(5, 0), (6, 2), (7, 2), (8, 2), (10, 1), (11, 1), (12, 1)] (by kernel_rfl) rfl rfl <| gDe (by kernel_rfl) <| gJ (h K hK) [1] [] rfl hK pq6 (pqo1 rfl rfl) rfl
 refine gDr [(3, 0)] (by kernel_rfl) rfl rfl <| gHR 4 (GDatum.vs [a]) rfl (GDatum.vone a) rfl <| gFR 2 rfl (aU _) rfl rfl <| gFR 4 rfl (GDatum.vpure _) rfl rfl ?_
 obtain ⟨e, c, d, hs80, h⟩ := h
 refine aN 4 hs80 (by kernel_rfl) rfl (by kernel_rfl) rfl rfl .rfl rfl rfl ?_
 exact gDr [(5, 0), (6, 2), (7, 2), (8, 2), (10, 1), (11, 1), (12, 1)] (by kernel_rfl) rfl rfl <| gDe (by kernel_rfl) <| gJ (h K hK) [1] [] rfl hK pq6 (pqo1 rfl rfl) rfl
 refine gHR 2 (GDatum.vs [a]) rfl (GDatum.vone a) rfl ?_
 apply be (i := 1) (j := 9) (by kernel_rfl) rfl rfl rfl rfl
 exact (ay ac rfl rfl)
 exact (ay ac rfl rfl)
 refine gHR 3 (kidsV [b]) rfl (cI b) rfl <| gFR 3 rfl (aU _) rfl rfl <| gFR 2 rfl (GDatum.vpure _) rfl rfl ?_
 obtain ⟨e, c, d, hs81, h⟩ := h
 apply be (i := 4) (j := 9) (by kernel_rfl) rfl rfl rfl rfl
 exact (bL (L' := [0]) (by kernel_rfl) rfl rfl (gk hs81 .rfl [0] rfl) (.inl rfl))
 exact (ay ac rfl rfl)
 exact gDr [(5, 2), (6, 2), (7, 2), (8, 2), (9, 0), (10, 1), (11, 1), (12, 1)] (by kernel_rfl) rfl rfl <| gDe (by kernel_rfl) <| gJ (h K hK) [1] [] rfl hK pq6 (pqo1 rfl rfl) rfl
 refine aN 4 hs81 (by kernel_rfl) rfl (by kernel_rfl) rfl rfl .rfl rfl rfl ?_
 exact gDr [(5, 0), (6, 2), (7, 2), (8, 2), (10, 1), (11, 1), (12, 1)] (by kernel_rfl) rfl rfl <| gDe (by kernel_rfl) <| gJ (h K hK) [1] [] rfl hK pq6 (pqo1 rfl rfl) rfl
 refine gDr [(1, 0)] (by kernel_rfl) rfl rfl <| gHR 4 (kidsV [b]) rfl (cI b) rfl <| gFR 4 rfl (aU _) rfl rfl <| gFR 2 rfl (GDatum.vpure _) rfl rfl ?_
 obtain ⟨e, c, d, hs82, h⟩ := h
 refine aN 4 hs82 (by kernel_rfl) rfl (by kernel_rfl) rfl rfl .rfl rfl rfl ?_
 exact gDr [(5, 0), (6, 2), (7, 2), (8, 2), (10, 1), (11, 1), (12, 1)] (by kernel_rfl) rfl rfl <| gDe (by kernel_rfl) <| gJ (h K hK) [1] [] rfl hK pq6 (pqo1 rfl rfl) rfl
 apply be (i := 1) (j := 3) (by kernel_rfl) rfl rfl rfl rfl
 exact (ay ac rfl rfl)
 exact (ay ac rfl rfl)
 refine gHR 3 (kidsV [b]) rfl (cI b) rfl <| gDr [(3, 0)] (by kernel_rfl) rfl rfl <| gHR 4 (GDatum.vs [a]) rfl (GDatum.vone a) rfl <| gFR 3 rfl (aU _) rfl rfl <| gFR 4 rfl (GDatum.vpure _) rfl rfl ?_
 obtain ⟨e, c, d, hs83, h⟩ := h
 refine aN 4 hs83 (by kernel_rfl) rfl (by kernel_rfl) rfl rfl .rfl rfl rfl ?_
 exact gDr [(5, 0), (6, 2), (7, 2), (8, 2), (10, 1), (11, 1), (12, 1)] (by kernel_rfl) rfl rfl <| gDe (by kernel_rfl) <| gJ (h K hK) [1] [] rfl hK pq6 (pqo1 rfl rfl) rfl
 refine gHR 3 (GDatum.vs [a]) rfl (GDatum.vone a) rfl <| gDr [(1, 0)] (by kernel_rfl) rfl rfl <| gHR 4 (kidsV [b]) rfl (cI b) rfl <| gFR 4 rfl (aU _) rfl rfl <| gFR 3 rfl (GDatum.vpure _) rfl rfl ?_
 obtain ⟨e, c, d, hs84, h⟩ := h
 refine aN 4 hs84 (by kernel_rfl) rfl (by kernel_rfl) rfl rfl .rfl rfl rfl ?_
 exact gDr [(5, 0), (6, 2), (7, 2), (8, 2), (10, 1), (11, 1), (12, 1)] (by kernel_rfl) rfl rfl <| gDe (by kernel_rfl) <| gJ (h K hK) [1] [] rfl hK pq6 (pqo1 rfl rfl) rfl
 apply be (i := 1) (j := 2) (by kernel_rfl) rfl rfl rfl rfl
 exact (ay ac rfl rfl)
 exact (bL (L' := [0]) (by kernel_rfl) rfl rfl (gk hs75 .rfl [0] rfl) (.inl rfl))
 refine gHR 3 (kidsV [b]) rfl (cI b) rfl <| aN 2 hs75 (by kernel_rfl) rfl (by kernel_rfl) rfl rfl .rfl rfl rfl <| gDr [(3, 0)] (by kernel_rfl) rfl rfl <| gHR 4 (GDatum.vs [a]) rfl (GDatum.vone a) rfl <| gFR 3 rfl (aU _) rfl rfl <| gFR 4 rfl (GDatum.vpure _) rfl rfl ?_
 obtain ⟨e, c, d, hs85, h⟩ := h
 refine aN 4 hs85 (by kernel_rfl) rfl (by kernel_rfl) rfl rfl .rfl rfl rfl ?_
 exact gDr [(5, 0), (6, 2), (7, 2), (8, 2), (10, 1), (11, 1), (12, 1)] (by kernel_rfl) rfl rfl <| gDe (by kernel_rfl) <| gJ (h K hK) [1] [] rfl hK pq6 (pqo1 rfl rfl) rfl
 apply be (i := 1) (j := 3) (by kernel_rfl) rfl rfl rfl rfl
 exact (ay ac rfl rfl)
 exact (ay ac rfl rfl)
 refine gHR 3 (kidsV [b]) rfl (cI b) rfl <| gDr [(3, 0)] (by kernel_rfl) rfl rfl <| gHR 4 (GDatum.vs [a]) rfl (GDatum.vone a) rfl <| gFR 3 rfl (aU _) rfl rfl <| gFR 4 rfl (GDatum.vpure _) rfl rfl ?_
 obtain ⟨e, c, d, hs86, h⟩ := h
 refine aN 4 hs86 (by kernel_rfl) rfl (by kernel_rfl) rfl rfl .rfl rfl rfl ?_
 exact gDr [(5, 0), (6, 2), (7, 2), (8, 2), (10, 1), (11, 1), (12, 1)] (by kernel_rfl) rfl rfl <| gDe (by kernel_rfl) <| gJ (h K hK) [1] [] rfl hK pq6 (pqo1 rfl rfl) rfl
 refine gHR 3 (GDatum.vs [a]) rfl (GDatum.vone a) rfl <| gDr [(1, 0)] (by kernel_rfl) rfl rfl <| gHR 4 (kidsV [b]) rfl (cI b) rfl <| gFR 4 rfl (aU _) rfl rfl <| gFR 3 rfl (GDatum.vpure _) rfl rfl ?_
 obtain ⟨e, c, d, hs87, h⟩ := h
 refine aN 4 hs87 (by kernel_rfl) rfl (by kernel_rfl) rfl rfl .rfl rfl rfl ?_
 exact gDr [(5, 0), (6, 2), (7, 2), (8, 2), (10, 1), (11, 1), (12, 1)] (by kernel_rfl) rfl rfl <| gDe (by kernel_rfl) <| gJ (h K hK) [1] [] rfl hK pq6 (pqo1 rfl rfl) rfl
theorem ny (m : Nat) (b : Int) (c : GDatum) (d e f g : Int) (r0 : Bool) (h : ((b = 0) → ((e = 0) → ((d = 25) → ∃ i, dm 3 i ∧ ∃ a, dN c i a ∧ ((a = true) → ((g = 21) → ((f = 5) → ∃ j, kK c j ∧ j = r0) ∧ ((f ≠ 5) → false = r0)) ∧ ((g ≠ 21) → false = r0)) ∧ ((a = false) → false = r0)) ∧ ((d ≠ 25) → false = r0)) ∧ ((e ≠ 0) → false = r0)) ∧ ((b ≠ 0) → false = r0)) : jB (m + 1) b c d e f g r0 := by
 intro K hK
 refine gR 2 rfl <| gDs [0] 27 28 rfl (by kernel_rfl) (by kernel_rfl) <| gDr [(0, 0), (1, 0), (2, 0)] (by kernel_rfl) rfl rfl <| qBeZ 35 34 rfl rfl rfl rfl h (fun h => ?_) fun h => ?_
 refine gDr [(3, 0), (4, 0), (5, 0), (6, 0)] (by kernel_rfl) rfl rfl <| qBeZ 39 38 rfl rfl rfl rfl h (fun h => ?_) fun h => ?_
 refine gDr [(7, 0), (8, 0), (9, 0), (10, 0)] (by kernel_rfl) rfl rfl <| qBeZ 43 42 rfl rfl rfl rfl h (fun h => ?_) fun h => ?_
 refine gDr [(11, 3)] (by kernel_rfl) rfl rfl ?_
 obtain ⟨i, hs88, h⟩ := h
 refine aN 12 hs88 (by kernel_rfl) rfl (by kernel_rfl) rfl rfl .rfl rfl rfl ?_
 obtain ⟨a, hs89, h⟩ := h
 refine aN 13 hs89 (by kernel_rfl) rfl (by kernel_rfl) rfl rfl .rfl rfl rfl ?_
 refine gDr [(14, 0), (15, 0)] (by kernel_rfl) rfl rfl <| qBiZ 48 47 rfl rfl rfl rfl h (fun h => ?_) fun h => ?_
 refine gDr [(16, 0), (17, 0), (18, 0), (19, 0)] (by kernel_rfl) rfl rfl <| qBeZ 52 51 rfl rfl rfl rfl h (fun h => ?_) fun h => ?_
 refine gDr [(20, 0), (21, 0), (22, 0), (23, 0)] (by kernel_rfl) rfl rfl <| qBeZ 56 55 rfl rfl rfl rfl h (fun h => ?_) fun h => ?_
 refine gDr [(24, 0)] (by kernel_rfl) rfl rfl ?_
 obtain ⟨j, hs90, h⟩ := h
 refine aN 25 hs90 (by kernel_rfl) rfl (by kernel_rfl) rfl rfl .rfl rfl rfl ?_
 refine gDr [(26, 0), (27, 1)] (by kernel_rfl) rfl rfl <| gDe (by kernel_rfl) <| gR 2 rfl ?_
 subst h
 exact go_end ac (rs := [.tmp 0]) rfl rfl rfl
 refine gDr [(24, 0), (25, 0), (26, 0), (27, 1)] (by kernel_rfl) rfl rfl <| gDe (by kernel_rfl) <| gR 2 rfl ?_
 subst h
 exact go_end ac (rs := [.tmp 0]) rfl rfl rfl
 refine gDr [(20, 0), (21, 0), (22, 0), (23, 0), (24, 0), (25, 0), (26, 0), (27, 1)] (by kernel_rfl) rfl rfl <| gDe (by kernel_rfl) <| gR 2 rfl ?_
 subst h
 exact go_end ac (rs := [.tmp 0]) rfl rfl rfl
 refine gDr [(16, 0), (17, 0), (18, 0), (19, 0), (20, 0), (21, 0), (22, 0), (23, 0), (24, 0), (25, 0), (26, 0), (27, 1)] (by kernel_rfl) rfl rfl <| gDe (by kernel_rfl) <| gR 2 rfl ?_
 subst h
 exact go_end ac (rs := [.tmp 0]) rfl rfl rfl
 refine gDr [(11, 2), (12, 0), (13, 0), (14, 0), (15, 0), (16, 0), (17, 0), (18, 0), (19, 0), (20, 0), (21, 0), (22, 0), (23, 0), (24, 0), (25, 0), (26, 0), (27, 1)] (by kernel_rfl) rfl rfl <| gDe (by kernel_rfl) <| gR 2 rfl ?_
 subst h
 exact go_end ac (rs := [.tmp 0]) rfl rfl rfl
 refine gDr [(7, 0), (8, 0), (9, 0), (10, 0), (11, 2), (12, 0), (13, 0), (14, 0), (15, 0), (16, 0), (17, 0), (18, 0), (19, 0), (20, 0), (21, 0), (22, 0), (23, 0), (24, 0), (25, 0), (26, 0), (27, 1)] (by kernel_rfl) rfl rfl <| gDe (by kernel_rfl) <| gR 2 rfl ?_
 subst h
 exact go_end ac (rs := [.tmp 0]) rfl rfl rfl
 refine gDr [(3, 0), (4, 0), (5, 0), (6, 0), (7, 0), (8, 0), (9, 0), (10, 0), (11, 2), (12, 0), (13, 0), (14, 0), (15, 0), (16, 0), (17, 0), (18, 0), (19, 0), (20, 0), (21, 0), (22, 0), (23, 0), (24, 0), (25, 0), (26, 0), (27, 1)] (by kernel_rfl) rfl rfl <| gDe (by kernel_rfl) <| gR 2 rfl ?_
 subst h
 exact go_end ac (rs := [.tmp 0]) rfl rfl rfl
end Go.Proofs.YthnohcipianijaaGreatDoor
namespace Go.Proofs.YthnohcipianijaaGreatDoor
open Go.RowKit
def da (R : List Nat) (l : List (Nat × Ob)) : List (Nat × Ob) := l.filter fun p => gQ p.1 R
def ung : Ob → Ob
 | .free => .gone
 | o => o
def dH (nx : Nat) (R : List Nat) (l : List (Nat × Ob)) : List (Nat × Ob) := (l.filter fun p => !gQ p.1 R && Nat.blt p.1 nx).map fun p => (p.1, ung p.2)
theorem pR {α : Type} {R : List Nat} : ∀ (l : List (Nat × Ob)) (c : List (Nat × Ob) → α), ru R l c = c (da R l)
 | [], c => rfl
 | (i, o) :: r, c => by
  simp only [ru]
  cases h : gQ i R
  ·simp only; rw [pR r]; simp [da, h]
  ·simp only; rw [pR r]; simp [da, h]
theorem pO {α : Type} {nx : Nat} {R : List Nat} : ∀ (l : List (Nat × Ob)) (c : List (Nat × Ob) → α), qb nx R l c = c (dH nx R l)
 | [], c => rfl
 | (i, o) :: r, c => by
  simp only [qb]
  cases h : (!gQ i R && Nat.blt i nx)
  ·simp only; rw [pO r]; simp only [dH, List.filter_cons, h]; rfl
  ·cases o <;> (simp only; rw [pO r]; simp only [dH, List.filter_cons, h]; rfl)
theorem nM {R : List Nat} {i : Nat} : ∀ {l : List (Nat × Ob)}, ar (da R l) i = ar l i ∨ (gQ i R = false ∧ ar (da R l) i = .gone)
 | [] => .inl rfl
 | (j, o) :: r => by
  by_cases hj : j = i
  ·subst hj
   cases h : gQ j R
   ·right
    refine ⟨rfl, ?_⟩
    have ih := nM (R := R) (i := j) (l := r)
    simp only [da, List.filter_cons, h] at ih ⊢
    simp only [Bool.false_eq_true, if_false]
    clear ih
    have key : ∀ (l : List (Nat × Ob)), ar (l.filter fun p => gQ p.1 R) j = .gone := by
     intro l
     induction l with
     | nil => rfl
     | cons q t ih =>
      obtain ⟨k, o'⟩ := q
      simp only [List.filter_cons]
      split
      ·rename_i hk
       have : k ≠ j := fun e => by subst e; simp [h] at hk
       simp only [ar, nbF this]; exact ih
      ·exact ih
    exact key r
   ·left
    simp only [da, List.filter_cons, h, if_true, ar, nbT]
  ·have ih := nM (R := R) (i := i) (l := r)
   simp only [da, List.filter_cons]
   split
   ·simp only [ar, nbF hj]; exact ih
   ·simp only [ar, nbF hj]; exact ih
theorem uK {R : List Nat} {i : Nat} (h : gQ i R = false) (l : List (Nat × Ob)) : ar (da R l) i = .gone := by
 induction l with
 | nil => rfl
 | cons q t ih =>
  obtain ⟨k, o'⟩ := q
  simp only [da, List.filter_cons]
  split
  ·rename_i hk
   have : k ≠ i := fun e => by subst e; simp [h] at hk
   simp only [ar, nbF this]; exact ih
  ·exact ih
theorem AF {nx : Nat} {R : List Nat} {i : Nat} (l : List (Nat × Ob)) : ar (dH nx R l) i = if (!gQ i R && Nat.blt i nx) = true then ung (ar l i) else .gone := by
 induction l with
 | nil => simp [dH, ar, ung]
 | cons q t ih =>
  obtain ⟨k, o⟩ := q
  by_cases hk : k = i
  ·subst hk
   cases h : (!gQ k R && Nat.blt k nx)
   ·rw [h] at ih
    simp only [dH, List.filter_cons, h, Bool.false_eq_true, if_false] at ih ⊢
    exact ih
   ·simp only [dH, List.filter_cons, h, if_true, List.map_cons, ar, nbT]
  ·have e : ar ((k, o) :: t) i = ar t i := by simp only [ar, nbF hk]
   rw [e, ← ih]
   simp only [dH, List.filter_cons]
   split
   ·simp only [List.map_cons, ar, nbF hk]
   ·rfl
section
variable {P : Program} {T : Tab} {K : Ctx} {Q : Exit → Act → World → Prop} {s : List EI} {n : Nat} {F : Fm} {H : Hp}
theorem xx (lo : Nat) (H : Hp) (v : V) : ∃ v' H', (∀ (α : Type) (c : V → Hp → α), yW lo H v c = c v' H') ∧ H'.nx = H.nx ∧ (∀ K S w ρ x, HRel S w ρ H.get → Inv K S w ρ H.get → VRel S w ρ v x → ∃ S', HRel S' w ρ H'.get ∧ Inv K S' w ρ H'.get ∧ Up S S' w w ρ ρ ∧ VRel S' w ρ v' x) := by
 have triv : ∃ v' H', (∀ (α : Type) (c : V → Hp → α), c v H = c v' H') ∧ H'.nx = H.nx ∧ (∀ K S w ρ x, HRel S w ρ H.get → Inv K S w ρ H.get → VRel S w ρ v x → ∃ S', HRel S' w ρ H'.get ∧ Inv K S' w ρ H'.get ∧ Up S S' w w ρ ρ ∧ VRel S' w ρ v' x) := ⟨v, H, fun _ _ => rfl, rfl, fun K S w ρ x h1 h2 h3 => ⟨S, h1, h2, Up.refl, h3⟩⟩
 cases v with
 | sl id =>
  simp only [yW]
  split
  ·split
   ·rename_i e sz els ho
    split
    ·rename_i hpu
     refine ⟨.row sz els, ⟨H.nx, mf id H.es⟩, fun α c => by rw [ro], rfl, fun K S w ρ x hr hi hx => ?_⟩
     have hg : (⟨H.nx, mf id H.es⟩ : Hp).get = bV H.get id .gone := by
      funext i
      unfold Hp.get
      by_cases hii : i = id
      ·subst hii
       rw [bj]
       simp only []
       have hlt : Nat.blt i H.nx = true := by
        unfold Hp.get at ho
        split at ho
        ·assumption
        ·cases ho
       rw [hlt]
       simp only [lV, if_true]
      ·rw [bP _ _ hii]
       simp only [lV, if_neg hii]
     refine ⟨_, by rw [hg]; exact (fN hr).1, by rw [hg]; exact hi.frz hr id, (fN hr).2, sO hr ho hpu hx⟩
    ·exact triv
   ·exact triv
  ·exact triv
 | _ => exact triv
theorem xn (lo : Nat) : ∀ (vs : List V) (H : Hp), ∃ vs' H', (∀ (α : Type) (c : List V → Hp → α), zu lo H vs c = c vs' H') ∧ H'.nx = H.nx ∧ (∀ K S w ρ xs, HRel S w ρ H.get → Inv K S w ρ H.get → LRel S w ρ vs xs → ∃ S', HRel S' w ρ H'.get ∧ Inv K S' w ρ H'.get ∧ Up S S' w w ρ ρ ∧ LRel S' w ρ vs' xs)
 | [], H => ⟨[], H, fun _ _ => rfl, rfl, fun K S w ρ x h1 h2 h3 => ⟨S, h1, h2, Up.refl, h3⟩⟩
 | v :: r, H => by
  obtain ⟨v', H1, e1, n1, k1⟩ := xx lo H v
  obtain ⟨r', H2, e2, n2, k2⟩ := xn lo r H1
  refine ⟨v' :: r', H2, fun α c => by simp only [zu, e1, e2], n2.trans n1, fun K S w ρ xs hr hi hx => ?_⟩
  simp only [LRel] at hx
  obtain ⟨x, ys, rfl, h1, h2⟩ := hx
  obtain ⟨S1, a1, a2, a3, a4⟩ := k1 K S w ρ x hr hi h1
  obtain ⟨S2, b1, b2, b3, b4⟩ := k2 K S1 w ρ ys a1 a2 (h2.up a3)
  exact ⟨S2, b1, b2, ⟨fun b hb => b3.s b (a3.s b hb), fun _ _ _ => rfl, fun _ _ h => h⟩, x, ys, rfl, a4.up b3, b4⟩
theorem DU (lo : Nat) (H : Hp) (v : V) : ∃ v' H', (∀ (α : Type) (c : V → Hp → α), BL lo H v c = c v' H') ∧ H'.nx = H.nx ∧ (∀ K S w ρ x, HRel S w ρ H.get → Inv K S w ρ H.get → VRel S w ρ v x → ∃ S', HRel S' w ρ H'.get ∧ Inv K S' w ρ H'.get ∧ Up S S' w w ρ ρ ∧ VRel S' w ρ v' x) := by
 have h0 := xx lo H v
 cases v
 case agg cs =>
  obtain ⟨vs', H', e, hn, k⟩ := xn lo cs H
  refine ⟨.agg vs', H', fun α c => by simp only [BL, e], hn, fun K S w ρ x hr hi hx => ?_⟩
  simp only [VRel] at hx
  obtain ⟨xs, rfl, h1⟩ := hx
  obtain ⟨S', a1, a2, a3, a4⟩ := k K S w ρ xs hr hi h1
  exact ⟨S', a1, a2, a3, by simp only [VRel]; exact ⟨xs, rfl, a4⟩⟩
 all_goals exact h0
theorem tB (lo : Nat) : ∀ (vs : List V) (H : Hp), ∃ vs' H', (∀ (α : Type) (c : List V → Hp → α), vw lo H vs c = c vs' H') ∧ H'.nx = H.nx ∧ (∀ K S w ρ xs, HRel S w ρ H.get → Inv K S w ρ H.get → LRel S w ρ vs xs → ∃ S', HRel S' w ρ H'.get ∧ Inv K S' w ρ H'.get ∧ Up S S' w w ρ ρ ∧ LRel S' w ρ vs' xs)
 | [], H => ⟨[], H, fun _ _ => rfl, rfl, fun K S w ρ x h1 h2 h3 => ⟨S, h1, h2, Up.refl, h3⟩⟩
 | v :: r, H => by
  obtain ⟨v', H1, e1, n1, k1⟩ := DU lo H v
  obtain ⟨r', H2, e2, n2, k2⟩ := tB lo r H1
  refine ⟨v' :: r', H2, fun α c => by simp only [vw, e1, e2], n2.trans n1, fun K S w ρ xs hr hi hx => ?_⟩
  simp only [LRel] at hx
  obtain ⟨x, ys, rfl, h1, h2⟩ := hx
  obtain ⟨S1, a1, a2, a3, a4⟩ := k1 K S w ρ x hr hi h1
  obtain ⟨S2, b1, b2, b3, b4⟩ := k2 K S1 w ρ ys a1 a2 (h2.up a3)
  exact ⟨S2, b1, b2, ⟨fun b hb => b3.s b (a3.s b hb), fun _ _ _ => rfl, fun _ _ h => h⟩, x, ys, rfl, a4.up b3, b4⟩
variable {all : Array Oper} {rest : List Oper} {o : Oper} {u : V} {H' : Hp}
theorem Ek {ok : Bool} (hw : bf F all o.guard = some true) (hx : jQ P K o [] ok n F H u H') (k : Go P K Q (.ops all rest) s n (F.seto o.dst (some u)) H') : Go P K Q (.ops all (o :: rest)) s n F H := fun S w ρ a hr hi hF => by
 show wpList P all (cJ P Q s) (o :: rest) a w
 unfold wpList
 rw [if_pos (bF hF hw)]
 exact .inl (hx S w ρ a hr hi hF _ _ fun x S' w' ρ' hr' hi' hu _ _ hv => k S' w' ρ' _ hr' hi' (bO (hF.up hu) o.dst hv))
variable {L : List Nat} {m left i : Nat} {listed : Array Bool}
theorem Fq (hrd : Region.ready .any all listed = [i]) (hi : all[i]? = some o) (hw : bf F all o.guard = some true) (hx : jQ P K o L ((listed.setIfInBounds i true).getD m false) n F H u H') (k : Go P K Q (.drw all L m left (listed.setIfInBounds i true)) s n (F.seto o.dst (some u)) H') : Go P K Q (.drw all L m (left + 1) listed) s n F H := fun S w ρ a hr hiv hF hs => by
 refine lY (S := S) hrd ?_
 unfold wpOp
 simp only [hi]
 rw [if_pos (bF hF hw)]
 exact .inl (hx S w ρ a hr hiv hF _ _ fun x S' w' ρ' hr' hi' hu hA hL hv => hV hu hA hL (k S' w' ρ' _ hr' hi' (bO (hF.up hu) o.dst hv) hs))
def ic (P : Program) (K : Ctx) (Q : Exit → Act → World → Prop) (n : Nat) : Rs → Prop
 | .ok e F H => ∀ S w ρ a, HRel S w ρ H.get → Inv K S w ρ H.get → FRel S w ρ a n F → Q (match e with | true => .ret | false => .normal) a w
 | .pt p s F H => Go P K Q p s n F H
 | .er _ _ => False
variable {ih : EP → List EI → Fm → Hp → Rs}
theorem xk {S : Nat → Prop} {w : World} {ρ : Nat → Option Value} {x : Value} : ∀ {rs : List V}, VRel S w ρ (lT rs) x → ∃ ys, LRel S w ρ rs ys ∧ x = qG ys
 | [], hvx => by simp only [lT, VRel] at hvx; obtain ⟨ys, rfl, h1⟩ := hvx; exact ⟨ys, h1, by simp only [LRel] at h1; subst h1; rfl⟩
 | [v], hvx => ⟨[x], ⟨x, [], rfl, hvx, rfl⟩, rfl⟩
 | v :: u :: r, hvx => by
  simp only [lT, VRel] at hvx; obtain ⟨ys, rfl, h1⟩ := hvx
  refine ⟨ys, h1, ?_⟩
  simp only [LRel] at h1
  obtain ⟨_, _, rfl, _, _, _, rfl, _⟩ := h1
  rfl
theorem Cv (hT : TabOk P T) (IH : ∀ p s F H K Q n, ic P K Q n (ih p s F H) → Go P K Q p s n F H) {X : Rs → Prop} (hX : ∀ n m, ¬ X (.er n m)) {keep ok : Bool} {vs : List V} {fid : FuncId} {fn : Func} {b : Code} {c : V → Hp → Rs} (hf : P.funcs[fid]? = some fn) (hb : fn.body = some b) (hl : Nat.ble vs.length fn.ntmps = true)
  (h : X (yi T ih keep vs fn b H L ok c)) : ∃ u H' L', (L' = L ∨ ok = true) ∧ CallR P K fid vs H L' (fun u' H'' => u' = u ∧ H'' = H') ∧ X (c u H') := by
 unfold yi at h
 simp only [] at h
 generalize hR : mu H 40 (qe vs []) [] = R at h
 split at h
 ·rename_i hok
  rw [pR] at h
  split at h
  ·rename_i e F1 H1 hrun
   split at h
   ·rename_i rs hres
    split at h
    ·rename_i hnx
     have hnx' : H.nx ≤ H1.nx := Nat.le_of_ble_eq_true hnx
     -- the objects that the call gets
     have hin : ∀ i, (⟨H.nx, da R H.es⟩ : Hp).get i = H.get i ∨ (⟨H.nx, da R H.es⟩ : Hp).get i = .gone := fun i => by
      unfold Hp.get
      simp only []
      split
      ·rcases nM (R := R) (i := i) (l := H.es) with e | ⟨_, e⟩
       ·exact .inl e
       ·exact .inr e
      ·exact .inl rfl
     have hout : ∀ i, gQ i R = false → Nat.blt i H.nx = true → (⟨H.nx, da R H.es⟩ : Hp).get i = .gone := fun i hi hlt => by
      unfold Hp.get
      simp only [hlt]
      exact uK hi _
     -- the objects behind the call
     have key : ∀ (H2 : Hp) (es3 : List (Nat × Ob)), H2.nx = H1.nx → (∀ i, ar es3 i = ar H2.es i ∨ ar es3 i = .gone) → ∀ i, ((⟨H2.nx, es3 ++ dH H.nx R H.es⟩ : Hp).get i = H2.get i ∨ (⟨H2.nx, es3 ++ dH H.nx R H.es⟩ : Hp).get i = .gone) ∨ ((⟨H2.nx, es3 ++ dH H.nx R H.es⟩ : Hp).get i = H.get i ∧ (⟨H.nx, da R H.es⟩ : Hp).get i = .gone ∧ H.get i ≠ .free) := fun H2 es3 hn h3 i => by
      by_cases hlt2 : Nat.blt i H2.nx = true
      ·have e0 : (⟨H2.nx, es3 ++ dH H.nx R H.es⟩ : Hp).get i = ar (es3 ++ dH H.nx R H.es) i := by unfold Hp.get; simp only [hlt2]
       have e2 : H2.get i = ar H2.es i := by unfold Hp.get; rw [hlt2]
       rw [e0, e2]
       rcases vM es3 (dH H.nx R H.es) i with e | ⟨e', e⟩
       ·rw [e]
        rcases h3 i with h3 | h3
        ·exact .inl (.inl h3)
        ·exact .inl (.inr h3)
       ·rw [e]
        rw [AF]
        cases hm : (!gQ i R && Nat.blt i H.nx)
        ·exact .inl (.inr (by simp))
        ·have hm' := hm
         simp only [Bool.and_eq_true, Bool.not_eq_true'] at hm'
         have eH : H.get i = ar H.es i := by unfold Hp.get; rw [hm'.2]
         rw [if_pos rfl]
         cases hf : ar H.es i
         case free => exact .inl (.inr rfl)
         all_goals exact .inr ⟨by rw [eH, hf]; rfl, hout i hm'.1 hm'.2, by rw [eH, hf]; simp⟩
      ·have e0 : (⟨H2.nx, es3 ++ dH H.nx R H.es⟩ : Hp).get i = .free := by
        unfold Hp.get; simp only [Bool.not_eq_true] at hlt2; simp only [hlt2]
       have e2 : H2.get i = .free := by unfold Hp.get; simp only [Bool.not_eq_true] at hlt2; rw [hlt2]
       exact .inl (.inl (by rw [e0, e2]))
     -- what holds behind the call
     have fin : ∀ (H2 : Hp) (es3 : List (Nat × Ob)) (rs2 : List V), H2.nx = H1.nx → (∀ i, ar es3 i = ar H2.es i ∨ ar es3 i = .gone) →
       (∀ K S w ρ xs, HRel S w ρ H1.get → Inv K S w ρ H1.get → LRel S w ρ rs xs → ∃ S', HRel S' w ρ H2.get ∧ Inv K S' w ρ H2.get ∧ Up S S' w w ρ ρ ∧ LRel S' w ρ rs2 xs) →
       ∃ L', (L' = L ∨ ok = true) ∧ CallR P K fid vs H L' (fun u' H'' => u' = lT rs2 ∧ H'' = ⟨H2.nx, es3 ++ dH H.nx R H.es⟩) := fun H2 es3 rs2 hn h3 hfz => by
      have main : ∀ L', (∀ (S : Nat → Prop) (w : World) (ρ : Nat → Option Value), HRel S w ρ H.get → L' = [] ∨ (cf H.get L' = true ∧ ∀ id, id ∈ L' → (⟨H.nx, da R H.es⟩ : Hp).get id = .gone)) → CallR P K fid vs H L' (fun u' H'' => u' = lT rs2 ∧ H'' = ⟨H2.nx, es3 ++ dH H.nx R H.es⟩) := fun L' hL' S w ρ xs hr hi hx => by
       have hr1 := hr.drop (h' := (⟨H.nx, da R H.es⟩ : Hp).get) hin
       have hi1 : Inv ⟨w, S, fun b => ∃ id, own ρ id ((⟨H.nx, da R H.es⟩ : Hp).get id) b, ρ⟩ S w ρ (⟨H.nx, da R H.es⟩ : Hp).get := ⟨ChgP.refl _ _, fun _ h => h, fun _ h => .inl h, fun id b hb => .inl ⟨id, hb⟩, fun _ _ h => h⟩
       refine sb hf hb hl hr1 hi1 hx (IH _ _ _ _ _ _ _ ?_)
       rw [hrun]
       intro S' w' ρ' a' hr' hi' hF'
       obtain ⟨rl, hrl⟩ : ∃ l : List ResultVar, fn.results = l.toArray := ⟨fn.results.toList, by simp⟩
       rw [hrl] at hres
       refine ret_go hT (rs := rl) (by cases e <;> simp) hrl hr' hF' (by simpa using hres) fun x hvx => ?_
       have hLR := xk hvx
       obtain ⟨ys, hys, rfl⟩ := hLR
       obtain ⟨S2, a1, a2, a3, a4⟩ := hfz _ S' w' ρ' ys hr' hi' hys
       obtain ⟨m1, m2, m3, m4⟩ := wh (h1 := (⟨H.nx, da R H.es⟩ : Hp).get) (h2 := (⟨H2.nx, es3 ++ dH H.nx R H.es⟩ : Hp).get) hr hi hin a1 a2 (key H2 es3 hn h3)
       refine ⟨_, S2, ρ', _, _, rfl, ⟨rfl, rfl⟩, m1, m2, m3, xT a4, ?_⟩
       rcases hL' S w ρ hr with rfl | ⟨g1, g2⟩
       ·intro id hid; simp at hid
       ·exact m4 L' g1 g2
      rcases rq hok with hok | hok
      ·simp only [Bool.and_eq_true] at hok
       refine ⟨L, .inl rfl, main L fun S w ρ hr => .inr ⟨hok.1, fun id hid => ?_⟩⟩
       have hmem := List.all_eq_true.1 hok.2 id hid
       simp only [Bool.not_eq_true'] at hmem
       by_cases hlt : Nat.blt id H.nx = true
       ·exact hout id hmem hlt
       ·exfalso
        have hfree : H.get id = .free := by unfold Hp.get; simp only [Bool.not_eq_true] at hlt; rw [hlt]
        have hnl : ∀ (l : List Nat), id ∈ l → cf H.get l = true → False := by
         intro l
         induction l with
         | nil => intro h; simp at h
         | cons j t ih =>
          intro hm hl
          simp only [cf] at hl
          rcases List.mem_cons.1 hm with e | e
          ·subst e; rw [hfree] at hl; cases hl
          ·split at hl
           ·exact ih e hl
           ·exact ih e hl
           ·cases hl
        exact hnl L hid hok.1
      ·exact ⟨[], .inr hok, main [] fun _ _ _ _ => .inl rfl⟩
     split at h
     ·rw [pO] at h
      obtain ⟨L', g1, g2⟩ := fin H1 H1.es rs rfl (fun i => .inl rfl) (fun K S w ρ xs h1 h2 h3 => ⟨S, h1, h2, Up.refl, h3⟩)
      exact ⟨_, _, L', g1, g2, h⟩
     ·obtain ⟨rs2, H2, e1, e2, e3⟩ := tB H.nx rs H1
      rw [e1] at h
      rw [pR, pO] at h
      obtain ⟨L', g1, g2⟩ := fin H2 (da _ H2.es) rs2 e2 (fun i => by
       rcases nM (R := mu H2 60 (qe rs2 R) []) (i := i) (l := H2.es) with e | ⟨_, e⟩
       ·exact .inl e
       ·exact .inr e) e3
      exact ⟨_, _, L', g1, g2, h⟩
    ·exact absurd h (hX _ _)
   ·exact absurd h (hX _ _)
  ·exact absurd h (hX _ _)
  ·exact absurd h (hX _ _)
 ·exact absurd h (hX _ _)
theorem np (hT : TabOk P T) (IH : ∀ p s F H K Q n, ic P K Q n (ih p s F H) → Go P K Q p s n F H) {X : Rs → Prop} (hX : ∀ n m, ¬ X (.er n m)) {ok : Bool} {c : Option V → Hp → Rs} (h : X (pK T ih F H L ok o c)) : ∃ u H', jQ P K o L ok n F H u H' ∧ X (c (some u) H') := by
 unfold pK at h
 split at h
 ·rename_i v hv
  exact ⟨v, H, zP hT hv, h⟩
 ·rw [cD] at h
  split at h
  ·rename_i v ed hv
   split at h
   ·rename_i hc
    rw [Hp.ap_eq] at h
    refine ⟨_, _, ay hT hv hc, ?_⟩
    cases v with
    | none => exact h
    | some v => exact h
   ·exact absurd h (hX _ _)
  ·split at h
   ·rename_i fid args tys hop
    split at h
    ·rename_i vs hvs
     split at h
     ·rename_i v hn
      obtain ⟨he, hnat⟩ := hT.nat _ _ _ hn
      refine ⟨v, H, bL (L' := L) he (by rw [hop]) hvs (fun S w ρ xs hr hi hx => ?_) (.inl rfl), h⟩
      obtain ⟨x, h1, h2⟩ := hnat S w ρ xs hx
      refine h2.mono fun e w' hR => ?_
      obtain ⟨rfl, rfl⟩ := hR
      exact ⟨x, S, ρ, v, H, rfl, ⟨rfl, rfl⟩, hr, hi, Up.refl, h1, lW⟩
     ·split at h
      ·rename_i fn hfn
       obtain ⟨hf, he⟩ := hT.fn _ _ hfn
       split at h
       ·rename_i b hb
        split at h
        ·rename_i hl
         obtain ⟨u, H', L', g1, g2, g3⟩ := Cv (K := K) hT IH hX hf hb hl h
         exact ⟨u, H', bL he (by rw [hop]) hvs g2 g1, g3⟩
        ·exact absurd h (hX _ _)
       ·exact absurd h (hX _ _)
      ·exact absurd h (hX _ _)
    ·exact absurd h (hX _ _)
   ·exact absurd h (hX _ _)
theorem AU {l : List Nat} {j : Nat} (h : vZ l j = true) : l = [j] := by
 unfold vZ at h
 split at h
 ·rw [Nat.eq_of_beq_eq_true h]
 ·cases h
theorem wq (hT : TabOk P T) (IH : ∀ p s F H K Q n, ic P K Q n (ih p s F H) → Go P K Q p s n F H) {i : Nat} {ps : List (Nat × Operand)} {vs : List (Nat × V)} {v : V} (hp : nF T all i vs = some (o, ps, v)) : ∀ (left : Nat) (listed : Array Bool) (F : Fm) (H : Hp), ic P K Q n (uT T ih all L m i o ps v s left listed F H) → GoP P K Q all L m left listed s n F H i o ps vs v
 | left, listed, F, H, h => by
  unfold uT at h
  split at h
  ·rename_i hl
   split at h
   ·rename_i x hrd
    split at h
    ·rename_i hb
     have := Nat.eq_of_beq_eq_true hb
     subst this
     rw [Fm.puto_eq] at h
     exact DT hT hp hrd hl (IH _ _ _ _ _ _ _ h)
    ·exact h.elim
   ·rename_i x y hrd
    cases left with
    | zero => exact h.elim
    | succ left =>
     simp only [cD] at h
     generalize hj : yF x y i = j at h
     unfold yF at hj
     split at h
     ·exact h.elim
     ·rename_i hji
      have hne : j ≠ i := Nat.ne_of_beq_eq_false hji
      split at h
      ·rename_i oj hoj
       split at h
       ·rename_i hc
        simp only [Bool.and_eq_true] at hc
        obtain ⟨⟨⟨hc1, hc2⟩, hc3⟩, hc4⟩ := hc
        split at h
        ·rename_i hw
         obtain ⟨u, H', hx, hk⟩ := np (K := K) (n := n) hT IH (X := ic P K Q n) (fun _ _ h => h) h
         rw [Fm.puto_eq] at hk
         have ih2 := wq hT IH hp left _ _ _ hk
         have hpair : (match Region.ready .any all listed with | [x, y] => (Nat.beq x i && Nat.beq y j) || (Nat.beq x j && Nat.beq y i) | _ => false) = true := by
          rw [hrd]
          simp only []
          cases hx1 : Nat.beq x i
          ·rw [hx1] at hj
           cases hy1 : Nat.beq y i
           ·rw [hy1] at hj; exact absurd hj.symm hne
           ·rw [hy1] at hj; simp only at hj; subst hj; simp
          ·rw [hx1] at hj; simp only at hj; subst hj; simp
         refine BW hT hp hoj hpair (AU hc1) hl (fun t ht => ?_) hc2 hc3 (Array.setIfInBounds_comm _ _ (Ne.symm hne)) (Post := fun u' H'' => u' = u ∧ H'' = H') (fun S w ρ a hr hi hF K2 hK2 => ?_) (fun u' H'' hP => by obtain ⟨rfl, rfl⟩ := hP; exact ih2)
         ·rw [ht] at hc4
          simp only [Option.isNone_iff_eq_none] at hc4
          exact hc4
         ·unfold wpOp
          simp only [hoj]
          rw [if_pos (bF hF hw)]
          refine .inl (hx S w ρ a hr hi hF _ _ fun x S' w' ρ' hr' hi' hu hA hL hv => hK2 x S' w' ρ' u H' ⟨rfl, rfl⟩ hr' hi' hu hA (hL.imp id fun h => ?_) hv)
          simpa only [Bool.and_eq_true] using h
        ·exact h.elim
       ·exact h.elim
      ·exact h.elim
   ·exact h.elim
  ·exact h.elim
theorem DK (hT : TabOk P T) (IH : ∀ p s F H K Q n, ic P K Q n (ih p s F H) → Go P K Q p s n F H) {i j : Nat} {left : Nat} {listed : Array Bool} (hrd : Region.ready .any all listed = [i, j]) (h : ic P K Q n (Bt T ih all L m left i j listed s F H)) : Go P K Q (.drw all L m (left + 1) listed) s n F H := by
 unfold Bt at h
 split at h
 ·rename_i oi hoi
  split at h
  ·rename_i oj hoj
   split at h
   ·rename_i hwi
    split at h
    ·rename_i hwj
     obtain ⟨ui, Hi, xi, hk⟩ := np (K := K) (n := n) hT IH (X := ic P K Q n) (fun _ _ h => h) h
     rw [Fm.puto_eq] at hk
     split at hk
     ·rename_i F1 H1 e1
      obtain ⟨uj, Hj, xj, hk2⟩ := np (K := K) (n := n) hT IH (X := ic P K Q n) (fun _ _ h => h) hk
      rw [Fm.puto_eq] at hk2
      split at hk2
      ·rename_i F2 H2 e2
       split at hk2
       ·rename_i hal
        have c : Go P K Q (.ex .normal) s n F1 H1 := IH _ _ _ _ _ _ _ hk2
        intro S w ρ a hr hi hF
        have hpin : ∀ id x, K.pin id = some x → id < H.nx := fun id x hx => Decidable.byContradiction fun hn => by
         have h1 := hi.pin id x hx
         have h2 := hr.ob id
         have h3 : H.get id = .free := by
          unfold Hp.get
          have : Nat.blt id H.nx = false := by
           cases hb : Nat.blt id H.nx
           ·rfl
           ·exact absurd (by simpa [Nat.blt_eq] using hb) hn
          simp only [this]
         rw [h3] at h2
         have h4 : ρ id = none := h2
         rw [h4] at h1; cases h1
        have g1 : Go P K (cJ P Q s) (.drw all L m left (listed.setIfInBounds i true)) [] n (F.seto oi.dst (some ui)) Hi := IH _ _ _ _ _ _ _ (by rw [e1]; exact fun S w ρ a hr hi hF => c S w ρ a hr hi hF)
        have g2 : Go P K (cJ P Q s) (.drw all L m left (listed.setIfInBounds j true)) [] n (F.seto oj.dst (some uj)) Hj := IH _ _ _ _ _ _ _ (by rw [e2]; exact fun S w ρ a hr hi hF => go_alike hal hpin c S w ρ a hr hi hF)
        exact be (by rw [hrd]; simp) hoi hoj hwi hwj xi xj g1 g2 S w ρ a hr hi hF
       ·exact hk2.elim
      ·exact hk2.elim
      ·exact hk2.elim
     ·exact hk.elim
     ·exact hk.elim
    ·exact h.elim
   ·exact h.elim
  ·exact h.elim
 ·exact h.elim
theorem nR : ∀ {R : List Nat} {i : Nat} {ps : List (Nat × Operand)} {v : V}, oD T F all R = some (i, o, ps, v) → ∃ vs, jA F ps = some vs ∧ nF T all i vs = some (o, ps, v)
 | [], _, _, _, h => by cases h
 | j :: r, i, ps, v, h => by
  unfold oD at h
  split at h
  ·rename_i hj
   split at h
   ·rename_i vs hvs
    split at h
    ·rename_i o' ps' v' hpb
     simp only [Option.some.injEq, Prod.mk.injEq] at h
     obtain ⟨rfl, rfl, rfl, rfl⟩ := h
     refine ⟨vs, ?_, hpb⟩
     have := hpb
     unfold nF at this
     rw [hj] at this
     simp only at this
     repeat' (split at this)
     all_goals first
      | (cases this; done)
      | (simp only [cD, Option.some.injEq, Prod.mk.injEq] at this; obtain ⟨_, rfl, _⟩ := this; exact hvs)
    ·exact nR h
   ·exact nR h
  ·exact nR h
theorem DJ (hT : TabOk P T) (hm : P.follows .mixedOrders = true) (IH : ∀ p s F H K Q n, ic P K Q n (ih p s F H) → Go P K Q p s n F H) : ∀ (p : EP) (s : List EI) (F : Fm) (H : Hp), ic P K Q n (step T ih p s F H) → Go P K Q p s n F H
 | .code c, s, F, H, h => by
  replace h : ic P K Q n (yq T ih c s F H) := h
  unfold yq at h
  split at h
  ·exact zV (IH _ _ _ _ _ _ _ h)
  ·exact vc (IH _ _ _ _ _ _ _ h)
  ·exact xP (IH _ _ _ _ _ _ _ h)
  ·exact go_ret (IH _ _ _ _ _ _ _ h)
  ·exact xf (IH _ _ _ _ _ _ _ h)
  ·exact Cc (IH _ _ _ _ _ _ _ h)
  ·exact Cj (IH _ _ _ _ _ _ _ h)
  ·exact go_loop 1000000 (IH _ _ _ _ _ _ _ h)
  ·split at h
   ·exact va ‹_› (IH _ _ _ _ _ _ _ h)
   ·exact wb ‹_› (IH _ _ _ _ _ _ _ h)
   ·exact h.elim
  ·exact ua (IH _ _ _ _ _ _ _ h)
  ·split at h
   ·rename_i hs
    simp only [bZ, cD] at h
    exact yb _ _ _ rfl hm hs (IH _ _ _ _ _ _ _ h)
   ·exact h.elim
  ·exact h.elim
 | .ops all rest, s, F, H, h => by
  replace h : ic P K Q n (vz T ih all rest s F H) := h
  unfold vz at h
  split at h
  ·exact Ag (IH _ _ _ _ _ _ _ h)
  ·split at h
   ·rw [Fm.puto_eq] at h
    exact Af ‹_› (IH _ _ _ _ _ _ _ h)
   ·obtain ⟨u, H', hx, hk⟩ := np (K := K) (n := n) hT IH (X := ic P K Q n) (fun _ _ h => h) h
    rw [Fm.puto_eq] at hk
    exact Ek ‹_› hx (IH _ _ _ _ _ _ _ hk)
   ·exact h.elim
 | .ex e, s, F, H, h => by
  replace h : ic P K Q n (yG ih e s F H) := h
  unfold yG at h
  split at h
  ·split at h
   ·exact fun S w ρ a hr hi hF => h S w ρ a hr hi hF
   ·exact fun S w ρ a hr hi hF => h S w ρ a hr hi hF
   ·exact h.elim
  ·split at h
   ·exact xy (IH _ _ _ _ _ _ _ h)
   ·exact ve (IH _ _ _ _ _ _ _ h)
   ·exact wv (IH _ _ _ _ _ _ _ h)
   ·exact h.elim
  ·split at h
   ·split at h
    ·exact h.elim
    ·exact go_xloop (IH _ _ _ _ _ _ _ h)
   ·exact go_xloopE (IH _ _ _ _ _ _ _ h)
   ·exact go_xloopR (IH _ _ _ _ _ _ _ h)
   ·exact h.elim
  ·split at h
   ·exact BI (IH _ _ _ _ _ _ _ h)
   ·exact BY (IH _ _ _ _ _ _ _ h)
   ·exact BF (IH _ _ _ _ _ _ _ h)
   ·exact h.elim
  ·split at h
   ·exact wu (IH _ _ _ _ _ _ _ h)
   ·split at h
    ·exact wf ‹_› (IH _ _ _ _ _ _ _ h)
    ·exact vp ‹_› (IH _ _ _ _ _ _ _ h)
   ·exact vn (IH _ _ _ _ _ _ _ h)
   ·exact h.elim
 | .drw all L m left listed, s, F, H, h => by
  replace h : ic P K Q n (yV T ih all L m left listed s F H) := h
  unfold yV at h
  split at h
  ·exact vA ‹_› (IH _ _ _ _ _ _ _ h)
  ·rename_i i R hrd
   cases left with
   | zero => exact h.elim
   | succ left =>
    simp only [] at h
    split at h
    ·split at h
     ·rename_i o ho
      split at h
      ·rw [Fm.puto_eq] at h
       exact go_d1S hrd ho ‹_› (IH _ _ _ _ _ _ _ h)
      ·obtain ⟨u, H', hx, hk⟩ := np (K := K) (n := n) hT IH (X := ic P K Q n) (fun _ _ h => h) h
       rw [Fm.puto_eq] at hk
       exact Fq hrd ho ‹_› hx (IH _ _ _ _ _ _ _ hk)
      ·exact h.elim
     ·exact h.elim
    ·split at h
     ·split at h
      ·rename_i o ho
       split at h
       ·rename_i hc
        simp only [Bool.and_eq_true, Bool.not_eq_true'] at hc
        obtain ⟨⟨hc1, hc2⟩, hc3⟩ := hc
        split at h
        ·rw [Fm.puto_eq] at h
         exact zA hc3 ho hc2 hc1 ‹_› (IH _ _ _ _ _ _ _ h)
        ·rename_i hw
         split at h
         ·rename_i v hv
          rw [Fm.puto_eq] at h
          exact CD hT hc3 ho hc2 hc1 hw hv (IH _ _ _ _ _ _ _ h)
         ·split at h
          ·rename_i id hid
           split at h
           ·rename_i hL
            simp only [Bool.and_eq_true, Bool.not_eq_true'] at hL
            obtain ⟨⟨hL1, hL2⟩, hL3⟩ := hL
            split at h
            ·rename_i v ed hv
             rw [Fm.puto_eq] at h
             exact CG hT hc3 hL2 hL3 ho hc2 hc1 hw hid hL1 hv (IH _ _ _ _ _ _ _ h)
            ·exact h.elim
           ·exact h.elim
          ·exact h.elim
        ·exact h.elim
       ·exact h.elim
      ·exact h.elim
     ·split at h
      ·rename_i i' o ps v hpo
       rw [Fm.puto_eq] at h
       obtain ⟨vs, g1, g2⟩ := nR hpo
       exact AO g1 (wq hT IH g2 left listed _ _ h)
      ·split at h
       ·exact DK hT IH hrd h
       ·exact h.elim
theorem Ao (hT : TabOk P T) (hm : P.follows .mixedOrders = true) : ∀ (k : Nat) (p : EP) (s : List EI) (F : Fm) (H : Hp) (K : Ctx) (Q : Exit → Act → World → Prop) (n : Nat), ic P K Q n (run T k p s F H) → Go P K Q p s n F H
 | 0, p, s, F, H, K, Q, n, h => h
 | k + 1, p, s, F, H, K, Q, n, h => DJ hT hm (fun p s F H K Q n h => Ao hT hm k p s F H K Q n h) p s F H h
def Bu (T : Tab) (k : Nat) (fid : FuncId) (vs : List V) (H : Hp) : Option (List V × Hp) := match T.fn fid with
 |some fn => match fn.body with
  |some b => match Nat.ble vs.length fn.ntmps with
   |true => match run T k (.code b) [] (jV fn.ntmps vs) H with
    |.ok _ F1 H1 => match pq T H1.get F1 fn.results.toList with
     | some rs => some (rs, H1)
     | none => none
    | _ => none
   | false => none
  | none => none
 | none => none
theorem DL (hT : TabOk P T) (hm : P.follows .mixedOrders = true) {k : Nat} {fid : FuncId} {vs rs : List V} {H H1 : Hp} (h : Bu T k fid vs H = some (rs, H1)) {S : Nat → Prop} {w : World} {ρ : Nat → Option Value} {xs : List Value} (hr : HRel S w ρ H.get) (hx : LRel S w ρ vs xs) : de P fid = true ∧
  Calls P fid xs.toArray w fun e w' => ∃ S' ρ' ys, e = .returned (qG ys) ∧ HRel S' w' ρ' H1.get ∧ Inv ⟨w, S, fun b => ∃ id, own ρ id (H.get id) b, ρ⟩ S' w' ρ' H1.get ∧ LRel S' w' ρ' rs ys := by
 unfold Bu at h
 split at h
 ·rename_i fn hfn
  obtain ⟨hf, he⟩ := hT.fn _ _ hfn
  split at h
  ·rename_i b hb
   split at h
   ·rename_i hl
    split at h
    ·rename_i e F1 H1' hrun
     split at h
     ·rename_i rs' hres
      simp only [Option.some.injEq, Prod.mk.injEq] at h
      obtain ⟨rfl, rfl⟩ := h
      refine ⟨he, ?_⟩
      have hi1 : Inv ⟨w, S, fun b => ∃ id, own ρ id (H.get id) b, ρ⟩ S w ρ H.get := ⟨ChgP.refl _ _, fun _ h => h, fun _ h => .inl h, fun id b hb => .inl ⟨id, hb⟩, fun _ _ h => h⟩
      refine sb hf hb hl hr hi1 hx (Ao hT hm k _ _ _ _ _ _ _ ?_)
      rw [hrun]
      intro S' w' ρ' a' hr' hi' hF'
      obtain ⟨rl, hrl⟩ : ∃ l : List ResultVar, fn.results = l.toArray := ⟨fn.results.toList, by simp⟩
      rw [hrl] at hres
      refine ret_go hT (rs := rl) (by cases e <;> simp) hrl hr' hF' (by simpa using hres) fun x hvx => ?_
      have hLR := xk hvx
      obtain ⟨ys, hys, rfl⟩ := hLR
      exact ⟨S', ρ', ys, rfl, hr', hi', hys⟩
     ·cases h
    ·cases h
   ·cases h
  ·cases h
 ·cases h
end
end Go.Proofs.YthnohcipianijaaGreatDoor
namespace Go.Proofs.YthnohcipianijaaGreatDoor
open Go.RowKit Lx Sx
set_option maxRecDepth 100000
def uU : List (List UInt8) → List V → Bool
 | [], [] => true
 | s :: r, .str l :: q => lEq s l && uU r q
 | _, _ => false
def wk (ls : List (List UInt8)) : V → Bool
 | .nils => ls.isEmpty
 | .row sz els => Nat.beq sz 1 && uU ls els
 | _ => false
mutual
def treeB : Tree → V → Bool
 |.node k s ls ks, v => match v with
  |.agg [.int .i64 k', .str s', l, r] => iEq k k' && lEq s s' && wk ls l && (match r with
   | .nils => ks.isEmpty
   | .row sz els => Nat.beq sz 4 && kidsB ks els
   | _ => false)
  | _ => false
def kidsB : List Tree → List V → Bool
 |[], vs => match vs with
  | [] => true
  | _ => false
 |t :: r, vs => match vs with
  | v :: q => treeB t v && kidsB r q
  | [] => false
end
section
variable {S : Nat → Prop} {w : World}
theorem vR {ρ : Nat → Option Value} : ∀ {ls : List (List UInt8)} {els : List V} {xs : List Value}, uU ls els = true → CRel S w ρ 1 els xs → els.length = ls.length ∧ xs = ls.map mA
 | [], [], xs, _, hc => by simp only [CRel] at hc; subst hc; exact ⟨rfl, rfl⟩
 | s :: r, v :: q, xs, hb, hc => by
  cases v <;> simp only [uU] at hb <;> first | (cases hb; done) | skip
  rename_i l
  simp only [Bool.and_eq_true] at hb
  have hl := hb.1
  rw [oF] at hl
  simp only [beq_iff_eq] at hl
  subst hl
  simp only [CRel] at hc
  obtain ⟨x, ys, rfl, _, h3, h4⟩ := hc
  simp only [VRel] at h3
  subst h3
  obtain ⟨h5, h6⟩ := vR hb.2 h4
  exact ⟨by simp [h5], by simp [h6, Value.cells]⟩
 | [], _ :: _, _, hb, _ => by cases hb
 | _ :: _, [], _, hb, _ => by cases hb
theorem Ai {ρ : Nat → Option Value} {ls : List (List UInt8)} {v : V} {x : Value} (hb : wk ls v = true) (hx : VRel S w ρ v x) : ∃ A m, x = .slice A ls.length m ∧ ls.length ≤ m ∧ m ≤ maxLen ∧ RowIn S w 1 A ls.length (ls.map mA) := by
 cases v <;> simp only [wk] at hb <;> first | (cases hb; done) | skip
 ·simp only [List.isEmpty_iff] at hb
  subst hb
  simp only [VRel] at hx; subst hx
  exact ⟨none, 0, rfl, Nat.le_refl _, by decide, RowIn.none_⟩
 ·rename_i sz els
  simp only [Bool.and_eq_true, Nat.beq_eq] at hb
  obtain ⟨rfl, hb⟩ := hb
  simp only [VRel] at hx
  obtain ⟨A, c, xs, rfl, h3, h4, h5, h6⟩ := hx
  obtain ⟨h7, rfl⟩ := vR hb h5
  rw [h7] at h3 h6 ⊢
  exact ⟨A, c, rfl, h3, h4, h6⟩
mutual
theorem treeB_ok {ρ : Nat → Option Value} : ∀ {t : Tree} {v : V} {x : Value}, treeB t v = true → VRel S w ρ v x → ∃ c, x = .agg c.toArray ∧ TreeIs S w t c
 | .node k s ls ks, v, x, hb, hx => by
  unfold treeB at hb
  split at hb
  ·rename_i k' s' l r
   simp only [Bool.and_eq_true] at hb
   obtain ⟨⟨⟨hb1, hb2⟩, hb3⟩, hb4⟩ := hb
   rw [qK] at hb1
   rw [oF] at hb2
   simp only [beq_iff_eq] at hb1 hb2
   subst hb1 hb2
   simp only [VRel] at hx
   obtain ⟨xs, rfl, hl⟩ := hx
   simp only [LRel] at hl
   obtain ⟨x0, _, rfl, h0, x1, _, rfl, h1, x2, _, rfl, h2, x3, _, rfl, h3, rfl⟩ := hl
   simp only [VRel] at h0 h1
   subst h0 h1
   obtain ⟨A, m, rfl, g1, g2, g3⟩ := Ai hb3 h2
   have kk : ∃ B n, x3 = .slice B ks.length n ∧ ks.length ≤ n ∧ n ≤ maxLen ∧ ∃ cs, KidsAre S w ks cs ∧ RowIn S w 4 B ks.length cs := by
    split at hb4
    ·simp only [List.isEmpty_iff] at hb4
     subst hb4
     simp only [VRel] at h3; subst h3
     exact ⟨none, 0, rfl, Nat.le_refl _, by decide, [], by simp only [KidsAre], RowIn.none_⟩
    ·rename_i sz els
     simp only [Bool.and_eq_true, Nat.beq_eq] at hb4
     obtain ⟨rfl, hb4⟩ := hb4
     simp only [VRel] at h3
     obtain ⟨B, c, ys, rfl, q3, q4, q5, q6⟩ := h3
     obtain ⟨q7, q8⟩ := kidsB_ok hb4 q5
     rw [q7] at q3 q6 ⊢
     exact ⟨B, c, rfl, q3, q4, ys, q8, q6⟩
    ·cases hb4
   obtain ⟨B, n, rfl, k1, k2, cs, k3, k4⟩ := kk
   exact ⟨_, rfl, Dg g1 g2 k1 k2 g3 k3 k4⟩
  ·cases hb
theorem kidsB_ok {ρ : Nat → Option Value} : ∀ {ts : List Tree} {vs : List V} {xs : List Value}, kidsB ts vs = true → CRel S w ρ 4 vs xs → vs.length = ts.length ∧ KidsAre S w ts xs
 | [], vs, xs, hb, hc => by
  unfold kidsB at hb
  split at hb
  ·simp only [CRel] at hc; subst hc; exact ⟨rfl, by simp only [KidsAre]⟩
  ·cases hb
 | t :: r, vs, xs, hb, hc => by
  unfold kidsB at hb
  split at hb
  ·rename_i v q
   simp only [Bool.and_eq_true] at hb
   simp only [CRel] at hc
   obtain ⟨x, ys, rfl, _, h3, h4⟩ := hc
   obtain ⟨c, rfl, hT⟩ := treeB_ok hb.1 h3
   obtain ⟨h5, h6⟩ := kidsB_ok hb.2 h4
   exact ⟨by simp [h5], by simp only [KidsAre]; exact ⟨c, ys, by simp [Value.cells], hT, h6⟩⟩
  ·cases hb
end
end
def vS (T : Tab) (k : Nat) (fid : FuncId) (vs : List V) : Option (List V) := match Bu T k fid vs ⟨0, []⟩ with
 | some (rs, H1) => vw 0 H1 rs fun rs' _ => some rs'
 | none => none
theorem oq (i : Nat) : (⟨0, []⟩ : Hp).get i = .free := by
 unfold Hp.get
 have : Nat.blt i 0 = false := by cases i <;> rfl
 simp only [this]
theorem CO (w : World) : HRel (fun _ => False) w (fun _ => none) (⟨0, []⟩ : Hp).get :=
 ⟨fun i => by rw [oq]; rfl, fun i b hb => by rw [oq] at hb; exact hb.elim, fun i j b hb _ => by rw [oq] at hb; exact hb.elim, fun _ h => h.elim⟩
theorem DS {P : Program} {T : Tab} (hT : TabOk P T) (hm : P.follows .mixedOrders = true) {k : Nat} {fid : FuncId} {vs rs : List V} (h : vS T k fid vs = some rs) {w : World} {xs : List Value} (hx : LRel (fun _ => False) w (fun _ => none) vs xs) :
  Calls P fid xs.toArray w fun e w' => ∃ S' ρ' ys, e = .returned (qG ys) ∧ (∀ b, S' b → w.heap.size ≤ b) ∧ Chg [] w w' ∧ LRel S' w' ρ' rs ys := by
 unfold vS at h
 split at h
 ·rename_i rs1 H1 hrun
  obtain ⟨rs2, H2, e1, _, e3⟩ := tB 0 rs1 H1
  rw [e1] at h
  injection h with h; subst h
  have hr0 := CO w
  refine (DL hT hm hrun hr0 hx).2.mono fun e w' hR => ?_
  obtain ⟨S', ρ', ys, rfl, hr, hi, hl⟩ := hR
  obtain ⟨S2, a1, a2, a3, a4⟩ := e3 _ S' w' ρ' ys hr hi hl
  have hno : ∀ b, ¬ ∃ id, own (fun _ => none) id ((⟨0, []⟩ : Hp).get id) b := fun b ⟨id, hb⟩ => by rw [oq] at hb; exact hb
  refine ⟨S2, ρ', ys, rfl, fun b hb => ?_, ⟨hi.chg.os, hi.chg.tape, hi.chg.output, hi.chg.size, fun b hb _ => hi.chg.block b hb (hno b)⟩, a4⟩
  rcases a2.s1 b hb with h | h | h
  ·exact h.elim
  ·exact absurd h (hno b)
  ·exact h
 ·cases h
def BU (fid : FuncId) (vs : List V) : Option V := match Nat.beq fid 121 with
 |true => match vs with
  | [.str s, .int .u8 (.ofNat c)] => yr (Lib.indexByte s c.toUInt8) fun n => some (.int .i64 n)
  | _ => none
 | false => none
noncomputable def yn : Tab := ⟨true, mg tyL, mg fnL, BU, fun f => Nat.beq f 50⟩
theorem CY : TabOk Tryz.prog yn := by
 refine ⟨zN, Fd, fun i vs v hv => ?_⟩
 replace hv : BU i vs = some v := hv
 unfold BU at hv
 split at hv
 ·rename_i hb
  have := Nat.eq_of_beq_eq_true hb
  subst this
  split at hv
  ·rename_i s c
   rw [wY] at hv
   injection hv with hv; subst hv
   refine ⟨by kernel_rfl, fun S w ρ xs hx => ?_⟩
   simp only [LRel] at hx
   obtain ⟨x0, _, rfl, h0, x1, _, rfl, h1, rfl⟩ := hx
   simp only [VRel] at h0 h1
   subst h0 h1
   exact ⟨_, by simp only [VRel]; rfl, za _ _ _⟩
  ·cases hv
 ·cases hv
def rr (t : Tree) : Option (List V) → Bool
 | some [v, .int .i64 a, .int .i64 e] => treeB t v && iEq a 0 && iEq e 0
 | _ => false
theorem Bb {k : Nat} {l : List UInt8} {t : Tree} (h : rr t (vS yn k 27 [.str l]) = true) {w : World} : Calls Tryz.prog 27 [mA l].toArray w fun e w' => ∃ c0 c1 c2 c3, e = .returned (.tuple #[.agg #[c0, c1, c2, c3], .int .i64 0, .int .i64 0]) ∧ TreeIs (fun b => w.heap.size ≤ b) w' t [c0, c1, c2, c3] ∧ Chg [] w w' := by
 unfold rr at h
 split at h
 ·rename_i v a e hr
  simp only [Bool.and_eq_true, qK, beq_iff_eq] at h
  obtain ⟨⟨h1, rfl⟩, rfl⟩ := h
  refine (DS CY (by kernel_rfl) hr (xs := [mA l]) ⟨_, [], rfl, by simp only [VRel], rfl⟩).mono fun e w' hR => ?_
  obtain ⟨S', ρ', ys, rfl, g1, g2, g3⟩ := hR
  simp only [LRel] at g3
  obtain ⟨x0, _, rfl, h0, x1, _, rfl, h2, x2, _, rfl, h3, rfl⟩ := g3
  simp only [VRel] at h2 h3
  subst h2 h3
  obtain ⟨c, rfl, hT⟩ := treeB_ok h1 h0
  have h4 := hT.four
  match c, h4, hT with
  | [c0, c1, c2, c3], _, hT => exact ⟨c0, c1, c2, c3, rfl, hT.keep g1 (fun _ _ _ => rfl), g2⟩
 ·cases h
end Go.Proofs.YthnohcipianijaaGreatDoor
