/- Contracts of the functions that the law reaches, part 7. -/
import Derived.Test.YtomplbgchbfjpaaGreatDoorLa6
set_option linter.unusedVariables false
set_option linter.unusedSimpArgs false
namespace Go.Proofs.YtomplbgchbfjpaaGreatDoor
open Go.RowKit Lx Sx
set_option maxRecDepth 100000
set_option maxHeartbeats 4000000
structure aa where
 Lead : (List UInt8)
 Text : (List UInt8)
abbrev aa.c (x : aa) : List V := [.str x.Lead, .str x.Text]
abbrev aa.w (x : aa) : V := .agg x.c
abbrev vB (a0 : List Int) (a1 : Int) : Ob := .var 118 [.row 1 (List.map (V.int .i64) a0), .int .i64 a1]
theorem vG (σ : List Nat) (l) : renL σ (List.map aa.w l) = List.map aa.w l := oy σ aa.w (fun _ => rfl) l
def jT (p0 : List UInt8) (p1 r0 : Bool) : Prop := qS 152 [.str p0, .bool p1] (.bool r0)
def oR (p0 p1 : List UInt8) (r0 : Bool) : Prop := qS 114 [.str p0, .str p1] (.bool r0)
def nj (p0 p1 r0 : Int) : Prop := qS 69 [.int .i64 p0, .int .i64 p1] (.int .i64 r0)
def qq (p0 b : List Int) (a : Int) : Prop := bu [] Tryz.prog 41 [.row 1 (List.map (V.int .i64) p0)] ⟨0, []⟩ (fun u G => u = .ptr 0 0 ∧ G = ⟨1, [(0, vB b a)]⟩)
def lA (p0 : List Int) (r0 : Bool) : Prop := qS 16 [.row 1 (List.map (V.int .i64) p0)] (.bool r0)
def be (c : List Int) (a : Int) (p1 : (List (List UInt8))) (r0 : List UInt8) (d : List Int) (b : Int) : Prop := bu [] Tryz.prog 108 [.ptr 0 0, .row 1 (List.map V.str p1)] ⟨1, [(0, vB c a)]⟩ (fun u G => u = .str r0 ∧ G = ⟨1, [(0, vB d b)]⟩)
def cx (c : List Int) (a p1 : Int) (r0 : Tree) (d : List Int) (b : Int) : Prop := bu [] Tryz.prog 109 [.ptr 0 0, .int .i64 p1] ⟨1, [(0, vB c a)]⟩ (fun u G => u = .agg (ak r0) ∧ G = ⟨2, [(0, vB d b)]⟩)
def eK (c : List Int) (a p1 : Int) (r0 : Tree) (d : List Int) (b : Int) : Prop := bu [] Tryz.prog 149 [.ptr 0 0, .int .i64 p1] ⟨1, [(0, vB c a)]⟩ (fun u G => u = .agg (ak r0) ∧ G = ⟨2, [(0, vB d b)]⟩)
def aL (c : List Int) (a p1 : Int) (r0 : Tree) (d : List Int) (b : Int) : Prop := bu [] Tryz.prog 110 [.ptr 0 0, .int .i64 p1] ⟨1, [(0, vB c a)]⟩ (fun u G => u = .agg (ak r0) ∧ G = ⟨2, [(0, vB d b)]⟩)
def nr (c : List Int) (a : Int) (r0 : Tree) (d : List Int) (b : Int) : Prop := bu [] Tryz.prog 70 [.ptr 0 0] ⟨1, [(0, vB c a)]⟩ (fun u G => u = .agg (ak r0) ∧ G = ⟨2, [(0, vB d b)]⟩)
def iL (c : List Int) (a : Int) (p1 r0 : Tree) (d : List Int) (b : Int) : Prop := bu [] Tryz.prog 72 [.ptr 0 0, .agg (ak p1)] ⟨1, [(0, vB c a)]⟩ (fun u G => u = .agg (ak r0) ∧ G = ⟨2, [(0, vB d b)]⟩)
def kK (c : List Int) (a : Int) (p1 : List UInt8) (r0 : Tree) (d : List Int) (b : Int) : Prop := bu [] Tryz.prog 43 [.ptr 0 0, .str p1] ⟨1, [(0, vB c a)]⟩ (fun u G => u = .agg (ak r0) ∧ G = ⟨2, [(0, vB d b)]⟩)
def kr (p0 : List Int) (r0 : List Tree) : Prop := qS 17 [.row 1 (List.map (V.int .i64) p0)] (.row 4 (kidsV r0))
def aC (c : List Int) (a p1 r0 : Int) (d : List Int) (b : Int) : Prop := bu [] Tryz.prog 42 [.ptr 0 0, .int .i64 p1] ⟨1, [(0, vB c a)]⟩ (fun u G => u = .int .i64 r0 ∧ G = ⟨1, [(0, vB d b)]⟩)
def jW (p0 : Int) (r0 : (List (List UInt8))) : Prop := bu [] Tryz.prog 150 [.int .i64 p0] ⟨0, []⟩ (fun u G => u = .sl 0 ∧ G = ⟨1, [(0, .row 9 1 (List.map V.str r0))]⟩)
def jU (p0 : Tree) (p1 : Int) (p2 r0 : List UInt8) : Prop := qS 151 [.agg (ak p0), .int .i64 p1, .str p2] (.str r0)
def fQ (p0 : Tree) (p1 : List UInt8) (r0 : Tree) : Prop := qS 111 [.agg (ak p0), .str p1] (.agg (ak r0))
def jC (p0 r0 : Tree) : Prop := qS 71 [.agg (ak p0)] (.agg (ak r0))
def ff (p0 : Tree) (r0 : Bool) : Prop := qS 44 [.agg (ak p0)] (.bool r0)
def fc (p0 : Tree) (r0 : Bool) : Prop := qS 73 [.agg (ak p0)] (.bool r0)
def ii (p0 : Tree) (r0 : Bool) : Prop := qS 112 [.agg (ak p0)] (.bool r0)
def gr (p0 : Tree) (r0 : Bool) : Prop := qS 74 [.agg (ak p0)] (.bool r0)
def hD (p0 : Tree) (r0 : Int) : Prop := qS 75 [.agg (ak p0)] (.int .i64 r0)
def kI (p0 : Tree) (r0 : List UInt8) : Prop := qS 76 [.agg (ak p0)] (.str r0)
def oq (p0 : Tree) (r0 : List aa) : Prop := qS 113 [.agg (ak p0)] (.row 2 (List.map aa.w r0))
def aq (p0 : List aa) (p1 : Tree) (r0 : List aa) : Prop := bu [] Tryz.prog 153 [.sl 0, .agg (ak p1)] ⟨1, [(0, .row 164 2 (List.map aa.w p0))]⟩ (fun u G => u = .sl 1 ∧ G = ⟨2, [(1, .row 164 2 (List.map aa.w r0))]⟩)
def eL (p0 : List aa) (p1 : Tree) (p2 p3 p4 : Int) (r0 : List aa) : Prop := bu [] Tryz.prog 176 [.sl 0, .agg (ak p1), .int .i64 p2, .int .i64 p3, .int .i64 p4] ⟨1, [(0, .row 164 2 (List.map aa.w p0))]⟩ (fun u G => u = .sl 1 ∧ G = ⟨2, [(1, .row 164 2 (List.map aa.w r0))]⟩)
def ao (p0 : Tree) (p1 : Int) (r0 : List UInt8) : Prop := qS 175 [.agg (ak p0), .int .i64 p1] (.str r0)
theorem qm (m : Nat) (p0 p1 r0 : Int) (h : p1 ≠ 0 ∧ (((Int.tmod p0 p1) < 0) → InI ((Int.tmod p0 p1) + p1) ∧ ((Int.tmod p0 p1) + p1) = r0) ∧ ((¬ (Int.tmod p0 p1) < 0) → (Int.tmod p0 p1) = r0)) : nj p0 p1 r0 := by
 refine ⟨rfl, rfl, ?_⟩
 refine qA 14 [] Tryz.func69 fun K hK => ?_
 refine gR 9 rfl ?_
 obtain ⟨hb, h⟩ := h
 refine gY (Nx rfl rfl hb) rfl rfl <| gR 10 rfl <| qBd 9 rfl rfl rfl h ?_ ?_ <;> intro h
 refine gR 4 rfl ?_
 obtain ⟨hb, h⟩ := h
 refine gR 1 rfl <| gV 12 (.int .i64 ((Int.tmod p0 p1) + p1)) rfl (al hb rfl) rfl <| gR 10 rfl ?_
 subst h
 exact qN [.tmp 4]
 refine gR 10 rfl ?_
 subst h
 exact qN [.tmp 4]
theorem vc (m : Nat) (p0 b : List Int) (a : Int) (h : p0.length ≤ 1000000000 ∧ p0 = b ∧ 0 = a) : qq p0 b a := by
 refine qA 8 [] Tryz.func41 fun K hK => ?_
 refine gR 9 rfl ?_
 obtain ⟨hb, h⟩ := h
 refine gDo (.repl 0 (.row 3 1 (List.map (V.int .i64) p0))) (bJ ai rfl rfl rfl rfl rfl (List.nil_append _) (by rw [az]; exact hb)) (okR rfl) rfl rfl rfl <| gR 6 rfl <| gFR 1 rfl (hZ _ (fun _ => rfl) _) rfl rfl ?_
 obtain ⟨rfl, rfl⟩ := h
 exact gE hK [] [(2, .ptr 0 0)] [2] [.tmp 2]
theorem uA (m : Nat) (p0 : List Int) (r0 : Bool) (h : decide ((p0.length : Int) ≤ 120) = r0) : lA p0 r0 := by
 refine ⟨rfl, rfl, ?_⟩
 refine qA 6 [] Tryz.func16 fun K hK => ?_
 refine gR 9 rfl <| gV 4 (.int .i64 (p0.length : Int)) rfl (aP (az (V.int .i64) _)) rfl <| gLB 3 rfl (az (V.int .i64) _) fun a => gR 5 rfl ?_
 subst h
 exact qN [.tmp 2]
theorem uX (m : Nat) (k : List Int) (c : Int) (p1 : (List (List UInt8))) (r0 : List UInt8) (l : List Int) (d : Int) (h : ∃ e g i, aC k c (p1.length : Int) e g i ∧ ∃ a, e = ((a : Nat) : Int) ∧ ∃ b, p1[a]? = some b ∧ b = r0 ∧ g = l ∧ i = d) : be k c p1 r0 l d := by
 refine qA 12 [0] Tryz.func108 fun K hK => ?_
 refine gR 11 rfl <| gV 8 (.int .i64 (p1.length : Int)) rfl (aP (az V.str _)) rfl <| gLB 7 rfl (az V.str _) fun p => ?_
 obtain ⟨e, g, i, o, h⟩ := h
 refine qC o [0] ?_
 obtain ⟨a, n, h⟩ := h
 refine gV 9 (.int .i64 ((a : Nat) : Int)) rfl (aZ n) rfl ?_
 obtain ⟨b, j, h⟩ := h
 refine gY (aH (mapget (f := V.str) j) ai rfl rfl rfl rfl) rfl rfl <| gR 5 rfl ?_
 obtain ⟨rfl, rfl, rfl⟩ := h
 exact gE hK [] [(4, .str b)] [0] [.tmp 4]
def fX (m : Nat) (p1 b : Int) (c : List Int) (d : Int) (e : Bool) (r0 : Tree) (f : List Int) (a : Int) : Prop := ∀ (K : Ctx), av K [0] → qLG K Tryz.f109 (fun u G => u = .agg (ak r0) ∧ G = ⟨2, [(0, vB f a)]⟩) (cB (xD (cA (cB (ah Tryz.f109))))) [.blk 0, .seq (xA (ah Tryz.f109))] 32 (mkF 32 0 [(0, .ptr 0 0), (1, .int .i64 p1), (4, .ptr 1 0), (6, .int .i64 b), (7, .bool e)]) ⟨2, [(1, vD 0 []), (0, vB c d)]⟩
theorem jp (m : Nat) (g : List Int) (e p1 : Int) (r0 : Tree) (f : List Int) (b : Int) (h : ∃ a c d, aC g e 7 a c d ∧ ((a = 0) → fX m p1 a c d true r0 f b) ∧ ((a ≠ 0) → fX m p1 a c d (a == 1) r0 f b)) : cx g e p1 r0 f b := by
 refine qA 32 [0] Tryz.func109 fun K hK => ?_
 refine gR 9 rfl ?_
 obtain ⟨a, c, d, i, h⟩ := h
 refine qC i [0] ?_
 refine gR 10 rfl <| qBeZ 7 8 rfl rfl rfl rfl h ?_ ?_ <;> intro h
 exact gR 3 rfl <| qJ hK (h K hK) [0, 1]
 exact gR 6 rfl <| qJ hK (h K hK) [0, 1]
theorem bo (m : Nat) (p1 c : Int) (d : List Int) (e : Int) (i : Bool) (r0 : Tree) (f : List Int) (a : Int) (h : ((i = true) → (Tree.node 5 [] [] []) = r0 ∧ d = f ∧ e = a) ∧ ((i = false) → ((c = 2) → (Tree.node 7 [] [] []) = r0 ∧ d = f ∧ e = a) ∧ ((c ≠ 2) → ((c = 3) → (Tree.node 6 [] [] []) = r0 ∧ d = f ∧ e = a) ∧ ((c ≠ 3) → ((c = 4) → ∃ g j k, be d e [[84], [85], [65, 46, 84], [66, 46, 85]] g j k ∧ (Tree.node 9 g [] []) = r0 ∧ j = f ∧ k = a) ∧ ((c ≠ 4) → ((p1 < 1) → (Tree.node 5 [] [] []) = r0 ∧ d = f ∧ e = a) ∧ ((¬ p1 < 1) → InI (p1 - 1) ∧ ∃ b l n, cx d e (p1 - 1) b l n ∧ (Tree.node 8 [] [] [b]) = r0 ∧ l = f ∧ n = a)))))) : fX (m + 1) p1 c d e i r0 f a := by
 intro K hK
 refine qBi 7 rfl rfl rfl h ?_ ?_ <;> intro h
 refine gR 10 rfl ?_
 obtain ⟨rfl, rfl, rfl⟩ := h
 exact gE hK [(1, vC ((Tree.node 5 [] [] []).kind) ((Tree.node 5 [] [] []).text) ((Tree.node 5 [] [] []).leads) ((Tree.node 5 [] [] []).kids))] [(4, .ptr 1 0)] [0, 1] [.cell 4 29] (hH := ⟨⟨_, rfl, ⟨rfl, (.cons .rfl (.cons .rfl (.cons (.nil 1) (.cons (.nil 4) .nil))))⟩⟩, ⟨⟨_, rfl, ⟨rfl, aJ.rfl⟩⟩, trivial⟩⟩)
 refine gR 7 rfl <| qBeZ 11 12 rfl rfl rfl rfl h ?_ ?_ <;> intro h
 refine gR 10 rfl ?_
 obtain ⟨rfl, rfl, rfl⟩ := h
 exact gE hK [(1, vC ((Tree.node 7 [] [] []).kind) ((Tree.node 7 [] [] []).text) ((Tree.node 7 [] [] []).leads) ((Tree.node 7 [] [] []).kids))] [(4, .ptr 1 0)] [0, 1] [.cell 4 29] (hH := ⟨⟨_, rfl, ⟨rfl, (.cons .rfl (.cons .rfl (.cons (.nil 1) (.cons (.nil 4) .nil))))⟩⟩, ⟨⟨_, rfl, ⟨rfl, aJ.rfl⟩⟩, trivial⟩⟩)
 refine gR 7 rfl <| qBeZ 14 15 rfl rfl rfl rfl h ?_ ?_ <;> intro h
 refine gR 10 rfl ?_
 obtain ⟨rfl, rfl, rfl⟩ := h
 exact gE hK [(1, vC ((Tree.node 6 [] [] []).kind) ((Tree.node 6 [] [] []).text) ((Tree.node 6 [] [] []).leads) ((Tree.node 6 [] [] []).kids))] [(4, .ptr 1 0)] [0, 1] [.cell 4 29] (hH := ⟨⟨_, rfl, ⟨rfl, (.cons .rfl (.cons .rfl (.cons (.nil 1) (.cons (.nil 4) .nil))))⟩⟩, ⟨⟨_, rfl, ⟨rfl, aJ.rfl⟩⟩, trivial⟩⟩)
 refine gR 7 rfl <| qBeZ 17 18 rfl rfl rfl rfl h ?_ ?_ <;> intro h
 refine gR 5 rfl <| gFR 2 rfl rfl rfl rfl ?_
 obtain ⟨g, j, k, p, h⟩ := h
 refine qC p [0] ?_
 refine gR 7 rfl ?_
 obtain ⟨rfl, rfl, rfl⟩ := h
 exact gE hK [(1, vC ((Tree.node 9 g [] []).kind) ((Tree.node 9 g [] []).text) ((Tree.node 9 g [] []).leads) ((Tree.node 9 g [] []).kids))] [(4, .ptr 1 0)] [0, 1] [.cell 4 29] (hH := ⟨⟨_, rfl, ⟨rfl, (.cons .rfl (.cons .rfl (.cons (.nil 1) (.cons (.nil 4) .nil))))⟩⟩, ⟨⟨_, rfl, ⟨rfl, aJ.rfl⟩⟩, trivial⟩⟩)
 refine gR 11 rfl <| qBd 24 rfl rfl rfl h ?_ ?_ <;> intro h
 refine gR 9 rfl ?_
 obtain ⟨rfl, rfl, rfl⟩ := h
 exact gE hK [(1, vC ((Tree.node 5 [] [] []).kind) ((Tree.node 5 [] [] []).text) ((Tree.node 5 [] [] []).leads) ((Tree.node 5 [] [] []).kids))] [(4, .ptr 1 0)] [0, 1] [.cell 4 29] (hH := ⟨⟨_, rfl, ⟨rfl, (.cons .rfl (.cons .rfl (.cons (.nil 1) (.cons (.nil 4) .nil))))⟩⟩, ⟨⟨_, rfl, ⟨rfl, aJ.rfl⟩⟩, trivial⟩⟩)
 refine gR 7 rfl ?_
 obtain ⟨hb, h⟩ := h
 refine gR 1 rfl <| gV 28 (.int .i64 (p1 - 1)) rfl (al hb rfl) rfl ?_
 obtain ⟨b, l, n, o, h⟩ := h
 refine qC o [0] ?_
 refine gR 1 rfl <| gHR 4 (kidsV [b]) rfl (kL b) rfl <| gR 5 rfl <| gFR 4 rfl (cq _) rfl rfl ?_
 obtain ⟨rfl, rfl, rfl⟩ := h
 exact gE hK [(1, vC ((Tree.node 8 [] [] [b]).kind) ((Tree.node 8 [] [] [b]).text) ((Tree.node 8 [] [] [b]).leads) ((Tree.node 8 [] [] [b]).kids))] [(4, .ptr 1 0)] [0, 1] [.cell 4 29] (hH := ⟨⟨_, rfl, ⟨rfl, (.cons .rfl (.cons .rfl (.cons (.nil 1) (.cons .rfl .nil))))⟩⟩, ⟨⟨_, rfl, ⟨rfl, aJ.rfl⟩⟩, trivial⟩⟩)
theorem pR (m : Nat) (i : List Int) (f p1 : Int) (r0 : Tree) (g : List Int) (b : Int) (h : ∃ a c d, aL i f p1 a c d ∧ ∃ e, gv a.kind e ∧ ((e = false) → (Tree.node 22 [] [] [a]) = r0 ∧ c = g ∧ d = b) ∧ ((e = true) → a = r0 ∧ c = g ∧ d = b)) : eK i f p1 r0 g b := by
 refine qA 17 [0] Tryz.func149 fun K hK => ?_
 refine gR 9 rfl ?_
 obtain ⟨a, c, d, j, h⟩ := h
 refine qC j [0] ?_
 refine gR 9 rfl ?_
 obtain ⟨e, k, h⟩ := h
 refine qC0 k rfl <| gR 3 rfl <| qBh 12 rfl rfl rfl h ci ch ?_ ?_ <;> intro h
 refine gR 5 rfl <| gHR 5 (kidsV [a]) rfl (kL a) rfl <| gR 6 rfl <| gFR 5 rfl (cq _) rfl rfl ?_
 obtain ⟨rfl, rfl, rfl⟩ := h
 exact gE hK [(1, vC ((Tree.node 22 [] [] [a]).kind) ((Tree.node 22 [] [] [a]).text) ((Tree.node 22 [] [] [a]).leads) ((Tree.node 22 [] [] [a]).kids))] [(4, .ptr 1 0)] [0, 1] [.cell 4 29] (hH := ⟨⟨_, rfl, ⟨rfl, (.cons .rfl (.cons .rfl (.cons (.nil 1) (.cons .rfl .nil))))⟩⟩, ⟨⟨_, rfl, ⟨rfl, aJ.rfl⟩⟩, trivial⟩⟩)
 refine gR 10 rfl ?_
 obtain ⟨rfl, rfl, rfl⟩ := h
 exact gE hK [(1, vC a.kind a.text a.leads a.kids)] [(4, .ptr 1 0)] [0, 1] [.cell 4 29]
def cr (m : Nat) (p1 : Int) (b : List Int) (c d : Int) (r0 : Tree) (e : List Int) (a : Int) : Prop := ∀ (K : Ctx), av K [0] → qLG K Tryz.f110 (fun u G => u = .agg (ak r0) ∧ G = ⟨2, [(0, vB e a)]⟩) (xH (ah Tryz.f110)) [] 168 (mkF 168 0 [(0, .ptr 0 0), (1, .int .i64 p1), (4, .ptr 1 0), (5, .int .i64 d)]) ⟨2, [(1, vD 0 []), (0, vB b c)]⟩
def lC (m : Nat) (p1 : Int) (b : List Int) (c d : Int) (e : Bool) (r0 : Tree) (f : List Int) (a : Int) : Prop := ∀ (K : Ctx), av K [0] → qLG K Tryz.f110 (fun u G => u = .agg (ak r0) ∧ G = ⟨2, [(0, vB f a)]⟩) (cB (xF (cB (ah Tryz.f110)))) [.blk 0, .seq (xJ (ah Tryz.f110))] 168 (mkF 168 0 [(0, .ptr 0 0), (1, .int .i64 p1), (4, .ptr 1 0), (24, .int .i64 d), (25, .bool e)]) ⟨2, [(1, vD 0 []), (0, vB b c)]⟩
def iy (m : Nat) (p1 : Int) (b : List Int) (c d : Int) (r0 : Tree) (e : List Int) (a : Int) : Prop := ∀ (K : Ctx), av K [0] → qLG K Tryz.f110 (fun u G => u = .agg (ak r0) ∧ G = ⟨2, [(0, vB e a)]⟩) (xB (xF (cB (ah Tryz.f110)))) [.blk 0, .seq (xJ (ah Tryz.f110))] 168 (mkF 168 0 [(0, .ptr 0 0), (1, .int .i64 p1), (4, .ptr 1 0), (24, .int .i64 d)]) ⟨2, [(1, vD 0 []), (0, vB b c)]⟩
def pV (m : Nat) (p1 : Int) (b : List Int) (c d : Int) (r0 : Tree) (e : List Int) (a : Int) : Prop := ∀ (K : Ctx), av K [0] → qLG K Tryz.f110 (fun u G => u = .agg (ak r0) ∧ G = ⟨2, [(0, vB e a)]⟩) (xC (xF (cB (ah Tryz.f110)))) [.blk 0, .seq (xJ (ah Tryz.f110))] 168 (mkF 168 0 [(0, .ptr 0 0), (1, .int .i64 p1), (4, .ptr 1 0), (24, .int .i64 d)]) ⟨2, [(1, vD 0 []), (0, vB b c)]⟩
def pK (m : Nat) (p1 : Int) (b : List Int) (c d : Int) (r0 : Tree) (e : List Int) (a : Int) : Prop := ∀ (K : Ctx), av K [0] → qLG K Tryz.f110 (fun u G => u = .agg (ak r0) ∧ G = ⟨2, [(0, vB e a)]⟩) (xC (xB (xF (cB (ah Tryz.f110))))) [.blk 0, .seq (xJ (ah Tryz.f110))] 168 (mkF 168 0 [(0, .ptr 0 0), (1, .int .i64 p1), (4, .ptr 1 0), (24, .int .i64 d)]) ⟨2, [(1, vD 0 []), (0, vB b c)]⟩
def pN (m : Nat) (p1 : Int) (b : List Int) (c d : Int) (r0 : Tree) (e : List Int) (a : Int) : Prop := ∀ (K : Ctx), av K [0] → qLG K Tryz.f110 (fun u G => u = .agg (ak r0) ∧ G = ⟨2, [(0, vB e a)]⟩) (xG (xF (cB (ah Tryz.f110)))) [.blk 0, .seq (xJ (ah Tryz.f110))] 168 (mkF 168 0 [(0, .ptr 0 0), (1, .int .i64 p1), (4, .ptr 1 0), (24, .int .i64 d)]) ⟨2, [(1, vD 0 []), (0, vB b c)]⟩
def iH (m : Nat) (p1 : Int) (b : List Int) (c d : Int) (r0 : Tree) (e : List Int) (a : Int) : Prop := ∀ (K : Ctx), av K [0] → qLG K Tryz.f110 (fun u G => u = .agg (ak r0) ∧ G = ⟨2, [(0, vB e a)]⟩) (xG (xB (xF (cB (ah Tryz.f110))))) [.blk 0, .seq (xJ (ah Tryz.f110))] 168 (mkF 168 0 [(0, .ptr 0 0), (1, .int .i64 p1), (4, .ptr 1 0), (24, .int .i64 d)]) ⟨2, [(1, vD 0 []), (0, vB b c)]⟩
def lw (m : Nat) (p1 : Int) (b : List Int) (c d : Int) (e : Bool) (r0 : Tree) (f : List Int) (a : Int) : Prop := ∀ (K : Ctx), av K [0] → qLG K Tryz.f110 (fun u G => u = .agg (ak r0) ∧ G = ⟨2, [(0, vB f a)]⟩) (cB (xG (xB (xF (cB (ah Tryz.f110)))))) [.blk 0, .seq (xJ (ah Tryz.f110))] 168 (mkF 168 0 [(0, .ptr 0 0), (1, .int .i64 p1), (4, .ptr 1 0), (24, .int .i64 d), (57, .bool e)]) ⟨2, [(1, vD 0 []), (0, vB b c)]⟩
def lu (m : Nat) (p1 : Int) (b : List Int) (c : Int) (r0 : Tree) (d : List Int) (a : Int) : Prop := ∀ (K : Ctx), av K [0] → qLG K Tryz.f110 (fun u G => u = .agg (ak r0) ∧ G = ⟨2, [(0, vB d a)]⟩) (xK (xG (xB (xF (cB (ah Tryz.f110)))))) [.blk 0, .seq (xJ (ah Tryz.f110))] 168 (mkF 168 0 [(0, .ptr 0 0), (1, .int .i64 p1), (4, .ptr 1 0)]) ⟨2, [(1, vD 0 []), (0, vB b c)]⟩
def fx (m : Nat) (p1 : Int) (b : List Int) (c d : Int) (r0 : Tree) (e : List Int) (a : Int) : Prop := ∀ (K : Ctx), av K [0] → qLG K Tryz.f110 (fun u G => u = .agg (ak r0) ∧ G = ⟨2, [(0, vB e a)]⟩) (xG (xC (xF (cB (ah Tryz.f110))))) [.blk 0, .seq (xJ (ah Tryz.f110))] 168 (mkF 168 0 [(0, .ptr 0 0), (1, .int .i64 p1), (4, .ptr 1 0), (24, .int .i64 d)]) ⟨2, [(1, vD 0 []), (0, vB b c)]⟩
def ic (m : Nat) (p1 : Int) (f : List UInt8) (a : List Int) (b : Int) (c : List Tree) (d : Int) (r0 : Tree) (g : List Int) (e : Int) : Prop := ∀ (K : Ctx) (j1 : Nat), av K [0] → m ≤ j1 → qLG K Tryz.f110 (fun u G => u = .agg (ak r0) ∧ G = ⟨2, [(0, vB g e)]⟩) (xL (cA (cB (xK (xG (xB (xF (cB (ah Tryz.f110))))))))) [.loop (xL (cA (cB (xK (xG (xB (xF (cB (ah Tryz.f110))))))))) j1, .blk 1, .seq (xA (xK (xG (xB (xF (cB (ah Tryz.f110))))))), .blk 0, .seq (xJ (ah Tryz.f110))] 168 (mkF 168 0 [(0, .ptr 0 0), (1, .int .i64 p1), (4, .ptr 1 0), (6, .ptr 2 0), (7, .int .i64 d)]) ⟨4, [(3, .row 29 4 (kidsV c)), (2, .var 29 [.int .i64 16, .str f, .nils, .sl 3]), (1, vD 0 []), (0, vB a b)]⟩
def ig (m : Nat) (p1 : Int) (a : List Int) (b : Int) (c : List Tree) (d : Int) (r0 : Tree) (f : List Int) (e : Int) : Prop := ∀ (K : Ctx) (j1 : Nat), av K [0] → m ≤ j1 → qLG K Tryz.f110 (fun u G => u = .agg (ak r0) ∧ G = ⟨2, [(0, vB f e)]⟩) (xL (cA (cB (xK (xG (xC (xF (cB (ah Tryz.f110))))))))) [.loop (xL (cA (cB (xK (xG (xC (xF (cB (ah Tryz.f110))))))))) j1, .blk 3, .seq (xA (xK (xG (xC (xF (cB (ah Tryz.f110))))))), .blk 0, .seq (xJ (ah Tryz.f110))] 168 (mkF 168 0 [(0, .ptr 0 0), (1, .int .i64 p1), (4, .ptr 1 0), (8, .ptr 2 0), (9, .int .i64 d)]) ⟨4, [(3, .row 29 4 (kidsV c)), (2, .var 29 [.int .i64 18, .str [], .nils, .sl 3]), (1, vD 0 []), (0, vB a b)]⟩
def hI (m : Nat) (p1 : Int) (b : List Int) (c d : Int) (r0 : Tree) (e : List Int) (a : Int) : Prop := ∀ (K : Ctx), av K [0] → qLG K Tryz.f110 (fun u G => u = .agg (ak r0) ∧ G = ⟨2, [(0, vB e a)]⟩) (xG (xC (xB (xF (cB (ah Tryz.f110)))))) [.blk 0, .seq (xJ (ah Tryz.f110))] 168 (mkF 168 0 [(0, .ptr 0 0), (1, .int .i64 p1), (4, .ptr 1 0), (24, .int .i64 d)]) ⟨2, [(1, vD 0 []), (0, vB b c)]⟩
def oS (m : Nat) (p1 : Int) (b : List Int) (c : Int) (r0 : Tree) (d : List Int) (a : Int) : Prop := ∀ (K : Ctx), av K [0] → qLG K Tryz.f110 (fun u G => u = .agg (ak r0) ∧ G = ⟨2, [(0, vB d a)]⟩) (xK (xG (xC (xB (xF (cB (ah Tryz.f110))))))) [.blk 0, .seq (xJ (ah Tryz.f110))] 168 (mkF 168 0 [(0, .ptr 0 0), (1, .int .i64 p1), (4, .ptr 1 0)]) ⟨2, [(1, vD 0 []), (0, vB b c)]⟩
def fh (m : Nat) (p1 : Int) (b : List Int) (c d : Int) (r0 : Tree) (e : List Int) (a : Int) : Prop := ∀ (K : Ctx), av K [0] → qLG K Tryz.f110 (fun u G => u = .agg (ak r0) ∧ G = ⟨2, [(0, vB e a)]⟩) (xN (xF (cB (ah Tryz.f110)))) [.blk 0, .seq (xJ (ah Tryz.f110))] 168 (mkF 168 0 [(0, .ptr 0 0), (1, .int .i64 p1), (4, .ptr 1 0), (24, .int .i64 d)]) ⟨2, [(1, vD 0 []), (0, vB b c)]⟩
def kX (m : Nat) (p1 : Int) (c : List Int) (d e : Int) (a : Bool) (r0 : Tree) (f : List Int) (b : Int) : Prop := ∀ (K : Ctx), av K [0] → qLG K Tryz.f110 (fun u G => u = .agg (ak r0) ∧ G = ⟨2, [(0, vB f b)]⟩) (cB (xN (xF (cB (ah Tryz.f110))))) [.blk 0, .seq (xJ (ah Tryz.f110))] 168 (mkF 168 0 [(0, .ptr 0 0), (1, .int .i64 p1), (4, .ptr 1 0), (24, .int .i64 e), (118, .bool a)]) ⟨2, [(1, vD 0 []), (0, vB c d)]⟩
def kS (m : Nat) (p1 : Int) (b : List Int) (c : Int) (r0 : Tree) (d : List Int) (a : Int) : Prop := ∀ (K : Ctx), av K [0] → qLG K Tryz.f110 (fun u G => u = .agg (ak r0) ∧ G = ⟨2, [(0, vB d a)]⟩) (xK (xN (xF (cB (ah Tryz.f110))))) [.blk 0, .seq (xJ (ah Tryz.f110))] 168 (mkF 168 0 [(0, .ptr 0 0), (1, .int .i64 p1), (4, .ptr 1 0)]) ⟨2, [(1, vD 0 []), (0, vB b c)]⟩
def ie (m : Nat) (p1 : Int) (b : List Int) (c d : Int) (r0 : Tree) (e : List Int) (a : Int) : Prop := ∀ (K : Ctx), av K [0] → qLG K Tryz.f110 (fun u G => u = .agg (ak r0) ∧ G = ⟨2, [(0, vB e a)]⟩) (xN (xB (xF (cB (ah Tryz.f110))))) [.blk 0, .seq (xJ (ah Tryz.f110))] 168 (mkF 168 0 [(0, .ptr 0 0), (1, .int .i64 p1), (4, .ptr 1 0), (24, .int .i64 d)]) ⟨2, [(1, vD 0 []), (0, vB b c)]⟩
def oO (m : Nat) (p1 : Int) (b : List Int) (c : Int) (r0 : Tree) (d : List Int) (a : Int) : Prop := ∀ (K : Ctx), av K [0] → qLG K Tryz.f110 (fun u G => u = .agg (ak r0) ∧ G = ⟨2, [(0, vB d a)]⟩) (xK (xN (xB (xF (cB (ah Tryz.f110)))))) [.blk 0, .seq (xJ (ah Tryz.f110))] 168 (mkF 168 0 [(0, .ptr 0 0), (1, .int .i64 p1), (4, .ptr 1 0)]) ⟨2, [(1, vD 0 []), (0, vB b c)]⟩
theorem iE (m : Nat) (g : List Int) (f p1 : Int) (r0 : Tree) (e : List Int) (b : Int) (h : ∃ a c d, aC g f 14 a c d ∧ ((p1 < 1) → ((5 < a) → InI (a - 6) ∧ ((5 < (a - 6)) → cr m p1 c d 0 r0 e b) ∧ ((¬ 5 < (a - 6)) → cr m p1 c d (a - 6) r0 e b)) ∧ ((¬ 5 < a) → cr m p1 c d a r0 e b)) ∧ ((¬ p1 < 1) → cr m p1 c d a r0 e b)) : aL g f p1 r0 e b := by
 refine qA 168 [0] Tryz.func110 fun K hK => ?_
 refine gR 8 rfl ?_
 obtain ⟨a, c, d, i, h⟩ := h
 refine qC i [0] ?_
 refine gR 9 rfl <| qBdZ 16 15 rfl rfl rfl rfl h ?_ ?_ <;> intro h
 refine gR 5 rfl <| qBd 19 rfl rfl rfl h ?_ ?_ <;> intro h
 refine gR 4 rfl ?_
 obtain ⟨hb, h⟩ := h
 refine gR 1 rfl <| gV 21 (.int .i64 (a - 6)) rfl (al hb rfl) rfl <| gR 9 rfl <| qBd 23 rfl rfl rfl h ?_ ?_ <;> intro h
 exact gR 5 rfl <| qJ hK (h K hK) [0, 1]
 exact gR 3 rfl <| qJ hK (h K hK) [0, 1]
 exact gR 3 rfl <| qJ hK (h K hK) [0, 1]
 exact gR 8 rfl <| qJ hK (h K hK) [0, 1]
theorem rL0_semvcsmake_Expr (m : Nat) (p1 : Int) (c : List Int) (d a : Int) (r0 : Tree) (e : List Int) (b : Int) (h : ((a = 0) → lC m p1 c d a true r0 e b) ∧ ((a ≠ 0) → lC m p1 c d a (a == 1) r0 e b)) : cr (m + 1) p1 c d a r0 e b := by
 intro K hK
 refine gR 14 rfl <| qBeZ 25 26 rfl rfl rfl rfl h ?_ ?_ <;> intro h
 exact gR 3 rfl <| qJ hK (h K hK) [0, 1]
 exact gR 6 rfl <| qJ hK (h K hK) [0, 1]
theorem kM (m : Nat) (p1 : Int) (c : List Int) (d j : Int) (e : Bool) (r0 : Tree) (f : List Int) (b : Int) (h : ((e = true) → ∃ a g i, be c d [[120], [121], [122]] a g i ∧ (Tree.node 12 a [] []) = r0 ∧ g = f ∧ i = b) ∧ ((e = false) → iy m p1 c d j r0 f b)) : lC (m + 1) p1 c d j e r0 f b := by
 intro K hK
 refine qBi 25 rfl rfl rfl h ?_ ?_ <;> intro h
 refine gR 5 rfl <| gFR 2 rfl rfl rfl rfl ?_
 obtain ⟨a, g, i, k, h⟩ := h
 refine qC k [0] ?_
 refine gR 7 rfl ?_
 obtain ⟨rfl, rfl, rfl⟩ := h
 exact gE hK [(1, vC ((Tree.node 12 a [] []).kind) ((Tree.node 12 a [] []).text) ((Tree.node 12 a [] []).leads) ((Tree.node 12 a [] []).kids))] [(4, .ptr 1 0)] [0, 1] [.cell 4 29] (hH := ⟨⟨_, rfl, ⟨rfl, (.cons .rfl (.cons .rfl (.cons (.nil 1) (.cons (.nil 4) .nil))))⟩⟩, ⟨⟨_, rfl, ⟨rfl, aJ.rfl⟩⟩, trivial⟩⟩)
 exact gR 1 rfl <| qJ hK (h K hK) [0, 1]
theorem rL2_semvcsmake_Expr (m : Nat) (p1 : Int) (d : List Int) (e c : Int) (r0 : Tree) (f : List Int) (b : Int) (h : ((c = 2) → ∃ a g i, be d e [[48], [49], [50], [49, 48]] a g i ∧ (Tree.node 10 a [] []) = r0 ∧ g = f ∧ i = b) ∧ ((c ≠ 2) → pV m p1 d e c r0 f b)) : iy (m + 1) p1 d e c r0 f b := by
 intro K hK
 refine gR 6 rfl <| qBeZ 32 33 rfl rfl rfl rfl h ?_ ?_ <;> intro h
 refine gR 5 rfl <| gFR 2 rfl rfl rfl rfl ?_
 obtain ⟨a, g, i, j, h⟩ := h
 refine qC j [0] ?_
 refine gR 7 rfl ?_
 obtain ⟨rfl, rfl, rfl⟩ := h
 exact gE hK [(1, vC ((Tree.node 10 a [] []).kind) ((Tree.node 10 a [] []).text) ((Tree.node 10 a [] []).leads) ((Tree.node 10 a [] []).kids))] [(4, .ptr 1 0)] [0, 1] [.cell 4 29] (hH := ⟨⟨_, rfl, ⟨rfl, (.cons .rfl (.cons .rfl (.cons (.nil 1) (.cons (.nil 4) .nil))))⟩⟩, ⟨⟨_, rfl, ⟨rfl, aJ.rfl⟩⟩, trivial⟩⟩)
 exact gR 1 rfl <| qJ hK (h K hK) [0, 1]
theorem fk (m : Nat) (p1 : Int) (d : List Int) (e c : Int) (r0 : Tree) (f : List Int) (b : Int) (h : ((c = 3) → ∃ a g i, be d e [[34, 34], [34, 97, 34], [34, 35, 32, 98, 34]] a g i ∧ (Tree.node 11 a [] []) = r0 ∧ g = f ∧ i = b) ∧ ((c ≠ 3) → pK m p1 d e c r0 f b)) : pV (m + 1) p1 d e c r0 f b := by
 intro K hK
 refine gR 6 rfl <| qBeZ 38 39 rfl rfl rfl rfl h ?_ ?_ <;> intro h
 refine gR 5 rfl <| gFR 2 rfl rfl rfl rfl ?_
 obtain ⟨a, g, i, j, h⟩ := h
 refine qC j [0] ?_
 refine gR 7 rfl ?_
 obtain ⟨rfl, rfl, rfl⟩ := h
 exact gE hK [(1, vC ((Tree.node 11 a [] []).kind) ((Tree.node 11 a [] []).text) ((Tree.node 11 a [] []).leads) ((Tree.node 11 a [] []).kids))] [(4, .ptr 1 0)] [0, 1] [.cell 4 29] (hH := ⟨⟨_, rfl, ⟨rfl, (.cons .rfl (.cons .rfl (.cons (.nil 1) (.cons (.nil 4) .nil))))⟩⟩, ⟨⟨_, rfl, ⟨rfl, aJ.rfl⟩⟩, trivial⟩⟩)
 exact gR 1 rfl <| qJ hK (h K hK) [0, 1]
theorem hW (m : Nat) (p1 : Int) (d : List Int) (e c : Int) (r0 : Tree) (f : List Int) (b : Int) (h : ((c = 4) → ∃ a g i, aC d e 2 a g i ∧ InI (13 + a) ∧ (Tree.node (13 + a) [] [] []) = r0 ∧ g = f ∧ i = b) ∧ ((c ≠ 4) → pN m p1 d e c r0 f b)) : pK (m + 1) p1 d e c r0 f b := by
 intro K hK
 refine gR 6 rfl <| qBeZ 44 45 rfl rfl rfl rfl h ?_ ?_ <;> intro h
 refine gR 4 rfl ?_
 obtain ⟨a, g, i, j, h⟩ := h
 refine qC j [0] ?_
 obtain ⟨hb, h⟩ := h
 refine gR 1 rfl <| gV 48 (.int .i64 (13 + a)) rfl (al hb rfl) rfl <| gR 7 rfl ?_
 obtain ⟨rfl, rfl, rfl⟩ := h
 exact gE hK [(1, vC ((Tree.node (13 + a) [] [] []).kind) ((Tree.node (13 + a) [] [] []).text) ((Tree.node (13 + a) [] [] []).leads) ((Tree.node (13 + a) [] [] []).kids))] [(4, .ptr 1 0)] [0, 1] [.cell 4 29] (hH := ⟨⟨_, rfl, ⟨rfl, (.cons .rfl (.cons .rfl (.cons (.nil 1) (.cons (.nil 4) .nil))))⟩⟩, ⟨⟨_, rfl, ⟨rfl, aJ.rfl⟩⟩, trivial⟩⟩)
 exact gR 1 rfl <| qJ hK (h K hK) [0, 1]
theorem kO (m : Nat) (p1 : Int) (g : List Int) (i b : Int) (r0 : Tree) (c : List Int) (a : Int) (h : ((b = 5) → ∃ d e f, aC g i 3 d e f ∧ ((d = 0) → (Tree.node 15 [] [] []) = r0 ∧ e = c ∧ f = a) ∧ ((d ≠ 0) → (Tree.node 10 [51] [] []) = r0 ∧ e = c ∧ f = a)) ∧ ((b ≠ 5) → iH m p1 g i b r0 c a)) : pN (m + 1) p1 g i b r0 c a := by
 intro K hK
 refine gR 6 rfl <| qBeZ 50 51 rfl rfl rfl rfl h ?_ ?_ <;> intro h
 refine gR 5 rfl ?_
 obtain ⟨d, e, f, j, h⟩ := h
 refine qC j [0] ?_
 refine gR 3 rfl <| qBe 54 rfl rfl rfl h ?_ ?_ <;> intro h
 refine gR 11 rfl ?_
 obtain ⟨rfl, rfl, rfl⟩ := h
 exact gE hK [(1, vC ((Tree.node 15 [] [] []).kind) ((Tree.node 15 [] [] []).text) ((Tree.node 15 [] [] []).leads) ((Tree.node 15 [] [] []).kids))] [(4, .ptr 1 0)] [0, 1] [.cell 4 29] (hH := ⟨⟨_, rfl, ⟨rfl, (.cons .rfl (.cons .rfl (.cons (.nil 1) (.cons (.nil 4) .nil))))⟩⟩, ⟨⟨_, rfl, ⟨rfl, aJ.rfl⟩⟩, trivial⟩⟩)
 refine gR 12 rfl ?_
 obtain ⟨rfl, rfl, rfl⟩ := h
 exact gE hK [(1, vC ((Tree.node 10 [51] [] []).kind) ((Tree.node 10 [51] [] []).text) ((Tree.node 10 [51] [] []).leads) ((Tree.node 10 [51] [] []).kids))] [(4, .ptr 1 0)] [0, 1] [.cell 4 29] (hH := ⟨⟨_, rfl, ⟨rfl, (.cons .rfl (.cons .rfl (.cons (.nil 1) (.cons (.nil 4) .nil))))⟩⟩, ⟨⟨_, rfl, ⟨rfl, aJ.rfl⟩⟩, trivial⟩⟩)
 exact gR 1 rfl <| qJ hK (h K hK) [0, 1]
theorem rL6_semvcsmake_Expr (m : Nat) (p1 : Int) (c : List Int) (d a : Int) (r0 : Tree) (e : List Int) (b : Int) (h : ((a = 6) → lw m p1 c d a true r0 e b) ∧ ((a ≠ 6) → lw m p1 c d a (a == 7) r0 e b)) : iH (m + 1) p1 c d a r0 e b := by
 intro K hK
 refine gR 7 rfl <| qBeZ 57 58 rfl rfl rfl rfl h ?_ ?_ <;> intro h
 exact gR 3 rfl <| qJ hK (h K hK) [0, 1]
 exact gR 6 rfl <| qJ hK (h K hK) [0, 1]
theorem kJ (m : Nat) (p1 : Int) (b : List Int) (c f : Int) (d : Bool) (r0 : Tree) (e : List Int) (a : Int) (h : ((d = true) → lu m p1 b c r0 e a) ∧ ((d = false) → fx m p1 b c f r0 e a)) : lw (m + 1) p1 b c f d r0 e a := by
 intro K hK
 refine qBi 57 rfl rfl rfl h ?_ ?_ <;> intro h
 exact gR 1 rfl <| qJ hK (h K hK) [0, 1]
 exact gR 1 rfl <| qJ hK (h K hK) [0, 1]
theorem uC (m : Nat) (p1 : Int) (i : List Int) (j : Int) (r0 : Tree) (k : List Int) (a : Int) (h : ∃ b c d, be i j [[102], [103], [104], [65, 46, 102], [66, 46, 103], [65, 46, 104]] b c d ∧ ∃ e f g, aC c d 4 e f g ∧ ic m p1 b f g ([] : List Tree) e r0 k a) : lu (m + 1) p1 i j r0 k a := by
 intro K hK
 refine gR 4 rfl <| gFR 2 rfl rfl rfl rfl ?_
 obtain ⟨b, c, d, l, h⟩ := h
 refine qC l [0] ?_
 refine gR 9 rfl ?_
 obtain ⟨e, f, g, n, h⟩ := h
 refine qC n [0] ?_
 exact gR 4 rfl <| go_loop m <| gNC 4 3 29 4 rfl rfl rfl rfl <| qJ hK (h K _ hK (by omega)) [0, 1, 4, 6]
theorem oP (m : Nat) (p1 : Int) (f : List Int) (g e : Int) (r0 : Tree) (i : List Int) (b : Int) (h : ((e = 8) → ∃ a c d, aC f g 3 a c d ∧ InI (1 + a) ∧ ig m p1 c d ([] : List Tree) (1 + a) r0 i b) ∧ ((e ≠ 8) → hI m p1 f g e r0 i b)) : fx (m + 1) p1 f g e r0 i b := by
 intro K hK
 refine gR 6 rfl <| qXeZ 82 83 rfl rfl rfl rfl h ?_ ?_ <;> intro hd h
 refine gR 12 rfl ?_
 obtain ⟨a, c, d, j, h⟩ := h
 refine qC j [0] ?_
 obtain ⟨hb, h⟩ := h
 exact gR 1 rfl <| gV 87 (.int .i64 (1 + a)) rfl (al hb rfl) rfl <| gR 4 rfl <| go_loop m <| gNC 2 3 29 4 rfl rfl rfl rfl <| qJ hK (h K _ hK (by omega)) [0, 1, 2, 4]
 exact gR 1 rfl <| qJ hK (h K hK) [0, 1]
theorem oA (m : Nat) (p1 : Int) (d : List UInt8) (e : List Int) (f : Int) (b : List Tree) (c : Int) (r0 : Tree) (k : List Int) (g : Int) (h : ((0 < c) → InI (p1 - 1) ∧ ∃ a i j, aL e f (p1 - 1) a i j ∧ (b ++ [(Tree.node 17 [] [] [a])]).length ≤ 1000000000 ∧ InI (c - 1) ∧ ic m p1 d i j (b ++ [(Tree.node 17 [] [] [a])]) (c - 1) r0 k g) ∧ ((¬ 0 < c) → (Tree.node 16 d [] b) = r0 ∧ e = k ∧ f = g)) : ic (m + 1) p1 d e f b c r0 k g := by
 refine qj fun K j1 hK n => ?_
 refine gR 7 rfl <| qXd 67 rfl rfl rfl h ?_ ?_ <;> intro hd h
 refine gR 5 rfl <| qDs [2] 11 12 <| qDr [(0, 2), (1, 3), (2, 2), (3, 0)] rfl rfl ?_
 obtain ⟨hb, h⟩ := h
 refine qDr [(4, 0)] rfl rfl <| gV 74 (.int .i64 (p1 - 1)) rfl (al hb rfl) rfl ?_
 obtain ⟨a, i, j, l, h⟩ := h
 refine qDC 5 l [0] rfl ?_
 refine qDr [(6, 0)] rfl rfl <| gHR 6 (kidsV [a]) rfl (kL a) rfl <| qDr [(7, 0)] rfl rfl <| gFR 6 rfl (cq _) rfl rfl <| gS 77 (.agg [.int .i64 17, .str [], .row 1 [], .row 4 (kidsV [a])]) rfl (.agg (.cons .rfl (.cons .rfl (.cons (.nil 1) (.cons .rfl .nil))))) rfl <| qDr [(8, 0)] rfl rfl <| gHR 7 (kidsV [(Tree.node 17 [] [] [a])]) rfl (kL (Tree.node 17 [] [] [a])) rfl ?_
 obtain ⟨hb, h⟩ := h
 refine ba 9 (.repl 3 (.row 29 4 (kidsV (b ++ [(Tree.node 17 [] [] [a])])))) rfl (by kernel_rfl) (bJ ai rfl rfl rfl rfl rfl (gy b [(Tree.node 17 [] [] [a])]).symm (by rw [aD]; exact hb)) (okR rfl) rfl (by kernel_rfl) rfl rfl ?_
 refine qDr [(10, 0), (11, 1)] rfl rfl <| qDe <| gR 4 rfl ?_
 obtain ⟨hb, h⟩ := h
 exact gR 1 rfl <| gV 69 (.int .i64 (c - 1)) rfl (al hb rfl) rfl <| gR 2 rfl <| go_xloop <| qJ hK (h K _ hK (by omega)) [0, 1, 2, 8]
 refine gR 3 rfl <| go_xloopE <| gR 11 rfl <| gFR 3 rfl (cq _) rfl rfl ?_
 obtain ⟨rfl, rfl, rfl⟩ := h
 exact gE hK [(1, vC ((Tree.node 16 d [] b).kind) ((Tree.node 16 d [] b).text) ((Tree.node 16 d [] b).leads) ((Tree.node 16 d [] b).kids))] [(4, .ptr 1 0)] [0, 1] [.cell 4 29] (hH := ⟨⟨_, rfl, ⟨rfl, (.cons .rfl (.cons .rfl (.cons (.nil 1) (.cons .rfl .nil))))⟩⟩, ⟨⟨_, rfl, ⟨rfl, aJ.rfl⟩⟩, trivial⟩⟩)
theorem oG (m : Nat) (p1 : Int) (d : List Int) (e : Int) (a : List Tree) (c : Int) (r0 : Tree) (j : List Int) (f : Int) (h : ((0 < c) → InI (p1 - 1) ∧ ∃ b g i, aL d e (p1 - 1) b g i ∧ (a ++ [b]).length ≤ 1000000000 ∧ InI (c - 1) ∧ ig m p1 g i (a ++ [b]) (c - 1) r0 j f) ∧ ((¬ 0 < c) → (Tree.node 18 [] [] a) = r0 ∧ d = j ∧ e = f)) : ig (m + 1) p1 d e a c r0 j f := by
 refine qj fun K j1 hK l => ?_
 refine gR 7 rfl <| qXd 89 rfl rfl rfl h ?_ ?_ <;> intro hd h
 refine gR 5 rfl <| qDs [2] 9 10 <| qDr [(0, 2), (1, 3), (2, 2), (3, 0)] rfl rfl ?_
 obtain ⟨hb, h⟩ := h
 refine qDr [(4, 0)] rfl rfl <| gV 96 (.int .i64 (p1 - 1)) rfl (al hb rfl) rfl ?_
 obtain ⟨b, g, i, k, h⟩ := h
 refine qDC 5 k [0] rfl ?_
 refine qDr [(6, 0)] rfl rfl <| gHR 6 (kidsV [b]) rfl (kL b) rfl ?_
 obtain ⟨hb, h⟩ := h
 refine ba 7 (.repl 3 (.row 29 4 (kidsV (a ++ [b])))) rfl (by kernel_rfl) (bJ ai rfl rfl rfl rfl rfl (gy a [b]).symm (by rw [aD]; exact hb)) (okR rfl) rfl (by kernel_rfl) rfl rfl ?_
 refine qDr [(8, 0), (9, 1)] rfl rfl <| qDe <| gR 4 rfl ?_
 obtain ⟨hb, h⟩ := h
 exact gR 1 rfl <| gV 91 (.int .i64 (c - 1)) rfl (al hb rfl) rfl <| gR 2 rfl <| go_xloop <| qJ hK (h K _ hK (by omega)) [0, 1, 2, 7]
 refine gR 3 rfl <| go_xloopE <| gR 11 rfl <| gFR 3 rfl (cq _) rfl rfl ?_
 obtain ⟨rfl, rfl, rfl⟩ := h
 exact gE hK [(1, vC ((Tree.node 18 [] [] a).kind) ((Tree.node 18 [] [] a).text) ((Tree.node 18 [] [] a).leads) ((Tree.node 18 [] [] a).kids))] [(4, .ptr 1 0)] [0, 1] [.cell 4 29] (hH := ⟨⟨_, rfl, ⟨rfl, (.cons .rfl (.cons .rfl (.cons (.nil 1) (.cons .rfl .nil))))⟩⟩, ⟨⟨_, rfl, ⟨rfl, aJ.rfl⟩⟩, trivial⟩⟩)
theorem ot (m : Nat) (p1 : Int) (c : List Int) (d b : Int) (r0 : Tree) (e : List Int) (a : Int) (h : ((b = 9) → oS m p1 c d r0 e a) ∧ ((b ≠ 9) → fh m p1 c d b r0 e a)) : hI (m + 1) p1 c d b r0 e a := by
 intro K hK
 refine gR 6 rfl <| qBeZ 102 103 rfl rfl rfl rfl h ?_ ?_ <;> intro h
 exact gR 1 rfl <| qJ hK (h K hK) [0, 1]
 exact gR 1 rfl <| qJ hK (h K hK) [0, 1]
theorem tH (m : Nat) (p1 : Int) (l : List Int) (n : Int) (r0 : Tree) (o : List Int) (k : Int) (h : InI (p1 - 1) ∧ ∃ a d e, aL l n (p1 - 1) a d e ∧ InI (p1 - 1) ∧ ∃ b f g, aL d e (p1 - 1) b f g ∧ InI (p1 - 1) ∧ ∃ c i j, aL f g (p1 - 1) c i j ∧ (Tree.node 19 [] [] [a, b, c]) = r0 ∧ i = o ∧ j = k) : oS (m + 1) p1 l n r0 o k := by
 intro K hK
 refine gR 4 rfl ?_
 obtain ⟨hb, h⟩ := h
 refine gR 1 rfl <| gV 106 (.int .i64 (p1 - 1)) rfl (al hb rfl) rfl ?_
 obtain ⟨a, d, e, p, h⟩ := h
 refine qC p [0] ?_
 refine gR 2 rfl ?_
 obtain ⟨hb, h⟩ := h
 refine gR 1 rfl <| gV 110 (.int .i64 (p1 - 1)) rfl (al hb rfl) rfl ?_
 obtain ⟨b, f, g, q, h⟩ := h
 refine qC q [0] ?_
 refine gR 2 rfl ?_
 obtain ⟨hb, h⟩ := h
 refine gR 1 rfl <| gV 114 (.int .i64 (p1 - 1)) rfl (al hb rfl) rfl ?_
 obtain ⟨c, i, j, r, h⟩ := h
 refine qC r [0] ?_
 refine gR 1 rfl <| gHR 8 (kidsV [a, b, c]) rfl (yo [a, b, c]) rfl <| gR 7 rfl <| gFR 8 rfl (cq _) rfl rfl ?_
 obtain ⟨rfl, rfl, rfl⟩ := h
 exact gE hK [(1, vC ((Tree.node 19 [] [] [a, b, c]).kind) ((Tree.node 19 [] [] [a, b, c]).text) ((Tree.node 19 [] [] [a, b, c]).leads) ((Tree.node 19 [] [] [a, b, c]).kids))] [(4, .ptr 1 0)] [0, 1] [.cell 4 29] (hH := ⟨⟨_, rfl, ⟨rfl, (.cons .rfl (.cons .rfl (.cons (.nil 1) (.cons .rfl .nil))))⟩⟩, ⟨⟨_, rfl, ⟨rfl, aJ.rfl⟩⟩, trivial⟩⟩)
theorem rL14_semvcsmake_Expr (m : Nat) (p1 : Int) (c : List Int) (d a : Int) (r0 : Tree) (e : List Int) (b : Int) (h : ((a = 10) → kX m p1 c d a true r0 e b) ∧ ((a ≠ 10) → kX m p1 c d a (a == 11) r0 e b)) : fh (m + 1) p1 c d a r0 e b := by
 intro K hK
 refine gR 7 rfl <| qBeZ 118 119 rfl rfl rfl rfl h ?_ ?_ <;> intro h
 exact gR 3 rfl <| qJ hK (h K hK) [0, 1]
 exact gR 6 rfl <| qJ hK (h K hK) [0, 1]
theorem kp (m : Nat) (p1 : Int) (c : List Int) (d f : Int) (a : Bool) (r0 : Tree) (e : List Int) (b : Int) (h : ((a = true) → kS m p1 c d r0 e b) ∧ ((a = false) → ie m p1 c d f r0 e b)) : kX (m + 1) p1 c d f a r0 e b := by
 intro K hK
 refine qBi 118 rfl rfl rfl h ?_ ?_ <;> intro h
 exact gR 1 rfl <| qJ hK (h K hK) [0, 1]
 exact gR 1 rfl <| qJ hK (h K hK) [0, 1]
theorem tl (m : Nat) (p1 : Int) (l : List Int) (n : Int) (r0 : Tree) (o : List Int) (k : Int) (h : ∃ c d e, be l n [[120], [121], [122]] c d e ∧ InI (p1 - 1) ∧ ∃ a f g, aL d e (p1 - 1) a f g ∧ InI (p1 - 1) ∧ ∃ b i j, aL f g (p1 - 1) b i j ∧ (Tree.node 20 c [] [a, b]) = r0 ∧ i = o ∧ j = k) : kS (m + 1) p1 l n r0 o k := by
 intro K hK
 refine gR 4 rfl <| gFR 2 rfl rfl rfl rfl ?_
 obtain ⟨c, d, e, p, h⟩ := h
 refine qC p [0] ?_
 refine gR 2 rfl ?_
 obtain ⟨hb, h⟩ := h
 refine gR 1 rfl <| gV 126 (.int .i64 (p1 - 1)) rfl (al hb rfl) rfl ?_
 obtain ⟨a, f, g, q, h⟩ := h
 refine qC q [0] ?_
 refine gR 2 rfl ?_
 obtain ⟨hb, h⟩ := h
 refine gR 1 rfl <| gV 130 (.int .i64 (p1 - 1)) rfl (al hb rfl) rfl ?_
 obtain ⟨b, i, j, r, h⟩ := h
 refine qC r [0] ?_
 refine gR 1 rfl <| gHR 8 (kidsV [a, b]) rfl (yo [a, b]) rfl <| gR 7 rfl <| gFR 8 rfl (cq _) rfl rfl ?_
 obtain ⟨rfl, rfl, rfl⟩ := h
 exact gE hK [(1, vC ((Tree.node 20 c [] [a, b]).kind) ((Tree.node 20 c [] [a, b]).text) ((Tree.node 20 c [] [a, b]).leads) ((Tree.node 20 c [] [a, b]).kids))] [(4, .ptr 1 0)] [0, 1] [.cell 4 29] (hH := ⟨⟨_, rfl, ⟨rfl, (.cons .rfl (.cons .rfl (.cons (.nil 1) (.cons .rfl .nil))))⟩⟩, ⟨⟨_, rfl, ⟨rfl, aJ.rfl⟩⟩, trivial⟩⟩)
theorem kn (m : Nat) (p1 : Int) (e : List Int) (f g : Int) (r0 : Tree) (i : List Int) (b : Int) (h : ((g = 12) → oO m p1 e f r0 i b) ∧ ((g ≠ 12) → InI (p1 - 1) ∧ ∃ a c d, aL e f (p1 - 1) a c d ∧ (Tree.node 22 [] [] [a]) = r0 ∧ c = i ∧ d = b)) : ie (m + 1) p1 e f g r0 i b := by
 intro K hK
 refine gR 6 rfl <| qBeZ 134 135 rfl rfl rfl rfl h ?_ ?_ <;> intro h
 exact gR 1 rfl <| qJ hK (h K hK) [0, 1]
 refine gR 8 rfl ?_
 obtain ⟨hb, h⟩ := h
 refine gR 1 rfl <| gV 164 (.int .i64 (p1 - 1)) rfl (al hb rfl) rfl ?_
 obtain ⟨a, c, d, j, h⟩ := h
 refine qC j [0] ?_
 refine gR 1 rfl <| gHR 4 (kidsV [a]) rfl (kL a) rfl <| gR 5 rfl <| gFR 4 rfl (cq _) rfl rfl ?_
 obtain ⟨rfl, rfl, rfl⟩ := h
 exact gE hK [(1, vC ((Tree.node 22 [] [] [a]).kind) ((Tree.node 22 [] [] [a]).text) ((Tree.node 22 [] [] [a]).leads) ((Tree.node 22 [] [] [a]).kids))] [(4, .ptr 1 0)] [0, 1] [.cell 4 29] (hH := ⟨⟨_, rfl, ⟨rfl, (.cons .rfl (.cons .rfl (.cons (.nil 1) (.cons .rfl .nil))))⟩⟩, ⟨⟨_, rfl, ⟨rfl, aJ.rfl⟩⟩, trivial⟩⟩)
theorem oF (m : Nat) (p1 : Int) (α : List Int) (β : Int) (r0 : Tree) (z : List Int) (t : Int) (h : ∃ d v w, be α β [[43], [45], [42], [60], [61, 61]] d v w ∧ InI (p1 - 1) ∧ ∃ a x y, eK v w (p1 - 1) a x y ∧ ∃ g i j, aC x y 3 g i j ∧ ((g = 0) → ∃ c k l, be i j [[43], [42]] c k l ∧ ∃ b n o, eK k l 0 b n o ∧ InI (p1 - 1) ∧ ∃ e p q, eK n o (p1 - 1) e p q ∧ (Tree.node 21 d [] [(Tree.node 21 c [] [a, b]), e]) = r0 ∧ p = z ∧ q = t) ∧ ((g ≠ 0) → InI (p1 - 1) ∧ ∃ f r s, eK i j (p1 - 1) f r s ∧ (Tree.node 21 d [] [a, f]) = r0 ∧ r = z ∧ s = t)) : oO (m + 1) p1 α β r0 z t := by
 intro K hK
 refine gR 4 rfl <| gFR 2 rfl rfl rfl rfl ?_
 obtain ⟨d, v, w, γ, h⟩ := h
 refine qC γ [0] ?_
 refine gR 7 rfl ?_
 obtain ⟨hb, h⟩ := h
 refine gR 1 rfl <| gV 141 (.int .i64 (p1 - 1)) rfl (al hb rfl) rfl ?_
 obtain ⟨a, x, y, δ, h⟩ := h
 refine qC δ [0] ?_
 refine gR 8 rfl ?_
 obtain ⟨g, i, j, ε, h⟩ := h
 refine qC ε [0] ?_
 refine gR 3 rfl <| qBe 145 rfl rfl rfl h ?_ ?_ <;> intro h
 refine gR 1 rfl <| qDs [6] 8 9 <| qDr [(0, 2), (3, 3), (4, 2), (1, 0)] rfl rfl <| gFR 8 rfl rfl rfl rfl ?_
 obtain ⟨c, k, l, ζ, h⟩ := h
 refine qDC 2 ζ [0] rfl ?_
 obtain ⟨b, n, o, η, h⟩ := h
 refine qDC 5 η [0] rfl ?_
 refine qDr [(6, 0)] rfl rfl <| gHR 12 (kidsV [a, b]) rfl (yo [a, b]) rfl <| qDr [(7, 0), (8, 1)] rfl rfl <| qDe <| gR 2 rfl <| qDs [6] 8 9 <| qDr [(0, 2), (1, 3), (2, 2), (3, 0)] rfl rfl ?_
 obtain ⟨hb, h⟩ := h
 refine qDr [(4, 0)] rfl rfl <| gV 158 (.int .i64 (p1 - 1)) rfl (al hb rfl) rfl ?_
 obtain ⟨e, p, q, θ, h⟩ := h
 refine qDC 5 θ [0] rfl ?_
 refine gFR 12 rfl (cq _) rfl rfl <| gS 155 (.agg [.int .i64 21, .str c, .row 1 [], .row 4 (kidsV [a, b])]) rfl (.agg (.cons .rfl (.cons .rfl (.cons (.nil 1) (.cons .rfl .nil))))) rfl <| qDr [(6, 0)] rfl rfl <| gHR 15 (kidsV [(Tree.node 21 c [] [a, b]), e]) rfl (yo [(Tree.node 21 c [] [a, b]), e]) rfl <| qDr [(7, 0), (8, 1)] rfl rfl <| qDe <| gR 4 rfl <| gFR 15 rfl (cq _) rfl rfl ?_
 obtain ⟨rfl, rfl, rfl⟩ := h
 exact gE hK [(1, vC ((Tree.node 21 d [] [(Tree.node 21 c [] [a, b]), e]).kind) ((Tree.node 21 d [] [(Tree.node 21 c [] [a, b]), e]).text) ((Tree.node 21 d [] [(Tree.node 21 c [] [a, b]), e]).leads) ((Tree.node 21 d [] [(Tree.node 21 c [] [a, b]), e]).kids))] [(4, .ptr 1 0)] [0, 1] [.cell 4 29] (hH := ⟨⟨_, rfl, ⟨rfl, (.cons .rfl (.cons .rfl (.cons (.nil 1) (.cons .rfl .nil))))⟩⟩, ⟨⟨_, rfl, ⟨rfl, aJ.rfl⟩⟩, trivial⟩⟩)
 refine gR 4 rfl <| qDs [6] 8 9 <| qDr [(0, 2), (1, 3), (2, 2), (3, 0)] rfl rfl ?_
 obtain ⟨hb, h⟩ := h
 refine qDr [(4, 0)] rfl rfl <| gV 158 (.int .i64 (p1 - 1)) rfl (al hb rfl) rfl ?_
 obtain ⟨f, r, s, ι, h⟩ := h
 refine qDC 5 ι [0] rfl ?_
 refine qDr [(6, 0)] rfl rfl <| gHR 10 (kidsV [a, f]) rfl (yo [a, f]) rfl <| qDr [(7, 0), (8, 1)] rfl rfl <| qDe <| gR 4 rfl <| gFR 10 rfl (cq _) rfl rfl ?_
 obtain ⟨rfl, rfl, rfl⟩ := h
 exact gE hK [(1, vC ((Tree.node 21 d [] [a, f]).kind) ((Tree.node 21 d [] [a, f]).text) ((Tree.node 21 d [] [a, f]).leads) ((Tree.node 21 d [] [a, f]).kids))] [(4, .ptr 1 0)] [0, 1] [.cell 4 29] (hH := ⟨⟨_, rfl, ⟨rfl, (.cons .rfl (.cons .rfl (.cons (.nil 1) (.cons .rfl .nil))))⟩⟩, ⟨⟨_, rfl, ⟨rfl, aJ.rfl⟩⟩, trivial⟩⟩)
def jn (m : Nat) (a : List UInt8) (c : List Int) (d : Int) (e : List Tree) (f : Int) (r0 : Tree) (g : List Int) (b : Int) : Prop := ∀ (K : Ctx) (j1 : Nat), av K [0] → m ≤ j1 → qLG K Tryz.f70 (fun u G => u = .agg (ak r0) ∧ G = ⟨2, [(0, vB g b)]⟩) (xI (cB (ah Tryz.f70))) [.loop (xI (cB (ah Tryz.f70))) j1, .blk 0, .seq (xJ (ah Tryz.f70))] 47 (mkF 47 0 [(0, .ptr 0 0), (2, .ptr 1 0), (3, .ptr 2 0), (4, .int .i64 f)]) ⟨4, [(3, .row 29 4 (kidsV e)), (2, .var 29 [.int .i64 2, .str a, .nils, .sl 3]), (1, vD 0 []), (0, vB c d)]⟩
theorem qo (m : Nat) (v : List Int) (o : Int) (r0 : Tree) (p : List Int) (c : Int) (h : ∃ k l n, aC v o 5 k l n ∧ ((k = 0) → ∃ b q r, be l n [[84], [85]] b q r ∧ ∃ a s t, cx q r 2 a s t ∧ (Tree.node 3 b [] [a]) = r0 ∧ s = p ∧ t = c) ∧ ((k ≠ 0) → ∃ d e f, be l n [[102], [103], [104]] d e f ∧ ∃ g i j, aC e f 4 g i j ∧ jn m d i j ([] : List Tree) g r0 p c)) : nr v o r0 p c := by
 refine qA 47 [0] Tryz.func70 fun K hK => ?_
 refine gR 9 rfl ?_
 obtain ⟨k, l, n, w, h⟩ := h
 refine qC w [0] ?_
 refine gR 3 rfl <| qXe 7 rfl rfl rfl h ?_ ?_ <;> intro hd h
 refine gR 5 rfl <| gFR 3 rfl rfl rfl rfl ?_
 obtain ⟨b, q, r, x, h⟩ := h
 refine qC x [0] ?_
 refine gR 1 rfl ?_
 obtain ⟨a, s, t, y, h⟩ := h
 refine qC y [0] ?_
 refine gR 1 rfl <| gHR 7 (kidsV [a]) rfl (kL a) rfl <| gR 6 rfl <| gFR 7 rfl (cq _) rfl rfl ?_
 obtain ⟨rfl, rfl, rfl⟩ := h
 exact gE hK [(1, vC ((Tree.node 3 b [] [a]).kind) ((Tree.node 3 b [] [a]).text) ((Tree.node 3 b [] [a]).leads) ((Tree.node 3 b [] [a]).kids))] [(2, .ptr 1 0)] [0, 1] [.cell 2 29] (hH := ⟨⟨_, rfl, ⟨rfl, (.cons .rfl (.cons .rfl (.cons (.nil 1) (.cons .rfl .nil))))⟩⟩, ⟨⟨_, rfl, ⟨rfl, aJ.rfl⟩⟩, trivial⟩⟩)
 refine gR 7 rfl <| gFR 3 rfl rfl rfl rfl ?_
 obtain ⟨d, e, f, z, h⟩ := h
 refine qC z [0] ?_
 refine gR 9 rfl ?_
 obtain ⟨g, i, j, α, h⟩ := h
 refine qC α [0] ?_
 exact gR 4 rfl <| go_loop m <| gNC 5 3 29 4 rfl rfl rfl rfl <| qJ hK (h K _ hK (by omega)) [0, 1, 5, 7]
theorem pS (m : Nat) (e : List UInt8) (l : List Int) (n : Int) (b : List Tree) (g : Int) (r0 : Tree) (o : List Int) (i : Int) (h : ((0 < g) → ∃ f p q, be l n [[120], [121], [122]] f p q ∧ ∃ c r s, cx p q 1 c r s ∧ (b ++ [(Tree.node 4 f [] [c])]).length ≤ 1000000000 ∧ InI (g - 1) ∧ jn m e r s (b ++ [(Tree.node 4 f [] [c])]) (g - 1) r0 o i) ∧ ((¬ 0 < g) → ∃ d t v, cx l n 1 d t v ∧ ∃ a j k, aL t v 3 a j k ∧ (b ++ [d, a]).length ≤ 1000000000 ∧ (Tree.node 2 e [] (b ++ [d, a])) = r0 ∧ j = o ∧ k = i)) : jn (m + 1) e l n b g r0 o i := by
 refine qj fun K j1 hK α => ?_
 refine gR 7 rfl <| qXd 22 rfl rfl rfl h ?_ ?_ <;> intro hd h
 refine gR 5 rfl <| qDs [2] 12 13 <| qDr [(0, 2), (1, 3), (2, 2), (5, 2), (3, 0)] rfl rfl <| gFR 4 rfl rfl rfl rfl ?_
 obtain ⟨f, p, q, w, h⟩ := h
 refine qDC 4 w [0] rfl ?_
 obtain ⟨c, r, s, x, h⟩ := h
 refine qDC 6 x [0] rfl ?_
 refine qDr [(7, 0)] rfl rfl <| gHR 8 (kidsV [c]) rfl (kL c) rfl <| qDr [(8, 0)] rfl rfl <| gFR 8 rfl (cq _) rfl rfl <| gS 33 (.agg [.int .i64 4, .str f, .row 1 [], .row 4 (kidsV [c])]) rfl (.agg (.cons .rfl (.cons .rfl (.cons (.nil 1) (.cons .rfl .nil))))) rfl <| qDr [(9, 0)] rfl rfl <| gHR 9 (kidsV [(Tree.node 4 f [] [c])]) rfl (kL (Tree.node 4 f [] [c])) rfl ?_
 obtain ⟨hb, h⟩ := h
 refine ba 10 (.repl 3 (.row 29 4 (kidsV (b ++ [(Tree.node 4 f [] [c])])))) rfl (by kernel_rfl) (bJ ai rfl rfl rfl rfl rfl (gy b [(Tree.node 4 f [] [c])]).symm (by rw [aD]; exact hb)) (okR rfl) rfl (by kernel_rfl) rfl rfl ?_
 refine qDr [(11, 0), (12, 1)] rfl rfl <| qDe <| gR 4 rfl ?_
 obtain ⟨hb, h⟩ := h
 exact gR 1 rfl <| gV 24 (.int .i64 (g - 1)) rfl (al hb rfl) rfl <| gR 2 rfl <| go_xloop <| qJ hK (h K _ hK (by omega)) [0, 1, 2, 10]
 refine gR 3 rfl <| go_xloopE <| gR 3 rfl <| qDs [2] 9 10 <| qDr [(0, 2), (1, 3), (2, 2), (4, 2)] rfl rfl ?_
 obtain ⟨d, t, v, y, h⟩ := h
 refine qDC 3 y [0] rfl ?_
 obtain ⟨a, j, k, z, h⟩ := h
 refine qDC 5 z [0] rfl ?_
 refine qDr [(6, 0)] rfl rfl <| gHR 8 (kidsV [d, a]) rfl (yo [d, a]) rfl ?_
 obtain ⟨hb, h⟩ := h
 refine ba 7 (.repl 3 (.row 29 4 (kidsV (b ++ [d, a])))) rfl (by kernel_rfl) (bJ ai rfl rfl rfl rfl rfl (gy _ _).symm (by rw [aD]; exact hb)) (okR rfl) rfl (by kernel_rfl) rfl rfl ?_
 refine qDr [(8, 0), (9, 1)] rfl rfl <| qDe <| gR 8 rfl <| gFR 9 rfl (cq _) rfl rfl ?_
 obtain ⟨rfl, rfl, rfl⟩ := h
 exact gE hK [(1, vC ((Tree.node 2 e [] (b ++ [d, a])).kind) ((Tree.node 2 e [] (b ++ [d, a])).text) ((Tree.node 2 e [] (b ++ [d, a])).leads) ((Tree.node 2 e [] (b ++ [d, a])).kids))] [(2, .ptr 1 0)] [0, 1] [.cell 2 29] (hH := ⟨⟨_, rfl, ⟨rfl, (.cons .rfl (.cons .rfl (.cons (.nil 1) (.cons .rfl .nil))))⟩⟩, ⟨⟨_, rfl, ⟨rfl, aJ.rfl⟩⟩, trivial⟩⟩)
def dv (m : Nat) (p1 : Tree) (b : List Int) (c : Int) (d : (List (List UInt8))) (e : Nat) (r0 : Tree) (f : List Int) (a : Int) : Prop := ∀ (K : Ctx) (j1 : Nat), av K [0] → m ≤ j1 → qLG K Tryz.f72 (fun u G => u = .agg (ak r0) ∧ G = ⟨2, [(0, vB f a)]⟩) (xI (ah Tryz.f72)) [.loop (xI (ah Tryz.f72)) j1, .blk 0, .seq (xH (ah Tryz.f72))] 53 (mkF 53 0 [(0, .ptr 0 0), (3, .ptr 1 0), (4, .ptr 2 0), (5, .int .i64 (e : Int))]) ⟨4, [(3, .row 9 1 (List.map V.str d)), (2, vD 0 []), (1, .var 29 [.int .i64 p1.kind, .str p1.text, .sl 3, .row 4 (kidsV p1.kids)]), (0, vB b c)]⟩
def fg (m : Nat) (p1 : Tree) (b : List Int) (c : Int) (d : List Tree) (e : Nat) (f : (List (List UInt8))) (r0 : Tree) (g : List Int) (a : Int) : Prop := ∀ (K : Ctx) (j1 : Nat), av K [0] → m ≤ j1 → qLG K Tryz.f72 (fun u G => u = .agg (ak r0) ∧ G = ⟨2, [(0, vB g a)]⟩) (xI (xA (ah Tryz.f72))) [.loop (xI (xA (ah Tryz.f72))) j1, .blk 2, .seq (xA (xH (ah Tryz.f72)))] 53 (mkF 53 0 [(0, .ptr 0 0), (3, .ptr 1 0), (4, .ptr 2 0), (6, .int .i64 (e : Int))]) ⟨5, [(4, .row 29 4 (kidsV d)), (3, .row 9 1 (List.map V.str f)), (2, vD 0 []), (1, .var 29 [.int .i64 p1.kind, .str p1.text, .sl 3, .sl 4]), (0, vB b c)]⟩
theorem ux (m : Nat) (c : List Int) (a : Int) (p1 r0 : Tree) (d : List Int) (b : Int) (h : p1.leads.length ≤ 1000000000 ∧ dv m p1 c a p1.leads 0 r0 d b) : iL c a p1 r0 d b := by
 refine qA 53 [0] Tryz.func72 fun K hK => ?_
 refine gR 11 rfl ?_
 obtain ⟨hb, h⟩ := h
 exact gDo (.repl 3 (.row 9 1 (List.map V.str p1.leads))) (bJ ai rfl rfl rfl rfl rfl (List.nil_append _) (by rw [az]; exact hb)) (okR rfl) rfl rfl rfl <| gR 11 rfl <| go_loop m <| qJ hK (h K _ hK (by omega)) [0, 1, 2, 4]
theorem kc (m : Nat) (p1 : Tree) (l : List Int) (n : Int) (b : (List (List UInt8))) (a : Nat) (r0 : Tree) (e : List Int) (c : Int) (h : ((a < b.length) → ∃ g i j, aC l n 9 g i j ∧ ((g = 1) → ∃ d o p, be i j [[32, 35, 32, 99, 10], [32, 32], [10, 9], [35, 10]] d o p ∧ ∃ q, b[a]? = some q ∧ dv m p1 o p (b.set a d) (a + 1) r0 e c) ∧ ((g ≠ 1) → dv m p1 i j b (a + 1) r0 e c)) ∧ ((¬ a < b.length) → p1.kids.length ≤ 1000000000 ∧ fg m p1 l n p1.kids 0 b r0 e c)) : dv (m + 1) p1 l n b a r0 e c := by
 refine qj fun K j1 hK v => ?_
 refine gR 7 rfl <| gV 15 (.int .i64 (b.length : Int)) rfl (aP (az V.str _)) rfl <| gLO 3 rfl (az V.str _) fun r => gR 3 rfl <| qXh 16 rfl rfl rfl h cF cC ?_ ?_ <;> intro hd h
 refine gR 8 rfl ?_
 obtain ⟨g, i, j, s, h⟩ := h
 refine qC s [0] ?_
 refine gR 3 rfl <| qXe 21 rfl rfl rfl h ?_ ?_ <;> intro hd h
 refine gR 1 rfl <| qDs [1] 7 8 <| qDr [(0, 2), (1, 3), (2, 2), (3, 2), (4, 0)] rfl rfl <| gFR 5 rfl rfl rfl rfl ?_
 obtain ⟨d, o, p, t, h⟩ := h
 refine qDC 5 t [0] rfl ?_
 obtain ⟨q, k, h⟩ := h
 refine bS 6 rfl (by kernel_rfl) (yIO ai rfl rfl rfl rfl (qG (mapget (f := V.str) k))) rfl rfl ?_
 refine ba 7 (.set 3 (.row 9 1 (List.map V.str (b.set a d)))) rfl (by kernel_rfl) (dSe ai rfl rfl rfl rfl (mapget (f := V.str) k) rfl (jZ V.str b a d)) (okS rfl) rfl (by kernel_rfl) rfl rfl ?_
 exact qDe <| gR 5 rfl <| gV 18 (.int .i64 ((a + 1 : Nat) : Int)) rfl (al (by have := r; omega) (by omega)) rfl <| gR 2 rfl <| go_xloop <| qJ hK (h K _ hK (by omega)) [0, 1, 2, 3]
 exact gR 7 rfl <| gV 18 (.int .i64 ((a + 1 : Nat) : Int)) rfl (al (by have := r; omega) (by omega)) rfl <| gR 2 rfl <| go_xloop <| qJ hK (h K _ hK (by omega)) [0, 1, 2, 3]
 refine gR 3 rfl <| go_xloopE <| gR 7 rfl ?_
 obtain ⟨hb, h⟩ := h
 exact gDo (.repl 4 (.row 29 4 (kidsV p1.kids))) (bJ ai rfl rfl rfl rfl rfl (List.nil_append _) (by rw [aD]; exact hb)) (okR rfl) rfl rfl rfl <| gR 11 rfl <| go_loop m <| qJ hK (h K _ hK (by omega)) [0, 1, 2, 3, 5]
theorem nX (m : Nat) (p1 : Tree) (i : List Int) (j : Int) (a : List Tree) (b : Nat) (c : (List (List UInt8))) (r0 : Tree) (k : List Int) (e : Int) (h : ((b < a.length) → ∃ l, a[b]? = some l ∧ ∃ d n o, iL i j l d n o ∧ ∃ p, a[b]? = some p ∧ fg m p1 n o (a.set b d) (b + 1) c r0 k e) ∧ ((¬ b < a.length) → (Tree.node p1.kind p1.text c a) = r0 ∧ i = k ∧ j = e)) : fg (m + 1) p1 i j a b c r0 k e := by
 refine qj fun K j1 hK s => ?_
 refine gR 7 rfl <| gV 37 (.int .i64 (a.length : Int)) rfl (aP (aD _)) rfl <| gLO 4 rfl (aD _) fun q => gR 3 rfl <| qXh 38 rfl rfl rfl h cF cC ?_ ?_ <;> intro hd h
 refine gR 5 rfl <| qDs [1, 4] 11 12 <| qDr [(0, 2), (1, 3), (2, 2), (3, 2), (4, 2), (5, 3), (6, 0)] rfl rfl ?_
 obtain ⟨l, f, h⟩ := h
 refine bS 7 rfl (by kernel_rfl) (yIO ai rfl rfl rfl rfl (by have := (aw f); exact (List.getElem?_eq_some_iff.1 this).1)) rfl rfl ?_
 refine ba 8 (.nop) rfl (by kernel_rfl) (dLe ai rfl rfl rfl (aw f) rfl) trivial rfl (by kernel_rfl) rfl rfl ?_
 obtain ⟨d, n, o, r, h⟩ := h
 refine qDC 9 r [0] rfl ?_
 obtain ⟨p, g, h⟩ := h
 refine bS 10 rfl (by kernel_rfl) (yIO ai rfl rfl rfl rfl (by have := (aw g); exact (List.getElem?_eq_some_iff.1 this).1)) rfl rfl ?_
 refine ba 11 (.set 4 (.row 29 4 (kidsV (a.set b d)))) rfl (by kernel_rfl) (dSe ai rfl rfl rfl rfl (aw g) rfl (Hr a b d)) (okS rfl) rfl (by kernel_rfl) rfl rfl ?_
 exact qDe <| gR 5 rfl <| gV 40 (.int .i64 ((b + 1 : Nat) : Int)) rfl (al (by have := q; omega) (by omega)) rfl <| gR 2 rfl <| go_xloop <| qJ hK (h K _ hK (by omega)) [0, 1, 2, 3, 4]
 refine gR 3 rfl <| go_xloopE <| gR 9 rfl <| gFR 3 rfl (hZ _ (fun _ => rfl) _) rfl rfl <| gFR 4 rfl (cq _) rfl rfl ?_
 obtain ⟨rfl, rfl, rfl⟩ := h
 exact gE hK [(1, vC ((Tree.node p1.kind p1.text c a).kind) ((Tree.node p1.kind p1.text c a).text) ((Tree.node p1.kind p1.text c a).leads) ((Tree.node p1.kind p1.text c a).kids))] [(4, .ptr 1 0)] [0, 2] [.cell 4 29]
def gw (m : Nat) (p1 : List UInt8) (b : List Int) (c : Int) (d : List Tree) (e : Int) (r0 : Tree) (f : List Int) (a : Int) : Prop := ∀ (K : Ctx) (j1 : Nat), av K [0] → m ≤ j1 → qLG K Tryz.f43 (fun u G => u = .agg (ak r0) ∧ G = ⟨2, [(0, vB f a)]⟩) (xI (ah Tryz.f43)) [.loop (xI (ah Tryz.f43)) j1, .blk 0, .seq (xH (ah Tryz.f43))] 31 (mkF 31 0 [(0, .ptr 0 0), (4, .ptr 1 0), (5, .ptr 2 0), (6, .int .i64 e)]) ⟨4, [(3, .row 29 4 (kidsV d)), (2, .var 29 [.int .i64 1, .str p1, .nils, .sl 3]), (1, vD 0 []), (0, vB b c)]⟩
theorem tR (m : Nat) (f : List Int) (a : Int) (p1 : List UInt8) (r0 : Tree) (g : List Int) (b : Int) (h : ∃ c d e, aC f a 4 c d e ∧ gw m p1 d e ([] : List Tree) c r0 g b) : kK f a p1 r0 g b := by
 refine qA 31 [0] Tryz.func43 fun K hK => ?_
 refine gR 17 rfl ?_
 obtain ⟨c, d, e, i, h⟩ := h
 refine qC i [0] ?_
 exact gR 4 rfl <| go_loop m <| gNC 2 3 29 4 rfl rfl rfl rfl <| qJ hK (h K _ hK (by omega)) [0, 1, 2, 4]
theorem jx (m : Nat) (p1 : List UInt8) (n : List Int) (o : Int) (d : List Tree) (e : Int) (r0 : Tree) (i : List Int) (f : Int) (h : ((0 < e) → ∃ a p q, nr n o a p q ∧ (d ++ [a]).length ≤ 1000000000 ∧ InI (e - 1) ∧ gw m p1 p q (d ++ [a]) (e - 1) r0 i f) ∧ ((¬ 0 < e) → ∃ b, jC (Tree.node 1 p1 [] d) b ∧ ∃ j k l, aC n o 2 j k l ∧ ((j = 0) → ∃ c r g, iL k l b c r g ∧ c = r0 ∧ r = i ∧ g = f) ∧ ((j ≠ 0) → b = r0 ∧ k = i ∧ l = f))) : gw (m + 1) p1 n o d e r0 i f := by
 refine qj fun K j1 hK x => ?_
 refine gR 7 rfl <| qXd 12 rfl rfl rfl h ?_ ?_ <;> intro hd h
 refine gR 5 rfl <| qDs [2] 7 8 <| qDr [(0, 2), (1, 3), (2, 0)] rfl rfl ?_
 obtain ⟨a, p, q, s, h⟩ := h
 refine qDC 3 s [0] rfl ?_
 refine qDr [(4, 0)] rfl rfl <| gHR 6 (kidsV [a]) rfl (kL a) rfl ?_
 obtain ⟨hb, h⟩ := h
 refine ba 5 (.repl 3 (.row 29 4 (kidsV (d ++ [a])))) rfl (by kernel_rfl) (bJ ai rfl rfl rfl rfl rfl (gy d [a]).symm (by rw [aD]; exact hb)) (okR rfl) rfl (by kernel_rfl) rfl rfl ?_
 refine qDr [(6, 0), (7, 1)] rfl rfl <| qDe <| gR 4 rfl ?_
 obtain ⟨hb, h⟩ := h
 exact gR 1 rfl <| gV 14 (.int .i64 (e - 1)) rfl (al hb rfl) rfl <| gR 2 rfl <| go_xloop <| qJ hK (h K _ hK (by omega)) [0, 1, 2, 7]
 refine gR 3 rfl <| go_xloopE <| gR 5 rfl <| gFR 3 rfl (cq _) rfl rfl ?_
 obtain ⟨b, t, h⟩ := h
 refine gC0 t (by kernel_rfl) rfl rfl (.cons (.agg (.cons .rfl (.cons .rfl (.cons (.nil 1) (.cons .rfl .nil))))) .nil) rfl <| gR 7 rfl ?_
 obtain ⟨j, k, l, v, h⟩ := h
 refine qC v [0] ?_
 refine gR 3 rfl <| qXe 26 rfl rfl rfl h ?_ ?_ <;> intro hd h
 refine gR 4 rfl ?_
 obtain ⟨c, r, g, w, h⟩ := h
 refine qC w [0] ?_
 refine gR 10 rfl ?_
 obtain ⟨rfl, rfl, rfl⟩ := h
 exact gE hK [(1, vC c.kind c.text c.leads c.kids)] [(4, .ptr 1 0)] [0, 1] [.cell 4 29]
 refine gR 10 rfl ?_
 obtain ⟨rfl, rfl, rfl⟩ := h
 exact gE hK [(1, vC b.kind b.text b.leads b.kids)] [(4, .ptr 1 0)] [0, 1] [.cell 4 29]
def bz (m : Nat) (a : List Int) (b : Int) (c : List Tree) (d : Int) (r0 : List Tree) : Prop := ∀ (K : Ctx) (j1 : Nat), av K [] → m ≤ j1 → qLG K Tryz.f17 (fun u _ => u = .row 4 (kidsV r0)) (xI (xA (ah Tryz.f17))) [.loop (xI (xA (ah Tryz.f17))) j1, .blk 0, .seq (xA (xH (ah Tryz.f17)))] 35 (mkF 35 0 [(3, .ptr 0 0), (4, .sl 1), (5, .sl 2), (6, .int .i64 d)]) ⟨3, [(2, .row 9 1 [.str [65], .str [66], .str [67]]), (1, .row 29 4 (kidsV c)), (0, vB a b)]⟩
theorem sS (m : Nat) (p0 : List Int) (r0 : List Tree) (h : ∃ a b, qq p0 a b ∧ ∃ c d e, aC a b 4 c d e ∧ bz m d e ([] : List Tree) c r0) : kr p0 r0 := by
 refine ⟨rfl, rfl, ?_⟩
 refine qA 35 [] Tryz.func17 fun K hK => ?_
 refine gR 8 rfl ?_
 obtain ⟨a, b, f, h⟩ := h
 refine qC f [] ?_
 refine gR 18 rfl ?_
 obtain ⟨c, d, e, g, h⟩ := h
 refine qC g [0] ?_
 exact gR 4 rfl <| go_loop m <| gNS 4 29 4 rfl rfl rfl rfl <| qJ hK (h K _ hK (by omega)) [0, 3, 1]
theorem je (m : Nat) (p : List Int) (q : Int) (c : List Tree) (b : Int) (r0 : List Tree) (h : ((0 < b) → ∃ l, [[65], [66], [67]][c.length]? = some l ∧ ∃ a n o, kK p q l a n o ∧ ∃ g d e, aC n o 8 g d e ∧ ((g = 7) → ∃ i, ff (Tree.node a.kind [65] a.leads a.kids) i ∧ ((i = true) → (c ++ [(Tree.node a.kind [65] a.leads a.kids)]).length ≤ 1000000000 ∧ InI (b - 1) ∧ bz m d e (c ++ [(Tree.node a.kind [65] a.leads a.kids)]) (b - 1) r0) ∧ ((i = false) → InI (b - 1) ∧ bz m d e c (b - 1) r0)) ∧ ((g ≠ 7) → ∃ j, ff a j ∧ ((j = true) → (c ++ [a]).length ≤ 1000000000 ∧ InI (b - 1) ∧ bz m d e (c ++ [a]) (b - 1) r0) ∧ ((j = false) → InI (b - 1) ∧ bz m d e c (b - 1) r0))) ∧ ((¬ 0 < b) → c = r0)) : bz (m + 1) p q c b r0 := by
 refine qj fun K j1 hK x => ?_
 refine gR 7 rfl <| qXd 14 rfl rfl rfl h ?_ ?_ <;> intro hd h
 refine gR 11 rfl <| gV 20 (.int .i64 (c.length : Int)) rfl (aP (aD _)) rfl <| gLO 1 rfl (aD _) fun w => ?_
 obtain ⟨l, k, h⟩ := h
 refine gY (yIO ai rfl rfl rfl rfl (qG (mapget (f := V.str) k))) rfl rfl ?_
 refine gDo (.nop) (dLe ai rfl rfl rfl (mapget (f := V.str) k) rfl) trivial rfl rfl rfl ?_
 obtain ⟨a, n, o, r, h⟩ := h
 refine qC r [0] ?_
 refine gR 8 rfl ?_
 obtain ⟨g, d, e, s, h⟩ := h
 refine qC s [0] ?_
 refine gR 3 rfl <| qXe 26 rfl rfl rfl h ?_ ?_ <;> intro hd h
 refine gR 9 rfl ?_
 obtain ⟨i, t, h⟩ := h
 refine qC0 t rfl <| gR 2 rfl <| qXi 29 rfl rfl rfl h ?_ ?_ <;> intro hd h
 refine gR 5 rfl <| gHR 7 (kidsV [(Tree.node a.kind [65] a.leads a.kids)]) rfl (kL (Tree.node a.kind [65] a.leads a.kids)) rfl ?_
 obtain ⟨hb, h⟩ := h
 refine gDo (.repl 1 (.row 29 4 (kidsV (c ++ [(Tree.node a.kind [65] a.leads a.kids)])))) (bJ ai rfl rfl rfl rfl rfl (gy c [(Tree.node a.kind [65] a.leads a.kids)]).symm (by rw [aD]; exact hb)) (okR rfl) rfl rfl rfl <| gR 6 rfl ?_
 obtain ⟨hb, h⟩ := h
 exact gR 1 rfl <| gV 16 (.int .i64 (b - 1)) rfl (al hb rfl) rfl <| gR 2 rfl <| go_xloop <| qJ hK (h K _ hK (by omega)) [0, 8, 2]
 refine gR 6 rfl ?_
 obtain ⟨hb, h⟩ := h
 exact gR 1 rfl <| gV 16 (.int .i64 (b - 1)) rfl (al hb rfl) rfl <| gR 2 rfl <| go_xloop <| qJ hK (h K _ hK (by omega)) [0, 1, 2]
 refine gR 6 rfl ?_
 obtain ⟨j, v, h⟩ := h
 refine qC0 v rfl <| gR 2 rfl <| qXi 29 rfl rfl rfl h ?_ ?_ <;> intro hd h
 refine gR 5 rfl <| gHR 7 (kidsV [a]) rfl (kL a) rfl ?_
 obtain ⟨hb, h⟩ := h
 refine gDo (.repl 1 (.row 29 4 (kidsV (c ++ [a])))) (bJ ai rfl rfl rfl rfl rfl (gy c [a]).symm (by rw [aD]; exact hb)) (okR rfl) rfl rfl rfl <| gR 6 rfl ?_
 obtain ⟨hb, h⟩ := h
 exact gR 1 rfl <| gV 16 (.int .i64 (b - 1)) rfl (al hb rfl) rfl <| gR 2 rfl <| go_xloop <| qJ hK (h K _ hK (by omega)) [0, 8, 2]
 refine gR 6 rfl ?_
 obtain ⟨hb, h⟩ := h
 exact gR 1 rfl <| gV 16 (.int .i64 (b - 1)) rfl (al hb rfl) rfl <| gR 2 rfl <| go_xloop <| qJ hK (h K _ hK (by omega)) [0, 1, 2]
 refine gR 3 rfl <| go_xloopE <| gR 9 rfl <| gFR 1 rfl (cq _) rfl rfl ?_
 subst h
 exact qN [.tmp 2]
theorem mc (m : Nat) (b : List Int) (a p1 r0 : Int) (g : List Int) (c : Int) (h : (((b.length : Int) ≤ a) → 0 = r0 ∧ b = g ∧ a = c) ∧ ((¬ (b.length : Int) ≤ a) → InI (a + 1) ∧ InI ((a + 1) - 1) ∧ ∃ d, ((a + 1) - 1) = ((d : Nat) : Int) ∧ ∃ i, b[d]? = some i ∧ ∃ e, nj i p1 e ∧ e = r0 ∧ b = g ∧ (a + 1) = c)) : aC b a p1 r0 g c := by
 refine qA 35 [0] Tryz.func42 fun K hK => ?_
 refine gR 7 rfl <| qDs [0] 10 10 <| qDr [(0, 2), (1, 2), (2, 2), (3, 3), (4, 0), (5, 0), (6, 0), (7, 0), (8, 0)] rfl rfl <| gV 13 (.int .i64 (b.length : Int)) rfl (aP (az (V.int .i64) _)) rfl <| gLB 12 rfl (az (V.int .i64) _) fun n => qDr [(9, 0)] rfl rfl <| qDe <| gR 1 rfl <| qBd 14 rfl rfl rfl h ?_ ?_ <;> intro h
 refine gR 8 rfl ?_
 obtain ⟨rfl, rfl, rfl⟩ := h
 exact gE hK [] [(4, .int .i64 0)] [0] [.tmp 4]
 refine gR 9 rfl ?_
 obtain ⟨hb, h⟩ := h
 refine gR 1 rfl <| gV 19 (.int .i64 (a + 1)) rfl (al hb rfl) rfl <| gR 6 rfl <| qDs [0] 13 14 <| qDr [(0, 2), (1, 2), (2, 2), (3, 3), (4, 2), (5, 2), (6, 2), (7, 3)] rfl rfl ?_
 obtain ⟨hb, h⟩ := h
 refine qDr [(8, 2)] rfl rfl <| gV 30 (.int .i64 ((a + 1) - 1)) rfl (al hb rfl) rfl ?_
 obtain ⟨d, k, h⟩ := h
 refine gV 30 (.int .i64 ((d : Nat) : Int)) rfl (aZ k) rfl ?_
 obtain ⟨i, j, h⟩ := h
 refine gYd 9 rfl (by kernel_rfl) (aH (mapget (f := (V.int .i64)) j) ai rfl rfl rfl rfl) rfl rfl <| qDr [(10, 2), (11, 0)] rfl rfl ?_
 obtain ⟨e, l, h⟩ := h
 refine bN 12 l (by kernel_rfl) rfl (by kernel_rfl) rfl rfl .rfl rfl rfl ?_
 refine qDr [(13, 1)] rfl rfl <| qDe <| gR 2 rfl ?_
 obtain ⟨rfl, rfl, rfl⟩ := h
 exact gE hK [] [(4, .int .i64 e)] [0] [.tmp 4]
def fK (m : Nat) (p0 : Int) (a : (List (List UInt8))) (b : Nat) (r0 : (List (List UInt8))) : Prop := ∀ (K : Ctx) (j1 : Nat), av K [] → m ≤ j1 → qLG K Tryz.f150 (fun u G => u = .sl 0 ∧ G = ⟨1, [(0, .row 9 1 (List.map V.str r0))]⟩) (xI (ah Tryz.f150)) [.loop (xI (ah Tryz.f150)) j1, .blk 0, .seq (xH (ah Tryz.f150))] 14 (mkF 14 0 [(0, .int .i64 p0), (3, .sl 0), (4, .int .i64 (b : Int))]) ⟨1, [(0, .row 9 1 (List.map V.str a))]⟩
theorem te (m : Nat) (p0 : Int) (r0 : (List (List UInt8))) (h : fK m p0 ([] : List (List UInt8)) 0 r0) : jW p0 r0 := by
 refine qA 14 [] Tryz.func150 fun K hK => ?_
 exact gR 17 rfl <| go_loop m <| gNS 3 9 1 rfl rfl rfl rfl <| qJ hK (h K _ hK (by omega)) [0]
theorem jd (m : Nat) (p0 : Int) (a : (List (List UInt8))) (b : Nat) (r0 : (List (List UInt8))) (h : (((b : Int) < p0) → (a ++ [[32]]).length ≤ 1000000000 ∧ b + 1 ≤ 9223372036854775807 ∧ fK m p0 (a ++ [[32]]) (b + 1) r0) ∧ ((¬ (b : Int) < p0) → a = r0)) : fK (m + 1) p0 a b r0 := by
 refine qj fun K j1 hK c => ?_
 refine gR 8 rfl <| qXd 7 rfl rfl rfl h ?_ ?_ <;> intro hd h
 refine gR 8 rfl ?_
 obtain ⟨hb, h⟩ := h
 refine gDo (.repl 0 (.row 9 1 (List.map V.str (a ++ [[32]])))) (bJ ai rfl rfl rfl rfl rfl (apM V.str a [32]) (by rw [az]; exact hb)) (okR rfl) rfl rfl rfl <| gR 6 rfl ?_
 obtain ⟨hb, h⟩ := h
 exact gR 1 rfl <| gV 9 (.int .i64 ((b + 1 : Nat) : Int)) rfl (al (by omega) (by omega)) rfl <| gR 2 rfl <| go_xloop <| qJ hK (h K _ hK (by omega)) [2]
 refine gR 3 rfl <| go_xloopE <| gR 9 rfl ?_
 subst h
 exact gE hK [] [(2, .sl 0)] [0] [.tmp 2]
def dP (m : Nat) (p0 : Tree) (p2 : List UInt8) (a : Bool) (r0 : List UInt8) : Prop := ∀ (K : Ctx), av K [] → qLG K Tryz.f151 (fun u _ => u = .str r0) (cB (xF (ah Tryz.f151))) [.blk 1, .seq (xH (ah Tryz.f151))] 31 (mkF 31 0 [(2, .str p2), (3, .box (ak p0) 0), (15, .int .i64 p0.kind), (16, .bool a)]) ⟨0, []⟩
theorem sI (m : Nat) (p0 : Tree) (p1 : Int) (p2 r0 : List UInt8) (h : ((p0.kind = 1) → [10, 10] = r0) ∧ ((p0.kind ≠ 1) → ((0 < p1) → [32] = r0) ∧ ((¬ 0 < p1) → ((p0.kind = 8) → dP m p0 p2 true r0) ∧ ((p0.kind ≠ 8) → ((p0.kind = 22) → dP m p0 p2 true r0) ∧ ((p0.kind ≠ 22) → ((p0.kind = 16) → dP m p0 p2 true r0) ∧ ((p0.kind ≠ 16) → dP m p0 p2 (p0.kind == 18) r0)))))) : jU p0 p1 p2 r0 := by
 refine ⟨rfl, rfl, ?_⟩
 refine qA 31 [] Tryz.func151 fun K hK => ?_
 refine gR 3 rfl <| gFP 0 rfl rfl rfl rfl <| gR 13 rfl <| qBeZ 7 10 rfl rfl rfl rfl h ?_ ?_ <;> intro h
 refine gR 9 rfl ?_
 subst h
 exact qN [.tmp 6]
 refine gR 8 rfl <| qBdZ 11 13 rfl rfl rfl rfl h ?_ ?_ <;> intro h
 refine gR 9 rfl ?_
 subst h
 exact qN [.tmp 6]
 refine gR 19 rfl <| qBeZ 16 17 rfl rfl rfl rfl h ?_ ?_ <;> intro h
 exact gR 3 rfl <| qJ hK (h K hK) []
 refine gR 7 rfl <| qBeZ 16 18 rfl rfl rfl rfl h ?_ ?_ <;> intro h
 exact gR 3 rfl <| qJ hK (h K hK) []
 refine gR 7 rfl <| qBeZ 16 19 rfl rfl rfl rfl h ?_ ?_ <;> intro h
 exact gR 3 rfl <| qJ hK (h K hK) []
 exact gR 6 rfl <| qJ hK (h K hK) []
theorem se (m : Nat) (p0 : Tree) (p2 : List UInt8) (a : Bool) (r0 : List UInt8) (h : ((a = true) → [] = r0) ∧ ((a = false) → ((p0.kind = 2) → ((2 < (p0.kids.length : Int)) → [] = r0) ∧ ((¬ 2 < (p0.kids.length : Int)) → [32] = r0)) ∧ ((p0.kind ≠ 2) → ((p0.kind = 17) → p2 = r0) ∧ ((p0.kind ≠ 17) → ((p0.kind = 21) → p2 = r0) ∧ ((p0.kind ≠ 21) → [32] = r0))))) : dP (m + 1) p0 p2 a r0 := by
 intro K hK
 refine qBi 16 rfl rfl rfl h ?_ ?_ <;> intro h
 refine gR 9 rfl ?_
 subst h
 exact qN [.tmp 6]
 refine gR 7 rfl <| qBeZ 21 22 rfl rfl rfl rfl h ?_ ?_ <;> intro h
 refine gR 6 rfl <| gV 25 (.int .i64 (p0.kids.length : Int)) rfl (aP (aD _)) rfl <| gLB 24 rfl (aD _) fun b => gR 3 rfl <| qBd 26 rfl rfl rfl h ?_ ?_ <;> intro h
 refine gR 9 rfl ?_
 subst h
 exact qN [.tmp 6]
 refine gR 10 rfl ?_
 subst h
 exact qN [.tmp 6]
 refine gR 8 rfl <| qBeZ 27 28 rfl rfl rfl rfl h ?_ ?_ <;> intro h
 refine gR 13 rfl ?_
 subst h
 exact qN [.tmp 6]
 refine gR 6 rfl <| qBeZ 27 29 rfl rfl rfl rfl h ?_ ?_ <;> intro h
 refine gR 10 rfl ?_
 subst h
 exact qN [.tmp 6]
 refine gR 10 rfl ?_
 subst h
 exact qN [.tmp 6]
def mJ (m : Nat) (p0 : Tree) (p1 : List UInt8) (a : (List (List UInt8))) (r0 : Tree) : Prop := ∀ (K : Ctx), av K [] → Go Tryz.prog K (bodyPost Tryz.prog Tryz.f111 (SP K (fun u _ => u = .agg (ak r0)))) (.ex .normal) [.seq (xH (ah Tryz.f111))] 109 (mkF 109 0 [(1, .str p1), (2, .box (ak p0) 0), (4, .ptr 0 0), (5, .int .i64 (p0.kids.length : Int)), (6, .ptr 1 0)]) ⟨3, [(2, .row 9 1 (List.map V.str a)), (1, .var 29 [.int .i64 p0.kind, .str p0.text, .sl 2, .nils]), (0, vD 0 [])]⟩
def dB (m : Nat) (p0 : Tree) (p1 : List UInt8) (a : (List (List UInt8))) (b : List Tree) (c : Nat) (r0 : Tree) : Prop := ∀ (K : Ctx) (j1 : Nat), av K [] → m ≤ j1 → qLG K Tryz.f111 (fun u _ => u = .agg (ak r0)) (xI (xA (ah Tryz.f111))) [.loop (xI (xA (ah Tryz.f111))) j1, .blk 0, .seq (xA (xH (ah Tryz.f111)))] 109 (mkF 109 0 [(1, .str p1), (2, .box (ak p0) 0), (4, .ptr 0 0), (5, .int .i64 (p0.kids.length : Int)), (6, .ptr 1 0), (7, .sl 2), (8, .int .i64 (c : Int))]) ⟨4, [(3, .row 9 1 (List.map V.str a)), (2, .row 29 4 (kidsV b)), (1, .var 29 [.int .i64 p0.kind, .str p0.text, .sl 3, .nils]), (0, vD 0 [])]⟩
def dC (m : Nat) (p0 : Tree) (a : (List (List UInt8))) (b : List Tree) (r0 : Tree) : Prop := ∀ (K : Ctx), av K [] → qLG K Tryz.f111 (fun u _ => u = .agg (ak r0)) (xJ (xA (ah Tryz.f111))) [] 109 (mkF 109 0 [(2, .box (ak p0) 0), (4, .ptr 0 0), (6, .ptr 1 0), (7, .sl 2)]) ⟨4, [(3, .row 9 1 (List.map V.str a)), (2, .row 29 4 (kidsV b)), (1, .var 29 [.int .i64 p0.kind, .str p0.text, .sl 3, .nils]), (0, vD 0 [])]⟩
def fu (m : Nat) (p0 : Tree) (a : (List (List UInt8))) (b : Nat) (c : List Tree) (r0 : Tree) : Prop := ∀ (K : Ctx) (j1 : Nat), av K [] → m ≤ j1 → qLG K Tryz.f111 (fun u _ => u = .agg (ak r0)) (xM (xA (xK (xB (xF (xJ (ah Tryz.f111))))))) [.loop (xM (xA (xK (xB (xF (xJ (ah Tryz.f111))))))) j1, .blk 3, .blk 2, .seq (xJ (xH (ah Tryz.f111)))] 109 (mkF 109 0 [(4, .ptr 0 0), (6, .ptr 1 0), (7, .sl 2), (9, .int .i64 (b : Int))]) ⟨4, [(3, .row 9 1 (List.map V.str a)), (2, .row 29 4 (kidsV c)), (1, .var 29 [.int .i64 p0.kind, .str p0.text, .sl 3, .nils]), (0, vD 0 [])]⟩
def dE (m : Nat) (p0 : Tree) (a : (List (List UInt8))) (b : Nat) (c : List Tree) (r0 : Tree) : Prop := ∀ (K : Ctx) (j1 : Nat), av K [] → m ≤ j1 → qLG K Tryz.f111 (fun u _ => u = .agg (ak r0)) (xL (xK (xC (xB (xF (xJ (ah Tryz.f111))))))) [.loop (xL (xK (xC (xB (xF (xJ (ah Tryz.f111))))))) j1, .blk 5, .blk 2, .seq (xJ (xH (ah Tryz.f111)))] 109 (mkF 109 0 [(4, .ptr 0 0), (6, .ptr 1 0), (7, .sl 2), (10, .int .i64 (b : Int))]) ⟨4, [(3, .row 9 1 (List.map V.str a)), (2, .row 29 4 (kidsV c)), (1, .var 29 [.int .i64 p0.kind, .str p0.text, .sl 3, .nils]), (0, vD 0 [])]⟩
theorem sq (m : Nat) (p0 : Tree) (p1 : List UInt8) (r0 : Tree) (h : ∃ b, fj p0.kind (p0.kids.length : Int) b ∧ ∃ a, jW b a ∧ mJ m p0 p1 a r0) : fQ p0 p1 r0 := by
 refine ⟨rfl, rfl, ?_⟩
 refine qA 109 [] Tryz.func111 fun K hK => ?_
 refine gR 3 rfl <| gFP 0 rfl rfl rfl rfl <| gR 8 rfl <| gV 13 (.int .i64 (p0.kids.length : Int)) rfl (aP (aD _)) rfl <| gLB 12 rfl (aD _) fun f => gR 4 rfl <| qDs [] 11 12 <| qDr [(0, 2), (1, 2), (2, 2), (3, 2), (4, 2), (5, 2), (6, 2)] rfl rfl ?_
 obtain ⟨b, c, h⟩ := h
 apply dK (i := 7) (j := 10) (by kernel_rfl) rfl rfl rfl rfl
 exact (gG (L' := []) (by kernel_rfl) rfl rfl (ug c .rfl [] rfl) (.inl rfl))
 exact (de ai rfl rfl)
 obtain ⟨a, d, h⟩ := h
 apply dK (i := 8) (j := 10) (by kernel_rfl) rfl rfl rfl rfl
 exact (gG (L' := []) (by kernel_rfl) rfl rfl (pO (H := ⟨2, [(1, vD 0 [])]⟩) d [] .rfl trivial rfl [] rfl) (.inl rfl))
 exact (de ai rfl rfl)
 exact gHR 2 (List.map V.str a) rfl (oy _ V.str (fun _ => rfl) a) rfl <| qDr [(9, 2), (10, 0), (11, 1)] rfl rfl <| qDe <| qJ hK (h K hK) [1, 3, 2]
 refine qDC 8 d [] rfl ?_
 exact gHR 3 (List.map V.str a) rfl (oy _ V.str (fun _ => rfl) a) rfl <| qDr [(9, 0), (11, 1)] rfl rfl <| qDe <| qJ hK (h K hK) [1, 2, 3]
 refine bN 7 c (by kernel_rfl) rfl (by kernel_rfl) rfl rfl .rfl rfl rfl ?_
 obtain ⟨a, e, h⟩ := h
 refine qDC 8 e [] rfl ?_
 exact gHR 3 (List.map V.str a) rfl (oy _ V.str (fun _ => rfl) a) rfl <| qDr [(9, 0), (11, 1)] rfl rfl <| qDe <| qJ hK (h K hK) [1, 2, 3]
theorem rz (m : Nat) (p0 : Tree) (p1 : List UInt8) (a : (List (List UInt8))) (r0 : Tree) (h : p0.kids.length ≤ 1000000000 ∧ dB m p0 p1 a (List.replicate p0.kids.length (Tree.node 0 [] [] [])) 0 r0) : mJ (m + 1) p0 p1 a r0 := by
 intro K hK
 refine gR 4 rfl ?_
 obtain ⟨hb, h⟩ := h
 exact gDo (.new (.row 29 4 (List.replicate p0.kids.length (.agg [.int .i64 0, .str [], .nils, .nils])))) (dMk ai rfl rfl rfl rfl rfl rfl rfl (by kernel_rfl) hb) trivial rfl rfl rfl <| gHW 3 (List.replicate p0.kids.length (.agg [.int .i64 0, .str [], .row 1 [], .row 4 (kidsV [])])) rfl rfl (aJ.rep (.agg (.cons .rfl (.cons .rfl (.cons (.nil 1) (.cons (.nil 4) .nil))))) _) rfl <| gHR 3 (kidsV (List.replicate p0.kids.length (Tree.node 0 [] [] []))) rfl (by first | (simp only [rP, List.map_replicate]; done) | (simp only [rP, List.map_replicate]; rfl)) rfl <| gR 10 rfl <| go_loop m <| qJ hK (h K _ hK (by omega)) [0, 1, 3, 2]
theorem eZ (m : Nat) (p0 : Tree) (p1 : List UInt8) (b : (List (List UInt8))) (c : List Tree) (a : Nat) (r0 : Tree) (h : ((a < p0.kids.length) → ∃ i, p0.kids[a]? = some i ∧ ∃ j, jU p0 (a : Int) p1 j ∧ ∃ d, fQ i j d ∧ ∃ l, c[a]? = some l ∧ a + 1 ≤ 9223372036854775807 ∧ dB m p0 p1 b (c.set a d) (a + 1) r0) ∧ ((¬ a < p0.kids.length) → ((p0.kind ≠ 17) → ((p0.kind ≠ 21) → ∃ n, b[0]? = some n ∧ dC m p0 (b.set 0 p1) c r0) ∧ ((p0.kind = 21) → dC m p0 b c r0)) ∧ ((p0.kind = 17) → dC m p0 b c r0))) : dB (m + 1) p0 p1 b c a r0 := by
 refine qj fun K j1 hK q => ?_
 refine gR 8 rfl <| qXh 28 rfl rfl rfl h cF cC ?_ ?_ <;> intro hd h
 refine gR 5 rfl <| qDs [] 13 14 <| qDr [(0, 2), (1, 2), (2, 2), (3, 2), (4, 2)] rfl rfl ?_
 obtain ⟨i, k, h⟩ := h
 refine gYd 5 rfl (by kernel_rfl) (aH (aw k) ai rfl rfl rfl rfl) rfl rfl <| qDr [(6, 2), (7, 2), (8, 2), (9, 0)] rfl rfl ?_
 obtain ⟨j, o, h⟩ := h
 refine bN 10 o (by kernel_rfl) rfl (by kernel_rfl) rfl rfl .rfl rfl rfl ?_
 obtain ⟨d, p, h⟩ := h
 refine bN 11 p (by kernel_rfl) rfl (by kernel_rfl) rfl rfl .rfl rfl rfl ?_
 obtain ⟨l, e, h⟩ := h
 refine bS 12 rfl (by kernel_rfl) (yIO ai rfl rfl rfl rfl (by have := (aw e); exact (List.getElem?_eq_some_iff.1 this).1)) rfl rfl ?_
 refine ba 13 (.set 2 (.row 29 4 (kidsV (c.set a d)))) rfl (by kernel_rfl) (dSe ai rfl rfl rfl rfl (aw e) rfl (Hr c a d)) (okS rfl) rfl (by kernel_rfl) rfl rfl ?_
 refine qDe <| gR 4 rfl ?_
 obtain ⟨hb, h⟩ := h
 exact gR 1 rfl <| gV 30 (.int .i64 ((a + 1 : Nat) : Int)) rfl (al (by omega) (by omega)) rfl <| gR 2 rfl <| go_xloop <| qJ hK (h K _ hK (by omega)) [0, 1, 2, 3]
 refine gR 3 rfl <| go_xloopE <| gR 9 rfl <| qXhZ 47 46 rfl rfl rfl rfl h ep cM ?_ ?_ <;> intro hd h
 refine gR 6 rfl <| qXh 51 rfl rfl rfl h ep cM ?_ ?_ <;> intro hd h
 refine gR 5 rfl ?_
 obtain ⟨n, g, h⟩ := h
 refine gY (yIO ai rfl rfl rfl rfl (qG (mapget (f := V.str) g))) rfl rfl ?_
 exact gDo (.set 3 (.row 9 1 (List.map V.str (b.set 0 p1)))) (dSe ai rfl rfl rfl rfl (mapget (f := V.str) g) rfl (jZ V.str b 0 p1)) (okS rfl) rfl rfl rfl <| gR 2 rfl <| qJ hK (h K hK) [0, 1, 2, 3]
 exact gR 3 rfl <| qJ hK (h K hK) [0, 1, 2, 3]
 exact gR 9 rfl <| qJ hK (h K hK) [0, 1, 2, 3]
theorem bH (m : Nat) (p0 : Tree) (a : (List (List UInt8))) (b : List Tree) (r0 : Tree) (h : ((p0.kind = 1) → ∃ l, a[2]? = some l ∧ (Tree.node p0.kind p0.text (a.set 2 [10]) b) = r0) ∧ ((p0.kind ≠ 1) → ((p0.kind = 2) → ∃ n, a[2]? = some n ∧ ∃ o, (a.set 2 [])[3]? = some o ∧ ∃ p, ((a.set 2 []).set 3 [])[4]? = some p ∧ fu m p0 (((a.set 2 []).set 3 []).set 4 []) 6 b r0) ∧ ((p0.kind ≠ 2) → ((p0.kind = 4) → ∃ q, a[1]? = some q ∧ (Tree.node p0.kind p0.text (a.set 1 []) b) = r0) ∧ ((p0.kind ≠ 4) → ((p0.kind = 8) → ∃ r, a[1]? = some r ∧ (Tree.node p0.kind p0.text (a.set 1 []) b) = r0) ∧ ((p0.kind ≠ 8) → ((p0.kind = 22) → ∃ s, a[1]? = some s ∧ (Tree.node p0.kind p0.text (a.set 1 []) b) = r0) ∧ ((p0.kind ≠ 22) → ((p0.kind = 16) → dE m p0 a 1 b r0) ∧ ((p0.kind ≠ 16) → ((p0.kind = 18) → dE m p0 a 1 b r0) ∧ ((p0.kind ≠ 18) → (Tree.node p0.kind p0.text a b) = r0)))))))) : dC (m + 1) p0 a b r0 := by
 intro K hK
 refine gR 14 rfl <| qXeZ 58 59 rfl rfl rfl rfl h ?_ ?_ <;> intro hd h
 refine gR 4 rfl ?_
 obtain ⟨l, c, h⟩ := h
 refine gY (yIO ai rfl rfl rfl rfl (qG (mapget (f := V.str) c))) rfl rfl ?_
 refine gDo (.set 3 (.row 9 1 (List.map V.str (a.set 2 [10])))) (dSe ai rfl rfl rfl rfl (mapget (f := V.str) c) rfl (jZ V.str a 2 [10])) (okS rfl) rfl rfl rfl <| gR 17 rfl <| gFR 3 rfl (hZ _ (fun _ => rfl) _) rfl rfl <| gFR 2 rfl (cq _) rfl rfl ?_
 subst h
 exact go_sub (F' := (mkF 109 0 [(4, .ptr 0 0)])) (H' := ⟨1, [(0, vC ((Tree.node p0.kind p0.text (a.set 2 [10]) b).kind) ((Tree.node p0.kind p0.text (a.set 2 [10]) b).text) ((Tree.node p0.kind p0.text (a.set 2 [10]) b).leads) ((Tree.node p0.kind p0.text (a.set 2 [10]) b).kids))]⟩) [0] [] rfl hK pq1 (pqo1 rfl rfl) rfl <| qN [.cell 4 29]
 refine gR 7 rfl <| qXeZ 63 64 rfl rfl rfl rfl h ?_ ?_ <;> intro hd h
 refine gR 2 rfl <| qDs [1] 11 12 <| qDr [(0, 2), (1, 3), (2, 2), (3, 3), (4, 2), (5, 3)] rfl rfl ?_
 obtain ⟨n, d, h⟩ := h
 refine bS 6 rfl (by kernel_rfl) (yIO ai rfl rfl rfl rfl (qG (mapget (f := V.str) d))) rfl rfl ?_
 refine ba 7 (.set 3 (.row 9 1 (List.map V.str (a.set 2 [])))) rfl (by kernel_rfl) (dSe ai rfl rfl rfl rfl (mapget (f := V.str) d) rfl (jZ V.str a 2 [])) (okS rfl) rfl (by kernel_rfl) rfl rfl ?_
 obtain ⟨o, e, h⟩ := h
 refine bS 8 rfl (by kernel_rfl) (yIO ai rfl rfl rfl rfl (qG (mapget (f := V.str) e))) rfl rfl ?_
 refine ba 9 (.set 3 (.row 9 1 (List.map V.str ((a.set 2 []).set 3 [])))) rfl (by kernel_rfl) (dSe ai rfl rfl rfl rfl (mapget (f := V.str) e) rfl (jZ V.str (a.set 2 []) 3 [])) (okS rfl) rfl (by kernel_rfl) rfl rfl ?_
 obtain ⟨p, g, h⟩ := h
 refine bS 10 rfl (by kernel_rfl) (yIO ai rfl rfl rfl rfl (qG (mapget (f := V.str) g))) rfl rfl ?_
 refine ba 11 (.set 3 (.row 9 1 (List.map V.str (((a.set 2 []).set 3 []).set 4 [])))) rfl (by kernel_rfl) (dSe ai rfl rfl rfl rfl (mapget (f := V.str) g) rfl (jZ V.str ((a.set 2 []).set 3 []) 4 [])) (okS rfl) rfl (by kernel_rfl) rfl rfl ?_
 exact qDe <| gR 7 rfl <| go_loop m <| qJ hK (h K _ hK (by omega)) [0, 1, 2, 3]
 refine gR 8 rfl <| qXeZ 85 86 rfl rfl rfl rfl h ?_ ?_ <;> intro hd h
 refine gR 7 rfl ?_
 obtain ⟨q, i, h⟩ := h
 refine gY (yIO ai rfl rfl rfl rfl (qG (mapget (f := V.str) i))) rfl rfl ?_
 refine gDo (.set 3 (.row 9 1 (List.map V.str (a.set 1 [])))) (dSe ai rfl rfl rfl rfl (mapget (f := V.str) i) rfl (jZ V.str a 1 [])) (okS rfl) rfl rfl rfl <| gR 17 rfl <| gFR 3 rfl (hZ _ (fun _ => rfl) _) rfl rfl <| gFR 2 rfl (cq _) rfl rfl ?_
 subst h
 exact go_sub (F' := (mkF 109 0 [(4, .ptr 0 0)])) (H' := ⟨1, [(0, vC ((Tree.node p0.kind p0.text (a.set 1 []) b).kind) ((Tree.node p0.kind p0.text (a.set 1 []) b).text) ((Tree.node p0.kind p0.text (a.set 1 []) b).leads) ((Tree.node p0.kind p0.text (a.set 1 []) b).kids))]⟩) [0] [] rfl hK pq1 (pqo1 rfl rfl) rfl <| qN [.cell 4 29]
 refine gR 7 rfl <| qXeZ 85 87 rfl rfl rfl rfl h ?_ ?_ <;> intro hd h
 refine gR 7 rfl ?_
 obtain ⟨r, j, h⟩ := h
 refine gY (yIO ai rfl rfl rfl rfl (qG (mapget (f := V.str) j))) rfl rfl ?_
 refine gDo (.set 3 (.row 9 1 (List.map V.str (a.set 1 [])))) (dSe ai rfl rfl rfl rfl (mapget (f := V.str) j) rfl (jZ V.str a 1 [])) (okS rfl) rfl rfl rfl <| gR 17 rfl <| gFR 3 rfl (hZ _ (fun _ => rfl) _) rfl rfl <| gFR 2 rfl (cq _) rfl rfl ?_
 subst h
 exact go_sub (F' := (mkF 109 0 [(4, .ptr 0 0)])) (H' := ⟨1, [(0, vC ((Tree.node p0.kind p0.text (a.set 1 []) b).kind) ((Tree.node p0.kind p0.text (a.set 1 []) b).text) ((Tree.node p0.kind p0.text (a.set 1 []) b).leads) ((Tree.node p0.kind p0.text (a.set 1 []) b).kids))]⟩) [0] [] rfl hK pq1 (pqo1 rfl rfl) rfl <| qN [.cell 4 29]
 refine gR 6 rfl <| qXeZ 85 88 rfl rfl rfl rfl h ?_ ?_ <;> intro hd h
 refine gR 4 rfl ?_
 obtain ⟨s, k, h⟩ := h
 refine gY (yIO ai rfl rfl rfl rfl (qG (mapget (f := V.str) k))) rfl rfl ?_
 refine gDo (.set 3 (.row 9 1 (List.map V.str (a.set 1 [])))) (dSe ai rfl rfl rfl rfl (mapget (f := V.str) k) rfl (jZ V.str a 1 [])) (okS rfl) rfl rfl rfl <| gR 17 rfl <| gFR 3 rfl (hZ _ (fun _ => rfl) _) rfl rfl <| gFR 2 rfl (cq _) rfl rfl ?_
 subst h
 exact go_sub (F' := (mkF 109 0 [(4, .ptr 0 0)])) (H' := ⟨1, [(0, vC ((Tree.node p0.kind p0.text (a.set 1 []) b).kind) ((Tree.node p0.kind p0.text (a.set 1 []) b).text) ((Tree.node p0.kind p0.text (a.set 1 []) b).leads) ((Tree.node p0.kind p0.text (a.set 1 []) b).kids))]⟩) [0] [] rfl hK pq1 (pqo1 rfl rfl) rfl <| qN [.cell 4 29]
 refine gR 8 rfl <| qXeZ 92 93 rfl rfl rfl rfl h ?_ ?_ <;> intro hd h
 exact gR 10 rfl <| go_loop m <| qJ hK (h K _ hK (by omega)) [0, 1, 2, 3]
 refine gR 6 rfl <| qXeZ 92 94 rfl rfl rfl rfl h ?_ ?_ <;> intro hd h
 exact gR 7 rfl <| go_loop m <| qJ hK (h K _ hK (by omega)) [0, 1, 2, 3]
 refine gR 18 rfl <| gFR 3 rfl (hZ _ (fun _ => rfl) _) rfl rfl <| gFR 2 rfl (cq _) rfl rfl ?_
 subst h
 exact go_sub (F' := (mkF 109 0 [(4, .ptr 0 0)])) (H' := ⟨1, [(0, vC ((Tree.node p0.kind p0.text a b).kind) ((Tree.node p0.kind p0.text a b).text) ((Tree.node p0.kind p0.text a b).leads) ((Tree.node p0.kind p0.text a b).kids))]⟩) [0] [] rfl hK pq1 (pqo1 rfl rfl) rfl <| qN [.cell 4 29]
theorem io (m : Nat) (p0 : Tree) (a : (List (List UInt8))) (b : Nat) (c : List Tree) (r0 : Tree) (h : ((b < a.length) → ∃ e, a[b]? = some e ∧ fu m p0 (a.set b []) (b + 1) c r0) ∧ ((¬ b < a.length) → (Tree.node p0.kind p0.text a c) = r0)) : fu (m + 1) p0 a b c r0 := by
 refine qj fun K j1 hK i => ?_
 refine gR 7 rfl <| gV 77 (.int .i64 (a.length : Int)) rfl (aP (az V.str _)) rfl <| gLO 3 rfl (az V.str _) fun g => gR 3 rfl <| qXh 78 rfl rfl rfl h cF cC ?_ ?_ <;> intro hd h
 refine gR 9 rfl ?_
 obtain ⟨e, d, h⟩ := h
 refine gY (yIO ai rfl rfl rfl rfl (qG (mapget (f := V.str) d))) rfl rfl ?_
 exact gDo (.set 3 (.row 9 1 (List.map V.str (a.set b [])))) (dSe ai rfl rfl rfl rfl (mapget (f := V.str) d) rfl (jZ V.str a b [])) (okS rfl) rfl rfl rfl <| gR 6 rfl <| gV 80 (.int .i64 ((b + 1 : Nat) : Int)) rfl (al (by have := g; omega) (by omega)) rfl <| gR 2 rfl <| go_xloop <| qJ hK (h K _ hK (by omega)) [0, 1, 2, 3]
 refine gR 3 rfl <| go_xloopE <| gR 17 rfl <| gFR 3 rfl (hZ _ (fun _ => rfl) _) rfl rfl <| gFR 2 rfl (cq _) rfl rfl ?_
 subst h
 exact go_sub (F' := (mkF 109 0 [(4, .ptr 0 0)])) (H' := ⟨1, [(0, vC ((Tree.node p0.kind p0.text a c).kind) ((Tree.node p0.kind p0.text a c).text) ((Tree.node p0.kind p0.text a c).leads) ((Tree.node p0.kind p0.text a c).kids))]⟩) [0] [] rfl hK pq1 (pqo1 rfl rfl) rfl <| qN [.cell 4 29]
theorem il (m : Nat) (p0 : Tree) (a : (List (List UInt8))) (b : Nat) (c : List Tree) (r0 : Tree) (h : ((b < a.length) → ∃ e, a[b]? = some e ∧ dE m p0 (a.set b []) (b + 1) c r0) ∧ ((¬ b < a.length) → (Tree.node p0.kind p0.text a c) = r0)) : dE (m + 1) p0 a b c r0 := by
 refine qj fun K j1 hK i => ?_
 refine gR 7 rfl <| gV 98 (.int .i64 (a.length : Int)) rfl (aP (az V.str _)) rfl <| gLO 3 rfl (az V.str _) fun g => gR 3 rfl <| qXh 99 rfl rfl rfl h cF cC ?_ ?_ <;> intro hd h
 refine gR 9 rfl ?_
 obtain ⟨e, d, h⟩ := h
 refine gY (yIO ai rfl rfl rfl rfl (qG (mapget (f := V.str) d))) rfl rfl ?_
 exact gDo (.set 3 (.row 9 1 (List.map V.str (a.set b [])))) (dSe ai rfl rfl rfl rfl (mapget (f := V.str) d) rfl (jZ V.str a b [])) (okS rfl) rfl rfl rfl <| gR 6 rfl <| gV 101 (.int .i64 ((b + 1 : Nat) : Int)) rfl (al (by have := g; omega) (by omega)) rfl <| gR 2 rfl <| go_xloop <| qJ hK (h K _ hK (by omega)) [0, 1, 2, 3]
 refine gR 3 rfl <| go_xloopE <| gR 17 rfl <| gFR 3 rfl (hZ _ (fun _ => rfl) _) rfl rfl <| gFR 2 rfl (cq _) rfl rfl ?_
 subst h
 exact go_sub (F' := (mkF 109 0 [(4, .ptr 0 0)])) (H' := ⟨1, [(0, vC ((Tree.node p0.kind p0.text a c).kind) ((Tree.node p0.kind p0.text a c).text) ((Tree.node p0.kind p0.text a c).leads) ((Tree.node p0.kind p0.text a c).kids))]⟩) [0] [] rfl hK pq1 (pqo1 rfl rfl) rfl <| qN [.cell 4 29]
theorem mP (m : Nat) (p0 r0 : Tree) (h : ∃ b, eJ p0 b ∧ ((b = false) → (Tree.node 0 [] [] []) = r0) ∧ ((b = true) → ∃ a, fQ p0 [] a ∧ a = r0)) : jC p0 r0 := by
 refine ⟨rfl, rfl, ?_⟩
 refine qA 9 [] Tryz.func71 fun K hK => ?_
 refine gR 3 rfl <| gFP 0 rfl rfl rfl rfl <| gR 7 rfl ?_
 obtain ⟨b, c, h⟩ := h
 refine qC0 c rfl <| gR 3 rfl <| qBh 5 rfl rfl rfl h ci ch ?_ ?_ <;> intro h
 refine gR 9 rfl ?_
 subst h
 exact go_sub (F' := (mkF 9 0 [(2, .ptr 0 0)])) (H' := ⟨1, [(0, vC ((Tree.node 0 [] [] []).kind) ((Tree.node 0 [] [] []).text) ((Tree.node 0 [] [] []).leads) ((Tree.node 0 [] [] []).kids))]⟩) [1] [] rfl hK pq1 ⟨⟨_, rfl, rfl, (.cons .rfl (.cons .rfl (.cons (.nil 1) (.cons (.nil 4) .nil))))⟩, trivial⟩ rfl <| qN [.cell 2 29]
 refine gR 6 rfl ?_
 obtain ⟨a, d, h⟩ := h
 refine qC0 d rfl <| gR 4 rfl ?_
 subst h
 exact go_sub (F' := (mkF 9 0 [(2, .ptr 0 0)])) (H' := ⟨1, [(0, vC a.kind a.text a.leads a.kids)]⟩) [1] [] rfl hK pq1 (pqo1 rfl rfl) rfl <| qN [.cell 2 29]
theorem gd (m : Nat) (p0 : Tree) (r0 : Bool) (h : ∃ a, fc p0 a ∧ ((a = true) → ∃ b, gr p0 b ∧ ((b = true) → ∃ c, hD p0 c ∧ ((c ≤ 40) → ∃ d, kI p0 d ∧ decide ((d.length : Int) ≤ 4096) = r0) ∧ ((¬ c ≤ 40) → false = r0)) ∧ ((b = false) → false = r0)) ∧ ((a = false) → false = r0)) : ff p0 r0 := by
 refine ⟨rfl, rfl, ?_⟩
 refine qA 20 [] Tryz.func44 fun K hK => ?_
 refine gR 3 rfl <| gFP 0 rfl rfl rfl rfl <| gR 6 rfl ?_
 obtain ⟨a, e, h⟩ := h
 refine qC0 e rfl <| gR 1 rfl <| qBiZ 5 4 rfl rfl rfl rfl h ?_ ?_ <;> intro h
 refine gR 1 rfl ?_
 obtain ⟨b, f, h⟩ := h
 refine qC0 f rfl <| gR 2 rfl <| qBiZ 9 8 rfl rfl rfl rfl h ?_ ?_ <;> intro h
 refine gR 1 rfl ?_
 obtain ⟨c, g, h⟩ := h
 refine qC0 g rfl <| gR 3 rfl <| qBdZ 14 13 rfl rfl rfl rfl h ?_ ?_ <;> intro h
 refine gR 1 rfl ?_
 obtain ⟨d, i, h⟩ := h
 refine qC0 i rfl <| gR 7 rfl ?_
 subst h
 exact qN [.tmp 2]
 refine gR 9 rfl ?_
 subst h
 exact qN [.tmp 2]
 refine gR 14 rfl ?_
 subst h
 exact qN [.tmp 2]
 refine gR 18 rfl ?_
 subst h
 exact qN [.tmp 2]
theorem lP (m : Nat) (p0 : Tree) (r0 : Bool) (h : ∃ a, eJ p0 a ∧ ((a = true) → ∃ b, ii p0 b ∧ b = r0) ∧ ((a = false) → false = r0)) : fc p0 r0 := by
 refine ⟨rfl, rfl, ?_⟩
 refine qA 9 [] Tryz.func73 fun K hK => ?_
 refine gR 3 rfl <| gFP 0 rfl rfl rfl rfl <| gR 6 rfl ?_
 obtain ⟨a, c, h⟩ := h
 refine qC0 c rfl <| gR 1 rfl <| qBiZ 5 4 rfl rfl rfl rfl h ?_ ?_ <;> intro h
 refine gR 1 rfl ?_
 obtain ⟨b, d, h⟩ := h
 refine qC0 d rfl <| gR 5 rfl ?_
 subst h
 exact qN [.tmp 2]
 refine gR 7 rfl ?_
 subst h
 exact qN [.tmp 2]
def dg (m : Nat) (p0 : Tree) (a : Nat) (r0 : Bool) : Prop := ∀ (K : Ctx) (j1 : Nat), av K [] → m ≤ j1 → qLG K Tryz.f112 (fun u _ => u = .bool r0) (xI (ah Tryz.f112)) [.loop (xI (ah Tryz.f112)) j1, .blk 0, .seq (xH (ah Tryz.f112))] 50 (mkF 50 0 [(1, .box (ak p0) 0), (3, .int .i64 (a : Int))]) ⟨0, []⟩
def gx (m : Nat) (p0 : Tree) (a : Nat) (r0 : Bool) : Prop := ∀ (K : Ctx) (j1 : Nat), av K [] → m ≤ j1 → qLG K Tryz.f112 (fun u _ => u = .bool r0) (xI (cB (ah Tryz.f112))) [.loop (xI (cB (ah Tryz.f112))) j1, .blk 2, .seq (xJ (ah Tryz.f112))] 50 (mkF 50 0 [(1, .box (ak p0) 0), (4, .int .i64 (a : Int))]) ⟨0, []⟩
theorem oI (m : Nat) (p0 : Tree) (r0 : Bool) (h : ∃ a, fj p0.kind (p0.kids.length : Int) a ∧ (((p0.leads.length : Int) ≠ a) → false = r0) ∧ (((p0.leads.length : Int) = a) → dg m p0 0 r0)) : ii p0 r0 := by
 refine ⟨rfl, rfl, ?_⟩
 refine qA 50 [] Tryz.func112 fun K hK => ?_
 refine gR 3 rfl <| gFP 0 rfl rfl rfl rfl <| gR 5 rfl <| qDs [] 10 10 <| qDr [(0, 2), (1, 2), (2, 2)] rfl rfl <| gV 7 (.int .i64 (p0.leads.length : Int)) rfl (aP (az V.str _)) rfl <| gLB 6 rfl (az V.str _) fun c => qDr [(3, 2), (4, 2), (5, 0), (6, 0), (7, 0)] rfl rfl <| gV 12 (.int .i64 (p0.kids.length : Int)) rfl (aP (aD _)) rfl <| gLB 11 rfl (aD _) fun d => ?_
 obtain ⟨a, b, h⟩ := h
 refine bN 8 b (by kernel_rfl) rfl (by kernel_rfl) rfl rfl .rfl rfl rfl ?_
 refine qDr [(9, 0)] rfl rfl <| qDe <| gR 1 rfl <| qXh 14 rfl rfl rfl h ep cM ?_ ?_ <;> intro hd h
 refine gR 8 rfl ?_
 subst h
 exact qN [.tmp 2]
 exact gR 10 rfl <| go_loop m <| qJ hK (h K _ hK (by omega)) []
theorem dU (m : Nat) (p0 : Tree) (a : Nat) (r0 : Bool) (h : ((a < p0.leads.length) → ∃ b, p0.leads[a]? = some b ∧ ((p0.kind = 1) → ∃ c, jT b ((a : Int) == 2) c ∧ ((c = false) → false = r0) ∧ ((c = true) → dg m p0 (a + 1) r0)) ∧ ((p0.kind ≠ 1) → ∃ d, jT b false d ∧ ((d = false) → false = r0) ∧ ((d = true) → dg m p0 (a + 1) r0))) ∧ ((¬ a < p0.leads.length) → gx m p0 0 r0)) : dg (m + 1) p0 a r0 := by
 refine qj fun K j1 hK k => ?_
 refine gR 7 rfl <| gV 18 (.int .i64 (p0.leads.length : Int)) rfl (aP (az V.str _)) rfl <| gLB 17 rfl (az V.str _) fun g => gR 3 rfl <| qXh 19 rfl rfl rfl h cF cC ?_ ?_ <;> intro hd h
 refine gR 6 rfl <| qDs [] 14 14 <| qDr [(0, 2), (1, 2), (2, 2)] rfl rfl ?_
 obtain ⟨b, e, h⟩ := h
 refine gYd 3 rfl (by kernel_rfl) (aH (mapget (f := V.str) e) ai rfl rfl rfl rfl) rfl rfl <| qDr [(4, 2), (5, 0), (6, 0), (7, 0), (8, 0)] rfl rfl <| qXeZ 30 29 rfl rfl rfl rfl h ?_ ?_ <;> intro hd h
 refine qDr [(9, 0), (10, 0), (11, 0)] rfl rfl ?_
 obtain ⟨c, i, h⟩ := h
 refine bN 12 i (by kernel_rfl) rfl (by kernel_rfl) rfl rfl .rfl rfl rfl ?_
 refine qDr [(13, 0)] rfl rfl <| qDe <| gR 1 rfl <| qXh 35 rfl rfl rfl h ci ch ?_ ?_ <;> intro hd h
 refine gR 9 rfl <| go_xloopR <| gR 2 rfl ?_
 subst h
 exact qN [.tmp 2]
 exact gR 7 rfl <| gV 21 (.int .i64 ((a + 1 : Nat) : Int)) rfl (al (by have := g; omega) (by omega)) rfl <| gR 2 rfl <| go_xloop <| qJ hK (h K _ hK (by omega)) []
 refine qDr [(9, 0), (10, 0), (11, 0)] rfl rfl ?_
 obtain ⟨d, j, h⟩ := h
 refine bN 12 j (by kernel_rfl) rfl (by kernel_rfl) rfl rfl .rfl rfl rfl ?_
 refine qDr [(13, 0)] rfl rfl <| qDe <| gR 1 rfl <| qXh 35 rfl rfl rfl h ci ch ?_ ?_ <;> intro hd h
 refine gR 9 rfl <| go_xloopR <| gR 2 rfl ?_
 subst h
 exact qN [.tmp 2]
 exact gR 7 rfl <| gV 21 (.int .i64 ((a + 1 : Nat) : Int)) rfl (al (by have := g; omega) (by omega)) rfl <| gR 2 rfl <| go_xloop <| qJ hK (h K _ hK (by omega)) []
 exact gR 3 rfl <| go_xloopE <| gR 9 rfl <| go_loop m <| qJ hK (h K _ hK (by omega)) []
theorem fN (m : Nat) (p0 : Tree) (a : Nat) (r0 : Bool) (h : ((a < p0.kids.length) → ∃ c, p0.kids[a]? = some c ∧ ∃ b, ii c b ∧ ((b = false) → false = r0) ∧ ((b = true) → gx m p0 (a + 1) r0)) ∧ ((¬ a < p0.kids.length) → true = r0)) : gx (m + 1) p0 a r0 := by
 refine qj fun K j1 hK g => ?_
 refine gR 7 rfl <| gV 39 (.int .i64 (p0.kids.length : Int)) rfl (aP (aD _)) rfl <| gLB 38 rfl (aD _) fun e => gR 3 rfl <| qXh 40 rfl rfl rfl h cF cC ?_ ?_ <;> intro hd h
 refine gR 10 rfl ?_
 obtain ⟨c, d, h⟩ := h
 refine gY (aH (aw d) ai rfl rfl rfl rfl) rfl rfl <| gR 1 rfl ?_
 obtain ⟨b, f, h⟩ := h
 refine qC0 f rfl <| gR 3 rfl <| qXh 49 rfl rfl rfl h ci ch ?_ ?_ <;> intro hd h
 refine gR 9 rfl <| go_xloopR <| gR 2 rfl ?_
 subst h
 exact qN [.tmp 2]
 exact gR 7 rfl <| gV 42 (.int .i64 ((a + 1 : Nat) : Int)) rfl (al (by have := e; omega) (by omega)) rfl <| gR 2 rfl <| go_xloop <| qJ hK (h K _ hK (by omega)) []
 refine gR 3 rfl <| go_xloopE <| gR 8 rfl ?_
 subst h
 exact qN [.tmp 2]
def aA (m : Nat) (p0 : Tree) (a : Nat) (r0 : Bool) : Prop := ∀ (K : Ctx) (j1 : Nat), av K [] → m ≤ j1 → qLG K Tryz.f74 (fun u _ => u = .bool r0) (xI (cB (ah Tryz.f74))) [.loop (xI (cB (ah Tryz.f74))) j1, .blk 0, .seq (xJ (ah Tryz.f74))] 54 (mkF 54 0 [(1, .box (ak p0) 0), (3, .int .i64 (p0.kids.length : Int)), (4, .int .i64 (a : Int))]) ⟨0, []⟩
theorem nO (m : Nat) (p0 : Tree) (r0 : Bool) (h : ((p0.kind = 1) → ((40 < (p0.kids.length : Int)) → false = r0) ∧ ((¬ 40 < (p0.kids.length : Int)) → ((p0.kind = 2) → ((10 < (p0.kids.length : Int)) → false = r0) ∧ ((¬ 10 < (p0.kids.length : Int)) → ((p0.kind = 16) → ((8 < (p0.kids.length : Int)) → false = r0) ∧ ((¬ 8 < (p0.kids.length : Int)) → ((p0.kind = 18) → ((16 < (p0.kids.length : Int)) → false = r0) ∧ ((¬ 16 < (p0.kids.length : Int)) → aA m p0 0 r0)) ∧ ((p0.kind ≠ 18) → aA m p0 0 r0))) ∧ ((p0.kind ≠ 16) → ((p0.kind = 18) → ((16 < (p0.kids.length : Int)) → false = r0) ∧ ((¬ 16 < (p0.kids.length : Int)) → aA m p0 0 r0)) ∧ ((p0.kind ≠ 18) → aA m p0 0 r0)))) ∧ ((p0.kind ≠ 2) → ((p0.kind = 16) → ((8 < (p0.kids.length : Int)) → false = r0) ∧ ((¬ 8 < (p0.kids.length : Int)) → ((p0.kind = 18) → ((16 < (p0.kids.length : Int)) → false = r0) ∧ ((¬ 16 < (p0.kids.length : Int)) → aA m p0 0 r0)) ∧ ((p0.kind ≠ 18) → aA m p0 0 r0))) ∧ ((p0.kind ≠ 16) → ((p0.kind = 18) → ((16 < (p0.kids.length : Int)) → false = r0) ∧ ((¬ 16 < (p0.kids.length : Int)) → aA m p0 0 r0)) ∧ ((p0.kind ≠ 18) → aA m p0 0 r0))))) ∧ ((p0.kind ≠ 1) → ((p0.kind = 2) → ((10 < (p0.kids.length : Int)) → false = r0) ∧ ((¬ 10 < (p0.kids.length : Int)) → ((p0.kind = 16) → ((8 < (p0.kids.length : Int)) → false = r0) ∧ ((¬ 8 < (p0.kids.length : Int)) → ((p0.kind = 18) → ((16 < (p0.kids.length : Int)) → false = r0) ∧ ((¬ 16 < (p0.kids.length : Int)) → aA m p0 0 r0)) ∧ ((p0.kind ≠ 18) → aA m p0 0 r0))) ∧ ((p0.kind ≠ 16) → ((p0.kind = 18) → ((16 < (p0.kids.length : Int)) → false = r0) ∧ ((¬ 16 < (p0.kids.length : Int)) → aA m p0 0 r0)) ∧ ((p0.kind ≠ 18) → aA m p0 0 r0)))) ∧ ((p0.kind ≠ 2) → ((p0.kind = 16) → ((8 < (p0.kids.length : Int)) → false = r0) ∧ ((¬ 8 < (p0.kids.length : Int)) → ((p0.kind = 18) → ((16 < (p0.kids.length : Int)) → false = r0) ∧ ((¬ 16 < (p0.kids.length : Int)) → aA m p0 0 r0)) ∧ ((p0.kind ≠ 18) → aA m p0 0 r0))) ∧ ((p0.kind ≠ 16) → ((p0.kind = 18) → ((16 < (p0.kids.length : Int)) → false = r0) ∧ ((¬ 16 < (p0.kids.length : Int)) → aA m p0 0 r0)) ∧ ((p0.kind ≠ 18) → aA m p0 0 r0))))) : gr p0 r0 := by
 refine ⟨rfl, rfl, ?_⟩
 refine qA 54 [] Tryz.func74 fun K hK => ?_
 refine gR 3 rfl <| gFP 0 rfl rfl rfl rfl <| gR 8 rfl <| gV 7 (.int .i64 (p0.kids.length : Int)) rfl (aP (aD _)) rfl <| gLB 6 rfl (aD _) fun a => gR 10 rfl <| qXeZ 11 10 rfl rfl rfl rfl h ?_ ?_ <;> intro hd h
 refine gR 4 rfl <| qXdZ 15 14 rfl rfl rfl rfl h ?_ ?_ <;> intro hd h
 refine gR 36 rfl ?_
 subst h
 exact qN [.tmp 2]
 refine gR 4 rfl <| qXeZ 19 18 rfl rfl rfl rfl h ?_ ?_ <;> intro hd h
 refine gR 5 rfl <| qXdZ 24 23 rfl rfl rfl rfl h ?_ ?_ <;> intro hd h
 refine gR 27 rfl ?_
 subst h
 exact qN [.tmp 2]
 refine gR 4 rfl <| qXeZ 28 27 rfl rfl rfl rfl h ?_ ?_ <;> intro hd h
 refine gR 5 rfl <| qXdZ 33 32 rfl rfl rfl rfl h ?_ ?_ <;> intro hd h
 refine gR 18 rfl ?_
 subst h
 exact qN [.tmp 2]
 refine gR 4 rfl <| qXeZ 37 36 rfl rfl rfl rfl h ?_ ?_ <;> intro hd h
 refine gR 6 rfl <| qXd 41 rfl rfl rfl h ?_ ?_ <;> intro hd h
 refine gR 8 rfl ?_
 subst h
 exact qN [.tmp 2]
 exact gR 10 rfl <| go_loop m <| qJ hK (h K _ hK (by omega)) []
 exact gR 16 rfl <| go_loop m <| qJ hK (h K _ hK (by omega)) []
 refine gR 9 rfl <| qXeZ 37 36 rfl rfl rfl rfl h ?_ ?_ <;> intro hd h
 refine gR 6 rfl <| qXd 41 rfl rfl rfl h ?_ ?_ <;> intro hd h
 refine gR 8 rfl ?_
 subst h
 exact qN [.tmp 2]
 exact gR 10 rfl <| go_loop m <| qJ hK (h K _ hK (by omega)) []
 exact gR 16 rfl <| go_loop m <| qJ hK (h K _ hK (by omega)) []
 refine gR 9 rfl <| qXeZ 28 27 rfl rfl rfl rfl h ?_ ?_ <;> intro hd h
 refine gR 5 rfl <| qXdZ 33 32 rfl rfl rfl rfl h ?_ ?_ <;> intro hd h
 refine gR 18 rfl ?_
 subst h
 exact qN [.tmp 2]
 refine gR 4 rfl <| qXeZ 37 36 rfl rfl rfl rfl h ?_ ?_ <;> intro hd h
 refine gR 6 rfl <| qXd 41 rfl rfl rfl h ?_ ?_ <;> intro hd h
 refine gR 8 rfl ?_
 subst h
 exact qN [.tmp 2]
 exact gR 10 rfl <| go_loop m <| qJ hK (h K _ hK (by omega)) []
 exact gR 16 rfl <| go_loop m <| qJ hK (h K _ hK (by omega)) []
 refine gR 9 rfl <| qXeZ 37 36 rfl rfl rfl rfl h ?_ ?_ <;> intro hd h
 refine gR 6 rfl <| qXd 41 rfl rfl rfl h ?_ ?_ <;> intro hd h
 refine gR 8 rfl ?_
 subst h
 exact qN [.tmp 2]
 exact gR 10 rfl <| go_loop m <| qJ hK (h K _ hK (by omega)) []
 exact gR 16 rfl <| go_loop m <| qJ hK (h K _ hK (by omega)) []
 refine gR 8 rfl <| qXeZ 19 18 rfl rfl rfl rfl h ?_ ?_ <;> intro hd h
 refine gR 5 rfl <| qXdZ 24 23 rfl rfl rfl rfl h ?_ ?_ <;> intro hd h
 refine gR 27 rfl ?_
 subst h
 exact qN [.tmp 2]
 refine gR 4 rfl <| qXeZ 28 27 rfl rfl rfl rfl h ?_ ?_ <;> intro hd h
 refine gR 5 rfl <| qXdZ 33 32 rfl rfl rfl rfl h ?_ ?_ <;> intro hd h
 refine gR 18 rfl ?_
 subst h
 exact qN [.tmp 2]
 refine gR 4 rfl <| qXeZ 37 36 rfl rfl rfl rfl h ?_ ?_ <;> intro hd h
 refine gR 6 rfl <| qXd 41 rfl rfl rfl h ?_ ?_ <;> intro hd h
 refine gR 8 rfl ?_
 subst h
 exact qN [.tmp 2]
 exact gR 10 rfl <| go_loop m <| qJ hK (h K _ hK (by omega)) []
 exact gR 16 rfl <| go_loop m <| qJ hK (h K _ hK (by omega)) []
 refine gR 9 rfl <| qXeZ 37 36 rfl rfl rfl rfl h ?_ ?_ <;> intro hd h
 refine gR 6 rfl <| qXd 41 rfl rfl rfl h ?_ ?_ <;> intro hd h
 refine gR 8 rfl ?_
 subst h
 exact qN [.tmp 2]
 exact gR 10 rfl <| go_loop m <| qJ hK (h K _ hK (by omega)) []
 exact gR 16 rfl <| go_loop m <| qJ hK (h K _ hK (by omega)) []
 refine gR 9 rfl <| qXeZ 28 27 rfl rfl rfl rfl h ?_ ?_ <;> intro hd h
 refine gR 5 rfl <| qXdZ 33 32 rfl rfl rfl rfl h ?_ ?_ <;> intro hd h
 refine gR 18 rfl ?_
 subst h
 exact qN [.tmp 2]
 refine gR 4 rfl <| qXeZ 37 36 rfl rfl rfl rfl h ?_ ?_ <;> intro hd h
 refine gR 6 rfl <| qXd 41 rfl rfl rfl h ?_ ?_ <;> intro hd h
 refine gR 8 rfl ?_
 subst h
 exact qN [.tmp 2]
 exact gR 10 rfl <| go_loop m <| qJ hK (h K _ hK (by omega)) []
 exact gR 16 rfl <| go_loop m <| qJ hK (h K _ hK (by omega)) []
 refine gR 9 rfl <| qXeZ 37 36 rfl rfl rfl rfl h ?_ ?_ <;> intro hd h
 refine gR 6 rfl <| qXd 41 rfl rfl rfl h ?_ ?_ <;> intro hd h
 refine gR 8 rfl ?_
 subst h
 exact qN [.tmp 2]
 exact gR 10 rfl <| go_loop m <| qJ hK (h K _ hK (by omega)) []
 exact gR 16 rfl <| go_loop m <| qJ hK (h K _ hK (by omega)) []
theorem fw (m : Nat) (p0 : Tree) (a : Nat) (r0 : Bool) (h : ((a < p0.kids.length) → ∃ c, p0.kids[a]? = some c ∧ ∃ b, gr c b ∧ ((b = false) → false = r0) ∧ ((b = true) → a + 1 ≤ 9223372036854775807 ∧ aA m p0 (a + 1) r0)) ∧ ((¬ a < p0.kids.length) → true = r0)) : aA (m + 1) p0 a r0 := by
 refine qj fun K j1 hK f => ?_
 refine gR 8 rfl <| qXh 44 rfl rfl rfl h cF cC ?_ ?_ <;> intro hd h
 refine gR 10 rfl ?_
 obtain ⟨c, d, h⟩ := h
 refine gY (aH (aw d) ai rfl rfl rfl rfl) rfl rfl <| gR 1 rfl ?_
 obtain ⟨b, e, h⟩ := h
 refine qC0 e rfl <| gR 3 rfl <| qXh 53 rfl rfl rfl h ci ch ?_ ?_ <;> intro hd h
 refine gR 9 rfl <| go_xloopR <| gR 2 rfl ?_
 subst h
 exact qN [.tmp 2]
 refine gR 6 rfl ?_
 obtain ⟨hb, h⟩ := h
 exact gR 1 rfl <| gV 46 (.int .i64 ((a + 1 : Nat) : Int)) rfl (al (by omega) (by omega)) rfl <| gR 2 rfl <| go_xloop <| qJ hK (h K _ hK (by omega)) []
 refine gR 3 rfl <| go_xloopE <| gR 8 rfl ?_
 subst h
 exact qN [.tmp 2]
def gm (m : Nat) (p0 : Tree) (a : Int) (b : Nat) (r0 : Int) : Prop := ∀ (K : Ctx) (j1 : Nat), av K [] → m ≤ j1 → qLG K Tryz.f75 (fun u _ => u = .int .i64 r0) (xI (ah Tryz.f75)) [.loop (xI (ah Tryz.f75)) j1, .blk 0, .seq (xH (ah Tryz.f75))] 22 (mkF 22 0 [(1, .box (ak p0) 0), (3, .int .i64 a), (4, .int .i64 (b : Int))]) ⟨0, []⟩
theorem tu (m : Nat) (p0 : Tree) (r0 : Int) (h : gm m p0 0 0 r0) : hD p0 r0 := by
 refine ⟨rfl, rfl, ?_⟩
 refine qA 22 [] Tryz.func75 fun K hK => ?_
 exact gR 3 rfl <| gFP 0 rfl rfl rfl rfl <| gR 15 rfl <| go_loop m <| qJ hK (h K _ hK (by omega)) []
theorem js (m : Nat) (p0 : Tree) (b : Int) (a : Nat) (r0 : Int) (h : ((a < p0.kids.length) → ∃ c, p0.kids[a]? = some c ∧ ∃ d, hD c d ∧ gm m p0 (max b d) (a + 1) r0) ∧ ((¬ a < p0.kids.length) → InI (b + 1) ∧ (b + 1) = r0)) : gm (m + 1) p0 b a r0 := by
 refine qj fun K j1 hK i => ?_
 refine gR 7 rfl <| gV 8 (.int .i64 (p0.kids.length : Int)) rfl (aP (aD _)) rfl <| gLB 7 rfl (aD _) fun f => gR 3 rfl <| qXh 9 rfl rfl rfl h cF cC ?_ ?_ <;> intro hd h
 refine gR 10 rfl ?_
 obtain ⟨c, e, h⟩ := h
 refine gY (aH (aw e) ai rfl rfl rfl rfl) rfl rfl <| gR 1 rfl ?_
 obtain ⟨d, g, h⟩ := h
 exact qC0 g rfl <| gR 8 rfl <| gV 11 (.int .i64 ((a + 1 : Nat) : Int)) rfl (al (by have := f; omega) (by omega)) rfl <| gR 2 rfl <| go_xloop <| qJ hK (h K _ hK (by omega)) []
 refine gR 3 rfl <| go_xloopE <| gR 5 rfl ?_
 obtain ⟨hb, h⟩ := h
 refine gR 1 rfl <| gV 21 (.int .i64 (b + 1)) rfl (al hb rfl) rfl <| gR 4 rfl ?_
 subst h
 exact qN [.tmp 2]
def bW (m : Nat) (a : List aa) (b : List UInt8) (c : Nat) (r0 : List UInt8) : Prop := ∀ (K : Ctx) (j1 : Nat), av K [] → m ≤ j1 → qLG K Tryz.f76 (fun u _ => u = .str r0) (xI (xA (ah Tryz.f76))) [.loop (xI (xA (ah Tryz.f76))) j1, .blk 0, .seq (xA (xH (ah Tryz.f76)))] 57 (mkF 57 0 [(3, .row 2 (List.map aa.w a)), (4, .str b), (5, .int .i64 (c : Int))]) ⟨0, []⟩
theorem nT (m : Nat) (p0 : Tree) (r0 : List UInt8) (h : ∃ a, fc p0 a ∧ ((a = false) → [] = r0) ∧ ((a = true) → ∃ b, oq p0 b ∧ bW m b [] 0 r0)) : kI p0 r0 := by
 refine ⟨rfl, rfl, ?_⟩
 refine qA 57 [] Tryz.func76 fun K hK => ?_
 refine gR 3 rfl <| gFP 0 rfl rfl rfl rfl <| gR 7 rfl ?_
 obtain ⟨a, c, h⟩ := h
 refine qC0 c rfl <| gR 3 rfl <| qXh 8 rfl rfl rfl h ci ch ?_ ?_ <;> intro hd h
 refine gR 8 rfl ?_
 subst h
 exact qN [.tmp 2]
 refine gR 6 rfl ?_
 obtain ⟨b, d, h⟩ := h
 exact qC0 d rfl <| gR 15 rfl <| go_loop m <| qJ hK (h K _ hK (by omega)) []
theorem cV (m : Nat) (b : List aa) (c : List UInt8) (a : Nat) (r0 : List UInt8) (h : ((a < b.length) → ((0 < (a : Int)) → ∃ l, b[a]? = some l ∧ ((l.Lead = []) → InI ((a : Int) - 1) ∧ ∃ n, ((a : Int) - 1) = ((n : Nat) : Int) ∧ ∃ s, b[n]? = some s ∧ ∃ t, b[a]? = some t ∧ ∃ o, oR s.Text t.Text o ∧ ((o = true) → c.length + [32].length ≤ 9223372036854775807 ∧ ∃ j, b[a]? = some j ∧ (c ++ [32]).length + j.Lead.length ≤ 9223372036854775807 ∧ ∃ p, b[a]? = some p ∧ ((c ++ [32]) ++ j.Lead).length + p.Text.length ≤ 9223372036854775807 ∧ bW m b (((c ++ [32]) ++ j.Lead) ++ p.Text) (a + 1) r0) ∧ ((o = false) → ∃ k, b[a]? = some k ∧ c.length + k.Lead.length ≤ 9223372036854775807 ∧ ∃ q, b[a]? = some q ∧ (c ++ k.Lead).length + q.Text.length ≤ 9223372036854775807 ∧ bW m b ((c ++ k.Lead) ++ q.Text) (a + 1) r0)) ∧ ((l.Lead ≠ []) → ∃ d, b[a]? = some d ∧ c.length + d.Lead.length ≤ 9223372036854775807 ∧ ∃ g, b[a]? = some g ∧ (c ++ d.Lead).length + g.Text.length ≤ 9223372036854775807 ∧ bW m b ((c ++ d.Lead) ++ g.Text) (a + 1) r0)) ∧ ((¬ 0 < (a : Int)) → ∃ e, b[a]? = some e ∧ c.length + e.Lead.length ≤ 9223372036854775807 ∧ ∃ i, b[a]? = some i ∧ (c ++ e.Lead).length + i.Text.length ≤ 9223372036854775807 ∧ bW m b ((c ++ e.Lead) ++ i.Text) (a + 1) r0)) ∧ ((¬ a < b.length) → c = r0)) : bW (m + 1) b c a r0 := by
 refine qj fun K j1 hK κ => ?_
 refine gR 6 rfl <| gV 13 (.int .i64 (b.length : Int)) rfl (aP (az aa.w _)) rfl <| gLB 12 rfl (az aa.w _) fun r => gR 3 rfl <| qXh 14 rfl rfl rfl h cF cC ?_ ?_ <;> intro hd h
 refine gR 7 rfl <| qDs [] 24 24 <| qDr [(0, 0), (1, 0), (2, 0)] rfl rfl <| qXdZ 19 18 rfl rfl rfl rfl h ?_ ?_ <;> intro hd h
 refine qDr [(3, 2), (4, 0)] rfl rfl ?_
 obtain ⟨l, α, h⟩ := h
 refine bS 5 rfl (by kernel_rfl) (aH (mapget (f := aa.w) α) ai rfl rfl rfl rfl) rfl rfl ?_
 refine qDr [(6, 0), (7, 0), (8, 0), (9, 0), (10, 0)] rfl rfl <| qXeZ 27 26 rfl rfl rfl rfl h ?_ ?_ <;> intro hd h
 refine qDr [(11, 2), (12, 2)] rfl rfl ?_
 obtain ⟨hb, h⟩ := h
 refine qDr [(13, 2)] rfl rfl <| gV 30 (.int .i64 ((a : Int) - 1)) rfl (al hb rfl) rfl ?_
 obtain ⟨n, θ, h⟩ := h
 refine gV 30 (.int .i64 ((n : Nat) : Int)) rfl (aZ θ) rfl ?_
 obtain ⟨s, β, h⟩ := h
 refine gYd 14 rfl (by kernel_rfl) (aH (mapget (f := aa.w) β) ai rfl rfl rfl rfl) rfl rfl <| qDr [(15, 2), (16, 2), (17, 2), (18, 0)] rfl rfl ?_
 obtain ⟨t, γ, h⟩ := h
 refine bS 19 rfl (by kernel_rfl) (aH (mapget (f := aa.w) γ) ai rfl rfl rfl rfl) rfl rfl ?_
 refine qDr [(20, 0), (21, 0)] rfl rfl ?_
 obtain ⟨o, ι, h⟩ := h
 refine bN 22 ι (by kernel_rfl) rfl (by kernel_rfl) rfl rfl .rfl rfl rfl ?_
 refine qDr [(23, 0)] rfl rfl <| qDe <| gR 1 rfl <| qXi 40 rfl rfl rfl h ?_ ?_ <;> intro hd h
 refine gR 3 rfl ?_
 obtain ⟨hb, h⟩ := h
 refine gY (tD rfl rfl hb) rfl rfl <| gR 3 rfl <| qDs [] 14 14 <| qDr [(0, 2), (1, 2), (2, 2)] rfl rfl ?_
 obtain ⟨j, δ, h⟩ := h
 refine gYd 3 rfl (by kernel_rfl) (aH (mapget (f := aa.w) δ) ai rfl rfl rfl rfl) rfl rfl <| qDr [(4, 2), (5, 2)] rfl rfl ?_
 obtain ⟨hb, h⟩ := h
 refine gYd 6 rfl (by kernel_rfl) (tD rfl rfl hb) rfl rfl <| qDr [(7, 2), (8, 0)] rfl rfl ?_
 obtain ⟨p, ε, h⟩ := h
 refine bS 9 rfl (by kernel_rfl) (aH (mapget (f := aa.w) ε) ai rfl rfl rfl rfl) rfl rfl ?_
 refine qDr [(10, 0), (11, 0)] rfl rfl ?_
 obtain ⟨hb, h⟩ := h
 refine bS 12 rfl (by kernel_rfl) (tD rfl rfl hb) rfl rfl ?_
 exact qDr [(13, 0)] rfl rfl <| qDe <| gR 5 rfl <| gV 16 (.int .i64 ((a + 1 : Nat) : Int)) rfl (al (by have := r; omega) (by omega)) rfl <| gR 2 rfl <| go_xloop <| qJ hK (h K _ hK (by omega)) []
 refine gR 3 rfl <| qDs [] 14 14 <| qDr [(0, 2), (1, 2), (2, 2)] rfl rfl ?_
 obtain ⟨k, ζ, h⟩ := h
 refine gYd 3 rfl (by kernel_rfl) (aH (mapget (f := aa.w) ζ) ai rfl rfl rfl rfl) rfl rfl <| qDr [(4, 2), (5, 2)] rfl rfl ?_
 obtain ⟨hb, h⟩ := h
 refine gYd 6 rfl (by kernel_rfl) (tD rfl rfl hb) rfl rfl <| qDr [(7, 2), (8, 0)] rfl rfl ?_
 obtain ⟨q, η, h⟩ := h
 refine bS 9 rfl (by kernel_rfl) (aH (mapget (f := aa.w) η) ai rfl rfl rfl rfl) rfl rfl ?_
 refine qDr [(10, 0), (11, 0)] rfl rfl ?_
 obtain ⟨hb, h⟩ := h
 refine bS 12 rfl (by kernel_rfl) (tD rfl rfl hb) rfl rfl ?_
 exact qDr [(13, 0)] rfl rfl <| qDe <| gR 5 rfl <| gV 16 (.int .i64 ((a + 1 : Nat) : Int)) rfl (al (by have := r; omega) (by omega)) rfl <| gR 2 rfl <| go_xloop <| qJ hK (h K _ hK (by omega)) []
 refine qDr [(11, 2), (12, 2), (13, 2), (14, 2), (15, 2), (16, 2), (17, 2), (18, 0), (19, 0), (20, 0), (21, 0), (22, 0), (23, 0)] rfl rfl <| qDe <| gR 4 rfl <| qDs [] 14 14 <| qDr [(0, 2), (1, 2), (2, 2)] rfl rfl ?_
 obtain ⟨d, v, h⟩ := h
 refine gYd 3 rfl (by kernel_rfl) (aH (mapget (f := aa.w) v) ai rfl rfl rfl rfl) rfl rfl <| qDr [(4, 2), (5, 2)] rfl rfl ?_
 obtain ⟨hb, h⟩ := h
 refine gYd 6 rfl (by kernel_rfl) (tD rfl rfl hb) rfl rfl <| qDr [(7, 2), (8, 0)] rfl rfl ?_
 obtain ⟨g, x, h⟩ := h
 refine bS 9 rfl (by kernel_rfl) (aH (mapget (f := aa.w) x) ai rfl rfl rfl rfl) rfl rfl ?_
 refine qDr [(10, 0), (11, 0)] rfl rfl ?_
 obtain ⟨hb, h⟩ := h
 refine bS 12 rfl (by kernel_rfl) (tD rfl rfl hb) rfl rfl ?_
 exact qDr [(13, 0)] rfl rfl <| qDe <| gR 5 rfl <| gV 16 (.int .i64 ((a + 1 : Nat) : Int)) rfl (al (by have := r; omega) (by omega)) rfl <| gR 2 rfl <| go_xloop <| qJ hK (h K _ hK (by omega)) []
 refine qDr [(3, 2), (4, 0), (5, 0), (6, 0), (7, 0), (8, 0), (9, 0), (10, 0), (11, 2), (12, 2), (13, 2), (14, 2), (15, 2), (16, 2), (17, 2), (18, 0), (19, 0), (20, 0), (21, 0), (22, 0), (23, 0)] rfl rfl <| qDe <| gR 4 rfl <| qDs [] 14 14 <| qDr [(0, 2), (1, 2), (2, 2)] rfl rfl ?_
 obtain ⟨e, y, h⟩ := h
 refine gYd 3 rfl (by kernel_rfl) (aH (mapget (f := aa.w) y) ai rfl rfl rfl rfl) rfl rfl <| qDr [(4, 2), (5, 2)] rfl rfl ?_
 obtain ⟨hb, h⟩ := h
 refine gYd 6 rfl (by kernel_rfl) (tD rfl rfl hb) rfl rfl <| qDr [(7, 2), (8, 0)] rfl rfl ?_
 obtain ⟨i, z, h⟩ := h
 refine bS 9 rfl (by kernel_rfl) (aH (mapget (f := aa.w) z) ai rfl rfl rfl rfl) rfl rfl ?_
 refine qDr [(10, 0), (11, 0)] rfl rfl ?_
 obtain ⟨hb, h⟩ := h
 refine bS 12 rfl (by kernel_rfl) (tD rfl rfl hb) rfl rfl ?_
 exact qDr [(13, 0)] rfl rfl <| qDe <| gR 5 rfl <| gV 16 (.int .i64 ((a + 1 : Nat) : Int)) rfl (al (by have := r; omega) (by omega)) rfl <| gR 2 rfl <| go_xloop <| qJ hK (h K _ hK (by omega)) []
 refine gR 3 rfl <| go_xloopE <| gR 9 rfl ?_
 subst h
 exact qN [.tmp 2]
theorem sO (m : Nat) (p0 : Tree) (r0 : List aa) (h : ∃ a, aq ([] : List aa) p0 a ∧ a = r0) : oq p0 r0 := by
 refine ⟨rfl, rfl, ?_⟩
 refine qA 5 [] Tryz.func113 fun K hK => ?_
 refine gR 3 rfl <| gFP 0 rfl rfl rfl rfl <| gR 6 rfl ?_
 obtain ⟨a, b, h⟩ := h
 refine gCn 0 164 2 b [1] (by kernel_rfl) rfl rfl rfl rfl .rfl ⟨⟨_, rfl, ⟨rfl, rfl, rfl⟩⟩, trivial⟩ rfl ?_
 rintro _ _ ⟨rfl, rfl⟩
 refine gHR 3 (List.map aa.w a) rfl (vG _ a) rfl <| gR 4 rfl <| gFR 3 rfl (hZ _ (fun _ => rfl) _) rfl rfl ?_
 subst h
 exact qN [.tmp 2]
def nG (m : Nat) (p0 : List aa) (p1 : Tree) (r0 : List aa) : Prop := ∀ (K : Ctx), av K [] → qLG K Tryz.f153 (fun u G => u = .sl 1 ∧ G = ⟨2, [(1, .row 164 2 (List.map aa.w r0))]⟩) (xK (xF (ah Tryz.f153))) [.blk 0, .seq (xH (ah Tryz.f153))] 365 (mkF 365 0 [(0, .sl 0), (3, .box (ak p1) 0), (5, .int .i64 (p1.kids.length : Int))]) ⟨1, [(0, .row 164 2 (List.map aa.w p0))]⟩
def jv (m : Nat) (p0 : List aa) (p1 : Tree) (r0 : List aa) : Prop := ∀ (K : Ctx), av K [] → qLG K Tryz.f153 (fun u G => u = .sl 1 ∧ G = ⟨2, [(1, .row 164 2 (List.map aa.w r0))]⟩) (xB (xF (ah Tryz.f153))) [.blk 0, .seq (xH (ah Tryz.f153))] 365 (mkF 365 0 [(0, .sl 0), (3, .box (ak p1) 0), (5, .int .i64 (p1.kids.length : Int)), (11, .int .i64 p1.kind)]) ⟨1, [(0, .row 164 2 (List.map aa.w p0))]⟩
def dO (m : Nat) (p1 : Tree) (a : List aa) (b : Nat) (r0 : List aa) : Prop := ∀ (K : Ctx) (j1 : Nat), av K [] → m ≤ j1 → qLG K Tryz.f153 (fun u G => u = .sl 1 ∧ G = ⟨2, [(1, .row 164 2 (List.map aa.w r0))]⟩) (xL (cA (cB (xK (xF (ah Tryz.f153)))))) [.loop (xL (cA (cB (xK (xF (ah Tryz.f153)))))) j1, .blk 1, .seq (xA (xK (xF (ah Tryz.f153)))), .blk 0, .seq (xH (ah Tryz.f153))] 365 (mkF 365 0 [(0, .sl 0), (3, .box (ak p1) 0), (5, .int .i64 (p1.kids.length : Int)), (6, .int .i64 (b : Int))]) ⟨1, [(0, .row 164 2 (List.map aa.w a))]⟩
def nH (m : Nat) (p0 : List aa) (p1 : Tree) (r0 : List aa) : Prop := ∀ (K : Ctx), av K [] → qLG K Tryz.f153 (fun u G => u = .sl 1 ∧ G = ⟨2, [(1, .row 164 2 (List.map aa.w r0))]⟩) (xK (xB (xF (ah Tryz.f153)))) [.blk 0, .seq (xH (ah Tryz.f153))] 365 (mkF 365 0 [(0, .sl 0), (3, .box (ak p1) 0), (5, .int .i64 (p1.kids.length : Int))]) ⟨1, [(0, .row 164 2 (List.map aa.w p0))]⟩
def jK (m : Nat) (p0 : List aa) (p1 : Tree) (r0 : List aa) : Prop := ∀ (K : Ctx), av K [] → qLG K Tryz.f153 (fun u G => u = .sl 1 ∧ G = ⟨2, [(1, .row 164 2 (List.map aa.w r0))]⟩) (xC (xF (ah Tryz.f153))) [.blk 0, .seq (xH (ah Tryz.f153))] 365 (mkF 365 0 [(0, .sl 0), (3, .box (ak p1) 0), (5, .int .i64 (p1.kids.length : Int)), (11, .int .i64 p1.kind)]) ⟨1, [(0, .row 164 2 (List.map aa.w p0))]⟩
def nM (m : Nat) (p0 : List aa) (p1 : Tree) (r0 : List aa) : Prop := ∀ (K : Ctx), av K [] → qLG K Tryz.f153 (fun u G => u = .sl 1 ∧ G = ⟨2, [(1, .row 164 2 (List.map aa.w r0))]⟩) (xK (xC (xF (ah Tryz.f153)))) [.blk 0, .seq (xH (ah Tryz.f153))] 365 (mkF 365 0 [(0, .sl 0), (3, .box (ak p1) 0)]) ⟨1, [(0, .row 164 2 (List.map aa.w p0))]⟩
def jG (m : Nat) (p0 : List aa) (p1 : Tree) (r0 : List aa) : Prop := ∀ (K : Ctx), av K [] → qLG K Tryz.f153 (fun u G => u = .sl 1 ∧ G = ⟨2, [(1, .row 164 2 (List.map aa.w r0))]⟩) (xC (xB (xF (ah Tryz.f153)))) [.blk 0, .seq (xH (ah Tryz.f153))] 365 (mkF 365 0 [(0, .sl 0), (3, .box (ak p1) 0), (5, .int .i64 (p1.kids.length : Int)), (11, .int .i64 p1.kind)]) ⟨1, [(0, .row 164 2 (List.map aa.w p0))]⟩
def nN (m : Nat) (p0 : List aa) (p1 : Tree) (r0 : List aa) : Prop := ∀ (K : Ctx), av K [] → qLG K Tryz.f153 (fun u G => u = .sl 1 ∧ G = ⟨2, [(1, .row 164 2 (List.map aa.w r0))]⟩) (xK (xC (xB (xF (ah Tryz.f153))))) [.blk 0, .seq (xH (ah Tryz.f153))] 365 (mkF 365 0 [(0, .sl 0), (3, .box (ak p1) 0)]) ⟨1, [(0, .row 164 2 (List.map aa.w p0))]⟩
def jw (m : Nat) (p0 : List aa) (p1 : Tree) (r0 : List aa) : Prop := ∀ (K : Ctx), av K [] → qLG K Tryz.f153 (fun u G => u = .sl 1 ∧ G = ⟨2, [(1, .row 164 2 (List.map aa.w r0))]⟩) (xG (xF (ah Tryz.f153))) [.blk 0, .seq (xH (ah Tryz.f153))] 365 (mkF 365 0 [(0, .sl 0), (3, .box (ak p1) 0), (5, .int .i64 (p1.kids.length : Int)), (11, .int .i64 p1.kind)]) ⟨1, [(0, .row 164 2 (List.map aa.w p0))]⟩
def jI (m : Nat) (p0 : List aa) (p1 : Tree) (r0 : List aa) : Prop := ∀ (K : Ctx), av K [] → qLG K Tryz.f153 (fun u G => u = .sl 1 ∧ G = ⟨2, [(1, .row 164 2 (List.map aa.w r0))]⟩) (xG (xB (xF (ah Tryz.f153)))) [.blk 0, .seq (xH (ah Tryz.f153))] 365 (mkF 365 0 [(0, .sl 0), (3, .box (ak p1) 0), (5, .int .i64 (p1.kids.length : Int)), (11, .int .i64 p1.kind)]) ⟨1, [(0, .row 164 2 (List.map aa.w p0))]⟩
def iS (m : Nat) (p0 : List aa) (p1 : Tree) (r0 : List aa) : Prop := ∀ (K : Ctx), av K [] → qLG K Tryz.f153 (fun u G => u = .sl 1 ∧ G = ⟨2, [(1, .row 164 2 (List.map aa.w r0))]⟩) (xG (xC (xF (ah Tryz.f153)))) [.blk 0, .seq (xH (ah Tryz.f153))] 365 (mkF 365 0 [(0, .sl 0), (3, .box (ak p1) 0), (5, .int .i64 (p1.kids.length : Int)), (11, .int .i64 p1.kind)]) ⟨1, [(0, .row 164 2 (List.map aa.w p0))]⟩
def iN (m : Nat) (p0 : List aa) (p1 : Tree) (r0 : List aa) : Prop := ∀ (K : Ctx), av K [] → qLG K Tryz.f153 (fun u G => u = .sl 1 ∧ G = ⟨2, [(1, .row 164 2 (List.map aa.w r0))]⟩) (xG (xC (xB (xF (ah Tryz.f153))))) [.blk 0, .seq (xH (ah Tryz.f153))] 365 (mkF 365 0 [(0, .sl 0), (3, .box (ak p1) 0), (5, .int .i64 (p1.kids.length : Int)), (11, .int .i64 p1.kind)]) ⟨1, [(0, .row 164 2 (List.map aa.w p0))]⟩
def iV (m : Nat) (p0 : List aa) (p1 : Tree) (r0 : List aa) : Prop := ∀ (K : Ctx), av K [] → qLG K Tryz.f153 (fun u G => u = .sl 1 ∧ G = ⟨2, [(1, .row 164 2 (List.map aa.w r0))]⟩) (xN (xF (ah Tryz.f153))) [.blk 0, .seq (xH (ah Tryz.f153))] 365 (mkF 365 0 [(0, .sl 0), (3, .box (ak p1) 0), (5, .int .i64 (p1.kids.length : Int)), (11, .int .i64 p1.kind)]) ⟨1, [(0, .row 164 2 (List.map aa.w p0))]⟩
def iX (m : Nat) (p0 : List aa) (p1 : Tree) (r0 : List aa) : Prop := ∀ (K : Ctx), av K [] → qLG K Tryz.f153 (fun u G => u = .sl 1 ∧ G = ⟨2, [(1, .row 164 2 (List.map aa.w r0))]⟩) (xN (xB (xF (ah Tryz.f153)))) [.blk 0, .seq (xH (ah Tryz.f153))] 365 (mkF 365 0 [(0, .sl 0), (3, .box (ak p1) 0), (5, .int .i64 (p1.kids.length : Int)), (11, .int .i64 p1.kind)]) ⟨1, [(0, .row 164 2 (List.map aa.w p0))]⟩
def iW (m : Nat) (p0 : List aa) (p1 : Tree) (r0 : List aa) : Prop := ∀ (K : Ctx), av K [] → qLG K Tryz.f153 (fun u G => u = .sl 1 ∧ G = ⟨2, [(1, .row 164 2 (List.map aa.w r0))]⟩) (xN (xC (xF (ah Tryz.f153)))) [.blk 0, .seq (xH (ah Tryz.f153))] 365 (mkF 365 0 [(0, .sl 0), (3, .box (ak p1) 0), (5, .int .i64 (p1.kids.length : Int)), (11, .int .i64 p1.kind)]) ⟨1, [(0, .row 164 2 (List.map aa.w p0))]⟩
def na (m : Nat) (p0 : List aa) (p1 : Tree) (r0 : List aa) : Prop := ∀ (K : Ctx), av K [] → qLG K Tryz.f153 (fun u G => u = .sl 1 ∧ G = ⟨2, [(1, .row 164 2 (List.map aa.w r0))]⟩) (xK (xN (xC (xF (ah Tryz.f153))))) [.blk 0, .seq (xH (ah Tryz.f153))] 365 (mkF 365 0 [(0, .sl 0), (3, .box (ak p1) 0)]) ⟨1, [(0, .row 164 2 (List.map aa.w p0))]⟩
def iO (m : Nat) (p0 : List aa) (p1 : Tree) (r0 : List aa) : Prop := ∀ (K : Ctx), av K [] → qLG K Tryz.f153 (fun u G => u = .sl 1 ∧ G = ⟨2, [(1, .row 164 2 (List.map aa.w r0))]⟩) (xN (xC (xB (xF (ah Tryz.f153))))) [.blk 0, .seq (xH (ah Tryz.f153))] 365 (mkF 365 0 [(0, .sl 0), (3, .box (ak p1) 0), (5, .int .i64 (p1.kids.length : Int)), (11, .int .i64 p1.kind)]) ⟨1, [(0, .row 164 2 (List.map aa.w p0))]⟩
def mM (m : Nat) (p0 : List aa) (p1 : Tree) (r0 : List aa) : Prop := ∀ (K : Ctx), av K [] → qLG K Tryz.f153 (fun u G => u = .sl 1 ∧ G = ⟨2, [(1, .row 164 2 (List.map aa.w r0))]⟩) (xK (xN (xC (xB (xF (ah Tryz.f153)))))) [.blk 0, .seq (xH (ah Tryz.f153))] 365 (mkF 365 0 [(0, .sl 0), (3, .box (ak p1) 0), (5, .int .i64 (p1.kids.length : Int))]) ⟨1, [(0, .row 164 2 (List.map aa.w p0))]⟩
def jb (m : Nat) (p0 : List aa) (p1 : Tree) (r0 : List aa) : Prop := ∀ (K : Ctx), av K [] → qLG K Tryz.f153 (fun u G => u = .sl 1 ∧ G = ⟨2, [(1, .row 164 2 (List.map aa.w r0))]⟩) (xN (xG (xF (ah Tryz.f153)))) [.blk 0, .seq (xH (ah Tryz.f153))] 365 (mkF 365 0 [(0, .sl 0), (3, .box (ak p1) 0), (5, .int .i64 (p1.kids.length : Int)), (11, .int .i64 p1.kind)]) ⟨1, [(0, .row 164 2 (List.map aa.w p0))]⟩
def iP (m : Nat) (p0 : List aa) (p1 : Tree) (r0 : List aa) : Prop := ∀ (K : Ctx), av K [] → qLG K Tryz.f153 (fun u G => u = .sl 1 ∧ G = ⟨2, [(1, .row 164 2 (List.map aa.w r0))]⟩) (xN (xG (xB (xF (ah Tryz.f153))))) [.blk 0, .seq (xH (ah Tryz.f153))] 365 (mkF 365 0 [(0, .sl 0), (3, .box (ak p1) 0), (5, .int .i64 (p1.kids.length : Int)), (11, .int .i64 p1.kind)]) ⟨1, [(0, .row 164 2 (List.map aa.w p0))]⟩
def mF (m : Nat) (p0 : List aa) (p1 : Tree) (r0 : List aa) : Prop := ∀ (K : Ctx), av K [] → qLG K Tryz.f153 (fun u G => u = .sl 1 ∧ G = ⟨2, [(1, .row 164 2 (List.map aa.w r0))]⟩) (xK (xN (xG (xB (xF (ah Tryz.f153)))))) [.blk 0, .seq (xH (ah Tryz.f153))] 365 (mkF 365 0 [(0, .sl 0), (3, .box (ak p1) 0), (5, .int .i64 (p1.kids.length : Int))]) ⟨1, [(0, .row 164 2 (List.map aa.w p0))]⟩
def iU (m : Nat) (p0 : List aa) (p1 : Tree) (r0 : List aa) : Prop := ∀ (K : Ctx), av K [] → qLG K Tryz.f153 (fun u G => u = .sl 1 ∧ G = ⟨2, [(1, .row 164 2 (List.map aa.w r0))]⟩) (xN (xG (xC (xF (ah Tryz.f153))))) [.blk 0, .seq (xH (ah Tryz.f153))] 365 (mkF 365 0 [(0, .sl 0), (3, .box (ak p1) 0), (11, .int .i64 p1.kind)]) ⟨1, [(0, .row 164 2 (List.map aa.w p0))]⟩
def mW (m : Nat) (p0 : List aa) (p1 : Tree) (r0 : List aa) : Prop := ∀ (K : Ctx), av K [] → qLG K Tryz.f153 (fun u G => u = .sl 1 ∧ G = ⟨2, [(1, .row 164 2 (List.map aa.w r0))]⟩) (xK (xN (xG (xC (xF (ah Tryz.f153)))))) [.blk 0, .seq (xH (ah Tryz.f153))] 365 (mkF 365 0 [(0, .sl 0), (3, .box (ak p1) 0)]) ⟨1, [(0, .row 164 2 (List.map aa.w p0))]⟩
def iT (m : Nat) (p0 : List aa) (p1 : Tree) (r0 : List aa) : Prop := ∀ (K : Ctx), av K [] → qLG K Tryz.f153 (fun u G => u = .sl 1 ∧ G = ⟨2, [(1, .row 164 2 (List.map aa.w r0))]⟩) (xN (xG (xC (xB (xF (ah Tryz.f153)))))) [.blk 0, .seq (xH (ah Tryz.f153))] 365 (mkF 365 0 [(0, .sl 0), (3, .box (ak p1) 0), (11, .int .i64 p1.kind)]) ⟨1, [(0, .row 164 2 (List.map aa.w p0))]⟩
def mS (m : Nat) (p0 : List aa) (p1 : Tree) (r0 : List aa) : Prop := ∀ (K : Ctx), av K [] → qLG K Tryz.f153 (fun u G => u = .sl 1 ∧ G = ⟨2, [(1, .row 164 2 (List.map aa.w r0))]⟩) (xK (xN (xG (xC (xB (xF (ah Tryz.f153))))))) [.blk 0, .seq (xH (ah Tryz.f153))] 365 (mkF 365 0 [(0, .sl 0), (3, .box (ak p1) 0)]) ⟨1, [(0, .row 164 2 (List.map aa.w p0))]⟩
def iY (m : Nat) (p0 : List aa) (p1 : Tree) (r0 : List aa) : Prop := ∀ (K : Ctx), av K [] → qLG K Tryz.f153 (fun u G => u = .sl 1 ∧ G = ⟨2, [(1, .row 164 2 (List.map aa.w r0))]⟩) (xN (xN (xF (ah Tryz.f153)))) [.blk 0, .seq (xH (ah Tryz.f153))] 365 (mkF 365 0 [(0, .sl 0), (3, .box (ak p1) 0), (11, .int .i64 p1.kind)]) ⟨1, [(0, .row 164 2 (List.map aa.w p0))]⟩
def mI (m : Nat) (p0 : List aa) (p1 : Tree) (r0 : List aa) : Prop := ∀ (K : Ctx), av K [] → qLG K Tryz.f153 (fun u G => u = .sl 1 ∧ G = ⟨2, [(1, .row 164 2 (List.map aa.w r0))]⟩) (xK (xN (xN (xF (ah Tryz.f153))))) [.blk 0, .seq (xH (ah Tryz.f153))] 365 (mkF 365 0 [(0, .sl 0), (3, .box (ak p1) 0)]) ⟨1, [(0, .row 164 2 (List.map aa.w p0))]⟩
def iR (m : Nat) (p0 : List aa) (p1 : Tree) (r0 : List aa) : Prop := ∀ (K : Ctx), av K [] → qLG K Tryz.f153 (fun u G => u = .sl 1 ∧ G = ⟨2, [(1, .row 164 2 (List.map aa.w r0))]⟩) (xN (xN (xB (xF (ah Tryz.f153))))) [.blk 0, .seq (xH (ah Tryz.f153))] 365 (mkF 365 0 [(0, .sl 0), (3, .box (ak p1) 0), (11, .int .i64 p1.kind)]) ⟨1, [(0, .row 164 2 (List.map aa.w p0))]⟩
def mX (m : Nat) (p0 : List aa) (p1 : Tree) (r0 : List aa) : Prop := ∀ (K : Ctx), av K [] → qLG K Tryz.f153 (fun u G => u = .sl 1 ∧ G = ⟨2, [(1, .row 164 2 (List.map aa.w r0))]⟩) (xK (xN (xN (xB (xF (ah Tryz.f153)))))) [.blk 0, .seq (xH (ah Tryz.f153))] 365 (mkF 365 0 [(0, .sl 0), (3, .box (ak p1) 0)]) ⟨1, [(0, .row 164 2 (List.map aa.w p0))]⟩
theorem nB (m : Nat) (p0 : List aa) (p1 : Tree) (r0 : List aa) (h : ((p1.kind = 1) → nG m p0 p1 r0) ∧ ((p1.kind ≠ 1) → jv m p0 p1 r0)) : aq p0 p1 r0 := by
 refine qA 365 [] Tryz.func153 fun K hK => ?_
 refine gR 3 rfl <| gFP 1 rfl rfl rfl rfl <| gR 8 rfl <| gV 9 (.int .i64 (p1.kids.length : Int)) rfl (aP (aD _)) rfl <| gLB 8 rfl (aD _) fun a => gR 17 rfl <| qBeZ 12 13 rfl rfl rfl rfl h ?_ ?_ <;> intro h
 exact gR 1 rfl <| qJ hK (h K hK) [0]
 exact gR 1 rfl <| qJ hK (h K hK) [0]
theorem sr (m : Nat) (p0 : List aa) (p1 : Tree) (r0 : List aa) (h : ∃ a, ao p1 0 a ∧ ∃ b, ao p1 1 b ∧ (p0 ++ [(aa.mk a [109, 111, 100, 117, 108, 101]), (aa.mk b p1.text)]).length ≤ 1000000000 ∧ dO m p1 (p0 ++ [(aa.mk a [109, 111, 100, 117, 108, 101]), (aa.mk b p1.text)]) 0 r0) : nG (m + 1) p0 p1 r0 := by
 intro K hK
 refine gR 1 rfl <| qDs [] 12 12 <| qDr [(0, 2), (1, 2), (4, 2), (6, 2), (7, 2)] rfl rfl ?_
 obtain ⟨a, c, h⟩ := h
 refine bN 2 c (by kernel_rfl) rfl (by kernel_rfl) rfl rfl .rfl rfl rfl ?_
 refine qDr [(3, 2)] rfl rfl ?_
 obtain ⟨b, d, h⟩ := h
 refine bN 5 d (by kernel_rfl) rfl (by kernel_rfl) rfl rfl .rfl rfl rfl ?_
 refine qDr [(8, 0), (9, 0)] rfl rfl ?_
 obtain ⟨hb, h⟩ := h
 refine ba 10 (.repl 0 (.row 164 2 (List.map aa.w (p0 ++ [(aa.mk a [109, 111, 100, 117, 108, 101]), (aa.mk b p1.text)])))) rfl (by kernel_rfl) (bJ ai rfl rfl rfl rfl rfl (List.map_append (f := aa.w) (l₁ := p0) (l₂ := [(aa.mk a [109, 111, 100, 117, 108, 101]), (aa.mk b p1.text)])).symm (by rw [az]; exact hb)) (okR rfl) rfl (by kernel_rfl) rfl rfl ?_
 exact qDr [(11, 0)] rfl rfl <| qDe <| gR 8 rfl <| go_loop m <| qJ hK (h K _ hK (by omega)) [2]
theorem mY (m : Nat) (p0 : List aa) (p1 : Tree) (r0 : List aa) (h : ((p1.kind = 2) → nH m p0 p1 r0) ∧ ((p1.kind ≠ 2) → jK m p0 p1 r0)) : jv (m + 1) p0 p1 r0 := by
 intro K hK
 refine gR 6 rfl <| qBeZ 43 44 rfl rfl rfl rfl h ?_ ?_ <;> intro h
 exact gR 1 rfl <| qJ hK (h K hK) [0]
 exact gR 1 rfl <| qJ hK (h K hK) [0]
theorem mR (m : Nat) (p1 : Tree) (b : List aa) (a : Nat) (r0 : List aa) (h : ((a < p1.kids.length) → ∃ e, p1.kids[a]? = some e ∧ ∃ d, aq b e d ∧ a + 1 ≤ 9223372036854775807 ∧ dO m p1 d (a + 1) r0) ∧ ((¬ a < p1.kids.length) → ∃ c, ao p1 2 c ∧ (b ++ [(aa.mk c [])]).length ≤ 1000000000 ∧ (b ++ [(aa.mk c [])]) = r0)) : dO (m + 1) p1 b a r0 := by
 refine qj fun K j1 hK j => ?_
 refine gR 8 rfl <| qXh 27 rfl rfl rfl h cF cC ?_ ?_ <;> intro hd h
 refine gR 10 rfl ?_
 obtain ⟨e, f, h⟩ := h
 refine gY (aH (aw f) ai rfl rfl rfl rfl) rfl rfl <| gR 1 rfl ?_
 obtain ⟨d, g, h⟩ := h
 refine qC g [0] ?_
 refine gHR 2 (List.map aa.w d) rfl (vG _ d) rfl <| gR 6 rfl ?_
 obtain ⟨hb, h⟩ := h
 exact gR 1 rfl <| gV 29 (.int .i64 ((a + 1 : Nat) : Int)) rfl (al (by omega) (by omega)) rfl <| gR 2 rfl <| go_xloop <| qJ hK (h K _ hK (by omega)) [2]
 refine gR 3 rfl <| go_xloopE <| gR 6 rfl ?_
 obtain ⟨c, i, h⟩ := h
 refine qC0 i rfl <| gR 2 rfl ?_
 obtain ⟨hb, h⟩ := h
 refine gDo (.repl 0 (.row 164 2 (List.map aa.w (b ++ [(aa.mk c [])])))) (bJ ai rfl rfl rfl rfl rfl (apM aa.w b (aa.mk c [])) (by rw [az]; exact hb)) (okR rfl) rfl rfl rfl <| gR 6 rfl ?_
 subst h
 exact gE hK [] [(4, .sl 1)] [1000, 2] [.tmp 4]
theorem sx (m : Nat) (p0 : List aa) (p1 : Tree) (r0 : List aa) (h : ∃ e, ao p1 0 e ∧ ∃ g, ao p1 1 g ∧ ∃ i, ao p1 2 i ∧ (p0 ++ [(aa.mk e [100, 101, 102]), (aa.mk g p1.text), (aa.mk i [40])]).length ≤ 1000000000 ∧ InI ((p1.kids.length : Int) - 2) ∧ ∃ c, eL (p0 ++ [(aa.mk e [100, 101, 102]), (aa.mk g p1.text), (aa.mk i [40])]) p1 0 ((p1.kids.length : Int) - 2) 6 c ∧ ∃ j, ao p1 3 j ∧ ∃ k, ao p1 4 k ∧ (c ++ [(aa.mk j [41]), (aa.mk k [58])]).length ≤ 1000000000 ∧ InI ((p1.kids.length : Int) - 2) ∧ ∃ o, ((p1.kids.length : Int) - 2) = ((o : Nat) : Int) ∧ ∃ p, p1.kids[o]? = some p ∧ ∃ b, aq (c ++ [(aa.mk j [41]), (aa.mk k [58])]) p b ∧ ∃ a, ao p1 5 a ∧ (b ++ [(aa.mk a [61])]).length ≤ 1000000000 ∧ InI ((p1.kids.length : Int) - 1) ∧ ∃ l, ((p1.kids.length : Int) - 1) = ((l : Nat) : Int) ∧ ∃ n, p1.kids[l]? = some n ∧ ∃ d, aq (b ++ [(aa.mk a [61])]) n d ∧ d = r0) : nH (m + 1) p0 p1 r0 := by
 intro K hK
 refine gR 1 rfl <| qDs [] 15 15 <| qDr [(0, 2), (1, 2), (4, 2), (6, 2), (7, 2), (9, 2)] rfl rfl ?_
 obtain ⟨e, t, h⟩ := h
 refine bN 2 t (by kernel_rfl) rfl (by kernel_rfl) rfl rfl .rfl rfl rfl ?_
 refine qDr [(3, 2)] rfl rfl ?_
 obtain ⟨g, v, h⟩ := h
 refine bN 5 v (by kernel_rfl) rfl (by kernel_rfl) rfl rfl .rfl rfl rfl ?_
 refine qDr [(8, 2)] rfl rfl ?_
 obtain ⟨i, x, h⟩ := h
 refine bN 10 x (by kernel_rfl) rfl (by kernel_rfl) rfl rfl .rfl rfl rfl ?_
 refine qDr [(11, 0), (12, 0)] rfl rfl ?_
 obtain ⟨hb, h⟩ := h
 refine ba 13 (.repl 0 (.row 164 2 (List.map aa.w (p0 ++ [(aa.mk e [100, 101, 102]), (aa.mk g p1.text), (aa.mk i [40])])))) rfl (by kernel_rfl) (bJ ai rfl rfl rfl rfl rfl (List.map_append (f := aa.w) (l₁ := p0) (l₂ := [(aa.mk e [100, 101, 102]), (aa.mk g p1.text), (aa.mk i [40])])).symm (by rw [az]; exact hb)) (okR rfl) rfl (by kernel_rfl) rfl rfl ?_
 refine qDr [(14, 0)] rfl rfl <| qDe <| gR 6 rfl ?_
 obtain ⟨hb, h⟩ := h
 refine gR 1 rfl <| gV 62 (.int .i64 ((p1.kids.length : Int) - 2)) rfl (al hb rfl) rfl ?_
 obtain ⟨c, y, h⟩ := h
 refine qC y [2] ?_
 refine gHR 4 (List.map aa.w c) rfl (vG _ c) rfl <| gR 4 rfl <| qDs [] 10 10 <| qDr [(0, 2), (1, 2), (4, 2)] rfl rfl ?_
 obtain ⟨j, z, h⟩ := h
 refine bN 2 z (by kernel_rfl) rfl (by kernel_rfl) rfl rfl .rfl rfl rfl ?_
 refine qDr [(3, 2)] rfl rfl ?_
 obtain ⟨k, α, h⟩ := h
 refine bN 5 α (by kernel_rfl) rfl (by kernel_rfl) rfl rfl .rfl rfl rfl ?_
 refine qDr [(6, 0), (7, 0)] rfl rfl ?_
 obtain ⟨hb, h⟩ := h
 refine ba 8 (.repl 4 (.row 164 2 (List.map aa.w (c ++ [(aa.mk j [41]), (aa.mk k [58])])))) rfl (by kernel_rfl) (bJ ai rfl rfl rfl rfl rfl (List.map_append (f := aa.w) (l₁ := c) (l₂ := [(aa.mk j [41]), (aa.mk k [58])])).symm (by rw [az]; exact hb)) (okR rfl) rfl (by kernel_rfl) rfl rfl ?_
 refine qDr [(9, 0)] rfl rfl <| qDe <| gR 2 rfl <| qDs [] 14 14 <| qDr [(0, 2), (1, 2), (2, 2), (3, 2)] rfl rfl ?_
 obtain ⟨hb, h⟩ := h
 refine qDr [(4, 2)] rfl rfl <| gV 77 (.int .i64 ((p1.kids.length : Int) - 2)) rfl (al hb rfl) rfl ?_
 obtain ⟨o, β, h⟩ := h
 refine gV 77 (.int .i64 ((o : Nat) : Int)) rfl (aZ β) rfl ?_
 obtain ⟨p, r, h⟩ := h
 refine gYd 5 rfl (by kernel_rfl) (aH (aw r) ai rfl rfl rfl rfl) rfl rfl <| qDr [(6, 2), (8, 2)] rfl rfl ?_
 obtain ⟨b, γ, h⟩ := h
 refine qDC 7 γ [6] rfl ?_
 refine gHR 8 (List.map aa.w b) rfl (vG _ b) rfl ?_
 obtain ⟨a, δ, h⟩ := h
 refine bN 9 δ (by kernel_rfl) rfl (by kernel_rfl) rfl rfl .rfl rfl rfl ?_
 refine qDr [(10, 0), (11, 0)] rfl rfl ?_
 obtain ⟨hb, h⟩ := h
 refine ba 12 (.repl 8 (.row 164 2 (List.map aa.w (b ++ [(aa.mk a [61])])))) rfl (by kernel_rfl) (bJ ai rfl rfl rfl rfl rfl (apM aa.w b (aa.mk a [61])) (by rw [az]; exact hb)) (okR rfl) rfl (by kernel_rfl) rfl rfl ?_
 refine qDr [(13, 0)] rfl rfl <| qDe <| gR 1 rfl <| go_sub (F' := (mkF 365 0 [(0, .sl 0), (3, .box (ak p1) 0), (5, .int .i64 (p1.kids.length : Int))])) (H' := ⟨1, [(0, .row 164 2 (List.map aa.w (b ++ [(aa.mk a [61])])))]⟩) [10] [] rfl hK pq3 ⟨⟨_, rfl, rfl, rfl, (vG _ (b ++ [(aa.mk a [61])])).symm⟩, trivial⟩ rfl <| gR 6 rfl ?_
 obtain ⟨hb, h⟩ := h
 refine gR 1 rfl <| gV 90 (.int .i64 ((p1.kids.length : Int) - 1)) rfl (al hb rfl) rfl ?_
 obtain ⟨l, s, h⟩ := h
 refine gV 90 (.int .i64 ((l : Nat) : Int)) rfl (aZ s) rfl ?_
 obtain ⟨n, q, h⟩ := h
 refine gY (aH (aw q) ai rfl rfl rfl rfl) rfl rfl <| gR 1 rfl ?_
 obtain ⟨d, ε, h⟩ := h
 refine qC ε [0] ?_
 refine gHR 2 (List.map aa.w d) rfl (vG _ d) rfl <| gR 6 rfl ?_
 subst h
 exact gE hK [] [(4, .sl 1)] [1000, 2] [.tmp 4]
theorem mO (m : Nat) (p0 : List aa) (p1 : Tree) (r0 : List aa) (h : ((p1.kind = 3) → nM m p0 p1 r0) ∧ ((p1.kind ≠ 3) → jG m p0 p1 r0)) : jK (m + 1) p0 p1 r0 := by
 intro K hK
 refine gR 6 rfl <| qBeZ 94 95 rfl rfl rfl rfl h ?_ ?_ <;> intro h
 exact gR 1 rfl <| qJ hK (h K hK) [0]
 exact gR 1 rfl <| qJ hK (h K hK) [0]
theorem sn (m : Nat) (p0 : List aa) (p1 : Tree) (r0 : List aa) (h : ∃ a, ao p1 0 a ∧ ∃ b, ao p1 1 b ∧ ∃ c, ao p1 2 c ∧ (p0 ++ [(aa.mk a [116, 121, 112, 101]), (aa.mk b p1.text), (aa.mk c [61])]).length ≤ 1000000000 ∧ ∃ e, p1.kids[0]? = some e ∧ ∃ d, aq (p0 ++ [(aa.mk a [116, 121, 112, 101]), (aa.mk b p1.text), (aa.mk c [61])]) e d ∧ d = r0) : nM (m + 1) p0 p1 r0 := by
 intro K hK
 refine gR 1 rfl <| qDs [] 15 15 <| qDr [(0, 2), (1, 2), (4, 2), (6, 2), (7, 2), (9, 2)] rfl rfl ?_
 obtain ⟨a, i, h⟩ := h
 refine bN 2 i (by kernel_rfl) rfl (by kernel_rfl) rfl rfl .rfl rfl rfl ?_
 refine qDr [(3, 2)] rfl rfl ?_
 obtain ⟨b, j, h⟩ := h
 refine bN 5 j (by kernel_rfl) rfl (by kernel_rfl) rfl rfl .rfl rfl rfl ?_
 refine qDr [(8, 2)] rfl rfl ?_
 obtain ⟨c, k, h⟩ := h
 refine bN 10 k (by kernel_rfl) rfl (by kernel_rfl) rfl rfl .rfl rfl rfl ?_
 refine qDr [(11, 0), (12, 0)] rfl rfl ?_
 obtain ⟨hb, h⟩ := h
 refine ba 13 (.repl 0 (.row 164 2 (List.map aa.w (p0 ++ [(aa.mk a [116, 121, 112, 101]), (aa.mk b p1.text), (aa.mk c [61])])))) rfl (by kernel_rfl) (bJ ai rfl rfl rfl rfl rfl (List.map_append (f := aa.w) (l₁ := p0) (l₂ := [(aa.mk a [116, 121, 112, 101]), (aa.mk b p1.text), (aa.mk c [61])])).symm (by rw [az]; exact hb)) (okR rfl) rfl (by kernel_rfl) rfl rfl ?_
 refine qDr [(14, 0)] rfl rfl <| qDe <| gR 6 rfl ?_
 obtain ⟨e, g, h⟩ := h
 refine gY (aH (aw g) ai rfl rfl rfl rfl) rfl rfl <| gR 1 rfl ?_
 obtain ⟨d, l, h⟩ := h
 refine qC l [2] ?_
 refine gHR 4 (List.map aa.w d) rfl (vG _ d) rfl <| gR 6 rfl ?_
 subst h
 exact gE hK [] [(4, .sl 1)] [1000, 4] [.tmp 4]
theorem mG (m : Nat) (p0 : List aa) (p1 : Tree) (r0 : List aa) (h : ((p1.kind = 4) → nN m p0 p1 r0) ∧ ((p1.kind ≠ 4) → jw m p0 p1 r0)) : jG (m + 1) p0 p1 r0 := by
 intro K hK
 refine gR 6 rfl <| qBeZ 116 117 rfl rfl rfl rfl h ?_ ?_ <;> intro h
 exact gR 1 rfl <| qJ hK (h K hK) [0]
 exact gR 1 rfl <| qJ hK (h K hK) [0]
theorem sw (m : Nat) (p0 : List aa) (p1 : Tree) (r0 : List aa) (h : ∃ a, ao p1 0 a ∧ ∃ b, ao p1 1 b ∧ (p0 ++ [(aa.mk a p1.text), (aa.mk b [58])]).length ≤ 1000000000 ∧ ∃ d, p1.kids[0]? = some d ∧ ∃ c, aq (p0 ++ [(aa.mk a p1.text), (aa.mk b [58])]) d c ∧ c = r0) : nN (m + 1) p0 p1 r0 := by
 intro K hK
 refine gR 1 rfl <| qDs [] 12 12 <| qDr [(0, 2), (1, 2), (3, 2), (4, 2), (6, 2)] rfl rfl ?_
 obtain ⟨a, g, h⟩ := h
 refine bN 2 g (by kernel_rfl) rfl (by kernel_rfl) rfl rfl .rfl rfl rfl ?_
 refine qDr [(5, 2)] rfl rfl ?_
 obtain ⟨b, i, h⟩ := h
 refine bN 7 i (by kernel_rfl) rfl (by kernel_rfl) rfl rfl .rfl rfl rfl ?_
 refine qDr [(8, 0), (9, 0)] rfl rfl ?_
 obtain ⟨hb, h⟩ := h
 refine ba 10 (.repl 0 (.row 164 2 (List.map aa.w (p0 ++ [(aa.mk a p1.text), (aa.mk b [58])])))) rfl (by kernel_rfl) (bJ ai rfl rfl rfl rfl rfl (List.map_append (f := aa.w) (l₁ := p0) (l₂ := [(aa.mk a p1.text), (aa.mk b [58])])).symm (by rw [az]; exact hb)) (okR rfl) rfl (by kernel_rfl) rfl rfl ?_
 refine qDr [(11, 0)] rfl rfl <| qDe <| gR 6 rfl ?_
 obtain ⟨d, e, h⟩ := h
 refine gY (aH (aw e) ai rfl rfl rfl rfl) rfl rfl <| gR 1 rfl ?_
 obtain ⟨c, j, h⟩ := h
 refine qC j [2] ?_
 refine gHR 4 (List.map aa.w c) rfl (vG _ c) rfl <| gR 6 rfl ?_
 subst h
 exact gE hK [] [(4, .sl 1)] [1000, 4] [.tmp 4]
theorem mL (m : Nat) (p0 : List aa) (p1 : Tree) (r0 : List aa) (h : ((p1.kind = 5) → ∃ a, ao p1 0 a ∧ (p0 ++ [(aa.mk a [73, 110, 116])]).length ≤ 1000000000 ∧ (p0 ++ [(aa.mk a [73, 110, 116])]) = r0) ∧ ((p1.kind ≠ 5) → jI m p0 p1 r0)) : jw (m + 1) p0 p1 r0 := by
 intro K hK
 refine gR 6 rfl <| qBeZ 135 136 rfl rfl rfl rfl h ?_ ?_ <;> intro h
 refine gR 5 rfl ?_
 obtain ⟨a, b, h⟩ := h
 refine qC0 b rfl <| gR 2 rfl ?_
 obtain ⟨hb, h⟩ := h
 refine gDo (.repl 0 (.row 164 2 (List.map aa.w (p0 ++ [(aa.mk a [73, 110, 116])])))) (bJ ai rfl rfl rfl rfl rfl (apM aa.w p0 (aa.mk a [73, 110, 116])) (by rw [az]; exact hb)) (okR rfl) rfl rfl rfl <| gR 6 rfl ?_
 subst h
 exact gE hK [] [(4, .sl 1)] [1000, 2] [.tmp 4]
 exact gR 1 rfl <| qJ hK (h K hK) [0]
theorem mK (m : Nat) (p0 : List aa) (p1 : Tree) (r0 : List aa) (h : ((p1.kind = 6) → ∃ a, ao p1 0 a ∧ (p0 ++ [(aa.mk a [84, 101, 120, 116])]).length ≤ 1000000000 ∧ (p0 ++ [(aa.mk a [84, 101, 120, 116])]) = r0) ∧ ((p1.kind ≠ 6) → iS m p0 p1 r0)) : jI (m + 1) p0 p1 r0 := by
 intro K hK
 refine gR 6 rfl <| qBeZ 143 144 rfl rfl rfl rfl h ?_ ?_ <;> intro h
 refine gR 5 rfl ?_
 obtain ⟨a, b, h⟩ := h
 refine qC0 b rfl <| gR 2 rfl ?_
 obtain ⟨hb, h⟩ := h
 refine gDo (.repl 0 (.row 164 2 (List.map aa.w (p0 ++ [(aa.mk a [84, 101, 120, 116])])))) (bJ ai rfl rfl rfl rfl rfl (apM aa.w p0 (aa.mk a [84, 101, 120, 116])) (by rw [az]; exact hb)) (okR rfl) rfl rfl rfl <| gR 6 rfl ?_
 subst h
 exact gE hK [] [(4, .sl 1)] [1000, 2] [.tmp 4]
 exact gR 1 rfl <| qJ hK (h K hK) [0]
theorem mr (m : Nat) (p0 : List aa) (p1 : Tree) (r0 : List aa) (h : ((p1.kind = 7) → ∃ a, ao p1 0 a ∧ (p0 ++ [(aa.mk a [66, 111, 111, 108])]).length ≤ 1000000000 ∧ (p0 ++ [(aa.mk a [66, 111, 111, 108])]) = r0) ∧ ((p1.kind ≠ 7) → iN m p0 p1 r0)) : iS (m + 1) p0 p1 r0 := by
 intro K hK
 refine gR 6 rfl <| qBeZ 151 152 rfl rfl rfl rfl h ?_ ?_ <;> intro h
 refine gR 5 rfl ?_
 obtain ⟨a, b, h⟩ := h
 refine qC0 b rfl <| gR 2 rfl ?_
 obtain ⟨hb, h⟩ := h
 refine gDo (.repl 0 (.row 164 2 (List.map aa.w (p0 ++ [(aa.mk a [66, 111, 111, 108])])))) (bJ ai rfl rfl rfl rfl rfl (apM aa.w p0 (aa.mk a [66, 111, 111, 108])) (by rw [az]; exact hb)) (okR rfl) rfl rfl rfl <| gR 6 rfl ?_
 subst h
 exact gE hK [] [(4, .sl 1)] [1000, 2] [.tmp 4]
 exact gR 1 rfl <| qJ hK (h K hK) [0]
theorem mu (m : Nat) (p0 : List aa) (p1 : Tree) (r0 : List aa) (h : ((p1.kind = 13) → ∃ a, ao p1 0 a ∧ (p0 ++ [(aa.mk a [116, 114, 117, 101])]).length ≤ 1000000000 ∧ (p0 ++ [(aa.mk a [116, 114, 117, 101])]) = r0) ∧ ((p1.kind ≠ 13) → iV m p0 p1 r0)) : iN (m + 1) p0 p1 r0 := by
 intro K hK
 refine gR 6 rfl <| qBeZ 159 160 rfl rfl rfl rfl h ?_ ?_ <;> intro h
 refine gR 5 rfl ?_
 obtain ⟨a, b, h⟩ := h
 refine qC0 b rfl <| gR 2 rfl ?_
 obtain ⟨hb, h⟩ := h
 refine gDo (.repl 0 (.row 164 2 (List.map aa.w (p0 ++ [(aa.mk a [116, 114, 117, 101])])))) (bJ ai rfl rfl rfl rfl rfl (apM aa.w p0 (aa.mk a [116, 114, 117, 101])) (by rw [az]; exact hb)) (okR rfl) rfl rfl rfl <| gR 6 rfl ?_
 subst h
 exact gE hK [] [(4, .sl 1)] [1000, 2] [.tmp 4]
 exact gR 1 rfl <| qJ hK (h K hK) [0]
theorem mn (m : Nat) (p0 : List aa) (p1 : Tree) (r0 : List aa) (h : ((p1.kind = 14) → ∃ a, ao p1 0 a ∧ (p0 ++ [(aa.mk a [102, 97, 108, 115, 101])]).length ≤ 1000000000 ∧ (p0 ++ [(aa.mk a [102, 97, 108, 115, 101])]) = r0) ∧ ((p1.kind ≠ 14) → iX m p0 p1 r0)) : iV (m + 1) p0 p1 r0 := by
 intro K hK
 refine gR 6 rfl <| qBeZ 167 168 rfl rfl rfl rfl h ?_ ?_ <;> intro h
 refine gR 5 rfl ?_
 obtain ⟨a, b, h⟩ := h
 refine qC0 b rfl <| gR 2 rfl ?_
 obtain ⟨hb, h⟩ := h
 refine gDo (.repl 0 (.row 164 2 (List.map aa.w (p0 ++ [(aa.mk a [102, 97, 108, 115, 101])])))) (bJ ai rfl rfl rfl rfl rfl (apM aa.w p0 (aa.mk a [102, 97, 108, 115, 101])) (by rw [az]; exact hb)) (okR rfl) rfl rfl rfl <| gR 6 rfl ?_
 subst h
 exact gE hK [] [(4, .sl 1)] [1000, 2] [.tmp 4]
 exact gR 1 rfl <| qJ hK (h K hK) [0]
theorem mb (m : Nat) (p0 : List aa) (p1 : Tree) (r0 : List aa) (h : ((p1.kind = 15) → ∃ a, ao p1 0 a ∧ (p0 ++ [(aa.mk a [63])]).length ≤ 1000000000 ∧ (p0 ++ [(aa.mk a [63])]) = r0) ∧ ((p1.kind ≠ 15) → iW m p0 p1 r0)) : iX (m + 1) p0 p1 r0 := by
 intro K hK
 refine gR 6 rfl <| qBeZ 175 176 rfl rfl rfl rfl h ?_ ?_ <;> intro h
 refine gR 5 rfl ?_
 obtain ⟨a, b, h⟩ := h
 refine qC0 b rfl <| gR 2 rfl ?_
 obtain ⟨hb, h⟩ := h
 refine gDo (.repl 0 (.row 164 2 (List.map aa.w (p0 ++ [(aa.mk a [63])])))) (bJ ai rfl rfl rfl rfl rfl (apM aa.w p0 (aa.mk a [63])) (by rw [az]; exact hb)) (okR rfl) rfl rfl rfl <| gR 6 rfl ?_
 subst h
 exact gE hK [] [(4, .sl 1)] [1000, 2] [.tmp 4]
 exact gR 1 rfl <| qJ hK (h K hK) [0]
theorem mm (m : Nat) (p0 : List aa) (p1 : Tree) (r0 : List aa) (h : ((p1.kind = 8) → na m p0 p1 r0) ∧ ((p1.kind ≠ 8) → iO m p0 p1 r0)) : iW (m + 1) p0 p1 r0 := by
 intro K hK
 refine gR 6 rfl <| qBeZ 183 184 rfl rfl rfl rfl h ?_ ?_ <;> intro h
 exact gR 1 rfl <| qJ hK (h K hK) [0]
 exact gR 1 rfl <| qJ hK (h K hK) [0]
theorem rB (m : Nat) (p0 : List aa) (p1 : Tree) (r0 : List aa) (h : ∃ b, ao p1 0 b ∧ (p0 ++ [(aa.mk b [91])]).length ≤ 1000000000 ∧ ∃ d, p1.kids[0]? = some d ∧ ∃ a, aq (p0 ++ [(aa.mk b [91])]) d a ∧ ∃ c, ao p1 1 c ∧ (a ++ [(aa.mk c [93])]).length ≤ 1000000000 ∧ (a ++ [(aa.mk c [93])]) = r0) : na (m + 1) p0 p1 r0 := by
 intro K hK
 refine gR 4 rfl ?_
 obtain ⟨b, f, h⟩ := h
 refine qC0 f rfl <| gR 2 rfl ?_
 obtain ⟨hb, h⟩ := h
 refine gDo (.repl 0 (.row 164 2 (List.map aa.w (p0 ++ [(aa.mk b [91])])))) (bJ ai rfl rfl rfl rfl rfl (apM aa.w p0 (aa.mk b [91])) (by rw [az]; exact hb)) (okR rfl) rfl rfl rfl <| gR 4 rfl <| qDs [] 12 12 <| qDr [(0, 2), (1, 2), (2, 2)] rfl rfl ?_
 obtain ⟨d, e, h⟩ := h
 refine gYd 3 rfl (by kernel_rfl) (aH (aw e) ai rfl rfl rfl rfl) rfl rfl <| qDr [(4, 2), (6, 2)] rfl rfl ?_
 obtain ⟨a, g, h⟩ := h
 refine qDC 5 g [2] rfl ?_
 refine gHR 4 (List.map aa.w a) rfl (vG _ a) rfl ?_
 obtain ⟨c, i, h⟩ := h
 refine bN 7 i (by kernel_rfl) rfl (by kernel_rfl) rfl rfl .rfl rfl rfl ?_
 refine qDr [(8, 0), (9, 0)] rfl rfl ?_
 obtain ⟨hb, h⟩ := h
 refine ba 10 (.repl 4 (.row 164 2 (List.map aa.w (a ++ [(aa.mk c [93])])))) rfl (by kernel_rfl) (bJ ai rfl rfl rfl rfl rfl (apM aa.w a (aa.mk c [93])) (by rw [az]; exact hb)) (okR rfl) rfl (by kernel_rfl) rfl rfl ?_
 refine qDr [(11, 0)] rfl rfl <| qDe <| gR 4 rfl ?_
 subst h
 exact gE hK [] [(4, .sl 1)] [1000, 6] [.tmp 4]
theorem me (m : Nat) (p0 : List aa) (p1 : Tree) (r0 : List aa) (h : ((p1.kind = 16) → mM m p0 p1 r0) ∧ ((p1.kind ≠ 16) → jb m p0 p1 r0)) : iO (m + 1) p0 p1 r0 := by
 intro K hK
 refine gR 6 rfl <| qBeZ 202 203 rfl rfl rfl rfl h ?_ ?_ <;> intro h
 exact gR 1 rfl <| qJ hK (h K hK) [0]
 exact gR 1 rfl <| qJ hK (h K hK) [0]
theorem rC (m : Nat) (p0 : List aa) (p1 : Tree) (r0 : List aa) (h : ∃ b, ao p1 0 b ∧ ∃ c, ao p1 1 c ∧ (p0 ++ [(aa.mk b p1.text), (aa.mk c [40])]).length ≤ 1000000000 ∧ ∃ a, eL (p0 ++ [(aa.mk b p1.text), (aa.mk c [40])]) p1 0 (p1.kids.length : Int) 3 a ∧ ∃ d, ao p1 2 d ∧ (a ++ [(aa.mk d [41])]).length ≤ 1000000000 ∧ (a ++ [(aa.mk d [41])]) = r0) : mM (m + 1) p0 p1 r0 := by
 intro K hK
 refine gR 1 rfl <| qDs [] 12 12 <| qDr [(0, 2), (1, 2), (3, 2), (4, 2), (6, 2)] rfl rfl ?_
 obtain ⟨b, e, h⟩ := h
 refine bN 2 e (by kernel_rfl) rfl (by kernel_rfl) rfl rfl .rfl rfl rfl ?_
 refine qDr [(5, 2)] rfl rfl ?_
 obtain ⟨c, g, h⟩ := h
 refine bN 7 g (by kernel_rfl) rfl (by kernel_rfl) rfl rfl .rfl rfl rfl ?_
 refine qDr [(8, 0), (9, 0)] rfl rfl ?_
 obtain ⟨hb, h⟩ := h
 refine ba 10 (.repl 0 (.row 164 2 (List.map aa.w (p0 ++ [(aa.mk b p1.text), (aa.mk c [40])])))) rfl (by kernel_rfl) (bJ ai rfl rfl rfl rfl rfl (List.map_append (f := aa.w) (l₁ := p0) (l₂ := [(aa.mk b p1.text), (aa.mk c [40])])).symm (by rw [az]; exact hb)) (okR rfl) rfl (by kernel_rfl) rfl rfl ?_
 refine qDr [(11, 0)] rfl rfl <| qDe <| gR 2 rfl <| qDs [] 10 10 <| qDr [(0, 2), (1, 2), (2, 2), (4, 2)] rfl rfl ?_
 obtain ⟨a, i, h⟩ := h
 refine qDC 3 i [2] rfl ?_
 refine gHR 4 (List.map aa.w a) rfl (vG _ a) rfl ?_
 obtain ⟨d, j, h⟩ := h
 refine bN 5 j (by kernel_rfl) rfl (by kernel_rfl) rfl rfl .rfl rfl rfl ?_
 refine qDr [(6, 0), (7, 0)] rfl rfl ?_
 obtain ⟨hb, h⟩ := h
 refine ba 8 (.repl 4 (.row 164 2 (List.map aa.w (a ++ [(aa.mk d [41])])))) rfl (by kernel_rfl) (bJ ai rfl rfl rfl rfl rfl (apM aa.w a (aa.mk d [41])) (by rw [az]; exact hb)) (okR rfl) rfl (by kernel_rfl) rfl rfl ?_
 refine qDr [(9, 0)] rfl rfl <| qDe <| gR 4 rfl ?_
 subst h
 exact gE hK [] [(4, .sl 1)] [1000, 6] [.tmp 4]
theorem mv (m : Nat) (p0 : List aa) (p1 : Tree) (r0 : List aa) (h : ((p1.kind = 17) → ∃ b, p1.kids[0]? = some b ∧ ∃ a, aq p0 b a ∧ a = r0) ∧ ((p1.kind ≠ 17) → iP m p0 p1 r0)) : jb (m + 1) p0 p1 r0 := by
 intro K hK
 refine gR 6 rfl <| qBeZ 224 225 rfl rfl rfl rfl h ?_ ?_ <;> intro h
 refine gR 6 rfl ?_
 obtain ⟨b, c, h⟩ := h
 refine gY (aH (aw c) ai rfl rfl rfl rfl) rfl rfl <| gR 1 rfl ?_
 obtain ⟨a, d, h⟩ := h
 refine qC d [0] ?_
 refine gHR 2 (List.map aa.w a) rfl (vG _ a) rfl <| gR 6 rfl ?_
 subst h
 exact gE hK [] [(4, .sl 1)] [1000, 2] [.tmp 4]
 exact gR 1 rfl <| qJ hK (h K hK) [0]
theorem ml (m : Nat) (p0 : List aa) (p1 : Tree) (r0 : List aa) (h : ((p1.kind = 18) → mF m p0 p1 r0) ∧ ((p1.kind ≠ 18) → iU m p0 p1 r0)) : iP (m + 1) p0 p1 r0 := by
 intro K hK
 refine gR 6 rfl <| qBeZ 232 233 rfl rfl rfl rfl h ?_ ?_ <;> intro h
 exact gR 1 rfl <| qJ hK (h K hK) [0]
 exact gR 1 rfl <| qJ hK (h K hK) [0]
theorem rr (m : Nat) (p0 : List aa) (p1 : Tree) (r0 : List aa) (h : ∃ b, ao p1 0 b ∧ (p0 ++ [(aa.mk b [91])]).length ≤ 1000000000 ∧ ∃ a, eL (p0 ++ [(aa.mk b [91])]) p1 0 (p1.kids.length : Int) 2 a ∧ ∃ c, ao p1 1 c ∧ (a ++ [(aa.mk c [93])]).length ≤ 1000000000 ∧ (a ++ [(aa.mk c [93])]) = r0) : mF (m + 1) p0 p1 r0 := by
 intro K hK
 refine gR 4 rfl ?_
 obtain ⟨b, d, h⟩ := h
 refine qC0 d rfl <| gR 2 rfl ?_
 obtain ⟨hb, h⟩ := h
 refine gDo (.repl 0 (.row 164 2 (List.map aa.w (p0 ++ [(aa.mk b [91])])))) (bJ ai rfl rfl rfl rfl rfl (apM aa.w p0 (aa.mk b [91])) (by rw [az]; exact hb)) (okR rfl) rfl rfl rfl <| gR 4 rfl <| qDs [] 10 10 <| qDr [(0, 2), (1, 2), (2, 2), (4, 2)] rfl rfl ?_
 obtain ⟨a, e, h⟩ := h
 refine qDC 3 e [2] rfl ?_
 refine gHR 4 (List.map aa.w a) rfl (vG _ a) rfl ?_
 obtain ⟨c, f, h⟩ := h
 refine bN 5 f (by kernel_rfl) rfl (by kernel_rfl) rfl rfl .rfl rfl rfl ?_
 refine qDr [(6, 0), (7, 0)] rfl rfl ?_
 obtain ⟨hb, h⟩ := h
 refine ba 8 (.repl 4 (.row 164 2 (List.map aa.w (a ++ [(aa.mk c [93])])))) rfl (by kernel_rfl) (bJ ai rfl rfl rfl rfl rfl (apM aa.w a (aa.mk c [93])) (by rw [az]; exact hb)) (okR rfl) rfl (by kernel_rfl) rfl rfl ?_
 refine qDr [(9, 0)] rfl rfl <| qDe <| gR 4 rfl ?_
 subst h
 exact gE hK [] [(4, .sl 1)] [1000, 6] [.tmp 4]
theorem mg (m : Nat) (p0 : List aa) (p1 : Tree) (r0 : List aa) (h : ((p1.kind = 19) → mW m p0 p1 r0) ∧ ((p1.kind ≠ 19) → iT m p0 p1 r0)) : iU (m + 1) p0 p1 r0 := by
 intro K hK
 refine gR 6 rfl <| qBeZ 249 250 rfl rfl rfl rfl h ?_ ?_ <;> intro h
 exact gR 1 rfl <| qJ hK (h K hK) [0]
 exact gR 1 rfl <| qJ hK (h K hK) [0]
theorem ro (m : Nat) (p0 : List aa) (p1 : Tree) (r0 : List aa) (h : ∃ g, p1.kids[0]? = some g ∧ ∃ c, ao p1 0 c ∧ (p0 ++ [(aa.mk c [105, 102])]).length ≤ 1000000000 ∧ ∃ a, aq (p0 ++ [(aa.mk c [105, 102])]) g a ∧ ∃ i, p1.kids[1]? = some i ∧ ∃ d, ao p1 1 d ∧ (a ++ [(aa.mk d [116, 104, 101, 110])]).length ≤ 1000000000 ∧ ∃ b, aq (a ++ [(aa.mk d [116, 104, 101, 110])]) i b ∧ ∃ j, p1.kids[2]? = some j ∧ ∃ e, ao p1 2 e ∧ (b ++ [(aa.mk e [101, 108, 115, 101])]).length ≤ 1000000000 ∧ ∃ f, aq (b ++ [(aa.mk e [101, 108, 115, 101])]) j f ∧ f = r0) : mW (m + 1) p0 p1 r0 := by
 intro K hK
 refine gR 1 rfl <| qDs [] 12 12 <| qDr [(0, 2), (1, 2), (6, 2), (7, 2)] rfl rfl ?_
 obtain ⟨g, k, h⟩ := h
 refine gYd 8 rfl (by kernel_rfl) (aH (aw k) ai rfl rfl rfl rfl) rfl rfl <| qDr [(9, 2)] rfl rfl ?_
 obtain ⟨c, o, h⟩ := h
 refine bN 2 o (by kernel_rfl) rfl (by kernel_rfl) rfl rfl .rfl rfl rfl ?_
 refine qDr [(3, 0), (4, 0)] rfl rfl ?_
 obtain ⟨hb, h⟩ := h
 refine ba 5 (.repl 0 (.row 164 2 (List.map aa.w (p0 ++ [(aa.mk c [105, 102])])))) rfl (by kernel_rfl) (bJ ai rfl rfl rfl rfl rfl (apM aa.w p0 (aa.mk c [105, 102])) (by rw [az]; exact hb)) (okR rfl) rfl (by kernel_rfl) rfl rfl ?_
 obtain ⟨a, p, h⟩ := h
 refine qDC 10 p [2] rfl ?_
 refine gHR 4 (List.map aa.w a) rfl (vG _ a) rfl <| qDr [(11, 0)] rfl rfl <| qDe <| gR 2 rfl <| qDs [] 12 12 <| qDr [(0, 2), (1, 2), (6, 2), (7, 2)] rfl rfl ?_
 obtain ⟨i, l, h⟩ := h
 refine gYd 8 rfl (by kernel_rfl) (aH (aw l) ai rfl rfl rfl rfl) rfl rfl <| qDr [(9, 2)] rfl rfl ?_
 obtain ⟨d, q, h⟩ := h
 refine bN 2 q (by kernel_rfl) rfl (by kernel_rfl) rfl rfl .rfl rfl rfl ?_
 refine qDr [(3, 0), (4, 0)] rfl rfl ?_
 obtain ⟨hb, h⟩ := h
 refine ba 5 (.repl 4 (.row 164 2 (List.map aa.w (a ++ [(aa.mk d [116, 104, 101, 110])])))) rfl (by kernel_rfl) (bJ ai rfl rfl rfl rfl rfl (apM aa.w a (aa.mk d [116, 104, 101, 110])) (by rw [az]; exact hb)) (okR rfl) rfl (by kernel_rfl) rfl rfl ?_
 obtain ⟨b, r, h⟩ := h
 refine qDC 10 r [6] rfl ?_
 refine gHR 8 (List.map aa.w b) rfl (vG _ b) rfl <| qDr [(11, 0)] rfl rfl <| qDe <| gR 2 rfl <| qDs [] 12 12 <| qDr [(0, 2), (1, 2), (6, 2), (7, 2)] rfl rfl ?_
 obtain ⟨j, n, h⟩ := h
 refine gYd 8 rfl (by kernel_rfl) (aH (aw n) ai rfl rfl rfl rfl) rfl rfl <| qDr [(9, 2)] rfl rfl ?_
 obtain ⟨e, s, h⟩ := h
 refine bN 2 s (by kernel_rfl) rfl (by kernel_rfl) rfl rfl .rfl rfl rfl ?_
 refine qDr [(3, 0), (4, 0)] rfl rfl ?_
 obtain ⟨hb, h⟩ := h
 refine ba 5 (.repl 8 (.row 164 2 (List.map aa.w (b ++ [(aa.mk e [101, 108, 115, 101])])))) rfl (by kernel_rfl) (bJ ai rfl rfl rfl rfl rfl (apM aa.w b (aa.mk e [101, 108, 115, 101])) (by rw [az]; exact hb)) (okR rfl) rfl (by kernel_rfl) rfl rfl ?_
 obtain ⟨f, t, h⟩ := h
 refine qDC 10 t [10] rfl ?_
 refine gHR 12 (List.map aa.w f) rfl (vG _ f) rfl <| qDr [(11, 0)] rfl rfl <| qDe <| gR 4 rfl ?_
 subst h
 exact gE hK [] [(4, .sl 1)] [1000, 12] [.tmp 4]
theorem mt (m : Nat) (p0 : List aa) (p1 : Tree) (r0 : List aa) (h : ((p1.kind = 20) → mS m p0 p1 r0) ∧ ((p1.kind ≠ 20) → iY m p0 p1 r0)) : iT (m + 1) p0 p1 r0 := by
 intro K hK
 refine gR 6 rfl <| qBeZ 284 285 rfl rfl rfl rfl h ?_ ?_ <;> intro h
 exact gR 1 rfl <| qJ hK (h K hK) [0]
 exact gR 1 rfl <| qJ hK (h K hK) [0]
theorem rq (m : Nat) (p0 : List aa) (p1 : Tree) (r0 : List aa) (h : ∃ b, ao p1 0 b ∧ ∃ c, ao p1 1 c ∧ ∃ d, ao p1 2 d ∧ (p0 ++ [(aa.mk b [108, 101, 116]), (aa.mk c p1.text), (aa.mk d [61])]).length ≤ 1000000000 ∧ ∃ i, p1.kids[0]? = some i ∧ ∃ a, aq (p0 ++ [(aa.mk b [108, 101, 116]), (aa.mk c p1.text), (aa.mk d [61])]) i a ∧ ∃ e, ao p1 3 e ∧ (a ++ [(aa.mk e [105, 110])]).length ≤ 1000000000 ∧ ∃ j, p1.kids[1]? = some j ∧ ∃ g, aq (a ++ [(aa.mk e [105, 110])]) j g ∧ g = r0) : mS (m + 1) p0 p1 r0 := by
 intro K hK
 refine gR 1 rfl <| qDs [] 15 15 <| qDr [(0, 2), (1, 2), (4, 2), (6, 2), (7, 2), (9, 2)] rfl rfl ?_
 obtain ⟨b, n, h⟩ := h
 refine bN 2 n (by kernel_rfl) rfl (by kernel_rfl) rfl rfl .rfl rfl rfl ?_
 refine qDr [(3, 2)] rfl rfl ?_
 obtain ⟨c, o, h⟩ := h
 refine bN 5 o (by kernel_rfl) rfl (by kernel_rfl) rfl rfl .rfl rfl rfl ?_
 refine qDr [(8, 2)] rfl rfl ?_
 obtain ⟨d, p, h⟩ := h
 refine bN 10 p (by kernel_rfl) rfl (by kernel_rfl) rfl rfl .rfl rfl rfl ?_
 refine qDr [(11, 0), (12, 0)] rfl rfl ?_
 obtain ⟨hb, h⟩ := h
 refine ba 13 (.repl 0 (.row 164 2 (List.map aa.w (p0 ++ [(aa.mk b [108, 101, 116]), (aa.mk c p1.text), (aa.mk d [61])])))) rfl (by kernel_rfl) (bJ ai rfl rfl rfl rfl rfl (List.map_append (f := aa.w) (l₁ := p0) (l₂ := [(aa.mk b [108, 101, 116]), (aa.mk c p1.text), (aa.mk d [61])])).symm (by rw [az]; exact hb)) (okR rfl) rfl (by kernel_rfl) rfl rfl ?_
 refine qDr [(14, 0)] rfl rfl <| qDe <| gR 2 rfl <| qDs [] 12 12 <| qDr [(0, 2), (1, 2), (2, 2)] rfl rfl ?_
 obtain ⟨i, k, h⟩ := h
 refine gYd 3 rfl (by kernel_rfl) (aH (aw k) ai rfl rfl rfl rfl) rfl rfl <| qDr [(4, 2), (6, 2)] rfl rfl ?_
 obtain ⟨a, q, h⟩ := h
 refine qDC 5 q [2] rfl ?_
 refine gHR 4 (List.map aa.w a) rfl (vG _ a) rfl ?_
 obtain ⟨e, r, h⟩ := h
 refine bN 7 r (by kernel_rfl) rfl (by kernel_rfl) rfl rfl .rfl rfl rfl ?_
 refine qDr [(8, 0), (9, 0)] rfl rfl ?_
 obtain ⟨hb, h⟩ := h
 refine ba 10 (.repl 4 (.row 164 2 (List.map aa.w (a ++ [(aa.mk e [105, 110])])))) rfl (by kernel_rfl) (bJ ai rfl rfl rfl rfl rfl (apM aa.w a (aa.mk e [105, 110])) (by rw [az]; exact hb)) (okR rfl) rfl (by kernel_rfl) rfl rfl ?_
 refine qDr [(11, 0)] rfl rfl <| qDe <| gR 6 rfl ?_
 obtain ⟨j, l, h⟩ := h
 refine gY (aH (aw l) ai rfl rfl rfl rfl) rfl rfl <| gR 1 rfl ?_
 obtain ⟨g, s, h⟩ := h
 refine qC s [6] ?_
 refine gHR 8 (List.map aa.w g) rfl (vG _ g) rfl <| gR 6 rfl ?_
 subst h
 exact gE hK [] [(4, .sl 1)] [1000, 8] [.tmp 4]
theorem ms (m : Nat) (p0 : List aa) (p1 : Tree) (r0 : List aa) (h : ((p1.kind = 21) → mI m p0 p1 r0) ∧ ((p1.kind ≠ 21) → iR m p0 p1 r0)) : iY (m + 1) p0 p1 r0 := by
 intro K hK
 refine gR 6 rfl <| qBeZ 317 318 rfl rfl rfl rfl h ?_ ?_ <;> intro h
 exact gR 1 rfl <| qJ hK (h K hK) [0]
 exact gR 1 rfl <| qJ hK (h K hK) [0]
theorem rp (m : Nat) (p0 : List aa) (p1 : Tree) (r0 : List aa) (h : ∃ d, p1.kids[0]? = some d ∧ ∃ a, aq p0 d a ∧ ∃ b, ao p1 0 b ∧ (a ++ [(aa.mk b p1.text)]).length ≤ 1000000000 ∧ ∃ e, p1.kids[1]? = some e ∧ ∃ c, aq (a ++ [(aa.mk b p1.text)]) e c ∧ c = r0) : mI (m + 1) p0 p1 r0 := by
 intro K hK
 refine gR 1 rfl <| qDs [] 14 14 <| qDr [(0, 2), (1, 2), (2, 2)] rfl rfl ?_
 obtain ⟨d, f, h⟩ := h
 refine gYd 3 rfl (by kernel_rfl) (aH (aw f) ai rfl rfl rfl rfl) rfl rfl <| qDr [(4, 2), (6, 2), (8, 2), (9, 2)] rfl rfl ?_
 obtain ⟨a, i, h⟩ := h
 refine qDC 5 i [0] rfl ?_
 refine gHR 2 (List.map aa.w a) rfl (vG _ a) rfl ?_
 obtain ⟨b, j, h⟩ := h
 refine bN 7 j (by kernel_rfl) rfl (by kernel_rfl) rfl rfl .rfl rfl rfl ?_
 refine qDr [(10, 0), (11, 0)] rfl rfl ?_
 obtain ⟨hb, h⟩ := h
 refine ba 12 (.repl 2 (.row 164 2 (List.map aa.w (a ++ [(aa.mk b p1.text)])))) rfl (by kernel_rfl) (bJ ai rfl rfl rfl rfl rfl (apM aa.w a (aa.mk b p1.text)) (by rw [az]; exact hb)) (okR rfl) rfl (by kernel_rfl) rfl rfl ?_
 refine qDr [(13, 0)] rfl rfl <| qDe <| gR 6 rfl ?_
 obtain ⟨e, g, h⟩ := h
 refine gY (aH (aw g) ai rfl rfl rfl rfl) rfl rfl <| gR 1 rfl ?_
 obtain ⟨c, k, h⟩ := h
 refine qC k [4] ?_
 refine gHR 6 (List.map aa.w c) rfl (vG _ c) rfl <| gR 6 rfl ?_
 subst h
 exact gE hK [] [(4, .sl 1)] [1000, 6] [.tmp 4]
theorem mh (m : Nat) (p0 : List aa) (p1 : Tree) (r0 : List aa) (h : ((p1.kind = 22) → mX m p0 p1 r0) ∧ ((p1.kind ≠ 22) → ∃ a, ao p1 0 a ∧ (p0 ++ [(aa.mk a p1.text)]).length ≤ 1000000000 ∧ (p0 ++ [(aa.mk a p1.text)]) = r0)) : iR (m + 1) p0 p1 r0 := by
 intro K hK
 refine gR 6 rfl <| qBeZ 338 339 rfl rfl rfl rfl h ?_ ?_ <;> intro h
 exact gR 1 rfl <| qJ hK (h K hK) [0]
 refine gR 5 rfl <| qDs [] 9 9 <| qDr [(0, 2), (1, 2), (3, 2), (4, 2)] rfl rfl ?_
 obtain ⟨a, b, h⟩ := h
 refine bN 2 b (by kernel_rfl) rfl (by kernel_rfl) rfl rfl .rfl rfl rfl ?_
 refine qDr [(5, 0), (6, 0)] rfl rfl ?_
 obtain ⟨hb, h⟩ := h
 refine ba 7 (.repl 0 (.row 164 2 (List.map aa.w (p0 ++ [(aa.mk a p1.text)])))) rfl (by kernel_rfl) (bJ ai rfl rfl rfl rfl rfl (apM aa.w p0 (aa.mk a p1.text)) (by rw [az]; exact hb)) (okR rfl) rfl (by kernel_rfl) rfl rfl ?_
 refine qDr [(8, 0)] rfl rfl <| qDe <| gR 2 rfl ?_
 subst h
 exact gE hK [] [(4, .sl 1)] [1000, 2] [.tmp 4]
theorem rv (m : Nat) (p0 : List aa) (p1 : Tree) (r0 : List aa) (h : ∃ b, ao p1 0 b ∧ (p0 ++ [(aa.mk b [40])]).length ≤ 1000000000 ∧ ∃ d, p1.kids[0]? = some d ∧ ∃ a, aq (p0 ++ [(aa.mk b [40])]) d a ∧ ∃ c, ao p1 1 c ∧ (a ++ [(aa.mk c [41])]).length ≤ 1000000000 ∧ (a ++ [(aa.mk c [41])]) = r0) : mX (m + 1) p0 p1 r0 := by
 intro K hK
 refine gR 4 rfl ?_
 obtain ⟨b, f, h⟩ := h
 refine qC0 f rfl <| gR 2 rfl ?_
 obtain ⟨hb, h⟩ := h
 refine gDo (.repl 0 (.row 164 2 (List.map aa.w (p0 ++ [(aa.mk b [40])])))) (bJ ai rfl rfl rfl rfl rfl (apM aa.w p0 (aa.mk b [40])) (by rw [az]; exact hb)) (okR rfl) rfl rfl rfl <| gR 4 rfl <| qDs [] 12 12 <| qDr [(0, 2), (1, 2), (2, 2)] rfl rfl ?_
 obtain ⟨d, e, h⟩ := h
 refine gYd 3 rfl (by kernel_rfl) (aH (aw e) ai rfl rfl rfl rfl) rfl rfl <| qDr [(4, 2), (6, 2)] rfl rfl ?_
 obtain ⟨a, g, h⟩ := h
 refine qDC 5 g [2] rfl ?_
 refine gHR 4 (List.map aa.w a) rfl (vG _ a) rfl ?_
 obtain ⟨c, i, h⟩ := h
 refine bN 7 i (by kernel_rfl) rfl (by kernel_rfl) rfl rfl .rfl rfl rfl ?_
 refine qDr [(8, 0), (9, 0)] rfl rfl ?_
 obtain ⟨hb, h⟩ := h
 refine ba 10 (.repl 4 (.row 164 2 (List.map aa.w (a ++ [(aa.mk c [41])])))) rfl (by kernel_rfl) (bJ ai rfl rfl rfl rfl rfl (apM aa.w a (aa.mk c [41])) (by rw [az]; exact hb)) (okR rfl) rfl (by kernel_rfl) rfl rfl ?_
 refine qDr [(11, 0)] rfl rfl <| qDe <| gR 4 rfl ?_
 subst h
 exact gE hK [] [(4, .sl 1)] [1000, 6] [.tmp 4]
def fG (m : Nat) (p1 : Tree) (p2 p3 p4 : Int) (a : List aa) (b : Int) (r0 : List aa) : Prop := ∀ (K : Ctx) (j1 : Nat), av K [] → m ≤ j1 → qLG K Tryz.f176 (fun u G => u = .sl 1 ∧ G = ⟨2, [(1, .row 164 2 (List.map aa.w r0))]⟩) (xL (cA (cB (ah Tryz.f176)))) [.loop (xL (cA (cB (ah Tryz.f176)))) j1, .blk 0, .seq (xA (ah Tryz.f176))] 41 (mkF 41 0 [(0, .sl 0), (2, .int .i64 p2), (3, .int .i64 p3), (4, .int .i64 p4), (6, .box (ak p1) 0), (11, .int .i64 b)]) ⟨1, [(0, .row 164 2 (List.map aa.w a))]⟩
theorem uF (m : Nat) (p0 : List aa) (p1 : Tree) (p2 p3 p4 : Int) (r0 : List aa) (h : fG m p1 p2 p3 p4 p0 p2 r0) : eL p0 p1 p2 p3 p4 r0 := by
 refine qA 41 [] Tryz.func176 fun K hK => ?_
 exact gR 3 rfl <| gFP 1 rfl rfl rfl rfl <| gR 11 rfl <| go_loop m <| qJ hK (h K _ hK (by omega)) [0]
theorem hV (m : Nat) (p1 : Tree) (p2 p3 p4 : Int) (b : List aa) (a : Int) (r0 : List aa) (h : ((a < p3) → ((p2 < a) → InI (p4 + a) ∧ InI ((p4 + a) - p2) ∧ InI (((p4 + a) - p2) - 1) ∧ ∃ c, ao p1 (((p4 + a) - p2) - 1) c ∧ (b ++ [(aa.mk c [44])]).length ≤ 1000000000 ∧ ∃ f, a = ((f : Nat) : Int) ∧ ∃ i, p1.kids[f]? = some i ∧ ∃ d, aq (b ++ [(aa.mk c [44])]) i d ∧ InI (a + 1) ∧ fG m p1 p2 p3 p4 d (a + 1) r0) ∧ ((¬ p2 < a) → ∃ g, a = ((g : Nat) : Int) ∧ ∃ j, p1.kids[g]? = some j ∧ ∃ e, aq b j e ∧ InI (a + 1) ∧ fG m p1 p2 p3 p4 e (a + 1) r0)) ∧ ((¬ a < p3) → b = r0)) : fG (m + 1) p1 p2 p3 p4 b a r0 := by
 refine qj fun K j1 hK s => ?_
 refine gR 8 rfl <| qXd 15 rfl rfl rfl h ?_ ?_ <;> intro hd h
 refine gR 13 rfl <| qXd 20 rfl rfl rfl h ?_ ?_ <;> intro hd h
 refine gR 6 rfl ?_
 obtain ⟨hb, h⟩ := h
 refine gR 1 rfl <| gV 25 (.int .i64 (p4 + a)) rfl (al hb rfl) rfl <| gR 1 rfl ?_
 obtain ⟨hb, h⟩ := h
 refine gR 1 rfl <| gV 27 (.int .i64 ((p4 + a) - p2)) rfl (al hb rfl) rfl ?_
 obtain ⟨hb, h⟩ := h
 refine gR 1 rfl <| gV 28 (.int .i64 (((p4 + a) - p2) - 1)) rfl (al hb rfl) rfl ?_
 obtain ⟨c, p, h⟩ := h
 refine qC0 p rfl <| gR 2 rfl ?_
 obtain ⟨hb, h⟩ := h
 refine gDo (.repl 0 (.row 164 2 (List.map aa.w (b ++ [(aa.mk c [44])])))) (bJ ai rfl rfl rfl rfl rfl (apM aa.w b (aa.mk c [44])) (by rw [az]; exact hb)) (okR rfl) rfl rfl rfl <| gR 8 rfl ?_
 obtain ⟨f, n, h⟩ := h
 refine gV 36 (.int .i64 ((f : Nat) : Int)) rfl (aZ n) rfl ?_
 obtain ⟨i, k, h⟩ := h
 refine gY (aH (aw k) ai rfl rfl rfl rfl) rfl rfl <| gR 1 rfl ?_
 obtain ⟨d, q, h⟩ := h
 refine qC q [2] ?_
 refine gHR 4 (List.map aa.w d) rfl (vG _ d) rfl <| gR 6 rfl ?_
 obtain ⟨hb, h⟩ := h
 exact gR 1 rfl <| gV 17 (.int .i64 (a + 1)) rfl (al hb rfl) rfl <| gR 2 rfl <| go_xloop <| qJ hK (h K _ hK (by omega)) [4]
 refine gR 8 rfl ?_
 obtain ⟨g, o, h⟩ := h
 refine gV 36 (.int .i64 ((g : Nat) : Int)) rfl (aZ o) rfl ?_
 obtain ⟨j, l, h⟩ := h
 refine gY (aH (aw l) ai rfl rfl rfl rfl) rfl rfl <| gR 1 rfl ?_
 obtain ⟨e, r, h⟩ := h
 refine qC r [0] ?_
 refine gHR 2 (List.map aa.w e) rfl (vG _ e) rfl <| gR 6 rfl ?_
 obtain ⟨hb, h⟩ := h
 exact gR 1 rfl <| gV 17 (.int .i64 (a + 1)) rfl (al hb rfl) rfl <| gR 2 rfl <| go_xloop <| qJ hK (h K _ hK (by omega)) [2]
 refine gR 3 rfl <| go_xloopE <| gR 9 rfl ?_
 subst h
 exact gE hK [] [(10, .sl 1)] [1000, 0] [.tmp 10]
theorem oQ (m : Nat) (p0 : Tree) (p1 : Int) (r0 : List UInt8) (h : ((p1 < (p0.leads.length : Int)) → ∃ a, p1 = ((a : Nat) : Int) ∧ ∃ b, p0.leads[a]? = some b ∧ b = r0) ∧ ((¬ p1 < (p0.leads.length : Int)) → [] = r0)) : ao p0 p1 r0 := by
 refine ⟨rfl, rfl, ?_⟩
 refine qA 15 [] Tryz.func175 fun K hK => ?_
 refine gR 3 rfl <| gFP 0 rfl rfl rfl rfl <| gR 10 rfl <| gV 8 (.int .i64 (p0.leads.length : Int)) rfl (aP (az V.str _)) rfl <| gLB 7 rfl (az V.str _) fun e => gR 3 rfl <| qBd 9 rfl rfl rfl h ?_ ?_ <;> intro h
 refine gR 6 rfl ?_
 obtain ⟨a, d, h⟩ := h
 refine gV 12 (.int .i64 ((a : Nat) : Int)) rfl (aZ d) rfl ?_
 obtain ⟨b, c, h⟩ := h
 refine gY (aH (mapget (f := V.str) c) ai rfl rfl rfl rfl) rfl rfl <| gR 6 rfl ?_
 subst h
 exact qN [.tmp 4]
 refine gR 9 rfl ?_
 subst h
 exact qN [.tmp 4]
def kA (p0 : List Int) (r0 : Bool) : Prop := qS 6 [.row 1 (List.map (V.int .i64) p0)] (.bool r0)
def dq (m : Nat) (a b : List Tree) (c : Nat) (r0 : Bool) : Prop := ∀ (K : Ctx) (j1 : Nat), av K [] → m ≤ j1 → qLG K Tryz.f6 (fun u _ => u = .bool r0) (xI (xA (ah Tryz.f6))) [.loop (xI (xA (ah Tryz.f6))) j1, .blk 0, .seq (xA (xH (ah Tryz.f6)))] 34 (mkF 34 0 [(3, .row 4 (kidsV a)), (4, .sl 0), (5, .int .i64 (c : Int))]) ⟨1, [(0, .row 29 4 (kidsV b))]⟩
theorem jN (m : Nat) (p0 : List Int) (r0 : Bool) (h : ∃ a, lA p0 a ∧ ((a = false) → ∃ b, kU b ∧ b = r0) ∧ ((a = true) → ∃ c, kr p0 c ∧ dq m c ([] : List Tree) 0 r0)) : kA p0 r0 := by
 refine ⟨rfl, rfl, ?_⟩
 refine qA 34 [] Tryz.func6 fun K hK => ?_
 refine gR 9 rfl ?_
 obtain ⟨a, d, h⟩ := h
 refine qC0 d rfl <| gR 3 rfl <| qXh 8 rfl rfl rfl h ci ch ?_ ?_ <;> intro hd h
 refine gR 3 rfl ?_
 obtain ⟨b, e, h⟩ := h
 refine qC0 e rfl <| gR 5 rfl ?_
 subst h
 exact qN [.tmp 2]
 refine gR 6 rfl ?_
 obtain ⟨c, f, h⟩ := h
 exact qC0 f rfl <| gR 15 rfl <| go_loop m <| gNS 4 29 4 rfl rfl rfl rfl <| qJ hK (h K _ hK (by omega)) [0]
theorem ju (m : Nat) (b c : List Tree) (d : Nat) (r0 : Bool) (h : ((d < b.length) → ∃ i, b[d]? = some i ∧ ∃ a, iJ i a ∧ (c ++ [a]).length ≤ 1000000000 ∧ dq m b (c ++ [a]) (d + 1) r0) ∧ ((¬ d < b.length) → ∃ g, kU g ∧ ((g = true) → ∃ e, cS b e ∧ ∃ f, cS c f ∧ ∃ j, gP e f j ∧ j = r0) ∧ ((g = false) → false = r0))) : dq (m + 1) b c d r0 := by
 refine qj fun K j1 hK s => ?_
 refine gR 6 rfl <| gV 14 (.int .i64 (b.length : Int)) rfl (aP (aD _)) rfl <| gLB 13 rfl (aD _) fun l => gR 3 rfl <| qXh 15 rfl rfl rfl h cF cC ?_ ?_ <;> intro hd h
 refine gR 9 rfl ?_
 obtain ⟨i, k, h⟩ := h
 refine gY (aH (aw k) ai rfl rfl rfl rfl) rfl rfl <| gR 1 rfl ?_
 obtain ⟨a, n, h⟩ := h
 refine qC0 n rfl <| gR 1 rfl <| gHR 1 (kidsV [a]) rfl (kL a) rfl ?_
 obtain ⟨hb, h⟩ := h
 exact gDo (.repl 0 (.row 29 4 (kidsV (c ++ [a])))) (bJ ai rfl rfl rfl rfl rfl (gy c [a]).symm (by rw [aD]; exact hb)) (okR rfl) rfl rfl rfl <| gR 7 rfl <| gV 17 (.int .i64 ((d + 1 : Nat) : Int)) rfl (al (by have := l; omega) (by omega)) rfl <| gR 2 rfl <| go_xloop <| qJ hK (h K _ hK (by omega)) [2]
 refine gR 3 rfl <| go_xloopE <| gR 4 rfl ?_
 obtain ⟨g, o, h⟩ := h
 refine qC0 o rfl <| gR 1 rfl <| qXiZ 27 26 rfl rfl rfl rfl h ?_ ?_ <;> intro hd h
 refine gR 1 rfl ?_
 obtain ⟨e, p, h⟩ := h
 refine qC p [] ?_
 refine gHR 1 (List.map ae.w e) rfl (vF _ e) rfl <| gR 1 rfl <| gFR 0 rfl (cq _) rfl rfl ?_
 obtain ⟨f, q, h⟩ := h
 refine qC q [] ?_
 refine gHR 2 (List.map ae.w f) rfl (vF _ f) rfl <| gFR 1 rfl (hZ _ (fun _ => rfl) _) rfl rfl <| gFR 2 rfl (hZ _ (fun _ => rfl) _) rfl rfl ?_
 obtain ⟨j, r, h⟩ := h
 refine qC0 r rfl <| gR 5 rfl ?_
 subst h
 exact qN [.tmp 2]
 refine gR 10 rfl ?_
 subst h
 exact qN [.tmp 2]
def Dc (L : List Int) (a : Int) : Prop := 0 ≤ a ∧ a ≤ L.length ∧ L.length ≤ 1000000000
theorem MU {a n : Int} (hn : 0 < n) (hn2 : n ≤ 1000000000) : ∃ r, nj a n r ∧ 0 ≤ r ∧ r < n := by
 have h1 := Int.lt_tmod_of_pos a hn
 have h2 := Int.tmod_lt_of_pos a hn
 by_cases h : Int.tmod a n < 0
 ·exact ⟨_, qm 0 _ _ _ ⟨by omega, fun _ => ⟨by omega, rfl⟩, fun h' => absurd h h'⟩, by omega, by omega⟩
 ·exact ⟨_, qm 0 _ _ _ ⟨by omega, fun h' => absurd h' h, fun _ => rfl⟩, by omega, by omega⟩
theorem fB {L : List Int} {a n : Int} (hd : Dc L a) (hn : 0 < n) (hn2 : n ≤ 1000000000) : ∃ r a', aC L a n r L a' ∧ (0 ≤ r ∧ r < n) ∧ Dc L a' := by
 obtain ⟨h0, h1, h2⟩ := hd
 by_cases h : (L.length : Int) ≤ a
 ·exact ⟨0, a, mc 0 _ _ _ _ _ _ ⟨fun _ => ⟨rfl, rfl, rfl⟩, fun h' => absurd h h'⟩, by omega, h0, h1, h2⟩
 ·obtain ⟨x, hx, _⟩ | h' := bb L a.toNat
  ·obtain ⟨r, hr, hr1⟩ := MU (a := x) hn hn2
   exact ⟨r, a + 1, mc 0 _ _ _ _ _ _ ⟨fun h' => absurd h' h, fun _ => ⟨by omega, by omega, a.toNat, by omega, x, hx, r, hr, rfl, rfl, rfl⟩⟩, hr1, by omega, by omega, h2⟩
  ·omega
theorem jD {L : List Int} {a : Int} (hd : Dc L a) (l : List (List UInt8)) (hl : 0 < l.length) (hl2 : l.length ≤ 1000000000) : ∃ s a', be L a l s L a' ∧ s ∈ l ∧ Dc L a' := by
 obtain ⟨r, a', h1, h2, h3⟩ := fB hd (n := (l.length : Int)) (by omega) (by omega)
 obtain ⟨x, hx, _⟩ | h' := bb l r.toNat
 ·exact ⟨x, a', uX 0 _ _ _ _ _ _ ⟨_, _, _, h1, r.toNat, by omega, x, hx, rfl, rfl, rfl⟩, List.mem_of_getElem? hx, h3⟩
 ·omega
def Gt (L : List Int) (C : Tree → Int → Prop) (B : Nat) : Prop := ∃ t a', C t a' ∧ Dc L a' ∧ tbulk t ≤ B
theorem Gt.map {L : List Int} {C C' : Tree → Int → Prop} {B B' : Nat} (h : Gt L C B) (hb : B ≤ B') (k : ∀ t a', C t a' → C' t a') : Gt L C' B' := by
 obtain ⟨t, a', h1, h2, h3⟩ := h; exact ⟨t, a', k t a' h1, h2, by omega⟩
theorem iC {l : List (List UInt8)} {s : List UInt8} (h : s ∈ l) (hl : l.all (fun x => decide (x.length ≤ 5)) = true) : s.length ≤ 5 := by
 have := List.all_eq_true.1 hl s h; simpa using this
theorem tb0 (k : Int) (s : List UInt8) : tbulk (.node k s [] []) = s.length + 1 := by simp [tbulk, lsum, kbulk]
theorem tb1 (k : Int) (s : List UInt8) (t : Tree) : tbulk (.node k s [] [t]) = s.length + tbulk t + 1 := by simp [tbulk, lsum, kbulk]
theorem tb2 (k : Int) (s : List UInt8) (t u : Tree) : tbulk (.node k s [] [t, u]) = s.length + tbulk t + tbulk u + 1 := by simp [tbulk, lsum, kbulk]; omega
theorem tb3 (k : Int) (s : List UInt8) (t u v : Tree) : tbulk (.node k s [] [t, u, v]) = s.length + tbulk t + tbulk u + tbulk v + 1 := by simp [tbulk, lsum, kbulk]; omega
theorem tbK (k : Int) (s : List UInt8) (l : List Tree) : tbulk (.node k s [] l) = s.length + kbulk l + 1 := by simp [tbulk, lsum]
theorem En {L : List Int} : ∀ (d : Nat) {a : Int}, Dc L a → d ≤ 100 → Gt L (fun t a' => cx L a d t L a') (6 + d) := fun d => by
 induction d with
 | zero =>
  intro a hd _
  obtain ⟨r, a1, h1, h2, h3⟩ := fB hd (n := 7) (by omega) (by omega)
  have top : ∀ {t a'}, fX 1 0 r L a1 false t L a' → r ≠ 0 → r ≠ 1 → cx L a 0 t L a' := fun h n0 n1 => jp 1 _ _ _ _ _ _ ⟨_, _, _, h1, fun e => absurd e n0, fun _ => by rw [show (r == 1) = false by simpa using n1]; exact h⟩
  by_cases e0 : r = 0 ∨ r = 1
  ·refine ⟨_, a1, jp 1 _ _ _ _ _ _ ⟨_, _, _, h1, fun e => bo 0 _ _ _ _ _ _ _ _ ⟨fun _ => ⟨rfl, rfl, rfl⟩, fun h => nomatch h⟩, fun e => bo 0 _ _ _ _ _ _ _ _ ⟨fun _ => ⟨rfl, rfl, rfl⟩, fun h => ?_⟩⟩, h3, by rw [tb0]; simp only [List.length_nil]; omega⟩
   rcases e0 with e0 | e0
   ·exact absurd e0 e
   ·rw [e0] at h; cases h
  ·by_cases e2 : r = 2
   ·exact ⟨_, a1, top (bo 0 _ _ _ _ _ _ _ _ ⟨fun h => (nomatch h), fun _ => ⟨fun _ => ⟨rfl, rfl, rfl⟩, fun h => absurd e2 h⟩⟩) (by omega) (by omega), h3, by rw [tb0]; simp only [List.length_nil]; omega⟩
   ·by_cases e3 : r = 3
    ·exact ⟨_, a1, top (bo 0 _ _ _ _ _ _ _ _ ⟨fun h => (nomatch h), fun _ => ⟨fun h => absurd h e2, fun _ => ⟨fun _ => ⟨rfl, rfl, rfl⟩, fun h => absurd e3 h⟩⟩⟩) (by omega) (by omega), h3, by rw [tb0]; simp only [List.length_nil]; omega⟩
    ·by_cases e4 : r = 4
     ·obtain ⟨s, a2, g1, g2, g3⟩ := jD h3 [[84], [85], [65, 46, 84], [66, 46, 85]] (by decide) (by decide)
      have := iC g2 (by decide)
      exact ⟨_, a2, top (bo 0 _ _ _ _ _ _ _ _ ⟨fun h => (nomatch h), fun _ => ⟨fun h => absurd h e2, fun _ => ⟨fun h => absurd h e3, fun _ => ⟨fun _ => ⟨_, _, _, g1, rfl, rfl, rfl⟩, fun h => absurd e4 h⟩⟩⟩⟩) (by omega) (by omega), g3, by rw [tb0]; omega⟩
     ·exact ⟨_, a1, top (bo 0 _ _ _ _ _ _ _ _ ⟨fun h => (nomatch h), fun _ => ⟨fun h => absurd h e2, fun _ => ⟨fun h => absurd h e3, fun _ => ⟨fun h => absurd h e4, fun _ => ⟨fun _ => ⟨rfl, rfl, rfl⟩, fun h => by omega⟩⟩⟩⟩⟩) (by omega) (by omega), h3, by rw [tb0]; simp only [List.length_nil]; omega⟩
 | succ d ih =>
  intro a hd hd100
  obtain ⟨r, a1, h1, h2, h3⟩ := fB hd (n := 7) (by omega) (by omega)
  have top : ∀ {t a'}, fX 1 ((d + 1 : Nat) : Int) r L a1 false t L a' → r ≠ 0 → r ≠ 1 → cx L a ((d + 1 : Nat) : Int) t L a' := fun h n0 n1 => jp 1 _ _ _ _ _ _ ⟨_, _, _, h1, fun e => absurd e n0, fun _ => by rw [show (r == 1) = false by simpa using n1]; exact h⟩
  by_cases e0 : r = 0 ∨ r = 1
  ·refine ⟨_, a1, jp 1 _ _ _ _ _ _ ⟨_, _, _, h1, fun e => bo 0 _ _ _ _ _ _ _ _ ⟨fun _ => ⟨rfl, rfl, rfl⟩, fun h => nomatch h⟩, fun e => bo 0 _ _ _ _ _ _ _ _ ⟨fun _ => ⟨rfl, rfl, rfl⟩, fun h => ?_⟩⟩, h3, by rw [tb0]; simp only [List.length_nil]; omega⟩
   rcases e0 with e0 | e0
   ·exact absurd e0 e
   ·rw [e0] at h; cases h
  ·by_cases e2 : r = 2
   ·exact ⟨_, a1, top (bo 0 _ _ _ _ _ _ _ _ ⟨fun h => (nomatch h), fun _ => ⟨fun _ => ⟨rfl, rfl, rfl⟩, fun h => absurd e2 h⟩⟩) (by omega) (by omega), h3, by rw [tb0]; simp only [List.length_nil]; omega⟩
   ·by_cases e3 : r = 3
    ·exact ⟨_, a1, top (bo 0 _ _ _ _ _ _ _ _ ⟨fun h => (nomatch h), fun _ => ⟨fun h => absurd h e2, fun _ => ⟨fun _ => ⟨rfl, rfl, rfl⟩, fun h => absurd e3 h⟩⟩⟩) (by omega) (by omega), h3, by rw [tb0]; simp only [List.length_nil]; omega⟩
    ·by_cases e4 : r = 4
     ·obtain ⟨s, a2, g1, g2, g3⟩ := jD h3 [[84], [85], [65, 46, 84], [66, 46, 85]] (by decide) (by decide)
      have := iC g2 (by decide)
      exact ⟨_, a2, top (bo 0 _ _ _ _ _ _ _ _ ⟨fun h => (nomatch h), fun _ => ⟨fun h => absurd h e2, fun _ => ⟨fun h => absurd h e3, fun _ => ⟨fun _ => ⟨_, _, _, g1, rfl, rfl, rfl⟩, fun h => absurd e4 h⟩⟩⟩⟩) (by omega) (by omega), g3, by rw [tb0]; omega⟩
     ·obtain ⟨t, a2, g1, g2, g3⟩ := ih h3 (by omega)
      have g1' : cx L a1 (((d + 1 : Nat) : Int) - 1) t L a2 := by rw [show ((d + 1 : Nat) : Int) - 1 = (d : Int) by omega]; exact g1
      exact ⟨_, a2, top (bo 0 _ _ _ _ _ _ _ _ ⟨fun h => (nomatch h), fun _ => ⟨fun h => absurd h e2, fun _ => ⟨fun h => absurd h e3, fun _ => ⟨fun h => absurd h e4, fun _ => ⟨fun h => by omega, fun _ => ⟨by omega, _, _, _, g1', rfl, rfl, rfl⟩⟩⟩⟩⟩⟩) (by omega) (by omega), g2, by rw [tb1]; simp only [List.length_nil]; omega⟩
def eB : Nat → Nat
 | 0 => 6
 | d + 1 => 3 * eB d + 20
section
variable {L : List Int} {d a z : Int} {t : Tree} {a' : Int} {m : Nat}
theorem up2 (h0 : z ≠ 0) (h1 : z ≠ 1) (h : iy m d L a z t L a') : cr (m + 2) d L a z t L a' :=
 rL0_semvcsmake_Expr (m + 1) _ _ _ _ _ _ _ ⟨fun e => absurd e h0, fun _ => kM m _ _ _ _ _ _ _ _ ⟨fun e => absurd (eq_of_beq e) h1, fun _ => h⟩⟩
theorem up6 (h2 : z ≠ 2) (h3 : z ≠ 3) (h4 : z ≠ 4) (h5 : z ≠ 5) (h : iH m d L a z t L a') : iy (m + 4) d L a z t L a' :=
 rL2_semvcsmake_Expr (m + 3) _ _ _ _ _ _ _ ⟨fun e => absurd e h2, fun _ => fk (m + 2) _ _ _ _ _ _ _ ⟨fun e => absurd e h3, fun _ => hW (m + 1) _ _ _ _ _ _ _ ⟨fun e => absurd e h4, fun _ => kO m _ _ _ _ _ _ _ ⟨fun e => absurd e h5, fun _ => h⟩⟩⟩⟩
theorem up9 (h6 : z ≠ 6) (h7 : z ≠ 7) (h : fx m d L a z t L a') : iH (m + 2) d L a z t L a' :=
 rL6_semvcsmake_Expr (m + 1) _ _ _ _ _ _ _ ⟨fun e => absurd e h6, fun _ => kJ m _ _ _ _ _ _ _ _ ⟨fun e => absurd (eq_of_beq e) h7, fun _ => h⟩⟩
theorem KC (h8 : z ≠ 8) (h : hI m d L a z t L a') : fx (m + 1) d L a z t L a' := oP m _ _ _ _ _ _ _ ⟨fun e => absurd e h8, fun _ => h⟩
theorem Np (h9 : z ≠ 9) (h : fh m d L a z t L a') : hI (m + 1) d L a z t L a' := ot m _ _ _ _ _ _ _ ⟨fun e => absurd e h9, fun _ => h⟩
theorem NM (h10 : z ≠ 10) (h11 : z ≠ 11) (h : ie m d L a z t L a') : fh (m + 2) d L a z t L a' :=
 rL14_semvcsmake_Expr (m + 1) _ _ _ _ _ _ _ ⟨fun e => absurd e h10, fun _ => kp m _ _ _ _ _ _ _ _ ⟨fun e => absurd (eq_of_beq e) h11, fun _ => h⟩⟩
end
theorem xk {L : List Int} {d a z : Int} (M : Nat) (hd : Dc L a) (h0 : 0 ≤ z) (h5 : z ≤ 5) : Gt L (fun t a' => cr (M + 8) d L a z t L a') 6 := by
 by_cases e0 : z = 0 ∨ z = 1
 ·obtain ⟨s, a2, g1, g2, g3⟩ := jD hd [[120], [121], [122]] (by decide) (by decide)
  have := iC g2 (by decide)
  refine ⟨_, a2, rL0_semvcsmake_Expr (M + 7) _ _ _ _ _ _ _ ⟨fun e => kM (M + 6) _ _ _ _ _ _ _ _ ⟨fun _ => ⟨_, _, _, g1, rfl, rfl, rfl⟩, fun h => nomatch h⟩, fun e => kM (M + 6) _ _ _ _ _ _ _ _ ⟨fun _ => ⟨_, _, _, g1, rfl, rfl, rfl⟩, fun h => ?_⟩⟩, g3, by rw [tb0]; omega⟩
  rcases e0 with e0 | e0
  ·exact absurd e0 e
  ·rw [e0] at h; exact absurd h (by decide)
 have n0 : z ≠ 0 := by omega
 have n1 : z ≠ 1 := by omega
 by_cases e2 : z = 2
 ·obtain ⟨s, a2, g1, g2, g3⟩ := jD hd [[48], [49], [50], [49, 48]] (by decide) (by decide)
  have := iC g2 (by decide)
  exact ⟨_, a2, up2 n0 n1 (rL2_semvcsmake_Expr (M + 5) _ _ _ _ _ _ _ ⟨fun _ => ⟨_, _, _, g1, rfl, rfl, rfl⟩, fun h => absurd e2 h⟩), g3, by rw [tb0]; omega⟩
 by_cases e3 : z = 3
 ·obtain ⟨s, a2, g1, g2, g3⟩ := jD hd [[34, 34], [34, 97, 34], [34, 35, 32, 98, 34]] (by decide) (by decide)
  have := iC g2 (by decide)
  exact ⟨_, a2, up2 n0 n1 (rL2_semvcsmake_Expr (M + 5) _ _ _ _ _ _ _ ⟨fun h => absurd h e2, fun _ => fk (M + 4) _ _ _ _ _ _ _ ⟨fun _ => ⟨_, _, _, g1, rfl, rfl, rfl⟩, fun h => absurd e3 h⟩⟩), g3, by rw [tb0]; omega⟩
 by_cases e4 : z = 4
 ·obtain ⟨r, a2, g1, g2, g3⟩ := fB hd (n := 2) (by omega) (by omega)
  exact ⟨_, a2, up2 n0 n1 (rL2_semvcsmake_Expr (M + 5) _ _ _ _ _ _ _ ⟨fun h => absurd h e2, fun _ => fk (M + 4) _ _ _ _ _ _ _ ⟨fun h => absurd h e3, fun _ => hW (M + 3) _ _ _ _ _ _ _ ⟨fun _ => ⟨_, _, _, g1, by omega, rfl, rfl, rfl⟩, fun h => absurd e4 h⟩⟩⟩), g3, by rw [tb0]; simp only [List.length_nil]; omega⟩
 have e5 : z = 5 := by omega
 obtain ⟨r, a2, g1, g2, g3⟩ := fB hd (n := 3) (by omega) (by omega)
 by_cases er : r = 0
 ·exact ⟨_, a2, up2 n0 n1 (rL2_semvcsmake_Expr (M + 5) _ _ _ _ _ _ _ ⟨fun h => absurd h e2, fun _ => fk (M + 4) _ _ _ _ _ _ _ ⟨fun h => absurd h e3, fun _ => hW (M + 3) _ _ _ _ _ _ _ ⟨fun h => absurd h e4, fun _ => kO (M + 2) _ _ _ _ _ _ _ ⟨fun _ => ⟨_, _, _, g1, fun _ => ⟨rfl, rfl, rfl⟩, fun h => absurd er h⟩, fun h => absurd e5 h⟩⟩⟩⟩), g3, by rw [tb0]; simp only [List.length_nil]; omega⟩
 ·exact ⟨_, a2, up2 n0 n1 (rL2_semvcsmake_Expr (M + 5) _ _ _ _ _ _ _ ⟨fun h => absurd h e2, fun _ => fk (M + 4) _ _ _ _ _ _ _ ⟨fun h => absurd h e3, fun _ => hW (M + 3) _ _ _ _ _ _ _ ⟨fun h => absurd h e4, fun _ => kO (M + 2) _ _ _ _ _ _ _ ⟨fun _ => ⟨_, _, _, g1, fun h => absurd h er, fun _ => ⟨rfl, rfl, rfl⟩⟩, fun h => absurd e5 h⟩⟩⟩⟩), g3, by rw [tb0]; simp⟩
theorem CM {L : List Int} {a : Int} (hd : Dc L a) : Gt L (fun t a' => aL L a 0 t L a') 6 := by
 obtain ⟨r, a1, h1, h2, h3⟩ := fB hd (n := 14) (by omega) (by omega)
 by_cases e1 : 5 < r
 ·by_cases e2 : 5 < r - 6
  ·exact (xk 0 (d := 0) h3 (z := 0) (by omega) (by omega)).map (Nat.le_refl _) fun t a' h => iE 8 _ _ _ _ _ _ ⟨_, _, _, h1, fun _ => ⟨fun _ => ⟨by omega, fun _ => h, fun h' => absurd e2 h'⟩, fun h' => absurd e1 h'⟩, fun h' => by omega⟩
  ·exact (xk 0 (d := 0) h3 (z := r - 6) (by omega) (by omega)).map (Nat.le_refl _) fun t a' h => iE 8 _ _ _ _ _ _ ⟨_, _, _, h1, fun _ => ⟨fun _ => ⟨by omega, fun h' => absurd h' e2, fun _ => h⟩, fun h' => absurd e1 h'⟩, fun h' => by omega⟩
 ·exact (xk 0 (d := 0) h3 (z := r) (by omega) (by omega)).map (Nat.le_refl _) fun t a' h => iE 8 _ _ _ _ _ _ ⟨_, _, _, h1, fun _ => ⟨fun h' => absurd h' e1, fun _ => h⟩, fun h' => by omega⟩
theorem wY {L : List Int} {k : Int} {B : Nat} {a : Int} (h : Gt L (fun t a' => aL L a k t L a') B) : Gt L (fun t a' => eK L a k t L a') (B + 1) := by
 obtain ⟨t, a2, g1, g2, g3⟩ := h
 cases hu : tS t.kind with
 | true => exact ⟨t, a2, pR 0 _ _ _ _ _ _ ⟨_, _, _, g1, _, vn _, fun h => absurd (hu.symm.trans h) (by decide), fun _ => ⟨rfl, rfl, rfl⟩⟩, g2, by omega⟩
 | false => exact ⟨_, a2, pR 0 _ _ _ _ _ _ ⟨_, _, _, g1, _, vn _, fun _ => ⟨rfl, rfl, rfl⟩, fun h => absurd (hu.symm.trans h) (by decide)⟩, g2, by rw [tb1]; simp only [List.length_nil]; omega⟩
theorem Ga : ∀ d, 6 ≤ eB d
 | 0 => Nat.le_refl _
 | d + 1 => by have := Ga d; simp only [eB]; omega
theorem LZ {L : List Int} : ∀ (d : Nat) {a : Int}, Dc L a → d ≤ 5 → Gt L (fun t a' => aL L a d t L a') (eB d) := fun d => by
 induction d with
 | zero => intro a hd _; exact CM hd
 | succ d ih =>
  intro a hd hd5
  obtain ⟨z, a1, h1, h2, h3⟩ := fB hd (n := 14) (by omega) (by omega)
  have top : ∀ {M t a'}, cr M ((d + 1 : Nat) : Int) L a1 z t L a' → aL L a ((d + 1 : Nat) : Int) t L a' := fun {M} {t} {a'} h => iE M _ _ _ _ _ _ ⟨_, _, _, h1, fun h' => by omega, fun _ => h⟩
  have sub : ∀ {a}, Dc L a → Gt L (fun t a' => aL L a (((d + 1 : Nat) : Int) - 1) t L a') (eB d) := fun {a} h => by rw [show ((d + 1 : Nat) : Int) - 1 = (d : Int) by omega]; exact ih h (by omega)
  have hB : eB (d + 1) = 3 * eB d + 20 := rfl
  have hp := Ga d
  by_cases c5 : z ≤ 5
  ·exact (xk 0 (d := ((d + 1 : Nat) : Int)) h3 (by omega) c5).map (by omega) fun t a' h => top h
  have n0 : z ≠ 0 := by omega
  have n1 : z ≠ 1 := by omega
  have n2 : z ≠ 2 := by omega
  have n3 : z ≠ 3 := by omega
  have n4 : z ≠ 4 := by omega
  have n5 : z ≠ 5 := by omega
  by_cases c7 : z ≤ 7
  · -- a call
   obtain ⟨s, a2, g1, g2, g3⟩ := jD h3 [[102], [103], [104], [65, 46, 102], [66, 46, 103], [65, 46, 104]] (by decide) (by decide)
   have hs := iC g2 (by decide)
   obtain ⟨n, a3, g4, g5, g6⟩ := fB g3 (n := 4) (by omega) (by omega)
   have loop : ∀ (k : Nat) (a : Int) (l : List Tree), Dc L a → l.length + k ≤ 100 → Gt L (fun t a' => ic (k + 1) ((d + 1 : Nat) : Int) s L a l (k : Int) t L a') (s.length + 1 + kbulk l + k * (eB d + 1)) := fun k => by
    induction k with
    | zero => intro a l hd hl; exact ⟨_, a, oA 0 _ _ _ _ _ _ _ _ _ ⟨fun h => by omega, fun _ => ⟨rfl, rfl, rfl⟩⟩, hd, by rw [tbK]; omega⟩
    | succ k ihk =>
     intro a l hd hl
     obtain ⟨t, b, q1, q2, q3⟩ := sub hd
     refine (ihk b (l ++ [.node 17 [] [] [t]]) q2 (by simp; omega)).map ?_ fun t' a' h => oA (k + 1) _ _ _ _ _ _ _ _ _ ⟨fun _ => ⟨by omega, _, _, _, q1, by simp; omega, by omega, by rw [show ((k + 1 : Nat) : Int) - 1 = (k : Int) by omega]; exact h⟩, fun h => by omega⟩
     rw [fE, Nat.succ_mul]; simp only [kbulk, tb1, List.length_nil]
     omega
   refine (loop n.toNat a3 [] g6 (by simp; omega)).map (by
    have : n.toNat * (eB d + 1) ≤ 3 * (eB d + 1) := Nat.mul_le_mul_right _ (by omega)
    simp only [kbulk]; omega) fun t a' h => ?_
   have h8 : lu (n.toNat + 2) ((d + 1 : Nat) : Int) L a1 t L a' := uC (n.toNat + 1) _ _ _ _ _ _ ⟨_, _, _, g1, _, _, _, g4, by rw [show n = ((n.toNat : Nat) : Int) by omega]; exact h⟩
   refine top (up2 n0 n1 (up6 n2 n3 n4 n5 (rL6_semvcsmake_Expr (n.toNat + 3) _ _ _ _ _ _ _ ⟨fun _ => kJ (n.toNat + 2) _ _ _ _ _ _ _ _ ⟨fun _ => h8, fun h => nomatch h⟩, fun h => kJ (n.toNat + 2) _ _ _ _ _ _ _ _ ⟨fun _ => h8, fun h' => ?_⟩⟩)))
   have : z ≠ 7 := by simpa using h'
   omega
  have n6 : z ≠ 6 := by omega
  have n7 : z ≠ 7 := by omega
  have t9 : ∀ {M t a'}, fx M ((d + 1 : Nat) : Int) L a1 z t L a' → aL L a ((d + 1 : Nat) : Int) t L a' := fun h => top (up2 n0 n1 (up6 n2 n3 n4 n5 (up9 n6 n7 h)))
  by_cases c8 : z = 8
  · -- a list
   obtain ⟨n, a3, g4, g5, g6⟩ := fB h3 (n := 3) (by omega) (by omega)
   have loop : ∀ (k : Nat) (a : Int) (l : List Tree), Dc L a → l.length + k ≤ 100 → Gt L (fun t a' => ig (k + 1) ((d + 1 : Nat) : Int) L a l (k : Int) t L a') (1 + kbulk l + k * (eB d)) := fun k => by
    induction k with
    | zero => intro a l hd hl; exact ⟨_, a, oG 0 _ _ _ _ _ _ _ _ ⟨fun h => by omega, fun _ => ⟨rfl, rfl, rfl⟩⟩, hd, by rw [tbK]; simp only [List.length_nil]; omega⟩
    | succ k ihk =>
     intro a l hd hl
     obtain ⟨t, b, q1, q2, q3⟩ := sub hd
     refine (ihk b (l ++ [t]) q2 (by simp; omega)).map ?_ fun t' a' h => oG (k + 1) _ _ _ _ _ _ _ _ ⟨fun _ => ⟨by omega, _, _, _, q1, by simp; omega, by omega, by rw [show ((k + 1 : Nat) : Int) - 1 = (k : Int) by omega]; exact h⟩, fun h => by omega⟩
     rw [fE, Nat.succ_mul]; simp only [kbulk]
     omega
   exact (loop (1 + n).toNat a3 [] g6 (by simp; omega)).map (by
    have : (1 + n).toNat * eB d ≤ 3 * eB d := Nat.mul_le_mul_right _ (by omega)
    simp only [kbulk]; omega) fun t a' h => t9 (oP ((1 + n).toNat + 1) _ _ _ _ _ _ _ ⟨fun _ => ⟨_, _, _, g4, by omega, by rw [show (((1 + n).toNat : Nat) : Int) = 1 + n by omega] at h; exact h⟩, fun h' => absurd c8 h'⟩)
  by_cases c9 : z = 9
  ·obtain ⟨t1, b1, q1, r1, s1⟩ := sub h3
   obtain ⟨t2, b2, q2, r2, s2⟩ := sub r1
   obtain ⟨t3, b3, q3, r3, s3⟩ := sub r2
   exact ⟨_, b3, t9 (KC c8 (ot 1 _ _ _ _ _ _ _ ⟨fun _ => tH 0 _ _ _ _ _ _ ⟨by omega, _, _, _, q1, by omega, _, _, _, q2, by omega, _, _, _, q3, rfl, rfl, rfl⟩, fun h => absurd c9 h⟩)), r3, by rw [tb3]; simp only [List.length_nil]; omega⟩
  have t14 : ∀ {M t a'}, fh M ((d + 1 : Nat) : Int) L a1 z t L a' → aL L a ((d + 1 : Nat) : Int) t L a' := fun h => t9 (KC c8 (Np c9 h))
  by_cases c11 : z ≤ 11
  ·obtain ⟨s, b0, g1, g2, g3⟩ := jD h3 [[120], [121], [122]] (by decide) (by decide)
   have hs := iC g2 (by decide)
   obtain ⟨t1, b1, q1, r1, s1⟩ := sub g3
   obtain ⟨t2, b2, q2, r2, s2⟩ := sub r1
   refine ⟨.node 20 s [] [t1, t2], b2, ?_, r2, by rw [tb2]; omega⟩
   have h16 : kS 1 ((d + 1 : Nat) : Int) L a1 (.node 20 s [] [t1, t2]) L b2 := tl 0 _ _ _ _ _ _ ⟨_, _, _, g1, by omega, _, _, _, q1, by omega, _, _, _, q2, rfl, rfl, rfl⟩
   refine t14 (rL14_semvcsmake_Expr 2 _ _ _ _ _ _ _ ⟨fun _ => kp 1 _ _ _ _ _ _ _ _ ⟨fun _ => h16, fun h => nomatch h⟩, fun h => kp 1 _ _ _ _ _ _ _ _ ⟨fun _ => h16, fun h' => ?_⟩⟩)
   have : z ≠ 11 := by simpa using h'
   omega
  have t17 : ∀ {M t a'}, ie M ((d + 1 : Nat) : Int) L a1 z t L a' → aL L a ((d + 1 : Nat) : Int) t L a' := fun h => t14 (NM (by omega) (by omega) h)
  by_cases c12 : z = 12
  ·obtain ⟨s, b0, g1, g2, g3⟩ := jD h3 [[43], [45], [42], [60], [61, 61]] (by decide) (by decide)
   have hs := iC g2 (by decide)
   obtain ⟨t1, b1, q1, r1, s1⟩ := wY (sub g3)
   obtain ⟨n, b2, q2, q3, q4⟩ := fB r1 (n := 3) (by omega) (by omega)
   by_cases hn : n = 0
   ·obtain ⟨s', b3, g4, g5, g6⟩ := jD q4 [[43], [42]] (by decide) (by decide)
    have hs' := iC g5 (by decide)
    obtain ⟨t2, b4, q5, r5, s5⟩ := wY (CM g6)
    obtain ⟨t3, b5, q6, r6, s6⟩ := wY (sub r5)
    exact ⟨_, b5, t17 (kn 1 _ _ _ _ _ _ _ ⟨fun _ => oF 0 _ _ _ _ _ _ ⟨_, _, _, g1, by omega, _, _, _, q1, _, _, _, q2, fun _ => ⟨_, _, _, g4, _, _, _, q5, by omega, _, _, _, q6, rfl, rfl, rfl⟩, fun h => absurd hn h⟩, fun h => absurd c12 h⟩), r6, by rw [tb2, tb2]; omega⟩
   ·obtain ⟨t3, b5, q6, r6, s6⟩ := wY (sub q4)
    exact ⟨_, b5, t17 (kn 1 _ _ _ _ _ _ _ ⟨fun _ => oF 0 _ _ _ _ _ _ ⟨_, _, _, g1, by omega, _, _, _, q1, _, _, _, q2, fun h => absurd h hn, fun _ => ⟨by omega, _, _, _, q6, rfl, rfl, rfl⟩⟩, fun h => absurd c12 h⟩), r6, by rw [tb2]; omega⟩
  ·obtain ⟨t1, b1, q1, r1, s1⟩ := sub h3
   exact ⟨_, b1, t17 (kn 1 _ _ _ _ _ _ _ ⟨fun h => absurd h c12, fun _ => ⟨by omega, _, _, _, q1, rfl, rfl, rfl⟩⟩), r1, by rw [tb1]; simp only [List.length_nil]; omega⟩
open Go.RowKit Lx
def jV : Bool → List UInt8 → Bool
 | c, [] => c
 | c, x :: r => jV (if x.toNat = 10 then false else if x.toNat = 35 then true else c) r
theorem om : ∀ (b : Bool) (l : List UInt8) (n m : Nat), aI b l (n + m) = ((aI b l n).1 + m, (aI b l n).2.map (· + m))
 | b, [], n, m => by cases b <;> simp [aI]
 | false, c :: r, n, m => by
  have h1 := om false r (n + 1) m
  have h2 := om true r (n + 1) m
  unfold aI
  split
  ·rw [← h1]; congr 1; omega
  ·split
   ·rw [← h2]; congr 1; omega
   ·simp
 | true, c :: r, n, m => by
  have h1 := om false r (n + 1) m
  have h2 := om true r (n + 1) m
  unfold aI
  split
  ·rw [← h1]; congr 1; omega
  ·split
   ·simp
   ·rw [← h2]; congr 1; omega
def kD (c : Bool) (l : List UInt8) : Bool := (aI c l 0).2.isNone && (aI c l 0).1 == l.length
theorem py {c d : Bool} {x : UInt8} {r : List UInt8} (h : aI c (x :: r) 0 = aI d r 1) : kD c (x :: r) = kD d r := by
 unfold kD
 rw [h, show (1 : Nat) = 0 + 1 from rfl, om]
 simp
theorem xu : ∀ (l : List UInt8) (c fin : Bool), it c l fin = (kD c l && (!jV c l || fin))
 | [], c, fin => by cases c <;> cases fin <;> rfl
 | x :: r, c, fin => by
  have ih := xu r
  unfold it jV
  cases c with
  | true =>
   by_cases ha : aR x = false
   ·have h10 : ¬ x.toNat = 10 := fun h => by simp [aR, bR, h] at ha
    have : kD true (x :: r) = false := by simp [kD, aI, h10, ha]
    rw [if_pos ha, this]; rfl
   ·have ha' : aR x = true := by simpa using ha
    rw [if_neg ha, if_pos rfl, ih]
    by_cases h10 : x.toNat = 10
    ·rw [py (d := false) (by simp [aI, h10])]; simp [h10]
    ·have hb : (x.toNat == 10) = false := by simpa using h10
     rw [py (d := true) (by simp [aI, h10, ha']), hb]; simp [h10]
  | false =>
   by_cases ha : aR x = false
   ·have hw : bR x = false := by cases h : bR x <;> simp_all [aR]
    have h35 : ¬ x.toNat = 35 := fun h => by simp [aR, dJ, h] at ha
    have : kD false (x :: r) = false := by simp [kD, aI, hw, h35]
    rw [if_pos ha, this]; rfl
   ·rw [if_neg ha, if_neg (by simp)]
    by_cases h35 : x.toNat = 35
    ·have hw : bR x = false := by simp [bR, h35]
     rw [if_pos h35, ih, py (d := true) (by simp [aI, h35, hw])]; simp [h35]
    ·rw [if_neg h35]
     by_cases hw : bR x = false
     ·have : kD false (x :: r) = false := by simp [kD, aI, hw, h35]
      rw [if_pos hw, this]; rfl
     ·have hw' : bR x = true := by simpa using hw
      rw [if_neg hw, ih, py (d := false) (by simp [aI, hw'])]
      by_cases h10 : x.toNat = 10 <;> simp [h10, h35]
theorem zx {l : List UInt8} {k : Nat} {x : UInt8} {c : Bool} (h : k < l.length) (hc : l[k] = x) : jV c (l.drop k) = jV (if x.toNat = 10 then false else if x.toNat = 35 then true else c) (l.drop (k + 1)) := by
 rw [List.drop_eq_getElem_cons h, hc]; rfl
theorem An {l : List UInt8} {k : Nat} {c : Bool} (h : l.length ≤ k) : jV c (l.drop k) = c := by
 rw [List.drop_of_length_le h]; rfl
set_option maxHeartbeats 1000000 in
theorem Kt (l : List UInt8) (fin : Bool) (w : World) (hl : l.length ≤ 281474976710656) : Calls Tryz.prog 152 #[.string ⟨l.toArray⟩, .bool fin] w fun e w' => e = .returned (.bool (it false l fin)) ∧ w = w' := by
  obtain ⟨n, b, hLd⟩ : ∃ n b, aI false l 0 = (n, b) := ⟨_, _, rfl⟩
  have hnl : n ≤ l.length := by have h := pf false l 0; rw [hLd] at h; simpa using h
  have HLd := Lib.hid hLd
  have HW := Lib.hid (show kD false l = (b.isNone && n == l.length) from by rw [kD, hLd])
  have HT := Lib.hid (xu l false fin)
  clear hLd
  go_enter Tryz.func152, Tryz.ntmps152
  go_wp2_with fail
  refine (Jk l 0 0 rfl _ (Nat.zero_le _) hl).mono ?_
  rintro e w' ⟨rfl, rfl⟩
  rw [List.drop_zero, HLd.out]
  cases b with
  | some q =>
    have hq2 : wj 0 (some q) = ((0 + q : Nat) : Int) := rfl
    rw [hq2, Nat.zero_add]
    have hq : (0 : Int) ≤ (q : Int) := by omega
    have HF := Lib.hid (show it false l fin = false from by rw [HT.out, HW.out]; rfl)
    go_wp2
    go_ret
    exact ⟨bx HF.out.symm, rfl⟩
  | none =>
    have hq2 : wj 0 none = -1 := rfl
    rw [hq2]
    clear hq2
    by_cases hn : n < l.length
    · have HF := Lib.hid (show it      false l fin = false from by rw [HT.out, HW.out]; have : (n == l.length) = false := by simp; omega
                                                                   rw [this]; rfl)
      go_wp2
      go_ret
      exact ⟨bx HF.out.symm, rfl⟩
    · have hnb : decide (n < l.length) = false := by simpa using hn
      have HF := Lib.hid (show it false l fin = (!jV false l || fin) from by
        rw [HT.out, HW.out]; have : (n == l.length) = true := by simp; omega
        rw [this]; rfl)
      cases fin with
      | true =>
        go_wp2
        go_ret
        exact ⟨bx (by rw [HF.out]; simp), rfl⟩
      | false =>
        obtain ⟨r, hr⟩ : ∃ r, jV false l = r := ⟨_, rfl⟩
        have HR := Lib.hid hr; clear hr
        go_wp2
        go_loopg [7, 8] l.length (fun g s7 s8 wx => ∃ (i : Nat) (c : Bool), g = l.length - i ∧ wx = w ∧ i ≤ l.length ∧ s7 = .bool c ∧ s8 = .int .i64 i ∧ Hid (jV c (l.drop i) = r))
        case atStart => exact ⟨0, false, rfl, rfl, Nat.zero_le _, rfl, rfl, Lib.hid (by simpa using HR.out)⟩
        case round =>
          obtain ⟨i, c, rfl, rfl, hil, rfl, rfl, HC⟩ := hrel
          by_cases hit : i < l.length
          rotate_left
          · have HF2 := Lib.hid (show c = r from by rw [← HC.out, An (by omega)])
            go_wp2_with fail
            go_ret
            exact ⟨bx (by rw [HF.out, HR.out, HF2.out]; simp), rfl⟩
          obtain ⟨x, hx⟩ : ∃ c, ({ data := l.toArray } : ByteArray)[i]'hit = c := ⟨_, rfl⟩
          have HXi := Lib.hid (show l[i] = x from hx)
          have HS := Lib.hid (HC.out.symm.trans (zx hit HXi.out))
          clear HC
          cases h35 : ((x.toNat : Int) == 35) <;> cases h10 : ((x.toNat : Int) == 10)
          · go_wp2
            go_roundg (l.length - (i + 1))
            case measure => omega
            case rel => exact ⟨i + 1, c, rfl, rfl, by omega, rfl, by go_num, Lib.hid (by rw [HS.out, if_neg (bT (m := 10) h10), if_neg (bT (m := 35) h35)])⟩
          · go_wp2
            go_roundg (l.length - (i + 1))
            case measure => omega
            case rel => exact ⟨i + 1, false, rfl, rfl, by omega, rfl, by go_num, Lib.hid (by rw [HS.out, if_pos (dn (m := 10) h10)])⟩
          · go_wp2
            go_roundg (l.length - (i + 1))
            case measure => omega
            case rel => exact ⟨i + 1, true, rfl, rfl, by omega, rfl, by go_num, Lib.hid (by rw [HS.out, if_neg (bT (m := 10) h10), if_pos (dn (m := 35) h35)])⟩
          · have h1 := dn (m := 10) h10
            have h2 := dn (m := 35) h35
            omega
theorem HY (a b : List UInt8) : (ByteArray.mk a.toArray) ++ (ByteArray.mk b.toArray) = ⟨(a ++ b).toArray⟩ := by
 apply ByteArray.ext; simp
theorem yL {a b : List UInt8} (h : bm a = 0 ∨ bm b = 0) : fusesT a b = false := by simp [fusesT, h]
theorem qR {a b : List UInt8} (h : ¬ (bm a = 0 ∨ bm b = 0)) (h2 : ¬ ((scan (a ++ b)).err = 0 ∧ (scan (a ++ b)).toks.length = 2 ∧ (scan (a ++ b)).tail = [])) : fusesT a b = true := by
 unfold fusesT; rw [if_neg h]; simp only; rw [if_neg h2]
theorem Eh {a b : List UInt8} {t0 t1 : TokZ} (h : ¬ (bm a = 0 ∨ bm b = 0)) (h1 : (scan (a ++ b)).err = 0) (h2 : (scan (a ++ b)).toks = [t0, t1]) (h3 : (scan (a ++ b)).tail = []) :
  fusesT a b = !(t0.lead == [] && t0.text == a && t1.lead == [] && t1.text == b) := by
 unfold fusesT; rw [if_neg h]; simp only; rw [h1, h2, h3]; simp
theorem EK {l : List UInt8} {b : Bool} (h : (l == []) = b) : l.isEmpty = b := by rw [← h]; cases l <;> rfl
theorem Bo {l : List TokZ} (h : l.length = 2) : ∃ t0 t1, l = [t0, t1] := by
 match l, h with
 | [a, b], _ => exact ⟨a, b, rfl⟩
set_option maxHeartbeats 2000000 in
theorem Lj (a b : List UInt8) (w : World) (ha : a.length ≤ 140737488355328) (hb : b.length ≤ 140737488355328) : Calls Tryz.prog 114 #[.string ⟨a.toArray⟩, .string ⟨b.toArray⟩] w fun e w' => e = .returned (.bool (fusesT a b)) ∧ Ext w w' := by
 have hx := HY
 obtain ⟨ka, hka⟩ : ∃ k, bm a = k := ⟨_, rfl⟩
 obtain ⟨kb, hkb⟩ : ∃ k, bm b = k := ⟨_, rfl⟩
 have HKa := Lib.hid hka
 have HKb := Lib.hid hkb
 clear hka hkb
 go_enter Tryz.func114, Tryz.ntmps114
 go_wp2_with fail
 refine (zR _ _ (by omega)).mono ?_
 rintro e1 w1 ⟨rfl, hx1⟩
 rw [HKa.out]
 have HX1 := Lib.hid hx1; clear hx1
 by_cases h1 : ka = 0
 ·subst h1
  go_wp2_with fail
  go_ret
  exact ⟨bx (yL (.inl HKa.out)).symm, HX1.out⟩
 have h1b : ((ka : Int) == 0) = false := by simp; omega
 go_wp2_with fail
 refine (zR _ _ (by omega)).mono ?_
 rintro e2 w2 ⟨rfl, hx2⟩
 rw [HKb.out]
 have HX2 := Lib.hid (HX1.out.trans hx2); clear hx2
 by_cases h2 : kb = 0
 ·subst h2
  go_wp2_with fail
  go_ret
  exact ⟨bx (yL (.inr HKb.out)).symm, HX2.out⟩
 have h2b : ((kb : Int) == 0) = false := by simp; omega
 have HN := Lib.hid (show ¬ (bm a = 0 ∨ bm b = 0) from by rw [HKa.out, HKb.out]; omega)
 obtain ⟨Rs, hRs⟩ : ∃ Rs, scan (a ++ b) = Rs := ⟨_, rfl⟩
 have HRs := Lib.hid hRs
 clear hRs
 go_wp2_with fail
 refine (Nd _ _ (by simp; omega)).mono ?_
 rintro e3 w3 ⟨v, rfl, htr, hx3⟩
 rw [HRs.out] at htr ⊢
 obtain ⟨A, c, rfl, hc1, hc2, hrow⟩ := htr
 unfold maxLen at hc2
 have HX3 := Lib.hid (HX2.out.trans hx3); clear hx3
 have HRow := Lib.hid hrow; clear hrow
 obtain ⟨toks, tail, place, er⟩ := Rs
 simp only at HRow hc1 hc2 ⊢
 by_cases h3 : er = 0
 rotate_left
 ·have h3b : ((er : Int) != 0) = true := by simp; omega
  have HF := Lib.hid (qR HN.out (fun h => h3 (by rw [HRs.out] at h; exact h.1)))
  go_wp2_with fail
  go_ret
  exact ⟨bx HF.out.symm, HX3.out⟩
 subst h3
 by_cases h4 : toks.length = 2
 rotate_left
 ·have h4b : ((toks.length : Int) != 2) = true := by simp; omega
  have HF := Lib.hid (qR HN.out (fun h => h4 (by rw [HRs.out] at h; exact h.2.1)))
  go_wp2_with fail
  go_ret
  exact ⟨bx HF.out.symm, HX3.out⟩
 by_cases h5 : tail = []
 rotate_left
 ·have h5b : (tail == []) = false := by simpa using h5
  have h5c : tail.isEmpty = false := by simpa using h5
  obtain ⟨t0, t1, rfl⟩ := Bo h4
  have HF := Lib.hid (qR HN.out (fun h => h5 (by rw [HRs.out] at h; exact h.2.2)))
  clear h5 h4
  go_wp2_with fail
  go_ret
  exact ⟨bx HF.out.symm, HX3.out⟩
 subst h5
 obtain ⟨t0, t1, rfl⟩ := Bo h4
 clear h4
 obtain ⟨b0, off, rfl, hb0, p0, p1, p2⟩ := zm HRow.out (k := 0) (by simp)
 obtain ⟨b0', off', heq, _, q0, q1, q2⟩ := zm HRow.out (k := 1) (by simp)
 obtain ⟨rfl, rfl⟩ : b0 = b0' ∧ off = off' := by simpa using heq
 clear heq
 have HF := Lib.hid (Eh HN.out (by rw [HRs.out]) (by rw [HRs.out]) (by rw [HRs.out]))
 simp only [Nat.zero_mul, Nat.one_mul, Nat.add_zero, List.getElem_cons_zero, List.getElem_cons_succ] at p0 p1 p2 q0 q1 q2
 cases g1 : (t0.text == a)
 ·skip
  go_wp2_with fail
  go_ret
  exact ⟨bx (by rw [HF.out, g1]; simp), HX3.out⟩
 cases g0 : (t0.lead == [])
 ·skip
  have g0' : t0.lead.isEmpty = false := by simpa using g0
  go_wp2_with fail
  go_ret
  exact ⟨bx (by rw [HF.out, g1, g0]; simp), HX3.out⟩
 have g0' : t0.lead.isEmpty = true := by simpa using g0
 cases g3 : (t1.text == b)
 ·skip
  go_wp2_with fail
  go_ret
  exact ⟨bx (by rw [HF.out, g1, g0, g3]; simp), HX3.out⟩
 cases g2 : (t1.lead == [])
 all_goals
  have g2' := EK g2
  go_wp2_with fail
  go_ret
  exact ⟨bx (by rw [HF.out, g1, g0, g3, g2]; simp), HX3.out⟩
theorem IA (a b : List UInt8) (ha : a.length ≤ 140737488355328) (hb : b.length ≤ 140737488355328) : oR a b (fusesT a b) := sum0_calls rfl rfl fun S w ρ xs hx => by
 simp only [LRel] at hx
 obtain ⟨x, ys, rfl, h1, y, zs, rfl, h2, rfl⟩ := hx
 simp only [VRel] at h1 h2; subst h1 h2
 exact (Lj a b w ha hb).mono fun e w' ⟨h1, h2⟩ => ⟨_, h1, by simp only [VRel], Dq h2⟩
theorem yT (a : List UInt8) (f : Bool) (ha : a.length ≤ 140737488351232) : jT a f (it false a f) := sum0_calls rfl rfl fun S w ρ xs hx => by
 simp only [LRel] at hx
 obtain ⟨x, ys, rfl, h1, y, zs, rfl, h2, rfl⟩ := hx
 simp only [VRel] at h1 h2; subst h1 h2
 exact (Kt a f w (by omega)).mono fun e w' ⟨h1, h2⟩ => ⟨_, h1, by simp only [VRel], h2 ▸ Chg.refl _ _⟩
abbrev Pce := aa
def Qp (l : List Pce) : Prop := ∀ x ∈ l, x.Lead.length ≤ 1000000 ∧ x.Text.length ≤ 1000010
theorem bZ {a b : List Pce} : Qp (a ++ b) ↔ Qp a ∧ Qp b := ⟨fun h => ⟨fun x hx => h x (by simp [hx]), fun x hx => h x (by simp [hx])⟩, fun h x hx => by rcases List.mem_append.1 hx with h1 | h1; exact h.1 x h1; exact h.2 x h1⟩
theorem bE {x : Pce} {a : List Pce} : Qp (x :: a) ↔ (x.Lead.length ≤ 1000000 ∧ x.Text.length ≤ 1000010) ∧ Qp a := ⟨fun h => ⟨h x (by simp), fun y hy => h y (by simp [hy])⟩, fun h y hy => by rcases List.mem_cons.1 hy with h1 | h1; subst h1; exact h.1; exact h.2 y h1⟩
theorem bQ : Qp [] := fun x hx => by cases hx
theorem bj {t : Tree} (k : Nat) (ht : tbulk t ≤ 1000000) : ∃ s, ao t (k : Int) s ∧ s.length ≤ 1000000 := by
 by_cases h : (k : Int) < (t.leads.length : Nat)
 ·obtain ⟨s, hs, _⟩ | h' := bb t.leads k
  ·have := wO hs
   have := aW t
   exact ⟨s, oQ 0 _ _ _ ⟨fun _ => ⟨k, rfl, s, hs, rfl⟩, fun h' => absurd h h'⟩, by omega⟩
  ·omega
 ·exact ⟨[], oQ 0 _ _ _ ⟨fun h' => absurd h' h, fun _ => rfl⟩, by simp⟩
def Pok (t : Tree) : Prop := ∀ l, l.length + 8 * tbulk t ≤ 900000000 → ∃ r, aq l t r ∧ r.length + 1 ≤ l.length + 8 * tbulk t ∧ (Qp l → Qp r)
theorem wc {k n : Int} : ∀ {l : List Tree} {i : Nat}, shapeKs k n i l = true → ∀ j u, l[j]? = some u → gb k n ((i + j : Nat) : Int) u.kind = true ∧ shapeK u = true
 | [], _, _, j, u, h => by simp at h
 | t :: r, i, hs, 0, u, h => by
  simp only [shapeKs, Bool.and_eq_true] at hs
  simp at h; subst h
  exact ⟨hs.1.1, hs.1.2⟩
 | t :: r, i, hs, j + 1, u, h => by
  simp only [shapeKs, Bool.and_eq_true] at hs
  have := wc hs.2 j u (by simpa using h)
  rw [show i + 1 + j = i + (j + 1) by omega] at this
  exact this
theorem yQ {t u : Tree} {i : Nat} (hs : shapeK t = true) (hu : t.kids[i]? = some u) : shapeK u = true ∧ gb t.kind t.kids.length i u.kind = true := by
 rw [bG] at hs
 simp only [Bool.and_eq_true] at hs
 have := wc hs.2 i u hu
 rw [Nat.zero_add] at this
 exact ⟨this.2, this.1⟩
theorem rG {t : Tree} (hs : shapeK t = true) : 0 ≤ dm t.kind t.kids.length := by
 rw [bG] at hs
 simp only [Bool.and_eq_true, decide_eq_true_eq] at hs
 exact hs.1.1
theorem gc {t : Tree} (hs : shapeK t = true) : (t.kind = 2 → 2 ≤ t.kids.length) ∧ (t.kind = 18 → 1 ≤ t.kids.length) ∧ (t.kind = 3 ∨ t.kind = 4 ∨ t.kind = 8 ∨ t.kind = 17 ∨ t.kind = 22 → t.kids.length = 1) ∧ (t.kind = 19 → t.kids.length = 3) ∧ (t.kind = 20 ∨ t.kind = 21 → t.kids.length = 2) := by
 have h := rG hs
 refine ⟨fun hk => ?_, fun hk => ?_, fun hk => ?_, fun hk => ?_, fun hk => ?_⟩
 ·rw [hk] at h; simp only [dm, f0] at h; simp at h; omega
 ·rw [hk] at h; simp only [dm, f0] at h; simp at h; omega
 ·rcases hk with hk | hk | hk | hk | hk <;> (rw [hk] at h; simp only [dm, f0] at h; simp at h; omega)
 ·rw [hk] at h; simp only [dm, f0] at h; simp at h; omega
 ·rcases hk with hk | hk <;> (rw [hk] at h; simp only [dm, f0] at h; simp at h; omega)
theorem dn1 {l r : List Pce} {t : Tree} (M : Nat) (hk : t.kind ∉ [(1 : Int)]) (h : jv M l t r) : aq l t r := nB M _ _ _ ⟨fun e => absurd (by simp [e]) hk, fun _ => h⟩
theorem dn2 {l r : List Pce} {t : Tree} (M : Nat) (hk : t.kind ∉ [(1 : Int), 2]) (h : jK M l t r) : aq l t r := dn1 (M + 1) (fun e => hk (by simp only [List.mem_cons, List.not_mem_nil, or_false] at e ⊢; omega)) (mY M _ _ _ ⟨fun e => absurd (by simp [e]) hk, fun _ => h⟩)
theorem dn3 {l r : List Pce} {t : Tree} (M : Nat) (hk : t.kind ∉ [(1 : Int), 2, 3]) (h : jG M l t r) : aq l t r := dn2 (M + 1) (fun e => hk (by simp only [List.mem_cons, List.not_mem_nil, or_false] at e ⊢; omega)) (mO M _ _ _ ⟨fun e => absurd (by simp [e]) hk, fun _ => h⟩)
theorem dn4 {l r : List Pce} {t : Tree} (M : Nat) (hk : t.kind ∉ [(1 : Int), 2, 3, 4]) (h : jw M l t r) : aq l t r := dn3 (M + 1) (fun e => hk (by simp only [List.mem_cons, List.not_mem_nil, or_false] at e ⊢; omega)) (mG M _ _ _ ⟨fun e => absurd (by simp [e]) hk, fun _ => h⟩)
theorem dn5 {l r : List Pce} {t : Tree} (M : Nat) (hk : t.kind ∉ [(1 : Int), 2, 3, 4, 5]) (h : jI M l t r) : aq l t r := dn4 (M + 1) (fun e => hk (by simp only [List.mem_cons, List.not_mem_nil, or_false] at e ⊢; omega)) (mL M _ _ _ ⟨fun e => absurd (by simp [e]) hk, fun _ => h⟩)
theorem dn6 {l r : List Pce} {t : Tree} (M : Nat) (hk : t.kind ∉ [(1 : Int), 2, 3, 4, 5, 6]) (h : iS M l t r) : aq l t r := dn5 (M + 1) (fun e => hk (by simp only [List.mem_cons, List.not_mem_nil, or_false] at e ⊢; omega)) (mK M _ _ _ ⟨fun e => absurd (by simp [e]) hk, fun _ => h⟩)
theorem dn7 {l r : List Pce} {t : Tree} (M : Nat) (hk : t.kind ∉ [(1 : Int), 2, 3, 4, 5, 6, 7]) (h : iN M l t r) : aq l t r := dn6 (M + 1) (fun e => hk (by simp only [List.mem_cons, List.not_mem_nil, or_false] at e ⊢; omega)) (mr M _ _ _ ⟨fun e => absurd (by simp [e]) hk, fun _ => h⟩)
theorem dn8 {l r : List Pce} {t : Tree} (M : Nat) (hk : t.kind ∉ [(1 : Int), 2, 3, 4, 5, 6, 7, 13]) (h : iV M l t r) : aq l t r := dn7 (M + 1) (fun e => hk (by simp only [List.mem_cons, List.not_mem_nil, or_false] at e ⊢; omega)) (mu M _ _ _ ⟨fun e => absurd (by simp [e]) hk, fun _ => h⟩)
theorem dn9 {l r : List Pce} {t : Tree} (M : Nat) (hk : t.kind ∉ [(1 : Int), 2, 3, 4, 5, 6, 7, 13, 14]) (h : iX M l t r) : aq l t r := dn8 (M + 1) (fun e => hk (by simp only [List.mem_cons, List.not_mem_nil, or_false] at e ⊢; omega)) (mn M _ _ _ ⟨fun e => absurd (by simp [e]) hk, fun _ => h⟩)
theorem Lp {l r : List Pce} {t : Tree} (M : Nat) (hk : t.kind ∉ [(1 : Int), 2, 3, 4, 5, 6, 7, 13, 14, 15]) (h : iW M l t r) : aq l t r := dn9 (M + 1) (fun e => hk (by simp only [List.mem_cons, List.not_mem_nil, or_false] at e ⊢; omega)) (mb M _ _ _ ⟨fun e => absurd (by simp [e]) hk, fun _ => h⟩)
theorem LM {l r : List Pce} {t : Tree} (M : Nat) (hk : t.kind ∉ [(1 : Int), 2, 3, 4, 5, 6, 7, 13, 14, 15, 8]) (h : iO M l t r) : aq l t r := Lp (M + 1) (fun e => hk (by simp only [List.mem_cons, List.not_mem_nil, or_false] at e ⊢; omega)) (mm M _ _ _ ⟨fun e => absurd (by simp [e]) hk, fun _ => h⟩)
theorem LK {l r : List Pce} {t : Tree} (M : Nat) (hk : t.kind ∉ [(1 : Int), 2, 3, 4, 5, 6, 7, 13, 14, 15, 8, 16]) (h : jb M l t r) : aq l t r := LM (M + 1) (fun e => hk (by simp only [List.mem_cons, List.not_mem_nil, or_false] at e ⊢; omega)) (me M _ _ _ ⟨fun e => absurd (by simp [e]) hk, fun _ => h⟩)
theorem KM {l r : List Pce} {t : Tree} (M : Nat) (hk : t.kind ∉ [(1 : Int), 2, 3, 4, 5, 6, 7, 13, 14, 15, 8, 16, 17]) (h : iP M l t r) : aq l t r := LK (M + 1) (fun e => hk (by simp only [List.mem_cons, List.not_mem_nil, or_false] at e ⊢; omega)) (mv M _ _ _ ⟨fun e => absurd (by simp [e]) hk, fun _ => h⟩)
theorem LW {l r : List Pce} {t : Tree} (M : Nat) (hk : t.kind ∉ [(1 : Int), 2, 3, 4, 5, 6, 7, 13, 14, 15, 8, 16, 17, 18]) (h : iU M l t r) : aq l t r := KM (M + 1) (fun e => hk (by simp only [List.mem_cons, List.not_mem_nil, or_false] at e ⊢; omega)) (ml M _ _ _ ⟨fun e => absurd (by simp [e]) hk, fun _ => h⟩)
theorem Lc {l r : List Pce} {t : Tree} (M : Nat) (hk : t.kind ∉ [(1 : Int), 2, 3, 4, 5, 6, 7, 13, 14, 15, 8, 16, 17, 18, 19]) (h : iT M l t r) : aq l t r := LW (M + 1) (fun e => hk (by simp only [List.mem_cons, List.not_mem_nil, or_false] at e ⊢; omega)) (mg M _ _ _ ⟨fun e => absurd (by simp [e]) hk, fun _ => h⟩)
theorem Lo {l r : List Pce} {t : Tree} (M : Nat) (hk : t.kind ∉ [(1 : Int), 2, 3, 4, 5, 6, 7, 13, 14, 15, 8, 16, 17, 18, 19, 20]) (h : iY M l t r) : aq l t r := Lc (M + 1) (fun e => hk (by simp only [List.mem_cons, List.not_mem_nil, or_false] at e ⊢; omega)) (mt M _ _ _ ⟨fun e => absurd (by simp [e]) hk, fun _ => h⟩)
theorem Lr {l r : List Pce} {t : Tree} (M : Nat) (hk : t.kind ∉ [(1 : Int), 2, 3, 4, 5, 6, 7, 13, 14, 15, 8, 16, 17, 18, 19, 20, 21]) (h : iR M l t r) : aq l t r := Lo (M + 1) (fun e => hk (by simp only [List.mem_cons, List.not_mem_nil, or_false] at e ⊢; omega)) (ms M _ _ _ ⟨fun e => absurd (by simp [e]) hk, fun _ => h⟩)
theorem p_5 {t : Tree} (hk : t.kind = 5) (ht : tbulk t ≤ 1000000) : Pok t := fun l hl => by
 obtain ⟨s1, g1, b1⟩ := bj 0 ht
 have htp := bf t
 have M := 0
 refine ⟨l ++ [⟨s1, [73, 110, 116]⟩], ?_, by simp; omega, fun hq => by simp only [bZ, bE]; exact ⟨hq, ⟨b1, by decide⟩, bQ⟩⟩
 exact dn4 (M + 2) (by rw [hk]; decide) (mL (M + 1) _ _ _ ⟨fun _ => ⟨_, g1, by simp; omega, rfl⟩, fun h => absurd hk h⟩)
theorem p_6 {t : Tree} (hk : t.kind = 6) (ht : tbulk t ≤ 1000000) : Pok t := fun l hl => by
 obtain ⟨s1, g1, b1⟩ := bj 0 ht
 have htp := bf t
 have M := 0
 refine ⟨l ++ [⟨s1, [84, 101, 120, 116]⟩], ?_, by simp; omega, fun hq => by simp only [bZ, bE]; exact ⟨hq, ⟨b1, by decide⟩, bQ⟩⟩
 exact dn5 (M + 2) (by rw [hk]; decide) (mK (M + 1) _ _ _ ⟨fun _ => ⟨_, g1, by simp; omega, rfl⟩, fun h => absurd hk h⟩)
theorem p_7 {t : Tree} (hk : t.kind = 7) (ht : tbulk t ≤ 1000000) : Pok t := fun l hl => by
 obtain ⟨s1, g1, b1⟩ := bj 0 ht
 have htp := bf t
 have M := 0
 refine ⟨l ++ [⟨s1, [66, 111, 111, 108]⟩], ?_, by simp; omega, fun hq => by simp only [bZ, bE]; exact ⟨hq, ⟨b1, by decide⟩, bQ⟩⟩
 exact dn6 (M + 2) (by rw [hk]; decide) (mr (M + 1) _ _ _ ⟨fun _ => ⟨_, g1, by simp; omega, rfl⟩, fun h => absurd hk h⟩)
theorem Nw {t : Tree} (hk : t.kind = 13) (ht : tbulk t ≤ 1000000) : Pok t := fun l hl => by
 obtain ⟨s1, g1, b1⟩ := bj 0 ht
 have htp := bf t
 have M := 0
 refine ⟨l ++ [⟨s1, [116, 114, 117, 101]⟩], ?_, by simp; omega, fun hq => by simp only [bZ, bE]; exact ⟨hq, ⟨b1, by decide⟩, bQ⟩⟩
 exact dn7 (M + 2) (by rw [hk]; decide) (mu (M + 1) _ _ _ ⟨fun _ => ⟨_, g1, by simp; omega, rfl⟩, fun h => absurd hk h⟩)
theorem NL {t : Tree} (hk : t.kind = 14) (ht : tbulk t ≤ 1000000) : Pok t := fun l hl => by
 obtain ⟨s1, g1, b1⟩ := bj 0 ht
 have htp := bf t
 have M := 0
 refine ⟨l ++ [⟨s1, [102, 97, 108, 115, 101]⟩], ?_, by simp; omega, fun hq => by simp only [bZ, bE]; exact ⟨hq, ⟨b1, by decide⟩, bQ⟩⟩
 exact dn8 (M + 2) (by rw [hk]; decide) (mn (M + 1) _ _ _ ⟨fun _ => ⟨_, g1, by simp; omega, rfl⟩, fun h => absurd hk h⟩)
theorem Nn {t : Tree} (hk : t.kind = 15) (ht : tbulk t ≤ 1000000) : Pok t := fun l hl => by
 obtain ⟨s1, g1, b1⟩ := bj 0 ht
 have htp := bf t
 have M := 0
 refine ⟨l ++ [⟨s1, [63]⟩], ?_, by simp; omega, fun hq => by simp only [bZ, bE]; exact ⟨hq, ⟨b1, by decide⟩, bQ⟩⟩
 exact dn9 (M + 2) (by rw [hk]; decide) (mb (M + 1) _ _ _ ⟨fun _ => ⟨_, g1, by simp; omega, rfl⟩, fun h => absurd hk h⟩)
theorem tc {l : List Tree} {u : Tree} (h0 : l[0]? = some u) : tbulk u ≤ kbulk l := ct h0
theorem yu {l : List Tree} {u v : Tree} (h0 : l[0]? = some u) (h1 : l[1]? = some v) : tbulk u + tbulk v ≤ kbulk l := by
 match l, h0, h1 with
 | a :: r, h0, h1 => simp at h0; subst h0; have := ct (ks := r) (i := 0) (by simpa using h1); simp only [kbulk]; omega
theorem Kb {l : List Tree} {u v x : Tree} (h0 : l[0]? = some u) (h1 : l[1]? = some v) (h2 : l[2]? = some x) : tbulk u + tbulk v + tbulk x ≤ kbulk l := by
 match l, h0, h1, h2 with
 | a :: r, h0, h1, h2 => simp at h0; subst h0; have := yu (l := r) (by simpa using h1) (by simpa using h2); simp only [kbulk]; omega
theorem p_3 {t : Tree} (hk : t.kind = 3) (hs : shapeK t = true) (ht : tbulk t ≤ 1000000) (ih : ∀ (i : Nat) (u : Tree), t.kids[i]? = some u → Pok u) : Pok t := fun l hl => by
 have htp := bf t
 have htx := cv t
 have hn := gc hs
 have M := 0
 have hkn : t.kids.length = 1 := hn.2.2.1 (by simp [hk])
 obtain ⟨u0, hu0, _⟩ | h' := bb t.kids 0
 rotate_left
 ·omega
 have hsum : tbulk u0 + 1 ≤ tbulk t := by
  have hb := aW t
  have hx := tc hu0
  omega
 obtain ⟨s1, g1, b1⟩ := bj 0 ht
 obtain ⟨s2, g2, b2⟩ := bj 1 ht
 obtain ⟨s3, g3, b3⟩ := bj 2 ht
 have q1 : Qp l → Qp (l ++ [⟨s1, [116, 121, 112, 101]⟩, ⟨s2, t.text⟩, ⟨s3, [61]⟩]) := fun hq => by simp only [bZ, bE]; exact ⟨hq, ⟨b1, by decide⟩, ⟨b2, by omega⟩, ⟨b3, by decide⟩, bQ⟩
 obtain ⟨r0, e0, z0, y0⟩ := ih 0 u0 hu0 (l ++ [⟨s1, [116, 121, 112, 101]⟩, ⟨s2, t.text⟩, ⟨s3, [61]⟩]) (by first | omega | (simp only [List.length_append, List.length_cons, List.length_nil]; omega))
 try simp only [List.length_append, List.length_cons, List.length_nil] at z0
 refine ⟨r0, ?_, by first | omega | (simp only [List.length_append, List.length_cons, List.length_nil]; omega), fun hq => (y0 (q1 hq))⟩
 exact dn2 (M + 2) (by rw [hk]; decide) (mO (M + 1) _ _ _ ⟨fun _ => sn (M) _ _ _ ⟨_, g1, _, g2, _, g3, by simp; omega, u0, hu0, _, e0, rfl⟩, fun h => absurd hk h⟩)
theorem p_4 {t : Tree} (hk : t.kind = 4) (hs : shapeK t = true) (ht : tbulk t ≤ 1000000) (ih : ∀ (i : Nat) (u : Tree), t.kids[i]? = some u → Pok u) : Pok t := fun l hl => by
 have htp := bf t
 have htx := cv t
 have hn := gc hs
 have M := 0
 have hkn : t.kids.length = 1 := hn.2.2.1 (by simp [hk])
 obtain ⟨u0, hu0, _⟩ | h' := bb t.kids 0
 rotate_left
 ·omega
 have hsum : tbulk u0 + 1 ≤ tbulk t := by
  have hb := aW t
  have hx := tc hu0
  omega
 obtain ⟨s1, g1, b1⟩ := bj 0 ht
 obtain ⟨s2, g2, b2⟩ := bj 1 ht
 have q1 : Qp l → Qp (l ++ [⟨s1, t.text⟩, ⟨s2, [58]⟩]) := fun hq => by simp only [bZ, bE]; exact ⟨hq, ⟨b1, by omega⟩, ⟨b2, by decide⟩, bQ⟩
 obtain ⟨r0, e0, z0, y0⟩ := ih 0 u0 hu0 (l ++ [⟨s1, t.text⟩, ⟨s2, [58]⟩]) (by first | omega | (simp only [List.length_append, List.length_cons, List.length_nil]; omega))
 try simp only [List.length_append, List.length_cons, List.length_nil] at z0
 refine ⟨r0, ?_, by first | omega | (simp only [List.length_append, List.length_cons, List.length_nil]; omega), fun hq => (y0 (q1 hq))⟩
 exact dn3 (M + 2) (by rw [hk]; decide) (mG (M + 1) _ _ _ ⟨fun _ => sw (M) _ _ _ ⟨_, g1, _, g2, by simp; omega, u0, hu0, _, e0, rfl⟩, fun h => absurd hk h⟩)
theorem p_8 {t : Tree} (hk : t.kind = 8) (hs : shapeK t = true) (ht : tbulk t ≤ 1000000) (ih : ∀ (i : Nat) (u : Tree), t.kids[i]? = some u → Pok u) : Pok t := fun l hl => by
 have htp := bf t
 have htx := cv t
 have hn := gc hs
 have M := 0
 have hkn : t.kids.length = 1 := hn.2.2.1 (by simp [hk])
 obtain ⟨u0, hu0, _⟩ | h' := bb t.kids 0
 rotate_left
 ·omega
 have hsum : tbulk u0 + 1 ≤ tbulk t := by
  have hb := aW t
  have hx := tc hu0
  omega
 obtain ⟨s1, g1, b1⟩ := bj 0 ht
 have q1 : Qp l → Qp (l ++ [⟨s1, [91]⟩]) := fun hq => by simp only [bZ, bE]; exact ⟨hq, ⟨b1, by decide⟩, bQ⟩
 obtain ⟨r0, e0, z0, y0⟩ := ih 0 u0 hu0 (l ++ [⟨s1, [91]⟩]) (by first | omega | (simp only [List.length_append, List.length_cons, List.length_nil]; omega))
 try simp only [List.length_append, List.length_cons, List.length_nil] at z0
 obtain ⟨s2, g2, b2⟩ := bj 1 ht
 have q3 : Qp r0 → Qp (r0 ++ [⟨s2, [93]⟩]) := fun hq => by simp only [bZ, bE]; exact ⟨hq, ⟨b2, by decide⟩, bQ⟩
 refine ⟨(r0 ++ [⟨s2, [93]⟩]), ?_, by first | omega | (simp only [List.length_append, List.length_cons, List.length_nil]; omega), fun hq => (q3 (y0 (q1 hq)))⟩
 exact Lp (M + 2) (by rw [hk]; decide) (mm (M + 1) _ _ _ ⟨fun _ => rB (M) _ _ _ ⟨_, g1, by simp; omega, u0, hu0, _, e0, _, g2, by simp; omega, rfl⟩, fun h => absurd hk h⟩)
theorem Nl {t : Tree} (hk : t.kind = 17) (hs : shapeK t = true) (ht : tbulk t ≤ 1000000) (ih : ∀ (i : Nat) (u : Tree), t.kids[i]? = some u → Pok u) : Pok t := fun l hl => by
 have htp := bf t
 have htx := cv t
 have hn := gc hs
 have M := 0
 have hkn : t.kids.length = 1 := hn.2.2.1 (by simp [hk])
 obtain ⟨u0, hu0, _⟩ | h' := bb t.kids 0
 rotate_left
 ·omega
 have hsum : tbulk u0 + 1 ≤ tbulk t := by
  have hb := aW t
  have hx := tc hu0
  omega
 obtain ⟨r0, e0, z0, y0⟩ := ih 0 u0 hu0 l (by first | omega | (simp only [List.length_append, List.length_cons, List.length_nil]; omega))
 try simp only [List.length_append, List.length_cons, List.length_nil] at z0
 refine ⟨r0, ?_, by first | omega | (simp only [List.length_append, List.length_cons, List.length_nil]; omega), fun hq => (y0 hq)⟩
 exact LK (M + 2) (by rw [hk]; decide) (mv (M + 1) _ _ _ ⟨fun _ => ⟨u0, hu0, _, e0, rfl⟩, fun h => absurd hk h⟩)
theorem NB {t : Tree} (hk : t.kind = 19) (hs : shapeK t = true) (ht : tbulk t ≤ 1000000) (ih : ∀ (i : Nat) (u : Tree), t.kids[i]? = some u → Pok u) : Pok t := fun l hl => by
 have htp := bf t
 have htx := cv t
 have hn := gc hs
 have M := 0
 have hkn : t.kids.length = 3 := hn.2.2.2.1 hk
 obtain ⟨u0, hu0, _⟩ | h' := bb t.kids 0
 rotate_left
 ·omega
 obtain ⟨u1, hu1, _⟩ | h' := bb t.kids 1
 rotate_left
 ·omega
 obtain ⟨u2, hu2, _⟩ | h' := bb t.kids 2
 rotate_left
 ·omega
 have hsum : tbulk u0 + tbulk u1 + tbulk u2 + 1 ≤ tbulk t := by
  have hb := aW t
  have hx := Kb hu0 hu1 hu2
  omega
 obtain ⟨s1, g1, b1⟩ := bj 0 ht
 have q1 : Qp l → Qp (l ++ [⟨s1, [105, 102]⟩]) := fun hq => by simp only [bZ, bE]; exact ⟨hq, ⟨b1, by decide⟩, bQ⟩
 obtain ⟨r0, e0, z0, y0⟩ := ih 0 u0 hu0 (l ++ [⟨s1, [105, 102]⟩]) (by first | omega | (simp only [List.length_append, List.length_cons, List.length_nil]; omega))
 try simp only [List.length_append, List.length_cons, List.length_nil] at z0
 obtain ⟨s2, g2, b2⟩ := bj 1 ht
 have q3 : Qp r0 → Qp (r0 ++ [⟨s2, [116, 104, 101, 110]⟩]) := fun hq => by simp only [bZ, bE]; exact ⟨hq, ⟨b2, by decide⟩, bQ⟩
 obtain ⟨r1, e1, z1, y1⟩ := ih 1 u1 hu1 (r0 ++ [⟨s2, [116, 104, 101, 110]⟩]) (by first | omega | (simp only [List.length_append, List.length_cons, List.length_nil]; omega))
 try simp only [List.length_append, List.length_cons, List.length_nil] at z1
 obtain ⟨s3, g3, b3⟩ := bj 2 ht
 have q5 : Qp r1 → Qp (r1 ++ [⟨s3, [101, 108, 115, 101]⟩]) := fun hq => by simp only [bZ, bE]; exact ⟨hq, ⟨b3, by decide⟩, bQ⟩
 obtain ⟨r2, e2, z2, y2⟩ := ih 2 u2 hu2 (r1 ++ [⟨s3, [101, 108, 115, 101]⟩]) (by first | omega | (simp only [List.length_append, List.length_cons, List.length_nil]; omega))
 try simp only [List.length_append, List.length_cons, List.length_nil] at z2
 refine ⟨r2, ?_, by first | omega | (simp only [List.length_append, List.length_cons, List.length_nil]; omega), fun hq => (y2 (q5 (y1 (q3 (y0 (q1 hq))))))⟩
 exact LW (M + 2) (by rw [hk]; decide) (mg (M + 1) _ _ _ ⟨fun _ => ro (M) _ _ _ ⟨u0, hu0, _, g1, by simp; omega, _, e0, u1, hu1, _, g2, by simp; omega, _, e1, u2, hu2, _, g3, by simp; omega, _, e2, rfl⟩, fun h => absurd hk h⟩)
theorem Nz {t : Tree} (hk : t.kind = 20) (hs : shapeK t = true) (ht : tbulk t ≤ 1000000) (ih : ∀ (i : Nat) (u : Tree), t.kids[i]? = some u → Pok u) : Pok t := fun l hl => by
 have htp := bf t
 have htx := cv t
 have hn := gc hs
 have M := 0
 have hkn : t.kids.length = 2 := hn.2.2.2.2 (by simp [hk])
 obtain ⟨u0, hu0, _⟩ | h' := bb t.kids 0
 rotate_left
 ·omega
 obtain ⟨u1, hu1, _⟩ | h' := bb t.kids 1
 rotate_left
 ·omega
 have hsum : tbulk u0 + tbulk u1 + 1 ≤ tbulk t := by
  have hb := aW t
  have hx := yu hu0 hu1
  omega
 obtain ⟨s1, g1, b1⟩ := bj 0 ht
 obtain ⟨s2, g2, b2⟩ := bj 1 ht
 obtain ⟨s3, g3, b3⟩ := bj 2 ht
 have q1 : Qp l → Qp (l ++ [⟨s1, [108, 101, 116]⟩, ⟨s2, t.text⟩, ⟨s3, [61]⟩]) := fun hq => by simp only [bZ, bE]; exact ⟨hq, ⟨b1, by decide⟩, ⟨b2, by omega⟩, ⟨b3, by decide⟩, bQ⟩
 obtain ⟨r0, e0, z0, y0⟩ := ih 0 u0 hu0 (l ++ [⟨s1, [108, 101, 116]⟩, ⟨s2, t.text⟩, ⟨s3, [61]⟩]) (by first | omega | (simp only [List.length_append, List.length_cons, List.length_nil]; omega))
 try simp only [List.length_append, List.length_cons, List.length_nil] at z0
 obtain ⟨s4, g4, b4⟩ := bj 3 ht
 have q3 : Qp r0 → Qp (r0 ++ [⟨s4, [105, 110]⟩]) := fun hq => by simp only [bZ, bE]; exact ⟨hq, ⟨b4, by decide⟩, bQ⟩
 obtain ⟨r1, e1, z1, y1⟩ := ih 1 u1 hu1 (r0 ++ [⟨s4, [105, 110]⟩]) (by first | omega | (simp only [List.length_append, List.length_cons, List.length_nil]; omega))
 try simp only [List.length_append, List.length_cons, List.length_nil] at z1
 refine ⟨r1, ?_, by first | omega | (simp only [List.length_append, List.length_cons, List.length_nil]; omega), fun hq => (y1 (q3 (y0 (q1 hq))))⟩
 exact Lc (M + 2) (by rw [hk]; decide) (mt (M + 1) _ _ _ ⟨fun _ => rq (M) _ _ _ ⟨_, g1, _, g2, _, g3, by simp; omega, u0, hu0, _, e0, _, g4, by simp; omega, u1, hu1, _, e1, rfl⟩, fun h => absurd hk h⟩)
theorem Nm {t : Tree} (hk : t.kind = 21) (hs : shapeK t = true) (ht : tbulk t ≤ 1000000) (ih : ∀ (i : Nat) (u : Tree), t.kids[i]? = some u → Pok u) : Pok t := fun l hl => by
 have htp := bf t
 have htx := cv t
 have hn := gc hs
 have M := 0
 have hkn : t.kids.length = 2 := hn.2.2.2.2 (by simp [hk])
 obtain ⟨u0, hu0, _⟩ | h' := bb t.kids 0
 rotate_left
 ·omega
 obtain ⟨u1, hu1, _⟩ | h' := bb t.kids 1
 rotate_left
 ·omega
 have hsum : tbulk u0 + tbulk u1 + 1 ≤ tbulk t := by
  have hb := aW t
  have hx := yu hu0 hu1
  omega
 obtain ⟨r0, e0, z0, y0⟩ := ih 0 u0 hu0 l (by first | omega | (simp only [List.length_append, List.length_cons, List.length_nil]; omega))
 try simp only [List.length_append, List.length_cons, List.length_nil] at z0
 obtain ⟨s1, g1, b1⟩ := bj 0 ht
 have q2 : Qp r0 → Qp (r0 ++ [⟨s1, t.text⟩]) := fun hq => by simp only [bZ, bE]; exact ⟨hq, ⟨b1, by omega⟩, bQ⟩
 obtain ⟨r1, e1, z1, y1⟩ := ih 1 u1 hu1 (r0 ++ [⟨s1, t.text⟩]) (by first | omega | (simp only [List.length_append, List.length_cons, List.length_nil]; omega))
 try simp only [List.length_append, List.length_cons, List.length_nil] at z1
 refine ⟨r1, ?_, by first | omega | (simp only [List.length_append, List.length_cons, List.length_nil]; omega), fun hq => (y1 (q2 (y0 hq)))⟩
 exact Lo (M + 2) (by rw [hk]; decide) (ms (M + 1) _ _ _ ⟨fun _ => rp (M) _ _ _ ⟨u0, hu0, _, e0, _, g1, by simp; omega, u1, hu1, _, e1, rfl⟩, fun h => absurd hk h⟩)
theorem Nq {t : Tree} (hk : t.kind = 22) (hs : shapeK t = true) (ht : tbulk t ≤ 1000000) (ih : ∀ (i : Nat) (u : Tree), t.kids[i]? = some u → Pok u) : Pok t := fun l hl => by
 have htp := bf t
 have htx := cv t
 have hn := gc hs
 have M := 0
 have hkn : t.kids.length = 1 := hn.2.2.1 (by simp [hk])
 obtain ⟨u0, hu0, _⟩ | h' := bb t.kids 0
 rotate_left
 ·omega
 have hsum : tbulk u0 + 1 ≤ tbulk t := by
  have hb := aW t
  have hx := tc hu0
  omega
 obtain ⟨s1, g1, b1⟩ := bj 0 ht
 have q1 : Qp l → Qp (l ++ [⟨s1, [40]⟩]) := fun hq => by simp only [bZ, bE]; exact ⟨hq, ⟨b1, by decide⟩, bQ⟩
 obtain ⟨r0, e0, z0, y0⟩ := ih 0 u0 hu0 (l ++ [⟨s1, [40]⟩]) (by first | omega | (simp only [List.length_append, List.length_cons, List.length_nil]; omega))
 try simp only [List.length_append, List.length_cons, List.length_nil] at z0
 obtain ⟨s2, g2, b2⟩ := bj 1 ht
 have q3 : Qp r0 → Qp (r0 ++ [⟨s2, [41]⟩]) := fun hq => by simp only [bZ, bE]; exact ⟨hq, ⟨b2, by decide⟩, bQ⟩
 refine ⟨(r0 ++ [⟨s2, [41]⟩]), ?_, by first | omega | (simp only [List.length_append, List.length_cons, List.length_nil]; omega), fun hq => (q3 (y0 (q1 hq)))⟩
 exact Lr (M + 2) (by rw [hk]; decide) (mh (M + 1) _ _ _ ⟨fun _ => rv (M) _ _ _ ⟨_, g1, by simp; omega, u0, hu0, _, e0, _, g2, by simp; omega, rfl⟩, fun h => absurd hk h⟩)
theorem LN {t : Tree} (hn : ∀ c : Int, c ∈ [(1 : Int), 2, 3, 4, 5, 6, 7, 13, 14, 15, 8, 16, 17, 18, 19, 20, 21, 22] → t.kind ≠ c) (ht : tbulk t ≤ 1000000) : Pok t := fun l hl => by
 obtain ⟨s1, g1, b1⟩ := bj 0 ht
 have htp := bf t
 have htx := cv t
 have M := 0
 refine ⟨l ++ [⟨s1, t.text⟩], ?_, by simp; omega, fun hq => by simp only [bZ, bE]; exact ⟨hq, ⟨b1, by omega⟩, bQ⟩⟩
 exact Lr (M + 2) (fun e => hn t.kind (by simp only [List.mem_cons, List.not_mem_nil, or_false] at e ⊢; omega) rfl) (mh (M + 1) _ _ _ ⟨fun h => absurd h (hn 22 (by decide)), fun _ => ⟨_, g1, by simp; omega, rfl⟩⟩)
theorem EA {t : Tree} (ht : tbulk t ≤ 1000000) (ih : ∀ (i : Nat) (u : Tree), t.kids[i]? = some u → Pok u) (n comma : Nat) (hn : n ≤ t.kids.length) (hc : comma ≤ 10) : ∀ l, l.length + 8 * kbulk (t.kids.take n) ≤ 899999999 → ∃ r, eL l t 0 (n : Int) (comma : Int) r ∧ r.length ≤ l.length + 8 * kbulk (t.kids.take n) ∧ (Qp l → Qp r) := by
 have hk := bM t
 have loop : ∀ k i l, n - i ≤ k → i ≤ n → l.length + 8 * kbulk ((t.kids.take n).drop i) ≤ 899999999 → ∃ r, fG (k + 1) t 0 (n : Int) (comma : Int) l (i : Int) r ∧ r.length ≤ l.length + 8 * kbulk ((t.kids.take n).drop i) ∧ (Qp l → Qp r) := fun k => by
  induction k with
  | zero =>
   intro i l hi hle hl
   exact ⟨l, hV 0 _ _ _ _ _ _ _ ⟨fun h => by omega, fun _ => rfl⟩, by omega, fun h => h⟩
  | succ k ihk =>
   intro i l hi hle hl
   by_cases hin : i < n
   ·obtain ⟨u, hu, hul⟩ | h' := bb t.kids i
    ·have hu' : (t.kids.take n)[i]? = some u := by rw [List.getElem?_take, if_pos hin]; exact hu
     have hd := bk hu'
     rw [hd, kbulk] at hl ⊢
     have hup := bf u
     by_cases h0 : 0 < i
     ·obtain ⟨s, g, b⟩ := bj (t := t) (comma + i - 1) ht
      have g' : ao t ((((comma : Int) + (i : Int)) - 0) - 1) s := by rw [show (((comma : Int) + (i : Int)) - 0) - 1 = ((comma + i - 1 : Nat) : Int) by omega]; exact g
      obtain ⟨r, e, z, y⟩ := ih i u hu (l ++ [⟨s, [44]⟩]) (by simp; omega)
      simp only [List.length_append, List.length_cons, List.length_nil] at z
      obtain ⟨r2, e2, z2, y2⟩ := ihk (i + 1) r (by omega) (by omega) (by omega)
      refine ⟨r2, hV (k + 1) _ _ _ _ _ _ _ ⟨fun _ => ⟨fun _ => ⟨by omega, by omega, by omega, s, g', by simp; omega, i, rfl, u, hu, r, e, by omega, ?_⟩, fun h => by omega⟩, fun h => by omega⟩, by omega, fun hq => y2 (y (by simp only [bZ, bE]; exact ⟨hq, ⟨b, by decide⟩, bQ⟩))⟩
      exact e2
     ·obtain ⟨r, e, z, y⟩ := ih i u hu l (by omega)
      obtain ⟨r2, e2, z2, y2⟩ := ihk (i + 1) r (by omega) (by omega) (by omega)
      refine ⟨r2, hV (k + 1) _ _ _ _ _ _ _ ⟨fun _ => ⟨fun h => by omega, fun _ => ⟨i, rfl, u, hu, r, e, by omega, e2⟩⟩, fun h => by omega⟩, by omega, fun hq => y2 (y hq)⟩
    ·omega
   ·exact ⟨l, hV (k + 1) _ _ _ _ _ _ _ ⟨fun h => by omega, fun _ => rfl⟩, by omega, fun h => h⟩
 intro l hl
 have h1 : kbulk (t.kids.take n) ≤ kbulk t.kids := by
  have : ∀ (l : List Tree) n, kbulk (l.take n) ≤ kbulk l := fun l => by
   induction l with
   | nil => intro n; simp
   |cons a r ih => intro n; cases n with
    | zero => simp [kbulk]
    | succ n => have := ih n; simp only [List.take_succ_cons, kbulk]; omega
  exact this _ _
 have h2 := aW t
 obtain ⟨r, e, z, y⟩ := loop n 0 l (by omega) (by omega) (by simpa using hl)
 exact ⟨r, uF (n + 1) _ _ _ _ _ _ e, by simpa using z, y⟩
theorem vZ (l : List Tree) (n : Nat) : kbulk (l.take n) + kbulk (l.drop n) = kbulk l := by rw [← fE, List.take_append_drop]
theorem NG {t : Tree} (hk : t.kind = 16) (hs : shapeK t = true) (ht : tbulk t ≤ 1000000) (ih : ∀ (i : Nat) (u : Tree), t.kids[i]? = some u → Pok u) : Pok t := fun l hl => by
 have hb := aW t
 have htx := cv t
 have M := 0
 obtain ⟨s1, g1, b1⟩ := bj 0 ht
 obtain ⟨s2, g2, b2⟩ := bj 1 ht
 obtain ⟨r, e, z, y⟩ := EA ht ih t.kids.length 3 (Nat.le_refl _) (by decide) (l ++ [⟨s1, t.text⟩, ⟨s2, [40]⟩]) (by simp only [List.length_append, List.length_cons, List.length_nil, List.take_length]; omega)
 simp only [List.length_append, List.length_cons, List.length_nil, List.take_length] at z
 obtain ⟨s9, g9, b9⟩ := bj 2 ht
 refine ⟨r ++ [⟨s9, [41]⟩], ?_, by simp only [List.length_append, List.length_cons, List.length_nil]; omega, fun hq => by
  have := y (by simp only [bZ, bE]; exact ⟨hq, ⟨b1, by omega⟩, ⟨b2, by decide⟩, bQ⟩)
  simp only [bZ, bE]; exact ⟨this, ⟨b9, by decide⟩, bQ⟩⟩
 exact LM (M + 2) (by rw [hk]; decide) (me (M + 1) _ _ _ ⟨fun _ => rC (M) _ _ _ ⟨_, g1, _, g2, by simp only [List.length_append, List.length_cons, List.length_nil]; omega, _, e, _, g9, by simp only [List.length_append, List.length_cons, List.length_nil]; omega, rfl⟩, fun h => absurd hk h⟩)
theorem Nr {t : Tree} (hk : t.kind = 18) (hs : shapeK t = true) (ht : tbulk t ≤ 1000000) (ih : ∀ (i : Nat) (u : Tree), t.kids[i]? = some u → Pok u) : Pok t := fun l hl => by
 have hb := aW t
 have htx := cv t
 have M := 0
 obtain ⟨s1, g1, b1⟩ := bj 0 ht
 obtain ⟨r, e, z, y⟩ := EA ht ih t.kids.length 2 (Nat.le_refl _) (by decide) (l ++ [⟨s1, [91]⟩]) (by simp only [List.length_append, List.length_cons, List.length_nil, List.take_length]; omega)
 simp only [List.length_append, List.length_cons, List.length_nil, List.take_length] at z
 obtain ⟨s9, g9, b9⟩ := bj 1 ht
 refine ⟨r ++ [⟨s9, [93]⟩], ?_, by simp only [List.length_append, List.length_cons, List.length_nil]; omega, fun hq => by
  have := y (by simp only [bZ, bE]; exact ⟨hq, ⟨b1, by decide⟩, bQ⟩)
  simp only [bZ, bE]; exact ⟨this, ⟨b9, by decide⟩, bQ⟩⟩
 exact KM (M + 2) (by rw [hk]; decide) (ml (M + 1) _ _ _ ⟨fun _ => rr (M) _ _ _ ⟨_, g1, by simp only [List.length_append, List.length_cons, List.length_nil]; omega, _, e, _, g9, by simp only [List.length_append, List.length_cons, List.length_nil]; omega, rfl⟩, fun h => absurd hk h⟩)
theorem p_2 {t : Tree} (hk : t.kind = 2) (hs : shapeK t = true) (ht : tbulk t ≤ 1000000) (ih : ∀ (i : Nat) (u : Tree), t.kids[i]? = some u → Pok u) : Pok t := fun l hl => by
 have hb := aW t
 have htx := cv t
 have hn := (gc hs).1 hk
 have hkl := bM t
 have M := 0
 obtain ⟨s1, g1, b1⟩ := bj 0 ht
 obtain ⟨s2, g2, b2⟩ := bj 1 ht
 obtain ⟨s3, g3, b3⟩ := bj 2 ht
 obtain ⟨s4, g4, b4⟩ := bj 3 ht
 obtain ⟨s5, g5, b5⟩ := bj 4 ht
 obtain ⟨s6, g6, b6⟩ := bj 5 ht
 obtain ⟨r, e, z, y⟩ := EA ht ih (t.kids.length - 2) 6 (by omega) (by decide) (l ++ [⟨s1, [100, 101, 102]⟩, ⟨s2, t.text⟩, ⟨s3, [40]⟩]) (by have := vZ t.kids (t.kids.length - 2); simp only [List.length_append, List.length_cons, List.length_nil]; omega)
 simp only [List.length_append, List.length_cons, List.length_nil] at z
 obtain ⟨u, hu, _⟩ | h' := bb t.kids (t.kids.length - 2)
 rotate_left
 ·omega
 obtain ⟨v, hv, _⟩ | h' := bb t.kids (t.kids.length - 1)
 rotate_left
 ·omega
 have hsp := vZ t.kids (t.kids.length - 2)
 have hd1 := bk hu
 have hd2 : t.kids.drop (t.kids.length - 2 + 1) = v :: t.kids.drop (t.kids.length - 1 + 1) := by rw [show t.kids.length - 2 + 1 = t.kids.length - 1 by omega]; exact bk hv
 rw [hd1, kbulk, hd2, kbulk] at hsp
 have hup := bf u
 have hvp := bf v
 have e' : eL (l ++ [⟨s1, [100, 101, 102]⟩, ⟨s2, t.text⟩, ⟨s3, [40]⟩]) t 0 (((t.kids.length : Nat) : Int) - 2) 6 r := by rw [show ((t.kids.length : Nat) : Int) - 2 = ((t.kids.length - 2 : Nat) : Int) by omega]; exact e
 obtain ⟨r1, e1, z1, y1⟩ := ih _ u hu (r ++ [⟨s4, [41]⟩, ⟨s5, [58]⟩]) (by simp only [List.length_append, List.length_cons, List.length_nil]; omega)
 simp only [List.length_append, List.length_cons, List.length_nil] at z1
 obtain ⟨r2, e2, z2, y2⟩ := ih _ v hv (r1 ++ [⟨s6, [61]⟩]) (by simp only [List.length_append, List.length_cons, List.length_nil]; omega)
 simp only [List.length_append, List.length_cons, List.length_nil] at z2
 refine ⟨r2, ?_, by omega, fun hq => ?_⟩
 ·exact dn1 (M + 2) (by rw [hk]; decide) (mY (M + 1) _ _ _ ⟨fun _ => sx (M) _ _ _ ⟨_, g1, _, g2, _, g3, by simp only [List.length_append, List.length_cons, List.length_nil]; omega, by omega, r, e', _, g4, _, g5, by simp only [List.length_append, List.length_cons, List.length_nil]; omega, by omega, t.kids.length - 2, by omega, u, hu, r1, e1, _, g6, by simp only [List.length_append, List.length_cons, List.length_nil]; omega, by omega, t.kids.length - 1, by omega, v, hv, r2, e2, rfl⟩, fun h => absurd hk h⟩)
 ·have q1 := y (by simp only [bZ, bE]; exact ⟨hq, ⟨b1, by decide⟩, ⟨b2, by omega⟩, ⟨b3, by decide⟩, bQ⟩)
  have q2 := y1 (by simp only [bZ, bE]; exact ⟨q1, ⟨b4, by decide⟩, ⟨b5, by decide⟩, bQ⟩)
  exact y2 (by simp only [bZ, bE]; exact ⟨q2, ⟨b6, by decide⟩, bQ⟩)
theorem p_1 {t : Tree} (hk : t.kind = 1) (hs : shapeK t = true) (ht : tbulk t ≤ 1000000) (ih : ∀ (i : Nat) (u : Tree), t.kids[i]? = some u → Pok u) : Pok t := fun l hl => by
 have hb := aW t
 have htx := cv t
 have hkl := bM t
 obtain ⟨s1, g1, b1⟩ := bj 0 ht
 obtain ⟨s2, g2, b2⟩ := bj 1 ht
 obtain ⟨s3, g3, b3⟩ := bj 2 ht
 have loop : ∀ k i l, t.kids.length - i ≤ k → l.length + 8 * kbulk (t.kids.drop i) ≤ 899999996 → ∃ r, dO (k + 1) t l i r ∧ r.length ≤ l.length + 8 * kbulk (t.kids.drop i) + 1 ∧ (Qp l → Qp r) := fun k => by
  have last : ∀ k i l, ¬ i < t.kids.length → l.length ≤ 899999996 → ∃ r, dO (k + 1) t l i r ∧ r.length ≤ l.length + 8 * kbulk (t.kids.drop i) + 1 ∧ (Qp l → Qp r) := fun k i l hi hl => by
   refine ⟨l ++ [⟨s3, []⟩], mR k _ _ _ _ ⟨fun h => absurd h hi, fun _ => ⟨s3, g3, by simp only [List.length_append, List.length_cons, List.length_nil]; omega, rfl⟩⟩, by simp only [List.length_append, List.length_cons, List.length_nil]; omega, fun hq => by simp only [bZ, bE]; exact ⟨hq, ⟨b3, by decide⟩, bQ⟩⟩
  induction k with
  | zero => intro i l hi hl; exact last 0 i l (by omega) (by omega)
  | succ k ihk =>
   intro i l hi hl
   obtain ⟨u, hu, hul⟩ | h' := bb t.kids i
   ·have hd := bk hu
    rw [hd, kbulk] at hl ⊢
    obtain ⟨r, e, z, y⟩ := ih i u hu l (by omega)
    obtain ⟨r2, e2, z2, y2⟩ := ihk (i + 1) r (by omega) (by omega)
    exact ⟨r2, mR (k + 1) _ _ _ _ ⟨fun _ => ⟨u, hu, r, e, by omega, e2⟩, fun h => absurd hul h⟩, by omega, fun hq => y2 (y hq)⟩
   ·exact last (k + 1) i l h' (by omega)
 obtain ⟨r, e, z, y⟩ := loop t.kids.length 0 (l ++ [⟨s1, [109, 111, 100, 117, 108, 101]⟩, ⟨s2, t.text⟩]) (by omega) (by simp only [List.length_append, List.length_cons, List.length_nil, List.drop_zero]; omega)
 simp only [List.length_append, List.length_cons, List.length_nil, List.drop_zero] at z
 refine ⟨r, nB (t.kids.length + 2) _ _ _ ⟨fun _ => sr (t.kids.length + 1) _ _ _ ⟨_, g1, _, g2, by simp only [List.length_append, List.length_cons, List.length_nil]; omega, e⟩, fun h => absurd hk h⟩, by omega, fun hq => y (by simp only [bZ, bE]; exact ⟨hq, ⟨b1, by decide⟩, ⟨b2, by omega⟩, bQ⟩)⟩
theorem Ht : ∀ t : Tree, tbulk t ≤ 1000000 → shapeK t = true → Pok t := cy fun t ih ht hs => by
 have ih' : ∀ (i : Nat) (u : Tree), t.kids[i]? = some u → Pok u := fun i u hu => ih i u hu (by have := aK hu; omega) (yQ hs hu).1
 by_cases h : ∃ c ∈ [(1 : Int), 2, 3, 4, 5, 6, 7, 13, 14, 15, 8, 16, 17, 18, 19, 20, 21, 22], t.kind = c
 ·obtain ⟨c, hc, e⟩ := h
  simp only [List.mem_cons, List.not_mem_nil, or_false] at hc
  rcases hc with rfl | rfl | rfl | rfl | rfl | rfl | rfl | rfl | rfl | rfl | rfl | rfl | rfl | rfl | rfl | rfl | rfl | rfl
  ·exact p_1 e hs ht ih'
  ·exact p_2 e hs ht ih'
  ·exact p_3 e hs ht ih'
  ·exact p_4 e hs ht ih'
  ·exact p_5 e ht
  ·exact p_6 e ht
  ·exact p_7 e ht
  ·exact Nw e ht
  ·exact NL e ht
  ·exact Nn e ht
  ·exact p_8 e hs ht ih'
  ·exact NG e hs ht ih'
  ·exact Nl e hs ht ih'
  ·exact Nr e hs ht ih'
  ·exact NB e hs ht ih'
  ·exact Nz e hs ht ih'
  ·exact Nm e hs ht ih'
  ·exact Nq e hs ht ih'
 ·exact LN (fun c hc e => h ⟨c, hc, e⟩) ht
theorem Ie : ∀ t : Tree, tbulk t ≤ 1000000 → ∃ b, ii t b := cy fun t ih ht => by
 have hk := bM t
 have hl := yM t
 have kids : ∀ k i, t.kids.length - i ≤ k → ∃ b, gx (k + 1) t i b := fun k => by
  induction k with
  | zero => intro i hi; exact ⟨_, fN 0 _ _ _ ⟨fun h => by omega, fun _ => rfl⟩⟩
  | succ k ihk =>
   intro i hi
   obtain ⟨u, hu, hul⟩ | h' := bb t.kids i
   ·have := aK hu
    obtain ⟨b, hb⟩ := ih i u hu (by omega)
    cases b with
    | false => exact ⟨false, fN (k + 1) _ _ _ ⟨fun _ => ⟨u, hu, _, hb, fun _ => rfl, fun h => (by cases h)⟩, fun h => absurd hul h⟩⟩
    | true =>
     obtain ⟨b2, hb2⟩ := ihk (i + 1) (by omega)
     exact ⟨b2, fN (k + 1) _ _ _ ⟨fun _ => ⟨u, hu, _, hb, fun h => (by cases h), fun _ => hb2⟩, fun h => absurd hul h⟩⟩
   ·exact ⟨true, fN (k + 1) _ _ _ ⟨fun h => absurd h h', fun _ => rfl⟩⟩
 have lead : ∀ k i, t.leads.length - i ≤ k → ∃ b M, dg M t i b := fun k => by
  have last : ∀ i, ¬ i < t.leads.length → ∃ b M, dg M t i b := fun i hi => by
   obtain ⟨b, hb⟩ := kids t.kids.length 0 (by omega)
   exact ⟨b, _, dU _ _ _ _ ⟨fun h => absurd h hi, fun _ => hb⟩⟩
  induction k with
  | zero => intro i hi; exact last i (by omega)
  | succ k ihk =>
   intro i hi
   obtain ⟨s, hs, hsl⟩ | h' := bb t.leads i
   ·have := wO hs
    have := aW t
    obtain ⟨b2, M, hb2⟩ := ihk (i + 1) (by omega)
    by_cases h1 : t.kind = 1
    ·have ht1 := yT s (((i : Nat) : Int) == 2) (by omega)
     cases hb : it false s (((i : Nat) : Int) == 2) with
     | false => rw [hb] at ht1; exact ⟨false, 1, dU 0 _ _ _ ⟨fun _ => ⟨s, hs, fun _ => ⟨_, ht1, fun _ => rfl, fun h => (by cases h)⟩, fun h => absurd h1 h⟩, fun h => absurd hsl h⟩⟩
     | true => rw [hb] at ht1; exact ⟨b2, M + 1, dU M _ _ _ ⟨fun _ => ⟨s, hs, fun _ => ⟨_, ht1, fun h => (by cases h), fun _ => hb2⟩, fun h => absurd h1 h⟩, fun h => absurd hsl h⟩⟩
    ·have ht1 := yT s false (by omega)
     cases hb : it false s false with
     | false => rw [hb] at ht1; exact ⟨false, 1, dU 0 _ _ _ ⟨fun _ => ⟨s, hs, fun h => absurd h h1, fun _ => ⟨_, ht1, fun _ => rfl, fun h => (by cases h)⟩⟩, fun h => absurd hsl h⟩⟩
     | true => rw [hb] at ht1; exact ⟨b2, M + 1, dU M _ _ _ ⟨fun _ => ⟨s, hs, fun h => absurd h h1, fun _ => ⟨_, ht1, fun h => (by cases h), fun _ => hb2⟩⟩, fun h => absurd hsl h⟩⟩
   ·exact last i h'
 by_cases h : ((t.leads.length : Nat) : Int) = dm t.kind t.kids.length
 ·obtain ⟨b, M, hb⟩ := lead t.leads.length 0 (by omega)
  exact ⟨b, oI M _ _ ⟨_, tm (by omega) (by omega), fun h' => absurd h h', fun _ => hb⟩⟩
 ·exact ⟨false, oI 0 _ _ ⟨_, tm (by omega) (by omega), fun _ => rfl, fun h' => absurd h' h⟩⟩
theorem Gy : ∀ t : Tree, tbulk t ≤ 1000000 → ∃ b, gr t b := cy fun t ih ht => by
 have hk := bM t
 have kids : ∀ k i, t.kids.length - i ≤ k → ∃ b, aA (k + 1) t i b := fun k => by
  induction k with
  | zero => intro i hi; exact ⟨_, fw 0 _ _ _ ⟨fun h => by omega, fun _ => rfl⟩⟩
  | succ k ihk =>
   intro i hi
   obtain ⟨u, hu, hul⟩ | h' := bb t.kids i
   ·have := aK hu
    obtain ⟨b, hb⟩ := ih i u hu (by omega)
    cases b with
    | false => exact ⟨false, fw (k + 1) _ _ _ ⟨fun _ => ⟨u, hu, _, hb, fun _ => rfl, fun h => (by cases h)⟩, fun h => absurd hul h⟩⟩
    | true =>
     obtain ⟨b2, hb2⟩ := ihk (i + 1) (by omega)
     exact ⟨b2, fw (k + 1) _ _ _ ⟨fun _ => ⟨u, hu, _, hb, fun h => (by cases h), fun _ => ⟨by omega, hb2⟩⟩, fun h => absurd hul h⟩⟩
   ·exact ⟨true, fw (k + 1) _ _ _ ⟨fun h => absurd h h', fun _ => rfl⟩⟩
 obtain ⟨b, hb⟩ := kids t.kids.length 0 (by omega)
 by_cases hall : (t.kind = 1 ∧ (40 : Int) < t.kids.length) ∨ (t.kind = 2 ∧ (10 : Int) < t.kids.length) ∨ (t.kind = 16 ∧ (8 : Int) < t.kids.length) ∨ (t.kind = 18 ∧ (16 : Int) < t.kids.length)
 ·refine ⟨false, nO (t.kids.length + 1) _ _ ?_⟩
  repeat' (refine And.intro (fun _ => ?_) (fun _ => ?_))
  all_goals first | rfl | (exfalso; omega)
 ·refine ⟨b, nO (t.kids.length + 1) _ _ ?_⟩
  repeat' (refine And.intro (fun _ => ?_) (fun _ => ?_))
  all_goals first | exact hb | (exfalso; omega)
theorem Hs : ∀ t : Tree, tbulk t ≤ 1000000 → ∃ n, hD t n ∧ 0 ≤ n ∧ n ≤ tbulk t := cy fun t ih ht => by
 have hk := bM t
 have kids : ∀ k i (z : Int), t.kids.length - i ≤ k → 0 ≤ z → z < tbulk t → ∃ n, gm (k + 1) t z i n ∧ 0 ≤ n ∧ n ≤ tbulk t := fun k => by
  induction k with
  | zero => intro i z hi h0 hz; exact ⟨_, js 0 _ _ _ _ ⟨fun h => by omega, fun _ => ⟨by omega, rfl⟩⟩, by omega, by omega⟩
  | succ k ihk =>
   intro i z hi h0 hz
   obtain ⟨u, hu, hul⟩ | h' := bb t.kids i
   ·have := aK hu
    obtain ⟨n, hn, n0, n1⟩ := ih i u hu (by omega)
    obtain ⟨r, hr, r0, r1⟩ := ihk (i + 1) (max z n) (by omega) (by omega) (by omega)
    exact ⟨r, js (k + 1) _ _ _ _ ⟨fun _ => ⟨u, hu, _, hn, hr⟩, fun h => absurd hul h⟩, r0, r1⟩
   ·exact ⟨_, js (k + 1) _ _ _ _ ⟨fun h => absurd h h', fun _ => ⟨by omega, rfl⟩⟩, by omega, by omega⟩
 obtain ⟨n, hn, n0, n1⟩ := kids t.kids.length 0 0 (by omega) (by omega) (by have := bf t; omega)
 exact ⟨n, tu _ _ _ hn, n0, n1⟩
theorem va (t : Tree) (ht : tbulk t ≤ 1000000) : ∃ b, fc t b ∧ (b = true → shapeK t = true) := by
 have h1 := zi t (by omega)
 cases hs : shapeK t with
 | false => rw [hs] at h1; exact ⟨false, lP 0 _ _ ⟨_, h1, fun h => by (cases h), fun _ => rfl⟩, fun h => (by cases h)⟩
 | true =>
  rw [hs] at h1
  obtain ⟨b, hb⟩ := Ie t ht
  exact ⟨b, lP 0 _ _ ⟨_, h1, fun _ => ⟨_, hb, rfl⟩, fun h => (by cases h)⟩, fun _ => rfl⟩
theorem HV (t : Tree) (ht : tbulk t ≤ 1000000) : ∃ s, kI t s := by
 obtain ⟨b, hb, hs⟩ := va t ht
 cases b with
 | false => exact ⟨[], nT 0 _ _ ⟨_, hb, fun _ => rfl, fun h => (by cases h)⟩⟩
 | true =>
  obtain ⟨l, e, z, q⟩ := Ht t ht (hs rfl) [] (by simp; omega)
  have hq := q bQ
  simp only [List.length_nil] at z
  have loop : ∀ k i (s : List UInt8), l.length - i ≤ k → s.length ≤ i * 2000020 → i ≤ l.length → ∃ r, bW (k + 1) l s i r := fun k => by
   induction k with
   | zero => intro i s hi hsl hil; exact ⟨_, cV 0 _ _ _ _ ⟨fun h => by omega, fun _ => rfl⟩⟩
   | succ k ihk =>
    intro i s hi hsl hil
    obtain ⟨x, hx, hxl⟩ | h' := bb l i
    ·obtain ⟨hx1, hx2⟩ := hq x (List.mem_of_getElem? hx)
     have hmul : (i + 1) * 2000020 = i * 2000020 + 2000020 := Nat.succ_mul _ _
     obtain ⟨r1, hr1⟩ := ihk (i + 1) (((s ++ [32]) ++ x.Lead) ++ x.Text) (by omega) (by simp only [List.length_append, List.length_cons, List.length_nil]; omega) (by omega)
     obtain ⟨r2, hr2⟩ := ihk (i + 1) ((s ++ x.Lead) ++ x.Text) (by omega) (by simp only [List.length_append]; omega) (by omega)
     have plain : s.length + x.Lead.length ≤ 9223372036854775807 ∧ ∃ y : Pce, l[i]? = some y ∧ (s ++ x.Lead).length + y.Text.length ≤ 9223372036854775807 ∧ bW (k + 1) l ((s ++ x.Lead) ++ y.Text) (i + 1) r2 := ⟨by omega, x, hx, by simp only [List.length_append]; omega, hr2⟩
     by_cases h0 : (0 : Int) < ((i : Nat) : Int)
     ·by_cases hle : x.Lead = []
      ·obtain ⟨y, hy, hyl⟩ | h' := bb l (i - 1)
       rotate_left
       ·omega
       obtain ⟨hy1, hy2⟩ := hq y (List.mem_of_getElem? hy)
       have hf := IA y.Text x.Text (by omega) (by omega)
       cases hb2 : fusesT y.Text x.Text with
       | true =>
        rw [hb2] at hf
        exact ⟨r1, cV (k + 1) _ _ _ _ ⟨fun _ => ⟨fun _ => ⟨x, hx, fun _ => ⟨by omega, i - 1, by omega, y, hy, x, hx, _, hf, fun _ => ⟨by simp only [List.length_cons, List.length_nil]; omega, x, hx, by simp only [List.length_append, List.length_cons, List.length_nil]; omega, x, hx, by simp only [List.length_append, List.length_cons, List.length_nil]; omega, hr1⟩, fun h => by (cases h)⟩, fun h => absurd hle h⟩, fun h => absurd h0 h⟩, fun h => absurd hxl h⟩⟩
       | false =>
        rw [hb2] at hf
        exact ⟨r2, cV (k + 1) _ _ _ _ ⟨fun _ => ⟨fun _ => ⟨x, hx, fun _ => ⟨by omega, i - 1, by omega, y, hy, x, hx, _, hf, fun h => by (cases h), fun _ => ⟨x, hx, plain⟩⟩, fun h => absurd hle h⟩, fun h => absurd h0 h⟩, fun h => absurd hxl h⟩⟩
      ·exact ⟨r2, cV (k + 1) _ _ _ _ ⟨fun _ => ⟨fun _ => ⟨x, hx, fun h => absurd h hle, fun _ => ⟨x, hx, plain⟩⟩, fun h => absurd h0 h⟩, fun h => absurd hxl h⟩⟩
     ·exact ⟨r2, cV (k + 1) _ _ _ _ ⟨fun _ => ⟨fun h => absurd h h0, fun _ => ⟨x, hx, plain⟩⟩, fun h => absurd hxl h⟩⟩
    ·exact ⟨s, cV (k + 1) _ _ _ _ ⟨fun h => absurd h h', fun _ => rfl⟩⟩
  obtain ⟨r, hr⟩ := loop l.length 0 [] (by omega) (by simp) (by omega)
  exact ⟨r, nT (l.length + 1) _ _ ⟨_, hb, fun h => by (cases h), fun _ => ⟨l, sO 0 _ _ ⟨_, e, rfl⟩, hr⟩⟩⟩
theorem Im (t : Tree) (ht : tbulk t ≤ 1000000) : ∃ b, ff t b ∧ (b = true → shapeK t = true) := by
 obtain ⟨b, hb, hsh⟩ := va t ht
 cases b with
 | false => exact ⟨false, gd 0 _ _ ⟨_, hb, fun h => by (cases h), fun _ => rfl⟩, fun h => (by cases h)⟩
 | true =>
  obtain ⟨b2, hb2⟩ := Gy t ht
  cases b2 with
  | false => exact ⟨false, gd 0 _ _ ⟨_, hb, fun _ => ⟨_, hb2, fun h => by (cases h), fun _ => rfl⟩, fun h => (by cases h)⟩, fun h => (by cases h)⟩
  | true =>
   obtain ⟨n, hn, _, _⟩ := Hs t ht
   obtain ⟨s, hs⟩ := HV t ht
   by_cases h40 : n ≤ 40
   ·exact ⟨_, gd 0 _ _ ⟨_, hb, fun _ => ⟨_, hb2, fun _ => ⟨n, hn, fun _ => ⟨s, hs, rfl⟩, fun h => absurd h40 h⟩, fun h => (by cases h)⟩, fun h => (by cases h)⟩, fun _ => hsh rfl⟩
   ·exact ⟨false, gd 0 _ _ ⟨_, hb, fun _ => ⟨_, hb2, fun _ => ⟨n, hn, fun h => absurd h h40, fun _ => rfl⟩, fun h => (by cases h)⟩, fun h => (by cases h)⟩, fun h => (by cases h)⟩
theorem ML {L : List Int} {a : Int} (hd : Dc L a) : Gt L (fun t a' => nr L a t L a') 500 := by
 obtain ⟨r, a1, h1, h2, h3⟩ := fB hd (n := 5) (by omega) (by omega)
 by_cases hr : r = 0
 ·obtain ⟨s, a2, g1, g2, g3⟩ := jD h3 [[84], [85]] (by decide) (by decide)
  have hs := iC g2 (by decide)
  obtain ⟨t, a3, q1, q2, q3⟩ := En 2 g3 (by omega)
  exact ⟨_, a3, qo 0 _ _ _ _ _ ⟨_, _, _, h1, fun _ => ⟨_, _, _, g1, _, _, _, q1, rfl, rfl, rfl⟩, fun h => absurd hr h⟩, q2, by rw [tb1]; omega⟩
 ·obtain ⟨s, a2, g1, g2, g3⟩ := jD h3 [[102], [103], [104]] (by decide) (by decide)
  have hs := iC g2 (by decide)
  obtain ⟨n, a3, g4, g5, g6⟩ := fB g3 (n := 4) (by omega) (by omega)
  have loop : ∀ (k : Nat) (a : Int) (l : List Tree), Dc L a → l.length + k ≤ 100 → Gt L (fun t a' => jn (k + 1) s L a l (k : Int) t L a') (s.length + 1 + kbulk l + k * 13 + 429) := fun k => by
   induction k with
   | zero =>
    intro a l hd hl
    obtain ⟨t1, b1, q1, q2, q3⟩ := En 1 hd (by omega)
    obtain ⟨t2, b2, q4, q5, q6⟩ := LZ 3 q2 (by omega)
    have : eB 3 = 422 := rfl
    refine ⟨_, b2, pS 0 _ _ _ _ _ _ _ _ ⟨fun h => by omega, fun _ => ⟨_, _, _, q1, _, _, _, q4, by simp; omega, rfl, rfl, rfl⟩⟩, q5, ?_⟩
    rw [tbK, fE]; simp only [kbulk]; omega
   | succ k ihk =>
    intro a l hd hl
    obtain ⟨x, b0, q0, q0', q0''⟩ := jD hd [[120], [121], [122]] (by decide) (by decide)
    have hx := iC q0' (by decide)
    obtain ⟨t, b, q1, q2, q3⟩ := En 1 q0'' (by omega)
    refine (ihk b (l ++ [.node 4 x [] [t]]) q2 (by simp; omega)).map ?_ fun t' a' h => pS (k + 1) _ _ _ _ _ _ _ _ ⟨fun _ => ⟨_, _, _, q0, _, _, _, q1, by simp; omega, by omega, by rw [show ((k + 1 : Nat) : Int) - 1 = (k : Int) by omega]; exact h⟩, fun h => by omega⟩
    rw [fE]; simp only [kbulk, tb1]; omega
  exact (loop n.toNat a3 [] g6 (by simp; omega)).map (by simp only [kbulk]; omega) fun t a' h => qo (n.toNat + 1) _ _ _ _ _ ⟨_, _, _, h1, fun h => absurd h hr, fun _ => ⟨_, _, _, g1, _, _, _, g4, by rw [show n = ((n.toNat : Nat) : Int) by omega]; exact h⟩⟩
def Sh (l : List (List UInt8)) (n : Nat) : Prop := l.length = n ∧ ∀ x ∈ l, x.length ≤ 2
theorem Sh.sum : ∀ {l : List (List UInt8)} {n : Nat}, Sh l n → lsum l ≤ 3 * n
 | [], n, h => by simp [lsum]
 | x :: r, n, h => by
  obtain ⟨h1, h2⟩ := h
  have := h2 x (by simp)
  have := Sh.sum (l := r) (n := n - 1) ⟨by simp at h1; omega, fun y hy => h2 y (by simp [hy])⟩
  simp only [lsum]; simp at h1; omega
theorem Sh.set {l : List (List UInt8)} {n i : Nat} {x : List UInt8} (h : Sh l n) (hx : x.length ≤ 2) : Sh (l.set i x) n := ⟨by simpa using h.1, fun y hy => by
 rcases List.mem_or_eq_of_mem_set hy with h1 | h1
 ·exact h.2 y h1
 ·subst h1; exact hx⟩
theorem Sh.get {l : List (List UInt8)} {n i : Nat} (h : Sh l n) (hi : i < n) : ∃ s, l[i]? = some s := by
 obtain ⟨s, hs, _⟩ | h' := bb l i
 ·exact ⟨s, hs⟩
 ·have := h.1; omega
theorem Ih {n : Int} (h0 : 0 ≤ n) (h1 : n ≤ 100000000) : ∃ l, jW n l ∧ Sh l n.toNat := by
 have loop : ∀ k i (l : List (List UInt8)), n.toNat - i ≤ k → i ≤ n.toNat → Sh l i → ∃ r, fK (k + 1) n l i r ∧ Sh r n.toNat := fun k => by
  induction k with
  | zero => intro i l hi hle hl; exact ⟨l, jd 0 _ _ _ _ ⟨fun h => by omega, fun _ => rfl⟩, by rw [show n.toNat = i by omega]; exact hl⟩
  | succ k ihk =>
   intro i l hi hle hl
   by_cases h : (i : Int) < n
   ·obtain ⟨r, e, hr⟩ := ihk (i + 1) (l ++ [[32]]) (by omega) (by omega) ⟨by simp [hl.1], fun x hx => by
     rcases List.mem_append.1 hx with h1 | h1
     ·exact hl.2 x h1
     ·simp at h1; subst h1; simp⟩
    exact ⟨r, jd (k + 1) _ _ _ _ ⟨fun _ => ⟨by simp [hl.1]; omega, by omega, e⟩, fun h' => absurd h h'⟩, hr⟩
   ·exact ⟨l, jd (k + 1) _ _ _ _ ⟨fun h' => absurd h' h, fun _ => rfl⟩, by rw [show n.toNat = i by omega]; exact hl⟩
 obtain ⟨r, e, hr⟩ := loop n.toNat 0 [] (by omega) (by omega) ⟨rfl, fun x hx => by cases hx⟩
 exact ⟨r, te _ _ _ e, hr⟩
def vO (t : Tree) (i : Int) (first : List UInt8) : List UInt8 := if t.kind = 1 then [10, 10] else if 0 < i then [32] else if t.kind = 8 ∨ t.kind = 22 ∨ t.kind = 16 ∨ t.kind = 18 then [] else if t.kind = 2 then (if (2 : Int) < t.kids.length then [] else [32]) else if t.kind = 17 ∨ t.kind = 21 then first else [32]
theorem Iy (t : Tree) (i : Int) (first : List UInt8) : jU t i first (vO t i first) := by
 refine sI 1 _ _ _ _ ?_
 repeat' first | (refine And.intro (fun _ => ?_) (fun _ => ?_)) | (refine se 0 _ _ _ _ ?_)
 all_goals simp_all [vO]
 all_goals (intro h; omega)
theorem DJ (t : Tree) (i : Int) (first : List UInt8) (hf : first.length ≤ 2) : (vO t i first).length ≤ 2 := by
 unfold vO
 repeat' split
 all_goals first | exact hf | simp
theorem pz {n : Int} (hn : 0 ≤ n) (a b c : Nat) (z : Int) : f0 n a b c z ≤ b + n := by
 unfold f0; repeat' split
 all_goals omega
theorem Mk {k n : Int} (hn : 0 ≤ n) : dm k n ≤ 6 + n := by
 have a1 := pz hn 2 6 2 (-1)
 have a2 := pz hn 0 3 0 (-1)
 have a3 := pz hn 1 2 0 (-1)
 have a4 := pz hn 1 3 0 1
 have a5 := pz hn 1 2 0 1
 have a6 := pz hn 1 0 0 1
 have a7 := pz hn 3 3 0 3
 have a8 := pz hn 2 4 0 2
 have a9 := pz hn 2 1 0 2
 have a10 := pz hn 0 1 0 0
 simp only [dm]
 repeat' first | omega | split
theorem FX {t : Tree} (hs : shapeK t = true) : (t.kind = 1 → dm t.kind t.kids.length = 3) ∧ (t.kind = 2 → 6 ≤ dm t.kind t.kids.length) ∧ (t.kind = 4 ∨ t.kind = 8 ∨ t.kind = 22 → dm t.kind t.kids.length = 2) ∧ (t.kind ≠ 17 → 1 ≤ dm t.kind t.kids.length) := by
 have h := rG hs
 refine ⟨fun hk => ?_, fun hk => ?_, fun hk => ?_, fun hk => ?_⟩
 ·rw [hk]; simp only [dm]; simp
 ·rw [hk] at h ⊢; simp only [dm, f0] at h ⊢; simp at h ⊢; repeat' split
  all_goals first | omega | (simp_all; omega)
 ·rcases hk with hk | hk | hk <;> (rw [hk] at h ⊢; simp only [dm, f0] at h ⊢; simp at h ⊢; repeat' split) <;> first | omega | (simp_all; done) | (simp_all; omega)
 ·have key : ∀ k n : Int, 0 ≤ n → k ≠ 17 → 0 ≤ dm k n → 1 ≤ dm k n := fun k n hn hk h => by
   have q : ∀ (a b c : Nat) z, 1 ≤ b → f0 n a b c z = -1 ∨ 1 ≤ f0 n a b c z := fun a b c z hb => by
    unfold f0; repeat' split
    all_goals omega
   have a1 := q 2 6 2 (-1) (by decide)
   have a2 := q 0 3 0 (-1) (by decide)
   have a3 := q 1 2 0 (-1) (by decide)
   have a4 := q 1 3 0 1 (by decide)
   have a5 := q 1 2 0 1 (by decide)
   have a7 := q 3 3 0 3 (by decide)
   have a8 := q 2 4 0 2 (by decide)
   have a9 := q 2 1 0 2 (by decide)
   have a10 := q 0 1 0 0 (by decide)
   revert h
   simp only [dm]
   repeat' first | (intro h; omega) | split
  exact key _ _ (by omega) hk h
section
variable {t : Tree} {N : Nat} {us : List Tree}
theorem Jv : ∀ k i (l : List (List UInt8)), N - i ≤ k → Sh l N → ∃ l', fu (k + 1) t l i us (.node t.kind t.text l' us) ∧ Sh l' N := fun k => by
 induction k with
 | zero => intro i l hi hl; exact ⟨l, io 0 _ _ _ _ _ ⟨fun h => by have := hl.1; omega, fun _ => rfl⟩, hl⟩
 | succ k ihk =>
  intro i l hi hl
  by_cases h : i < l.length
  ·obtain ⟨s, hs⟩ := hl.get (i := i) (by have := hl.1; omega)
   obtain ⟨l', e, h'⟩ := ihk (i + 1) (l.set i []) (by omega) (hl.set (by simp))
   exact ⟨l', io (k + 1) _ _ _ _ _ ⟨fun _ => ⟨s, hs, e⟩, fun h' => absurd h h'⟩, h'⟩
  ·exact ⟨l, io (k + 1) _ _ _ _ _ ⟨fun h' => absurd h' h, fun _ => rfl⟩, hl⟩
theorem Dj : ∀ k i (l : List (List UInt8)), N - i ≤ k → Sh l N → ∃ l', dE (k + 1) t l i us (.node t.kind t.text l' us) ∧ Sh l' N := fun k => by
 induction k with
 | zero => intro i l hi hl; exact ⟨l, il 0 _ _ _ _ _ ⟨fun h => by have := hl.1; omega, fun _ => rfl⟩, hl⟩
 | succ k ihk =>
  intro i l hi hl
  by_cases h : i < l.length
  ·obtain ⟨s, hs⟩ := hl.get (i := i) (by have := hl.1; omega)
   obtain ⟨l', e, h'⟩ := ihk (i + 1) (l.set i []) (by omega) (hl.set (by simp))
   exact ⟨l', il (k + 1) _ _ _ _ _ ⟨fun _ => ⟨s, hs, e⟩, fun h' => absurd h h'⟩, h'⟩
  ·exact ⟨l, il (k + 1) _ _ _ _ _ ⟨fun h' => absurd h' h, fun _ => rfl⟩, hl⟩
theorem yw (hs : shapeK t = true) (hN : N = (dm t.kind t.kids.length).toNat) {l : List (List UInt8)} (hl : Sh l N) : ∃ l', dC (N + 2) t l us (.node t.kind t.text l' us) ∧ Sh l' N := by
 obtain ⟨g1, g2, g3, g4⟩ := FX hs
 have e0 : ([] : List UInt8).length ≤ 2 := by simp
 by_cases h1 : t.kind = 1
 ·have := g1 h1
  obtain ⟨s, hs⟩ := hl.get (i := 2) (by omega)
  exact ⟨_, bH (N + 1) _ _ _ _ ⟨fun _ => ⟨s, hs, rfl⟩, fun h => absurd h1 h⟩, hl.set (by simp)⟩
 by_cases h2 : t.kind = 2
 ·have := g2 h2
  have l1 := hl.set (i := 2) e0
  have l2 := l1.set (i := 3) e0
  have l3 := l2.set (i := 4) e0
  obtain ⟨s, hs⟩ := hl.get (i := 2) (by omega)
  obtain ⟨s', hs'⟩ := l1.get (i := 3) (by omega)
  obtain ⟨s2, hs2⟩ := l2.get (i := 4) (by omega)
  obtain ⟨l', e, h'⟩ := Jv (t := t) (us := us) N 6 _ (by omega) l3
  exact ⟨l', bH (N + 1) _ _ _ _ ⟨fun h => absurd h h1, fun _ => ⟨fun _ => ⟨s, hs, s', hs', s2, hs2, e⟩, fun h => absurd h2 h⟩⟩, h'⟩
 by_cases h4 : t.kind = 4
 ·have := g3 (by simp [h4])
  obtain ⟨s, hs⟩ := hl.get (i := 1) (by omega)
  exact ⟨_, bH (N + 1) _ _ _ _ ⟨fun h => absurd h h1, fun _ => ⟨fun h => absurd h h2, fun _ => ⟨fun _ => ⟨s, hs, rfl⟩, fun h => absurd h4 h⟩⟩⟩, hl.set e0⟩
 by_cases h8 : t.kind = 8
 ·have := g3 (by simp [h8])
  obtain ⟨s, hs⟩ := hl.get (i := 1) (by omega)
  exact ⟨_, bH (N + 1) _ _ _ _ ⟨fun h => absurd h h1, fun _ => ⟨fun h => absurd h h2, fun _ => ⟨fun h => absurd h h4, fun _ => ⟨fun _ => ⟨s, hs, rfl⟩, fun h => absurd h8 h⟩⟩⟩⟩, hl.set e0⟩
 by_cases h22 : t.kind = 22
 ·have := g3 (by simp [h22])
  obtain ⟨s, hs⟩ := hl.get (i := 1) (by omega)
  exact ⟨_, bH (N + 1) _ _ _ _ ⟨fun h => absurd h h1, fun _ => ⟨fun h => absurd h h2, fun _ => ⟨fun h => absurd h h4, fun _ => ⟨fun h => absurd h h8, fun _ => ⟨fun _ => ⟨s, hs, rfl⟩, fun h => absurd h22 h⟩⟩⟩⟩⟩, hl.set e0⟩
 by_cases h16 : t.kind = 16
 ·obtain ⟨l', e, h'⟩ := Dj (t := t) (us := us) N 1 _ (by omega) hl
  exact ⟨l', bH (N + 1) _ _ _ _ ⟨fun h => absurd h h1, fun _ => ⟨fun h => absurd h h2, fun _ => ⟨fun h => absurd h h4, fun _ => ⟨fun h => absurd h h8, fun _ => ⟨fun h => absurd h h22, fun _ => ⟨fun _ => e, fun h => absurd h16 h⟩⟩⟩⟩⟩⟩, h'⟩
 by_cases h18 : t.kind = 18
 ·obtain ⟨l', e, h'⟩ := Dj (t := t) (us := us) N 1 _ (by omega) hl
  exact ⟨l', bH (N + 1) _ _ _ _ ⟨fun h => absurd h h1, fun _ => ⟨fun h => absurd h h2, fun _ => ⟨fun h => absurd h h4, fun _ => ⟨fun h => absurd h h8, fun _ => ⟨fun h => absurd h h22, fun _ => ⟨fun h => absurd h h16, fun _ => ⟨fun _ => e, fun h => absurd h18 h⟩⟩⟩⟩⟩⟩⟩, h'⟩
 ·exact ⟨l, bH (N + 1) _ _ _ _ ⟨fun h => absurd h h1, fun _ => ⟨fun h => absurd h h2, fun _ => ⟨fun h => absurd h h4, fun _ => ⟨fun h => absurd h h8, fun _ => ⟨fun h => absurd h h22, fun _ => ⟨fun h => absurd h h16, fun _ => ⟨fun h => absurd h h18, fun _ => rfl⟩⟩⟩⟩⟩⟩⟩, hl⟩
end
theorem rF {l : List Tree} {i : Nat} {u : Tree} (h : l[i]? = some u) : kbulk (l.take (i + 1)) = kbulk (l.take i) + tbulk u := by
 rw [List.take_add_one, h, fE]; simp [kbulk]
theorem FU : ∀ t : Tree, tbulk t ≤ 1000000 → shapeK t = true → ∀ first, first.length ≤ 2 → ∃ u, fQ t first u ∧ tbulk u + 3 ≤ 25 * tbulk t ∧ u.kind = t.kind := cy fun t ih ht hs first hf => by
 have hk := bM t
 have hbt := aW t
 have h0 := rG hs
 have h6 := Mk (k := t.kind) (n := (t.kids.length : Int)) (by omega)
 obtain ⟨g1, g2, g3, g4⟩ := FX hs
 obtain ⟨bl, hbl, hsh⟩ := Ih h0 (by omega)
 have loop : ∀ k i (done rest : List Tree), t.kids.length - i ≤ k → done.length = i → i ≤ t.kids.length → rest.length = t.kids.length - i → kbulk done + 3 * i ≤ 25 * kbulk (t.kids.take i) → ∃ M r, dB M t first bl (done ++ rest) i r ∧ tbulk r + 3 ≤ 25 * tbulk t ∧ r.kind = t.kind := fun k => by
  have last : ∀ i (done rest : List Tree), ¬ i < t.kids.length → done.length = i → i ≤ t.kids.length → rest.length = t.kids.length - i → kbulk done + 3 * i ≤ 25 * kbulk (t.kids.take i) → ∃ M r, dB M t first bl (done ++ rest) i r ∧ tbulk r + 3 ≤ 25 * tbulk t ∧ r.kind = t.kind := fun i done rest hi hd hle hr hb => by
   have hr0 : rest = [] := List.length_eq_zero_iff.1 (by omega)
   subst hr0
   rw [List.append_nil]
   rw [List.take_of_length_le (by omega)] at hb
   have fin : ∀ l', Sh l' (dm t.kind t.kids.length).toNat → tbulk (.node t.kind t.text l' done) + 3 ≤ 25 * tbulk t ∧ (Tree.node t.kind t.text l' done).kind = t.kind := fun l' hl' => by
    have := hl'.sum
    exact ⟨by simp only [tbulk]; omega, rfl⟩
   by_cases h17 : t.kind = 17
   ·obtain ⟨l', e, h'⟩ := yw (us := done) hs rfl hsh
    exact ⟨_, _, eZ _ _ _ _ _ _ _ ⟨fun h => absurd h hi, fun _ => ⟨fun h => absurd h17 h, fun _ => e⟩⟩, fin l' h'⟩
   ·by_cases h21 : t.kind = 21
    ·obtain ⟨l', e, h'⟩ := yw (us := done) hs rfl hsh
     exact ⟨_, _, eZ _ _ _ _ _ _ _ ⟨fun h => absurd h hi, fun _ => ⟨fun _ => ⟨fun h => absurd h21 h, fun _ => e⟩, fun h => absurd h h17⟩⟩, fin l' h'⟩
    ·obtain ⟨l', e, h'⟩ := yw (us := done) hs rfl (hsh.set (i := 0) hf)
     have := g4 h17
     obtain ⟨s, hs0⟩ := hsh.get (i := 0) (by omega)
     exact ⟨_, _, eZ _ _ _ _ _ _ _ ⟨fun h => absurd h hi, fun _ => ⟨fun _ => ⟨fun _ => ⟨s, hs0, e⟩, fun h => absurd h h21⟩, fun h => absurd h h17⟩⟩, fin l' h'⟩
  induction k with
  | zero => intro i done rest hi hd hle hr hb; exact last i done rest (by omega) hd hle hr hb
  | succ k ihk =>
   intro i done rest hi hd hle hr hb
   obtain ⟨u, hu, hul⟩ | h' := bb t.kids i
   ·have hbu := aK hu
    obtain ⟨v, hv, hvb, _⟩ := ih i u hu (by omega) (yQ hs hu).1 _ (DJ t i first hf)
    match rest, hr with
    | z :: rest', hr =>
     obtain ⟨M, r, e, hb2⟩ := ihk (i + 1) (done ++ [v]) rest' (by omega) (by simp [hd]) (by omega) (by simp at hr; omega) (by rw [rF hu, fE]; simp only [kbulk]; omega)
     refine ⟨M + 1, r, eZ M _ _ _ _ _ _ ⟨fun _ => ⟨u, hu, _, Iy t i first, v, hv, z, by simp [← hd], by omega, ?_⟩, fun h => absurd hul h⟩, hb2⟩
     have : (done ++ z :: rest').set i v = done ++ [v] ++ rest' := by simp [← hd]
     rw [this]; exact e
    | [], hr => simp at hr; omega
   ·exact last i done rest h' hd hle hr hb
 obtain ⟨M, r, e, hb⟩ := loop t.kids.length 0 [] (List.replicate t.kids.length (.node 0 [] [] [])) (by omega) rfl (by omega) (by simp) (by simp [kbulk])
 exact ⟨r, sq (M + 1) _ _ _ ⟨_, tm (by omega) (by omega), bl, hbl, rz M _ _ _ _ ⟨by omega, by simpa using e⟩⟩, hb⟩
theorem FT (t : Tree) (ht : tbulk t ≤ 1000000) : ∃ u, jC t u ∧ tbulk u ≤ 25 * tbulk t ∧ (u.kind = t.kind ∨ u.kind = 0) := by
 have h1 := zi t (by omega)
 have := bf t
 cases hs : shapeK t with
 | false => rw [hs] at h1; exact ⟨.node 0 [] [] [], mP 0 _ _ ⟨_, h1, fun _ => rfl, fun h => (by cases h)⟩, by rw [tb0]; simp; omega, .inr rfl⟩
 | true =>
  rw [hs] at h1
  obtain ⟨u, hu, hb, hkk⟩ := FU t ht hs [] (by simp)
  exact ⟨u, mP 0 _ _ ⟨_, h1, fun h => (by cases h), fun _ => ⟨u, hu, rfl⟩⟩, by omega, .inl hkk⟩
theorem AU : ∀ (l : List (List UInt8)) (i : Nat) (x : List UInt8), lsum (l.set i x) ≤ lsum l + x.length
 | [], i, x => by simp [lsum]
 | y :: r, 0, x => by simp only [List.set_cons_zero, lsum]; omega
 | y :: r, i + 1, x => by have := AU r i x; simp only [List.set_cons_succ, lsum]; omega
theorem ID {L : List Int} : ∀ t : Tree, tbulk t ≤ 1000000 → ∀ {a : Int}, Dc L a → Gt L (fun u a' => iL L a t u L a' ∧ u.kind = t.kind) (6 * tbulk t) := cy fun t ih ht a hd => by
 have hk := bM t
 have hl := yM t
 have hbt := aW t
 have kids : ∀ k i (done : List Tree) (ls : List (List UInt8)) (a : Int), t.kids.length - i ≤ k → i ≤ t.kids.length → done.length = i → kbulk done ≤ 6 * kbulk (t.kids.take i) → lsum ls ≤ 6 * lsum t.leads → Dc L a → ∃ M, Gt L (fun u a' => fg M t L a (done ++ t.kids.drop i) i ls u L a' ∧ u.kind = t.kind) (6 * tbulk t) := fun k => by
  have last : ∀ i (done : List Tree) (ls : List (List UInt8)) (a : Int), ¬ i < t.kids.length → i ≤ t.kids.length → done.length = i → kbulk done ≤ 6 * kbulk (t.kids.take i) → lsum ls ≤ 6 * lsum t.leads → Dc L a → ∃ M, Gt L (fun u a' => fg M t L a (done ++ t.kids.drop i) i ls u L a' ∧ u.kind = t.kind) (6 * tbulk t) := fun i done ls a hi hle hdn hb hls hd => by
   rw [List.drop_of_length_le (by omega), List.append_nil]
   rw [List.take_of_length_le (by omega)] at hb
   exact ⟨1, _, a, ⟨nX 0 _ _ _ _ _ _ _ _ _ ⟨fun h => absurd h (by omega), fun _ => ⟨rfl, rfl, rfl⟩⟩, rfl⟩, hd, by simp only [tbulk]; omega⟩
  induction k with
  | zero => intro i done ls a hi hle hdn hb hls hd; exact last i done ls a (by omega) hle hdn hb hls hd
  | succ k ihk =>
   intro i done ls a hi hle hdn hb hls hd
   obtain ⟨u, hu, hul⟩ | h' := bb t.kids i
   ·have hbu := aK hu
    obtain ⟨v, a1, ⟨q1, _⟩, q2, q3⟩ := ih i u hu (by omega) hd
    obtain ⟨M, hM⟩ := ihk (i + 1) (done ++ [v]) ls a1 (by omega) (by omega) (by simp [hdn]) (by rw [rF hu, fE]; simp only [kbulk]; omega) hls q2
    have hg : (done ++ t.kids.drop i)[i]? = some u := by rw [List.getElem?_append_right (by omega), hdn]; simpa using hu
    refine ⟨M + 1, hM.map (Nat.le_refl _) fun w b ⟨h, hw⟩ => ⟨nX M _ _ _ _ _ _ _ _ _ ⟨fun _ => ⟨u, hg, _, _, _, q1, u, hg, ?_⟩, fun h' => absurd (by simp [hdn]; omega) h'⟩, hw⟩⟩
    have : (done ++ t.kids.drop i).set i v = done ++ [v] ++ t.kids.drop (i + 1) := by rw [bk hu]; simp [← hdn]
    rw [this]; exact h
   ·exact last i done ls a h' hle hdn hb hls hd
 have lead : ∀ k i (ls : List (List UInt8)) (a : Int), t.leads.length - i ≤ k → i ≤ t.leads.length → ls.length = t.leads.length → lsum ls ≤ lsum t.leads + 5 * i → Dc L a → ∃ M, Gt L (fun u a' => dv M t L a ls i u L a' ∧ u.kind = t.kind) (6 * tbulk t) := fun k => by
  have hll := wB t.leads
  have last : ∀ i (ls : List (List UInt8)) (a : Int), ¬ i < t.leads.length → i ≤ t.leads.length → ls.length = t.leads.length → lsum ls ≤ lsum t.leads + 5 * i → Dc L a → ∃ M, Gt L (fun u a' => dv M t L a ls i u L a' ∧ u.kind = t.kind) (6 * tbulk t) := fun i ls a hi hle hlen hb hd => by
   obtain ⟨M, hM⟩ := kids t.kids.length 0 [] ls a (by omega) (by omega) rfl (by simp [kbulk]) (by omega) hd
   exact ⟨M + 1, hM.map (Nat.le_refl _) fun w b ⟨h, hw⟩ => ⟨kc M _ _ _ _ _ _ _ _ ⟨fun h' => absurd h' (by omega), fun _ => ⟨by omega, by simpa using h⟩⟩, hw⟩⟩
  induction k with
  | zero => intro i ls a hi hle hlen hb hd; exact last i ls a (by omega) hle hlen hb hd
  | succ k ihk =>
   intro i ls a hi hle hlen hb hd
   obtain ⟨x, hx, hxl⟩ | h' := bb ls i
   ·obtain ⟨n, a1, h1, h2, h3⟩ := fB hd (n := 9) (by omega) (by omega)
    by_cases hn : n = 1
    ·obtain ⟨s, a2, g1, g2, g3⟩ := jD h3 [[32, 35, 32, 99, 10], [32, 32], [10, 9], [35, 10]] (by decide) (by decide)
     have hs5 := iC g2 (by decide)
     have := AU ls i s
     obtain ⟨M, hM⟩ := ihk (i + 1) (ls.set i s) a2 (by omega) (by omega) (by simpa using hlen) (by omega) g3
     exact ⟨M + 1, hM.map (Nat.le_refl _) fun w b ⟨h, hw⟩ => ⟨kc M _ _ _ _ _ _ _ _ ⟨fun _ => ⟨_, _, _, h1, fun _ => ⟨_, _, _, g1, x, hx, h⟩, fun h' => absurd hn h'⟩, fun h' => absurd hxl h'⟩, hw⟩⟩
    ·obtain ⟨M, hM⟩ := ihk (i + 1) ls a1 (by omega) (by omega) hlen (by omega) h3
     exact ⟨M + 1, hM.map (Nat.le_refl _) fun w b ⟨h, hw⟩ => ⟨kc M _ _ _ _ _ _ _ _ ⟨fun _ => ⟨_, _, _, h1, fun h' => absurd h' hn, fun _ => h⟩, fun h' => absurd hxl h'⟩, hw⟩⟩
   ·exact last i ls a (by omega) hle hlen hb hd
 obtain ⟨M, hM⟩ := lead t.leads.length 0 t.leads a (by omega) (by omega) rfl (by omega) hd
 exact hM.map (Nat.le_refl _) fun w b ⟨h, hw⟩ => ⟨ux M _ _ _ _ _ _ ⟨by omega, h⟩, hw⟩
theorem HK {L : List Int} {a : Int} (hd : Dc L a) (name : List UInt8) (hname : name.length ≤ 5) : Gt L (fun t a' => kK L a name t L a' ∧ (t.kind = 1 ∨ t.kind = 0)) 300000 := by
 obtain ⟨n, a1, h1, h2, h3⟩ := fB hd (n := 4) (by omega) (by omega)
 have loop : ∀ (k : Nat) (a : Int) (l : List Tree), Dc L a → l.length + k ≤ 100 → kbulk l + k * 500 ≤ 1500 → Gt L (fun t a' => gw (k + 1) name L a l (k : Int) t L a' ∧ (t.kind = 1 ∨ t.kind = 0)) 300000 := fun k => by
  induction k with
  | zero =>
   intro a l hd hl hb
   have ht : tbulk (.node 1 name [] l) ≤ 1506 := by rw [tbK]; omega
   obtain ⟨u, hu, hub, huk⟩ := FT (.node 1 name [] l) (by omega)
   obtain ⟨z, a2, g1, g2, g3⟩ := fB hd (n := 2) (by omega) (by omega)
   by_cases hz : z = 0
   ·exact (ID u (by omega) g3).map (by omega) fun w b ⟨h, hw⟩ => ⟨jx 0 _ _ _ _ _ _ _ _ ⟨fun h' => by omega, fun _ => ⟨u, hu, _, _, _, g1, fun _ => ⟨_, _, _, h, rfl, rfl, rfl⟩, fun h' => absurd hz h'⟩⟩, by rw [hw]; exact huk⟩
   ·exact ⟨u, a2, ⟨jx 0 _ _ _ _ _ _ _ _ ⟨fun h' => by omega, fun _ => ⟨u, hu, _, _, _, g1, fun h' => absurd h' hz, fun _ => ⟨rfl, rfl, rfl⟩⟩⟩, huk⟩, g3, by omega⟩
  | succ k ihk =>
   intro a l hd hl hb
   obtain ⟨t, b, q1, q2, q3⟩ := ML hd
   exact (ihk b (l ++ [t]) q2 (by simp; omega) (by rw [fE]; simp only [kbulk]; omega)).map (Nat.le_refl _) fun w c ⟨h, hw⟩ => ⟨jx (k + 1) _ _ _ _ _ _ _ _ ⟨fun _ => ⟨_, _, _, q1, by simp; omega, by omega, by rw [show ((k + 1 : Nat) : Int) - 1 = (k : Int) by omega]; exact h⟩, fun h => by omega⟩, hw⟩
 exact (loop n.toNat a1 [] h3 (by simp; omega) (by simp only [kbulk]; omega)).map (Nat.le_refl _) fun w b ⟨h, hw⟩ => ⟨tR (n.toNat + 1) _ _ _ _ _ _ ⟨_, _, _, h1, by rw [show n = ((n.toNat : Nat) : Int) by omega]; exact h⟩, hw⟩
def Mok (p : List Tree) : Prop := ∀ t ∈ p, t.kind = 1 ∧ shapeK t = true
theorem EO (l : List Int) (hl : l.length ≤ 1000000) : ∃ p, kr l p ∧ kbulk p ≤ 1000000 ∧ Mok p := by
 have hd0 : Dc l 0 := ⟨by omega, by omega, by omega⟩
 obtain ⟨n, a1, h1, h2, h3⟩ := fB hd0 (n := 4) (by omega) (by omega)
 have loop : ∀ (k : Nat) (a : Int) (p : List Tree), Dc l a → p.length + k ≤ 3 → kbulk p + k * 300001 ≤ 900003 → Mok p → ∃ r, bz (k + 1) l a p (k : Int) r ∧ kbulk r ≤ 900003 ∧ Mok r := fun k => by
  induction k with
  | zero => intro a p hd hp hb hmk; exact ⟨p, je 0 _ _ _ _ _ ⟨fun h => by omega, fun _ => rfl⟩, by omega, hmk⟩
  | succ k ihk =>
   intro a p hd hp hb hmk
   have hb2 : kbulk p + k * 300001 + 300001 ≤ 900003 := Nat.le_trans (Nat.le_of_eq (by rw [Nat.succ_mul, Nat.add_assoc])) hb
   have hb3 : kbulk p + k * 300001 ≤ 900003 := Nat.le_trans (Nat.le_add_right _ _) hb2
   obtain ⟨x, hx, _⟩ | h' := bb [[(65 : UInt8)], [66], [67]] p.length
   rotate_left
   ·simp at h'; omega
   have hx5 : x.length ≤ 5 := iC (List.mem_of_getElem? hx) (by decide)
   obtain ⟨t, a2, ⟨q1, qk⟩, q2, q3⟩ := HK hd x hx5
   obtain ⟨z, a3, g1, g2, g3⟩ := fB q2 (n := 8) (by omega) (by omega)
   have step : ∀ u : Tree, tbulk u ≤ 300001 → (u.kind = 1 ∨ u.kind = 0) → ∃ b r, ff u b ∧ ((b = true) → (p ++ [u]).length ≤ 1000000000 ∧ InI (((k + 1 : Nat) : Int) - 1) ∧ bz (k + 1) l a3 (p ++ [u]) (((k + 1 : Nat) : Int) - 1) r) ∧ ((b = false) → InI (((k + 1 : Nat) : Int) - 1) ∧ bz (k + 1) l a3 p (((k + 1 : Nat) : Int) - 1) r) ∧ kbulk r ≤ 900003 ∧ Mok r := fun u hu huk => by
    obtain ⟨b, hb', hbs⟩ := Im u (by omega)
    have e : ((k + 1 : Nat) : Int) - 1 = (k : Int) := by omega
    rw [e]
    cases b with
    | true =>
     have hus := hbs rfl
     have hu1 : u.kind = 1 := by
      rcases huk with h | h
      ·exact h
      ·have := rG hus; rw [h] at this; simp [dm] at this
     obtain ⟨r, hr, hrb⟩ := ihk a3 (p ++ [u]) g3 (by simp; omega) (by clear hb; rw [fE]; simp only [kbulk]; omega) (fun t ht => by
      rcases List.mem_append.1 ht with h | h
      ·exact hmk t h
      ·rw [List.mem_singleton] at h; subst h; exact ⟨hu1, hus⟩)
     exact ⟨true, r, hb', fun _ => ⟨by simp; omega, by omega, hr⟩, fun h => (by cases h), hrb⟩
    | false =>
     obtain ⟨r, hr, hrb⟩ := ihk a3 p g3 (by omega) hb3 hmk
     exact ⟨false, r, hb', fun h => (by cases h), fun _ => ⟨by omega, hr⟩, hrb⟩
   by_cases hz : z = 7
   ·have hub : tbulk (.node t.kind [65] t.leads t.kids) ≤ 300001 := by have := aW t; simp only [tbulk, List.length_cons, List.length_nil]; omega
    obtain ⟨b, r, e1, e2, e3, e4⟩ := step _ hub qk
    exact ⟨r, je (k + 1) _ _ _ _ _ ⟨fun _ => ⟨x, hx, _, _, _, q1, _, _, _, g1, fun _ => ⟨b, e1, e2, e3⟩, fun h => absurd hz h⟩, fun h => by omega⟩, e4⟩
   ·obtain ⟨b, r, e1, e2, e3, e4⟩ := step t (by omega) qk
    exact ⟨r, je (k + 1) _ _ _ _ _ ⟨fun _ => ⟨x, hx, _, _, _, q1, _, _, _, g1, fun h => absurd h hz, fun _ => ⟨b, e1, e2, e3⟩⟩, fun h => by omega⟩, e4⟩
 obtain ⟨r, hr, hrb, hrm⟩ := loop n.toNat a1 [] h3 (by simp; omega) (by simp only [kbulk]; omega) (fun t h => by cases h)
 exact ⟨r, sS (n.toNat + 1) _ _ ⟨_, _, vc 0 _ _ _ ⟨by omega, rfl, rfl⟩, _, _, _, h1, by rw [show n = ((n.toNat : Nat) : Int) by omega]; exact hr⟩, by omega, hrm⟩
def FaB (B : Nat) (s : Sv) : Prop := ∀ e ∈ s.fa, e.At.Path.length ≤ B
theorem lR {B : Nat} {x : Cx} {k : Int} {b : List Int} {s : Sv} (h : FaB B s) (hb : x.pa.length + b.length ≤ B) : FaB B (faP x k b s) := fun e he => by
 rcases List.mem_append.1 he with he | he
 ·exact h e he
 ·simp only [List.mem_singleton] at he
  subst he; simpa using hb
theorem Me {B : Nat} {x : Cx} {i : Nat} {k : Kn} {s : Sv} (h : FaB B s) : FaB B (knS x i k s) := by unfold FaB; rw [Ff]; exact h
def ExF (B : Nat) (E : Ev) (n : Nat) : Prop := ∀ (t : Tree) (x : Cx) (env : Env) (s : Sv), FaB B s → x.pa.length + 2 * n + 3 ≤ B → FaB B (E x t env s).2
theorem vo {B n : Nat} {E : Ev} (h : ExF B E n) (t : Tree) (x : Cx) (i : Nat) (env : Env) (s : Sv) (hs : FaB B s) (hb : x.pa.length + 2 * n + 4 ≤ B) : FaB B (aU E x t i env s).2 := by
 have := h (cp t i) (x.go i) env s hs (by simp [Cx.go]; omega)
 unfold aU
 cases hq : E (x.go i) (cp t i) env s with
 | mk k s1 =>
  rw [hq] at this
  exact Me this
theorem kG {B : Nat} {c : Prop} [Decidable c] {a b : Sv} (ha : FaB B a) (hb : FaB B b) : FaB B (if c then a else b) := by split <;> assumption
theorem Ba {B n : Nat} {E : Ev} (h : ExF B E n) (x : Cx) (ps : List Kn) (env : Env) (hb : x.pa.length + 2 * n + 5 ≤ B) : ∀ (l : List Tree) (i : Nat) (s : Sv), FaB B s → FaB B (ij E x ps env l i s)
 | [], i, s, hs => hs
 | a :: r, i, s, hs => by
  have h1 := vo h a (x.go (i : Int)) 0 env s hs (by simp [Cx.go]; omega)
  simp only [ij]
  refine Ba h x ps env hb r (i + 1) _ ?_
  cases hq : aU E (x.go (i : Int)) a 0 env s with
  | mk k s1 =>
   rw [hq] at h1
   simp only [sF]
   split
   ·exact kG (lR h1 (by simp; omega)) h1
   ·exact h1
theorem CE {B n : Nat} {E : Ev} (h : ExF B E n) (x : Cx) (t : Tree) (env : Env) (hb : x.pa.length + 2 * n + 4 ≤ B) : ∀ (k i : Nat) (r : Kn × Sv), FaB B r.2 → FaB B (im E x t env k i r).2
 | 0, i, r, hs => hs
 | k + 1, i, (f, s), hs => by
  have h1 := vo h t x i env s hs hb
  simp only [im]
  refine CE h x t env hb k (i + 1) _ ?_
  cases hq : aU E x t i env s with
  | mk a s1 =>
   rw [hq] at h1
   simp only [Bl]
   exact kG (lR h1 (by simp; omega)) h1
theorem Lu {B : Nat} {x : Cx} {w : List UInt8} {a b : Kn} {s : Sv} (h : FaB B s) (hb : x.pa.length + 1 ≤ B) : FaB B (opQ x w a (b, s)).2 := by
 have f : ∀ (k : Int) (z : Int) (s : Sv), FaB B s → FaB B (faP x k [z] s) := fun k z s hs => lR hs (by simpa using hb)
 unfold opQ
 by_cases h1 : w = [43]
 ·simp only [if_pos h1]
  unfold qh
  repeat' split
  all_goals first | exact f _ _ _ (f _ _ _ h) | exact f _ _ _ h | exact h
 ·simp only [if_neg h1]
  by_cases h2 : w = [61, 61]
  ·simp only [if_pos h2]
   split
   ·exact f _ _ _ h
   ·exact h
  ·simp only [if_neg h2]
   unfold tF
   repeat' split
   all_goals first | exact f _ _ _ (f _ _ _ h) | exact f _ _ _ h | exact h
theorem Bj {B : Nat} : ∀ n : Nat, ExF B (aT n) n
 | 0 => fun t x env s hs _ => hs
 | n + 1 => fun t x env s hs hb => by
  have h := Bj (B := B) n
  have K := fun (i : Nat) (env : Env) (s : Sv) (hs : FaB B s) => vo h t x i env s hs (by omega)
  simp only [aT, cX]
  split; · exact hs
  split; · exact hs
  split; · exact hs
  split; · exact hs
  split
  ·cases nZ t.text env with
   | none => exact lR hs (by simp; omega)
   | some k => exact hs
  split
  ·unfold pD
   refine Ba h x _ env (by omega) t.kids 0 _ ?_
   unfold rL
   have hu : FaB B (dy s) := hs
   exact kG (lR hu (by simp; omega)) (kG hu (lR hu (by simp; omega)))
  split
  ·have := CE h x t env (by omega) t.kids.length 0 (⟨0, 0⟩, s) hs
   cases hq : im (aT n) x t env t.kids.length 0 (⟨0, 0⟩, s) with
   | mk a s1 => rw [hq] at this; exact this
  split
  ·unfold ifP
   have h0 := K 0 env s hs
   have h1 : FaB B (ifS x (aU (aT n) x t 0 env s)) := by
    cases hq : aU (aT n) x t 0 env s with
    | mk a s1 => rw [hq] at h0; exact kG (lR h0 (by simp; omega)) h0
   have h2 := K 1 env _ h1
   cases hq : aU (aT n) x t 1 env (ifS x (aU (aT n) x t 0 env s)) with
   | mk a s1 =>
    rw [hq] at h2
    have h3 := K 2 env s1 h2
    simp only [ifR]
    cases hq2 : aU (aT n) x t 2 env s1 with
    | mk b s2 => rw [hq2] at h3; exact kG (lR h3 (by simp; omega)) h3
  split
  ·have h0 := K 0 env s hs
   cases hq : aU (aT n) x t 0 env s with
   | mk a s1 => rw [hq] at h0; exact K 1 _ s1 h0
  split
  ·have h0 := K 0 env s hs
   cases hq : aU (aT n) x t 0 env s with
   | mk a s1 =>
    rw [hq] at h0
    have h1 := K 1 env s1 h0
    simp only [ua]
    cases hq2 : aU (aT n) x t 1 env s1 with
    | mk b s2 => rw [hq2] at h1; exact Lu h1 (by omega)
  split
  ·exact K 0 env s hs
  ·exact hs
theorem vI {B : Nat} : ∀ (n : Nat) (x : Cx) (u : Tree) (s : Sv), FaB B s → x.pa.length + n ≤ B → FaB B (eu n x u s)
 | 0, x, u, s, hs, _ => hs
 | n + 1, x, u, s, hs, hb => by
  have hu : FaB B (dy s) := hs
  simp only [eu]
  exact kG (kG (lR hu (by simp; omega)) hu) (kG (vI n _ _ s hs (by simp [Cx.go]; omega)) hs)
theorem Do {B L : Nat} (x : Cx) : ∀ (l : List Tree) (i : Nat) (s : Sv), (∀ a ∈ l, tbulk a ≤ L) → FaB B s → x.pa.length + 2 + L ≤ B → FaB B (lH x l i s)
 | [], i, s, _, hs, _ => hs
 | k :: r, i, s, hl, hs, hb => by
  have := hl k (by simp)
  have := ly k 0
  exact Do x r (i + 1) _ (fun a ha => hl a (by simp [ha])) (vI _ _ _ _ hs (by simp [Cx.go]; omega)) hb
theorem Kv {B : Nat} (x : Cx) (d : Nat) (f : Tree) (s : Sv) (hs : FaB B s) (hb : x.pa.length + 2 * tbulk f + 6 ≤ B) : FaB B (nW x d f s) := by
 unfold nW
 refine kG ?_ ?_
 ·obtain ⟨g, hg⟩ : ∃ g, g = (mlook (x.mo, (d : Int)) x.sg).getD noG := ⟨_, rfl⟩
  rw [← hg]
  unfold so
  have h1 : FaB B (lH (x.go (d : Int)) (f.kids.take (f.kids.length - 2)) 0 s) := Do (L := tbulk f) _ _ 0 s (fun a ha => by
   obtain ⟨i, hi⟩ := List.getElem?_of_mem (List.mem_of_mem_take ha)
   have := aK hi; omega) hs (by simp [Cx.go]; omega)
  have h2 := vI (B := B) (tbulk f) ((x.go (d : Int)).go ((f.kids.length - 2 : Nat) : Int)) (cp f (f.kids.length - 2)) _ h1 (by simp [Cx.go]; omega)
  have h3 := vo (Bj (B := B) (tbulk f)) f (x.go (d : Int)) (f.kids.length - 1) (kQ (f.kids.take (f.kids.length - 2)) g.params) _ h2 (by simp [Cx.go]; omega)
  cases hq : aU (aT (tbulk f)) (x.go (d : Int)) f (f.kids.length - 1) (kQ (f.kids.take (f.kids.length - 2)) g.params) (eu (tbulk f) ((x.go (d : Int)).go ((f.kids.length - 2 : Nat) : Int)) (cp f (f.kids.length - 2)) (lH (x.go (d : Int)) (f.kids.take (f.kids.length - 2)) 0 s)) with
  | mk k s1 =>
   rw [hq] at h3
   exact kG (lR h3 (by simp [Cx.go]; omega)) h3
 ·unfold yq
  exact vI _ _ _ _ (kG (lR hs (by simp [Cx.go]; omega)) hs) (by simp [Cx.go]; omega)
theorem AL {B L : Nat} (x : Cx) (hb : x.pa.length + 2 * L + 6 ≤ B) : ∀ (l : List Tree) (d : Nat) (s : Sv), (∀ f ∈ l, tbulk f ≤ L) → FaB B s → FaB B (lm x l d s)
 | [], d, s, _, hs => hs
 | f :: r, d, s, hl, hs => by
  have := hl f (by simp)
  exact AL x hb r (d + 1) _ (fun a ha => hl a (by simp [ha])) (Kv x d f s hs (by omega))
theorem fab_mods {B L : Nat} (x : Cx) (hb : x.pa.length + 2 * L + 6 ≤ B) : ∀ (l : List Tree) (m : Nat) (s : Sv), (∀ t ∈ l, tbulk t ≤ L) → FaB B s → FaB B (ld x l m s)
 | [], m, s, _, hs => hs
 | t :: r, m, s, hl, hs => by
  have ht := hl t (by simp)
  exact fab_mods x hb r (m + 1) _ (fun a ha => hl a (by simp [ha])) (AL (x.md (m : Int)) hb t.kids 0 s (fun f hf => by
   obtain ⟨i, hi⟩ := List.getElem?_of_mem hf
   have := aK hi; omega) hs)
theorem Jm {p : List Tree} (nm : List ((Int × List UInt8) × ac)) (wm : Int) (wp : List Int) : FaB (2 * kbulk p + 6) (ke p nm wm wp) :=
 fab_mods (L := kbulk p) (cxN p nm wm wp) (by simp [cxN]) p 0 _ (fun t ht => by
  obtain ⟨i, hi⟩ := List.getElem?_of_mem ht
  exact ct hi) (fun e he => by simp at he)
end Go.Proofs.YtomplbgchbfjpaaGreatDoor
