/- Contracts of the functions that the law reaches, part 4. -/
import Derived.Test.YteglbnopdedadaaGreatLf3
set_option linter.unusedVariables false
set_option linter.unusedSimpArgs false
namespace Go.Proofs.YteglbnopdedadaaGreat
open Go.RowKit Lx Sx
set_option maxRecDepth 100000
set_option maxHeartbeats 4000000
structure GSemvcsref02Piece where
  Lead : (List UInt8)
  Text : (List UInt8)
abbrev GSemvcsref02Piece.c (x : GSemvcsref02Piece) : List V := [.str x.Lead, .str x.Text]
abbrev GSemvcsref02Piece.w (x : GSemvcsref02Piece) : V := .agg x.c
def S_semvcsref01_Trivia (p0 : (List UInt8)) (p1 : Bool) (r0 : Bool) : Prop := Sum0 Tryz.prog 123 [.str p0, .bool p1] (.bool r0)
def S_semvcsref01_Fuses (p0 : (List UInt8)) (p1 : (List UInt8)) (r0 : Bool) : Prop := Sum0 Tryz.prog 96 [.str p0, .str p1] (.bool r0)
def S_semvcsmake_Mod (p0 : Int) (p1 : Int) (r0 : Int) : Prop := Sum0 Tryz.prog 34 [.int .i64 p0, .int .i64 p1] (.int .i64 r0)
def S_semvcsmake_Roll (p0 : (List Int)) (r0_L : (List Int)) (r0_At : Int) : Prop := SumP [] Tryz.prog 37 [.row 1 (List.map (V.int .i64) p0)] ⟨0, []⟩ (fun u G => u = .ptr 0 0 ∧ G = ⟨1, [(0, .var 100 [.row 1 (List.map (V.int .i64) r0_L), .int .i64 r0_At])]⟩)
def S_semvcsmake_Light (p0 : (List Int)) (r0 : Bool) : Prop := Sum0 Tryz.prog 11 [.row 1 (List.map (V.int .i64) p0)] (.bool r0)
def S_semvcsmake_pick (p0_L : (List Int)) (p0_At : Int) (p1 : (List (List UInt8))) (r0 : (List UInt8)) (q0_L : (List Int)) (q0_At : Int) : Prop := SumP [] Tryz.prog 90 [.ptr 0 0, .row 1 (List.map V.str p1)] ⟨1, [(0, .var 100 [.row 1 (List.map (V.int .i64) p0_L), .int .i64 p0_At])]⟩ (fun u G => u = .str r0 ∧ G = ⟨1, [(0, .var 100 [.row 1 (List.map (V.int .i64) q0_L), .int .i64 q0_At])]⟩)
def S_semvcsmake_typ (p0_L : (List Int)) (p0_At : Int) (p1 : Int) (r0 : Tree) (q0_L : (List Int)) (q0_At : Int) : Prop := SumP [] Tryz.prog 91 [.ptr 0 0, .int .i64 p1] ⟨1, [(0, .var 100 [.row 1 (List.map (V.int .i64) p0_L), .int .i64 p0_At])]⟩ (fun u G => u = .agg (treeC r0) ∧ G = ⟨2, [(0, .var 100 [.row 1 (List.map (V.int .i64) q0_L), .int .i64 q0_At])]⟩)
def S_semvcsmake_unit (p0_L : (List Int)) (p0_At : Int) (p1 : Int) (r0 : Tree) (q0_L : (List Int)) (q0_At : Int) : Prop := SumP [] Tryz.prog 120 [.ptr 0 0, .int .i64 p1] ⟨1, [(0, .var 100 [.row 1 (List.map (V.int .i64) p0_L), .int .i64 p0_At])]⟩ (fun u G => u = .agg (treeC r0) ∧ G = ⟨2, [(0, .var 100 [.row 1 (List.map (V.int .i64) q0_L), .int .i64 q0_At])]⟩)
def S_semvcsmake_Expr (p0_L : (List Int)) (p0_At : Int) (p1 : Int) (r0 : Tree) (q0_L : (List Int)) (q0_At : Int) : Prop := SumP [] Tryz.prog 92 [.ptr 0 0, .int .i64 p1] ⟨1, [(0, .var 100 [.row 1 (List.map (V.int .i64) p0_L), .int .i64 p0_At])]⟩ (fun u G => u = .agg (treeC r0) ∧ G = ⟨2, [(0, .var 100 [.row 1 (List.map (V.int .i64) q0_L), .int .i64 q0_At])]⟩)
def S_semvcsmake_Def (p0_L : (List Int)) (p0_At : Int) (r0 : Tree) (q0_L : (List Int)) (q0_At : Int) : Prop := SumP [] Tryz.prog 62 [.ptr 0 0] ⟨1, [(0, .var 100 [.row 1 (List.map (V.int .i64) p0_L), .int .i64 p0_At])]⟩ (fun u G => u = .agg (treeC r0) ∧ G = ⟨2, [(0, .var 100 [.row 1 (List.map (V.int .i64) q0_L), .int .i64 q0_At])]⟩)
def S_semvcsmake_leads (p0_L : (List Int)) (p0_At : Int) (p1 : Tree) (r0 : Tree) (q0_L : (List Int)) (q0_At : Int) : Prop := SumP [] Tryz.prog 64 [.ptr 0 0, .agg (treeC p1)] ⟨1, [(0, .var 100 [.row 1 (List.map (V.int .i64) p0_L), .int .i64 p0_At])]⟩ (fun u G => u = .agg (treeC r0) ∧ G = ⟨2, [(0, .var 100 [.row 1 (List.map (V.int .i64) q0_L), .int .i64 q0_At])]⟩)
def S_semvcsmake_Module (p0_L : (List Int)) (p0_At : Int) (p1 : (List UInt8)) (r0 : Tree) (q0_L : (List Int)) (q0_At : Int) : Prop := SumP [] Tryz.prog 39 [.ptr 0 0, .str p1] ⟨1, [(0, .var 100 [.row 1 (List.map (V.int .i64) p0_L), .int .i64 p0_At])]⟩ (fun u G => u = .agg (treeC r0) ∧ G = ⟨2, [(0, .var 100 [.row 1 (List.map (V.int .i64) q0_L), .int .i64 q0_At])]⟩)
def S_semvcsmake_Program (p0 : (List Int)) (r0 : (List Tree)) : Prop := Sum0 Tryz.prog 13 [.row 1 (List.map (V.int .i64) p0)] (.row 4 (kidsV r0))
def S_semvcsmake_Dice_Next (p0_L : (List Int)) (p0_At : Int) (p1 : Int) (r0 : Int) (q0_L : (List Int)) (q0_At : Int) : Prop := SumP [] Tryz.prog 38 [.ptr 0 0, .int .i64 p1] ⟨1, [(0, .var 100 [.row 1 (List.map (V.int .i64) p0_L), .int .i64 p0_At])]⟩ (fun u G => u = .int .i64 r0 ∧ G = ⟨1, [(0, .var 100 [.row 1 (List.map (V.int .i64) q0_L), .int .i64 q0_At])]⟩)
def S_semvcsref04_blanks (p0 : Int) (r0 : (List (List UInt8))) : Prop := SumP [] Tryz.prog 121 [.int .i64 p0] ⟨0, []⟩ (fun u G => u = .sl 0 ∧ G = ⟨1, [(0, .row 9 1 (List.map V.str r0))]⟩)
def S_semvcsref04_before (p0 : Tree) (p1 : Int) (p2 : (List UInt8)) (r0 : (List UInt8)) : Prop := Sum0 Tryz.prog 122 [.agg (treeC p0), .int .i64 p1, .str p2] (.str r0)
def S_semvcsref04_arrange (p0 : Tree) (p1 : (List UInt8)) (r0 : Tree) : Prop := Sum0 Tryz.prog 93 [.agg (treeC p0), .str p1] (.agg (treeC r0))
def S_semvcsref04_Arrange (p0 : Tree) (r0 : Tree) : Prop := Sum0 Tryz.prog 63 [.agg (treeC p0)] (.agg (treeC r0))
def S_semvcsref02_Valid (p0 : Tree) (r0 : Bool) : Prop := Sum0 Tryz.prog 40 [.agg (treeC p0)] (.bool r0)
def S_semvcsref02_Printable (p0 : Tree) (r0 : Bool) : Prop := Sum0 Tryz.prog 65 [.agg (treeC p0)] (.bool r0)
def S_semvcsref02_leads (p0 : Tree) (r0 : Bool) : Prop := Sum0 Tryz.prog 94 [.agg (treeC p0)] (.bool r0)
def S_semvcsref02_limits (p0 : Tree) (r0 : Bool) : Prop := Sum0 Tryz.prog 66 [.agg (treeC p0)] (.bool r0)
def S_semvcsref02_Depth (p0 : Tree) (r0 : Int) : Prop := Sum0 Tryz.prog 67 [.agg (treeC p0)] (.int .i64 r0)
def S_semvcsref02_Print (p0 : Tree) (r0 : (List UInt8)) : Prop := Sum0 Tryz.prog 68 [.agg (treeC p0)] (.str r0)
def S_semvcsref02_Pieces (p0 : Tree) (r0 : (List GSemvcsref02Piece)) : Prop := Sum0 Tryz.prog 95 [.agg (treeC p0)] (.row 2 (List.map GSemvcsref02Piece.w r0))
def S_semvcsref02_pieces (p0 : (List GSemvcsref02Piece)) (p1 : Tree) (r0 : (List GSemvcsref02Piece)) : Prop := SumP [] Tryz.prog 124 [.sl 0, .agg (treeC p1)] ⟨1, [(0, .row 131 2 (List.map GSemvcsref02Piece.w p0))]⟩ (fun u G => u = .sl 1 ∧ G = ⟨2, [(1, .row 131 2 (List.map GSemvcsref02Piece.w r0))]⟩)
def S_semvcsref02_row (p0 : (List GSemvcsref02Piece)) (p1 : Tree) (p2 : Int) (p3 : Int) (p4 : Int) (r0 : (List GSemvcsref02Piece)) : Prop := SumP [] Tryz.prog 148 [.sl 0, .agg (treeC p1), .int .i64 p2, .int .i64 p3, .int .i64 p4] ⟨1, [(0, .row 131 2 (List.map GSemvcsref02Piece.w p0))]⟩ (fun u G => u = .sl 1 ∧ G = ⟨2, [(1, .row 131 2 (List.map GSemvcsref02Piece.w r0))]⟩)
def S_semvcsref02_lead (p0 : Tree) (p1 : Int) (r0 : (List UInt8)) : Prop := Sum0 Tryz.prog 147 [.agg (treeC p0), .int .i64 p1] (.str r0)
theorem rS_semvcsmake_Mod (m : Nat) (p0 : Int) (p1 : Int) (r0 : Int) (h : p1 ≠ 0 ∧ (((Int.tmod p0 p1) < 0) → InI ((Int.tmod p0 p1) + p1) ∧ ((Int.tmod p0 p1) + p1) = r0) ∧ ((¬ (Int.tmod p0 p1) < 0) → (Int.tmod p0 p1) = r0)) : S_semvcsmake_Mod p0 p1 r0 := by
  refine ⟨rfl, rfl, ?_⟩
  refine sum_enter 14 [] Tryz.func34 rfl rfl rfl (pv_of rfl) fun K hK => ?_
  refine gR 9 rfl ?_
  obtain ⟨hb, h⟩ := h
  refine gY (yRem rfl rfl hb) rfl rfl ?_
  refine gR 10 rfl ?_
  refine gB 9 rfl rfl rfl (fun hd => ?_) (fun hd => ?_)
  · replace hd := (of_decide_eq_true hd)
    replace h := h.1 hd
    refine gR 4 rfl ?_
    obtain ⟨hb, h⟩ := h
    refine gR 1 rfl ?_
    refine gV 12 (.int .i64 ((Int.tmod p0 p1) + p1)) rfl (wrapI hb rfl) rfl ?_
    refine gR 10 rfl ?_
    subst h
    refine go_sub (F' := (mkF 14 0 [(4, .int .i64 ((Int.tmod p0 p1) + p1))])) (H' := ⟨0, []⟩) [] [] rfl hK ⟨⟨_, rfl, .rfl⟩, trivial⟩ trivial rfl ?_
    exact go_end tabS_ok (rs := [.tmp 4]) rfl rfl rfl
  · replace hd := (of_decide_eq_false hd)
    replace h := h.2 hd
    refine gR 10 rfl ?_
    subst h
    refine go_sub (F' := (mkF 14 0 [(4, .int .i64 (Int.tmod p0 p1))])) (H' := ⟨0, []⟩) [] [] rfl hK ⟨⟨_, rfl, .rfl⟩, trivial⟩ trivial rfl ?_
    exact go_end tabS_ok (rs := [.tmp 4]) rfl rfl rfl
theorem rS_semvcsmake_Roll (m : Nat) (p0 : (List Int)) (r0_L : (List Int)) (r0_At : Int) (h : p0.length ≤ 1000000000 ∧ p0 = r0_L ∧ 0 = r0_At) : S_semvcsmake_Roll p0 r0_L r0_At := by
  refine sum_enter 8 [] Tryz.func37 rfl rfl rfl (pv_of rfl) fun K hK => ?_
  refine gR 9 rfl ?_
  obtain ⟨hb, h⟩ := h
  refine gDo (.repl 0 (.row 3 1 (List.map (V.int .i64) p0))) (dAp' tabS_ok rfl rfl rfl rfl rfl (List.nil_append _) (by rw [lenM]; exact hb)) (okR rfl) rfl rfl rfl ?_
  refine gR 6 rfl ?_
  refine gFR 1 rfl (pureM _ (fun _ => rfl) _) rfl rfl ?_
  obtain ⟨rfl, rfl⟩ := h
  refine go_sub (F' := (mkF 8 0 [(2, .ptr 0 0)])) (H' := ⟨1, [(0, .var 100 [.row 1 (List.map (V.int .i64) p0), .int .i64 0])]⟩) [2] [] rfl hK ⟨⟨_, rfl, .rfl⟩, trivial⟩ ⟨⟨_, rfl, ⟨rfl, SubL.rfl⟩⟩, trivial⟩ rfl ?_
  exact go_endD [] tabS_ok (rs := [.tmp 2]) rfl rfl ⟨rfl, rfl⟩
theorem rS_semvcsmake_Light (m : Nat) (p0 : (List Int)) (r0 : Bool) (h : decide (((p0.length : Nat) : Int) ≤ 120) = r0) : S_semvcsmake_Light p0 r0 := by
  refine ⟨rfl, rfl, ?_⟩
  refine sum_enter 6 [] Tryz.func11 rfl rfl rfl (pv_of rfl) fun K hK => ?_
  refine gR 9 rfl ?_
  refine gV 4 (.int .i64 ((p0.length : Nat) : Int)) rfl (lenI (lenM (V.int .i64) _)) rfl ?_
  refine gLB 3 rfl (lenM (V.int .i64) _) fun hl2 => ?_
  refine gR 5 rfl ?_
  subst h
  refine go_sub (F' := (mkF 6 0 [(2, .bool (decide (((p0.length : Nat) : Int) ≤ 120)))])) (H' := ⟨0, []⟩) [] [] rfl hK ⟨⟨_, rfl, .rfl⟩, trivial⟩ trivial rfl ?_
  exact go_end tabS_ok (rs := [.tmp 2]) rfl rfl rfl
theorem rS_semvcsmake_pick (m : Nat) (p0_L : (List Int)) (p0_At : Int) (p1 : (List (List UInt8))) (r0 : (List UInt8)) (q0_L : (List Int)) (q0_At : Int) (h : ∃ (n0_1 : Int), ∃ (r0_2 : (List Int)), ∃ (n0_3 : Int), S_semvcsmake_Dice_Next p0_L p0_At ((p1.length : Nat) : Int) n0_1 r0_2 n0_3 ∧ ∃ (k0_4 : Nat), n0_1 = ((k0_4 : Nat) : Int) ∧ ∃ (s0_5 : (List UInt8)), p1[k0_4]? = some s0_5 ∧ s0_5 = r0 ∧ r0_2 = q0_L ∧ n0_3 = q0_At) : S_semvcsmake_pick p0_L p0_At p1 r0 q0_L q0_At := by
  refine sum_enter 12 [0] Tryz.func90 rfl rfl rfl (pv_of rfl) fun K hK => ?_
  refine gR 11 rfl ?_
  refine gV 8 (.int .i64 ((p1.length : Nat) : Int)) rfl (lenI (lenM V.str _)) rfl ?_
  refine gLB 7 rfl (lenM V.str _) fun hl3 => ?_
  obtain ⟨n0_1, r0_2, n0_3, hs4, h⟩ := h
  refine gC hs4 [0] (by kernel_rfl) rfl rfl .rfl ⟨⟨_, rfl, ⟨rfl, SubL.rfl⟩⟩, trivial⟩ rfl ?_
  rintro _ _ ⟨rfl, rfl⟩
  obtain ⟨k0_4, ek0_4, h⟩ := h
  refine gV 9 (.int .i64 ((k0_4 : Nat) : Int)) rfl (lenI' ek0_4) rfl ?_
  obtain ⟨s0_5, hxs0_5, h⟩ := h
  refine gY (yIR' (mapget (f := V.str) hxs0_5) tabS_ok rfl rfl rfl rfl) rfl rfl ?_
  refine gR 5 rfl ?_
  obtain ⟨rfl, rfl, rfl⟩ := h
  refine go_sub (F' := (mkF 12 0 [(4, .str s0_5)])) (H' := ⟨1, [(0, .var 100 [.row 1 (List.map (V.int .i64) r0_2), .int .i64 n0_3])]⟩) [0] [0] rfl hK ⟨⟨_, rfl, .rfl⟩, trivial⟩ ⟨⟨_, rfl, ⟨rfl, SubL.rfl⟩⟩, trivial⟩ rfl ?_
  exact go_endD [] tabS_ok (rs := [.tmp 4]) rfl rfl ⟨rfl, rfl⟩
def L0_semvcsmake_typ (m : Nat) (p1 : Int) (n0_1 : Int) (r0_2 : (List Int)) (n0_3 : Int) (b1v1 : Bool) (r0 : Tree) (q0_L : (List Int)) (q0_At : Int) : Prop := ∀ (K : Ctx), PinB K [0] → Go Tryz.prog K (bodyPost Tryz.prog Tryz.f91 (SP K (fun u G => u = .agg (treeC r0) ∧ G = ⟨2, [(0, .var 100 [.row 1 (List.map (V.int .i64) q0_L), .int .i64 q0_At])]⟩))) (.code (cB (cK (cB (cA (cB (bodyC Tryz.f91))))))) [.blk 0, .seq (cB (cB (bodyC Tryz.f91)))] 32 (mkF 32 0 [(0, .ptr 0 0), (1, .int .i64 p1), (4, .ptr 1 0), (6, .int .i64 n0_1), (7, .bool b1v1)]) ⟨2, [(1, .var 32 [.int .i64 0, .str [], .nils, .nils]), (0, .var 100 [.row 1 (List.map (V.int .i64) r0_2), .int .i64 n0_3])]⟩
theorem rS_semvcsmake_typ (m : Nat) (p0_L : (List Int)) (p0_At : Int) (p1 : Int) (r0 : Tree) (q0_L : (List Int)) (q0_At : Int) (h : ∃ (n0_1 : Int), ∃ (r0_2 : (List Int)), ∃ (n0_3 : Int), S_semvcsmake_Dice_Next p0_L p0_At 7 n0_1 r0_2 n0_3 ∧ ((n0_1 = 0) → L0_semvcsmake_typ m p1 n0_1 r0_2 n0_3 true r0 q0_L q0_At) ∧ ((n0_1 ≠ 0) → L0_semvcsmake_typ m p1 n0_1 r0_2 n0_3 (n0_1 == 1) r0 q0_L q0_At)) : S_semvcsmake_typ p0_L p0_At p1 r0 q0_L q0_At := by
  refine sum_enter 32 [0] Tryz.func91 rfl rfl rfl (pv_of rfl) fun K hK => ?_
  refine gR 9 rfl ?_
  obtain ⟨n0_1, r0_2, n0_3, hs8, h⟩ := h
  refine gC hs8 [0] (by kernel_rfl) rfl rfl .rfl ⟨⟨_, rfl, ⟨rfl, SubL.rfl⟩⟩, trivial⟩ rfl ?_
  rintro _ _ ⟨rfl, rfl⟩
  refine gR 10 rfl ?_
  refine gB 7 rfl rfl rfl (fun hd => ?_) (fun hd => ?_)
  · refine gT 8 rfl hd rfl ?_
    replace hd := (eq_of_beq hd)
    replace h := h.1 hd
    refine gR 3 rfl ?_
    exact gJ (h K hK) [0, 1] [0] rfl hK ⟨⟨_, rfl, .rfl⟩, ⟨_, rfl, .rfl⟩, ⟨_, rfl, .rfl⟩, ⟨_, rfl, .rfl⟩, ⟨_, rfl, .rfl⟩, trivial⟩ ⟨⟨_, rfl, ⟨rfl, SubL.rfl⟩⟩, ⟨⟨_, rfl, ⟨rfl, SubL.rfl⟩⟩, trivial⟩⟩ rfl
  · refine gF 8 rfl hd rfl ?_
    replace hd := (ne_of_beq_false hd)
    replace h := h.2 hd
    refine gR 6 rfl ?_
    exact gJ (h K hK) [0, 1] [0] rfl hK ⟨⟨_, rfl, .rfl⟩, ⟨_, rfl, .rfl⟩, ⟨_, rfl, .rfl⟩, ⟨_, rfl, .rfl⟩, ⟨_, rfl, .rfl⟩, trivial⟩ ⟨⟨_, rfl, ⟨rfl, SubL.rfl⟩⟩, ⟨⟨_, rfl, ⟨rfl, SubL.rfl⟩⟩, trivial⟩⟩ rfl
theorem rL0_semvcsmake_typ (m : Nat) (p1 : Int) (n0_1 : Int) (r0_2 : (List Int)) (n0_3 : Int) (b1v1 : Bool) (r0 : Tree) (q0_L : (List Int)) (q0_At : Int) (h : ((b1v1 = true) → (Tree.node 5 [] [] []) = r0 ∧ r0_2 = q0_L ∧ n0_3 = q0_At) ∧ ((b1v1 = false) → ((n0_1 = 2) → (Tree.node 7 [] [] []) = r0 ∧ r0_2 = q0_L ∧ n0_3 = q0_At) ∧ ((n0_1 ≠ 2) → ((n0_1 = 3) → (Tree.node 6 [] [] []) = r0 ∧ r0_2 = q0_L ∧ n0_3 = q0_At) ∧ ((n0_1 ≠ 3) → ((n0_1 = 4) → ∃ (s1_1 : (List UInt8)), ∃ (r1_2 : (List Int)), ∃ (n1_3 : Int), S_semvcsmake_pick r0_2 n0_3 [[84], [85], [65, 46, 84], [66, 46, 85]] s1_1 r1_2 n1_3 ∧ (Tree.node 9 s1_1 [] []) = r0 ∧ r1_2 = q0_L ∧ n1_3 = q0_At) ∧ ((n0_1 ≠ 4) → ((p1 < 1) → (Tree.node 5 [] [] []) = r0 ∧ r0_2 = q0_L ∧ n0_3 = q0_At) ∧ ((¬ p1 < 1) → InI (p1 - 1) ∧ ∃ (t1_4 : Tree), ∃ (r1_5 : (List Int)), ∃ (n1_6 : Int), S_semvcsmake_typ r0_2 n0_3 (p1 - 1) t1_4 r1_5 n1_6 ∧ (Tree.node 8 [] [] [t1_4]) = r0 ∧ r1_5 = q0_L ∧ n1_6 = q0_At)))))) : L0_semvcsmake_typ (m + 1) p1 n0_1 r0_2 n0_3 b1v1 r0 q0_L q0_At := by
  intro K hK
  refine gB 7 rfl rfl rfl (fun hd => ?_) (fun hd => ?_)
  · skip
    replace h := h.1 hd
    refine gR 10 rfl ?_
    obtain ⟨rfl, rfl, rfl⟩ := h
    refine go_sub (F' := (mkF 32 0 [(4, .ptr 1 0)])) (H' := ⟨2, [(1, .var 32 [.int .i64 ((Tree.node 5 [] [] []).kind), .str ((Tree.node 5 [] [] []).text), .row 1 (List.map V.str ((Tree.node 5 [] [] []).leads)), .row 4 (kidsV ((Tree.node 5 [] [] []).kids))]), (0, .var 100 [.row 1 (List.map (V.int .i64) r0_2), .int .i64 n0_3])]⟩) [0, 1] [0] rfl hK ⟨⟨_, rfl, .rfl⟩, trivial⟩ ⟨⟨_, rfl, ⟨rfl, (.cons .rfl (.cons .rfl (.cons (.nil 1) (.cons (.nil 4) .nil))))⟩⟩, ⟨⟨_, rfl, ⟨rfl, SubL.rfl⟩⟩, trivial⟩⟩ rfl ?_
    exact go_endD [1] tabS_ok (rs := [.cell 4 32]) rfl rfl ⟨rfl, rfl⟩
  · skip
    replace h := h.2 hd
    refine gR 7 rfl ?_
    refine gB 11 rfl rfl rfl (fun hd => ?_) (fun hd => ?_)
    · refine gT 12 rfl hd rfl ?_
      replace hd := (eq_of_beq hd)
      replace h := h.1 hd
      refine gR 10 rfl ?_
      obtain ⟨rfl, rfl, rfl⟩ := h
      refine go_sub (F' := (mkF 32 0 [(4, .ptr 1 0)])) (H' := ⟨2, [(1, .var 32 [.int .i64 ((Tree.node 7 [] [] []).kind), .str ((Tree.node 7 [] [] []).text), .row 1 (List.map V.str ((Tree.node 7 [] [] []).leads)), .row 4 (kidsV ((Tree.node 7 [] [] []).kids))]), (0, .var 100 [.row 1 (List.map (V.int .i64) r0_2), .int .i64 n0_3])]⟩) [0, 1] [0] rfl hK ⟨⟨_, rfl, .rfl⟩, trivial⟩ ⟨⟨_, rfl, ⟨rfl, (.cons .rfl (.cons .rfl (.cons (.nil 1) (.cons (.nil 4) .nil))))⟩⟩, ⟨⟨_, rfl, ⟨rfl, SubL.rfl⟩⟩, trivial⟩⟩ rfl ?_
      exact go_endD [1] tabS_ok (rs := [.cell 4 32]) rfl rfl ⟨rfl, rfl⟩
    · refine gF 12 rfl hd rfl ?_
      replace hd := (ne_of_beq_false hd)
      replace h := h.2 hd
      refine gR 7 rfl ?_
      refine gB 14 rfl rfl rfl (fun hd => ?_) (fun hd => ?_)
      · refine gT 15 rfl hd rfl ?_
        replace hd := (eq_of_beq hd)
        replace h := h.1 hd
        refine gR 10 rfl ?_
        obtain ⟨rfl, rfl, rfl⟩ := h
        refine go_sub (F' := (mkF 32 0 [(4, .ptr 1 0)])) (H' := ⟨2, [(1, .var 32 [.int .i64 ((Tree.node 6 [] [] []).kind), .str ((Tree.node 6 [] [] []).text), .row 1 (List.map V.str ((Tree.node 6 [] [] []).leads)), .row 4 (kidsV ((Tree.node 6 [] [] []).kids))]), (0, .var 100 [.row 1 (List.map (V.int .i64) r0_2), .int .i64 n0_3])]⟩) [0, 1] [0] rfl hK ⟨⟨_, rfl, .rfl⟩, trivial⟩ ⟨⟨_, rfl, ⟨rfl, (.cons .rfl (.cons .rfl (.cons (.nil 1) (.cons (.nil 4) .nil))))⟩⟩, ⟨⟨_, rfl, ⟨rfl, SubL.rfl⟩⟩, trivial⟩⟩ rfl ?_
        exact go_endD [1] tabS_ok (rs := [.cell 4 32]) rfl rfl ⟨rfl, rfl⟩
      · refine gF 15 rfl hd rfl ?_
        replace hd := (ne_of_beq_false hd)
        replace h := h.2 hd
        refine gR 7 rfl ?_
        refine gB 17 rfl rfl rfl (fun hd => ?_) (fun hd => ?_)
        · refine gT 18 rfl hd rfl ?_
          replace hd := (eq_of_beq hd)
          replace h := h.1 hd
          refine gR 5 rfl ?_
          refine gFR 2 rfl rfl rfl rfl ?_
          obtain ⟨s1_1, r1_2, n1_3, hs9, h⟩ := h
          refine gC hs9 [0] (by kernel_rfl) rfl rfl .rfl ⟨⟨_, rfl, ⟨rfl, SubL.rfl⟩⟩, trivial⟩ rfl ?_
          rintro _ _ ⟨rfl, rfl⟩
          refine gR 7 rfl ?_
          obtain ⟨rfl, rfl, rfl⟩ := h
          refine go_sub (F' := (mkF 32 0 [(4, .ptr 1 0)])) (H' := ⟨2, [(1, .var 32 [.int .i64 ((Tree.node 9 s1_1 [] []).kind), .str ((Tree.node 9 s1_1 [] []).text), .row 1 (List.map V.str ((Tree.node 9 s1_1 [] []).leads)), .row 4 (kidsV ((Tree.node 9 s1_1 [] []).kids))]), (0, .var 100 [.row 1 (List.map (V.int .i64) r1_2), .int .i64 n1_3])]⟩) [0, 1] [0] rfl hK ⟨⟨_, rfl, .rfl⟩, trivial⟩ ⟨⟨_, rfl, ⟨rfl, (.cons .rfl (.cons .rfl (.cons (.nil 1) (.cons (.nil 4) .nil))))⟩⟩, ⟨⟨_, rfl, ⟨rfl, SubL.rfl⟩⟩, trivial⟩⟩ rfl ?_
          exact go_endD [1] tabS_ok (rs := [.cell 4 32]) rfl rfl ⟨rfl, rfl⟩
        · refine gF 18 rfl hd rfl ?_
          replace hd := (ne_of_beq_false hd)
          replace h := h.2 hd
          refine gR 11 rfl ?_
          refine gB 24 rfl rfl rfl (fun hd => ?_) (fun hd => ?_)
          · replace hd := (of_decide_eq_true hd)
            replace h := h.1 hd
            refine gR 9 rfl ?_
            obtain ⟨rfl, rfl, rfl⟩ := h
            refine go_sub (F' := (mkF 32 0 [(4, .ptr 1 0)])) (H' := ⟨2, [(1, .var 32 [.int .i64 ((Tree.node 5 [] [] []).kind), .str ((Tree.node 5 [] [] []).text), .row 1 (List.map V.str ((Tree.node 5 [] [] []).leads)), .row 4 (kidsV ((Tree.node 5 [] [] []).kids))]), (0, .var 100 [.row 1 (List.map (V.int .i64) r0_2), .int .i64 n0_3])]⟩) [0, 1] [0] rfl hK ⟨⟨_, rfl, .rfl⟩, trivial⟩ ⟨⟨_, rfl, ⟨rfl, (.cons .rfl (.cons .rfl (.cons (.nil 1) (.cons (.nil 4) .nil))))⟩⟩, ⟨⟨_, rfl, ⟨rfl, SubL.rfl⟩⟩, trivial⟩⟩ rfl ?_
            exact go_endD [1] tabS_ok (rs := [.cell 4 32]) rfl rfl ⟨rfl, rfl⟩
          · replace hd := (of_decide_eq_false hd)
            replace h := h.2 hd
            refine gR 7 rfl ?_
            obtain ⟨hb, h⟩ := h
            refine gR 1 rfl ?_
            refine gV 28 (.int .i64 (p1 - 1)) rfl (wrapI hb rfl) rfl ?_
            obtain ⟨t1_4, r1_5, n1_6, hs10, h⟩ := h
            refine gC hs10 [0] (by kernel_rfl) rfl rfl .rfl ⟨⟨_, rfl, ⟨rfl, SubL.rfl⟩⟩, trivial⟩ rfl ?_
            rintro _ _ ⟨rfl, rfl⟩
            refine gR 1 rfl ?_
            refine gHR 4 (kidsV [t1_4]) rfl (oneK t1_4) rfl ?_
            refine gR 5 rfl ?_
            refine gFR 4 rfl (pureK _) rfl rfl ?_
            obtain ⟨rfl, rfl, rfl⟩ := h
            refine go_sub (F' := (mkF 32 0 [(4, .ptr 1 0)])) (H' := ⟨2, [(1, .var 32 [.int .i64 ((Tree.node 8 [] [] [t1_4]).kind), .str ((Tree.node 8 [] [] [t1_4]).text), .row 1 (List.map V.str ((Tree.node 8 [] [] [t1_4]).leads)), .row 4 (kidsV ((Tree.node 8 [] [] [t1_4]).kids))]), (0, .var 100 [.row 1 (List.map (V.int .i64) r1_5), .int .i64 n1_6])]⟩) [0, 1] [0] rfl hK ⟨⟨_, rfl, .rfl⟩, trivial⟩ ⟨⟨_, rfl, ⟨rfl, (.cons .rfl (.cons .rfl (.cons (.nil 1) (.cons .rfl .nil))))⟩⟩, ⟨⟨_, rfl, ⟨rfl, SubL.rfl⟩⟩, trivial⟩⟩ rfl ?_
            exact go_endD [1] tabS_ok (rs := [.cell 4 32]) rfl rfl ⟨rfl, rfl⟩
theorem rS_semvcsmake_unit (m : Nat) (p0_L : (List Int)) (p0_At : Int) (p1 : Int) (r0 : Tree) (q0_L : (List Int)) (q0_At : Int) (h : ∃ (t0_1 : Tree), ∃ (r0_2 : (List Int)), ∃ (n0_3 : Int), S_semvcsmake_Expr p0_L p0_At p1 t0_1 r0_2 n0_3 ∧ ∃ (b0_4 : Bool), S_semvcsref02_IsUnit t0_1.kind b0_4 ∧ ((b0_4 = false) → (Tree.node 22 [] [] [t0_1]) = r0 ∧ r0_2 = q0_L ∧ n0_3 = q0_At) ∧ ((b0_4 = true) → t0_1 = r0 ∧ r0_2 = q0_L ∧ n0_3 = q0_At)) : S_semvcsmake_unit p0_L p0_At p1 r0 q0_L q0_At := by
  refine sum_enter 17 [0] Tryz.func120 rfl rfl rfl (pv_of rfl) fun K hK => ?_
  refine gR 9 rfl ?_
  obtain ⟨t0_1, r0_2, n0_3, hs3, h⟩ := h
  refine gC hs3 [0] (by kernel_rfl) rfl rfl .rfl ⟨⟨_, rfl, ⟨rfl, SubL.rfl⟩⟩, trivial⟩ rfl ?_
  rintro _ _ ⟨rfl, rfl⟩
  refine gR 9 rfl ?_
  obtain ⟨b0_4, hs4, h⟩ := h
  refine gC0 hs4 (by kernel_rfl) rfl rfl .rfl rfl ?_
  refine gR 3 rfl ?_
  refine gB 12 rfl rfl rfl (fun hd => ?_) (fun hd => ?_)
  · replace hd := (not_t hd)
    replace h := h.1 hd
    refine gR 5 rfl ?_
    refine gHR 5 (kidsV [t0_1]) rfl (oneK t0_1) rfl ?_
    refine gR 6 rfl ?_
    refine gFR 5 rfl (pureK _) rfl rfl ?_
    obtain ⟨rfl, rfl, rfl⟩ := h
    refine go_sub (F' := (mkF 17 0 [(4, .ptr 1 0)])) (H' := ⟨2, [(1, .var 32 [.int .i64 ((Tree.node 22 [] [] [t0_1]).kind), .str ((Tree.node 22 [] [] [t0_1]).text), .row 1 (List.map V.str ((Tree.node 22 [] [] [t0_1]).leads)), .row 4 (kidsV ((Tree.node 22 [] [] [t0_1]).kids))]), (0, .var 100 [.row 1 (List.map (V.int .i64) r0_2), .int .i64 n0_3])]⟩) [0, 1] [0] rfl hK ⟨⟨_, rfl, .rfl⟩, trivial⟩ ⟨⟨_, rfl, ⟨rfl, (.cons .rfl (.cons .rfl (.cons (.nil 1) (.cons .rfl .nil))))⟩⟩, ⟨⟨_, rfl, ⟨rfl, SubL.rfl⟩⟩, trivial⟩⟩ rfl ?_
    exact go_endD [1] tabS_ok (rs := [.cell 4 32]) rfl rfl ⟨rfl, rfl⟩
  · replace hd := (not_f hd)
    replace h := h.2 hd
    refine gR 10 rfl ?_
    obtain ⟨rfl, rfl, rfl⟩ := h
    refine go_sub (F' := (mkF 17 0 [(4, .ptr 1 0)])) (H' := ⟨2, [(1, .var 32 [.int .i64 t0_1.kind, .str t0_1.text, .row 1 (List.map V.str t0_1.leads), .row 4 (kidsV t0_1.kids)]), (0, .var 100 [.row 1 (List.map (V.int .i64) r0_2), .int .i64 n0_3])]⟩) [0, 1] [0] rfl hK ⟨⟨_, rfl, .rfl⟩, trivial⟩ ⟨⟨_, rfl, ⟨rfl, SubL.rfl⟩⟩, ⟨⟨_, rfl, ⟨rfl, SubL.rfl⟩⟩, trivial⟩⟩ rfl ?_
    exact go_endD [1] tabS_ok (rs := [.cell 4 32]) rfl rfl ⟨rfl, rfl⟩
def L0_semvcsmake_Expr (m : Nat) (p1 : Int) (r0_2 : (List Int)) (n0_3 : Int) (z1v1 : Int) (r0 : Tree) (q0_L : (List Int)) (q0_At : Int) : Prop := ∀ (K : Ctx), PinB K [0] → Go Tryz.prog K (bodyPost Tryz.prog Tryz.f92 (SP K (fun u G => u = .agg (treeC r0) ∧ G = ⟨2, [(0, .var 100 [.row 1 (List.map (V.int .i64) q0_L), .int .i64 q0_At])]⟩))) (.code (cB (cB (cB (bodyC Tryz.f92))))) [] 168 (mkF 168 0 [(0, .ptr 0 0), (1, .int .i64 p1), (4, .ptr 1 0), (5, .int .i64 z1v1)]) ⟨2, [(1, .var 32 [.int .i64 0, .str [], .nils, .nils]), (0, .var 100 [.row 1 (List.map (V.int .i64) r0_2), .int .i64 n0_3])]⟩
def L1_semvcsmake_Expr (m : Nat) (p1 : Int) (r0_2 : (List Int)) (n0_3 : Int) (z1v1 : Int) (b2v1 : Bool) (r0 : Tree) (q0_L : (List Int)) (q0_At : Int) : Prop := ∀ (K : Ctx), PinB K [0] → Go Tryz.prog K (bodyPost Tryz.prog Tryz.f92 (SP K (fun u G => u = .agg (treeC r0) ∧ G = ⟨2, [(0, .var 100 [.row 1 (List.map (V.int .i64) q0_L), .int .i64 q0_At])]⟩))) (.code (cB (cK (cB (cA (cB (cB (cB (bodyC Tryz.f92))))))))) [.blk 0, .seq (cB (cB (cB (cB (bodyC Tryz.f92)))))] 168 (mkF 168 0 [(0, .ptr 0 0), (1, .int .i64 p1), (4, .ptr 1 0), (24, .int .i64 z1v1), (25, .bool b2v1)]) ⟨2, [(1, .var 32 [.int .i64 0, .str [], .nils, .nils]), (0, .var 100 [.row 1 (List.map (V.int .i64) r0_2), .int .i64 n0_3])]⟩
def L2_semvcsmake_Expr (m : Nat) (p1 : Int) (r0_2 : (List Int)) (n0_3 : Int) (z1v1 : Int) (r0 : Tree) (q0_L : (List Int)) (q0_At : Int) : Prop := ∀ (K : Ctx), PinB K [0] → Go Tryz.prog K (bodyPost Tryz.prog Tryz.f92 (SP K (fun u G => u = .agg (treeC r0) ∧ G = ⟨2, [(0, .var 100 [.row 1 (List.map (V.int .i64) q0_L), .int .i64 q0_At])]⟩))) (.code (cE (cB (cK (cB (cA (cB (cB (cB (bodyC Tryz.f92)))))))))) [.blk 0, .seq (cB (cB (cB (cB (bodyC Tryz.f92)))))] 168 (mkF 168 0 [(0, .ptr 0 0), (1, .int .i64 p1), (4, .ptr 1 0), (24, .int .i64 z1v1)]) ⟨2, [(1, .var 32 [.int .i64 0, .str [], .nils, .nils]), (0, .var 100 [.row 1 (List.map (V.int .i64) r0_2), .int .i64 n0_3])]⟩
def L3_semvcsmake_Expr (m : Nat) (p1 : Int) (r0_2 : (List Int)) (n0_3 : Int) (z1v1 : Int) (r0 : Tree) (q0_L : (List Int)) (q0_At : Int) : Prop := ∀ (K : Ctx), PinB K [0] → Go Tryz.prog K (bodyPost Tryz.prog Tryz.f92 (SP K (fun u G => u = .agg (treeC r0) ∧ G = ⟨2, [(0, .var 100 [.row 1 (List.map (V.int .i64) q0_L), .int .i64 q0_At])]⟩))) (.code (cE (cB (cE (cB (cK (cB (cA (cB (cB (cB (bodyC Tryz.f92)))))))))))) [.blk 0, .seq (cB (cB (cB (cB (bodyC Tryz.f92)))))] 168 (mkF 168 0 [(0, .ptr 0 0), (1, .int .i64 p1), (4, .ptr 1 0), (24, .int .i64 z1v1)]) ⟨2, [(1, .var 32 [.int .i64 0, .str [], .nils, .nils]), (0, .var 100 [.row 1 (List.map (V.int .i64) r0_2), .int .i64 n0_3])]⟩
def L4_semvcsmake_Expr (m : Nat) (p1 : Int) (r0_2 : (List Int)) (n0_3 : Int) (z1v1 : Int) (r0 : Tree) (q0_L : (List Int)) (q0_At : Int) : Prop := ∀ (K : Ctx), PinB K [0] → Go Tryz.prog K (bodyPost Tryz.prog Tryz.f92 (SP K (fun u G => u = .agg (treeC r0) ∧ G = ⟨2, [(0, .var 100 [.row 1 (List.map (V.int .i64) q0_L), .int .i64 q0_At])]⟩))) (.code (cE (cB (cE (cB (cE (cB (cK (cB (cA (cB (cB (cB (bodyC Tryz.f92)))))))))))))) [.blk 0, .seq (cB (cB (cB (cB (bodyC Tryz.f92)))))] 168 (mkF 168 0 [(0, .ptr 0 0), (1, .int .i64 p1), (4, .ptr 1 0), (24, .int .i64 z1v1)]) ⟨2, [(1, .var 32 [.int .i64 0, .str [], .nils, .nils]), (0, .var 100 [.row 1 (List.map (V.int .i64) r0_2), .int .i64 n0_3])]⟩
def L5_semvcsmake_Expr (m : Nat) (p1 : Int) (r0_2 : (List Int)) (n0_3 : Int) (z1v1 : Int) (r0 : Tree) (q0_L : (List Int)) (q0_At : Int) : Prop := ∀ (K : Ctx), PinB K [0] → Go Tryz.prog K (bodyPost Tryz.prog Tryz.f92 (SP K (fun u G => u = .agg (treeC r0) ∧ G = ⟨2, [(0, .var 100 [.row 1 (List.map (V.int .i64) q0_L), .int .i64 q0_At])]⟩))) (.code (cE (cB (cE (cB (cE (cB (cE (cB (cK (cB (cA (cB (cB (cB (bodyC Tryz.f92)))))))))))))))) [.blk 0, .seq (cB (cB (cB (cB (bodyC Tryz.f92)))))] 168 (mkF 168 0 [(0, .ptr 0 0), (1, .int .i64 p1), (4, .ptr 1 0), (24, .int .i64 z1v1)]) ⟨2, [(1, .var 32 [.int .i64 0, .str [], .nils, .nils]), (0, .var 100 [.row 1 (List.map (V.int .i64) r0_2), .int .i64 n0_3])]⟩
def L6_semvcsmake_Expr (m : Nat) (p1 : Int) (r0_2 : (List Int)) (n0_3 : Int) (z1v1 : Int) (r0 : Tree) (q0_L : (List Int)) (q0_At : Int) : Prop := ∀ (K : Ctx), PinB K [0] → Go Tryz.prog K (bodyPost Tryz.prog Tryz.f92 (SP K (fun u G => u = .agg (treeC r0) ∧ G = ⟨2, [(0, .var 100 [.row 1 (List.map (V.int .i64) q0_L), .int .i64 q0_At])]⟩))) (.code (cE (cB (cE (cB (cE (cB (cE (cB (cE (cB (cK (cB (cA (cB (cB (cB (bodyC Tryz.f92)))))))))))))))))) [.blk 0, .seq (cB (cB (cB (cB (bodyC Tryz.f92)))))] 168 (mkF 168 0 [(0, .ptr 0 0), (1, .int .i64 p1), (4, .ptr 1 0), (24, .int .i64 z1v1)]) ⟨2, [(1, .var 32 [.int .i64 0, .str [], .nils, .nils]), (0, .var 100 [.row 1 (List.map (V.int .i64) r0_2), .int .i64 n0_3])]⟩
def L7_semvcsmake_Expr (m : Nat) (p1 : Int) (r0_2 : (List Int)) (n0_3 : Int) (z1v1 : Int) (b8v1 : Bool) (r0 : Tree) (q0_L : (List Int)) (q0_At : Int) : Prop := ∀ (K : Ctx), PinB K [0] → Go Tryz.prog K (bodyPost Tryz.prog Tryz.f92 (SP K (fun u G => u = .agg (treeC r0) ∧ G = ⟨2, [(0, .var 100 [.row 1 (List.map (V.int .i64) q0_L), .int .i64 q0_At])]⟩))) (.code (cB (cE (cB (cE (cB (cE (cB (cE (cB (cE (cB (cK (cB (cA (cB (cB (cB (bodyC Tryz.f92))))))))))))))))))) [.blk 0, .seq (cB (cB (cB (cB (bodyC Tryz.f92)))))] 168 (mkF 168 0 [(0, .ptr 0 0), (1, .int .i64 p1), (4, .ptr 1 0), (24, .int .i64 z1v1), (57, .bool b8v1)]) ⟨2, [(1, .var 32 [.int .i64 0, .str [], .nils, .nils]), (0, .var 100 [.row 1 (List.map (V.int .i64) r0_2), .int .i64 n0_3])]⟩
def L8_semvcsmake_Expr (m : Nat) (p1 : Int) (r0_2 : (List Int)) (n0_3 : Int) (r0 : Tree) (q0_L : (List Int)) (q0_At : Int) : Prop := ∀ (K : Ctx), PinB K [0] → Go Tryz.prog K (bodyPost Tryz.prog Tryz.f92 (SP K (fun u G => u = .agg (treeC r0) ∧ G = ⟨2, [(0, .var 100 [.row 1 (List.map (V.int .i64) q0_L), .int .i64 q0_At])]⟩))) (.code (cT (cB (cE (cB (cE (cB (cE (cB (cE (cB (cE (cB (cK (cB (cA (cB (cB (cB (bodyC Tryz.f92)))))))))))))))))))) [.blk 0, .seq (cB (cB (cB (cB (bodyC Tryz.f92)))))] 168 (mkF 168 0 [(0, .ptr 0 0), (1, .int .i64 p1), (4, .ptr 1 0)]) ⟨2, [(1, .var 32 [.int .i64 0, .str [], .nils, .nils]), (0, .var 100 [.row 1 (List.map (V.int .i64) r0_2), .int .i64 n0_3])]⟩
def L9_semvcsmake_Expr (m : Nat) (p1 : Int) (r0_2 : (List Int)) (n0_3 : Int) (z1v1 : Int) (r0 : Tree) (q0_L : (List Int)) (q0_At : Int) : Prop := ∀ (K : Ctx), PinB K [0] → Go Tryz.prog K (bodyPost Tryz.prog Tryz.f92 (SP K (fun u G => u = .agg (treeC r0) ∧ G = ⟨2, [(0, .var 100 [.row 1 (List.map (V.int .i64) q0_L), .int .i64 q0_At])]⟩))) (.code (cE (cB (cE (cB (cE (cB (cE (cB (cE (cB (cE (cB (cK (cB (cA (cB (cB (cB (bodyC Tryz.f92)))))))))))))))))))) [.blk 0, .seq (cB (cB (cB (cB (bodyC Tryz.f92)))))] 168 (mkF 168 0 [(0, .ptr 0 0), (1, .int .i64 p1), (4, .ptr 1 0), (24, .int .i64 z1v1)]) ⟨2, [(1, .var 32 [.int .i64 0, .str [], .nils, .nils]), (0, .var 100 [.row 1 (List.map (V.int .i64) r0_2), .int .i64 n0_3])]⟩
def L10_semvcsmake_Expr (m : Nat) (p1 : Int) (s9_1 : (List UInt8)) (l11v1 : (List Int)) (z11v2 : Int) (l11v3 : (List Tree)) (z11v4 : Int) (r0 : Tree) (q0_L : (List Int)) (q0_At : Int) : Prop := ∀ (K : Ctx) (j1 : Nat), PinB K [0] → m ≤ j1 → Go Tryz.prog K (bodyPost Tryz.prog Tryz.f92 (SP K (fun u G => u = .agg (treeC r0) ∧ G = ⟨2, [(0, .var 100 [.row 1 (List.map (V.int .i64) q0_L), .int .i64 q0_At])]⟩))) (.code (cL (cK (cB (cA (cB (cT (cB (cE (cB (cE (cB (cE (cB (cE (cB (cE (cB (cK (cB (cA (cB (cB (cB (bodyC Tryz.f92))))))))))))))))))))))))) [.loop (cL (cK (cB (cA (cB (cT (cB (cE (cB (cE (cB (cE (cB (cE (cB (cE (cB (cK (cB (cA (cB (cB (cB (bodyC Tryz.f92)))))))))))))))))))))))) j1, .blk 1, .seq (cB (cB (cT (cB (cE (cB (cE (cB (cE (cB (cE (cB (cE (cB (cK (cB (cA (cB (cB (cB (bodyC Tryz.f92))))))))))))))))))))), .blk 0, .seq (cB (cB (cB (cB (bodyC Tryz.f92)))))] 168 (mkF 168 0 [(0, .ptr 0 0), (1, .int .i64 p1), (4, .ptr 1 0), (6, .ptr 2 0), (7, .int .i64 z11v4)]) ⟨4, [(3, .row 32 4 (kidsV l11v3)), (2, .var 32 [.int .i64 16, .str s9_1, .nils, .sl 3]), (1, .var 32 [.int .i64 0, .str [], .nils, .nils]), (0, .var 100 [.row 1 (List.map (V.int .i64) l11v1), .int .i64 z11v2])]⟩
def L11_semvcsmake_Expr (m : Nat) (p1 : Int) (l12v1 : (List Int)) (z12v2 : Int) (l12v3 : (List Tree)) (z12v4 : Int) (r0 : Tree) (q0_L : (List Int)) (q0_At : Int) : Prop := ∀ (K : Ctx) (j1 : Nat), PinB K [0] → m ≤ j1 → Go Tryz.prog K (bodyPost Tryz.prog Tryz.f92 (SP K (fun u G => u = .agg (treeC r0) ∧ G = ⟨2, [(0, .var 100 [.row 1 (List.map (V.int .i64) q0_L), .int .i64 q0_At])]⟩))) (.code (cL (cK (cB (cA (cB (cT (cB (cE (cB (cE (cB (cE (cB (cE (cB (cE (cB (cE (cB (cK (cB (cA (cB (cB (cB (bodyC Tryz.f92))))))))))))))))))))))))))) [.loop (cL (cK (cB (cA (cB (cT (cB (cE (cB (cE (cB (cE (cB (cE (cB (cE (cB (cE (cB (cK (cB (cA (cB (cB (cB (bodyC Tryz.f92)))))))))))))))))))))))))) j1, .blk 3, .seq (cB (cB (cT (cB (cE (cB (cE (cB (cE (cB (cE (cB (cE (cB (cE (cB (cK (cB (cA (cB (cB (cB (bodyC Tryz.f92))))))))))))))))))))))), .blk 0, .seq (cB (cB (cB (cB (bodyC Tryz.f92)))))] 168 (mkF 168 0 [(0, .ptr 0 0), (1, .int .i64 p1), (4, .ptr 1 0), (8, .ptr 2 0), (9, .int .i64 z12v4)]) ⟨4, [(3, .row 32 4 (kidsV l12v3)), (2, .var 32 [.int .i64 18, .str [], .nils, .sl 3]), (1, .var 32 [.int .i64 0, .str [], .nils, .nils]), (0, .var 100 [.row 1 (List.map (V.int .i64) l12v1), .int .i64 z12v2])]⟩
def L12_semvcsmake_Expr (m : Nat) (p1 : Int) (r0_2 : (List Int)) (n0_3 : Int) (z1v1 : Int) (r0 : Tree) (q0_L : (List Int)) (q0_At : Int) : Prop := ∀ (K : Ctx), PinB K [0] → Go Tryz.prog K (bodyPost Tryz.prog Tryz.f92 (SP K (fun u G => u = .agg (treeC r0) ∧ G = ⟨2, [(0, .var 100 [.row 1 (List.map (V.int .i64) q0_L), .int .i64 q0_At])]⟩))) (.code (cE (cB (cE (cB (cE (cB (cE (cB (cE (cB (cE (cB (cE (cB (cK (cB (cA (cB (cB (cB (bodyC Tryz.f92)))))))))))))))))))))) [.blk 0, .seq (cB (cB (cB (cB (bodyC Tryz.f92)))))] 168 (mkF 168 0 [(0, .ptr 0 0), (1, .int .i64 p1), (4, .ptr 1 0), (24, .int .i64 z1v1)]) ⟨2, [(1, .var 32 [.int .i64 0, .str [], .nils, .nils]), (0, .var 100 [.row 1 (List.map (V.int .i64) r0_2), .int .i64 n0_3])]⟩
def L13_semvcsmake_Expr (m : Nat) (p1 : Int) (r0_2 : (List Int)) (n0_3 : Int) (r0 : Tree) (q0_L : (List Int)) (q0_At : Int) : Prop := ∀ (K : Ctx), PinB K [0] → Go Tryz.prog K (bodyPost Tryz.prog Tryz.f92 (SP K (fun u G => u = .agg (treeC r0) ∧ G = ⟨2, [(0, .var 100 [.row 1 (List.map (V.int .i64) q0_L), .int .i64 q0_At])]⟩))) (.code (cT (cB (cE (cB (cE (cB (cE (cB (cE (cB (cE (cB (cE (cB (cE (cB (cK (cB (cA (cB (cB (cB (bodyC Tryz.f92)))))))))))))))))))))))) [.blk 0, .seq (cB (cB (cB (cB (bodyC Tryz.f92)))))] 168 (mkF 168 0 [(0, .ptr 0 0), (1, .int .i64 p1), (4, .ptr 1 0)]) ⟨2, [(1, .var 32 [.int .i64 0, .str [], .nils, .nils]), (0, .var 100 [.row 1 (List.map (V.int .i64) r0_2), .int .i64 n0_3])]⟩
def L14_semvcsmake_Expr (m : Nat) (p1 : Int) (r0_2 : (List Int)) (n0_3 : Int) (z1v1 : Int) (r0 : Tree) (q0_L : (List Int)) (q0_At : Int) : Prop := ∀ (K : Ctx), PinB K [0] → Go Tryz.prog K (bodyPost Tryz.prog Tryz.f92 (SP K (fun u G => u = .agg (treeC r0) ∧ G = ⟨2, [(0, .var 100 [.row 1 (List.map (V.int .i64) q0_L), .int .i64 q0_At])]⟩))) (.code (cE (cB (cE (cB (cE (cB (cE (cB (cE (cB (cE (cB (cE (cB (cE (cB (cK (cB (cA (cB (cB (cB (bodyC Tryz.f92)))))))))))))))))))))))) [.blk 0, .seq (cB (cB (cB (cB (bodyC Tryz.f92)))))] 168 (mkF 168 0 [(0, .ptr 0 0), (1, .int .i64 p1), (4, .ptr 1 0), (24, .int .i64 z1v1)]) ⟨2, [(1, .var 32 [.int .i64 0, .str [], .nils, .nils]), (0, .var 100 [.row 1 (List.map (V.int .i64) r0_2), .int .i64 n0_3])]⟩
def L15_semvcsmake_Expr (m : Nat) (p1 : Int) (r0_2 : (List Int)) (n0_3 : Int) (z1v1 : Int) (b16v1 : Bool) (r0 : Tree) (q0_L : (List Int)) (q0_At : Int) : Prop := ∀ (K : Ctx), PinB K [0] → Go Tryz.prog K (bodyPost Tryz.prog Tryz.f92 (SP K (fun u G => u = .agg (treeC r0) ∧ G = ⟨2, [(0, .var 100 [.row 1 (List.map (V.int .i64) q0_L), .int .i64 q0_At])]⟩))) (.code (cB (cE (cB (cE (cB (cE (cB (cE (cB (cE (cB (cE (cB (cE (cB (cE (cB (cK (cB (cA (cB (cB (cB (bodyC Tryz.f92))))))))))))))))))))))))) [.blk 0, .seq (cB (cB (cB (cB (bodyC Tryz.f92)))))] 168 (mkF 168 0 [(0, .ptr 0 0), (1, .int .i64 p1), (4, .ptr 1 0), (24, .int .i64 z1v1), (118, .bool b16v1)]) ⟨2, [(1, .var 32 [.int .i64 0, .str [], .nils, .nils]), (0, .var 100 [.row 1 (List.map (V.int .i64) r0_2), .int .i64 n0_3])]⟩
def L16_semvcsmake_Expr (m : Nat) (p1 : Int) (r0_2 : (List Int)) (n0_3 : Int) (r0 : Tree) (q0_L : (List Int)) (q0_At : Int) : Prop := ∀ (K : Ctx), PinB K [0] → Go Tryz.prog K (bodyPost Tryz.prog Tryz.f92 (SP K (fun u G => u = .agg (treeC r0) ∧ G = ⟨2, [(0, .var 100 [.row 1 (List.map (V.int .i64) q0_L), .int .i64 q0_At])]⟩))) (.code (cT (cB (cE (cB (cE (cB (cE (cB (cE (cB (cE (cB (cE (cB (cE (cB (cE (cB (cK (cB (cA (cB (cB (cB (bodyC Tryz.f92)))))))))))))))))))))))))) [.blk 0, .seq (cB (cB (cB (cB (bodyC Tryz.f92)))))] 168 (mkF 168 0 [(0, .ptr 0 0), (1, .int .i64 p1), (4, .ptr 1 0)]) ⟨2, [(1, .var 32 [.int .i64 0, .str [], .nils, .nils]), (0, .var 100 [.row 1 (List.map (V.int .i64) r0_2), .int .i64 n0_3])]⟩
def L17_semvcsmake_Expr (m : Nat) (p1 : Int) (r0_2 : (List Int)) (n0_3 : Int) (z1v1 : Int) (r0 : Tree) (q0_L : (List Int)) (q0_At : Int) : Prop := ∀ (K : Ctx), PinB K [0] → Go Tryz.prog K (bodyPost Tryz.prog Tryz.f92 (SP K (fun u G => u = .agg (treeC r0) ∧ G = ⟨2, [(0, .var 100 [.row 1 (List.map (V.int .i64) q0_L), .int .i64 q0_At])]⟩))) (.code (cE (cB (cE (cB (cE (cB (cE (cB (cE (cB (cE (cB (cE (cB (cE (cB (cE (cB (cK (cB (cA (cB (cB (cB (bodyC Tryz.f92)))))))))))))))))))))))))) [.blk 0, .seq (cB (cB (cB (cB (bodyC Tryz.f92)))))] 168 (mkF 168 0 [(0, .ptr 0 0), (1, .int .i64 p1), (4, .ptr 1 0), (24, .int .i64 z1v1)]) ⟨2, [(1, .var 32 [.int .i64 0, .str [], .nils, .nils]), (0, .var 100 [.row 1 (List.map (V.int .i64) r0_2), .int .i64 n0_3])]⟩
def L18_semvcsmake_Expr (m : Nat) (p1 : Int) (r0_2 : (List Int)) (n0_3 : Int) (r0 : Tree) (q0_L : (List Int)) (q0_At : Int) : Prop := ∀ (K : Ctx), PinB K [0] → Go Tryz.prog K (bodyPost Tryz.prog Tryz.f92 (SP K (fun u G => u = .agg (treeC r0) ∧ G = ⟨2, [(0, .var 100 [.row 1 (List.map (V.int .i64) q0_L), .int .i64 q0_At])]⟩))) (.code (cT (cB (cE (cB (cE (cB (cE (cB (cE (cB (cE (cB (cE (cB (cE (cB (cE (cB (cE (cB (cK (cB (cA (cB (cB (cB (bodyC Tryz.f92)))))))))))))))))))))))))))) [.blk 0, .seq (cB (cB (cB (cB (bodyC Tryz.f92)))))] 168 (mkF 168 0 [(0, .ptr 0 0), (1, .int .i64 p1), (4, .ptr 1 0)]) ⟨2, [(1, .var 32 [.int .i64 0, .str [], .nils, .nils]), (0, .var 100 [.row 1 (List.map (V.int .i64) r0_2), .int .i64 n0_3])]⟩
theorem rS_semvcsmake_Expr (m : Nat) (p0_L : (List Int)) (p0_At : Int) (p1 : Int) (r0 : Tree) (q0_L : (List Int)) (q0_At : Int) (h : ∃ (n0_1 : Int), ∃ (r0_2 : (List Int)), ∃ (n0_3 : Int), S_semvcsmake_Dice_Next p0_L p0_At 14 n0_1 r0_2 n0_3 ∧ ((p1 < 1) → ((5 < n0_1) → InI (n0_1 - 6) ∧ ((5 < (n0_1 - 6)) → L0_semvcsmake_Expr m p1 r0_2 n0_3 0 r0 q0_L q0_At) ∧ ((¬ 5 < (n0_1 - 6)) → L0_semvcsmake_Expr m p1 r0_2 n0_3 (n0_1 - 6) r0 q0_L q0_At)) ∧ ((¬ 5 < n0_1) → L0_semvcsmake_Expr m p1 r0_2 n0_3 n0_1 r0 q0_L q0_At)) ∧ ((¬ p1 < 1) → L0_semvcsmake_Expr m p1 r0_2 n0_3 n0_1 r0 q0_L q0_At)) : S_semvcsmake_Expr p0_L p0_At p1 r0 q0_L q0_At := by
  refine sum_enter 168 [0] Tryz.func92 rfl rfl rfl (pv_of rfl) fun K hK => ?_
  refine gR 8 rfl ?_
  obtain ⟨n0_1, r0_2, n0_3, hs75, h⟩ := h
  refine gC hs75 [0] (by kernel_rfl) rfl rfl .rfl ⟨⟨_, rfl, ⟨rfl, SubL.rfl⟩⟩, trivial⟩ rfl ?_
  rintro _ _ ⟨rfl, rfl⟩
  refine gR 9 rfl ?_
  refine gB 16 rfl rfl rfl (fun hd => ?_) (fun hd => ?_)
  · refine gT 15 rfl hd rfl ?_
    replace hd := (of_decide_eq_true hd)
    replace h := h.1 hd
    refine gR 5 rfl ?_
    refine gB 19 rfl rfl rfl (fun hd => ?_) (fun hd => ?_)
    · replace hd := (of_decide_eq_true hd)
      replace h := h.1 hd
      refine gR 4 rfl ?_
      obtain ⟨hb, h⟩ := h
      refine gR 1 rfl ?_
      refine gV 21 (.int .i64 (n0_1 - 6)) rfl (wrapI hb rfl) rfl ?_
      refine gR 9 rfl ?_
      refine gB 23 rfl rfl rfl (fun hd => ?_) (fun hd => ?_)
      · replace hd := (of_decide_eq_true hd)
        replace h := h.1 hd
        refine gR 5 rfl ?_
        exact gJ (h K hK) [0, 1] [0] rfl hK ⟨⟨_, rfl, .rfl⟩, ⟨_, rfl, .rfl⟩, ⟨_, rfl, .rfl⟩, ⟨_, rfl, .rfl⟩, trivial⟩ ⟨⟨_, rfl, ⟨rfl, SubL.rfl⟩⟩, ⟨⟨_, rfl, ⟨rfl, SubL.rfl⟩⟩, trivial⟩⟩ rfl
      · replace hd := (of_decide_eq_false hd)
        replace h := h.2 hd
        refine gR 3 rfl ?_
        exact gJ (h K hK) [0, 1] [0] rfl hK ⟨⟨_, rfl, .rfl⟩, ⟨_, rfl, .rfl⟩, ⟨_, rfl, .rfl⟩, ⟨_, rfl, .rfl⟩, trivial⟩ ⟨⟨_, rfl, ⟨rfl, SubL.rfl⟩⟩, ⟨⟨_, rfl, ⟨rfl, SubL.rfl⟩⟩, trivial⟩⟩ rfl
    · replace hd := (of_decide_eq_false hd)
      replace h := h.2 hd
      refine gR 3 rfl ?_
      exact gJ (h K hK) [0, 1] [0] rfl hK ⟨⟨_, rfl, .rfl⟩, ⟨_, rfl, .rfl⟩, ⟨_, rfl, .rfl⟩, ⟨_, rfl, .rfl⟩, trivial⟩ ⟨⟨_, rfl, ⟨rfl, SubL.rfl⟩⟩, ⟨⟨_, rfl, ⟨rfl, SubL.rfl⟩⟩, trivial⟩⟩ rfl
  · refine gF 15 rfl hd rfl ?_
    replace hd := (of_decide_eq_false hd)
    replace h := h.2 hd
    refine gR 8 rfl ?_
    exact gJ (h K hK) [0, 1] [0] rfl hK ⟨⟨_, rfl, .rfl⟩, ⟨_, rfl, .rfl⟩, ⟨_, rfl, .rfl⟩, ⟨_, rfl, .rfl⟩, trivial⟩ ⟨⟨_, rfl, ⟨rfl, SubL.rfl⟩⟩, ⟨⟨_, rfl, ⟨rfl, SubL.rfl⟩⟩, trivial⟩⟩ rfl
theorem rL0_semvcsmake_Expr (m : Nat) (p1 : Int) (r0_2 : (List Int)) (n0_3 : Int) (z1v1 : Int) (r0 : Tree) (q0_L : (List Int)) (q0_At : Int) (h : ((z1v1 = 0) → L1_semvcsmake_Expr m p1 r0_2 n0_3 z1v1 true r0 q0_L q0_At) ∧ ((z1v1 ≠ 0) → L1_semvcsmake_Expr m p1 r0_2 n0_3 z1v1 (z1v1 == 1) r0 q0_L q0_At)) : L0_semvcsmake_Expr (m + 1) p1 r0_2 n0_3 z1v1 r0 q0_L q0_At := by
  intro K hK
  refine gR 14 rfl ?_
  refine gB 25 rfl rfl rfl (fun hd => ?_) (fun hd => ?_)
  · refine gT 26 rfl hd rfl ?_
    replace hd := (eq_of_beq hd)
    replace h := h.1 hd
    refine gR 3 rfl ?_
    exact gJ (h K hK) [0, 1] [0] rfl hK ⟨⟨_, rfl, .rfl⟩, ⟨_, rfl, .rfl⟩, ⟨_, rfl, .rfl⟩, ⟨_, rfl, .rfl⟩, ⟨_, rfl, .rfl⟩, trivial⟩ ⟨⟨_, rfl, ⟨rfl, SubL.rfl⟩⟩, ⟨⟨_, rfl, ⟨rfl, SubL.rfl⟩⟩, trivial⟩⟩ rfl
  · refine gF 26 rfl hd rfl ?_
    replace hd := (ne_of_beq_false hd)
    replace h := h.2 hd
    refine gR 6 rfl ?_
    exact gJ (h K hK) [0, 1] [0] rfl hK ⟨⟨_, rfl, .rfl⟩, ⟨_, rfl, .rfl⟩, ⟨_, rfl, .rfl⟩, ⟨_, rfl, .rfl⟩, ⟨_, rfl, .rfl⟩, trivial⟩ ⟨⟨_, rfl, ⟨rfl, SubL.rfl⟩⟩, ⟨⟨_, rfl, ⟨rfl, SubL.rfl⟩⟩, trivial⟩⟩ rfl
theorem rL1_semvcsmake_Expr (m : Nat) (p1 : Int) (r0_2 : (List Int)) (n0_3 : Int) (z1v1 : Int) (b2v1 : Bool) (r0 : Tree) (q0_L : (List Int)) (q0_At : Int) (h : ((b2v1 = true) → ∃ (s2_1 : (List UInt8)), ∃ (r2_2 : (List Int)), ∃ (n2_3 : Int), S_semvcsmake_pick r0_2 n0_3 [[120], [121], [122]] s2_1 r2_2 n2_3 ∧ (Tree.node 12 s2_1 [] []) = r0 ∧ r2_2 = q0_L ∧ n2_3 = q0_At) ∧ ((b2v1 = false) → L2_semvcsmake_Expr m p1 r0_2 n0_3 z1v1 r0 q0_L q0_At)) : L1_semvcsmake_Expr (m + 1) p1 r0_2 n0_3 z1v1 b2v1 r0 q0_L q0_At := by
  intro K hK
  refine gB 25 rfl rfl rfl (fun hd => ?_) (fun hd => ?_)
  · skip
    replace h := h.1 hd
    refine gR 5 rfl ?_
    refine gFR 2 rfl rfl rfl rfl ?_
    obtain ⟨s2_1, r2_2, n2_3, hs76, h⟩ := h
    refine gC hs76 [0] (by kernel_rfl) rfl rfl .rfl ⟨⟨_, rfl, ⟨rfl, SubL.rfl⟩⟩, trivial⟩ rfl ?_
    rintro _ _ ⟨rfl, rfl⟩
    refine gR 7 rfl ?_
    obtain ⟨rfl, rfl, rfl⟩ := h
    refine go_sub (F' := (mkF 168 0 [(4, .ptr 1 0)])) (H' := ⟨2, [(1, .var 32 [.int .i64 ((Tree.node 12 s2_1 [] []).kind), .str ((Tree.node 12 s2_1 [] []).text), .row 1 (List.map V.str ((Tree.node 12 s2_1 [] []).leads)), .row 4 (kidsV ((Tree.node 12 s2_1 [] []).kids))]), (0, .var 100 [.row 1 (List.map (V.int .i64) r2_2), .int .i64 n2_3])]⟩) [0, 1] [0] rfl hK ⟨⟨_, rfl, .rfl⟩, trivial⟩ ⟨⟨_, rfl, ⟨rfl, (.cons .rfl (.cons .rfl (.cons (.nil 1) (.cons (.nil 4) .nil))))⟩⟩, ⟨⟨_, rfl, ⟨rfl, SubL.rfl⟩⟩, trivial⟩⟩ rfl ?_
    exact go_endD [1] tabS_ok (rs := [.cell 4 32]) rfl rfl ⟨rfl, rfl⟩
  · skip
    replace h := h.2 hd
    refine gR 1 rfl ?_
    exact gJ (h K hK) [0, 1] [0] rfl hK ⟨⟨_, rfl, .rfl⟩, ⟨_, rfl, .rfl⟩, ⟨_, rfl, .rfl⟩, ⟨_, rfl, .rfl⟩, trivial⟩ ⟨⟨_, rfl, ⟨rfl, SubL.rfl⟩⟩, ⟨⟨_, rfl, ⟨rfl, SubL.rfl⟩⟩, trivial⟩⟩ rfl
theorem rL2_semvcsmake_Expr (m : Nat) (p1 : Int) (r0_2 : (List Int)) (n0_3 : Int) (z1v1 : Int) (r0 : Tree) (q0_L : (List Int)) (q0_At : Int) (h : ((z1v1 = 2) → ∃ (s3_1 : (List UInt8)), ∃ (r3_2 : (List Int)), ∃ (n3_3 : Int), S_semvcsmake_pick r0_2 n0_3 [[48], [49], [50], [49, 48]] s3_1 r3_2 n3_3 ∧ (Tree.node 10 s3_1 [] []) = r0 ∧ r3_2 = q0_L ∧ n3_3 = q0_At) ∧ ((z1v1 ≠ 2) → L3_semvcsmake_Expr m p1 r0_2 n0_3 z1v1 r0 q0_L q0_At)) : L2_semvcsmake_Expr (m + 1) p1 r0_2 n0_3 z1v1 r0 q0_L q0_At := by
  intro K hK
  refine gR 6 rfl ?_
  refine gB 32 rfl rfl rfl (fun hd => ?_) (fun hd => ?_)
  · refine gT 33 rfl hd rfl ?_
    replace hd := (eq_of_beq hd)
    replace h := h.1 hd
    refine gR 5 rfl ?_
    refine gFR 2 rfl rfl rfl rfl ?_
    obtain ⟨s3_1, r3_2, n3_3, hs77, h⟩ := h
    refine gC hs77 [0] (by kernel_rfl) rfl rfl .rfl ⟨⟨_, rfl, ⟨rfl, SubL.rfl⟩⟩, trivial⟩ rfl ?_
    rintro _ _ ⟨rfl, rfl⟩
    refine gR 7 rfl ?_
    obtain ⟨rfl, rfl, rfl⟩ := h
    refine go_sub (F' := (mkF 168 0 [(4, .ptr 1 0)])) (H' := ⟨2, [(1, .var 32 [.int .i64 ((Tree.node 10 s3_1 [] []).kind), .str ((Tree.node 10 s3_1 [] []).text), .row 1 (List.map V.str ((Tree.node 10 s3_1 [] []).leads)), .row 4 (kidsV ((Tree.node 10 s3_1 [] []).kids))]), (0, .var 100 [.row 1 (List.map (V.int .i64) r3_2), .int .i64 n3_3])]⟩) [0, 1] [0] rfl hK ⟨⟨_, rfl, .rfl⟩, trivial⟩ ⟨⟨_, rfl, ⟨rfl, (.cons .rfl (.cons .rfl (.cons (.nil 1) (.cons (.nil 4) .nil))))⟩⟩, ⟨⟨_, rfl, ⟨rfl, SubL.rfl⟩⟩, trivial⟩⟩ rfl ?_
    exact go_endD [1] tabS_ok (rs := [.cell 4 32]) rfl rfl ⟨rfl, rfl⟩
  · refine gF 33 rfl hd rfl ?_
    replace hd := (ne_of_beq_false hd)
    replace h := h.2 hd
    refine gR 1 rfl ?_
    exact gJ (h K hK) [0, 1] [0] rfl hK ⟨⟨_, rfl, .rfl⟩, ⟨_, rfl, .rfl⟩, ⟨_, rfl, .rfl⟩, ⟨_, rfl, .rfl⟩, trivial⟩ ⟨⟨_, rfl, ⟨rfl, SubL.rfl⟩⟩, ⟨⟨_, rfl, ⟨rfl, SubL.rfl⟩⟩, trivial⟩⟩ rfl
theorem rL3_semvcsmake_Expr (m : Nat) (p1 : Int) (r0_2 : (List Int)) (n0_3 : Int) (z1v1 : Int) (r0 : Tree) (q0_L : (List Int)) (q0_At : Int) (h : ((z1v1 = 3) → ∃ (s4_1 : (List UInt8)), ∃ (r4_2 : (List Int)), ∃ (n4_3 : Int), S_semvcsmake_pick r0_2 n0_3 [[34, 34], [34, 97, 34], [34, 35, 32, 98, 34]] s4_1 r4_2 n4_3 ∧ (Tree.node 11 s4_1 [] []) = r0 ∧ r4_2 = q0_L ∧ n4_3 = q0_At) ∧ ((z1v1 ≠ 3) → L4_semvcsmake_Expr m p1 r0_2 n0_3 z1v1 r0 q0_L q0_At)) : L3_semvcsmake_Expr (m + 1) p1 r0_2 n0_3 z1v1 r0 q0_L q0_At := by
  intro K hK
  refine gR 6 rfl ?_
  refine gB 38 rfl rfl rfl (fun hd => ?_) (fun hd => ?_)
  · refine gT 39 rfl hd rfl ?_
    replace hd := (eq_of_beq hd)
    replace h := h.1 hd
    refine gR 5 rfl ?_
    refine gFR 2 rfl rfl rfl rfl ?_
    obtain ⟨s4_1, r4_2, n4_3, hs78, h⟩ := h
    refine gC hs78 [0] (by kernel_rfl) rfl rfl .rfl ⟨⟨_, rfl, ⟨rfl, SubL.rfl⟩⟩, trivial⟩ rfl ?_
    rintro _ _ ⟨rfl, rfl⟩
    refine gR 7 rfl ?_
    obtain ⟨rfl, rfl, rfl⟩ := h
    refine go_sub (F' := (mkF 168 0 [(4, .ptr 1 0)])) (H' := ⟨2, [(1, .var 32 [.int .i64 ((Tree.node 11 s4_1 [] []).kind), .str ((Tree.node 11 s4_1 [] []).text), .row 1 (List.map V.str ((Tree.node 11 s4_1 [] []).leads)), .row 4 (kidsV ((Tree.node 11 s4_1 [] []).kids))]), (0, .var 100 [.row 1 (List.map (V.int .i64) r4_2), .int .i64 n4_3])]⟩) [0, 1] [0] rfl hK ⟨⟨_, rfl, .rfl⟩, trivial⟩ ⟨⟨_, rfl, ⟨rfl, (.cons .rfl (.cons .rfl (.cons (.nil 1) (.cons (.nil 4) .nil))))⟩⟩, ⟨⟨_, rfl, ⟨rfl, SubL.rfl⟩⟩, trivial⟩⟩ rfl ?_
    exact go_endD [1] tabS_ok (rs := [.cell 4 32]) rfl rfl ⟨rfl, rfl⟩
  · refine gF 39 rfl hd rfl ?_
    replace hd := (ne_of_beq_false hd)
    replace h := h.2 hd
    refine gR 1 rfl ?_
    exact gJ (h K hK) [0, 1] [0] rfl hK ⟨⟨_, rfl, .rfl⟩, ⟨_, rfl, .rfl⟩, ⟨_, rfl, .rfl⟩, ⟨_, rfl, .rfl⟩, trivial⟩ ⟨⟨_, rfl, ⟨rfl, SubL.rfl⟩⟩, ⟨⟨_, rfl, ⟨rfl, SubL.rfl⟩⟩, trivial⟩⟩ rfl
theorem rL4_semvcsmake_Expr (m : Nat) (p1 : Int) (r0_2 : (List Int)) (n0_3 : Int) (z1v1 : Int) (r0 : Tree) (q0_L : (List Int)) (q0_At : Int) (h : ((z1v1 = 4) → ∃ (n5_1 : Int), ∃ (r5_2 : (List Int)), ∃ (n5_3 : Int), S_semvcsmake_Dice_Next r0_2 n0_3 2 n5_1 r5_2 n5_3 ∧ InI (13 + n5_1) ∧ (Tree.node (13 + n5_1) [] [] []) = r0 ∧ r5_2 = q0_L ∧ n5_3 = q0_At) ∧ ((z1v1 ≠ 4) → L5_semvcsmake_Expr m p1 r0_2 n0_3 z1v1 r0 q0_L q0_At)) : L4_semvcsmake_Expr (m + 1) p1 r0_2 n0_3 z1v1 r0 q0_L q0_At := by
  intro K hK
  refine gR 6 rfl ?_
  refine gB 44 rfl rfl rfl (fun hd => ?_) (fun hd => ?_)
  · refine gT 45 rfl hd rfl ?_
    replace hd := (eq_of_beq hd)
    replace h := h.1 hd
    refine gR 4 rfl ?_
    obtain ⟨n5_1, r5_2, n5_3, hs79, h⟩ := h
    refine gC hs79 [0] (by kernel_rfl) rfl rfl .rfl ⟨⟨_, rfl, ⟨rfl, SubL.rfl⟩⟩, trivial⟩ rfl ?_
    rintro _ _ ⟨rfl, rfl⟩
    obtain ⟨hb, h⟩ := h
    refine gR 1 rfl ?_
    refine gV 48 (.int .i64 (13 + n5_1)) rfl (wrapI hb rfl) rfl ?_
    refine gR 7 rfl ?_
    obtain ⟨rfl, rfl, rfl⟩ := h
    refine go_sub (F' := (mkF 168 0 [(4, .ptr 1 0)])) (H' := ⟨2, [(1, .var 32 [.int .i64 ((Tree.node (13 + n5_1) [] [] []).kind), .str ((Tree.node (13 + n5_1) [] [] []).text), .row 1 (List.map V.str ((Tree.node (13 + n5_1) [] [] []).leads)), .row 4 (kidsV ((Tree.node (13 + n5_1) [] [] []).kids))]), (0, .var 100 [.row 1 (List.map (V.int .i64) r5_2), .int .i64 n5_3])]⟩) [0, 1] [0] rfl hK ⟨⟨_, rfl, .rfl⟩, trivial⟩ ⟨⟨_, rfl, ⟨rfl, (.cons .rfl (.cons .rfl (.cons (.nil 1) (.cons (.nil 4) .nil))))⟩⟩, ⟨⟨_, rfl, ⟨rfl, SubL.rfl⟩⟩, trivial⟩⟩ rfl ?_
    exact go_endD [1] tabS_ok (rs := [.cell 4 32]) rfl rfl ⟨rfl, rfl⟩
  · refine gF 45 rfl hd rfl ?_
    replace hd := (ne_of_beq_false hd)
    replace h := h.2 hd
    refine gR 1 rfl ?_
    exact gJ (h K hK) [0, 1] [0] rfl hK ⟨⟨_, rfl, .rfl⟩, ⟨_, rfl, .rfl⟩, ⟨_, rfl, .rfl⟩, ⟨_, rfl, .rfl⟩, trivial⟩ ⟨⟨_, rfl, ⟨rfl, SubL.rfl⟩⟩, ⟨⟨_, rfl, ⟨rfl, SubL.rfl⟩⟩, trivial⟩⟩ rfl
theorem rL5_semvcsmake_Expr (m : Nat) (p1 : Int) (r0_2 : (List Int)) (n0_3 : Int) (z1v1 : Int) (r0 : Tree) (q0_L : (List Int)) (q0_At : Int) (h : ((z1v1 = 5) → ∃ (n6_1 : Int), ∃ (r6_2 : (List Int)), ∃ (n6_3 : Int), S_semvcsmake_Dice_Next r0_2 n0_3 3 n6_1 r6_2 n6_3 ∧ ((n6_1 = 0) → (Tree.node 15 [] [] []) = r0 ∧ r6_2 = q0_L ∧ n6_3 = q0_At) ∧ ((n6_1 ≠ 0) → (Tree.node 10 [51] [] []) = r0 ∧ r6_2 = q0_L ∧ n6_3 = q0_At)) ∧ ((z1v1 ≠ 5) → L6_semvcsmake_Expr m p1 r0_2 n0_3 z1v1 r0 q0_L q0_At)) : L5_semvcsmake_Expr (m + 1) p1 r0_2 n0_3 z1v1 r0 q0_L q0_At := by
  intro K hK
  refine gR 6 rfl ?_
  refine gB 50 rfl rfl rfl (fun hd => ?_) (fun hd => ?_)
  · refine gT 51 rfl hd rfl ?_
    replace hd := (eq_of_beq hd)
    replace h := h.1 hd
    refine gR 5 rfl ?_
    obtain ⟨n6_1, r6_2, n6_3, hs80, h⟩ := h
    refine gC hs80 [0] (by kernel_rfl) rfl rfl .rfl ⟨⟨_, rfl, ⟨rfl, SubL.rfl⟩⟩, trivial⟩ rfl ?_
    rintro _ _ ⟨rfl, rfl⟩
    refine gR 3 rfl ?_
    refine gB 54 rfl rfl rfl (fun hd => ?_) (fun hd => ?_)
    · replace hd := (eq_of_beq hd)
      replace h := h.1 hd
      refine gR 11 rfl ?_
      obtain ⟨rfl, rfl, rfl⟩ := h
      refine go_sub (F' := (mkF 168 0 [(4, .ptr 1 0)])) (H' := ⟨2, [(1, .var 32 [.int .i64 ((Tree.node 15 [] [] []).kind), .str ((Tree.node 15 [] [] []).text), .row 1 (List.map V.str ((Tree.node 15 [] [] []).leads)), .row 4 (kidsV ((Tree.node 15 [] [] []).kids))]), (0, .var 100 [.row 1 (List.map (V.int .i64) r6_2), .int .i64 n6_3])]⟩) [0, 1] [0] rfl hK ⟨⟨_, rfl, .rfl⟩, trivial⟩ ⟨⟨_, rfl, ⟨rfl, (.cons .rfl (.cons .rfl (.cons (.nil 1) (.cons (.nil 4) .nil))))⟩⟩, ⟨⟨_, rfl, ⟨rfl, SubL.rfl⟩⟩, trivial⟩⟩ rfl ?_
      exact go_endD [1] tabS_ok (rs := [.cell 4 32]) rfl rfl ⟨rfl, rfl⟩
    · replace hd := (ne_of_beq_false hd)
      replace h := h.2 hd
      refine gR 12 rfl ?_
      obtain ⟨rfl, rfl, rfl⟩ := h
      refine go_sub (F' := (mkF 168 0 [(4, .ptr 1 0)])) (H' := ⟨2, [(1, .var 32 [.int .i64 ((Tree.node 10 [51] [] []).kind), .str ((Tree.node 10 [51] [] []).text), .row 1 (List.map V.str ((Tree.node 10 [51] [] []).leads)), .row 4 (kidsV ((Tree.node 10 [51] [] []).kids))]), (0, .var 100 [.row 1 (List.map (V.int .i64) r6_2), .int .i64 n6_3])]⟩) [0, 1] [0] rfl hK ⟨⟨_, rfl, .rfl⟩, trivial⟩ ⟨⟨_, rfl, ⟨rfl, (.cons .rfl (.cons .rfl (.cons (.nil 1) (.cons (.nil 4) .nil))))⟩⟩, ⟨⟨_, rfl, ⟨rfl, SubL.rfl⟩⟩, trivial⟩⟩ rfl ?_
      exact go_endD [1] tabS_ok (rs := [.cell 4 32]) rfl rfl ⟨rfl, rfl⟩
  · refine gF 51 rfl hd rfl ?_
    replace hd := (ne_of_beq_false hd)
    replace h := h.2 hd
    refine gR 1 rfl ?_
    exact gJ (h K hK) [0, 1] [0] rfl hK ⟨⟨_, rfl, .rfl⟩, ⟨_, rfl, .rfl⟩, ⟨_, rfl, .rfl⟩, ⟨_, rfl, .rfl⟩, trivial⟩ ⟨⟨_, rfl, ⟨rfl, SubL.rfl⟩⟩, ⟨⟨_, rfl, ⟨rfl, SubL.rfl⟩⟩, trivial⟩⟩ rfl
theorem rL6_semvcsmake_Expr (m : Nat) (p1 : Int) (r0_2 : (List Int)) (n0_3 : Int) (z1v1 : Int) (r0 : Tree) (q0_L : (List Int)) (q0_At : Int) (h : ((z1v1 = 6) → L7_semvcsmake_Expr m p1 r0_2 n0_3 z1v1 true r0 q0_L q0_At) ∧ ((z1v1 ≠ 6) → L7_semvcsmake_Expr m p1 r0_2 n0_3 z1v1 (z1v1 == 7) r0 q0_L q0_At)) : L6_semvcsmake_Expr (m + 1) p1 r0_2 n0_3 z1v1 r0 q0_L q0_At := by
  intro K hK
  refine gR 7 rfl ?_
  refine gB 57 rfl rfl rfl (fun hd => ?_) (fun hd => ?_)
  · refine gT 58 rfl hd rfl ?_
    replace hd := (eq_of_beq hd)
    replace h := h.1 hd
    refine gR 3 rfl ?_
    exact gJ (h K hK) [0, 1] [0] rfl hK ⟨⟨_, rfl, .rfl⟩, ⟨_, rfl, .rfl⟩, ⟨_, rfl, .rfl⟩, ⟨_, rfl, .rfl⟩, ⟨_, rfl, .rfl⟩, trivial⟩ ⟨⟨_, rfl, ⟨rfl, SubL.rfl⟩⟩, ⟨⟨_, rfl, ⟨rfl, SubL.rfl⟩⟩, trivial⟩⟩ rfl
  · refine gF 58 rfl hd rfl ?_
    replace hd := (ne_of_beq_false hd)
    replace h := h.2 hd
    refine gR 6 rfl ?_
    exact gJ (h K hK) [0, 1] [0] rfl hK ⟨⟨_, rfl, .rfl⟩, ⟨_, rfl, .rfl⟩, ⟨_, rfl, .rfl⟩, ⟨_, rfl, .rfl⟩, ⟨_, rfl, .rfl⟩, trivial⟩ ⟨⟨_, rfl, ⟨rfl, SubL.rfl⟩⟩, ⟨⟨_, rfl, ⟨rfl, SubL.rfl⟩⟩, trivial⟩⟩ rfl
theorem rL7_semvcsmake_Expr (m : Nat) (p1 : Int) (r0_2 : (List Int)) (n0_3 : Int) (z1v1 : Int) (b8v1 : Bool) (r0 : Tree) (q0_L : (List Int)) (q0_At : Int) (h : ((b8v1 = true) → L8_semvcsmake_Expr m p1 r0_2 n0_3 r0 q0_L q0_At) ∧ ((b8v1 = false) → L9_semvcsmake_Expr m p1 r0_2 n0_3 z1v1 r0 q0_L q0_At)) : L7_semvcsmake_Expr (m + 1) p1 r0_2 n0_3 z1v1 b8v1 r0 q0_L q0_At := by
  intro K hK
  refine gB 57 rfl rfl rfl (fun hd => ?_) (fun hd => ?_)
  · skip
    replace h := h.1 hd
    refine gR 1 rfl ?_
    exact gJ (h K hK) [0, 1] [0] rfl hK ⟨⟨_, rfl, .rfl⟩, ⟨_, rfl, .rfl⟩, ⟨_, rfl, .rfl⟩, trivial⟩ ⟨⟨_, rfl, ⟨rfl, SubL.rfl⟩⟩, ⟨⟨_, rfl, ⟨rfl, SubL.rfl⟩⟩, trivial⟩⟩ rfl
  · skip
    replace h := h.2 hd
    refine gR 1 rfl ?_
    exact gJ (h K hK) [0, 1] [0] rfl hK ⟨⟨_, rfl, .rfl⟩, ⟨_, rfl, .rfl⟩, ⟨_, rfl, .rfl⟩, ⟨_, rfl, .rfl⟩, trivial⟩ ⟨⟨_, rfl, ⟨rfl, SubL.rfl⟩⟩, ⟨⟨_, rfl, ⟨rfl, SubL.rfl⟩⟩, trivial⟩⟩ rfl
theorem rL8_semvcsmake_Expr (m : Nat) (p1 : Int) (r0_2 : (List Int)) (n0_3 : Int) (r0 : Tree) (q0_L : (List Int)) (q0_At : Int) (h : ∃ (s9_1 : (List UInt8)), ∃ (r9_2 : (List Int)), ∃ (n9_3 : Int), S_semvcsmake_pick r0_2 n0_3 [[102], [103], [104], [65, 46, 102], [66, 46, 103], [65, 46, 104]] s9_1 r9_2 n9_3 ∧ ∃ (n9_4 : Int), ∃ (r9_5 : (List Int)), ∃ (n9_6 : Int), S_semvcsmake_Dice_Next r9_2 n9_3 4 n9_4 r9_5 n9_6 ∧ L10_semvcsmake_Expr m p1 s9_1 r9_5 n9_6 ([] : List Tree) n9_4 r0 q0_L q0_At) : L8_semvcsmake_Expr (m + 1) p1 r0_2 n0_3 r0 q0_L q0_At := by
  intro K hK
  refine gR 4 rfl ?_
  refine gFR 2 rfl rfl rfl rfl ?_
  obtain ⟨s9_1, r9_2, n9_3, hs81, h⟩ := h
  refine gC hs81 [0] (by kernel_rfl) rfl rfl .rfl ⟨⟨_, rfl, ⟨rfl, SubL.rfl⟩⟩, trivial⟩ rfl ?_
  rintro _ _ ⟨rfl, rfl⟩
  refine gR 9 rfl ?_
  obtain ⟨n9_4, r9_5, n9_6, hs82, h⟩ := h
  refine gC hs82 [0] (by kernel_rfl) rfl rfl .rfl ⟨⟨_, rfl, ⟨rfl, SubL.rfl⟩⟩, trivial⟩ rfl ?_
  rintro _ _ ⟨rfl, rfl⟩
  refine gR 4 rfl ?_
  refine go_loop m ?_
  refine gNC 4 3 32 4 rfl rfl rfl rfl ?_
  exact gJ (h K _ hK (by omega)) [0, 1, 4, 6] [0] rfl hK ⟨⟨_, rfl, .rfl⟩, ⟨_, rfl, .rfl⟩, ⟨_, rfl, .rfl⟩, ⟨_, rfl, .rfl⟩, ⟨_, rfl, .rfl⟩, trivial⟩ ⟨⟨_, rfl, ⟨rfl, rfl, rfl⟩⟩, ⟨⟨_, rfl, ⟨rfl, SubL.rfl⟩⟩, ⟨⟨_, rfl, ⟨rfl, SubL.rfl⟩⟩, ⟨⟨_, rfl, ⟨rfl, SubL.rfl⟩⟩, trivial⟩⟩⟩⟩ rfl
theorem rL9_semvcsmake_Expr (m : Nat) (p1 : Int) (r0_2 : (List Int)) (n0_3 : Int) (z1v1 : Int) (r0 : Tree) (q0_L : (List Int)) (q0_At : Int) (h : ((z1v1 = 8) → ∃ (n10_1 : Int), ∃ (r10_2 : (List Int)), ∃ (n10_3 : Int), S_semvcsmake_Dice_Next r0_2 n0_3 3 n10_1 r10_2 n10_3 ∧ InI (1 + n10_1) ∧ L11_semvcsmake_Expr m p1 r10_2 n10_3 ([] : List Tree) (1 + n10_1) r0 q0_L q0_At) ∧ ((z1v1 ≠ 8) → L12_semvcsmake_Expr m p1 r0_2 n0_3 z1v1 r0 q0_L q0_At)) : L9_semvcsmake_Expr (m + 1) p1 r0_2 n0_3 z1v1 r0 q0_L q0_At := by
  intro K hK
  refine gR 6 rfl ?_
  refine gB 82 rfl rfl rfl (fun hd => ?_) (fun hd => ?_)
  · refine gT 83 rfl hd rfl ?_
    replace hd := (eq_of_beq hd)
    replace h := h.1 hd
    refine gR 12 rfl ?_
    obtain ⟨n10_1, r10_2, n10_3, hs83, h⟩ := h
    refine gC hs83 [0] (by kernel_rfl) rfl rfl .rfl ⟨⟨_, rfl, ⟨rfl, SubL.rfl⟩⟩, trivial⟩ rfl ?_
    rintro _ _ ⟨rfl, rfl⟩
    obtain ⟨hb, h⟩ := h
    refine gR 1 rfl ?_
    refine gV 87 (.int .i64 (1 + n10_1)) rfl (wrapI hb rfl) rfl ?_
    refine gR 4 rfl ?_
    refine go_loop m ?_
    refine gNC 2 3 32 4 rfl rfl rfl rfl ?_
    exact gJ (h K _ hK (by omega)) [0, 1, 2, 4] [0] rfl hK ⟨⟨_, rfl, .rfl⟩, ⟨_, rfl, .rfl⟩, ⟨_, rfl, .rfl⟩, ⟨_, rfl, .rfl⟩, ⟨_, rfl, .rfl⟩, trivial⟩ ⟨⟨_, rfl, ⟨rfl, rfl, rfl⟩⟩, ⟨⟨_, rfl, ⟨rfl, SubL.rfl⟩⟩, ⟨⟨_, rfl, ⟨rfl, SubL.rfl⟩⟩, ⟨⟨_, rfl, ⟨rfl, SubL.rfl⟩⟩, trivial⟩⟩⟩⟩ rfl
  · refine gF 83 rfl hd rfl ?_
    replace hd := (ne_of_beq_false hd)
    replace h := h.2 hd
    refine gR 1 rfl ?_
    exact gJ (h K hK) [0, 1] [0] rfl hK ⟨⟨_, rfl, .rfl⟩, ⟨_, rfl, .rfl⟩, ⟨_, rfl, .rfl⟩, ⟨_, rfl, .rfl⟩, trivial⟩ ⟨⟨_, rfl, ⟨rfl, SubL.rfl⟩⟩, ⟨⟨_, rfl, ⟨rfl, SubL.rfl⟩⟩, trivial⟩⟩ rfl
theorem rL10_semvcsmake_Expr (m : Nat) (p1 : Int) (s9_1 : (List UInt8)) (l11v1 : (List Int)) (z11v2 : Int) (l11v3 : (List Tree)) (z11v4 : Int) (r0 : Tree) (q0_L : (List Int)) (q0_At : Int) (h : ((0 < z11v4) → InI (p1 - 1) ∧ ∃ (t11_1 : Tree), ∃ (r11_2 : (List Int)), ∃ (n11_3 : Int), S_semvcsmake_Expr l11v1 z11v2 (p1 - 1) t11_1 r11_2 n11_3 ∧ (l11v3 ++ [(Tree.node 17 [] [] [t11_1])]).length ≤ 1000000000 ∧ InI (z11v4 - 1) ∧ L10_semvcsmake_Expr m p1 s9_1 r11_2 n11_3 (l11v3 ++ [(Tree.node 17 [] [] [t11_1])]) (z11v4 - 1) r0 q0_L q0_At) ∧ ((¬ 0 < z11v4) → (Tree.node 16 s9_1 [] l11v3) = r0 ∧ l11v1 = q0_L ∧ z11v2 = q0_At)) : L10_semvcsmake_Expr (m + 1) p1 s9_1 l11v1 z11v2 l11v3 z11v4 r0 q0_L q0_At := by
  intro K j1 hK hj1
  obtain ⟨j1, rfl⟩ : ∃ j, j1 = j + 1 := ⟨j1 - 1, by omega⟩
  refine gR 7 rfl ?_
  refine gB 67 rfl rfl rfl (fun hd => ?_) (fun hd => ?_)
  · replace hd := (of_decide_eq_true hd)
    replace h := h.1 hd
    refine gR 5 rfl ?_
    refine gDs [2] 11 12 rfl (by kernel_rfl) (by kernel_rfl) ?_
    refine gDr [(0, 2), (1, 3), (2, 2), (3, 0)] (by kernel_rfl) rfl rfl ?_
    obtain ⟨hb, h⟩ := h
    refine gDr [(4, 0)] (by kernel_rfl) rfl rfl ?_
    refine gV 74 (.int .i64 (p1 - 1)) rfl (wrapI hb rfl) rfl ?_
    obtain ⟨t11_1, r11_2, n11_3, hs84, h⟩ := h
    refine gDC 5 hs84 [0] (by kernel_rfl) rfl (by kernel_rfl) rfl rfl .rfl ⟨⟨_, rfl, ⟨rfl, SubL.rfl⟩⟩, trivial⟩ (by kernel_rfl) rfl ?_
    rintro _ _ ⟨rfl, rfl⟩
    refine gDr [(6, 0)] (by kernel_rfl) rfl rfl ?_
    refine gHR 6 (kidsV [t11_1]) rfl (oneK t11_1) rfl ?_
    refine gDr [(7, 0)] (by kernel_rfl) rfl rfl ?_
    refine gFR 6 rfl (pureK _) rfl rfl ?_
    refine gS 77 (.agg [.int .i64 17, .str [], .row 1 [], .row 4 (kidsV [t11_1])]) rfl (.agg (.cons .rfl (.cons .rfl (.cons (.nil 1) (.cons .rfl .nil))))) rfl ?_
    refine gDr [(8, 0)] (by kernel_rfl) rfl rfl ?_
    refine gHR 7 (kidsV [(Tree.node 17 [] [] [t11_1])]) rfl (oneK (Tree.node 17 [] [] [t11_1])) rfl ?_
    obtain ⟨hb, h⟩ := h
    refine gDd1 9 (.repl 3 (.row 32 4 (kidsV (l11v3 ++ [(Tree.node 17 [] [] [t11_1])])))) rfl (by kernel_rfl) (dAp' tabS_ok rfl rfl rfl rfl rfl (kidsV_app l11v3 [(Tree.node 17 [] [] [t11_1])]).symm (by rw [lenK]; exact hb)) (okR rfl) rfl (by kernel_rfl) rfl rfl ?_
    refine gDr [(10, 0), (11, 1)] (by kernel_rfl) rfl rfl ?_
    refine gDe (by kernel_rfl) ?_
    refine gR 4 rfl ?_
    obtain ⟨hb, h⟩ := h
    refine gR 1 rfl ?_
    refine gV 69 (.int .i64 (z11v4 - 1)) rfl (wrapI hb rfl) rfl ?_
    refine gR 2 rfl ?_
    refine go_xloop ?_
    exact gJ (h K _ hK (by omega)) [0, 1, 2, 8] [0] rfl hK ⟨⟨_, rfl, .rfl⟩, ⟨_, rfl, .rfl⟩, ⟨_, rfl, .rfl⟩, ⟨_, rfl, .rfl⟩, ⟨_, rfl, .rfl⟩, trivial⟩ ⟨⟨_, rfl, ⟨rfl, rfl, (renK _ (l11v3 ++ [(Tree.node 17 [] [] [t11_1])])).symm⟩⟩, ⟨⟨_, rfl, ⟨rfl, SubL.rfl⟩⟩, ⟨⟨_, rfl, ⟨rfl, SubL.rfl⟩⟩, ⟨⟨_, rfl, ⟨rfl, SubL.rfl⟩⟩, trivial⟩⟩⟩⟩ rfl
  · replace hd := (of_decide_eq_false hd)
    replace h := h.2 hd
    refine gR 3 rfl ?_
    refine go_xloopE ?_
    refine gR 11 rfl ?_
    refine gFR 3 rfl (pureK _) rfl rfl ?_
    obtain ⟨rfl, rfl, rfl⟩ := h
    refine go_sub (F' := (mkF 168 0 [(4, .ptr 1 0)])) (H' := ⟨2, [(1, .var 32 [.int .i64 ((Tree.node 16 s9_1 [] l11v3).kind), .str ((Tree.node 16 s9_1 [] l11v3).text), .row 1 (List.map V.str ((Tree.node 16 s9_1 [] l11v3).leads)), .row 4 (kidsV ((Tree.node 16 s9_1 [] l11v3).kids))]), (0, .var 100 [.row 1 (List.map (V.int .i64) l11v1), .int .i64 z11v2])]⟩) [0, 1] [0] rfl hK ⟨⟨_, rfl, .rfl⟩, trivial⟩ ⟨⟨_, rfl, ⟨rfl, (.cons .rfl (.cons .rfl (.cons (.nil 1) (.cons .rfl .nil))))⟩⟩, ⟨⟨_, rfl, ⟨rfl, SubL.rfl⟩⟩, trivial⟩⟩ rfl ?_
    exact go_endD [1] tabS_ok (rs := [.cell 4 32]) rfl rfl ⟨rfl, rfl⟩
theorem rL11_semvcsmake_Expr (m : Nat) (p1 : Int) (l12v1 : (List Int)) (z12v2 : Int) (l12v3 : (List Tree)) (z12v4 : Int) (r0 : Tree) (q0_L : (List Int)) (q0_At : Int) (h : ((0 < z12v4) → InI (p1 - 1) ∧ ∃ (t12_1 : Tree), ∃ (r12_2 : (List Int)), ∃ (n12_3 : Int), S_semvcsmake_Expr l12v1 z12v2 (p1 - 1) t12_1 r12_2 n12_3 ∧ (l12v3 ++ [t12_1]).length ≤ 1000000000 ∧ InI (z12v4 - 1) ∧ L11_semvcsmake_Expr m p1 r12_2 n12_3 (l12v3 ++ [t12_1]) (z12v4 - 1) r0 q0_L q0_At) ∧ ((¬ 0 < z12v4) → (Tree.node 18 [] [] l12v3) = r0 ∧ l12v1 = q0_L ∧ z12v2 = q0_At)) : L11_semvcsmake_Expr (m + 1) p1 l12v1 z12v2 l12v3 z12v4 r0 q0_L q0_At := by
  intro K j1 hK hj1
  obtain ⟨j1, rfl⟩ : ∃ j, j1 = j + 1 := ⟨j1 - 1, by omega⟩
  refine gR 7 rfl ?_
  refine gB 89 rfl rfl rfl (fun hd => ?_) (fun hd => ?_)
  · replace hd := (of_decide_eq_true hd)
    replace h := h.1 hd
    refine gR 5 rfl ?_
    refine gDs [2] 9 10 rfl (by kernel_rfl) (by kernel_rfl) ?_
    refine gDr [(0, 2), (1, 3), (2, 2), (3, 0)] (by kernel_rfl) rfl rfl ?_
    obtain ⟨hb, h⟩ := h
    refine gDr [(4, 0)] (by kernel_rfl) rfl rfl ?_
    refine gV 96 (.int .i64 (p1 - 1)) rfl (wrapI hb rfl) rfl ?_
    obtain ⟨t12_1, r12_2, n12_3, hs85, h⟩ := h
    refine gDC 5 hs85 [0] (by kernel_rfl) rfl (by kernel_rfl) rfl rfl .rfl ⟨⟨_, rfl, ⟨rfl, SubL.rfl⟩⟩, trivial⟩ (by kernel_rfl) rfl ?_
    rintro _ _ ⟨rfl, rfl⟩
    refine gDr [(6, 0)] (by kernel_rfl) rfl rfl ?_
    refine gHR 6 (kidsV [t12_1]) rfl (oneK t12_1) rfl ?_
    obtain ⟨hb, h⟩ := h
    refine gDd1 7 (.repl 3 (.row 32 4 (kidsV (l12v3 ++ [t12_1])))) rfl (by kernel_rfl) (dAp' tabS_ok rfl rfl rfl rfl rfl (kidsV_app l12v3 [t12_1]).symm (by rw [lenK]; exact hb)) (okR rfl) rfl (by kernel_rfl) rfl rfl ?_
    refine gDr [(8, 0), (9, 1)] (by kernel_rfl) rfl rfl ?_
    refine gDe (by kernel_rfl) ?_
    refine gR 4 rfl ?_
    obtain ⟨hb, h⟩ := h
    refine gR 1 rfl ?_
    refine gV 91 (.int .i64 (z12v4 - 1)) rfl (wrapI hb rfl) rfl ?_
    refine gR 2 rfl ?_
    refine go_xloop ?_
    exact gJ (h K _ hK (by omega)) [0, 1, 2, 7] [0] rfl hK ⟨⟨_, rfl, .rfl⟩, ⟨_, rfl, .rfl⟩, ⟨_, rfl, .rfl⟩, ⟨_, rfl, .rfl⟩, ⟨_, rfl, .rfl⟩, trivial⟩ ⟨⟨_, rfl, ⟨rfl, rfl, (renK _ (l12v3 ++ [t12_1])).symm⟩⟩, ⟨⟨_, rfl, ⟨rfl, SubL.rfl⟩⟩, ⟨⟨_, rfl, ⟨rfl, SubL.rfl⟩⟩, ⟨⟨_, rfl, ⟨rfl, SubL.rfl⟩⟩, trivial⟩⟩⟩⟩ rfl
  · replace hd := (of_decide_eq_false hd)
    replace h := h.2 hd
    refine gR 3 rfl ?_
    refine go_xloopE ?_
    refine gR 11 rfl ?_
    refine gFR 3 rfl (pureK _) rfl rfl ?_
    obtain ⟨rfl, rfl, rfl⟩ := h
    refine go_sub (F' := (mkF 168 0 [(4, .ptr 1 0)])) (H' := ⟨2, [(1, .var 32 [.int .i64 ((Tree.node 18 [] [] l12v3).kind), .str ((Tree.node 18 [] [] l12v3).text), .row 1 (List.map V.str ((Tree.node 18 [] [] l12v3).leads)), .row 4 (kidsV ((Tree.node 18 [] [] l12v3).kids))]), (0, .var 100 [.row 1 (List.map (V.int .i64) l12v1), .int .i64 z12v2])]⟩) [0, 1] [0] rfl hK ⟨⟨_, rfl, .rfl⟩, trivial⟩ ⟨⟨_, rfl, ⟨rfl, (.cons .rfl (.cons .rfl (.cons (.nil 1) (.cons .rfl .nil))))⟩⟩, ⟨⟨_, rfl, ⟨rfl, SubL.rfl⟩⟩, trivial⟩⟩ rfl ?_
    exact go_endD [1] tabS_ok (rs := [.cell 4 32]) rfl rfl ⟨rfl, rfl⟩
theorem rL12_semvcsmake_Expr (m : Nat) (p1 : Int) (r0_2 : (List Int)) (n0_3 : Int) (z1v1 : Int) (r0 : Tree) (q0_L : (List Int)) (q0_At : Int) (h : ((z1v1 = 9) → L13_semvcsmake_Expr m p1 r0_2 n0_3 r0 q0_L q0_At) ∧ ((z1v1 ≠ 9) → L14_semvcsmake_Expr m p1 r0_2 n0_3 z1v1 r0 q0_L q0_At)) : L12_semvcsmake_Expr (m + 1) p1 r0_2 n0_3 z1v1 r0 q0_L q0_At := by
  intro K hK
  refine gR 6 rfl ?_
  refine gB 102 rfl rfl rfl (fun hd => ?_) (fun hd => ?_)
  · refine gT 103 rfl hd rfl ?_
    replace hd := (eq_of_beq hd)
    replace h := h.1 hd
    refine gR 1 rfl ?_
    exact gJ (h K hK) [0, 1] [0] rfl hK ⟨⟨_, rfl, .rfl⟩, ⟨_, rfl, .rfl⟩, ⟨_, rfl, .rfl⟩, trivial⟩ ⟨⟨_, rfl, ⟨rfl, SubL.rfl⟩⟩, ⟨⟨_, rfl, ⟨rfl, SubL.rfl⟩⟩, trivial⟩⟩ rfl
  · refine gF 103 rfl hd rfl ?_
    replace hd := (ne_of_beq_false hd)
    replace h := h.2 hd
    refine gR 1 rfl ?_
    exact gJ (h K hK) [0, 1] [0] rfl hK ⟨⟨_, rfl, .rfl⟩, ⟨_, rfl, .rfl⟩, ⟨_, rfl, .rfl⟩, ⟨_, rfl, .rfl⟩, trivial⟩ ⟨⟨_, rfl, ⟨rfl, SubL.rfl⟩⟩, ⟨⟨_, rfl, ⟨rfl, SubL.rfl⟩⟩, trivial⟩⟩ rfl
theorem rL13_semvcsmake_Expr (m : Nat) (p1 : Int) (r0_2 : (List Int)) (n0_3 : Int) (r0 : Tree) (q0_L : (List Int)) (q0_At : Int) (h : InI (p1 - 1) ∧ ∃ (t14_1 : Tree), ∃ (r14_2 : (List Int)), ∃ (n14_3 : Int), S_semvcsmake_Expr r0_2 n0_3 (p1 - 1) t14_1 r14_2 n14_3 ∧ InI (p1 - 1) ∧ ∃ (t14_4 : Tree), ∃ (r14_5 : (List Int)), ∃ (n14_6 : Int), S_semvcsmake_Expr r14_2 n14_3 (p1 - 1) t14_4 r14_5 n14_6 ∧ InI (p1 - 1) ∧ ∃ (t14_7 : Tree), ∃ (r14_8 : (List Int)), ∃ (n14_9 : Int), S_semvcsmake_Expr r14_5 n14_6 (p1 - 1) t14_7 r14_8 n14_9 ∧ (Tree.node 19 [] [] [t14_1, t14_4, t14_7]) = r0 ∧ r14_8 = q0_L ∧ n14_9 = q0_At) : L13_semvcsmake_Expr (m + 1) p1 r0_2 n0_3 r0 q0_L q0_At := by
  intro K hK
  refine gR 4 rfl ?_
  obtain ⟨hb, h⟩ := h
  refine gR 1 rfl ?_
  refine gV 106 (.int .i64 (p1 - 1)) rfl (wrapI hb rfl) rfl ?_
  obtain ⟨t14_1, r14_2, n14_3, hs86, h⟩ := h
  refine gC hs86 [0] (by kernel_rfl) rfl rfl .rfl ⟨⟨_, rfl, ⟨rfl, SubL.rfl⟩⟩, trivial⟩ rfl ?_
  rintro _ _ ⟨rfl, rfl⟩
  refine gR 2 rfl ?_
  obtain ⟨hb, h⟩ := h
  refine gR 1 rfl ?_
  refine gV 110 (.int .i64 (p1 - 1)) rfl (wrapI hb rfl) rfl ?_
  obtain ⟨t14_4, r14_5, n14_6, hs87, h⟩ := h
  refine gC hs87 [0] (by kernel_rfl) rfl rfl .rfl ⟨⟨_, rfl, ⟨rfl, SubL.rfl⟩⟩, trivial⟩ rfl ?_
  rintro _ _ ⟨rfl, rfl⟩
  refine gR 2 rfl ?_
  obtain ⟨hb, h⟩ := h
  refine gR 1 rfl ?_
  refine gV 114 (.int .i64 (p1 - 1)) rfl (wrapI hb rfl) rfl ?_
  obtain ⟨t14_7, r14_8, n14_9, hs88, h⟩ := h
  refine gC hs88 [0] (by kernel_rfl) rfl rfl .rfl ⟨⟨_, rfl, ⟨rfl, SubL.rfl⟩⟩, trivial⟩ rfl ?_
  rintro _ _ ⟨rfl, rfl⟩
  refine gR 1 rfl ?_
  refine gHR 8 (kidsV [t14_1, t14_4, t14_7]) rfl (litK [t14_1, t14_4, t14_7]) rfl ?_
  refine gR 7 rfl ?_
  refine gFR 8 rfl (pureK _) rfl rfl ?_
  obtain ⟨rfl, rfl, rfl⟩ := h
  refine go_sub (F' := (mkF 168 0 [(4, .ptr 1 0)])) (H' := ⟨2, [(1, .var 32 [.int .i64 ((Tree.node 19 [] [] [t14_1, t14_4, t14_7]).kind), .str ((Tree.node 19 [] [] [t14_1, t14_4, t14_7]).text), .row 1 (List.map V.str ((Tree.node 19 [] [] [t14_1, t14_4, t14_7]).leads)), .row 4 (kidsV ((Tree.node 19 [] [] [t14_1, t14_4, t14_7]).kids))]), (0, .var 100 [.row 1 (List.map (V.int .i64) r14_8), .int .i64 n14_9])]⟩) [0, 1] [0] rfl hK ⟨⟨_, rfl, .rfl⟩, trivial⟩ ⟨⟨_, rfl, ⟨rfl, (.cons .rfl (.cons .rfl (.cons (.nil 1) (.cons .rfl .nil))))⟩⟩, ⟨⟨_, rfl, ⟨rfl, SubL.rfl⟩⟩, trivial⟩⟩ rfl ?_
  exact go_endD [1] tabS_ok (rs := [.cell 4 32]) rfl rfl ⟨rfl, rfl⟩
theorem rL14_semvcsmake_Expr (m : Nat) (p1 : Int) (r0_2 : (List Int)) (n0_3 : Int) (z1v1 : Int) (r0 : Tree) (q0_L : (List Int)) (q0_At : Int) (h : ((z1v1 = 10) → L15_semvcsmake_Expr m p1 r0_2 n0_3 z1v1 true r0 q0_L q0_At) ∧ ((z1v1 ≠ 10) → L15_semvcsmake_Expr m p1 r0_2 n0_3 z1v1 (z1v1 == 11) r0 q0_L q0_At)) : L14_semvcsmake_Expr (m + 1) p1 r0_2 n0_3 z1v1 r0 q0_L q0_At := by
  intro K hK
  refine gR 7 rfl ?_
  refine gB 118 rfl rfl rfl (fun hd => ?_) (fun hd => ?_)
  · refine gT 119 rfl hd rfl ?_
    replace hd := (eq_of_beq hd)
    replace h := h.1 hd
    refine gR 3 rfl ?_
    exact gJ (h K hK) [0, 1] [0] rfl hK ⟨⟨_, rfl, .rfl⟩, ⟨_, rfl, .rfl⟩, ⟨_, rfl, .rfl⟩, ⟨_, rfl, .rfl⟩, ⟨_, rfl, .rfl⟩, trivial⟩ ⟨⟨_, rfl, ⟨rfl, SubL.rfl⟩⟩, ⟨⟨_, rfl, ⟨rfl, SubL.rfl⟩⟩, trivial⟩⟩ rfl
  · refine gF 119 rfl hd rfl ?_
    replace hd := (ne_of_beq_false hd)
    replace h := h.2 hd
    refine gR 6 rfl ?_
    exact gJ (h K hK) [0, 1] [0] rfl hK ⟨⟨_, rfl, .rfl⟩, ⟨_, rfl, .rfl⟩, ⟨_, rfl, .rfl⟩, ⟨_, rfl, .rfl⟩, ⟨_, rfl, .rfl⟩, trivial⟩ ⟨⟨_, rfl, ⟨rfl, SubL.rfl⟩⟩, ⟨⟨_, rfl, ⟨rfl, SubL.rfl⟩⟩, trivial⟩⟩ rfl
theorem rL15_semvcsmake_Expr (m : Nat) (p1 : Int) (r0_2 : (List Int)) (n0_3 : Int) (z1v1 : Int) (b16v1 : Bool) (r0 : Tree) (q0_L : (List Int)) (q0_At : Int) (h : ((b16v1 = true) → L16_semvcsmake_Expr m p1 r0_2 n0_3 r0 q0_L q0_At) ∧ ((b16v1 = false) → L17_semvcsmake_Expr m p1 r0_2 n0_3 z1v1 r0 q0_L q0_At)) : L15_semvcsmake_Expr (m + 1) p1 r0_2 n0_3 z1v1 b16v1 r0 q0_L q0_At := by
  intro K hK
  refine gB 118 rfl rfl rfl (fun hd => ?_) (fun hd => ?_)
  · skip
    replace h := h.1 hd
    refine gR 1 rfl ?_
    exact gJ (h K hK) [0, 1] [0] rfl hK ⟨⟨_, rfl, .rfl⟩, ⟨_, rfl, .rfl⟩, ⟨_, rfl, .rfl⟩, trivial⟩ ⟨⟨_, rfl, ⟨rfl, SubL.rfl⟩⟩, ⟨⟨_, rfl, ⟨rfl, SubL.rfl⟩⟩, trivial⟩⟩ rfl
  · skip
    replace h := h.2 hd
    refine gR 1 rfl ?_
    exact gJ (h K hK) [0, 1] [0] rfl hK ⟨⟨_, rfl, .rfl⟩, ⟨_, rfl, .rfl⟩, ⟨_, rfl, .rfl⟩, ⟨_, rfl, .rfl⟩, trivial⟩ ⟨⟨_, rfl, ⟨rfl, SubL.rfl⟩⟩, ⟨⟨_, rfl, ⟨rfl, SubL.rfl⟩⟩, trivial⟩⟩ rfl
theorem rL16_semvcsmake_Expr (m : Nat) (p1 : Int) (r0_2 : (List Int)) (n0_3 : Int) (r0 : Tree) (q0_L : (List Int)) (q0_At : Int) (h : ∃ (s17_1 : (List UInt8)), ∃ (r17_2 : (List Int)), ∃ (n17_3 : Int), S_semvcsmake_pick r0_2 n0_3 [[120], [121], [122]] s17_1 r17_2 n17_3 ∧ InI (p1 - 1) ∧ ∃ (t17_4 : Tree), ∃ (r17_5 : (List Int)), ∃ (n17_6 : Int), S_semvcsmake_Expr r17_2 n17_3 (p1 - 1) t17_4 r17_5 n17_6 ∧ InI (p1 - 1) ∧ ∃ (t17_7 : Tree), ∃ (r17_8 : (List Int)), ∃ (n17_9 : Int), S_semvcsmake_Expr r17_5 n17_6 (p1 - 1) t17_7 r17_8 n17_9 ∧ (Tree.node 20 s17_1 [] [t17_4, t17_7]) = r0 ∧ r17_8 = q0_L ∧ n17_9 = q0_At) : L16_semvcsmake_Expr (m + 1) p1 r0_2 n0_3 r0 q0_L q0_At := by
  intro K hK
  refine gR 4 rfl ?_
  refine gFR 2 rfl rfl rfl rfl ?_
  obtain ⟨s17_1, r17_2, n17_3, hs89, h⟩ := h
  refine gC hs89 [0] (by kernel_rfl) rfl rfl .rfl ⟨⟨_, rfl, ⟨rfl, SubL.rfl⟩⟩, trivial⟩ rfl ?_
  rintro _ _ ⟨rfl, rfl⟩
  refine gR 2 rfl ?_
  obtain ⟨hb, h⟩ := h
  refine gR 1 rfl ?_
  refine gV 126 (.int .i64 (p1 - 1)) rfl (wrapI hb rfl) rfl ?_
  obtain ⟨t17_4, r17_5, n17_6, hs90, h⟩ := h
  refine gC hs90 [0] (by kernel_rfl) rfl rfl .rfl ⟨⟨_, rfl, ⟨rfl, SubL.rfl⟩⟩, trivial⟩ rfl ?_
  rintro _ _ ⟨rfl, rfl⟩
  refine gR 2 rfl ?_
  obtain ⟨hb, h⟩ := h
  refine gR 1 rfl ?_
  refine gV 130 (.int .i64 (p1 - 1)) rfl (wrapI hb rfl) rfl ?_
  obtain ⟨t17_7, r17_8, n17_9, hs91, h⟩ := h
  refine gC hs91 [0] (by kernel_rfl) rfl rfl .rfl ⟨⟨_, rfl, ⟨rfl, SubL.rfl⟩⟩, trivial⟩ rfl ?_
  rintro _ _ ⟨rfl, rfl⟩
  refine gR 1 rfl ?_
  refine gHR 8 (kidsV [t17_4, t17_7]) rfl (litK [t17_4, t17_7]) rfl ?_
  refine gR 7 rfl ?_
  refine gFR 8 rfl (pureK _) rfl rfl ?_
  obtain ⟨rfl, rfl, rfl⟩ := h
  refine go_sub (F' := (mkF 168 0 [(4, .ptr 1 0)])) (H' := ⟨2, [(1, .var 32 [.int .i64 ((Tree.node 20 s17_1 [] [t17_4, t17_7]).kind), .str ((Tree.node 20 s17_1 [] [t17_4, t17_7]).text), .row 1 (List.map V.str ((Tree.node 20 s17_1 [] [t17_4, t17_7]).leads)), .row 4 (kidsV ((Tree.node 20 s17_1 [] [t17_4, t17_7]).kids))]), (0, .var 100 [.row 1 (List.map (V.int .i64) r17_8), .int .i64 n17_9])]⟩) [0, 1] [0] rfl hK ⟨⟨_, rfl, .rfl⟩, trivial⟩ ⟨⟨_, rfl, ⟨rfl, (.cons .rfl (.cons .rfl (.cons (.nil 1) (.cons .rfl .nil))))⟩⟩, ⟨⟨_, rfl, ⟨rfl, SubL.rfl⟩⟩, trivial⟩⟩ rfl ?_
  exact go_endD [1] tabS_ok (rs := [.cell 4 32]) rfl rfl ⟨rfl, rfl⟩
theorem rL17_semvcsmake_Expr (m : Nat) (p1 : Int) (r0_2 : (List Int)) (n0_3 : Int) (z1v1 : Int) (r0 : Tree) (q0_L : (List Int)) (q0_At : Int) (h : ((z1v1 = 12) → L18_semvcsmake_Expr m p1 r0_2 n0_3 r0 q0_L q0_At) ∧ ((z1v1 ≠ 12) → InI (p1 - 1) ∧ ∃ (t18_1 : Tree), ∃ (r18_2 : (List Int)), ∃ (n18_3 : Int), S_semvcsmake_Expr r0_2 n0_3 (p1 - 1) t18_1 r18_2 n18_3 ∧ (Tree.node 22 [] [] [t18_1]) = r0 ∧ r18_2 = q0_L ∧ n18_3 = q0_At)) : L17_semvcsmake_Expr (m + 1) p1 r0_2 n0_3 z1v1 r0 q0_L q0_At := by
  intro K hK
  refine gR 6 rfl ?_
  refine gB 134 rfl rfl rfl (fun hd => ?_) (fun hd => ?_)
  · refine gT 135 rfl hd rfl ?_
    replace hd := (eq_of_beq hd)
    replace h := h.1 hd
    refine gR 1 rfl ?_
    exact gJ (h K hK) [0, 1] [0] rfl hK ⟨⟨_, rfl, .rfl⟩, ⟨_, rfl, .rfl⟩, ⟨_, rfl, .rfl⟩, trivial⟩ ⟨⟨_, rfl, ⟨rfl, SubL.rfl⟩⟩, ⟨⟨_, rfl, ⟨rfl, SubL.rfl⟩⟩, trivial⟩⟩ rfl
  · refine gF 135 rfl hd rfl ?_
    replace hd := (ne_of_beq_false hd)
    replace h := h.2 hd
    refine gR 8 rfl ?_
    obtain ⟨hb, h⟩ := h
    refine gR 1 rfl ?_
    refine gV 164 (.int .i64 (p1 - 1)) rfl (wrapI hb rfl) rfl ?_
    obtain ⟨t18_1, r18_2, n18_3, hs92, h⟩ := h
    refine gC hs92 [0] (by kernel_rfl) rfl rfl .rfl ⟨⟨_, rfl, ⟨rfl, SubL.rfl⟩⟩, trivial⟩ rfl ?_
    rintro _ _ ⟨rfl, rfl⟩
    refine gR 1 rfl ?_
    refine gHR 4 (kidsV [t18_1]) rfl (oneK t18_1) rfl ?_
    refine gR 5 rfl ?_
    refine gFR 4 rfl (pureK _) rfl rfl ?_
    obtain ⟨rfl, rfl, rfl⟩ := h
    refine go_sub (F' := (mkF 168 0 [(4, .ptr 1 0)])) (H' := ⟨2, [(1, .var 32 [.int .i64 ((Tree.node 22 [] [] [t18_1]).kind), .str ((Tree.node 22 [] [] [t18_1]).text), .row 1 (List.map V.str ((Tree.node 22 [] [] [t18_1]).leads)), .row 4 (kidsV ((Tree.node 22 [] [] [t18_1]).kids))]), (0, .var 100 [.row 1 (List.map (V.int .i64) r18_2), .int .i64 n18_3])]⟩) [0, 1] [0] rfl hK ⟨⟨_, rfl, .rfl⟩, trivial⟩ ⟨⟨_, rfl, ⟨rfl, (.cons .rfl (.cons .rfl (.cons (.nil 1) (.cons .rfl .nil))))⟩⟩, ⟨⟨_, rfl, ⟨rfl, SubL.rfl⟩⟩, trivial⟩⟩ rfl ?_
    exact go_endD [1] tabS_ok (rs := [.cell 4 32]) rfl rfl ⟨rfl, rfl⟩
theorem rL18_semvcsmake_Expr (m : Nat) (p1 : Int) (r0_2 : (List Int)) (n0_3 : Int) (r0 : Tree) (q0_L : (List Int)) (q0_At : Int) (h : ∃ (s19_1 : (List UInt8)), ∃ (r19_2 : (List Int)), ∃ (n19_3 : Int), S_semvcsmake_pick r0_2 n0_3 [[43], [45], [42], [60], [61, 61]] s19_1 r19_2 n19_3 ∧ InI (p1 - 1) ∧ ∃ (t19_4 : Tree), ∃ (r19_5 : (List Int)), ∃ (n19_6 : Int), S_semvcsmake_unit r19_2 n19_3 (p1 - 1) t19_4 r19_5 n19_6 ∧ ∃ (n19_7 : Int), ∃ (r19_8 : (List Int)), ∃ (n19_9 : Int), S_semvcsmake_Dice_Next r19_5 n19_6 3 n19_7 r19_8 n19_9 ∧ ((n19_7 = 0) → ∃ (s19_10 : (List UInt8)), ∃ (r19_11 : (List Int)), ∃ (n19_12 : Int), S_semvcsmake_pick r19_8 n19_9 [[43], [42]] s19_10 r19_11 n19_12 ∧ ∃ (t19_13 : Tree), ∃ (r19_14 : (List Int)), ∃ (n19_15 : Int), S_semvcsmake_unit r19_11 n19_12 0 t19_13 r19_14 n19_15 ∧ InI (p1 - 1) ∧ ∃ (t19_16 : Tree), ∃ (r19_17 : (List Int)), ∃ (n19_18 : Int), S_semvcsmake_unit r19_14 n19_15 (p1 - 1) t19_16 r19_17 n19_18 ∧ (Tree.node 21 s19_1 [] [(Tree.node 21 s19_10 [] [t19_4, t19_13]), t19_16]) = r0 ∧ r19_17 = q0_L ∧ n19_18 = q0_At) ∧ ((n19_7 ≠ 0) → InI (p1 - 1) ∧ ∃ (t19_19 : Tree), ∃ (r19_20 : (List Int)), ∃ (n19_21 : Int), S_semvcsmake_unit r19_8 n19_9 (p1 - 1) t19_19 r19_20 n19_21 ∧ (Tree.node 21 s19_1 [] [t19_4, t19_19]) = r0 ∧ r19_20 = q0_L ∧ n19_21 = q0_At)) : L18_semvcsmake_Expr (m + 1) p1 r0_2 n0_3 r0 q0_L q0_At := by
  intro K hK
  refine gR 4 rfl ?_
  refine gFR 2 rfl rfl rfl rfl ?_
  obtain ⟨s19_1, r19_2, n19_3, hs93, h⟩ := h
  refine gC hs93 [0] (by kernel_rfl) rfl rfl .rfl ⟨⟨_, rfl, ⟨rfl, SubL.rfl⟩⟩, trivial⟩ rfl ?_
  rintro _ _ ⟨rfl, rfl⟩
  refine gR 7 rfl ?_
  obtain ⟨hb, h⟩ := h
  refine gR 1 rfl ?_
  refine gV 141 (.int .i64 (p1 - 1)) rfl (wrapI hb rfl) rfl ?_
  obtain ⟨t19_4, r19_5, n19_6, hs94, h⟩ := h
  refine gC hs94 [0] (by kernel_rfl) rfl rfl .rfl ⟨⟨_, rfl, ⟨rfl, SubL.rfl⟩⟩, trivial⟩ rfl ?_
  rintro _ _ ⟨rfl, rfl⟩
  refine gR 8 rfl ?_
  obtain ⟨n19_7, r19_8, n19_9, hs95, h⟩ := h
  refine gC hs95 [0] (by kernel_rfl) rfl rfl .rfl ⟨⟨_, rfl, ⟨rfl, SubL.rfl⟩⟩, trivial⟩ rfl ?_
  rintro _ _ ⟨rfl, rfl⟩
  refine gR 3 rfl ?_
  refine gB 145 rfl rfl rfl (fun hd => ?_) (fun hd => ?_)
  · replace hd := (eq_of_beq hd)
    replace h := h.1 hd
    refine gR 1 rfl ?_
    refine gDs [6] 8 9 rfl (by kernel_rfl) (by kernel_rfl) ?_
    refine gDr [(0, 2), (3, 3), (4, 2), (1, 0)] (by kernel_rfl) rfl rfl ?_
    refine gFR 8 rfl rfl rfl rfl ?_
    obtain ⟨s19_10, r19_11, n19_12, hs96, h⟩ := h
    refine gDC 2 hs96 [0] (by kernel_rfl) rfl (by kernel_rfl) rfl rfl .rfl ⟨⟨_, rfl, ⟨rfl, SubL.rfl⟩⟩, trivial⟩ (by kernel_rfl) rfl ?_
    rintro _ _ ⟨rfl, rfl⟩
    obtain ⟨t19_13, r19_14, n19_15, hs97, h⟩ := h
    refine gDC 5 hs97 [0] (by kernel_rfl) rfl (by kernel_rfl) rfl rfl .rfl ⟨⟨_, rfl, ⟨rfl, SubL.rfl⟩⟩, trivial⟩ (by kernel_rfl) rfl ?_
    rintro _ _ ⟨rfl, rfl⟩
    refine gDr [(6, 0)] (by kernel_rfl) rfl rfl ?_
    refine gHR 12 (kidsV [t19_4, t19_13]) rfl (litK [t19_4, t19_13]) rfl ?_
    refine gDr [(7, 0), (8, 1)] (by kernel_rfl) rfl rfl ?_
    refine gDe (by kernel_rfl) ?_
    refine gR 2 rfl ?_
    refine gDs [6] 8 9 rfl (by kernel_rfl) (by kernel_rfl) ?_
    refine gDr [(0, 2), (1, 3), (2, 2), (3, 0)] (by kernel_rfl) rfl rfl ?_
    obtain ⟨hb, h⟩ := h
    refine gDr [(4, 0)] (by kernel_rfl) rfl rfl ?_
    refine gV 158 (.int .i64 (p1 - 1)) rfl (wrapI hb rfl) rfl ?_
    obtain ⟨t19_16, r19_17, n19_18, hs98, h⟩ := h
    refine gDC 5 hs98 [0] (by kernel_rfl) rfl (by kernel_rfl) rfl rfl .rfl ⟨⟨_, rfl, ⟨rfl, SubL.rfl⟩⟩, trivial⟩ (by kernel_rfl) rfl ?_
    rintro _ _ ⟨rfl, rfl⟩
    refine gFR 12 rfl (pureK _) rfl rfl ?_
    refine gS 155 (.agg [.int .i64 21, .str s19_10, .row 1 [], .row 4 (kidsV [t19_4, t19_13])]) rfl (.agg (.cons .rfl (.cons .rfl (.cons (.nil 1) (.cons .rfl .nil))))) rfl ?_
    refine gDr [(6, 0)] (by kernel_rfl) rfl rfl ?_
    refine gHR 15 (kidsV [(Tree.node 21 s19_10 [] [t19_4, t19_13]), t19_16]) rfl (litK [(Tree.node 21 s19_10 [] [t19_4, t19_13]), t19_16]) rfl ?_
    refine gDr [(7, 0), (8, 1)] (by kernel_rfl) rfl rfl ?_
    refine gDe (by kernel_rfl) ?_
    refine gR 4 rfl ?_
    refine gFR 15 rfl (pureK _) rfl rfl ?_
    obtain ⟨rfl, rfl, rfl⟩ := h
    refine go_sub (F' := (mkF 168 0 [(4, .ptr 1 0)])) (H' := ⟨2, [(1, .var 32 [.int .i64 ((Tree.node 21 s19_1 [] [(Tree.node 21 s19_10 [] [t19_4, t19_13]), t19_16]).kind), .str ((Tree.node 21 s19_1 [] [(Tree.node 21 s19_10 [] [t19_4, t19_13]), t19_16]).text), .row 1 (List.map V.str ((Tree.node 21 s19_1 [] [(Tree.node 21 s19_10 [] [t19_4, t19_13]), t19_16]).leads)), .row 4 (kidsV ((Tree.node 21 s19_1 [] [(Tree.node 21 s19_10 [] [t19_4, t19_13]), t19_16]).kids))]), (0, .var 100 [.row 1 (List.map (V.int .i64) r19_17), .int .i64 n19_18])]⟩) [0, 1] [0] rfl hK ⟨⟨_, rfl, .rfl⟩, trivial⟩ ⟨⟨_, rfl, ⟨rfl, (.cons .rfl (.cons .rfl (.cons (.nil 1) (.cons .rfl .nil))))⟩⟩, ⟨⟨_, rfl, ⟨rfl, SubL.rfl⟩⟩, trivial⟩⟩ rfl ?_
    exact go_endD [1] tabS_ok (rs := [.cell 4 32]) rfl rfl ⟨rfl, rfl⟩
  · replace hd := (ne_of_beq_false hd)
    replace h := h.2 hd
    refine gR 4 rfl ?_
    refine gDs [6] 8 9 rfl (by kernel_rfl) (by kernel_rfl) ?_
    refine gDr [(0, 2), (1, 3), (2, 2), (3, 0)] (by kernel_rfl) rfl rfl ?_
    obtain ⟨hb, h⟩ := h
    refine gDr [(4, 0)] (by kernel_rfl) rfl rfl ?_
    refine gV 158 (.int .i64 (p1 - 1)) rfl (wrapI hb rfl) rfl ?_
    obtain ⟨t19_19, r19_20, n19_21, hs99, h⟩ := h
    refine gDC 5 hs99 [0] (by kernel_rfl) rfl (by kernel_rfl) rfl rfl .rfl ⟨⟨_, rfl, ⟨rfl, SubL.rfl⟩⟩, trivial⟩ (by kernel_rfl) rfl ?_
    rintro _ _ ⟨rfl, rfl⟩
    refine gDr [(6, 0)] (by kernel_rfl) rfl rfl ?_
    refine gHR 10 (kidsV [t19_4, t19_19]) rfl (litK [t19_4, t19_19]) rfl ?_
    refine gDr [(7, 0), (8, 1)] (by kernel_rfl) rfl rfl ?_
    refine gDe (by kernel_rfl) ?_
    refine gR 4 rfl ?_
    refine gFR 10 rfl (pureK _) rfl rfl ?_
    obtain ⟨rfl, rfl, rfl⟩ := h
    refine go_sub (F' := (mkF 168 0 [(4, .ptr 1 0)])) (H' := ⟨2, [(1, .var 32 [.int .i64 ((Tree.node 21 s19_1 [] [t19_4, t19_19]).kind), .str ((Tree.node 21 s19_1 [] [t19_4, t19_19]).text), .row 1 (List.map V.str ((Tree.node 21 s19_1 [] [t19_4, t19_19]).leads)), .row 4 (kidsV ((Tree.node 21 s19_1 [] [t19_4, t19_19]).kids))]), (0, .var 100 [.row 1 (List.map (V.int .i64) r19_20), .int .i64 n19_21])]⟩) [0, 1] [0] rfl hK ⟨⟨_, rfl, .rfl⟩, trivial⟩ ⟨⟨_, rfl, ⟨rfl, (.cons .rfl (.cons .rfl (.cons (.nil 1) (.cons .rfl .nil))))⟩⟩, ⟨⟨_, rfl, ⟨rfl, SubL.rfl⟩⟩, trivial⟩⟩ rfl ?_
    exact go_endD [1] tabS_ok (rs := [.cell 4 32]) rfl rfl ⟨rfl, rfl⟩
def L0_semvcsmake_Def (m : Nat) (s0_10 : (List UInt8)) (l1v1 : (List Int)) (z1v2 : Int) (l1v3 : (List Tree)) (z1v4 : Int) (r0 : Tree) (q0_L : (List Int)) (q0_At : Int) : Prop := ∀ (K : Ctx) (j1 : Nat), PinB K [0] → m ≤ j1 → Go Tryz.prog K (bodyPost Tryz.prog Tryz.f62 (SP K (fun u G => u = .agg (treeC r0) ∧ G = ⟨2, [(0, .var 100 [.row 1 (List.map (V.int .i64) q0_L), .int .i64 q0_At])]⟩))) (.code (cL (cK (cB (cA (cB (cB (cB (bodyC Tryz.f62))))))))) [.loop (cL (cK (cB (cA (cB (cB (cB (bodyC Tryz.f62)))))))) j1, .blk 0, .seq (cB (cB (cB (cB (bodyC Tryz.f62)))))] 47 (mkF 47 0 [(0, .ptr 0 0), (2, .ptr 1 0), (3, .ptr 2 0), (4, .int .i64 z1v4)]) ⟨4, [(3, .row 32 4 (kidsV l1v3)), (2, .var 32 [.int .i64 2, .str s0_10, .nils, .sl 3]), (1, .var 32 [.int .i64 0, .str [], .nils, .nils]), (0, .var 100 [.row 1 (List.map (V.int .i64) l1v1), .int .i64 z1v2])]⟩
theorem rS_semvcsmake_Def (m : Nat) (p0_L : (List Int)) (p0_At : Int) (r0 : Tree) (q0_L : (List Int)) (q0_At : Int) (h : ∃ (n0_1 : Int), ∃ (r0_2 : (List Int)), ∃ (n0_3 : Int), S_semvcsmake_Dice_Next p0_L p0_At 5 n0_1 r0_2 n0_3 ∧ ((n0_1 = 0) → ∃ (s0_4 : (List UInt8)), ∃ (r0_5 : (List Int)), ∃ (n0_6 : Int), S_semvcsmake_pick r0_2 n0_3 [[84], [85]] s0_4 r0_5 n0_6 ∧ ∃ (t0_7 : Tree), ∃ (r0_8 : (List Int)), ∃ (n0_9 : Int), S_semvcsmake_typ r0_5 n0_6 2 t0_7 r0_8 n0_9 ∧ (Tree.node 3 s0_4 [] [t0_7]) = r0 ∧ r0_8 = q0_L ∧ n0_9 = q0_At) ∧ ((n0_1 ≠ 0) → ∃ (s0_10 : (List UInt8)), ∃ (r0_11 : (List Int)), ∃ (n0_12 : Int), S_semvcsmake_pick r0_2 n0_3 [[102], [103], [104]] s0_10 r0_11 n0_12 ∧ ∃ (n0_13 : Int), ∃ (r0_14 : (List Int)), ∃ (n0_15 : Int), S_semvcsmake_Dice_Next r0_11 n0_12 4 n0_13 r0_14 n0_15 ∧ L0_semvcsmake_Def m s0_10 r0_14 n0_15 ([] : List Tree) n0_13 r0 q0_L q0_At)) : S_semvcsmake_Def p0_L p0_At r0 q0_L q0_At := by
  refine sum_enter 47 [0] Tryz.func62 rfl rfl rfl (pv_of rfl) fun K hK => ?_
  refine gR 9 rfl ?_
  obtain ⟨n0_1, r0_2, n0_3, hs19, h⟩ := h
  refine gC hs19 [0] (by kernel_rfl) rfl rfl .rfl ⟨⟨_, rfl, ⟨rfl, SubL.rfl⟩⟩, trivial⟩ rfl ?_
  rintro _ _ ⟨rfl, rfl⟩
  refine gR 3 rfl ?_
  refine gB 7 rfl rfl rfl (fun hd => ?_) (fun hd => ?_)
  · replace hd := (eq_of_beq hd)
    replace h := h.1 hd
    refine gR 5 rfl ?_
    refine gFR 3 rfl rfl rfl rfl ?_
    obtain ⟨s0_4, r0_5, n0_6, hs20, h⟩ := h
    refine gC hs20 [0] (by kernel_rfl) rfl rfl .rfl ⟨⟨_, rfl, ⟨rfl, SubL.rfl⟩⟩, trivial⟩ rfl ?_
    rintro _ _ ⟨rfl, rfl⟩
    refine gR 1 rfl ?_
    obtain ⟨t0_7, r0_8, n0_9, hs21, h⟩ := h
    refine gC hs21 [0] (by kernel_rfl) rfl rfl .rfl ⟨⟨_, rfl, ⟨rfl, SubL.rfl⟩⟩, trivial⟩ rfl ?_
    rintro _ _ ⟨rfl, rfl⟩
    refine gR 1 rfl ?_
    refine gHR 7 (kidsV [t0_7]) rfl (oneK t0_7) rfl ?_
    refine gR 6 rfl ?_
    refine gFR 7 rfl (pureK _) rfl rfl ?_
    obtain ⟨rfl, rfl, rfl⟩ := h
    refine go_sub (F' := (mkF 47 0 [(2, .ptr 1 0)])) (H' := ⟨2, [(1, .var 32 [.int .i64 ((Tree.node 3 s0_4 [] [t0_7]).kind), .str ((Tree.node 3 s0_4 [] [t0_7]).text), .row 1 (List.map V.str ((Tree.node 3 s0_4 [] [t0_7]).leads)), .row 4 (kidsV ((Tree.node 3 s0_4 [] [t0_7]).kids))]), (0, .var 100 [.row 1 (List.map (V.int .i64) r0_8), .int .i64 n0_9])]⟩) [0, 1] [0] rfl hK ⟨⟨_, rfl, .rfl⟩, trivial⟩ ⟨⟨_, rfl, ⟨rfl, (.cons .rfl (.cons .rfl (.cons (.nil 1) (.cons .rfl .nil))))⟩⟩, ⟨⟨_, rfl, ⟨rfl, SubL.rfl⟩⟩, trivial⟩⟩ rfl ?_
    exact go_endD [1] tabS_ok (rs := [.cell 2 32]) rfl rfl ⟨rfl, rfl⟩
  · replace hd := (ne_of_beq_false hd)
    replace h := h.2 hd
    refine gR 7 rfl ?_
    refine gFR 3 rfl rfl rfl rfl ?_
    obtain ⟨s0_10, r0_11, n0_12, hs22, h⟩ := h
    refine gC hs22 [0] (by kernel_rfl) rfl rfl .rfl ⟨⟨_, rfl, ⟨rfl, SubL.rfl⟩⟩, trivial⟩ rfl ?_
    rintro _ _ ⟨rfl, rfl⟩
    refine gR 9 rfl ?_
    obtain ⟨n0_13, r0_14, n0_15, hs23, h⟩ := h
    refine gC hs23 [0] (by kernel_rfl) rfl rfl .rfl ⟨⟨_, rfl, ⟨rfl, SubL.rfl⟩⟩, trivial⟩ rfl ?_
    rintro _ _ ⟨rfl, rfl⟩
    refine gR 4 rfl ?_
    refine go_loop m ?_
    refine gNC 5 3 32 4 rfl rfl rfl rfl ?_
    exact gJ (h K _ hK (by omega)) [0, 1, 5, 7] [0] rfl hK ⟨⟨_, rfl, .rfl⟩, ⟨_, rfl, .rfl⟩, ⟨_, rfl, .rfl⟩, ⟨_, rfl, .rfl⟩, trivial⟩ ⟨⟨_, rfl, ⟨rfl, rfl, rfl⟩⟩, ⟨⟨_, rfl, ⟨rfl, SubL.rfl⟩⟩, ⟨⟨_, rfl, ⟨rfl, SubL.rfl⟩⟩, ⟨⟨_, rfl, ⟨rfl, SubL.rfl⟩⟩, trivial⟩⟩⟩⟩ rfl
theorem rL0_semvcsmake_Def (m : Nat) (s0_10 : (List UInt8)) (l1v1 : (List Int)) (z1v2 : Int) (l1v3 : (List Tree)) (z1v4 : Int) (r0 : Tree) (q0_L : (List Int)) (q0_At : Int) (h : ((0 < z1v4) → ∃ (s1_1 : (List UInt8)), ∃ (r1_2 : (List Int)), ∃ (n1_3 : Int), S_semvcsmake_pick l1v1 z1v2 [[120], [121], [122]] s1_1 r1_2 n1_3 ∧ ∃ (t1_4 : Tree), ∃ (r1_5 : (List Int)), ∃ (n1_6 : Int), S_semvcsmake_typ r1_2 n1_3 1 t1_4 r1_5 n1_6 ∧ (l1v3 ++ [(Tree.node 4 s1_1 [] [t1_4])]).length ≤ 1000000000 ∧ InI (z1v4 - 1) ∧ L0_semvcsmake_Def m s0_10 r1_5 n1_6 (l1v3 ++ [(Tree.node 4 s1_1 [] [t1_4])]) (z1v4 - 1) r0 q0_L q0_At) ∧ ((¬ 0 < z1v4) → ∃ (t1_7 : Tree), ∃ (r1_8 : (List Int)), ∃ (n1_9 : Int), S_semvcsmake_typ l1v1 z1v2 1 t1_7 r1_8 n1_9 ∧ ∃ (t1_10 : Tree), ∃ (r1_11 : (List Int)), ∃ (n1_12 : Int), S_semvcsmake_Expr r1_8 n1_9 3 t1_10 r1_11 n1_12 ∧ (l1v3 ++ [t1_7, t1_10]).length ≤ 1000000000 ∧ (Tree.node 2 s0_10 [] (l1v3 ++ [t1_7, t1_10])) = r0 ∧ r1_11 = q0_L ∧ n1_12 = q0_At)) : L0_semvcsmake_Def (m + 1) s0_10 l1v1 z1v2 l1v3 z1v4 r0 q0_L q0_At := by
  intro K j1 hK hj1
  obtain ⟨j1, rfl⟩ : ∃ j, j1 = j + 1 := ⟨j1 - 1, by omega⟩
  refine gR 7 rfl ?_
  refine gB 22 rfl rfl rfl (fun hd => ?_) (fun hd => ?_)
  · replace hd := (of_decide_eq_true hd)
    replace h := h.1 hd
    refine gR 5 rfl ?_
    refine gDs [2] 12 13 rfl (by kernel_rfl) (by kernel_rfl) ?_
    refine gDr [(0, 2), (1, 3), (2, 2), (5, 2), (3, 0)] (by kernel_rfl) rfl rfl ?_
    refine gFR 4 rfl rfl rfl rfl ?_
    obtain ⟨s1_1, r1_2, n1_3, hs24, h⟩ := h
    refine gDC 4 hs24 [0] (by kernel_rfl) rfl (by kernel_rfl) rfl rfl .rfl ⟨⟨_, rfl, ⟨rfl, SubL.rfl⟩⟩, trivial⟩ (by kernel_rfl) rfl ?_
    rintro _ _ ⟨rfl, rfl⟩
    obtain ⟨t1_4, r1_5, n1_6, hs25, h⟩ := h
    refine gDC 6 hs25 [0] (by kernel_rfl) rfl (by kernel_rfl) rfl rfl .rfl ⟨⟨_, rfl, ⟨rfl, SubL.rfl⟩⟩, trivial⟩ (by kernel_rfl) rfl ?_
    rintro _ _ ⟨rfl, rfl⟩
    refine gDr [(7, 0)] (by kernel_rfl) rfl rfl ?_
    refine gHR 8 (kidsV [t1_4]) rfl (oneK t1_4) rfl ?_
    refine gDr [(8, 0)] (by kernel_rfl) rfl rfl ?_
    refine gFR 8 rfl (pureK _) rfl rfl ?_
    refine gS 33 (.agg [.int .i64 4, .str s1_1, .row 1 [], .row 4 (kidsV [t1_4])]) rfl (.agg (.cons .rfl (.cons .rfl (.cons (.nil 1) (.cons .rfl .nil))))) rfl ?_
    refine gDr [(9, 0)] (by kernel_rfl) rfl rfl ?_
    refine gHR 9 (kidsV [(Tree.node 4 s1_1 [] [t1_4])]) rfl (oneK (Tree.node 4 s1_1 [] [t1_4])) rfl ?_
    obtain ⟨hb, h⟩ := h
    refine gDd1 10 (.repl 3 (.row 32 4 (kidsV (l1v3 ++ [(Tree.node 4 s1_1 [] [t1_4])])))) rfl (by kernel_rfl) (dAp' tabS_ok rfl rfl rfl rfl rfl (kidsV_app l1v3 [(Tree.node 4 s1_1 [] [t1_4])]).symm (by rw [lenK]; exact hb)) (okR rfl) rfl (by kernel_rfl) rfl rfl ?_
    refine gDr [(11, 0), (12, 1)] (by kernel_rfl) rfl rfl ?_
    refine gDe (by kernel_rfl) ?_
    refine gR 4 rfl ?_
    obtain ⟨hb, h⟩ := h
    refine gR 1 rfl ?_
    refine gV 24 (.int .i64 (z1v4 - 1)) rfl (wrapI hb rfl) rfl ?_
    refine gR 2 rfl ?_
    refine go_xloop ?_
    exact gJ (h K _ hK (by omega)) [0, 1, 2, 10] [0] rfl hK ⟨⟨_, rfl, .rfl⟩, ⟨_, rfl, .rfl⟩, ⟨_, rfl, .rfl⟩, ⟨_, rfl, .rfl⟩, trivial⟩ ⟨⟨_, rfl, ⟨rfl, rfl, (renK _ (l1v3 ++ [(Tree.node 4 s1_1 [] [t1_4])])).symm⟩⟩, ⟨⟨_, rfl, ⟨rfl, SubL.rfl⟩⟩, ⟨⟨_, rfl, ⟨rfl, SubL.rfl⟩⟩, ⟨⟨_, rfl, ⟨rfl, SubL.rfl⟩⟩, trivial⟩⟩⟩⟩ rfl
  · replace hd := (of_decide_eq_false hd)
    replace h := h.2 hd
    refine gR 3 rfl ?_
    refine go_xloopE ?_
    refine gR 3 rfl ?_
    refine gDs [2] 9 10 rfl (by kernel_rfl) (by kernel_rfl) ?_
    refine gDr [(0, 2), (1, 3), (2, 2), (4, 2)] (by kernel_rfl) rfl rfl ?_
    obtain ⟨t1_7, r1_8, n1_9, hs26, h⟩ := h
    refine gDC 3 hs26 [0] (by kernel_rfl) rfl (by kernel_rfl) rfl rfl .rfl ⟨⟨_, rfl, ⟨rfl, SubL.rfl⟩⟩, trivial⟩ (by kernel_rfl) rfl ?_
    rintro _ _ ⟨rfl, rfl⟩
    obtain ⟨t1_10, r1_11, n1_12, hs27, h⟩ := h
    refine gDC 5 hs27 [0] (by kernel_rfl) rfl (by kernel_rfl) rfl rfl .rfl ⟨⟨_, rfl, ⟨rfl, SubL.rfl⟩⟩, trivial⟩ (by kernel_rfl) rfl ?_
    rintro _ _ ⟨rfl, rfl⟩
    refine gDr [(6, 0)] (by kernel_rfl) rfl rfl ?_
    refine gHR 8 (kidsV [t1_7, t1_10]) rfl (litK [t1_7, t1_10]) rfl ?_
    obtain ⟨hb, h⟩ := h
    refine gDd1 7 (.repl 3 (.row 32 4 (kidsV (l1v3 ++ [t1_7, t1_10])))) rfl (by kernel_rfl) (dAp' tabS_ok rfl rfl rfl rfl rfl (kidsV_app _ _).symm (by rw [lenK]; exact hb)) (okR rfl) rfl (by kernel_rfl) rfl rfl ?_
    refine gDr [(8, 0), (9, 1)] (by kernel_rfl) rfl rfl ?_
    refine gDe (by kernel_rfl) ?_
    refine gR 8 rfl ?_
    refine gFR 9 rfl (pureK _) rfl rfl ?_
    obtain ⟨rfl, rfl, rfl⟩ := h
    refine go_sub (F' := (mkF 47 0 [(2, .ptr 1 0)])) (H' := ⟨2, [(1, .var 32 [.int .i64 ((Tree.node 2 s0_10 [] (l1v3 ++ [t1_7, t1_10])).kind), .str ((Tree.node 2 s0_10 [] (l1v3 ++ [t1_7, t1_10])).text), .row 1 (List.map V.str ((Tree.node 2 s0_10 [] (l1v3 ++ [t1_7, t1_10])).leads)), .row 4 (kidsV ((Tree.node 2 s0_10 [] (l1v3 ++ [t1_7, t1_10])).kids))]), (0, .var 100 [.row 1 (List.map (V.int .i64) r1_11), .int .i64 n1_12])]⟩) [0, 1] [0] rfl hK ⟨⟨_, rfl, .rfl⟩, trivial⟩ ⟨⟨_, rfl, ⟨rfl, (.cons .rfl (.cons .rfl (.cons (.nil 1) (.cons .rfl .nil))))⟩⟩, ⟨⟨_, rfl, ⟨rfl, SubL.rfl⟩⟩, trivial⟩⟩ rfl ?_
    exact go_endD [1] tabS_ok (rs := [.cell 2 32]) rfl rfl ⟨rfl, rfl⟩
def L0_semvcsmake_leads (m : Nat) (p1 : Tree) (l1v1 : (List Int)) (z1v2 : Int) (l1v3 : (List (List UInt8))) (i1v4 : Nat) (r0 : Tree) (q0_L : (List Int)) (q0_At : Int) : Prop := ∀ (K : Ctx) (j1 : Nat), PinB K [0] → m ≤ j1 → Go Tryz.prog K (bodyPost Tryz.prog Tryz.f64 (SP K (fun u G => u = .agg (treeC r0) ∧ G = ⟨2, [(0, .var 100 [.row 1 (List.map (V.int .i64) q0_L), .int .i64 q0_At])]⟩))) (.code (cL (cK (cB (cA (cB (cB (bodyC Tryz.f64)))))))) [.loop (cL (cK (cB (cA (cB (cB (bodyC Tryz.f64))))))) j1, .blk 0, .seq (cB (cB (cB (bodyC Tryz.f64))))] 53 (mkF 53 0 [(0, .ptr 0 0), (3, .ptr 1 0), (4, .ptr 2 0), (5, .int .i64 ((i1v4 : Nat) : Int))]) ⟨4, [(3, .row 9 1 (List.map V.str l1v3)), (2, .var 32 [.int .i64 0, .str [], .nils, .nils]), (1, .var 32 [.int .i64 p1.kind, .str p1.text, .sl 3, .row 4 (kidsV p1.kids)]), (0, .var 100 [.row 1 (List.map (V.int .i64) l1v1), .int .i64 z1v2])]⟩
def L1_semvcsmake_leads (m : Nat) (p1 : Tree) (l2v1 : (List Int)) (z2v2 : Int) (l2v3 : (List Tree)) (i2v4 : Nat) (l2v5 : (List (List UInt8))) (r0 : Tree) (q0_L : (List Int)) (q0_At : Int) : Prop := ∀ (K : Ctx) (j1 : Nat), PinB K [0] → m ≤ j1 → Go Tryz.prog K (bodyPost Tryz.prog Tryz.f64 (SP K (fun u G => u = .agg (treeC r0) ∧ G = ⟨2, [(0, .var 100 [.row 1 (List.map (V.int .i64) q0_L), .int .i64 q0_At])]⟩))) (.code (cL (cK (cB (cA (cB (cB (cB (cB (bodyC Tryz.f64)))))))))) [.loop (cL (cK (cB (cA (cB (cB (cB (cB (bodyC Tryz.f64))))))))) j1, .blk 2, .seq (cB (cB (cB (cB (cB (bodyC Tryz.f64))))))] 53 (mkF 53 0 [(0, .ptr 0 0), (3, .ptr 1 0), (4, .ptr 2 0), (6, .int .i64 ((i2v4 : Nat) : Int))]) ⟨5, [(4, .row 32 4 (kidsV l2v3)), (3, .row 9 1 (List.map V.str l2v5)), (2, .var 32 [.int .i64 0, .str [], .nils, .nils]), (1, .var 32 [.int .i64 p1.kind, .str p1.text, .sl 3, .sl 4]), (0, .var 100 [.row 1 (List.map (V.int .i64) l2v1), .int .i64 z2v2])]⟩
theorem rS_semvcsmake_leads (m : Nat) (p0_L : (List Int)) (p0_At : Int) (p1 : Tree) (r0 : Tree) (q0_L : (List Int)) (q0_At : Int) (h : p1.leads.length ≤ 1000000000 ∧ L0_semvcsmake_leads m p1 p0_L p0_At p1.leads 0 r0 q0_L q0_At) : S_semvcsmake_leads p0_L p0_At p1 r0 q0_L q0_At := by
  refine sum_enter 53 [0] Tryz.func64 rfl rfl rfl (pv_of rfl) fun K hK => ?_
  refine gR 11 rfl ?_
  obtain ⟨hb, h⟩ := h
  refine gDo (.repl 3 (.row 9 1 (List.map V.str p1.leads))) (dAp' tabS_ok rfl rfl rfl rfl rfl (List.nil_append _) (by rw [lenM]; exact hb)) (okR rfl) rfl rfl rfl ?_
  refine gR 11 rfl ?_
  refine go_loop m ?_
  exact gJ (h K _ hK (by omega)) [0, 1, 2, 4] [0] rfl hK ⟨⟨_, rfl, .rfl⟩, ⟨_, rfl, .rfl⟩, ⟨_, rfl, .rfl⟩, ⟨_, rfl, .rfl⟩, trivial⟩ ⟨⟨_, rfl, ⟨rfl, rfl, (renM _ V.str (fun _ => rfl) p1.leads).symm⟩⟩, ⟨⟨_, rfl, ⟨rfl, SubL.rfl⟩⟩, ⟨⟨_, rfl, ⟨rfl, SubL.rfl⟩⟩, ⟨⟨_, rfl, ⟨rfl, SubL.rfl⟩⟩, trivial⟩⟩⟩⟩ rfl
theorem rL0_semvcsmake_leads (m : Nat) (p1 : Tree) (l1v1 : (List Int)) (z1v2 : Int) (l1v3 : (List (List UInt8))) (i1v4 : Nat) (r0 : Tree) (q0_L : (List Int)) (q0_At : Int) (h : ((i1v4 < l1v3.length) → ∃ (n1_1 : Int), ∃ (r1_2 : (List Int)), ∃ (n1_3 : Int), S_semvcsmake_Dice_Next l1v1 z1v2 9 n1_1 r1_2 n1_3 ∧ ((n1_1 = 1) → ∃ (s1_4 : (List UInt8)), ∃ (r1_5 : (List Int)), ∃ (n1_6 : Int), S_semvcsmake_pick r1_2 n1_3 [[32, 35, 32, 99, 10], [32, 32], [10, 9], [35, 10]] s1_4 r1_5 n1_6 ∧ ∃ (s1_7 : (List UInt8)), l1v3[i1v4]? = some s1_7 ∧ L0_semvcsmake_leads m p1 r1_5 n1_6 (l1v3.set i1v4 s1_4) (i1v4 + 1) r0 q0_L q0_At) ∧ ((n1_1 ≠ 1) → L0_semvcsmake_leads m p1 r1_2 n1_3 l1v3 (i1v4 + 1) r0 q0_L q0_At)) ∧ ((¬ i1v4 < l1v3.length) → p1.kids.length ≤ 1000000000 ∧ L1_semvcsmake_leads m p1 l1v1 z1v2 p1.kids 0 l1v3 r0 q0_L q0_At)) : L0_semvcsmake_leads (m + 1) p1 l1v1 z1v2 l1v3 i1v4 r0 q0_L q0_At := by
  intro K j1 hK hj1
  obtain ⟨j1, rfl⟩ : ∃ j, j1 = j + 1 := ⟨j1 - 1, by omega⟩
  refine gR 7 rfl ?_
  refine gV 15 (.int .i64 ((l1v3.length : Nat) : Int)) rfl (lenI (lenM V.str _)) rfl ?_
  refine gLO 3 rfl (lenM V.str _) fun hl16 => ?_
  refine gR 3 rfl ?_
  refine gB 16 rfl rfl rfl (fun hd => ?_) (fun hd => ?_)
  · replace hd := (natT hd)
    replace h := h.1 hd
    refine gR 8 rfl ?_
    obtain ⟨n1_1, r1_2, n1_3, hs17, h⟩ := h
    refine gC hs17 [0] (by kernel_rfl) rfl rfl .rfl ⟨⟨_, rfl, ⟨rfl, SubL.rfl⟩⟩, trivial⟩ rfl ?_
    rintro _ _ ⟨rfl, rfl⟩
    refine gR 3 rfl ?_
    refine gB 21 rfl rfl rfl (fun hd => ?_) (fun hd => ?_)
    · replace hd := (eq_of_beq hd)
      replace h := h.1 hd
      refine gR 1 rfl ?_
      refine gDs [1] 7 8 rfl (by kernel_rfl) (by kernel_rfl) ?_
      refine gDr [(0, 2), (1, 3), (2, 2), (3, 2), (4, 0)] (by kernel_rfl) rfl rfl ?_
      refine gFR 5 rfl rfl rfl rfl ?_
      obtain ⟨s1_4, r1_5, n1_6, hs18, h⟩ := h
      refine gDC 5 hs18 [0] (by kernel_rfl) rfl (by kernel_rfl) rfl rfl .rfl ⟨⟨_, rfl, ⟨rfl, SubL.rfl⟩⟩, trivial⟩ (by kernel_rfl) rfl ?_
      rintro _ _ ⟨rfl, rfl⟩
      obtain ⟨s1_7, hxs1_7, h⟩ := h
      refine gYd1 6 rfl (by kernel_rfl) (yIO tabS_ok rfl rfl rfl rfl (by have := (mapget (f := V.str) hxs1_7); exact (List.getElem?_eq_some_iff.1 this).1)) rfl rfl ?_
      refine gDd1 7 (.set 3 (.row 9 1 (List.map V.str (l1v3.set i1v4 s1_4)))) rfl (by kernel_rfl) (dSe tabS_ok rfl rfl rfl rfl (mapget (f := V.str) hxs1_7) rfl (setM V.str l1v3 i1v4 s1_4)) (okS rfl) rfl (by kernel_rfl) rfl rfl ?_
      refine gDe (by kernel_rfl) ?_
      refine gR 5 rfl ?_
      refine gV 18 (.int .i64 ((i1v4 + 1 : Nat) : Int)) rfl (wrapI (by have := hl16; omega) (by omega)) rfl ?_
      refine gR 2 rfl ?_
      refine go_xloop ?_
      exact gJ (h K _ hK (by omega)) [0, 1, 2, 3] [0] rfl hK ⟨⟨_, rfl, .rfl⟩, ⟨_, rfl, .rfl⟩, ⟨_, rfl, .rfl⟩, ⟨_, rfl, .rfl⟩, trivial⟩ ⟨⟨_, rfl, ⟨rfl, rfl, (renM _ V.str (fun _ => rfl) (l1v3.set i1v4 s1_4)).symm⟩⟩, ⟨⟨_, rfl, ⟨rfl, SubL.rfl⟩⟩, ⟨⟨_, rfl, ⟨rfl, SubL.rfl⟩⟩, ⟨⟨_, rfl, ⟨rfl, SubL.rfl⟩⟩, trivial⟩⟩⟩⟩ rfl
    · replace hd := (ne_of_beq_false hd)
      replace h := h.2 hd
      refine gR 7 rfl ?_
      refine gV 18 (.int .i64 ((i1v4 + 1 : Nat) : Int)) rfl (wrapI (by have := hl16; omega) (by omega)) rfl ?_
      refine gR 2 rfl ?_
      refine go_xloop ?_
      exact gJ (h K _ hK (by omega)) [0, 1, 2, 3] [0] rfl hK ⟨⟨_, rfl, .rfl⟩, ⟨_, rfl, .rfl⟩, ⟨_, rfl, .rfl⟩, ⟨_, rfl, .rfl⟩, trivial⟩ ⟨⟨_, rfl, ⟨rfl, rfl, (renM _ V.str (fun _ => rfl) l1v3).symm⟩⟩, ⟨⟨_, rfl, ⟨rfl, SubL.rfl⟩⟩, ⟨⟨_, rfl, ⟨rfl, SubL.rfl⟩⟩, ⟨⟨_, rfl, ⟨rfl, SubL.rfl⟩⟩, trivial⟩⟩⟩⟩ rfl
  · replace hd := (natF hd)
    replace h := h.2 hd
    refine gR 3 rfl ?_
    refine go_xloopE ?_
    refine gR 7 rfl ?_
    obtain ⟨hb, h⟩ := h
    refine gDo (.repl 4 (.row 32 4 (kidsV p1.kids))) (dAp' tabS_ok rfl rfl rfl rfl rfl (List.nil_append _) (by rw [lenK]; exact hb)) (okR rfl) rfl rfl rfl ?_
    refine gR 11 rfl ?_
    refine go_loop m ?_
    exact gJ (h K _ hK (by omega)) [0, 1, 2, 3, 5] [0] rfl hK ⟨⟨_, rfl, .rfl⟩, ⟨_, rfl, .rfl⟩, ⟨_, rfl, .rfl⟩, ⟨_, rfl, .rfl⟩, trivial⟩ ⟨⟨_, rfl, ⟨rfl, rfl, (renK _ p1.kids).symm⟩⟩, ⟨⟨_, rfl, ⟨rfl, rfl, (renM _ V.str (fun _ => rfl) l1v3).symm⟩⟩, ⟨⟨_, rfl, ⟨rfl, SubL.rfl⟩⟩, ⟨⟨_, rfl, ⟨rfl, SubL.rfl⟩⟩, ⟨⟨_, rfl, ⟨rfl, SubL.rfl⟩⟩, trivial⟩⟩⟩⟩⟩ rfl
theorem rL1_semvcsmake_leads (m : Nat) (p1 : Tree) (l2v1 : (List Int)) (z2v2 : Int) (l2v3 : (List Tree)) (i2v4 : Nat) (l2v5 : (List (List UInt8))) (r0 : Tree) (q0_L : (List Int)) (q0_At : Int) (h : ((i2v4 < l2v3.length) → ∃ (t2_1 : Tree), l2v3[i2v4]? = some t2_1 ∧ ∃ (t2_2 : Tree), ∃ (r2_3 : (List Int)), ∃ (n2_4 : Int), S_semvcsmake_leads l2v1 z2v2 t2_1 t2_2 r2_3 n2_4 ∧ ∃ (t2_5 : Tree), l2v3[i2v4]? = some t2_5 ∧ L1_semvcsmake_leads m p1 r2_3 n2_4 (l2v3.set i2v4 t2_2) (i2v4 + 1) l2v5 r0 q0_L q0_At) ∧ ((¬ i2v4 < l2v3.length) → (Tree.node p1.kind p1.text l2v5 l2v3) = r0 ∧ l2v1 = q0_L ∧ z2v2 = q0_At)) : L1_semvcsmake_leads (m + 1) p1 l2v1 z2v2 l2v3 i2v4 l2v5 r0 q0_L q0_At := by
  intro K j1 hK hj1
  obtain ⟨j1, rfl⟩ : ∃ j, j1 = j + 1 := ⟨j1 - 1, by omega⟩
  refine gR 7 rfl ?_
  refine gV 37 (.int .i64 ((l2v3.length : Nat) : Int)) rfl (lenI (lenK _)) rfl ?_
  refine gLO 4 rfl (lenK _) fun hl19 => ?_
  refine gR 3 rfl ?_
  refine gB 38 rfl rfl rfl (fun hd => ?_) (fun hd => ?_)
  · replace hd := (natT hd)
    replace h := h.1 hd
    refine gR 5 rfl ?_
    refine gDs [1, 4] 11 12 rfl (by kernel_rfl) (by kernel_rfl) ?_
    refine gDr [(0, 2), (1, 3), (2, 2), (3, 2), (4, 2), (5, 3), (6, 0)] (by kernel_rfl) rfl rfl ?_
    obtain ⟨t2_1, hxt2_1, h⟩ := h
    refine gYd1 7 rfl (by kernel_rfl) (yIO tabS_ok rfl rfl rfl rfl (by have := (kidsV_get hxt2_1); exact (List.getElem?_eq_some_iff.1 this).1)) rfl rfl ?_
    refine gDd1 8 (.nop) rfl (by kernel_rfl) (dLe tabS_ok rfl rfl rfl (kidsV_get hxt2_1) rfl) trivial rfl (by kernel_rfl) rfl rfl ?_
    obtain ⟨t2_2, r2_3, n2_4, hs20, h⟩ := h
    refine gDC 9 hs20 [0] (by kernel_rfl) rfl (by kernel_rfl) rfl rfl .rfl ⟨⟨_, rfl, ⟨rfl, SubL.rfl⟩⟩, trivial⟩ (by kernel_rfl) rfl ?_
    rintro _ _ ⟨rfl, rfl⟩
    obtain ⟨t2_5, hxt2_5, h⟩ := h
    refine gYd1 10 rfl (by kernel_rfl) (yIO tabS_ok rfl rfl rfl rfl (by have := (kidsV_get hxt2_5); exact (List.getElem?_eq_some_iff.1 this).1)) rfl rfl ?_
    refine gDd1 11 (.set 4 (.row 32 4 (kidsV (l2v3.set i2v4 t2_2)))) rfl (by kernel_rfl) (dSe tabS_ok rfl rfl rfl rfl (kidsV_get hxt2_5) rfl (setK l2v3 i2v4 t2_2)) (okS rfl) rfl (by kernel_rfl) rfl rfl ?_
    refine gDe (by kernel_rfl) ?_
    refine gR 5 rfl ?_
    refine gV 40 (.int .i64 ((i2v4 + 1 : Nat) : Int)) rfl (wrapI (by have := hl19; omega) (by omega)) rfl ?_
    refine gR 2 rfl ?_
    refine go_xloop ?_
    exact gJ (h K _ hK (by omega)) [0, 1, 2, 3, 4] [0] rfl hK ⟨⟨_, rfl, .rfl⟩, ⟨_, rfl, .rfl⟩, ⟨_, rfl, .rfl⟩, ⟨_, rfl, .rfl⟩, trivial⟩ ⟨⟨_, rfl, ⟨rfl, rfl, (renK _ (l2v3.set i2v4 t2_2)).symm⟩⟩, ⟨⟨_, rfl, ⟨rfl, rfl, (renM _ V.str (fun _ => rfl) l2v5).symm⟩⟩, ⟨⟨_, rfl, ⟨rfl, SubL.rfl⟩⟩, ⟨⟨_, rfl, ⟨rfl, SubL.rfl⟩⟩, ⟨⟨_, rfl, ⟨rfl, SubL.rfl⟩⟩, trivial⟩⟩⟩⟩⟩ rfl
  · replace hd := (natF hd)
    replace h := h.2 hd
    refine gR 3 rfl ?_
    refine go_xloopE ?_
    refine gR 9 rfl ?_
    refine gFR 3 rfl (pureM _ (fun _ => rfl) _) rfl rfl ?_
    refine gFR 4 rfl (pureK _) rfl rfl ?_
    obtain ⟨rfl, rfl, rfl⟩ := h
    refine go_sub (F' := (mkF 53 0 [(4, .ptr 1 0)])) (H' := ⟨2, [(1, .var 32 [.int .i64 ((Tree.node p1.kind p1.text l2v5 l2v3).kind), .str ((Tree.node p1.kind p1.text l2v5 l2v3).text), .row 1 (List.map V.str ((Tree.node p1.kind p1.text l2v5 l2v3).leads)), .row 4 (kidsV ((Tree.node p1.kind p1.text l2v5 l2v3).kids))]), (0, .var 100 [.row 1 (List.map (V.int .i64) l2v1), .int .i64 z2v2])]⟩) [0, 2] [0] rfl hK ⟨⟨_, rfl, .rfl⟩, trivial⟩ ⟨⟨_, rfl, ⟨rfl, SubL.rfl⟩⟩, ⟨⟨_, rfl, ⟨rfl, SubL.rfl⟩⟩, trivial⟩⟩ rfl ?_
    exact go_endD [1] tabS_ok (rs := [.cell 4 32]) rfl rfl ⟨rfl, rfl⟩
def L0_semvcsmake_Module (m : Nat) (p1 : (List UInt8)) (l1v1 : (List Int)) (z1v2 : Int) (l1v3 : (List Tree)) (z1v4 : Int) (r0 : Tree) (q0_L : (List Int)) (q0_At : Int) : Prop := ∀ (K : Ctx) (j1 : Nat), PinB K [0] → m ≤ j1 → Go Tryz.prog K (bodyPost Tryz.prog Tryz.f39 (SP K (fun u G => u = .agg (treeC r0) ∧ G = ⟨2, [(0, .var 100 [.row 1 (List.map (V.int .i64) q0_L), .int .i64 q0_At])]⟩))) (.code (cL (cK (cB (cA (cB (cB (bodyC Tryz.f39)))))))) [.loop (cL (cK (cB (cA (cB (cB (bodyC Tryz.f39))))))) j1, .blk 0, .seq (cB (cB (cB (bodyC Tryz.f39))))] 31 (mkF 31 0 [(0, .ptr 0 0), (4, .ptr 1 0), (5, .ptr 2 0), (6, .int .i64 z1v4)]) ⟨4, [(3, .row 32 4 (kidsV l1v3)), (2, .var 32 [.int .i64 1, .str p1, .nils, .sl 3]), (1, .var 32 [.int .i64 0, .str [], .nils, .nils]), (0, .var 100 [.row 1 (List.map (V.int .i64) l1v1), .int .i64 z1v2])]⟩
theorem rS_semvcsmake_Module (m : Nat) (p0_L : (List Int)) (p0_At : Int) (p1 : (List UInt8)) (r0 : Tree) (q0_L : (List Int)) (q0_At : Int) (h : ∃ (n0_1 : Int), ∃ (r0_2 : (List Int)), ∃ (n0_3 : Int), S_semvcsmake_Dice_Next p0_L p0_At 4 n0_1 r0_2 n0_3 ∧ L0_semvcsmake_Module m p1 r0_2 n0_3 ([] : List Tree) n0_1 r0 q0_L q0_At) : S_semvcsmake_Module p0_L p0_At p1 r0 q0_L q0_At := by
  refine sum_enter 31 [0] Tryz.func39 rfl rfl rfl (pv_of rfl) fun K hK => ?_
  refine gR 17 rfl ?_
  obtain ⟨n0_1, r0_2, n0_3, hs11, h⟩ := h
  refine gC hs11 [0] (by kernel_rfl) rfl rfl .rfl ⟨⟨_, rfl, ⟨rfl, SubL.rfl⟩⟩, trivial⟩ rfl ?_
  rintro _ _ ⟨rfl, rfl⟩
  refine gR 4 rfl ?_
  refine go_loop m ?_
  refine gNC 2 3 32 4 rfl rfl rfl rfl ?_
  exact gJ (h K _ hK (by omega)) [0, 1, 2, 4] [0] rfl hK ⟨⟨_, rfl, .rfl⟩, ⟨_, rfl, .rfl⟩, ⟨_, rfl, .rfl⟩, ⟨_, rfl, .rfl⟩, trivial⟩ ⟨⟨_, rfl, ⟨rfl, rfl, rfl⟩⟩, ⟨⟨_, rfl, ⟨rfl, SubL.rfl⟩⟩, ⟨⟨_, rfl, ⟨rfl, SubL.rfl⟩⟩, ⟨⟨_, rfl, ⟨rfl, SubL.rfl⟩⟩, trivial⟩⟩⟩⟩ rfl
theorem rL0_semvcsmake_Module (m : Nat) (p1 : (List UInt8)) (l1v1 : (List Int)) (z1v2 : Int) (l1v3 : (List Tree)) (z1v4 : Int) (r0 : Tree) (q0_L : (List Int)) (q0_At : Int) (h : ((0 < z1v4) → ∃ (t1_1 : Tree), ∃ (r1_2 : (List Int)), ∃ (n1_3 : Int), S_semvcsmake_Def l1v1 z1v2 t1_1 r1_2 n1_3 ∧ (l1v3 ++ [t1_1]).length ≤ 1000000000 ∧ InI (z1v4 - 1) ∧ L0_semvcsmake_Module m p1 r1_2 n1_3 (l1v3 ++ [t1_1]) (z1v4 - 1) r0 q0_L q0_At) ∧ ((¬ 0 < z1v4) → ∃ (t1_4 : Tree), S_semvcsref04_Arrange (Tree.node 1 p1 [] l1v3) t1_4 ∧ ∃ (n1_5 : Int), ∃ (r1_6 : (List Int)), ∃ (n1_7 : Int), S_semvcsmake_Dice_Next l1v1 z1v2 2 n1_5 r1_6 n1_7 ∧ ((n1_5 = 0) → ∃ (t1_8 : Tree), ∃ (r1_9 : (List Int)), ∃ (n1_10 : Int), S_semvcsmake_leads r1_6 n1_7 t1_4 t1_8 r1_9 n1_10 ∧ t1_8 = r0 ∧ r1_9 = q0_L ∧ n1_10 = q0_At) ∧ ((n1_5 ≠ 0) → t1_4 = r0 ∧ r1_6 = q0_L ∧ n1_7 = q0_At))) : L0_semvcsmake_Module (m + 1) p1 l1v1 z1v2 l1v3 z1v4 r0 q0_L q0_At := by
  intro K j1 hK hj1
  obtain ⟨j1, rfl⟩ : ∃ j, j1 = j + 1 := ⟨j1 - 1, by omega⟩
  refine gR 7 rfl ?_
  refine gB 12 rfl rfl rfl (fun hd => ?_) (fun hd => ?_)
  · replace hd := (of_decide_eq_true hd)
    replace h := h.1 hd
    refine gR 5 rfl ?_
    refine gDs [2] 7 8 rfl (by kernel_rfl) (by kernel_rfl) ?_
    refine gDr [(0, 2), (1, 3), (2, 0)] (by kernel_rfl) rfl rfl ?_
    obtain ⟨t1_1, r1_2, n1_3, hs12, h⟩ := h
    refine gDC 3 hs12 [0] (by kernel_rfl) rfl (by kernel_rfl) rfl rfl .rfl ⟨⟨_, rfl, ⟨rfl, SubL.rfl⟩⟩, trivial⟩ (by kernel_rfl) rfl ?_
    rintro _ _ ⟨rfl, rfl⟩
    refine gDr [(4, 0)] (by kernel_rfl) rfl rfl ?_
    refine gHR 6 (kidsV [t1_1]) rfl (oneK t1_1) rfl ?_
    obtain ⟨hb, h⟩ := h
    refine gDd1 5 (.repl 3 (.row 32 4 (kidsV (l1v3 ++ [t1_1])))) rfl (by kernel_rfl) (dAp' tabS_ok rfl rfl rfl rfl rfl (kidsV_app l1v3 [t1_1]).symm (by rw [lenK]; exact hb)) (okR rfl) rfl (by kernel_rfl) rfl rfl ?_
    refine gDr [(6, 0), (7, 1)] (by kernel_rfl) rfl rfl ?_
    refine gDe (by kernel_rfl) ?_
    refine gR 4 rfl ?_
    obtain ⟨hb, h⟩ := h
    refine gR 1 rfl ?_
    refine gV 14 (.int .i64 (z1v4 - 1)) rfl (wrapI hb rfl) rfl ?_
    refine gR 2 rfl ?_
    refine go_xloop ?_
    exact gJ (h K _ hK (by omega)) [0, 1, 2, 7] [0] rfl hK ⟨⟨_, rfl, .rfl⟩, ⟨_, rfl, .rfl⟩, ⟨_, rfl, .rfl⟩, ⟨_, rfl, .rfl⟩, trivial⟩ ⟨⟨_, rfl, ⟨rfl, rfl, (renK _ (l1v3 ++ [t1_1])).symm⟩⟩, ⟨⟨_, rfl, ⟨rfl, SubL.rfl⟩⟩, ⟨⟨_, rfl, ⟨rfl, SubL.rfl⟩⟩, ⟨⟨_, rfl, ⟨rfl, SubL.rfl⟩⟩, trivial⟩⟩⟩⟩ rfl
  · replace hd := (of_decide_eq_false hd)
    replace h := h.2 hd
    refine gR 3 rfl ?_
    refine go_xloopE ?_
    refine gR 5 rfl ?_
    refine gFR 3 rfl (pureK _) rfl rfl ?_
    obtain ⟨t1_4, hs13, h⟩ := h
    refine gC0 hs13 (by kernel_rfl) rfl rfl (.cons (.agg (.cons .rfl (.cons .rfl (.cons (.nil 1) (.cons .rfl .nil))))) .nil) rfl ?_
    refine gR 7 rfl ?_
    obtain ⟨n1_5, r1_6, n1_7, hs14, h⟩ := h
    refine gC hs14 [0] (by kernel_rfl) rfl rfl .rfl ⟨⟨_, rfl, ⟨rfl, SubL.rfl⟩⟩, trivial⟩ rfl ?_
    rintro _ _ ⟨rfl, rfl⟩
    refine gR 3 rfl ?_
    refine gB 26 rfl rfl rfl (fun hd => ?_) (fun hd => ?_)
    · replace hd := (eq_of_beq hd)
      replace h := h.1 hd
      refine gR 4 rfl ?_
      obtain ⟨t1_8, r1_9, n1_10, hs15, h⟩ := h
      refine gC hs15 [0] (by kernel_rfl) rfl rfl .rfl ⟨⟨_, rfl, ⟨rfl, SubL.rfl⟩⟩, trivial⟩ rfl ?_
      rintro _ _ ⟨rfl, rfl⟩
      refine gR 10 rfl ?_
      obtain ⟨rfl, rfl, rfl⟩ := h
      refine go_sub (F' := (mkF 31 0 [(4, .ptr 1 0)])) (H' := ⟨2, [(1, .var 32 [.int .i64 t1_8.kind, .str t1_8.text, .row 1 (List.map V.str t1_8.leads), .row 4 (kidsV t1_8.kids)]), (0, .var 100 [.row 1 (List.map (V.int .i64) r1_9), .int .i64 n1_10])]⟩) [0, 1] [0] rfl hK ⟨⟨_, rfl, .rfl⟩, trivial⟩ ⟨⟨_, rfl, ⟨rfl, SubL.rfl⟩⟩, ⟨⟨_, rfl, ⟨rfl, SubL.rfl⟩⟩, trivial⟩⟩ rfl ?_
      exact go_endD [1] tabS_ok (rs := [.cell 4 32]) rfl rfl ⟨rfl, rfl⟩
    · replace hd := (ne_of_beq_false hd)
      replace h := h.2 hd
      refine gR 10 rfl ?_
      obtain ⟨rfl, rfl, rfl⟩ := h
      refine go_sub (F' := (mkF 31 0 [(4, .ptr 1 0)])) (H' := ⟨2, [(1, .var 32 [.int .i64 t1_4.kind, .str t1_4.text, .row 1 (List.map V.str t1_4.leads), .row 4 (kidsV t1_4.kids)]), (0, .var 100 [.row 1 (List.map (V.int .i64) r1_6), .int .i64 n1_7])]⟩) [0, 1] [0] rfl hK ⟨⟨_, rfl, .rfl⟩, trivial⟩ ⟨⟨_, rfl, ⟨rfl, SubL.rfl⟩⟩, ⟨⟨_, rfl, ⟨rfl, SubL.rfl⟩⟩, trivial⟩⟩ rfl ?_
      exact go_endD [1] tabS_ok (rs := [.cell 4 32]) rfl rfl ⟨rfl, rfl⟩
def L0_semvcsmake_Program (m : Nat) (l1v1 : (List Int)) (z1v2 : Int) (l1v3 : (List Tree)) (z1v4 : Int) (r0 : (List Tree)) : Prop := ∀ (K : Ctx) (j1 : Nat), PinB K [] → m ≤ j1 → Go Tryz.prog K (bodyPost Tryz.prog Tryz.f13 (SP K (fun u _ => u = .row 4 (kidsV r0)))) (.code (cL (cK (cB (cA (cB (cB (cB (cB (bodyC Tryz.f13)))))))))) [.loop (cL (cK (cB (cA (cB (cB (cB (cB (bodyC Tryz.f13))))))))) j1, .blk 0, .seq (cB (cB (cB (cB (cB (bodyC Tryz.f13))))))] 35 (mkF 35 0 [(3, .ptr 0 0), (4, .sl 1), (5, .sl 2), (6, .int .i64 z1v4)]) ⟨3, [(2, .row 9 1 [.str [65], .str [66], .str [67]]), (1, .row 32 4 (kidsV l1v3)), (0, .var 100 [.row 1 (List.map (V.int .i64) l1v1), .int .i64 z1v2])]⟩
theorem rS_semvcsmake_Program (m : Nat) (p0 : (List Int)) (r0 : (List Tree)) (h : ∃ (r0_1 : (List Int)), ∃ (n0_2 : Int), S_semvcsmake_Roll p0 r0_1 n0_2 ∧ ∃ (n0_3 : Int), ∃ (r0_4 : (List Int)), ∃ (n0_5 : Int), S_semvcsmake_Dice_Next r0_1 n0_2 4 n0_3 r0_4 n0_5 ∧ L0_semvcsmake_Program m r0_4 n0_5 ([] : List Tree) n0_3 r0) : S_semvcsmake_Program p0 r0 := by
  refine ⟨rfl, rfl, ?_⟩
  refine sum_enter 35 [] Tryz.func13 rfl rfl rfl (pv_of rfl) fun K hK => ?_
  refine gR 8 rfl ?_
  obtain ⟨r0_1, n0_2, hs14, h⟩ := h
  refine gC hs14 [] (by kernel_rfl) rfl rfl .rfl trivial rfl ?_
  rintro _ _ ⟨rfl, rfl⟩
  refine gR 18 rfl ?_
  obtain ⟨n0_3, r0_4, n0_5, hs15, h⟩ := h
  refine gC hs15 [0] (by kernel_rfl) rfl rfl .rfl ⟨⟨_, rfl, ⟨rfl, SubL.rfl⟩⟩, trivial⟩ rfl ?_
  rintro _ _ ⟨rfl, rfl⟩
  refine gR 4 rfl ?_
  refine go_loop m ?_
  refine gNS 4 32 4 rfl rfl rfl rfl ?_
  exact gJ (h K _ hK (by omega)) [0, 3, 1] [] rfl hK ⟨⟨_, rfl, .rfl⟩, ⟨_, rfl, .rfl⟩, ⟨_, rfl, .rfl⟩, ⟨_, rfl, .rfl⟩, trivial⟩ ⟨⟨_, rfl, ⟨rfl, rfl, rfl⟩⟩, ⟨⟨_, rfl, ⟨rfl, rfl, rfl⟩⟩, ⟨⟨_, rfl, ⟨rfl, SubL.rfl⟩⟩, trivial⟩⟩⟩ rfl
theorem rL0_semvcsmake_Program (m : Nat) (l1v1 : (List Int)) (z1v2 : Int) (l1v3 : (List Tree)) (z1v4 : Int) (r0 : (List Tree)) (h : ((0 < z1v4) → ∃ (s1_1 : (List UInt8)), [[65], [66], [67]][l1v3.length]? = some s1_1 ∧ ∃ (t1_2 : Tree), ∃ (r1_3 : (List Int)), ∃ (n1_4 : Int), S_semvcsmake_Module l1v1 z1v2 s1_1 t1_2 r1_3 n1_4 ∧ ∃ (n1_5 : Int), ∃ (r1_6 : (List Int)), ∃ (n1_7 : Int), S_semvcsmake_Dice_Next r1_3 n1_4 8 n1_5 r1_6 n1_7 ∧ ((n1_5 = 7) → ∃ (b1_8 : Bool), S_semvcsref02_Valid (Tree.node t1_2.kind [65] t1_2.leads t1_2.kids) b1_8 ∧ ((b1_8 = true) → (l1v3 ++ [(Tree.node t1_2.kind [65] t1_2.leads t1_2.kids)]).length ≤ 1000000000 ∧ InI (z1v4 - 1) ∧ L0_semvcsmake_Program m r1_6 n1_7 (l1v3 ++ [(Tree.node t1_2.kind [65] t1_2.leads t1_2.kids)]) (z1v4 - 1) r0) ∧ ((b1_8 = false) → InI (z1v4 - 1) ∧ L0_semvcsmake_Program m r1_6 n1_7 l1v3 (z1v4 - 1) r0)) ∧ ((n1_5 ≠ 7) → ∃ (b1_9 : Bool), S_semvcsref02_Valid t1_2 b1_9 ∧ ((b1_9 = true) → (l1v3 ++ [t1_2]).length ≤ 1000000000 ∧ InI (z1v4 - 1) ∧ L0_semvcsmake_Program m r1_6 n1_7 (l1v3 ++ [t1_2]) (z1v4 - 1) r0) ∧ ((b1_9 = false) → InI (z1v4 - 1) ∧ L0_semvcsmake_Program m r1_6 n1_7 l1v3 (z1v4 - 1) r0))) ∧ ((¬ 0 < z1v4) → l1v3 = r0)) : L0_semvcsmake_Program (m + 1) l1v1 z1v2 l1v3 z1v4 r0 := by
  intro K j1 hK hj1
  obtain ⟨j1, rfl⟩ : ∃ j, j1 = j + 1 := ⟨j1 - 1, by omega⟩
  refine gR 7 rfl ?_
  refine gB 14 rfl rfl rfl (fun hd => ?_) (fun hd => ?_)
  · replace hd := (of_decide_eq_true hd)
    replace h := h.1 hd
    refine gR 11 rfl ?_
    refine gV 20 (.int .i64 ((l1v3.length : Nat) : Int)) rfl (lenI (lenK _)) rfl ?_
    refine gLO 1 rfl (lenK _) fun hl16 => ?_
    obtain ⟨s1_1, hxs1_1, h⟩ := h
    refine gY (yIO tabS_ok rfl rfl rfl rfl (by have := (mapget (f := V.str) hxs1_1); exact (List.getElem?_eq_some_iff.1 this).1)) rfl rfl ?_
    refine gDo (.nop) (dLe tabS_ok rfl rfl rfl (mapget (f := V.str) hxs1_1) rfl) trivial rfl rfl rfl ?_
    obtain ⟨t1_2, r1_3, n1_4, hs17, h⟩ := h
    refine gC hs17 [0] (by kernel_rfl) rfl rfl .rfl ⟨⟨_, rfl, ⟨rfl, SubL.rfl⟩⟩, trivial⟩ rfl ?_
    rintro _ _ ⟨rfl, rfl⟩
    refine gR 8 rfl ?_
    obtain ⟨n1_5, r1_6, n1_7, hs18, h⟩ := h
    refine gC hs18 [0] (by kernel_rfl) rfl rfl .rfl ⟨⟨_, rfl, ⟨rfl, SubL.rfl⟩⟩, trivial⟩ rfl ?_
    rintro _ _ ⟨rfl, rfl⟩
    refine gR 3 rfl ?_
    refine gB 26 rfl rfl rfl (fun hd => ?_) (fun hd => ?_)
    · replace hd := (eq_of_beq hd)
      replace h := h.1 hd
      refine gR 9 rfl ?_
      obtain ⟨b1_8, hs19, h⟩ := h
      refine gC0 hs19 (by kernel_rfl) rfl rfl .rfl rfl ?_
      refine gR 2 rfl ?_
      refine gB 29 rfl rfl rfl (fun hd => ?_) (fun hd => ?_)
      · skip
        replace h := h.1 hd
        refine gR 5 rfl ?_
        refine gHR 7 (kidsV [(Tree.node t1_2.kind [65] t1_2.leads t1_2.kids)]) rfl (oneK (Tree.node t1_2.kind [65] t1_2.leads t1_2.kids)) rfl ?_
        obtain ⟨hb, h⟩ := h
        refine gDo (.repl 1 (.row 32 4 (kidsV (l1v3 ++ [(Tree.node t1_2.kind [65] t1_2.leads t1_2.kids)])))) (dAp' tabS_ok rfl rfl rfl rfl rfl (kidsV_app l1v3 [(Tree.node t1_2.kind [65] t1_2.leads t1_2.kids)]).symm (by rw [lenK]; exact hb)) (okR rfl) rfl rfl rfl ?_
        refine gR 6 rfl ?_
        obtain ⟨hb, h⟩ := h
        refine gR 1 rfl ?_
        refine gV 16 (.int .i64 (z1v4 - 1)) rfl (wrapI hb rfl) rfl ?_
        refine gR 2 rfl ?_
        refine go_xloop ?_
        exact gJ (h K _ hK (by omega)) [0, 8, 2] [] rfl hK ⟨⟨_, rfl, .rfl⟩, ⟨_, rfl, .rfl⟩, ⟨_, rfl, .rfl⟩, ⟨_, rfl, .rfl⟩, trivial⟩ ⟨⟨_, rfl, ⟨rfl, rfl, rfl⟩⟩, ⟨⟨_, rfl, ⟨rfl, rfl, (renK _ (l1v3 ++ [(Tree.node t1_2.kind [65] t1_2.leads t1_2.kids)])).symm⟩⟩, ⟨⟨_, rfl, ⟨rfl, SubL.rfl⟩⟩, trivial⟩⟩⟩ rfl
      · skip
        replace h := h.2 hd
        refine gR 6 rfl ?_
        obtain ⟨hb, h⟩ := h
        refine gR 1 rfl ?_
        refine gV 16 (.int .i64 (z1v4 - 1)) rfl (wrapI hb rfl) rfl ?_
        refine gR 2 rfl ?_
        refine go_xloop ?_
        exact gJ (h K _ hK (by omega)) [0, 1, 2] [] rfl hK ⟨⟨_, rfl, .rfl⟩, ⟨_, rfl, .rfl⟩, ⟨_, rfl, .rfl⟩, ⟨_, rfl, .rfl⟩, trivial⟩ ⟨⟨_, rfl, ⟨rfl, rfl, rfl⟩⟩, ⟨⟨_, rfl, ⟨rfl, rfl, (renK _ l1v3).symm⟩⟩, ⟨⟨_, rfl, ⟨rfl, SubL.rfl⟩⟩, trivial⟩⟩⟩ rfl
    · replace hd := (ne_of_beq_false hd)
      replace h := h.2 hd
      refine gR 6 rfl ?_
      obtain ⟨b1_9, hs20, h⟩ := h
      refine gC0 hs20 (by kernel_rfl) rfl rfl .rfl rfl ?_
      refine gR 2 rfl ?_
      refine gB 29 rfl rfl rfl (fun hd => ?_) (fun hd => ?_)
      · skip
        replace h := h.1 hd
        refine gR 5 rfl ?_
        refine gHR 7 (kidsV [t1_2]) rfl (oneK t1_2) rfl ?_
        obtain ⟨hb, h⟩ := h
        refine gDo (.repl 1 (.row 32 4 (kidsV (l1v3 ++ [t1_2])))) (dAp' tabS_ok rfl rfl rfl rfl rfl (kidsV_app l1v3 [t1_2]).symm (by rw [lenK]; exact hb)) (okR rfl) rfl rfl rfl ?_
        refine gR 6 rfl ?_
        obtain ⟨hb, h⟩ := h
        refine gR 1 rfl ?_
        refine gV 16 (.int .i64 (z1v4 - 1)) rfl (wrapI hb rfl) rfl ?_
        refine gR 2 rfl ?_
        refine go_xloop ?_
        exact gJ (h K _ hK (by omega)) [0, 8, 2] [] rfl hK ⟨⟨_, rfl, .rfl⟩, ⟨_, rfl, .rfl⟩, ⟨_, rfl, .rfl⟩, ⟨_, rfl, .rfl⟩, trivial⟩ ⟨⟨_, rfl, ⟨rfl, rfl, rfl⟩⟩, ⟨⟨_, rfl, ⟨rfl, rfl, (renK _ (l1v3 ++ [t1_2])).symm⟩⟩, ⟨⟨_, rfl, ⟨rfl, SubL.rfl⟩⟩, trivial⟩⟩⟩ rfl
      · skip
        replace h := h.2 hd
        refine gR 6 rfl ?_
        obtain ⟨hb, h⟩ := h
        refine gR 1 rfl ?_
        refine gV 16 (.int .i64 (z1v4 - 1)) rfl (wrapI hb rfl) rfl ?_
        refine gR 2 rfl ?_
        refine go_xloop ?_
        exact gJ (h K _ hK (by omega)) [0, 1, 2] [] rfl hK ⟨⟨_, rfl, .rfl⟩, ⟨_, rfl, .rfl⟩, ⟨_, rfl, .rfl⟩, ⟨_, rfl, .rfl⟩, trivial⟩ ⟨⟨_, rfl, ⟨rfl, rfl, rfl⟩⟩, ⟨⟨_, rfl, ⟨rfl, rfl, (renK _ l1v3).symm⟩⟩, ⟨⟨_, rfl, ⟨rfl, SubL.rfl⟩⟩, trivial⟩⟩⟩ rfl
  · replace hd := (of_decide_eq_false hd)
    replace h := h.2 hd
    refine gR 3 rfl ?_
    refine go_xloopE ?_
    refine gR 9 rfl ?_
    refine gFR 1 rfl (pureK _) rfl rfl ?_
    subst h
    refine go_sub (F' := (mkF 35 0 [(2, .row 4 (kidsV l1v3))])) (H' := ⟨0, []⟩) [] [] rfl hK ⟨⟨_, rfl, .rfl⟩, trivial⟩ trivial rfl ?_
    exact go_end tabS_ok (rs := [.tmp 2]) rfl rfl rfl
theorem rS_semvcsmake_Dice_Next (m : Nat) (p0_L : (List Int)) (p0_At : Int) (p1 : Int) (r0 : Int) (q0_L : (List Int)) (q0_At : Int) (h : ((((p0_L.length : Nat) : Int) ≤ p0_At) → 0 = r0 ∧ p0_L = q0_L ∧ p0_At = q0_At) ∧ ((¬ ((p0_L.length : Nat) : Int) ≤ p0_At) → InI (p0_At + 1) ∧ InI ((p0_At + 1) - 1) ∧ ∃ (k0_1 : Nat), ((p0_At + 1) - 1) = ((k0_1 : Nat) : Int) ∧ ∃ (n0_2 : Int), p0_L[k0_1]? = some n0_2 ∧ ∃ (n0_3 : Int), S_semvcsmake_Mod n0_2 p1 n0_3 ∧ n0_3 = r0 ∧ p0_L = q0_L ∧ (p0_At + 1) = q0_At)) : S_semvcsmake_Dice_Next p0_L p0_At p1 r0 q0_L q0_At := by
  refine sum_enter 35 [0] Tryz.func38 rfl rfl rfl (pv_of rfl) fun K hK => ?_
  refine gR 7 rfl ?_
  refine gDs [0] 10 10 rfl (by kernel_rfl) (by kernel_rfl) ?_
  refine gDr [(0, 2), (1, 2), (2, 2), (3, 3), (4, 0), (5, 0), (6, 0), (7, 0), (8, 0)] (by kernel_rfl) rfl rfl ?_
  refine gV 13 (.int .i64 ((p0_L.length : Nat) : Int)) rfl (lenI (lenM (V.int .i64) _)) rfl ?_
  refine gLB 12 rfl (lenM (V.int .i64) _) fun hl9 => ?_
  refine gDr [(9, 0)] (by kernel_rfl) rfl rfl ?_
  refine gDe (by kernel_rfl) ?_
  refine gR 1 rfl ?_
  refine gB 14 rfl rfl rfl (fun hd => ?_) (fun hd => ?_)
  · replace hd := (of_decide_eq_true hd)
    replace h := h.1 hd
    refine gR 8 rfl ?_
    obtain ⟨rfl, rfl, rfl⟩ := h
    refine go_sub (F' := (mkF 35 0 [(4, .int .i64 0)])) (H' := ⟨1, [(0, .var 100 [.row 1 (List.map (V.int .i64) p0_L), .int .i64 p0_At])]⟩) [0] [0] rfl hK ⟨⟨_, rfl, .rfl⟩, trivial⟩ ⟨⟨_, rfl, ⟨rfl, SubL.rfl⟩⟩, trivial⟩ rfl ?_
    exact go_endD [] tabS_ok (rs := [.tmp 4]) rfl rfl ⟨rfl, rfl⟩
  · replace hd := (of_decide_eq_false hd)
    replace h := h.2 hd
    refine gR 9 rfl ?_
    obtain ⟨hb, h⟩ := h
    refine gR 1 rfl ?_
    refine gV 19 (.int .i64 (p0_At + 1)) rfl (wrapI hb rfl) rfl ?_
    refine gR 6 rfl ?_
    refine gDs [0] 13 14 rfl (by kernel_rfl) (by kernel_rfl) ?_
    refine gDr [(0, 2), (1, 2), (2, 2), (3, 3), (4, 2), (5, 2), (6, 2), (7, 3)] (by kernel_rfl) rfl rfl ?_
    obtain ⟨hb, h⟩ := h
    refine gDr [(8, 2)] (by kernel_rfl) rfl rfl ?_
    refine gV 30 (.int .i64 ((p0_At + 1) - 1)) rfl (wrapI hb rfl) rfl ?_
    obtain ⟨k0_1, ek0_1, h⟩ := h
    refine gV 30 (.int .i64 ((k0_1 : Nat) : Int)) rfl (lenI' ek0_1) rfl ?_
    obtain ⟨n0_2, hxn0_2, h⟩ := h
    refine gYd 9 rfl (by kernel_rfl) (yIR' (mapget (f := (V.int .i64)) hxn0_2) tabS_ok rfl rfl rfl rfl) rfl rfl ?_
    refine gDr [(10, 2), (11, 0)] (by kernel_rfl) rfl rfl ?_
    obtain ⟨n0_3, hs10, h⟩ := h
    refine gDC0 12 hs10 (by kernel_rfl) rfl (by kernel_rfl) rfl rfl .rfl rfl rfl ?_
    refine gDr [(13, 1)] (by kernel_rfl) rfl rfl ?_
    refine gDe (by kernel_rfl) ?_
    refine gR 2 rfl ?_
    obtain ⟨rfl, rfl, rfl⟩ := h
    refine go_sub (F' := (mkF 35 0 [(4, .int .i64 n0_3)])) (H' := ⟨1, [(0, .var 100 [.row 1 (List.map (V.int .i64) p0_L), .int .i64 (p0_At + 1)])]⟩) [0] [0] rfl hK ⟨⟨_, rfl, .rfl⟩, trivial⟩ ⟨⟨_, rfl, ⟨rfl, SubL.rfl⟩⟩, trivial⟩ rfl ?_
    exact go_endD [] tabS_ok (rs := [.tmp 4]) rfl rfl ⟨rfl, rfl⟩
def L0_semvcsref04_blanks (m : Nat) (p0 : Int) (l1v1 : (List (List UInt8))) (i1v2 : Nat) (r0 : (List (List UInt8))) : Prop := ∀ (K : Ctx) (j1 : Nat), PinB K [] → m ≤ j1 → Go Tryz.prog K (bodyPost Tryz.prog Tryz.f121 (SP K (fun u G => u = .sl 0 ∧ G = ⟨1, [(0, .row 9 1 (List.map V.str r0))]⟩))) (.code (cL (cK (cB (cA (cB (cB (bodyC Tryz.f121)))))))) [.loop (cL (cK (cB (cA (cB (cB (bodyC Tryz.f121))))))) j1, .blk 0, .seq (cB (cB (cB (bodyC Tryz.f121))))] 14 (mkF 14 0 [(0, .int .i64 p0), (3, .sl 0), (4, .int .i64 ((i1v2 : Nat) : Int))]) ⟨1, [(0, .row 9 1 (List.map V.str l1v1))]⟩
theorem rS_semvcsref04_blanks (m : Nat) (p0 : Int) (r0 : (List (List UInt8))) (h : L0_semvcsref04_blanks m p0 ([] : List (List UInt8)) 0 r0) : S_semvcsref04_blanks p0 r0 := by
  refine sum_enter 14 [] Tryz.func121 rfl rfl rfl (pv_of rfl) fun K hK => ?_
  refine gR 17 rfl ?_
  refine go_loop m ?_
  refine gNS 3 9 1 rfl rfl rfl rfl ?_
  exact gJ (h K _ hK (by omega)) [0] [] rfl hK ⟨⟨_, rfl, .rfl⟩, ⟨_, rfl, .rfl⟩, ⟨_, rfl, .rfl⟩, trivial⟩ ⟨⟨_, rfl, ⟨rfl, rfl, rfl⟩⟩, trivial⟩ rfl
theorem rL0_semvcsref04_blanks (m : Nat) (p0 : Int) (l1v1 : (List (List UInt8))) (i1v2 : Nat) (r0 : (List (List UInt8))) (h : ((((i1v2 : Nat) : Int) < p0) → (l1v1 ++ [[32]]).length ≤ 1000000000 ∧ i1v2 + 1 ≤ 9223372036854775807 ∧ L0_semvcsref04_blanks m p0 (l1v1 ++ [[32]]) (i1v2 + 1) r0) ∧ ((¬ ((i1v2 : Nat) : Int) < p0) → l1v1 = r0)) : L0_semvcsref04_blanks (m + 1) p0 l1v1 i1v2 r0 := by
  intro K j1 hK hj1
  obtain ⟨j1, rfl⟩ : ∃ j, j1 = j + 1 := ⟨j1 - 1, by omega⟩
  refine gR 8 rfl ?_
  refine gB 7 rfl rfl rfl (fun hd => ?_) (fun hd => ?_)
  · replace hd := (of_decide_eq_true hd)
    replace h := h.1 hd
    refine gR 8 rfl ?_
    obtain ⟨hb, h⟩ := h
    refine gDo (.repl 0 (.row 9 1 (List.map V.str (l1v1 ++ [[32]])))) (dAp' tabS_ok rfl rfl rfl rfl rfl (apM V.str l1v1 [32]) (by rw [lenM]; exact hb)) (okR rfl) rfl rfl rfl ?_
    refine gR 6 rfl ?_
    obtain ⟨hb, h⟩ := h
    refine gR 1 rfl ?_
    refine gV 9 (.int .i64 ((i1v2 + 1 : Nat) : Int)) rfl (wrapI (by omega) (by omega)) rfl ?_
    refine gR 2 rfl ?_
    refine go_xloop ?_
    exact gJ (h K _ hK (by omega)) [2] [] rfl hK ⟨⟨_, rfl, .rfl⟩, ⟨_, rfl, .rfl⟩, ⟨_, rfl, .rfl⟩, trivial⟩ ⟨⟨_, rfl, ⟨rfl, rfl, (renM _ V.str (fun _ => rfl) (l1v1 ++ [[32]])).symm⟩⟩, trivial⟩ rfl
  · replace hd := (of_decide_eq_false hd)
    replace h := h.2 hd
    refine gR 3 rfl ?_
    refine go_xloopE ?_
    refine gR 9 rfl ?_
    subst h
    refine go_sub (F' := (mkF 14 0 [(2, .sl 0)])) (H' := ⟨1, [(0, .row 9 1 (List.map V.str l1v1))]⟩) [0] [] rfl hK ⟨⟨_, rfl, .rfl⟩, trivial⟩ ⟨⟨_, rfl, ⟨rfl, rfl, (renM _ V.str (fun _ => rfl) l1v1).symm⟩⟩, trivial⟩ rfl ?_
    exact go_endD [] tabS_ok (rs := [.tmp 2]) rfl rfl ⟨rfl, rfl⟩
def L0_semvcsref04_before (m : Nat) (p0 : Tree) (p2 : (List UInt8)) (b1v1 : Bool) (r0 : (List UInt8)) : Prop := ∀ (K : Ctx), PinB K [] → Go Tryz.prog K (bodyPost Tryz.prog Tryz.f122 (SP K (fun u _ => u = .str r0))) (.code (cB (cK (cB (cA (cB (cB (bodyC Tryz.f122)))))))) [.blk 1, .seq (cB (cB (cB (bodyC Tryz.f122))))] 31 (mkF 31 0 [(2, .str p2), (3, .box (treeC p0) 0), (15, .int .i64 p0.kind), (16, .bool b1v1)]) ⟨0, []⟩
theorem rS_semvcsref04_before (m : Nat) (p0 : Tree) (p1 : Int) (p2 : (List UInt8)) (r0 : (List UInt8)) (h : ((p0.kind = 1) → [10, 10] = r0) ∧ ((p0.kind ≠ 1) → ((0 < p1) → [32] = r0) ∧ ((¬ 0 < p1) → ((p0.kind = 8) → L0_semvcsref04_before m p0 p2 true r0) ∧ ((p0.kind ≠ 8) → ((p0.kind = 22) → L0_semvcsref04_before m p0 p2 true r0) ∧ ((p0.kind ≠ 22) → ((p0.kind = 16) → L0_semvcsref04_before m p0 p2 true r0) ∧ ((p0.kind ≠ 16) → L0_semvcsref04_before m p0 p2 (p0.kind == 18) r0)))))) : S_semvcsref04_before p0 p1 p2 r0 := by
  refine ⟨rfl, rfl, ?_⟩
  refine sum_enter 31 [] Tryz.func122 rfl rfl rfl (pv_of rfl) fun K hK => ?_
  refine gR 3 rfl ?_
  refine gFP 0 rfl rfl rfl rfl ?_
  refine gR 13 rfl ?_
  refine gB 7 rfl rfl rfl (fun hd => ?_) (fun hd => ?_)
  · refine gT 10 rfl hd rfl ?_
    replace hd := (eq_of_beq hd)
    replace h := h.1 hd
    refine gR 9 rfl ?_
    subst h
    refine go_sub (F' := (mkF 31 0 [(6, .str [10, 10])])) (H' := ⟨0, []⟩) [] [] rfl hK ⟨⟨_, rfl, .rfl⟩, trivial⟩ trivial rfl ?_
    exact go_end tabS_ok (rs := [.tmp 6]) rfl rfl rfl
  · refine gF 10 rfl hd rfl ?_
    replace hd := (ne_of_beq_false hd)
    replace h := h.2 hd
    refine gR 8 rfl ?_
    refine gB 11 rfl rfl rfl (fun hd => ?_) (fun hd => ?_)
    · refine gT 13 rfl hd rfl ?_
      replace hd := (of_decide_eq_true hd)
      replace h := h.1 hd
      refine gR 9 rfl ?_
      subst h
      refine go_sub (F' := (mkF 31 0 [(6, .str [32])])) (H' := ⟨0, []⟩) [] [] rfl hK ⟨⟨_, rfl, .rfl⟩, trivial⟩ trivial rfl ?_
      exact go_end tabS_ok (rs := [.tmp 6]) rfl rfl rfl
    · refine gF 13 rfl hd rfl ?_
      replace hd := (of_decide_eq_false hd)
      replace h := h.2 hd
      refine gR 19 rfl ?_
      refine gB 16 rfl rfl rfl (fun hd => ?_) (fun hd => ?_)
      · refine gT 17 rfl hd rfl ?_
        replace hd := (eq_of_beq hd)
        replace h := h.1 hd
        refine gR 3 rfl ?_
        exact gJ (h K hK) [] [] rfl hK ⟨⟨_, rfl, .rfl⟩, ⟨_, rfl, .rfl⟩, ⟨_, rfl, .rfl⟩, ⟨_, rfl, .rfl⟩, trivial⟩ trivial rfl
      · refine gF 17 rfl hd rfl ?_
        replace hd := (ne_of_beq_false hd)
        replace h := h.2 hd
        refine gR 7 rfl ?_
        refine gB 16 rfl rfl rfl (fun hd => ?_) (fun hd => ?_)
        · refine gT 18 rfl hd rfl ?_
          replace hd := (eq_of_beq hd)
          replace h := h.1 hd
          refine gR 3 rfl ?_
          exact gJ (h K hK) [] [] rfl hK ⟨⟨_, rfl, .rfl⟩, ⟨_, rfl, .rfl⟩, ⟨_, rfl, .rfl⟩, ⟨_, rfl, .rfl⟩, trivial⟩ trivial rfl
        · refine gF 18 rfl hd rfl ?_
          replace hd := (ne_of_beq_false hd)
          replace h := h.2 hd
          refine gR 7 rfl ?_
          refine gB 16 rfl rfl rfl (fun hd => ?_) (fun hd => ?_)
          · refine gT 19 rfl hd rfl ?_
            replace hd := (eq_of_beq hd)
            replace h := h.1 hd
            refine gR 3 rfl ?_
            exact gJ (h K hK) [] [] rfl hK ⟨⟨_, rfl, .rfl⟩, ⟨_, rfl, .rfl⟩, ⟨_, rfl, .rfl⟩, ⟨_, rfl, .rfl⟩, trivial⟩ trivial rfl
          · refine gF 19 rfl hd rfl ?_
            replace hd := (ne_of_beq_false hd)
            replace h := h.2 hd
            refine gR 6 rfl ?_
            exact gJ (h K hK) [] [] rfl hK ⟨⟨_, rfl, .rfl⟩, ⟨_, rfl, .rfl⟩, ⟨_, rfl, .rfl⟩, ⟨_, rfl, .rfl⟩, trivial⟩ trivial rfl
theorem rL0_semvcsref04_before (m : Nat) (p0 : Tree) (p2 : (List UInt8)) (b1v1 : Bool) (r0 : (List UInt8)) (h : ((b1v1 = true) → [] = r0) ∧ ((b1v1 = false) → ((p0.kind = 2) → ((2 < ((p0.kids.length : Nat) : Int)) → [] = r0) ∧ ((¬ 2 < ((p0.kids.length : Nat) : Int)) → [32] = r0)) ∧ ((p0.kind ≠ 2) → ((p0.kind = 17) → p2 = r0) ∧ ((p0.kind ≠ 17) → ((p0.kind = 21) → p2 = r0) ∧ ((p0.kind ≠ 21) → [32] = r0))))) : L0_semvcsref04_before (m + 1) p0 p2 b1v1 r0 := by
  intro K hK
  refine gB 16 rfl rfl rfl (fun hd => ?_) (fun hd => ?_)
  · skip
    replace h := h.1 hd
    refine gR 9 rfl ?_
    subst h
    refine go_sub (F' := (mkF 31 0 [(6, .str [])])) (H' := ⟨0, []⟩) [] [] rfl hK ⟨⟨_, rfl, .rfl⟩, trivial⟩ trivial rfl ?_
    exact go_end tabS_ok (rs := [.tmp 6]) rfl rfl rfl
  · skip
    replace h := h.2 hd
    refine gR 7 rfl ?_
    refine gB 21 rfl rfl rfl (fun hd => ?_) (fun hd => ?_)
    · refine gT 22 rfl hd rfl ?_
      replace hd := (eq_of_beq hd)
      replace h := h.1 hd
      refine gR 6 rfl ?_
      refine gV 25 (.int .i64 ((p0.kids.length : Nat) : Int)) rfl (lenI (lenK _)) rfl ?_
      refine gLB 24 rfl (lenK _) fun hl3 => ?_
      refine gR 3 rfl ?_
      refine gB 26 rfl rfl rfl (fun hd => ?_) (fun hd => ?_)
      · replace hd := (of_decide_eq_true hd)
        replace h := h.1 hd
        refine gR 9 rfl ?_
        subst h
        refine go_sub (F' := (mkF 31 0 [(6, .str [])])) (H' := ⟨0, []⟩) [] [] rfl hK ⟨⟨_, rfl, .rfl⟩, trivial⟩ trivial rfl ?_
        exact go_end tabS_ok (rs := [.tmp 6]) rfl rfl rfl
      · replace hd := (of_decide_eq_false hd)
        replace h := h.2 hd
        refine gR 10 rfl ?_
        subst h
        refine go_sub (F' := (mkF 31 0 [(6, .str [32])])) (H' := ⟨0, []⟩) [] [] rfl hK ⟨⟨_, rfl, .rfl⟩, trivial⟩ trivial rfl ?_
        exact go_end tabS_ok (rs := [.tmp 6]) rfl rfl rfl
    · refine gF 22 rfl hd rfl ?_
      replace hd := (ne_of_beq_false hd)
      replace h := h.2 hd
      refine gR 8 rfl ?_
      refine gB 27 rfl rfl rfl (fun hd => ?_) (fun hd => ?_)
      · refine gT 28 rfl hd rfl ?_
        replace hd := (eq_of_beq hd)
        replace h := h.1 hd
        refine gR 13 rfl ?_
        subst h
        refine go_sub (F' := (mkF 31 0 [(6, .str p2)])) (H' := ⟨0, []⟩) [] [] rfl hK ⟨⟨_, rfl, .rfl⟩, trivial⟩ trivial rfl ?_
        exact go_end tabS_ok (rs := [.tmp 6]) rfl rfl rfl
      · refine gF 28 rfl hd rfl ?_
        replace hd := (ne_of_beq_false hd)
        replace h := h.2 hd
        refine gR 6 rfl ?_
        refine gB 27 rfl rfl rfl (fun hd => ?_) (fun hd => ?_)
        · refine gT 29 rfl hd rfl ?_
          replace hd := (eq_of_beq hd)
          replace h := h.1 hd
          refine gR 10 rfl ?_
          subst h
          refine go_sub (F' := (mkF 31 0 [(6, .str p2)])) (H' := ⟨0, []⟩) [] [] rfl hK ⟨⟨_, rfl, .rfl⟩, trivial⟩ trivial rfl ?_
          exact go_end tabS_ok (rs := [.tmp 6]) rfl rfl rfl
        · refine gF 29 rfl hd rfl ?_
          replace hd := (ne_of_beq_false hd)
          replace h := h.2 hd
          refine gR 10 rfl ?_
          subst h
          refine go_sub (F' := (mkF 31 0 [(6, .str [32])])) (H' := ⟨0, []⟩) [] [] rfl hK ⟨⟨_, rfl, .rfl⟩, trivial⟩ trivial rfl ?_
          exact go_end tabS_ok (rs := [.tmp 6]) rfl rfl rfl
def L0_semvcsref04_arrange (m : Nat) (p0 : Tree) (p1 : (List UInt8)) (r0_2 : (List (List UInt8))) (r0 : Tree) : Prop := ∀ (K : Ctx), PinB K [] → Go Tryz.prog K (bodyPost Tryz.prog Tryz.f93 (SP K (fun u _ => u = .agg (treeC r0)))) (.ex .normal) [.seq (cB (cB (cB (bodyC Tryz.f93))))] 109 (mkF 109 0 [(1, .str p1), (2, .box (treeC p0) 0), (4, .ptr 0 0), (5, .int .i64 ((p0.kids.length : Nat) : Int)), (6, .ptr 1 0)]) ⟨3, [(2, .row 9 1 (List.map V.str r0_2)), (1, .var 32 [.int .i64 p0.kind, .str p0.text, .sl 2, .nils]), (0, .var 32 [.int .i64 0, .str [], .nils, .nils])]⟩
def L1_semvcsref04_arrange (m : Nat) (p0 : Tree) (p1 : (List UInt8)) (r0_2 : (List (List UInt8))) (l2v1 : (List Tree)) (i2v2 : Nat) (r0 : Tree) : Prop := ∀ (K : Ctx) (j1 : Nat), PinB K [] → m ≤ j1 → Go Tryz.prog K (bodyPost Tryz.prog Tryz.f93 (SP K (fun u _ => u = .agg (treeC r0)))) (.code (cL (cK (cB (cA (cB (cB (cB (cB (bodyC Tryz.f93)))))))))) [.loop (cL (cK (cB (cA (cB (cB (cB (cB (bodyC Tryz.f93))))))))) j1, .blk 0, .seq (cB (cB (cB (cB (cB (bodyC Tryz.f93))))))] 109 (mkF 109 0 [(1, .str p1), (2, .box (treeC p0) 0), (4, .ptr 0 0), (5, .int .i64 ((p0.kids.length : Nat) : Int)), (6, .ptr 1 0), (7, .sl 2), (8, .int .i64 ((i2v2 : Nat) : Int))]) ⟨4, [(3, .row 9 1 (List.map V.str r0_2)), (2, .row 32 4 (kidsV l2v1)), (1, .var 32 [.int .i64 p0.kind, .str p0.text, .sl 3, .nils]), (0, .var 32 [.int .i64 0, .str [], .nils, .nils])]⟩
def L2_semvcsref04_arrange (m : Nat) (p0 : Tree) (l3v1 : (List (List UInt8))) (l3v2 : (List Tree)) (r0 : Tree) : Prop := ∀ (K : Ctx), PinB K [] → Go Tryz.prog K (bodyPost Tryz.prog Tryz.f93 (SP K (fun u _ => u = .agg (treeC r0)))) (.code (cB (cB (cB (cB (cB (cB (bodyC Tryz.f93)))))))) [] 109 (mkF 109 0 [(2, .box (treeC p0) 0), (4, .ptr 0 0), (6, .ptr 1 0), (7, .sl 2)]) ⟨4, [(3, .row 9 1 (List.map V.str l3v1)), (2, .row 32 4 (kidsV l3v2)), (1, .var 32 [.int .i64 p0.kind, .str p0.text, .sl 3, .nils]), (0, .var 32 [.int .i64 0, .str [], .nils, .nils])]⟩
def L3_semvcsref04_arrange (m : Nat) (p0 : Tree) (l4v1 : (List (List UInt8))) (i4v2 : Nat) (l4v3 : (List Tree)) (r0 : Tree) : Prop := ∀ (K : Ctx) (j1 : Nat), PinB K [] → m ≤ j1 → Go Tryz.prog K (bodyPost Tryz.prog Tryz.f93 (SP K (fun u _ => u = .agg (treeC r0)))) (.code (cL (cK (cB (cB (cT (cB (cE (cB (cK (cB (cA (cB (cB (cB (cB (cB (cB (bodyC Tryz.f93))))))))))))))))))) [.loop (cL (cK (cB (cB (cT (cB (cE (cB (cK (cB (cA (cB (cB (cB (cB (cB (cB (bodyC Tryz.f93)))))))))))))))))) j1, .blk 3, .blk 2, .seq (cB (cB (cB (cB (cB (cB (cB (bodyC Tryz.f93))))))))] 109 (mkF 109 0 [(4, .ptr 0 0), (6, .ptr 1 0), (7, .sl 2), (9, .int .i64 ((i4v2 : Nat) : Int))]) ⟨4, [(3, .row 9 1 (List.map V.str l4v1)), (2, .row 32 4 (kidsV l4v3)), (1, .var 32 [.int .i64 p0.kind, .str p0.text, .sl 3, .nils]), (0, .var 32 [.int .i64 0, .str [], .nils, .nils])]⟩
def L4_semvcsref04_arrange (m : Nat) (p0 : Tree) (l5v1 : (List (List UInt8))) (i5v2 : Nat) (l5v3 : (List Tree)) (r0 : Tree) : Prop := ∀ (K : Ctx) (j1 : Nat), PinB K [] → m ≤ j1 → Go Tryz.prog K (bodyPost Tryz.prog Tryz.f93 (SP K (fun u _ => u = .agg (treeC r0)))) (.code (cL (cK (cB (cT (cB (cE (cB (cE (cB (cE (cB (cK (cB (cA (cB (cB (cB (cB (cB (cB (bodyC Tryz.f93)))))))))))))))))))))) [.loop (cL (cK (cB (cT (cB (cE (cB (cE (cB (cE (cB (cK (cB (cA (cB (cB (cB (cB (cB (cB (bodyC Tryz.f93))))))))))))))))))))) j1, .blk 5, .blk 2, .seq (cB (cB (cB (cB (cB (cB (cB (bodyC Tryz.f93))))))))] 109 (mkF 109 0 [(4, .ptr 0 0), (6, .ptr 1 0), (7, .sl 2), (10, .int .i64 ((i5v2 : Nat) : Int))]) ⟨4, [(3, .row 9 1 (List.map V.str l5v1)), (2, .row 32 4 (kidsV l5v3)), (1, .var 32 [.int .i64 p0.kind, .str p0.text, .sl 3, .nils]), (0, .var 32 [.int .i64 0, .str [], .nils, .nils])]⟩
theorem rS_semvcsref04_arrange (m : Nat) (p0 : Tree) (p1 : (List UInt8)) (r0 : Tree) (h : ∃ (n0_1 : Int), S_semvcsref02_Leads p0.kind ((p0.kids.length : Nat) : Int) n0_1 ∧ ∃ (r0_2 : (List (List UInt8))), S_semvcsref04_blanks n0_1 r0_2 ∧ L0_semvcsref04_arrange m p0 p1 r0_2 r0) : S_semvcsref04_arrange p0 p1 r0 := by
  refine ⟨rfl, rfl, ?_⟩
  refine sum_enter 109 [] Tryz.func93 rfl rfl rfl (pv_of rfl) fun K hK => ?_
  refine gR 3 rfl ?_
  refine gFP 0 rfl rfl rfl rfl ?_
  refine gR 8 rfl ?_
  refine gV 13 (.int .i64 ((p0.kids.length : Nat) : Int)) rfl (lenI (lenK _)) rfl ?_
  refine gLB 12 rfl (lenK _) fun hl31 => ?_
  refine gR 4 rfl ?_
  refine gDs [] 11 12 rfl (by kernel_rfl) (by kernel_rfl) ?_
  refine gDr [(0, 2), (1, 2), (2, 2), (3, 2), (4, 2), (5, 2), (6, 2)] (by kernel_rfl) rfl rfl ?_
  obtain ⟨n0_1, hs32, h⟩ := h
  apply go_dTwoX (i := 7) (j := 10) (by kernel_rfl) rfl rfl rfl rfl
  · exact (exec_call (L' := []) (by kernel_rfl) rfl rfl (call0 hs32 .rfl [] rfl) (.inl rfl))
  · exact (exec_eff tabS_ok rfl rfl)
  · skip
    obtain ⟨r0_2, hs33, h⟩ := h
    apply go_dTwoX (i := 8) (j := 10) (by kernel_rfl) rfl rfl rfl rfl
    · exact (exec_call (L' := []) (by kernel_rfl) rfl rfl (call_sumX (H := ⟨2, [(1, .var 32 [.int .i64 0, .str [], .nils, .nils])]⟩) hs33 [] .rfl trivial rfl [] rfl) (.inl rfl))
    · exact (exec_eff tabS_ok rfl rfl)
    · skip
      refine gHR 2 (List.map V.str r0_2) rfl (renM _ V.str (fun _ => rfl) r0_2) rfl ?_
      refine gDr [(9, 2), (10, 0), (11, 1)] (by kernel_rfl) rfl rfl ?_
      refine gDe (by kernel_rfl) ?_
      exact gJ (h K hK) [1, 3, 2] [] rfl hK ⟨⟨_, rfl, .rfl⟩, ⟨_, rfl, .rfl⟩, ⟨_, rfl, .rfl⟩, ⟨_, rfl, .rfl⟩, ⟨_, rfl, .rfl⟩, trivial⟩ ⟨⟨_, rfl, ⟨rfl, rfl, (renM _ V.str (fun _ => rfl) r0_2).symm⟩⟩, ⟨⟨_, rfl, ⟨rfl, SubL.rfl⟩⟩, ⟨⟨_, rfl, ⟨rfl, SubL.rfl⟩⟩, trivial⟩⟩⟩ rfl
    · skip
      refine gDC 8 hs33 [] (by kernel_rfl) rfl (by kernel_rfl) rfl rfl .rfl trivial (by kernel_rfl) rfl ?_
      rintro _ _ ⟨rfl, rfl⟩
      refine gHR 3 (List.map V.str r0_2) rfl (renM _ V.str (fun _ => rfl) r0_2) rfl ?_
      refine gDr [(9, 0), (11, 1)] (by kernel_rfl) rfl rfl ?_
      refine gDe (by kernel_rfl) ?_
      exact gJ (h K hK) [1, 2, 3] [] rfl hK ⟨⟨_, rfl, .rfl⟩, ⟨_, rfl, .rfl⟩, ⟨_, rfl, .rfl⟩, ⟨_, rfl, .rfl⟩, ⟨_, rfl, .rfl⟩, trivial⟩ ⟨⟨_, rfl, ⟨rfl, rfl, (renM _ V.str (fun _ => rfl) r0_2).symm⟩⟩, ⟨⟨_, rfl, ⟨rfl, SubL.rfl⟩⟩, ⟨⟨_, rfl, ⟨rfl, SubL.rfl⟩⟩, trivial⟩⟩⟩ rfl
  · skip
    refine gDC0 7 hs32 (by kernel_rfl) rfl (by kernel_rfl) rfl rfl .rfl rfl rfl ?_
    obtain ⟨r0_2, hs34, h⟩ := h
    refine gDC 8 hs34 [] (by kernel_rfl) rfl (by kernel_rfl) rfl rfl .rfl trivial (by kernel_rfl) rfl ?_
    rintro _ _ ⟨rfl, rfl⟩
    refine gHR 3 (List.map V.str r0_2) rfl (renM _ V.str (fun _ => rfl) r0_2) rfl ?_
    refine gDr [(9, 0), (11, 1)] (by kernel_rfl) rfl rfl ?_
    refine gDe (by kernel_rfl) ?_
    exact gJ (h K hK) [1, 2, 3] [] rfl hK ⟨⟨_, rfl, .rfl⟩, ⟨_, rfl, .rfl⟩, ⟨_, rfl, .rfl⟩, ⟨_, rfl, .rfl⟩, ⟨_, rfl, .rfl⟩, trivial⟩ ⟨⟨_, rfl, ⟨rfl, rfl, (renM _ V.str (fun _ => rfl) r0_2).symm⟩⟩, ⟨⟨_, rfl, ⟨rfl, SubL.rfl⟩⟩, ⟨⟨_, rfl, ⟨rfl, SubL.rfl⟩⟩, trivial⟩⟩⟩ rfl
theorem rL0_semvcsref04_arrange (m : Nat) (p0 : Tree) (p1 : (List UInt8)) (r0_2 : (List (List UInt8))) (r0 : Tree) (h : p0.kids.length ≤ 1000000000 ∧ L1_semvcsref04_arrange m p0 p1 r0_2 (List.replicate p0.kids.length (Tree.node 0 [] [] [])) 0 r0) : L0_semvcsref04_arrange (m + 1) p0 p1 r0_2 r0 := by
  intro K hK
  refine gR 4 rfl ?_
  obtain ⟨hb, h⟩ := h
  refine gDo (.new (.row 32 4 (List.replicate p0.kids.length (.agg [.int .i64 0, .str [], .nils, .nils])))) (dMk tabS_ok rfl rfl rfl rfl rfl rfl rfl (by kernel_rfl) hb) trivial rfl rfl rfl ?_
  refine gHW 3 (List.replicate p0.kids.length (.agg [.int .i64 0, .str [], .row 1 [], .row 4 (kidsV [])])) rfl rfl (SubL.rep (.agg (.cons .rfl (.cons .rfl (.cons (.nil 1) (.cons (.nil 4) .nil))))) _) rfl ?_
  refine gHR 3 (kidsV (List.replicate p0.kids.length (Tree.node 0 [] [] []))) rfl (by first | (simp only [kidsV_map, List.map_replicate]; done) | (simp only [kidsV_map, List.map_replicate]; rfl)) rfl ?_
  refine gR 10 rfl ?_
  refine go_loop m ?_
  exact gJ (h K _ hK (by omega)) [0, 1, 3, 2] [] rfl hK ⟨⟨_, rfl, .rfl⟩, ⟨_, rfl, .rfl⟩, ⟨_, rfl, .rfl⟩, ⟨_, rfl, .rfl⟩, ⟨_, rfl, .rfl⟩, ⟨_, rfl, .rfl⟩, ⟨_, rfl, .rfl⟩, trivial⟩ ⟨⟨_, rfl, ⟨rfl, rfl, (renM _ V.str (fun _ => rfl) r0_2).symm⟩⟩, ⟨⟨_, rfl, ⟨rfl, rfl, (renK _ (List.replicate p0.kids.length (Tree.node 0 [] [] []))).symm⟩⟩, ⟨⟨_, rfl, ⟨rfl, SubL.rfl⟩⟩, ⟨⟨_, rfl, ⟨rfl, SubL.rfl⟩⟩, trivial⟩⟩⟩⟩ rfl
theorem rL1_semvcsref04_arrange (m : Nat) (p0 : Tree) (p1 : (List UInt8)) (r0_2 : (List (List UInt8))) (l2v1 : (List Tree)) (i2v2 : Nat) (r0 : Tree) (h : ((i2v2 < p0.kids.length) → ∃ (t2_1 : Tree), p0.kids[i2v2]? = some t2_1 ∧ ∃ (s2_2 : (List UInt8)), S_semvcsref04_before p0 ((i2v2 : Nat) : Int) p1 s2_2 ∧ ∃ (t2_3 : Tree), S_semvcsref04_arrange t2_1 s2_2 t2_3 ∧ ∃ (t2_4 : Tree), l2v1[i2v2]? = some t2_4 ∧ i2v2 + 1 ≤ 9223372036854775807 ∧ L1_semvcsref04_arrange m p0 p1 r0_2 (l2v1.set i2v2 t2_3) (i2v2 + 1) r0) ∧ ((¬ i2v2 < p0.kids.length) → ((p0.kind ≠ 17) → ((p0.kind ≠ 21) → ∃ (s2_5 : (List UInt8)), r0_2[0]? = some s2_5 ∧ L2_semvcsref04_arrange m p0 (r0_2.set 0 p1) l2v1 r0) ∧ ((p0.kind = 21) → L2_semvcsref04_arrange m p0 r0_2 l2v1 r0)) ∧ ((p0.kind = 17) → L2_semvcsref04_arrange m p0 r0_2 l2v1 r0))) : L1_semvcsref04_arrange (m + 1) p0 p1 r0_2 l2v1 i2v2 r0 := by
  intro K j1 hK hj1
  obtain ⟨j1, rfl⟩ : ∃ j, j1 = j + 1 := ⟨j1 - 1, by omega⟩
  refine gR 8 rfl ?_
  refine gB 28 rfl rfl rfl (fun hd => ?_) (fun hd => ?_)
  · replace hd := (natT hd)
    replace h := h.1 hd
    refine gR 5 rfl ?_
    refine gDs [] 13 14 rfl (by kernel_rfl) (by kernel_rfl) ?_
    refine gDr [(0, 2), (1, 2), (2, 2), (3, 2), (4, 2)] (by kernel_rfl) rfl rfl ?_
    obtain ⟨t2_1, hxt2_1, h⟩ := h
    refine gYd 5 rfl (by kernel_rfl) (yIR' (kidsV_get hxt2_1) tabS_ok rfl rfl rfl rfl) rfl rfl ?_
    refine gDr [(6, 2), (7, 2), (8, 2), (9, 0)] (by kernel_rfl) rfl rfl ?_
    obtain ⟨s2_2, hs35, h⟩ := h
    refine gDC0 10 hs35 (by kernel_rfl) rfl (by kernel_rfl) rfl rfl .rfl rfl rfl ?_
    obtain ⟨t2_3, hs36, h⟩ := h
    refine gDC0 11 hs36 (by kernel_rfl) rfl (by kernel_rfl) rfl rfl .rfl rfl rfl ?_
    obtain ⟨t2_4, hxt2_4, h⟩ := h
    refine gYd1 12 rfl (by kernel_rfl) (yIO tabS_ok rfl rfl rfl rfl (by have := (kidsV_get hxt2_4); exact (List.getElem?_eq_some_iff.1 this).1)) rfl rfl ?_
    refine gDd1 13 (.set 2 (.row 32 4 (kidsV (l2v1.set i2v2 t2_3)))) rfl (by kernel_rfl) (dSe tabS_ok rfl rfl rfl rfl (kidsV_get hxt2_4) rfl (setK l2v1 i2v2 t2_3)) (okS rfl) rfl (by kernel_rfl) rfl rfl ?_
    refine gDe (by kernel_rfl) ?_
    refine gR 4 rfl ?_
    obtain ⟨hb, h⟩ := h
    refine gR 1 rfl ?_
    refine gV 30 (.int .i64 ((i2v2 + 1 : Nat) : Int)) rfl (wrapI (by omega) (by omega)) rfl ?_
    refine gR 2 rfl ?_
    refine go_xloop ?_
    exact gJ (h K _ hK (by omega)) [0, 1, 2, 3] [] rfl hK ⟨⟨_, rfl, .rfl⟩, ⟨_, rfl, .rfl⟩, ⟨_, rfl, .rfl⟩, ⟨_, rfl, .rfl⟩, ⟨_, rfl, .rfl⟩, ⟨_, rfl, .rfl⟩, ⟨_, rfl, .rfl⟩, trivial⟩ ⟨⟨_, rfl, ⟨rfl, rfl, (renM _ V.str (fun _ => rfl) r0_2).symm⟩⟩, ⟨⟨_, rfl, ⟨rfl, rfl, (renK _ (l2v1.set i2v2 t2_3)).symm⟩⟩, ⟨⟨_, rfl, ⟨rfl, SubL.rfl⟩⟩, ⟨⟨_, rfl, ⟨rfl, SubL.rfl⟩⟩, trivial⟩⟩⟩⟩ rfl
  · replace hd := (natF hd)
    replace h := h.2 hd
    refine gR 3 rfl ?_
    refine go_xloopE ?_
    refine gR 9 rfl ?_
    refine gB 47 rfl rfl rfl (fun hd => ?_) (fun hd => ?_)
    · refine gT 46 rfl hd rfl ?_
      replace hd := (xneT hd)
      replace h := h.1 hd
      refine gR 6 rfl ?_
      refine gB 51 rfl rfl rfl (fun hd => ?_) (fun hd => ?_)
      · replace hd := (xneT hd)
        replace h := h.1 hd
        refine gR 5 rfl ?_
        obtain ⟨s2_5, hxs2_5, h⟩ := h
        refine gY (yIO tabS_ok rfl rfl rfl rfl (by have := (mapget (f := V.str) hxs2_5); exact (List.getElem?_eq_some_iff.1 this).1)) rfl rfl ?_
        refine gDo (.set 3 (.row 9 1 (List.map V.str (r0_2.set 0 p1)))) (dSe tabS_ok rfl rfl rfl rfl (mapget (f := V.str) hxs2_5) rfl (setM V.str r0_2 0 p1)) (okS rfl) rfl rfl rfl ?_
        refine gR 2 rfl ?_
        exact gJ (h K hK) [0, 1, 2, 3] [] rfl hK ⟨⟨_, rfl, .rfl⟩, ⟨_, rfl, .rfl⟩, ⟨_, rfl, .rfl⟩, ⟨_, rfl, .rfl⟩, trivial⟩ ⟨⟨_, rfl, ⟨rfl, rfl, (renM _ V.str (fun _ => rfl) (r0_2.set 0 p1)).symm⟩⟩, ⟨⟨_, rfl, ⟨rfl, rfl, (renK _ l2v1).symm⟩⟩, ⟨⟨_, rfl, ⟨rfl, SubL.rfl⟩⟩, ⟨⟨_, rfl, ⟨rfl, SubL.rfl⟩⟩, trivial⟩⟩⟩⟩ rfl
      · replace hd := (bneFE hd)
        replace h := h.2 hd
        refine gR 3 rfl ?_
        exact gJ (h K hK) [0, 1, 2, 3] [] rfl hK ⟨⟨_, rfl, .rfl⟩, ⟨_, rfl, .rfl⟩, ⟨_, rfl, .rfl⟩, ⟨_, rfl, .rfl⟩, trivial⟩ ⟨⟨_, rfl, ⟨rfl, rfl, (renM _ V.str (fun _ => rfl) r0_2).symm⟩⟩, ⟨⟨_, rfl, ⟨rfl, rfl, (renK _ l2v1).symm⟩⟩, ⟨⟨_, rfl, ⟨rfl, SubL.rfl⟩⟩, ⟨⟨_, rfl, ⟨rfl, SubL.rfl⟩⟩, trivial⟩⟩⟩⟩ rfl
    · refine gF 46 rfl hd rfl ?_
      replace hd := (bneFE hd)
      replace h := h.2 hd
      refine gR 9 rfl ?_
      exact gJ (h K hK) [0, 1, 2, 3] [] rfl hK ⟨⟨_, rfl, .rfl⟩, ⟨_, rfl, .rfl⟩, ⟨_, rfl, .rfl⟩, ⟨_, rfl, .rfl⟩, trivial⟩ ⟨⟨_, rfl, ⟨rfl, rfl, (renM _ V.str (fun _ => rfl) r0_2).symm⟩⟩, ⟨⟨_, rfl, ⟨rfl, rfl, (renK _ l2v1).symm⟩⟩, ⟨⟨_, rfl, ⟨rfl, SubL.rfl⟩⟩, ⟨⟨_, rfl, ⟨rfl, SubL.rfl⟩⟩, trivial⟩⟩⟩⟩ rfl
theorem rL2_semvcsref04_arrange (m : Nat) (p0 : Tree) (l3v1 : (List (List UInt8))) (l3v2 : (List Tree)) (r0 : Tree) (h : ((p0.kind = 1) → ∃ (s3_1 : (List UInt8)), l3v1[2]? = some s3_1 ∧ (Tree.node p0.kind p0.text (l3v1.set 2 [10]) l3v2) = r0) ∧ ((p0.kind ≠ 1) → ((p0.kind = 2) → ∃ (s3_2 : (List UInt8)), l3v1[2]? = some s3_2 ∧ ∃ (s3_3 : (List UInt8)), (l3v1.set 2 [])[3]? = some s3_3 ∧ ∃ (s3_4 : (List UInt8)), ((l3v1.set 2 []).set 3 [])[4]? = some s3_4 ∧ L3_semvcsref04_arrange m p0 (((l3v1.set 2 []).set 3 []).set 4 []) 6 l3v2 r0) ∧ ((p0.kind ≠ 2) → ((p0.kind = 4) → ∃ (s3_5 : (List UInt8)), l3v1[1]? = some s3_5 ∧ (Tree.node p0.kind p0.text (l3v1.set 1 []) l3v2) = r0) ∧ ((p0.kind ≠ 4) → ((p0.kind = 8) → ∃ (s3_6 : (List UInt8)), l3v1[1]? = some s3_6 ∧ (Tree.node p0.kind p0.text (l3v1.set 1 []) l3v2) = r0) ∧ ((p0.kind ≠ 8) → ((p0.kind = 22) → ∃ (s3_7 : (List UInt8)), l3v1[1]? = some s3_7 ∧ (Tree.node p0.kind p0.text (l3v1.set 1 []) l3v2) = r0) ∧ ((p0.kind ≠ 22) → ((p0.kind = 16) → L4_semvcsref04_arrange m p0 l3v1 1 l3v2 r0) ∧ ((p0.kind ≠ 16) → ((p0.kind = 18) → L4_semvcsref04_arrange m p0 l3v1 1 l3v2 r0) ∧ ((p0.kind ≠ 18) → (Tree.node p0.kind p0.text l3v1 l3v2) = r0)))))))) : L2_semvcsref04_arrange (m + 1) p0 l3v1 l3v2 r0 := by
  intro K hK
  refine gR 14 rfl ?_
  refine gB 58 rfl rfl rfl (fun hd => ?_) (fun hd => ?_)
  · refine gT 59 rfl hd rfl ?_
    replace hd := (eq_of_beq hd)
    replace h := h.1 hd
    refine gR 4 rfl ?_
    obtain ⟨s3_1, hxs3_1, h⟩ := h
    refine gY (yIO tabS_ok rfl rfl rfl rfl (by have := (mapget (f := V.str) hxs3_1); exact (List.getElem?_eq_some_iff.1 this).1)) rfl rfl ?_
    refine gDo (.set 3 (.row 9 1 (List.map V.str (l3v1.set 2 [10])))) (dSe tabS_ok rfl rfl rfl rfl (mapget (f := V.str) hxs3_1) rfl (setM V.str l3v1 2 [10])) (okS rfl) rfl rfl rfl ?_
    refine gR 17 rfl ?_
    refine gFR 3 rfl (pureM _ (fun _ => rfl) _) rfl rfl ?_
    refine gFR 2 rfl (pureK _) rfl rfl ?_
    subst h
    refine go_sub (F' := (mkF 109 0 [(4, .ptr 0 0)])) (H' := ⟨1, [(0, .var 32 [.int .i64 ((Tree.node p0.kind p0.text (l3v1.set 2 [10]) l3v2).kind), .str ((Tree.node p0.kind p0.text (l3v1.set 2 [10]) l3v2).text), .row 1 (List.map V.str ((Tree.node p0.kind p0.text (l3v1.set 2 [10]) l3v2).leads)), .row 4 (kidsV ((Tree.node p0.kind p0.text (l3v1.set 2 [10]) l3v2).kids))])]⟩) [0] [] rfl hK ⟨⟨_, rfl, .rfl⟩, trivial⟩ ⟨⟨_, rfl, ⟨rfl, SubL.rfl⟩⟩, trivial⟩ rfl ?_
    exact go_end tabS_ok (rs := [.cell 4 32]) rfl rfl rfl
  · refine gF 59 rfl hd rfl ?_
    replace hd := (ne_of_beq_false hd)
    replace h := h.2 hd
    refine gR 7 rfl ?_
    refine gB 63 rfl rfl rfl (fun hd => ?_) (fun hd => ?_)
    · refine gT 64 rfl hd rfl ?_
      replace hd := (eq_of_beq hd)
      replace h := h.1 hd
      refine gR 2 rfl ?_
      refine gDs [1] 11 12 rfl (by kernel_rfl) (by kernel_rfl) ?_
      refine gDr [(0, 2), (1, 3), (2, 2), (3, 3), (4, 2), (5, 3)] (by kernel_rfl) rfl rfl ?_
      obtain ⟨s3_2, hxs3_2, h⟩ := h
      refine gYd1 6 rfl (by kernel_rfl) (yIO tabS_ok rfl rfl rfl rfl (by have := (mapget (f := V.str) hxs3_2); exact (List.getElem?_eq_some_iff.1 this).1)) rfl rfl ?_
      refine gDd1 7 (.set 3 (.row 9 1 (List.map V.str (l3v1.set 2 [])))) rfl (by kernel_rfl) (dSe tabS_ok rfl rfl rfl rfl (mapget (f := V.str) hxs3_2) rfl (setM V.str l3v1 2 [])) (okS rfl) rfl (by kernel_rfl) rfl rfl ?_
      obtain ⟨s3_3, hxs3_3, h⟩ := h
      refine gYd1 8 rfl (by kernel_rfl) (yIO tabS_ok rfl rfl rfl rfl (by have := (mapget (f := V.str) hxs3_3); exact (List.getElem?_eq_some_iff.1 this).1)) rfl rfl ?_
      refine gDd1 9 (.set 3 (.row 9 1 (List.map V.str ((l3v1.set 2 []).set 3 [])))) rfl (by kernel_rfl) (dSe tabS_ok rfl rfl rfl rfl (mapget (f := V.str) hxs3_3) rfl (setM V.str (l3v1.set 2 []) 3 [])) (okS rfl) rfl (by kernel_rfl) rfl rfl ?_
      obtain ⟨s3_4, hxs3_4, h⟩ := h
      refine gYd1 10 rfl (by kernel_rfl) (yIO tabS_ok rfl rfl rfl rfl (by have := (mapget (f := V.str) hxs3_4); exact (List.getElem?_eq_some_iff.1 this).1)) rfl rfl ?_
      refine gDd1 11 (.set 3 (.row 9 1 (List.map V.str (((l3v1.set 2 []).set 3 []).set 4 [])))) rfl (by kernel_rfl) (dSe tabS_ok rfl rfl rfl rfl (mapget (f := V.str) hxs3_4) rfl (setM V.str ((l3v1.set 2 []).set 3 []) 4 [])) (okS rfl) rfl (by kernel_rfl) rfl rfl ?_
      refine gDe (by kernel_rfl) ?_
      refine gR 7 rfl ?_
      refine go_loop m ?_
      exact gJ (h K _ hK (by omega)) [0, 1, 2, 3] [] rfl hK ⟨⟨_, rfl, .rfl⟩, ⟨_, rfl, .rfl⟩, ⟨_, rfl, .rfl⟩, ⟨_, rfl, .rfl⟩, trivial⟩ ⟨⟨_, rfl, ⟨rfl, rfl, (renM _ V.str (fun _ => rfl) (((l3v1.set 2 []).set 3 []).set 4 [])).symm⟩⟩, ⟨⟨_, rfl, ⟨rfl, rfl, (renK _ l3v2).symm⟩⟩, ⟨⟨_, rfl, ⟨rfl, SubL.rfl⟩⟩, ⟨⟨_, rfl, ⟨rfl, SubL.rfl⟩⟩, trivial⟩⟩⟩⟩ rfl
    · refine gF 64 rfl hd rfl ?_
      replace hd := (ne_of_beq_false hd)
      replace h := h.2 hd
      refine gR 8 rfl ?_
      refine gB 85 rfl rfl rfl (fun hd => ?_) (fun hd => ?_)
      · refine gT 86 rfl hd rfl ?_
        replace hd := (eq_of_beq hd)
        replace h := h.1 hd
        refine gR 7 rfl ?_
        obtain ⟨s3_5, hxs3_5, h⟩ := h
        refine gY (yIO tabS_ok rfl rfl rfl rfl (by have := (mapget (f := V.str) hxs3_5); exact (List.getElem?_eq_some_iff.1 this).1)) rfl rfl ?_
        refine gDo (.set 3 (.row 9 1 (List.map V.str (l3v1.set 1 [])))) (dSe tabS_ok rfl rfl rfl rfl (mapget (f := V.str) hxs3_5) rfl (setM V.str l3v1 1 [])) (okS rfl) rfl rfl rfl ?_
        refine gR 17 rfl ?_
        refine gFR 3 rfl (pureM _ (fun _ => rfl) _) rfl rfl ?_
        refine gFR 2 rfl (pureK _) rfl rfl ?_
        subst h
        refine go_sub (F' := (mkF 109 0 [(4, .ptr 0 0)])) (H' := ⟨1, [(0, .var 32 [.int .i64 ((Tree.node p0.kind p0.text (l3v1.set 1 []) l3v2).kind), .str ((Tree.node p0.kind p0.text (l3v1.set 1 []) l3v2).text), .row 1 (List.map V.str ((Tree.node p0.kind p0.text (l3v1.set 1 []) l3v2).leads)), .row 4 (kidsV ((Tree.node p0.kind p0.text (l3v1.set 1 []) l3v2).kids))])]⟩) [0] [] rfl hK ⟨⟨_, rfl, .rfl⟩, trivial⟩ ⟨⟨_, rfl, ⟨rfl, SubL.rfl⟩⟩, trivial⟩ rfl ?_
        exact go_end tabS_ok (rs := [.cell 4 32]) rfl rfl rfl
      · refine gF 86 rfl hd rfl ?_
        replace hd := (ne_of_beq_false hd)
        replace h := h.2 hd
        refine gR 7 rfl ?_
        refine gB 85 rfl rfl rfl (fun hd => ?_) (fun hd => ?_)
        · refine gT 87 rfl hd rfl ?_
          replace hd := (eq_of_beq hd)
          replace h := h.1 hd
          refine gR 7 rfl ?_
          obtain ⟨s3_6, hxs3_6, h⟩ := h
          refine gY (yIO tabS_ok rfl rfl rfl rfl (by have := (mapget (f := V.str) hxs3_6); exact (List.getElem?_eq_some_iff.1 this).1)) rfl rfl ?_
          refine gDo (.set 3 (.row 9 1 (List.map V.str (l3v1.set 1 [])))) (dSe tabS_ok rfl rfl rfl rfl (mapget (f := V.str) hxs3_6) rfl (setM V.str l3v1 1 [])) (okS rfl) rfl rfl rfl ?_
          refine gR 17 rfl ?_
          refine gFR 3 rfl (pureM _ (fun _ => rfl) _) rfl rfl ?_
          refine gFR 2 rfl (pureK _) rfl rfl ?_
          subst h
          refine go_sub (F' := (mkF 109 0 [(4, .ptr 0 0)])) (H' := ⟨1, [(0, .var 32 [.int .i64 ((Tree.node p0.kind p0.text (l3v1.set 1 []) l3v2).kind), .str ((Tree.node p0.kind p0.text (l3v1.set 1 []) l3v2).text), .row 1 (List.map V.str ((Tree.node p0.kind p0.text (l3v1.set 1 []) l3v2).leads)), .row 4 (kidsV ((Tree.node p0.kind p0.text (l3v1.set 1 []) l3v2).kids))])]⟩) [0] [] rfl hK ⟨⟨_, rfl, .rfl⟩, trivial⟩ ⟨⟨_, rfl, ⟨rfl, SubL.rfl⟩⟩, trivial⟩ rfl ?_
          exact go_end tabS_ok (rs := [.cell 4 32]) rfl rfl rfl
        · refine gF 87 rfl hd rfl ?_
          replace hd := (ne_of_beq_false hd)
          replace h := h.2 hd
          refine gR 6 rfl ?_
          refine gB 85 rfl rfl rfl (fun hd => ?_) (fun hd => ?_)
          · refine gT 88 rfl hd rfl ?_
            replace hd := (eq_of_beq hd)
            replace h := h.1 hd
            refine gR 4 rfl ?_
            obtain ⟨s3_7, hxs3_7, h⟩ := h
            refine gY (yIO tabS_ok rfl rfl rfl rfl (by have := (mapget (f := V.str) hxs3_7); exact (List.getElem?_eq_some_iff.1 this).1)) rfl rfl ?_
            refine gDo (.set 3 (.row 9 1 (List.map V.str (l3v1.set 1 [])))) (dSe tabS_ok rfl rfl rfl rfl (mapget (f := V.str) hxs3_7) rfl (setM V.str l3v1 1 [])) (okS rfl) rfl rfl rfl ?_
            refine gR 17 rfl ?_
            refine gFR 3 rfl (pureM _ (fun _ => rfl) _) rfl rfl ?_
            refine gFR 2 rfl (pureK _) rfl rfl ?_
            subst h
            refine go_sub (F' := (mkF 109 0 [(4, .ptr 0 0)])) (H' := ⟨1, [(0, .var 32 [.int .i64 ((Tree.node p0.kind p0.text (l3v1.set 1 []) l3v2).kind), .str ((Tree.node p0.kind p0.text (l3v1.set 1 []) l3v2).text), .row 1 (List.map V.str ((Tree.node p0.kind p0.text (l3v1.set 1 []) l3v2).leads)), .row 4 (kidsV ((Tree.node p0.kind p0.text (l3v1.set 1 []) l3v2).kids))])]⟩) [0] [] rfl hK ⟨⟨_, rfl, .rfl⟩, trivial⟩ ⟨⟨_, rfl, ⟨rfl, SubL.rfl⟩⟩, trivial⟩ rfl ?_
            exact go_end tabS_ok (rs := [.cell 4 32]) rfl rfl rfl
          · refine gF 88 rfl hd rfl ?_
            replace hd := (ne_of_beq_false hd)
            replace h := h.2 hd
            refine gR 8 rfl ?_
            refine gB 92 rfl rfl rfl (fun hd => ?_) (fun hd => ?_)
            · refine gT 93 rfl hd rfl ?_
              replace hd := (eq_of_beq hd)
              replace h := h.1 hd
              refine gR 10 rfl ?_
              refine go_loop m ?_
              exact gJ (h K _ hK (by omega)) [0, 1, 2, 3] [] rfl hK ⟨⟨_, rfl, .rfl⟩, ⟨_, rfl, .rfl⟩, ⟨_, rfl, .rfl⟩, ⟨_, rfl, .rfl⟩, trivial⟩ ⟨⟨_, rfl, ⟨rfl, rfl, (renM _ V.str (fun _ => rfl) l3v1).symm⟩⟩, ⟨⟨_, rfl, ⟨rfl, rfl, (renK _ l3v2).symm⟩⟩, ⟨⟨_, rfl, ⟨rfl, SubL.rfl⟩⟩, ⟨⟨_, rfl, ⟨rfl, SubL.rfl⟩⟩, trivial⟩⟩⟩⟩ rfl
            · refine gF 93 rfl hd rfl ?_
              replace hd := (ne_of_beq_false hd)
              replace h := h.2 hd
              refine gR 6 rfl ?_
              refine gB 92 rfl rfl rfl (fun hd => ?_) (fun hd => ?_)
              · refine gT 94 rfl hd rfl ?_
                replace hd := (eq_of_beq hd)
                replace h := h.1 hd
                refine gR 7 rfl ?_
                refine go_loop m ?_
                exact gJ (h K _ hK (by omega)) [0, 1, 2, 3] [] rfl hK ⟨⟨_, rfl, .rfl⟩, ⟨_, rfl, .rfl⟩, ⟨_, rfl, .rfl⟩, ⟨_, rfl, .rfl⟩, trivial⟩ ⟨⟨_, rfl, ⟨rfl, rfl, (renM _ V.str (fun _ => rfl) l3v1).symm⟩⟩, ⟨⟨_, rfl, ⟨rfl, rfl, (renK _ l3v2).symm⟩⟩, ⟨⟨_, rfl, ⟨rfl, SubL.rfl⟩⟩, ⟨⟨_, rfl, ⟨rfl, SubL.rfl⟩⟩, trivial⟩⟩⟩⟩ rfl
              · refine gF 94 rfl hd rfl ?_
                replace hd := (ne_of_beq_false hd)
                replace h := h.2 hd
                refine gR 18 rfl ?_
                refine gFR 3 rfl (pureM _ (fun _ => rfl) _) rfl rfl ?_
                refine gFR 2 rfl (pureK _) rfl rfl ?_
                subst h
                refine go_sub (F' := (mkF 109 0 [(4, .ptr 0 0)])) (H' := ⟨1, [(0, .var 32 [.int .i64 ((Tree.node p0.kind p0.text l3v1 l3v2).kind), .str ((Tree.node p0.kind p0.text l3v1 l3v2).text), .row 1 (List.map V.str ((Tree.node p0.kind p0.text l3v1 l3v2).leads)), .row 4 (kidsV ((Tree.node p0.kind p0.text l3v1 l3v2).kids))])]⟩) [0] [] rfl hK ⟨⟨_, rfl, .rfl⟩, trivial⟩ ⟨⟨_, rfl, ⟨rfl, SubL.rfl⟩⟩, trivial⟩ rfl ?_
                exact go_end tabS_ok (rs := [.cell 4 32]) rfl rfl rfl
theorem rL3_semvcsref04_arrange (m : Nat) (p0 : Tree) (l4v1 : (List (List UInt8))) (i4v2 : Nat) (l4v3 : (List Tree)) (r0 : Tree) (h : ((i4v2 < l4v1.length) → ∃ (s4_1 : (List UInt8)), l4v1[i4v2]? = some s4_1 ∧ L3_semvcsref04_arrange m p0 (l4v1.set i4v2 []) (i4v2 + 1) l4v3 r0) ∧ ((¬ i4v2 < l4v1.length) → (Tree.node p0.kind p0.text l4v1 l4v3) = r0)) : L3_semvcsref04_arrange (m + 1) p0 l4v1 i4v2 l4v3 r0 := by
  intro K j1 hK hj1
  obtain ⟨j1, rfl⟩ : ∃ j, j1 = j + 1 := ⟨j1 - 1, by omega⟩
  refine gR 7 rfl ?_
  refine gV 77 (.int .i64 ((l4v1.length : Nat) : Int)) rfl (lenI (lenM V.str _)) rfl ?_
  refine gLO 3 rfl (lenM V.str _) fun hl37 => ?_
  refine gR 3 rfl ?_
  refine gB 78 rfl rfl rfl (fun hd => ?_) (fun hd => ?_)
  · replace hd := (natT hd)
    replace h := h.1 hd
    refine gR 9 rfl ?_
    obtain ⟨s4_1, hxs4_1, h⟩ := h
    refine gY (yIO tabS_ok rfl rfl rfl rfl (by have := (mapget (f := V.str) hxs4_1); exact (List.getElem?_eq_some_iff.1 this).1)) rfl rfl ?_
    refine gDo (.set 3 (.row 9 1 (List.map V.str (l4v1.set i4v2 [])))) (dSe tabS_ok rfl rfl rfl rfl (mapget (f := V.str) hxs4_1) rfl (setM V.str l4v1 i4v2 [])) (okS rfl) rfl rfl rfl ?_
    refine gR 6 rfl ?_
    refine gV 80 (.int .i64 ((i4v2 + 1 : Nat) : Int)) rfl (wrapI (by have := hl37; omega) (by omega)) rfl ?_
    refine gR 2 rfl ?_
    refine go_xloop ?_
    exact gJ (h K _ hK (by omega)) [0, 1, 2, 3] [] rfl hK ⟨⟨_, rfl, .rfl⟩, ⟨_, rfl, .rfl⟩, ⟨_, rfl, .rfl⟩, ⟨_, rfl, .rfl⟩, trivial⟩ ⟨⟨_, rfl, ⟨rfl, rfl, (renM _ V.str (fun _ => rfl) (l4v1.set i4v2 [])).symm⟩⟩, ⟨⟨_, rfl, ⟨rfl, rfl, (renK _ l4v3).symm⟩⟩, ⟨⟨_, rfl, ⟨rfl, SubL.rfl⟩⟩, ⟨⟨_, rfl, ⟨rfl, SubL.rfl⟩⟩, trivial⟩⟩⟩⟩ rfl
  · replace hd := (natF hd)
    replace h := h.2 hd
    refine gR 3 rfl ?_
    refine go_xloopE ?_
    refine gR 17 rfl ?_
    refine gFR 3 rfl (pureM _ (fun _ => rfl) _) rfl rfl ?_
    refine gFR 2 rfl (pureK _) rfl rfl ?_
    subst h
    refine go_sub (F' := (mkF 109 0 [(4, .ptr 0 0)])) (H' := ⟨1, [(0, .var 32 [.int .i64 ((Tree.node p0.kind p0.text l4v1 l4v3).kind), .str ((Tree.node p0.kind p0.text l4v1 l4v3).text), .row 1 (List.map V.str ((Tree.node p0.kind p0.text l4v1 l4v3).leads)), .row 4 (kidsV ((Tree.node p0.kind p0.text l4v1 l4v3).kids))])]⟩) [0] [] rfl hK ⟨⟨_, rfl, .rfl⟩, trivial⟩ ⟨⟨_, rfl, ⟨rfl, SubL.rfl⟩⟩, trivial⟩ rfl ?_
    exact go_end tabS_ok (rs := [.cell 4 32]) rfl rfl rfl
theorem rL4_semvcsref04_arrange (m : Nat) (p0 : Tree) (l5v1 : (List (List UInt8))) (i5v2 : Nat) (l5v3 : (List Tree)) (r0 : Tree) (h : ((i5v2 < l5v1.length) → ∃ (s5_1 : (List UInt8)), l5v1[i5v2]? = some s5_1 ∧ L4_semvcsref04_arrange m p0 (l5v1.set i5v2 []) (i5v2 + 1) l5v3 r0) ∧ ((¬ i5v2 < l5v1.length) → (Tree.node p0.kind p0.text l5v1 l5v3) = r0)) : L4_semvcsref04_arrange (m + 1) p0 l5v1 i5v2 l5v3 r0 := by
  intro K j1 hK hj1
  obtain ⟨j1, rfl⟩ : ∃ j, j1 = j + 1 := ⟨j1 - 1, by omega⟩
  refine gR 7 rfl ?_
  refine gV 98 (.int .i64 ((l5v1.length : Nat) : Int)) rfl (lenI (lenM V.str _)) rfl ?_
  refine gLO 3 rfl (lenM V.str _) fun hl38 => ?_
  refine gR 3 rfl ?_
  refine gB 99 rfl rfl rfl (fun hd => ?_) (fun hd => ?_)
  · replace hd := (natT hd)
    replace h := h.1 hd
    refine gR 9 rfl ?_
    obtain ⟨s5_1, hxs5_1, h⟩ := h
    refine gY (yIO tabS_ok rfl rfl rfl rfl (by have := (mapget (f := V.str) hxs5_1); exact (List.getElem?_eq_some_iff.1 this).1)) rfl rfl ?_
    refine gDo (.set 3 (.row 9 1 (List.map V.str (l5v1.set i5v2 [])))) (dSe tabS_ok rfl rfl rfl rfl (mapget (f := V.str) hxs5_1) rfl (setM V.str l5v1 i5v2 [])) (okS rfl) rfl rfl rfl ?_
    refine gR 6 rfl ?_
    refine gV 101 (.int .i64 ((i5v2 + 1 : Nat) : Int)) rfl (wrapI (by have := hl38; omega) (by omega)) rfl ?_
    refine gR 2 rfl ?_
    refine go_xloop ?_
    exact gJ (h K _ hK (by omega)) [0, 1, 2, 3] [] rfl hK ⟨⟨_, rfl, .rfl⟩, ⟨_, rfl, .rfl⟩, ⟨_, rfl, .rfl⟩, ⟨_, rfl, .rfl⟩, trivial⟩ ⟨⟨_, rfl, ⟨rfl, rfl, (renM _ V.str (fun _ => rfl) (l5v1.set i5v2 [])).symm⟩⟩, ⟨⟨_, rfl, ⟨rfl, rfl, (renK _ l5v3).symm⟩⟩, ⟨⟨_, rfl, ⟨rfl, SubL.rfl⟩⟩, ⟨⟨_, rfl, ⟨rfl, SubL.rfl⟩⟩, trivial⟩⟩⟩⟩ rfl
  · replace hd := (natF hd)
    replace h := h.2 hd
    refine gR 3 rfl ?_
    refine go_xloopE ?_
    refine gR 17 rfl ?_
    refine gFR 3 rfl (pureM _ (fun _ => rfl) _) rfl rfl ?_
    refine gFR 2 rfl (pureK _) rfl rfl ?_
    subst h
    refine go_sub (F' := (mkF 109 0 [(4, .ptr 0 0)])) (H' := ⟨1, [(0, .var 32 [.int .i64 ((Tree.node p0.kind p0.text l5v1 l5v3).kind), .str ((Tree.node p0.kind p0.text l5v1 l5v3).text), .row 1 (List.map V.str ((Tree.node p0.kind p0.text l5v1 l5v3).leads)), .row 4 (kidsV ((Tree.node p0.kind p0.text l5v1 l5v3).kids))])]⟩) [0] [] rfl hK ⟨⟨_, rfl, .rfl⟩, trivial⟩ ⟨⟨_, rfl, ⟨rfl, SubL.rfl⟩⟩, trivial⟩ rfl ?_
    exact go_end tabS_ok (rs := [.cell 4 32]) rfl rfl rfl
theorem rS_semvcsref04_Arrange (m : Nat) (p0 : Tree) (r0 : Tree) (h : ∃ (b0_1 : Bool), S_semvcsref02_Shaped p0 b0_1 ∧ ((b0_1 = false) → (Tree.node 0 [] [] []) = r0) ∧ ((b0_1 = true) → ∃ (t0_2 : Tree), S_semvcsref04_arrange p0 [] t0_2 ∧ t0_2 = r0)) : S_semvcsref04_Arrange p0 r0 := by
  refine ⟨rfl, rfl, ?_⟩
  refine sum_enter 9 [] Tryz.func63 rfl rfl rfl (pv_of rfl) fun K hK => ?_
  refine gR 3 rfl ?_
  refine gFP 0 rfl rfl rfl rfl ?_
  refine gR 7 rfl ?_
  obtain ⟨b0_1, hs3, h⟩ := h
  refine gC0 hs3 (by kernel_rfl) rfl rfl .rfl rfl ?_
  refine gR 3 rfl ?_
  refine gB 5 rfl rfl rfl (fun hd => ?_) (fun hd => ?_)
  · replace hd := (not_t hd)
    replace h := h.1 hd
    refine gR 9 rfl ?_
    subst h
    refine go_sub (F' := (mkF 9 0 [(2, .ptr 0 0)])) (H' := ⟨1, [(0, .var 32 [.int .i64 ((Tree.node 0 [] [] []).kind), .str ((Tree.node 0 [] [] []).text), .row 1 (List.map V.str ((Tree.node 0 [] [] []).leads)), .row 4 (kidsV ((Tree.node 0 [] [] []).kids))])]⟩) [1] [] rfl hK ⟨⟨_, rfl, .rfl⟩, trivial⟩ ⟨⟨_, rfl, ⟨rfl, (.cons .rfl (.cons .rfl (.cons (.nil 1) (.cons (.nil 4) .nil))))⟩⟩, trivial⟩ rfl ?_
    exact go_end tabS_ok (rs := [.cell 2 32]) rfl rfl rfl
  · replace hd := (not_f hd)
    replace h := h.2 hd
    refine gR 6 rfl ?_
    obtain ⟨t0_2, hs4, h⟩ := h
    refine gC0 hs4 (by kernel_rfl) rfl rfl .rfl rfl ?_
    refine gR 4 rfl ?_
    subst h
    refine go_sub (F' := (mkF 9 0 [(2, .ptr 0 0)])) (H' := ⟨1, [(0, .var 32 [.int .i64 t0_2.kind, .str t0_2.text, .row 1 (List.map V.str t0_2.leads), .row 4 (kidsV t0_2.kids)])]⟩) [1] [] rfl hK ⟨⟨_, rfl, .rfl⟩, trivial⟩ ⟨⟨_, rfl, ⟨rfl, SubL.rfl⟩⟩, trivial⟩ rfl ?_
    exact go_end tabS_ok (rs := [.cell 2 32]) rfl rfl rfl
theorem rS_semvcsref02_Valid (m : Nat) (p0 : Tree) (r0 : Bool) (h : ∃ (b0_1 : Bool), S_semvcsref02_Printable p0 b0_1 ∧ ((b0_1 = true) → ∃ (b0_2 : Bool), S_semvcsref02_limits p0 b0_2 ∧ ((b0_2 = true) → ∃ (n0_3 : Int), S_semvcsref02_Depth p0 n0_3 ∧ ((n0_3 ≤ 40) → ∃ (s0_4 : (List UInt8)), S_semvcsref02_Print p0 s0_4 ∧ decide (((s0_4.length : Nat) : Int) ≤ 4096) = r0) ∧ ((¬ n0_3 ≤ 40) → false = r0)) ∧ ((b0_2 = false) → false = r0)) ∧ ((b0_1 = false) → false = r0)) : S_semvcsref02_Valid p0 r0 := by
  refine ⟨rfl, rfl, ?_⟩
  refine sum_enter 20 [] Tryz.func40 rfl rfl rfl (pv_of rfl) fun K hK => ?_
  refine gR 3 rfl ?_
  refine gFP 0 rfl rfl rfl rfl ?_
  refine gR 6 rfl ?_
  obtain ⟨b0_1, hs5, h⟩ := h
  refine gC0 hs5 (by kernel_rfl) rfl rfl .rfl rfl ?_
  refine gR 1 rfl ?_
  refine gB 5 rfl rfl rfl (fun hd => ?_) (fun hd => ?_)
  · refine gT 4 rfl hd rfl ?_
    skip
    replace h := h.1 hd
    refine gR 1 rfl ?_
    obtain ⟨b0_2, hs6, h⟩ := h
    refine gC0 hs6 (by kernel_rfl) rfl rfl .rfl rfl ?_
    refine gR 2 rfl ?_
    refine gB 9 rfl rfl rfl (fun hd => ?_) (fun hd => ?_)
    · refine gT 8 rfl hd rfl ?_
      skip
      replace h := h.1 hd
      refine gR 1 rfl ?_
      obtain ⟨n0_3, hs7, h⟩ := h
      refine gC0 hs7 (by kernel_rfl) rfl rfl .rfl rfl ?_
      refine gR 3 rfl ?_
      refine gB 14 rfl rfl rfl (fun hd => ?_) (fun hd => ?_)
      · refine gT 13 rfl hd rfl ?_
        replace hd := (of_decide_eq_true hd)
        replace h := h.1 hd
        refine gR 1 rfl ?_
        obtain ⟨s0_4, hs8, h⟩ := h
        refine gC0 hs8 (by kernel_rfl) rfl rfl .rfl rfl ?_
        refine gR 7 rfl ?_
        subst h
        refine go_sub (F' := (mkF 20 0 [(2, .bool (decide (((s0_4.length : Nat) : Int) ≤ 4096)))])) (H' := ⟨0, []⟩) [] [] rfl hK ⟨⟨_, rfl, .rfl⟩, trivial⟩ trivial rfl ?_
        exact go_end tabS_ok (rs := [.tmp 2]) rfl rfl rfl
      · refine gF 13 rfl hd rfl ?_
        replace hd := (of_decide_eq_false hd)
        replace h := h.2 hd
        refine gR 9 rfl ?_
        subst h
        refine go_sub (F' := (mkF 20 0 [(2, .bool false)])) (H' := ⟨0, []⟩) [] [] rfl hK ⟨⟨_, rfl, .rfl⟩, trivial⟩ trivial rfl ?_
        exact go_end tabS_ok (rs := [.tmp 2]) rfl rfl rfl
    · refine gF 8 rfl hd rfl ?_
      skip
      replace h := h.2 hd
      refine gR 14 rfl ?_
      subst h
      refine go_sub (F' := (mkF 20 0 [(2, .bool false)])) (H' := ⟨0, []⟩) [] [] rfl hK ⟨⟨_, rfl, .rfl⟩, trivial⟩ trivial rfl ?_
      exact go_end tabS_ok (rs := [.tmp 2]) rfl rfl rfl
  · refine gF 4 rfl hd rfl ?_
    skip
    replace h := h.2 hd
    refine gR 18 rfl ?_
    subst h
    refine go_sub (F' := (mkF 20 0 [(2, .bool false)])) (H' := ⟨0, []⟩) [] [] rfl hK ⟨⟨_, rfl, .rfl⟩, trivial⟩ trivial rfl ?_
    exact go_end tabS_ok (rs := [.tmp 2]) rfl rfl rfl
theorem rS_semvcsref02_Printable (m : Nat) (p0 : Tree) (r0 : Bool) (h : ∃ (b0_1 : Bool), S_semvcsref02_Shaped p0 b0_1 ∧ ((b0_1 = true) → ∃ (b0_2 : Bool), S_semvcsref02_leads p0 b0_2 ∧ b0_2 = r0) ∧ ((b0_1 = false) → false = r0)) : S_semvcsref02_Printable p0 r0 := by
  refine ⟨rfl, rfl, ?_⟩
  refine sum_enter 9 [] Tryz.func65 rfl rfl rfl (pv_of rfl) fun K hK => ?_
  refine gR 3 rfl ?_
  refine gFP 0 rfl rfl rfl rfl ?_
  refine gR 6 rfl ?_
  obtain ⟨b0_1, hs3, h⟩ := h
  refine gC0 hs3 (by kernel_rfl) rfl rfl .rfl rfl ?_
  refine gR 1 rfl ?_
  refine gB 5 rfl rfl rfl (fun hd => ?_) (fun hd => ?_)
  · refine gT 4 rfl hd rfl ?_
    skip
    replace h := h.1 hd
    refine gR 1 rfl ?_
    obtain ⟨b0_2, hs4, h⟩ := h
    refine gC0 hs4 (by kernel_rfl) rfl rfl .rfl rfl ?_
    refine gR 5 rfl ?_
    subst h
    refine go_sub (F' := (mkF 9 0 [(2, .bool b0_2)])) (H' := ⟨0, []⟩) [] [] rfl hK ⟨⟨_, rfl, .rfl⟩, trivial⟩ trivial rfl ?_
    exact go_end tabS_ok (rs := [.tmp 2]) rfl rfl rfl
  · refine gF 4 rfl hd rfl ?_
    skip
    replace h := h.2 hd
    refine gR 7 rfl ?_
    subst h
    refine go_sub (F' := (mkF 9 0 [(2, .bool false)])) (H' := ⟨0, []⟩) [] [] rfl hK ⟨⟨_, rfl, .rfl⟩, trivial⟩ trivial rfl ?_
    exact go_end tabS_ok (rs := [.tmp 2]) rfl rfl rfl
def L0_semvcsref02_leads (m : Nat) (p0 : Tree) (i1v1 : Nat) (r0 : Bool) : Prop := ∀ (K : Ctx) (j1 : Nat), PinB K [] → m ≤ j1 → Go Tryz.prog K (bodyPost Tryz.prog Tryz.f94 (SP K (fun u _ => u = .bool r0))) (.code (cL (cK (cB (cA (cB (cB (bodyC Tryz.f94)))))))) [.loop (cL (cK (cB (cA (cB (cB (bodyC Tryz.f94))))))) j1, .blk 0, .seq (cB (cB (cB (bodyC Tryz.f94))))] 50 (mkF 50 0 [(1, .box (treeC p0) 0), (3, .int .i64 ((i1v1 : Nat) : Int))]) ⟨0, []⟩
def L1_semvcsref02_leads (m : Nat) (p0 : Tree) (i2v1 : Nat) (r0 : Bool) : Prop := ∀ (K : Ctx) (j1 : Nat), PinB K [] → m ≤ j1 → Go Tryz.prog K (bodyPost Tryz.prog Tryz.f94 (SP K (fun u _ => u = .bool r0))) (.code (cL (cK (cB (cA (cB (cB (cB (bodyC Tryz.f94))))))))) [.loop (cL (cK (cB (cA (cB (cB (cB (bodyC Tryz.f94)))))))) j1, .blk 2, .seq (cB (cB (cB (cB (bodyC Tryz.f94)))))] 50 (mkF 50 0 [(1, .box (treeC p0) 0), (4, .int .i64 ((i2v1 : Nat) : Int))]) ⟨0, []⟩
theorem rS_semvcsref02_leads (m : Nat) (p0 : Tree) (r0 : Bool) (h : ∃ (n0_1 : Int), S_semvcsref02_Leads p0.kind ((p0.kids.length : Nat) : Int) n0_1 ∧ ((((p0.leads.length : Nat) : Int) ≠ n0_1) → false = r0) ∧ ((((p0.leads.length : Nat) : Int) = n0_1) → L0_semvcsref02_leads m p0 0 r0)) : S_semvcsref02_leads p0 r0 := by
  refine ⟨rfl, rfl, ?_⟩
  refine sum_enter 50 [] Tryz.func94 rfl rfl rfl (pv_of rfl) fun K hK => ?_
  refine gR 3 rfl ?_
  refine gFP 0 rfl rfl rfl rfl ?_
  refine gR 5 rfl ?_
  refine gDs [] 10 10 rfl (by kernel_rfl) (by kernel_rfl) ?_
  refine gDr [(0, 2), (1, 2), (2, 2)] (by kernel_rfl) rfl rfl ?_
  refine gV 7 (.int .i64 ((p0.leads.length : Nat) : Int)) rfl (lenI (lenM V.str _)) rfl ?_
  refine gLB 6 rfl (lenM V.str _) fun hl35 => ?_
  refine gDr [(3, 2), (4, 2), (5, 0), (6, 0), (7, 0)] (by kernel_rfl) rfl rfl ?_
  refine gV 12 (.int .i64 ((p0.kids.length : Nat) : Int)) rfl (lenI (lenK _)) rfl ?_
  refine gLB 11 rfl (lenK _) fun hl36 => ?_
  obtain ⟨n0_1, hs37, h⟩ := h
  refine gDC0 8 hs37 (by kernel_rfl) rfl (by kernel_rfl) rfl rfl .rfl rfl rfl ?_
  refine gDr [(9, 0)] (by kernel_rfl) rfl rfl ?_
  refine gDe (by kernel_rfl) ?_
  refine gR 1 rfl ?_
  refine gB 14 rfl rfl rfl (fun hd => ?_) (fun hd => ?_)
  · replace hd := (xneT hd)
    replace h := h.1 hd
    refine gR 8 rfl ?_
    subst h
    refine go_sub (F' := (mkF 50 0 [(2, .bool false)])) (H' := ⟨0, []⟩) [] [] rfl hK ⟨⟨_, rfl, .rfl⟩, trivial⟩ trivial rfl ?_
    exact go_end tabS_ok (rs := [.tmp 2]) rfl rfl rfl
  · replace hd := (bneFE hd)
    replace h := h.2 hd
    refine gR 10 rfl ?_
    refine go_loop m ?_
    exact gJ (h K _ hK (by omega)) [] [] rfl hK ⟨⟨_, rfl, .rfl⟩, ⟨_, rfl, .rfl⟩, trivial⟩ trivial rfl
theorem rL0_semvcsref02_leads (m : Nat) (p0 : Tree) (i1v1 : Nat) (r0 : Bool) (h : ((i1v1 < p0.leads.length) → ∃ (s1_1 : (List UInt8)), p0.leads[i1v1]? = some s1_1 ∧ ((p0.kind = 1) → ∃ (b1_2 : Bool), S_semvcsref01_Trivia s1_1 (((i1v1 : Nat) : Int) == 2) b1_2 ∧ ((b1_2 = false) → false = r0) ∧ ((b1_2 = true) → L0_semvcsref02_leads m p0 (i1v1 + 1) r0)) ∧ ((p0.kind ≠ 1) → ∃ (b1_3 : Bool), S_semvcsref01_Trivia s1_1 false b1_3 ∧ ((b1_3 = false) → false = r0) ∧ ((b1_3 = true) → L0_semvcsref02_leads m p0 (i1v1 + 1) r0))) ∧ ((¬ i1v1 < p0.leads.length) → L1_semvcsref02_leads m p0 0 r0)) : L0_semvcsref02_leads (m + 1) p0 i1v1 r0 := by
  intro K j1 hK hj1
  obtain ⟨j1, rfl⟩ : ∃ j, j1 = j + 1 := ⟨j1 - 1, by omega⟩
  refine gR 7 rfl ?_
  refine gV 18 (.int .i64 ((p0.leads.length : Nat) : Int)) rfl (lenI (lenM V.str _)) rfl ?_
  refine gLB 17 rfl (lenM V.str _) fun hl38 => ?_
  refine gR 3 rfl ?_
  refine gB 19 rfl rfl rfl (fun hd => ?_) (fun hd => ?_)
  · replace hd := (natT hd)
    replace h := h.1 hd
    refine gR 6 rfl ?_
    refine gDs [] 14 14 rfl (by kernel_rfl) (by kernel_rfl) ?_
    refine gDr [(0, 2), (1, 2), (2, 2)] (by kernel_rfl) rfl rfl ?_
    obtain ⟨s1_1, hxs1_1, h⟩ := h
    refine gYd 3 rfl (by kernel_rfl) (yIR' (mapget (f := V.str) hxs1_1) tabS_ok rfl rfl rfl rfl) rfl rfl ?_
    refine gDr [(4, 2), (5, 0), (6, 0), (7, 0), (8, 0)] (by kernel_rfl) rfl rfl ?_
    refine gB 30 rfl rfl rfl (fun hd => ?_) (fun hd => ?_)
    · refine gT 29 rfl hd rfl ?_
      replace hd := (eq_of_beq hd)
      replace h := h.1 hd
      refine gDr [(9, 0), (10, 0), (11, 0)] (by kernel_rfl) rfl rfl ?_
      obtain ⟨b1_2, hs39, h⟩ := h
      refine gDC0 12 hs39 (by kernel_rfl) rfl (by kernel_rfl) rfl rfl .rfl rfl rfl ?_
      refine gDr [(13, 0)] (by kernel_rfl) rfl rfl ?_
      refine gDe (by kernel_rfl) ?_
      refine gR 1 rfl ?_
      refine gB 35 rfl rfl rfl (fun hd => ?_) (fun hd => ?_)
      · replace hd := (not_t hd)
        replace h := h.1 hd
        refine gR 9 rfl ?_
        refine go_xloopR ?_
        refine gR 2 rfl ?_
        subst h
        refine go_sub (F' := (mkF 50 0 [(2, .bool false)])) (H' := ⟨0, []⟩) [] [] rfl hK ⟨⟨_, rfl, .rfl⟩, trivial⟩ trivial rfl ?_
        exact go_end tabS_ok (rs := [.tmp 2]) rfl rfl rfl
      · replace hd := (not_f hd)
        replace h := h.2 hd
        refine gR 7 rfl ?_
        refine gV 21 (.int .i64 ((i1v1 + 1 : Nat) : Int)) rfl (wrapI (by have := hl38; omega) (by omega)) rfl ?_
        refine gR 2 rfl ?_
        refine go_xloop ?_
        exact gJ (h K _ hK (by omega)) [] [] rfl hK ⟨⟨_, rfl, .rfl⟩, ⟨_, rfl, .rfl⟩, trivial⟩ trivial rfl
    · refine gF 29 rfl hd rfl ?_
      replace hd := (ne_of_beq_false hd)
      replace h := h.2 hd
      refine gDr [(9, 0), (10, 0), (11, 0)] (by kernel_rfl) rfl rfl ?_
      obtain ⟨b1_3, hs40, h⟩ := h
      refine gDC0 12 hs40 (by kernel_rfl) rfl (by kernel_rfl) rfl rfl .rfl rfl rfl ?_
      refine gDr [(13, 0)] (by kernel_rfl) rfl rfl ?_
      refine gDe (by kernel_rfl) ?_
      refine gR 1 rfl ?_
      refine gB 35 rfl rfl rfl (fun hd => ?_) (fun hd => ?_)
      · replace hd := (not_t hd)
        replace h := h.1 hd
        refine gR 9 rfl ?_
        refine go_xloopR ?_
        refine gR 2 rfl ?_
        subst h
        refine go_sub (F' := (mkF 50 0 [(2, .bool false)])) (H' := ⟨0, []⟩) [] [] rfl hK ⟨⟨_, rfl, .rfl⟩, trivial⟩ trivial rfl ?_
        exact go_end tabS_ok (rs := [.tmp 2]) rfl rfl rfl
      · replace hd := (not_f hd)
        replace h := h.2 hd
        refine gR 7 rfl ?_
        refine gV 21 (.int .i64 ((i1v1 + 1 : Nat) : Int)) rfl (wrapI (by have := hl38; omega) (by omega)) rfl ?_
        refine gR 2 rfl ?_
        refine go_xloop ?_
        exact gJ (h K _ hK (by omega)) [] [] rfl hK ⟨⟨_, rfl, .rfl⟩, ⟨_, rfl, .rfl⟩, trivial⟩ trivial rfl
  · replace hd := (natF hd)
    replace h := h.2 hd
    refine gR 3 rfl ?_
    refine go_xloopE ?_
    refine gR 9 rfl ?_
    refine go_loop m ?_
    exact gJ (h K _ hK (by omega)) [] [] rfl hK ⟨⟨_, rfl, .rfl⟩, ⟨_, rfl, .rfl⟩, trivial⟩ trivial rfl
theorem rL1_semvcsref02_leads (m : Nat) (p0 : Tree) (i2v1 : Nat) (r0 : Bool) (h : ((i2v1 < p0.kids.length) → ∃ (t2_1 : Tree), p0.kids[i2v1]? = some t2_1 ∧ ∃ (b2_2 : Bool), S_semvcsref02_leads t2_1 b2_2 ∧ ((b2_2 = false) → false = r0) ∧ ((b2_2 = true) → L1_semvcsref02_leads m p0 (i2v1 + 1) r0)) ∧ ((¬ i2v1 < p0.kids.length) → true = r0)) : L1_semvcsref02_leads (m + 1) p0 i2v1 r0 := by
  intro K j1 hK hj1
  obtain ⟨j1, rfl⟩ : ∃ j, j1 = j + 1 := ⟨j1 - 1, by omega⟩
  refine gR 7 rfl ?_
  refine gV 39 (.int .i64 ((p0.kids.length : Nat) : Int)) rfl (lenI (lenK _)) rfl ?_
  refine gLB 38 rfl (lenK _) fun hl41 => ?_
  refine gR 3 rfl ?_
  refine gB 40 rfl rfl rfl (fun hd => ?_) (fun hd => ?_)
  · replace hd := (natT hd)
    replace h := h.1 hd
    refine gR 10 rfl ?_
    obtain ⟨t2_1, hxt2_1, h⟩ := h
    refine gY (yIR' (kidsV_get hxt2_1) tabS_ok rfl rfl rfl rfl) rfl rfl ?_
    refine gR 1 rfl ?_
    obtain ⟨b2_2, hs42, h⟩ := h
    refine gC0 hs42 (by kernel_rfl) rfl rfl .rfl rfl ?_
    refine gR 3 rfl ?_
    refine gB 49 rfl rfl rfl (fun hd => ?_) (fun hd => ?_)
    · replace hd := (not_t hd)
      replace h := h.1 hd
      refine gR 9 rfl ?_
      refine go_xloopR ?_
      refine gR 2 rfl ?_
      subst h
      refine go_sub (F' := (mkF 50 0 [(2, .bool false)])) (H' := ⟨0, []⟩) [] [] rfl hK ⟨⟨_, rfl, .rfl⟩, trivial⟩ trivial rfl ?_
      exact go_end tabS_ok (rs := [.tmp 2]) rfl rfl rfl
    · replace hd := (not_f hd)
      replace h := h.2 hd
      refine gR 7 rfl ?_
      refine gV 42 (.int .i64 ((i2v1 + 1 : Nat) : Int)) rfl (wrapI (by have := hl41; omega) (by omega)) rfl ?_
      refine gR 2 rfl ?_
      refine go_xloop ?_
      exact gJ (h K _ hK (by omega)) [] [] rfl hK ⟨⟨_, rfl, .rfl⟩, ⟨_, rfl, .rfl⟩, trivial⟩ trivial rfl
  · replace hd := (natF hd)
    replace h := h.2 hd
    refine gR 3 rfl ?_
    refine go_xloopE ?_
    refine gR 8 rfl ?_
    subst h
    refine go_sub (F' := (mkF 50 0 [(2, .bool true)])) (H' := ⟨0, []⟩) [] [] rfl hK ⟨⟨_, rfl, .rfl⟩, trivial⟩ trivial rfl ?_
    exact go_end tabS_ok (rs := [.tmp 2]) rfl rfl rfl
def L0_semvcsref02_limits (m : Nat) (p0 : Tree) (i1v1 : Nat) (r0 : Bool) : Prop := ∀ (K : Ctx) (j1 : Nat), PinB K [] → m ≤ j1 → Go Tryz.prog K (bodyPost Tryz.prog Tryz.f66 (SP K (fun u _ => u = .bool r0))) (.code (cL (cK (cB (cA (cB (cB (cB (bodyC Tryz.f66))))))))) [.loop (cL (cK (cB (cA (cB (cB (cB (bodyC Tryz.f66)))))))) j1, .blk 0, .seq (cB (cB (cB (cB (bodyC Tryz.f66)))))] 54 (mkF 54 0 [(1, .box (treeC p0) 0), (3, .int .i64 ((p0.kids.length : Nat) : Int)), (4, .int .i64 ((i1v1 : Nat) : Int))]) ⟨0, []⟩
theorem rS_semvcsref02_limits (m : Nat) (p0 : Tree) (r0 : Bool) (h : ((p0.kind = 1) → ((40 < ((p0.kids.length : Nat) : Int)) → false = r0) ∧ ((¬ 40 < ((p0.kids.length : Nat) : Int)) → ((p0.kind = 2) → ((10 < ((p0.kids.length : Nat) : Int)) → false = r0) ∧ ((¬ 10 < ((p0.kids.length : Nat) : Int)) → ((p0.kind = 16) → ((8 < ((p0.kids.length : Nat) : Int)) → false = r0) ∧ ((¬ 8 < ((p0.kids.length : Nat) : Int)) → ((p0.kind = 18) → ((16 < ((p0.kids.length : Nat) : Int)) → false = r0) ∧ ((¬ 16 < ((p0.kids.length : Nat) : Int)) → L0_semvcsref02_limits m p0 0 r0)) ∧ ((p0.kind ≠ 18) → L0_semvcsref02_limits m p0 0 r0))) ∧ ((p0.kind ≠ 16) → ((p0.kind = 18) → ((16 < ((p0.kids.length : Nat) : Int)) → false = r0) ∧ ((¬ 16 < ((p0.kids.length : Nat) : Int)) → L0_semvcsref02_limits m p0 0 r0)) ∧ ((p0.kind ≠ 18) → L0_semvcsref02_limits m p0 0 r0)))) ∧ ((p0.kind ≠ 2) → ((p0.kind = 16) → ((8 < ((p0.kids.length : Nat) : Int)) → false = r0) ∧ ((¬ 8 < ((p0.kids.length : Nat) : Int)) → ((p0.kind = 18) → ((16 < ((p0.kids.length : Nat) : Int)) → false = r0) ∧ ((¬ 16 < ((p0.kids.length : Nat) : Int)) → L0_semvcsref02_limits m p0 0 r0)) ∧ ((p0.kind ≠ 18) → L0_semvcsref02_limits m p0 0 r0))) ∧ ((p0.kind ≠ 16) → ((p0.kind = 18) → ((16 < ((p0.kids.length : Nat) : Int)) → false = r0) ∧ ((¬ 16 < ((p0.kids.length : Nat) : Int)) → L0_semvcsref02_limits m p0 0 r0)) ∧ ((p0.kind ≠ 18) → L0_semvcsref02_limits m p0 0 r0))))) ∧ ((p0.kind ≠ 1) → ((p0.kind = 2) → ((10 < ((p0.kids.length : Nat) : Int)) → false = r0) ∧ ((¬ 10 < ((p0.kids.length : Nat) : Int)) → ((p0.kind = 16) → ((8 < ((p0.kids.length : Nat) : Int)) → false = r0) ∧ ((¬ 8 < ((p0.kids.length : Nat) : Int)) → ((p0.kind = 18) → ((16 < ((p0.kids.length : Nat) : Int)) → false = r0) ∧ ((¬ 16 < ((p0.kids.length : Nat) : Int)) → L0_semvcsref02_limits m p0 0 r0)) ∧ ((p0.kind ≠ 18) → L0_semvcsref02_limits m p0 0 r0))) ∧ ((p0.kind ≠ 16) → ((p0.kind = 18) → ((16 < ((p0.kids.length : Nat) : Int)) → false = r0) ∧ ((¬ 16 < ((p0.kids.length : Nat) : Int)) → L0_semvcsref02_limits m p0 0 r0)) ∧ ((p0.kind ≠ 18) → L0_semvcsref02_limits m p0 0 r0)))) ∧ ((p0.kind ≠ 2) → ((p0.kind = 16) → ((8 < ((p0.kids.length : Nat) : Int)) → false = r0) ∧ ((¬ 8 < ((p0.kids.length : Nat) : Int)) → ((p0.kind = 18) → ((16 < ((p0.kids.length : Nat) : Int)) → false = r0) ∧ ((¬ 16 < ((p0.kids.length : Nat) : Int)) → L0_semvcsref02_limits m p0 0 r0)) ∧ ((p0.kind ≠ 18) → L0_semvcsref02_limits m p0 0 r0))) ∧ ((p0.kind ≠ 16) → ((p0.kind = 18) → ((16 < ((p0.kids.length : Nat) : Int)) → false = r0) ∧ ((¬ 16 < ((p0.kids.length : Nat) : Int)) → L0_semvcsref02_limits m p0 0 r0)) ∧ ((p0.kind ≠ 18) → L0_semvcsref02_limits m p0 0 r0))))) : S_semvcsref02_limits p0 r0 := by
  refine ⟨rfl, rfl, ?_⟩
  refine sum_enter 54 [] Tryz.func66 rfl rfl rfl (pv_of rfl) fun K hK => ?_
  refine gR 3 rfl ?_
  refine gFP 0 rfl rfl rfl rfl ?_
  refine gR 8 rfl ?_
  refine gV 7 (.int .i64 ((p0.kids.length : Nat) : Int)) rfl (lenI (lenK _)) rfl ?_
  refine gLB 6 rfl (lenK _) fun hl5 => ?_
  refine gR 10 rfl ?_
  refine gB 11 rfl rfl rfl (fun hd => ?_) (fun hd => ?_)
  · refine gT 10 rfl hd rfl ?_
    replace hd := (eq_of_beq hd)
    replace h := h.1 hd
    refine gR 4 rfl ?_
    refine gB 15 rfl rfl rfl (fun hd => ?_) (fun hd => ?_)
    · refine gT 14 rfl hd rfl ?_
      replace hd := (of_decide_eq_true hd)
      replace h := h.1 hd
      refine gR 36 rfl ?_
      subst h
      refine go_sub (F' := (mkF 54 0 [(2, .bool false)])) (H' := ⟨0, []⟩) [] [] rfl hK ⟨⟨_, rfl, .rfl⟩, trivial⟩ trivial rfl ?_
      exact go_end tabS_ok (rs := [.tmp 2]) rfl rfl rfl
    · refine gF 14 rfl hd rfl ?_
      replace hd := (of_decide_eq_false hd)
      replace h := h.2 hd
      refine gR 4 rfl ?_
      refine gB 19 rfl rfl rfl (fun hd => ?_) (fun hd => ?_)
      · refine gT 18 rfl hd rfl ?_
        replace hd := (eq_of_beq hd)
        replace h := h.1 hd
        refine gR 5 rfl ?_
        refine gB 24 rfl rfl rfl (fun hd => ?_) (fun hd => ?_)
        · refine gT 23 rfl hd rfl ?_
          replace hd := (of_decide_eq_true hd)
          replace h := h.1 hd
          refine gR 27 rfl ?_
          subst h
          refine go_sub (F' := (mkF 54 0 [(2, .bool false)])) (H' := ⟨0, []⟩) [] [] rfl hK ⟨⟨_, rfl, .rfl⟩, trivial⟩ trivial rfl ?_
          exact go_end tabS_ok (rs := [.tmp 2]) rfl rfl rfl
        · refine gF 23 rfl hd rfl ?_
          replace hd := (of_decide_eq_false hd)
          replace h := h.2 hd
          refine gR 4 rfl ?_
          refine gB 28 rfl rfl rfl (fun hd => ?_) (fun hd => ?_)
          · refine gT 27 rfl hd rfl ?_
            replace hd := (eq_of_beq hd)
            replace h := h.1 hd
            refine gR 5 rfl ?_
            refine gB 33 rfl rfl rfl (fun hd => ?_) (fun hd => ?_)
            · refine gT 32 rfl hd rfl ?_
              replace hd := (of_decide_eq_true hd)
              replace h := h.1 hd
              refine gR 18 rfl ?_
              subst h
              refine go_sub (F' := (mkF 54 0 [(2, .bool false)])) (H' := ⟨0, []⟩) [] [] rfl hK ⟨⟨_, rfl, .rfl⟩, trivial⟩ trivial rfl ?_
              exact go_end tabS_ok (rs := [.tmp 2]) rfl rfl rfl
            · refine gF 32 rfl hd rfl ?_
              replace hd := (of_decide_eq_false hd)
              replace h := h.2 hd
              refine gR 4 rfl ?_
              refine gB 37 rfl rfl rfl (fun hd => ?_) (fun hd => ?_)
              · refine gT 36 rfl hd rfl ?_
                replace hd := (eq_of_beq hd)
                replace h := h.1 hd
                refine gR 6 rfl ?_
                refine gB 41 rfl rfl rfl (fun hd => ?_) (fun hd => ?_)
                · replace hd := (of_decide_eq_true hd)
                  replace h := h.1 hd
                  refine gR 8 rfl ?_
                  subst h
                  refine go_sub (F' := (mkF 54 0 [(2, .bool false)])) (H' := ⟨0, []⟩) [] [] rfl hK ⟨⟨_, rfl, .rfl⟩, trivial⟩ trivial rfl ?_
                  exact go_end tabS_ok (rs := [.tmp 2]) rfl rfl rfl
                · replace hd := (of_decide_eq_false hd)
                  replace h := h.2 hd
                  refine gR 10 rfl ?_
                  refine go_loop m ?_
                  exact gJ (h K _ hK (by omega)) [] [] rfl hK ⟨⟨_, rfl, .rfl⟩, ⟨_, rfl, .rfl⟩, ⟨_, rfl, .rfl⟩, trivial⟩ trivial rfl
              · refine gF 36 rfl hd rfl ?_
                replace hd := (ne_of_beq_false hd)
                replace h := h.2 hd
                refine gR 16 rfl ?_
                refine go_loop m ?_
                exact gJ (h K _ hK (by omega)) [] [] rfl hK ⟨⟨_, rfl, .rfl⟩, ⟨_, rfl, .rfl⟩, ⟨_, rfl, .rfl⟩, trivial⟩ trivial rfl
          · refine gF 27 rfl hd rfl ?_
            replace hd := (ne_of_beq_false hd)
            replace h := h.2 hd
            refine gR 9 rfl ?_
            refine gB 37 rfl rfl rfl (fun hd => ?_) (fun hd => ?_)
            · refine gT 36 rfl hd rfl ?_
              replace hd := (eq_of_beq hd)
              replace h := h.1 hd
              refine gR 6 rfl ?_
              refine gB 41 rfl rfl rfl (fun hd => ?_) (fun hd => ?_)
              · replace hd := (of_decide_eq_true hd)
                replace h := h.1 hd
                refine gR 8 rfl ?_
                subst h
                refine go_sub (F' := (mkF 54 0 [(2, .bool false)])) (H' := ⟨0, []⟩) [] [] rfl hK ⟨⟨_, rfl, .rfl⟩, trivial⟩ trivial rfl ?_
                exact go_end tabS_ok (rs := [.tmp 2]) rfl rfl rfl
              · replace hd := (of_decide_eq_false hd)
                replace h := h.2 hd
                refine gR 10 rfl ?_
                refine go_loop m ?_
                exact gJ (h K _ hK (by omega)) [] [] rfl hK ⟨⟨_, rfl, .rfl⟩, ⟨_, rfl, .rfl⟩, ⟨_, rfl, .rfl⟩, trivial⟩ trivial rfl
            · refine gF 36 rfl hd rfl ?_
              replace hd := (ne_of_beq_false hd)
              replace h := h.2 hd
              refine gR 16 rfl ?_
              refine go_loop m ?_
              exact gJ (h K _ hK (by omega)) [] [] rfl hK ⟨⟨_, rfl, .rfl⟩, ⟨_, rfl, .rfl⟩, ⟨_, rfl, .rfl⟩, trivial⟩ trivial rfl
      · refine gF 18 rfl hd rfl ?_
        replace hd := (ne_of_beq_false hd)
        replace h := h.2 hd
        refine gR 9 rfl ?_
        refine gB 28 rfl rfl rfl (fun hd => ?_) (fun hd => ?_)
        · refine gT 27 rfl hd rfl ?_
          replace hd := (eq_of_beq hd)
          replace h := h.1 hd
          refine gR 5 rfl ?_
          refine gB 33 rfl rfl rfl (fun hd => ?_) (fun hd => ?_)
          · refine gT 32 rfl hd rfl ?_
            replace hd := (of_decide_eq_true hd)
            replace h := h.1 hd
            refine gR 18 rfl ?_
            subst h
            refine go_sub (F' := (mkF 54 0 [(2, .bool false)])) (H' := ⟨0, []⟩) [] [] rfl hK ⟨⟨_, rfl, .rfl⟩, trivial⟩ trivial rfl ?_
            exact go_end tabS_ok (rs := [.tmp 2]) rfl rfl rfl
          · refine gF 32 rfl hd rfl ?_
            replace hd := (of_decide_eq_false hd)
            replace h := h.2 hd
            refine gR 4 rfl ?_
            refine gB 37 rfl rfl rfl (fun hd => ?_) (fun hd => ?_)
            · refine gT 36 rfl hd rfl ?_
              replace hd := (eq_of_beq hd)
              replace h := h.1 hd
              refine gR 6 rfl ?_
              refine gB 41 rfl rfl rfl (fun hd => ?_) (fun hd => ?_)
              · replace hd := (of_decide_eq_true hd)
                replace h := h.1 hd
                refine gR 8 rfl ?_
                subst h
                refine go_sub (F' := (mkF 54 0 [(2, .bool false)])) (H' := ⟨0, []⟩) [] [] rfl hK ⟨⟨_, rfl, .rfl⟩, trivial⟩ trivial rfl ?_
                exact go_end tabS_ok (rs := [.tmp 2]) rfl rfl rfl
              · replace hd := (of_decide_eq_false hd)
                replace h := h.2 hd
                refine gR 10 rfl ?_
                refine go_loop m ?_
                exact gJ (h K _ hK (by omega)) [] [] rfl hK ⟨⟨_, rfl, .rfl⟩, ⟨_, rfl, .rfl⟩, ⟨_, rfl, .rfl⟩, trivial⟩ trivial rfl
            · refine gF 36 rfl hd rfl ?_
              replace hd := (ne_of_beq_false hd)
              replace h := h.2 hd
              refine gR 16 rfl ?_
              refine go_loop m ?_
              exact gJ (h K _ hK (by omega)) [] [] rfl hK ⟨⟨_, rfl, .rfl⟩, ⟨_, rfl, .rfl⟩, ⟨_, rfl, .rfl⟩, trivial⟩ trivial rfl
        · refine gF 27 rfl hd rfl ?_
          replace hd := (ne_of_beq_false hd)
          replace h := h.2 hd
          refine gR 9 rfl ?_
          refine gB 37 rfl rfl rfl (fun hd => ?_) (fun hd => ?_)
          · refine gT 36 rfl hd rfl ?_
            replace hd := (eq_of_beq hd)
            replace h := h.1 hd
            refine gR 6 rfl ?_
            refine gB 41 rfl rfl rfl (fun hd => ?_) (fun hd => ?_)
            · replace hd := (of_decide_eq_true hd)
              replace h := h.1 hd
              refine gR 8 rfl ?_
              subst h
              refine go_sub (F' := (mkF 54 0 [(2, .bool false)])) (H' := ⟨0, []⟩) [] [] rfl hK ⟨⟨_, rfl, .rfl⟩, trivial⟩ trivial rfl ?_
              exact go_end tabS_ok (rs := [.tmp 2]) rfl rfl rfl
            · replace hd := (of_decide_eq_false hd)
              replace h := h.2 hd
              refine gR 10 rfl ?_
              refine go_loop m ?_
              exact gJ (h K _ hK (by omega)) [] [] rfl hK ⟨⟨_, rfl, .rfl⟩, ⟨_, rfl, .rfl⟩, ⟨_, rfl, .rfl⟩, trivial⟩ trivial rfl
          · refine gF 36 rfl hd rfl ?_
            replace hd := (ne_of_beq_false hd)
            replace h := h.2 hd
            refine gR 16 rfl ?_
            refine go_loop m ?_
            exact gJ (h K _ hK (by omega)) [] [] rfl hK ⟨⟨_, rfl, .rfl⟩, ⟨_, rfl, .rfl⟩, ⟨_, rfl, .rfl⟩, trivial⟩ trivial rfl
  · refine gF 10 rfl hd rfl ?_
    replace hd := (ne_of_beq_false hd)
    replace h := h.2 hd
    refine gR 8 rfl ?_
    refine gB 19 rfl rfl rfl (fun hd => ?_) (fun hd => ?_)
    · refine gT 18 rfl hd rfl ?_
      replace hd := (eq_of_beq hd)
      replace h := h.1 hd
      refine gR 5 rfl ?_
      refine gB 24 rfl rfl rfl (fun hd => ?_) (fun hd => ?_)
      · refine gT 23 rfl hd rfl ?_
        replace hd := (of_decide_eq_true hd)
        replace h := h.1 hd
        refine gR 27 rfl ?_
        subst h
        refine go_sub (F' := (mkF 54 0 [(2, .bool false)])) (H' := ⟨0, []⟩) [] [] rfl hK ⟨⟨_, rfl, .rfl⟩, trivial⟩ trivial rfl ?_
        exact go_end tabS_ok (rs := [.tmp 2]) rfl rfl rfl
      · refine gF 23 rfl hd rfl ?_
        replace hd := (of_decide_eq_false hd)
        replace h := h.2 hd
        refine gR 4 rfl ?_
        refine gB 28 rfl rfl rfl (fun hd => ?_) (fun hd => ?_)
        · refine gT 27 rfl hd rfl ?_
          replace hd := (eq_of_beq hd)
          replace h := h.1 hd
          refine gR 5 rfl ?_
          refine gB 33 rfl rfl rfl (fun hd => ?_) (fun hd => ?_)
          · refine gT 32 rfl hd rfl ?_
            replace hd := (of_decide_eq_true hd)
            replace h := h.1 hd
            refine gR 18 rfl ?_
            subst h
            refine go_sub (F' := (mkF 54 0 [(2, .bool false)])) (H' := ⟨0, []⟩) [] [] rfl hK ⟨⟨_, rfl, .rfl⟩, trivial⟩ trivial rfl ?_
            exact go_end tabS_ok (rs := [.tmp 2]) rfl rfl rfl
          · refine gF 32 rfl hd rfl ?_
            replace hd := (of_decide_eq_false hd)
            replace h := h.2 hd
            refine gR 4 rfl ?_
            refine gB 37 rfl rfl rfl (fun hd => ?_) (fun hd => ?_)
            · refine gT 36 rfl hd rfl ?_
              replace hd := (eq_of_beq hd)
              replace h := h.1 hd
              refine gR 6 rfl ?_
              refine gB 41 rfl rfl rfl (fun hd => ?_) (fun hd => ?_)
              · replace hd := (of_decide_eq_true hd)
                replace h := h.1 hd
                refine gR 8 rfl ?_
                subst h
                refine go_sub (F' := (mkF 54 0 [(2, .bool false)])) (H' := ⟨0, []⟩) [] [] rfl hK ⟨⟨_, rfl, .rfl⟩, trivial⟩ trivial rfl ?_
                exact go_end tabS_ok (rs := [.tmp 2]) rfl rfl rfl
              · replace hd := (of_decide_eq_false hd)
                replace h := h.2 hd
                refine gR 10 rfl ?_
                refine go_loop m ?_
                exact gJ (h K _ hK (by omega)) [] [] rfl hK ⟨⟨_, rfl, .rfl⟩, ⟨_, rfl, .rfl⟩, ⟨_, rfl, .rfl⟩, trivial⟩ trivial rfl
            · refine gF 36 rfl hd rfl ?_
              replace hd := (ne_of_beq_false hd)
              replace h := h.2 hd
              refine gR 16 rfl ?_
              refine go_loop m ?_
              exact gJ (h K _ hK (by omega)) [] [] rfl hK ⟨⟨_, rfl, .rfl⟩, ⟨_, rfl, .rfl⟩, ⟨_, rfl, .rfl⟩, trivial⟩ trivial rfl
        · refine gF 27 rfl hd rfl ?_
          replace hd := (ne_of_beq_false hd)
          replace h := h.2 hd
          refine gR 9 rfl ?_
          refine gB 37 rfl rfl rfl (fun hd => ?_) (fun hd => ?_)
          · refine gT 36 rfl hd rfl ?_
            replace hd := (eq_of_beq hd)
            replace h := h.1 hd
            refine gR 6 rfl ?_
            refine gB 41 rfl rfl rfl (fun hd => ?_) (fun hd => ?_)
            · replace hd := (of_decide_eq_true hd)
              replace h := h.1 hd
              refine gR 8 rfl ?_
              subst h
              refine go_sub (F' := (mkF 54 0 [(2, .bool false)])) (H' := ⟨0, []⟩) [] [] rfl hK ⟨⟨_, rfl, .rfl⟩, trivial⟩ trivial rfl ?_
              exact go_end tabS_ok (rs := [.tmp 2]) rfl rfl rfl
            · replace hd := (of_decide_eq_false hd)
              replace h := h.2 hd
              refine gR 10 rfl ?_
              refine go_loop m ?_
              exact gJ (h K _ hK (by omega)) [] [] rfl hK ⟨⟨_, rfl, .rfl⟩, ⟨_, rfl, .rfl⟩, ⟨_, rfl, .rfl⟩, trivial⟩ trivial rfl
          · refine gF 36 rfl hd rfl ?_
            replace hd := (ne_of_beq_false hd)
            replace h := h.2 hd
            refine gR 16 rfl ?_
            refine go_loop m ?_
            exact gJ (h K _ hK (by omega)) [] [] rfl hK ⟨⟨_, rfl, .rfl⟩, ⟨_, rfl, .rfl⟩, ⟨_, rfl, .rfl⟩, trivial⟩ trivial rfl
    · refine gF 18 rfl hd rfl ?_
      replace hd := (ne_of_beq_false hd)
      replace h := h.2 hd
      refine gR 9 rfl ?_
      refine gB 28 rfl rfl rfl (fun hd => ?_) (fun hd => ?_)
      · refine gT 27 rfl hd rfl ?_
        replace hd := (eq_of_beq hd)
        replace h := h.1 hd
        refine gR 5 rfl ?_
        refine gB 33 rfl rfl rfl (fun hd => ?_) (fun hd => ?_)
        · refine gT 32 rfl hd rfl ?_
          replace hd := (of_decide_eq_true hd)
          replace h := h.1 hd
          refine gR 18 rfl ?_
          subst h
          refine go_sub (F' := (mkF 54 0 [(2, .bool false)])) (H' := ⟨0, []⟩) [] [] rfl hK ⟨⟨_, rfl, .rfl⟩, trivial⟩ trivial rfl ?_
          exact go_end tabS_ok (rs := [.tmp 2]) rfl rfl rfl
        · refine gF 32 rfl hd rfl ?_
          replace hd := (of_decide_eq_false hd)
          replace h := h.2 hd
          refine gR 4 rfl ?_
          refine gB 37 rfl rfl rfl (fun hd => ?_) (fun hd => ?_)
          · refine gT 36 rfl hd rfl ?_
            replace hd := (eq_of_beq hd)
            replace h := h.1 hd
            refine gR 6 rfl ?_
            refine gB 41 rfl rfl rfl (fun hd => ?_) (fun hd => ?_)
            · replace hd := (of_decide_eq_true hd)
              replace h := h.1 hd
              refine gR 8 rfl ?_
              subst h
              refine go_sub (F' := (mkF 54 0 [(2, .bool false)])) (H' := ⟨0, []⟩) [] [] rfl hK ⟨⟨_, rfl, .rfl⟩, trivial⟩ trivial rfl ?_
              exact go_end tabS_ok (rs := [.tmp 2]) rfl rfl rfl
            · replace hd := (of_decide_eq_false hd)
              replace h := h.2 hd
              refine gR 10 rfl ?_
              refine go_loop m ?_
              exact gJ (h K _ hK (by omega)) [] [] rfl hK ⟨⟨_, rfl, .rfl⟩, ⟨_, rfl, .rfl⟩, ⟨_, rfl, .rfl⟩, trivial⟩ trivial rfl
          · refine gF 36 rfl hd rfl ?_
            replace hd := (ne_of_beq_false hd)
            replace h := h.2 hd
            refine gR 16 rfl ?_
            refine go_loop m ?_
            exact gJ (h K _ hK (by omega)) [] [] rfl hK ⟨⟨_, rfl, .rfl⟩, ⟨_, rfl, .rfl⟩, ⟨_, rfl, .rfl⟩, trivial⟩ trivial rfl
      · refine gF 27 rfl hd rfl ?_
        replace hd := (ne_of_beq_false hd)
        replace h := h.2 hd
        refine gR 9 rfl ?_
        refine gB 37 rfl rfl rfl (fun hd => ?_) (fun hd => ?_)
        · refine gT 36 rfl hd rfl ?_
          replace hd := (eq_of_beq hd)
          replace h := h.1 hd
          refine gR 6 rfl ?_
          refine gB 41 rfl rfl rfl (fun hd => ?_) (fun hd => ?_)
          · replace hd := (of_decide_eq_true hd)
            replace h := h.1 hd
            refine gR 8 rfl ?_
            subst h
            refine go_sub (F' := (mkF 54 0 [(2, .bool false)])) (H' := ⟨0, []⟩) [] [] rfl hK ⟨⟨_, rfl, .rfl⟩, trivial⟩ trivial rfl ?_
            exact go_end tabS_ok (rs := [.tmp 2]) rfl rfl rfl
          · replace hd := (of_decide_eq_false hd)
            replace h := h.2 hd
            refine gR 10 rfl ?_
            refine go_loop m ?_
            exact gJ (h K _ hK (by omega)) [] [] rfl hK ⟨⟨_, rfl, .rfl⟩, ⟨_, rfl, .rfl⟩, ⟨_, rfl, .rfl⟩, trivial⟩ trivial rfl
        · refine gF 36 rfl hd rfl ?_
          replace hd := (ne_of_beq_false hd)
          replace h := h.2 hd
          refine gR 16 rfl ?_
          refine go_loop m ?_
          exact gJ (h K _ hK (by omega)) [] [] rfl hK ⟨⟨_, rfl, .rfl⟩, ⟨_, rfl, .rfl⟩, ⟨_, rfl, .rfl⟩, trivial⟩ trivial rfl
theorem rL0_semvcsref02_limits (m : Nat) (p0 : Tree) (i1v1 : Nat) (r0 : Bool) (h : ((i1v1 < p0.kids.length) → ∃ (t1_1 : Tree), p0.kids[i1v1]? = some t1_1 ∧ ∃ (b1_2 : Bool), S_semvcsref02_limits t1_1 b1_2 ∧ ((b1_2 = false) → false = r0) ∧ ((b1_2 = true) → i1v1 + 1 ≤ 9223372036854775807 ∧ L0_semvcsref02_limits m p0 (i1v1 + 1) r0)) ∧ ((¬ i1v1 < p0.kids.length) → true = r0)) : L0_semvcsref02_limits (m + 1) p0 i1v1 r0 := by
  intro K j1 hK hj1
  obtain ⟨j1, rfl⟩ : ∃ j, j1 = j + 1 := ⟨j1 - 1, by omega⟩
  refine gR 8 rfl ?_
  refine gB 44 rfl rfl rfl (fun hd => ?_) (fun hd => ?_)
  · replace hd := (natT hd)
    replace h := h.1 hd
    refine gR 10 rfl ?_
    obtain ⟨t1_1, hxt1_1, h⟩ := h
    refine gY (yIR' (kidsV_get hxt1_1) tabS_ok rfl rfl rfl rfl) rfl rfl ?_
    refine gR 1 rfl ?_
    obtain ⟨b1_2, hs6, h⟩ := h
    refine gC0 hs6 (by kernel_rfl) rfl rfl .rfl rfl ?_
    refine gR 3 rfl ?_
    refine gB 53 rfl rfl rfl (fun hd => ?_) (fun hd => ?_)
    · replace hd := (not_t hd)
      replace h := h.1 hd
      refine gR 9 rfl ?_
      refine go_xloopR ?_
      refine gR 2 rfl ?_
      subst h
      refine go_sub (F' := (mkF 54 0 [(2, .bool false)])) (H' := ⟨0, []⟩) [] [] rfl hK ⟨⟨_, rfl, .rfl⟩, trivial⟩ trivial rfl ?_
      exact go_end tabS_ok (rs := [.tmp 2]) rfl rfl rfl
    · replace hd := (not_f hd)
      replace h := h.2 hd
      refine gR 6 rfl ?_
      obtain ⟨hb, h⟩ := h
      refine gR 1 rfl ?_
      refine gV 46 (.int .i64 ((i1v1 + 1 : Nat) : Int)) rfl (wrapI (by omega) (by omega)) rfl ?_
      refine gR 2 rfl ?_
      refine go_xloop ?_
      exact gJ (h K _ hK (by omega)) [] [] rfl hK ⟨⟨_, rfl, .rfl⟩, ⟨_, rfl, .rfl⟩, ⟨_, rfl, .rfl⟩, trivial⟩ trivial rfl
  · replace hd := (natF hd)
    replace h := h.2 hd
    refine gR 3 rfl ?_
    refine go_xloopE ?_
    refine gR 8 rfl ?_
    subst h
    refine go_sub (F' := (mkF 54 0 [(2, .bool true)])) (H' := ⟨0, []⟩) [] [] rfl hK ⟨⟨_, rfl, .rfl⟩, trivial⟩ trivial rfl ?_
    exact go_end tabS_ok (rs := [.tmp 2]) rfl rfl rfl
def L0_semvcsref02_Depth (m : Nat) (p0 : Tree) (z1v1 : Int) (i1v2 : Nat) (r0 : Int) : Prop := ∀ (K : Ctx) (j1 : Nat), PinB K [] → m ≤ j1 → Go Tryz.prog K (bodyPost Tryz.prog Tryz.f67 (SP K (fun u _ => u = .int .i64 r0))) (.code (cL (cK (cB (cA (cB (cB (bodyC Tryz.f67)))))))) [.loop (cL (cK (cB (cA (cB (cB (bodyC Tryz.f67))))))) j1, .blk 0, .seq (cB (cB (cB (bodyC Tryz.f67))))] 22 (mkF 22 0 [(1, .box (treeC p0) 0), (3, .int .i64 z1v1), (4, .int .i64 ((i1v2 : Nat) : Int))]) ⟨0, []⟩
theorem rS_semvcsref02_Depth (m : Nat) (p0 : Tree) (r0 : Int) (h : L0_semvcsref02_Depth m p0 0 0 r0) : S_semvcsref02_Depth p0 r0 := by
  refine ⟨rfl, rfl, ?_⟩
  refine sum_enter 22 [] Tryz.func67 rfl rfl rfl (pv_of rfl) fun K hK => ?_
  refine gR 3 rfl ?_
  refine gFP 0 rfl rfl rfl rfl ?_
  refine gR 15 rfl ?_
  refine go_loop m ?_
  exact gJ (h K _ hK (by omega)) [] [] rfl hK ⟨⟨_, rfl, .rfl⟩, ⟨_, rfl, .rfl⟩, ⟨_, rfl, .rfl⟩, trivial⟩ trivial rfl
theorem rL0_semvcsref02_Depth (m : Nat) (p0 : Tree) (z1v1 : Int) (i1v2 : Nat) (r0 : Int) (h : ((i1v2 < p0.kids.length) → ∃ (t1_1 : Tree), p0.kids[i1v2]? = some t1_1 ∧ ∃ (n1_2 : Int), S_semvcsref02_Depth t1_1 n1_2 ∧ L0_semvcsref02_Depth m p0 (max z1v1 n1_2) (i1v2 + 1) r0) ∧ ((¬ i1v2 < p0.kids.length) → InI (z1v1 + 1) ∧ (z1v1 + 1) = r0)) : L0_semvcsref02_Depth (m + 1) p0 z1v1 i1v2 r0 := by
  intro K j1 hK hj1
  obtain ⟨j1, rfl⟩ : ∃ j, j1 = j + 1 := ⟨j1 - 1, by omega⟩
  refine gR 7 rfl ?_
  refine gV 8 (.int .i64 ((p0.kids.length : Nat) : Int)) rfl (lenI (lenK _)) rfl ?_
  refine gLB 7 rfl (lenK _) fun hl5 => ?_
  refine gR 3 rfl ?_
  refine gB 9 rfl rfl rfl (fun hd => ?_) (fun hd => ?_)
  · replace hd := (natT hd)
    replace h := h.1 hd
    refine gR 10 rfl ?_
    obtain ⟨t1_1, hxt1_1, h⟩ := h
    refine gY (yIR' (kidsV_get hxt1_1) tabS_ok rfl rfl rfl rfl) rfl rfl ?_
    refine gR 1 rfl ?_
    obtain ⟨n1_2, hs6, h⟩ := h
    refine gC0 hs6 (by kernel_rfl) rfl rfl .rfl rfl ?_
    refine gR 8 rfl ?_
    refine gV 11 (.int .i64 ((i1v2 + 1 : Nat) : Int)) rfl (wrapI (by have := hl5; omega) (by omega)) rfl ?_
    refine gR 2 rfl ?_
    refine go_xloop ?_
    exact gJ (h K _ hK (by omega)) [] [] rfl hK ⟨⟨_, rfl, .rfl⟩, ⟨_, rfl, .rfl⟩, ⟨_, rfl, .rfl⟩, trivial⟩ trivial rfl
  · replace hd := (natF hd)
    replace h := h.2 hd
    refine gR 3 rfl ?_
    refine go_xloopE ?_
    refine gR 5 rfl ?_
    obtain ⟨hb, h⟩ := h
    refine gR 1 rfl ?_
    refine gV 21 (.int .i64 (z1v1 + 1)) rfl (wrapI hb rfl) rfl ?_
    refine gR 4 rfl ?_
    subst h
    refine go_sub (F' := (mkF 22 0 [(2, .int .i64 (z1v1 + 1))])) (H' := ⟨0, []⟩) [] [] rfl hK ⟨⟨_, rfl, .rfl⟩, trivial⟩ trivial rfl ?_
    exact go_end tabS_ok (rs := [.tmp 2]) rfl rfl rfl
def L0_semvcsref02_Print (m : Nat) (r0_2 : (List GSemvcsref02Piece)) (s1v1 : (List UInt8)) (i1v2 : Nat) (r0 : (List UInt8)) : Prop := ∀ (K : Ctx) (j1 : Nat), PinB K [] → m ≤ j1 → Go Tryz.prog K (bodyPost Tryz.prog Tryz.f68 (SP K (fun u _ => u = .str r0))) (.code (cL (cK (cB (cA (cB (cB (cB (cB (bodyC Tryz.f68)))))))))) [.loop (cL (cK (cB (cA (cB (cB (cB (cB (bodyC Tryz.f68))))))))) j1, .blk 0, .seq (cB (cB (cB (cB (cB (bodyC Tryz.f68))))))] 57 (mkF 57 0 [(3, .row 2 (List.map GSemvcsref02Piece.w r0_2)), (4, .str s1v1), (5, .int .i64 ((i1v2 : Nat) : Int))]) ⟨0, []⟩
theorem rS_semvcsref02_Print (m : Nat) (p0 : Tree) (r0 : (List UInt8)) (h : ∃ (b0_1 : Bool), S_semvcsref02_Printable p0 b0_1 ∧ ((b0_1 = false) → [] = r0) ∧ ((b0_1 = true) → ∃ (r0_2 : (List GSemvcsref02Piece)), S_semvcsref02_Pieces p0 r0_2 ∧ L0_semvcsref02_Print m r0_2 [] 0 r0)) : S_semvcsref02_Print p0 r0 := by
  refine ⟨rfl, rfl, ?_⟩
  refine sum_enter 57 [] Tryz.func68 rfl rfl rfl (pv_of rfl) fun K hK => ?_
  refine gR 3 rfl ?_
  refine gFP 0 rfl rfl rfl rfl ?_
  refine gR 7 rfl ?_
  obtain ⟨b0_1, hs8, h⟩ := h
  refine gC0 hs8 (by kernel_rfl) rfl rfl .rfl rfl ?_
  refine gR 3 rfl ?_
  refine gB 8 rfl rfl rfl (fun hd => ?_) (fun hd => ?_)
  · replace hd := (not_t hd)
    replace h := h.1 hd
    refine gR 8 rfl ?_
    subst h
    refine go_sub (F' := (mkF 57 0 [(2, .str [])])) (H' := ⟨0, []⟩) [] [] rfl hK ⟨⟨_, rfl, .rfl⟩, trivial⟩ trivial rfl ?_
    exact go_end tabS_ok (rs := [.tmp 2]) rfl rfl rfl
  · replace hd := (not_f hd)
    replace h := h.2 hd
    refine gR 6 rfl ?_
    obtain ⟨r0_2, hs9, h⟩ := h
    refine gC0 hs9 (by kernel_rfl) rfl rfl .rfl rfl ?_
    refine gR 15 rfl ?_
    refine go_loop m ?_
    exact gJ (h K _ hK (by omega)) [] [] rfl hK ⟨⟨_, rfl, .rfl⟩, ⟨_, rfl, .rfl⟩, ⟨_, rfl, .rfl⟩, trivial⟩ trivial rfl
theorem rL0_semvcsref02_Print (m : Nat) (r0_2 : (List GSemvcsref02Piece)) (s1v1 : (List UInt8)) (i1v2 : Nat) (r0 : (List UInt8)) (h : ((i1v2 < r0_2.length) → ((0 < ((i1v2 : Nat) : Int)) → ∃ (x1_1 : GSemvcsref02Piece), r0_2[i1v2]? = some x1_1 ∧ ((x1_1.Lead = []) → InI (((i1v2 : Nat) : Int) - 1) ∧ ∃ (k1_2 : Nat), (((i1v2 : Nat) : Int) - 1) = ((k1_2 : Nat) : Int) ∧ ∃ (x1_3 : GSemvcsref02Piece), r0_2[k1_2]? = some x1_3 ∧ ∃ (x1_4 : GSemvcsref02Piece), r0_2[i1v2]? = some x1_4 ∧ ∃ (b1_5 : Bool), S_semvcsref01_Fuses x1_3.Text x1_4.Text b1_5 ∧ ((b1_5 = true) → s1v1.length + [32].length ≤ 9223372036854775807 ∧ ∃ (x1_6 : GSemvcsref02Piece), r0_2[i1v2]? = some x1_6 ∧ (s1v1 ++ [32]).length + x1_6.Lead.length ≤ 9223372036854775807 ∧ ∃ (x1_7 : GSemvcsref02Piece), r0_2[i1v2]? = some x1_7 ∧ ((s1v1 ++ [32]) ++ x1_6.Lead).length + x1_7.Text.length ≤ 9223372036854775807 ∧ L0_semvcsref02_Print m r0_2 (((s1v1 ++ [32]) ++ x1_6.Lead) ++ x1_7.Text) (i1v2 + 1) r0) ∧ ((b1_5 = false) → ∃ (x1_8 : GSemvcsref02Piece), r0_2[i1v2]? = some x1_8 ∧ s1v1.length + x1_8.Lead.length ≤ 9223372036854775807 ∧ ∃ (x1_9 : GSemvcsref02Piece), r0_2[i1v2]? = some x1_9 ∧ (s1v1 ++ x1_8.Lead).length + x1_9.Text.length ≤ 9223372036854775807 ∧ L0_semvcsref02_Print m r0_2 ((s1v1 ++ x1_8.Lead) ++ x1_9.Text) (i1v2 + 1) r0)) ∧ ((x1_1.Lead ≠ []) → ∃ (x1_10 : GSemvcsref02Piece), r0_2[i1v2]? = some x1_10 ∧ s1v1.length + x1_10.Lead.length ≤ 9223372036854775807 ∧ ∃ (x1_11 : GSemvcsref02Piece), r0_2[i1v2]? = some x1_11 ∧ (s1v1 ++ x1_10.Lead).length + x1_11.Text.length ≤ 9223372036854775807 ∧ L0_semvcsref02_Print m r0_2 ((s1v1 ++ x1_10.Lead) ++ x1_11.Text) (i1v2 + 1) r0)) ∧ ((¬ 0 < ((i1v2 : Nat) : Int)) → ∃ (x1_12 : GSemvcsref02Piece), r0_2[i1v2]? = some x1_12 ∧ s1v1.length + x1_12.Lead.length ≤ 9223372036854775807 ∧ ∃ (x1_13 : GSemvcsref02Piece), r0_2[i1v2]? = some x1_13 ∧ (s1v1 ++ x1_12.Lead).length + x1_13.Text.length ≤ 9223372036854775807 ∧ L0_semvcsref02_Print m r0_2 ((s1v1 ++ x1_12.Lead) ++ x1_13.Text) (i1v2 + 1) r0)) ∧ ((¬ i1v2 < r0_2.length) → s1v1 = r0)) : L0_semvcsref02_Print (m + 1) r0_2 s1v1 i1v2 r0 := by
  intro K j1 hK hj1
  obtain ⟨j1, rfl⟩ : ∃ j, j1 = j + 1 := ⟨j1 - 1, by omega⟩
  refine gR 6 rfl ?_
  refine gV 13 (.int .i64 ((r0_2.length : Nat) : Int)) rfl (lenI (lenM GSemvcsref02Piece.w _)) rfl ?_
  refine gLB 12 rfl (lenM GSemvcsref02Piece.w _) fun hl10 => ?_
  refine gR 3 rfl ?_
  refine gB 14 rfl rfl rfl (fun hd => ?_) (fun hd => ?_)
  · replace hd := (natT hd)
    replace h := h.1 hd
    refine gR 7 rfl ?_
    refine gDs [] 24 24 rfl (by kernel_rfl) (by kernel_rfl) ?_
    refine gDr [(0, 0), (1, 0), (2, 0)] (by kernel_rfl) rfl rfl ?_
    refine gB 19 rfl rfl rfl (fun hd => ?_) (fun hd => ?_)
    · refine gT 18 rfl hd rfl ?_
      replace hd := (of_decide_eq_true hd)
      replace h := h.1 hd
      refine gDr [(3, 2), (4, 0)] (by kernel_rfl) rfl rfl ?_
      obtain ⟨x1_1, hxx1_1, h⟩ := h
      refine gYd1 5 rfl (by kernel_rfl) (yIR' (mapget (f := GSemvcsref02Piece.w) hxx1_1) tabS_ok rfl rfl rfl rfl) rfl rfl ?_
      refine gDr [(6, 0), (7, 0), (8, 0), (9, 0), (10, 0)] (by kernel_rfl) rfl rfl ?_
      refine gB 27 rfl rfl rfl (fun hd => ?_) (fun hd => ?_)
      · refine gT 26 rfl hd rfl ?_
        replace hd := (eq_of_beq hd)
        replace h := h.1 hd
        refine gDr [(11, 2), (12, 2)] (by kernel_rfl) rfl rfl ?_
        obtain ⟨hb, h⟩ := h
        refine gDr [(13, 2)] (by kernel_rfl) rfl rfl ?_
        refine gV 30 (.int .i64 (((i1v2 : Nat) : Int) - 1)) rfl (wrapI hb rfl) rfl ?_
        obtain ⟨k1_2, ek1_2, h⟩ := h
        refine gV 30 (.int .i64 ((k1_2 : Nat) : Int)) rfl (lenI' ek1_2) rfl ?_
        obtain ⟨x1_3, hxx1_3, h⟩ := h
        refine gYd 14 rfl (by kernel_rfl) (yIR' (mapget (f := GSemvcsref02Piece.w) hxx1_3) tabS_ok rfl rfl rfl rfl) rfl rfl ?_
        refine gDr [(15, 2), (16, 2), (17, 2), (18, 0)] (by kernel_rfl) rfl rfl ?_
        obtain ⟨x1_4, hxx1_4, h⟩ := h
        refine gYd1 19 rfl (by kernel_rfl) (yIR' (mapget (f := GSemvcsref02Piece.w) hxx1_4) tabS_ok rfl rfl rfl rfl) rfl rfl ?_
        refine gDr [(20, 0), (21, 0)] (by kernel_rfl) rfl rfl ?_
        obtain ⟨b1_5, hs11, h⟩ := h
        refine gDC0 22 hs11 (by kernel_rfl) rfl (by kernel_rfl) rfl rfl .rfl rfl rfl ?_
        refine gDr [(23, 0)] (by kernel_rfl) rfl rfl ?_
        refine gDe (by kernel_rfl) ?_
        refine gR 1 rfl ?_
        refine gB 40 rfl rfl rfl (fun hd => ?_) (fun hd => ?_)
        · skip
          replace h := h.1 hd
          refine gR 3 rfl ?_
          obtain ⟨hb, h⟩ := h
          refine gY (yCat rfl rfl hb) rfl rfl ?_
          refine gR 3 rfl ?_
          refine gDs [] 14 14 rfl (by kernel_rfl) (by kernel_rfl) ?_
          refine gDr [(0, 2), (1, 2), (2, 2)] (by kernel_rfl) rfl rfl ?_
          obtain ⟨x1_6, hxx1_6, h⟩ := h
          refine gYd 3 rfl (by kernel_rfl) (yIR' (mapget (f := GSemvcsref02Piece.w) hxx1_6) tabS_ok rfl rfl rfl rfl) rfl rfl ?_
          refine gDr [(4, 2), (5, 2)] (by kernel_rfl) rfl rfl ?_
          obtain ⟨hb, h⟩ := h
          refine gYd 6 rfl (by kernel_rfl) (yCat rfl rfl hb) rfl rfl ?_
          refine gDr [(7, 2), (8, 0)] (by kernel_rfl) rfl rfl ?_
          obtain ⟨x1_7, hxx1_7, h⟩ := h
          refine gYd1 9 rfl (by kernel_rfl) (yIR' (mapget (f := GSemvcsref02Piece.w) hxx1_7) tabS_ok rfl rfl rfl rfl) rfl rfl ?_
          refine gDr [(10, 0), (11, 0)] (by kernel_rfl) rfl rfl ?_
          obtain ⟨hb, h⟩ := h
          refine gYd1 12 rfl (by kernel_rfl) (yCat rfl rfl hb) rfl rfl ?_
          refine gDr [(13, 0)] (by kernel_rfl) rfl rfl ?_
          refine gDe (by kernel_rfl) ?_
          refine gR 5 rfl ?_
          refine gV 16 (.int .i64 ((i1v2 + 1 : Nat) : Int)) rfl (wrapI (by have := hl10; omega) (by omega)) rfl ?_
          refine gR 2 rfl ?_
          refine go_xloop ?_
          exact gJ (h K _ hK (by omega)) [] [] rfl hK ⟨⟨_, rfl, .rfl⟩, ⟨_, rfl, .rfl⟩, ⟨_, rfl, .rfl⟩, trivial⟩ trivial rfl
        · skip
          replace h := h.2 hd
          refine gR 3 rfl ?_
          refine gDs [] 14 14 rfl (by kernel_rfl) (by kernel_rfl) ?_
          refine gDr [(0, 2), (1, 2), (2, 2)] (by kernel_rfl) rfl rfl ?_
          obtain ⟨x1_8, hxx1_8, h⟩ := h
          refine gYd 3 rfl (by kernel_rfl) (yIR' (mapget (f := GSemvcsref02Piece.w) hxx1_8) tabS_ok rfl rfl rfl rfl) rfl rfl ?_
          refine gDr [(4, 2), (5, 2)] (by kernel_rfl) rfl rfl ?_
          obtain ⟨hb, h⟩ := h
          refine gYd 6 rfl (by kernel_rfl) (yCat rfl rfl hb) rfl rfl ?_
          refine gDr [(7, 2), (8, 0)] (by kernel_rfl) rfl rfl ?_
          obtain ⟨x1_9, hxx1_9, h⟩ := h
          refine gYd1 9 rfl (by kernel_rfl) (yIR' (mapget (f := GSemvcsref02Piece.w) hxx1_9) tabS_ok rfl rfl rfl rfl) rfl rfl ?_
          refine gDr [(10, 0), (11, 0)] (by kernel_rfl) rfl rfl ?_
          obtain ⟨hb, h⟩ := h
          refine gYd1 12 rfl (by kernel_rfl) (yCat rfl rfl hb) rfl rfl ?_
          refine gDr [(13, 0)] (by kernel_rfl) rfl rfl ?_
          refine gDe (by kernel_rfl) ?_
          refine gR 5 rfl ?_
          refine gV 16 (.int .i64 ((i1v2 + 1 : Nat) : Int)) rfl (wrapI (by have := hl10; omega) (by omega)) rfl ?_
          refine gR 2 rfl ?_
          refine go_xloop ?_
          exact gJ (h K _ hK (by omega)) [] [] rfl hK ⟨⟨_, rfl, .rfl⟩, ⟨_, rfl, .rfl⟩, ⟨_, rfl, .rfl⟩, trivial⟩ trivial rfl
      · refine gF 26 rfl hd rfl ?_
        replace hd := (ne_of_beq_false hd)
        replace h := h.2 hd
        refine gDr [(11, 2), (12, 2), (13, 2), (14, 2), (15, 2), (16, 2), (17, 2), (18, 0), (19, 0), (20, 0), (21, 0), (22, 0), (23, 0)] (by kernel_rfl) rfl rfl ?_
        refine gDe (by kernel_rfl) ?_
        refine gR 4 rfl ?_
        refine gDs [] 14 14 rfl (by kernel_rfl) (by kernel_rfl) ?_
        refine gDr [(0, 2), (1, 2), (2, 2)] (by kernel_rfl) rfl rfl ?_
        obtain ⟨x1_10, hxx1_10, h⟩ := h
        refine gYd 3 rfl (by kernel_rfl) (yIR' (mapget (f := GSemvcsref02Piece.w) hxx1_10) tabS_ok rfl rfl rfl rfl) rfl rfl ?_
        refine gDr [(4, 2), (5, 2)] (by kernel_rfl) rfl rfl ?_
        obtain ⟨hb, h⟩ := h
        refine gYd 6 rfl (by kernel_rfl) (yCat rfl rfl hb) rfl rfl ?_
        refine gDr [(7, 2), (8, 0)] (by kernel_rfl) rfl rfl ?_
        obtain ⟨x1_11, hxx1_11, h⟩ := h
        refine gYd1 9 rfl (by kernel_rfl) (yIR' (mapget (f := GSemvcsref02Piece.w) hxx1_11) tabS_ok rfl rfl rfl rfl) rfl rfl ?_
        refine gDr [(10, 0), (11, 0)] (by kernel_rfl) rfl rfl ?_
        obtain ⟨hb, h⟩ := h
        refine gYd1 12 rfl (by kernel_rfl) (yCat rfl rfl hb) rfl rfl ?_
        refine gDr [(13, 0)] (by kernel_rfl) rfl rfl ?_
        refine gDe (by kernel_rfl) ?_
        refine gR 5 rfl ?_
        refine gV 16 (.int .i64 ((i1v2 + 1 : Nat) : Int)) rfl (wrapI (by have := hl10; omega) (by omega)) rfl ?_
        refine gR 2 rfl ?_
        refine go_xloop ?_
        exact gJ (h K _ hK (by omega)) [] [] rfl hK ⟨⟨_, rfl, .rfl⟩, ⟨_, rfl, .rfl⟩, ⟨_, rfl, .rfl⟩, trivial⟩ trivial rfl
    · refine gF 18 rfl hd rfl ?_
      replace hd := (of_decide_eq_false hd)
      replace h := h.2 hd
      refine gDr [(3, 2), (4, 0), (5, 0), (6, 0), (7, 0), (8, 0), (9, 0), (10, 0), (11, 2), (12, 2), (13, 2), (14, 2), (15, 2), (16, 2), (17, 2), (18, 0), (19, 0), (20, 0), (21, 0), (22, 0), (23, 0)] (by kernel_rfl) rfl rfl ?_
      refine gDe (by kernel_rfl) ?_
      refine gR 4 rfl ?_
      refine gDs [] 14 14 rfl (by kernel_rfl) (by kernel_rfl) ?_
      refine gDr [(0, 2), (1, 2), (2, 2)] (by kernel_rfl) rfl rfl ?_
      obtain ⟨x1_12, hxx1_12, h⟩ := h
      refine gYd 3 rfl (by kernel_rfl) (yIR' (mapget (f := GSemvcsref02Piece.w) hxx1_12) tabS_ok rfl rfl rfl rfl) rfl rfl ?_
      refine gDr [(4, 2), (5, 2)] (by kernel_rfl) rfl rfl ?_
      obtain ⟨hb, h⟩ := h
      refine gYd 6 rfl (by kernel_rfl) (yCat rfl rfl hb) rfl rfl ?_
      refine gDr [(7, 2), (8, 0)] (by kernel_rfl) rfl rfl ?_
      obtain ⟨x1_13, hxx1_13, h⟩ := h
      refine gYd1 9 rfl (by kernel_rfl) (yIR' (mapget (f := GSemvcsref02Piece.w) hxx1_13) tabS_ok rfl rfl rfl rfl) rfl rfl ?_
      refine gDr [(10, 0), (11, 0)] (by kernel_rfl) rfl rfl ?_
      obtain ⟨hb, h⟩ := h
      refine gYd1 12 rfl (by kernel_rfl) (yCat rfl rfl hb) rfl rfl ?_
      refine gDr [(13, 0)] (by kernel_rfl) rfl rfl ?_
      refine gDe (by kernel_rfl) ?_
      refine gR 5 rfl ?_
      refine gV 16 (.int .i64 ((i1v2 + 1 : Nat) : Int)) rfl (wrapI (by have := hl10; omega) (by omega)) rfl ?_
      refine gR 2 rfl ?_
      refine go_xloop ?_
      exact gJ (h K _ hK (by omega)) [] [] rfl hK ⟨⟨_, rfl, .rfl⟩, ⟨_, rfl, .rfl⟩, ⟨_, rfl, .rfl⟩, trivial⟩ trivial rfl
  · replace hd := (natF hd)
    replace h := h.2 hd
    refine gR 3 rfl ?_
    refine go_xloopE ?_
    refine gR 9 rfl ?_
    subst h
    refine go_sub (F' := (mkF 57 0 [(2, .str s1v1)])) (H' := ⟨0, []⟩) [] [] rfl hK ⟨⟨_, rfl, .rfl⟩, trivial⟩ trivial rfl ?_
    exact go_end tabS_ok (rs := [.tmp 2]) rfl rfl rfl
theorem rS_semvcsref02_Pieces (m : Nat) (p0 : Tree) (r0 : (List GSemvcsref02Piece)) (h : ∃ (r0_1 : (List GSemvcsref02Piece)), S_semvcsref02_pieces ([] : List GSemvcsref02Piece) p0 r0_1 ∧ r0_1 = r0) : S_semvcsref02_Pieces p0 r0 := by
  refine ⟨rfl, rfl, ?_⟩
  refine sum_enter 5 [] Tryz.func95 rfl rfl rfl (pv_of rfl) fun K hK => ?_
  refine gR 3 rfl ?_
  refine gFP 0 rfl rfl rfl rfl ?_
  refine gR 6 rfl ?_
  obtain ⟨r0_1, hs2, h⟩ := h
  refine gCn 0 131 2 hs2 [1] (by kernel_rfl) rfl rfl rfl rfl .rfl ⟨⟨_, rfl, ⟨rfl, rfl, rfl⟩⟩, trivial⟩ rfl ?_
  rintro _ _ ⟨rfl, rfl⟩
  refine gHR 3 (List.map GSemvcsref02Piece.w r0_1) rfl (renM _ GSemvcsref02Piece.w (fun _ => rfl) r0_1) rfl ?_
  refine gR 4 rfl ?_
  refine gFR 3 rfl (pureM _ (fun _ => rfl) _) rfl rfl ?_
  subst h
  refine go_sub (F' := (mkF 5 0 [(2, .row 2 (List.map GSemvcsref02Piece.w r0_1))])) (H' := ⟨0, []⟩) [] [] rfl hK ⟨⟨_, rfl, .rfl⟩, trivial⟩ trivial rfl ?_
  exact go_end tabS_ok (rs := [.tmp 2]) rfl rfl rfl
def L0_semvcsref02_pieces (m : Nat) (p0 : (List GSemvcsref02Piece)) (p1 : Tree) (r0 : (List GSemvcsref02Piece)) : Prop := ∀ (K : Ctx), PinB K [] → Go Tryz.prog K (bodyPost Tryz.prog Tryz.f124 (SP K (fun u G => u = .sl 1 ∧ G = ⟨2, [(1, .row 131 2 (List.map GSemvcsref02Piece.w r0))]⟩))) (.code (cT (cB (cK (cB (cA (cB (cB (bodyC Tryz.f124))))))))) [.blk 0, .seq (cB (cB (cB (bodyC Tryz.f124))))] 365 (mkF 365 0 [(0, .sl 0), (3, .box (treeC p1) 0), (5, .int .i64 ((p1.kids.length : Nat) : Int))]) ⟨1, [(0, .row 131 2 (List.map GSemvcsref02Piece.w p0))]⟩
def L1_semvcsref02_pieces (m : Nat) (p0 : (List GSemvcsref02Piece)) (p1 : Tree) (r0 : (List GSemvcsref02Piece)) : Prop := ∀ (K : Ctx), PinB K [] → Go Tryz.prog K (bodyPost Tryz.prog Tryz.f124 (SP K (fun u G => u = .sl 1 ∧ G = ⟨2, [(1, .row 131 2 (List.map GSemvcsref02Piece.w r0))]⟩))) (.code (cE (cB (cK (cB (cA (cB (cB (bodyC Tryz.f124))))))))) [.blk 0, .seq (cB (cB (cB (bodyC Tryz.f124))))] 365 (mkF 365 0 [(0, .sl 0), (3, .box (treeC p1) 0), (5, .int .i64 ((p1.kids.length : Nat) : Int)), (11, .int .i64 p1.kind)]) ⟨1, [(0, .row 131 2 (List.map GSemvcsref02Piece.w p0))]⟩
def L2_semvcsref02_pieces (m : Nat) (p1 : Tree) (l3v1 : (List GSemvcsref02Piece)) (i3v2 : Nat) (r0 : (List GSemvcsref02Piece)) : Prop := ∀ (K : Ctx) (j1 : Nat), PinB K [] → m ≤ j1 → Go Tryz.prog K (bodyPost Tryz.prog Tryz.f124 (SP K (fun u G => u = .sl 1 ∧ G = ⟨2, [(1, .row 131 2 (List.map GSemvcsref02Piece.w r0))]⟩))) (.code (cL (cK (cB (cA (cB (cT (cB (cK (cB (cA (cB (cB (bodyC Tryz.f124)))))))))))))) [.loop (cL (cK (cB (cA (cB (cT (cB (cK (cB (cA (cB (cB (bodyC Tryz.f124))))))))))))) j1, .blk 1, .seq (cB (cB (cT (cB (cK (cB (cA (cB (cB (bodyC Tryz.f124)))))))))), .blk 0, .seq (cB (cB (cB (bodyC Tryz.f124))))] 365 (mkF 365 0 [(0, .sl 0), (3, .box (treeC p1) 0), (5, .int .i64 ((p1.kids.length : Nat) : Int)), (6, .int .i64 ((i3v2 : Nat) : Int))]) ⟨1, [(0, .row 131 2 (List.map GSemvcsref02Piece.w l3v1))]⟩
def L3_semvcsref02_pieces (m : Nat) (p0 : (List GSemvcsref02Piece)) (p1 : Tree) (r0 : (List GSemvcsref02Piece)) : Prop := ∀ (K : Ctx), PinB K [] → Go Tryz.prog K (bodyPost Tryz.prog Tryz.f124 (SP K (fun u G => u = .sl 1 ∧ G = ⟨2, [(1, .row 131 2 (List.map GSemvcsref02Piece.w r0))]⟩))) (.code (cT (cB (cE (cB (cK (cB (cA (cB (cB (bodyC Tryz.f124))))))))))) [.blk 0, .seq (cB (cB (cB (bodyC Tryz.f124))))] 365 (mkF 365 0 [(0, .sl 0), (3, .box (treeC p1) 0), (5, .int .i64 ((p1.kids.length : Nat) : Int))]) ⟨1, [(0, .row 131 2 (List.map GSemvcsref02Piece.w p0))]⟩
def L4_semvcsref02_pieces (m : Nat) (p0 : (List GSemvcsref02Piece)) (p1 : Tree) (r0 : (List GSemvcsref02Piece)) : Prop := ∀ (K : Ctx), PinB K [] → Go Tryz.prog K (bodyPost Tryz.prog Tryz.f124 (SP K (fun u G => u = .sl 1 ∧ G = ⟨2, [(1, .row 131 2 (List.map GSemvcsref02Piece.w r0))]⟩))) (.code (cE (cB (cE (cB (cK (cB (cA (cB (cB (bodyC Tryz.f124))))))))))) [.blk 0, .seq (cB (cB (cB (bodyC Tryz.f124))))] 365 (mkF 365 0 [(0, .sl 0), (3, .box (treeC p1) 0), (5, .int .i64 ((p1.kids.length : Nat) : Int)), (11, .int .i64 p1.kind)]) ⟨1, [(0, .row 131 2 (List.map GSemvcsref02Piece.w p0))]⟩
def L5_semvcsref02_pieces (m : Nat) (p0 : (List GSemvcsref02Piece)) (p1 : Tree) (r0 : (List GSemvcsref02Piece)) : Prop := ∀ (K : Ctx), PinB K [] → Go Tryz.prog K (bodyPost Tryz.prog Tryz.f124 (SP K (fun u G => u = .sl 1 ∧ G = ⟨2, [(1, .row 131 2 (List.map GSemvcsref02Piece.w r0))]⟩))) (.code (cT (cB (cE (cB (cE (cB (cK (cB (cA (cB (cB (bodyC Tryz.f124))))))))))))) [.blk 0, .seq (cB (cB (cB (bodyC Tryz.f124))))] 365 (mkF 365 0 [(0, .sl 0), (3, .box (treeC p1) 0)]) ⟨1, [(0, .row 131 2 (List.map GSemvcsref02Piece.w p0))]⟩
def L6_semvcsref02_pieces (m : Nat) (p0 : (List GSemvcsref02Piece)) (p1 : Tree) (r0 : (List GSemvcsref02Piece)) : Prop := ∀ (K : Ctx), PinB K [] → Go Tryz.prog K (bodyPost Tryz.prog Tryz.f124 (SP K (fun u G => u = .sl 1 ∧ G = ⟨2, [(1, .row 131 2 (List.map GSemvcsref02Piece.w r0))]⟩))) (.code (cE (cB (cE (cB (cE (cB (cK (cB (cA (cB (cB (bodyC Tryz.f124))))))))))))) [.blk 0, .seq (cB (cB (cB (bodyC Tryz.f124))))] 365 (mkF 365 0 [(0, .sl 0), (3, .box (treeC p1) 0), (5, .int .i64 ((p1.kids.length : Nat) : Int)), (11, .int .i64 p1.kind)]) ⟨1, [(0, .row 131 2 (List.map GSemvcsref02Piece.w p0))]⟩
def L7_semvcsref02_pieces (m : Nat) (p0 : (List GSemvcsref02Piece)) (p1 : Tree) (r0 : (List GSemvcsref02Piece)) : Prop := ∀ (K : Ctx), PinB K [] → Go Tryz.prog K (bodyPost Tryz.prog Tryz.f124 (SP K (fun u G => u = .sl 1 ∧ G = ⟨2, [(1, .row 131 2 (List.map GSemvcsref02Piece.w r0))]⟩))) (.code (cT (cB (cE (cB (cE (cB (cE (cB (cK (cB (cA (cB (cB (bodyC Tryz.f124))))))))))))))) [.blk 0, .seq (cB (cB (cB (bodyC Tryz.f124))))] 365 (mkF 365 0 [(0, .sl 0), (3, .box (treeC p1) 0)]) ⟨1, [(0, .row 131 2 (List.map GSemvcsref02Piece.w p0))]⟩
def L8_semvcsref02_pieces (m : Nat) (p0 : (List GSemvcsref02Piece)) (p1 : Tree) (r0 : (List GSemvcsref02Piece)) : Prop := ∀ (K : Ctx), PinB K [] → Go Tryz.prog K (bodyPost Tryz.prog Tryz.f124 (SP K (fun u G => u = .sl 1 ∧ G = ⟨2, [(1, .row 131 2 (List.map GSemvcsref02Piece.w r0))]⟩))) (.code (cE (cB (cE (cB (cE (cB (cE (cB (cK (cB (cA (cB (cB (bodyC Tryz.f124))))))))))))))) [.blk 0, .seq (cB (cB (cB (bodyC Tryz.f124))))] 365 (mkF 365 0 [(0, .sl 0), (3, .box (treeC p1) 0), (5, .int .i64 ((p1.kids.length : Nat) : Int)), (11, .int .i64 p1.kind)]) ⟨1, [(0, .row 131 2 (List.map GSemvcsref02Piece.w p0))]⟩
def L9_semvcsref02_pieces (m : Nat) (p0 : (List GSemvcsref02Piece)) (p1 : Tree) (r0 : (List GSemvcsref02Piece)) : Prop := ∀ (K : Ctx), PinB K [] → Go Tryz.prog K (bodyPost Tryz.prog Tryz.f124 (SP K (fun u G => u = .sl 1 ∧ G = ⟨2, [(1, .row 131 2 (List.map GSemvcsref02Piece.w r0))]⟩))) (.code (cE (cB (cE (cB (cE (cB (cE (cB (cE (cB (cK (cB (cA (cB (cB (bodyC Tryz.f124))))))))))))))))) [.blk 0, .seq (cB (cB (cB (bodyC Tryz.f124))))] 365 (mkF 365 0 [(0, .sl 0), (3, .box (treeC p1) 0), (5, .int .i64 ((p1.kids.length : Nat) : Int)), (11, .int .i64 p1.kind)]) ⟨1, [(0, .row 131 2 (List.map GSemvcsref02Piece.w p0))]⟩
def L10_semvcsref02_pieces (m : Nat) (p0 : (List GSemvcsref02Piece)) (p1 : Tree) (r0 : (List GSemvcsref02Piece)) : Prop := ∀ (K : Ctx), PinB K [] → Go Tryz.prog K (bodyPost Tryz.prog Tryz.f124 (SP K (fun u G => u = .sl 1 ∧ G = ⟨2, [(1, .row 131 2 (List.map GSemvcsref02Piece.w r0))]⟩))) (.code (cE (cB (cE (cB (cE (cB (cE (cB (cE (cB (cE (cB (cK (cB (cA (cB (cB (bodyC Tryz.f124))))))))))))))))))) [.blk 0, .seq (cB (cB (cB (bodyC Tryz.f124))))] 365 (mkF 365 0 [(0, .sl 0), (3, .box (treeC p1) 0), (5, .int .i64 ((p1.kids.length : Nat) : Int)), (11, .int .i64 p1.kind)]) ⟨1, [(0, .row 131 2 (List.map GSemvcsref02Piece.w p0))]⟩
def L11_semvcsref02_pieces (m : Nat) (p0 : (List GSemvcsref02Piece)) (p1 : Tree) (r0 : (List GSemvcsref02Piece)) : Prop := ∀ (K : Ctx), PinB K [] → Go Tryz.prog K (bodyPost Tryz.prog Tryz.f124 (SP K (fun u G => u = .sl 1 ∧ G = ⟨2, [(1, .row 131 2 (List.map GSemvcsref02Piece.w r0))]⟩))) (.code (cE (cB (cE (cB (cE (cB (cE (cB (cE (cB (cE (cB (cE (cB (cK (cB (cA (cB (cB (bodyC Tryz.f124))))))))))))))))))))) [.blk 0, .seq (cB (cB (cB (bodyC Tryz.f124))))] 365 (mkF 365 0 [(0, .sl 0), (3, .box (treeC p1) 0), (5, .int .i64 ((p1.kids.length : Nat) : Int)), (11, .int .i64 p1.kind)]) ⟨1, [(0, .row 131 2 (List.map GSemvcsref02Piece.w p0))]⟩
def L12_semvcsref02_pieces (m : Nat) (p0 : (List GSemvcsref02Piece)) (p1 : Tree) (r0 : (List GSemvcsref02Piece)) : Prop := ∀ (K : Ctx), PinB K [] → Go Tryz.prog K (bodyPost Tryz.prog Tryz.f124 (SP K (fun u G => u = .sl 1 ∧ G = ⟨2, [(1, .row 131 2 (List.map GSemvcsref02Piece.w r0))]⟩))) (.code (cE (cB (cE (cB (cE (cB (cE (cB (cE (cB (cE (cB (cE (cB (cE (cB (cK (cB (cA (cB (cB (bodyC Tryz.f124))))))))))))))))))))))) [.blk 0, .seq (cB (cB (cB (bodyC Tryz.f124))))] 365 (mkF 365 0 [(0, .sl 0), (3, .box (treeC p1) 0), (5, .int .i64 ((p1.kids.length : Nat) : Int)), (11, .int .i64 p1.kind)]) ⟨1, [(0, .row 131 2 (List.map GSemvcsref02Piece.w p0))]⟩
def L13_semvcsref02_pieces (m : Nat) (p0 : (List GSemvcsref02Piece)) (p1 : Tree) (r0 : (List GSemvcsref02Piece)) : Prop := ∀ (K : Ctx), PinB K [] → Go Tryz.prog K (bodyPost Tryz.prog Tryz.f124 (SP K (fun u G => u = .sl 1 ∧ G = ⟨2, [(1, .row 131 2 (List.map GSemvcsref02Piece.w r0))]⟩))) (.code (cE (cB (cE (cB (cE (cB (cE (cB (cE (cB (cE (cB (cE (cB (cE (cB (cE (cB (cK (cB (cA (cB (cB (bodyC Tryz.f124))))))))))))))))))))))))) [.blk 0, .seq (cB (cB (cB (bodyC Tryz.f124))))] 365 (mkF 365 0 [(0, .sl 0), (3, .box (treeC p1) 0), (5, .int .i64 ((p1.kids.length : Nat) : Int)), (11, .int .i64 p1.kind)]) ⟨1, [(0, .row 131 2 (List.map GSemvcsref02Piece.w p0))]⟩
def L14_semvcsref02_pieces (m : Nat) (p0 : (List GSemvcsref02Piece)) (p1 : Tree) (r0 : (List GSemvcsref02Piece)) : Prop := ∀ (K : Ctx), PinB K [] → Go Tryz.prog K (bodyPost Tryz.prog Tryz.f124 (SP K (fun u G => u = .sl 1 ∧ G = ⟨2, [(1, .row 131 2 (List.map GSemvcsref02Piece.w r0))]⟩))) (.code (cE (cB (cE (cB (cE (cB (cE (cB (cE (cB (cE (cB (cE (cB (cE (cB (cE (cB (cE (cB (cK (cB (cA (cB (cB (bodyC Tryz.f124))))))))))))))))))))))))))) [.blk 0, .seq (cB (cB (cB (bodyC Tryz.f124))))] 365 (mkF 365 0 [(0, .sl 0), (3, .box (treeC p1) 0), (5, .int .i64 ((p1.kids.length : Nat) : Int)), (11, .int .i64 p1.kind)]) ⟨1, [(0, .row 131 2 (List.map GSemvcsref02Piece.w p0))]⟩
def L15_semvcsref02_pieces (m : Nat) (p0 : (List GSemvcsref02Piece)) (p1 : Tree) (r0 : (List GSemvcsref02Piece)) : Prop := ∀ (K : Ctx), PinB K [] → Go Tryz.prog K (bodyPost Tryz.prog Tryz.f124 (SP K (fun u G => u = .sl 1 ∧ G = ⟨2, [(1, .row 131 2 (List.map GSemvcsref02Piece.w r0))]⟩))) (.code (cT (cB (cE (cB (cE (cB (cE (cB (cE (cB (cE (cB (cE (cB (cE (cB (cE (cB (cE (cB (cE (cB (cK (cB (cA (cB (cB (bodyC Tryz.f124))))))))))))))))))))))))))))) [.blk 0, .seq (cB (cB (cB (bodyC Tryz.f124))))] 365 (mkF 365 0 [(0, .sl 0), (3, .box (treeC p1) 0)]) ⟨1, [(0, .row 131 2 (List.map GSemvcsref02Piece.w p0))]⟩
def L16_semvcsref02_pieces (m : Nat) (p0 : (List GSemvcsref02Piece)) (p1 : Tree) (r0 : (List GSemvcsref02Piece)) : Prop := ∀ (K : Ctx), PinB K [] → Go Tryz.prog K (bodyPost Tryz.prog Tryz.f124 (SP K (fun u G => u = .sl 1 ∧ G = ⟨2, [(1, .row 131 2 (List.map GSemvcsref02Piece.w r0))]⟩))) (.code (cE (cB (cE (cB (cE (cB (cE (cB (cE (cB (cE (cB (cE (cB (cE (cB (cE (cB (cE (cB (cE (cB (cK (cB (cA (cB (cB (bodyC Tryz.f124))))))))))))))))))))))))))))) [.blk 0, .seq (cB (cB (cB (bodyC Tryz.f124))))] 365 (mkF 365 0 [(0, .sl 0), (3, .box (treeC p1) 0), (5, .int .i64 ((p1.kids.length : Nat) : Int)), (11, .int .i64 p1.kind)]) ⟨1, [(0, .row 131 2 (List.map GSemvcsref02Piece.w p0))]⟩
def L17_semvcsref02_pieces (m : Nat) (p0 : (List GSemvcsref02Piece)) (p1 : Tree) (r0 : (List GSemvcsref02Piece)) : Prop := ∀ (K : Ctx), PinB K [] → Go Tryz.prog K (bodyPost Tryz.prog Tryz.f124 (SP K (fun u G => u = .sl 1 ∧ G = ⟨2, [(1, .row 131 2 (List.map GSemvcsref02Piece.w r0))]⟩))) (.code (cT (cB (cE (cB (cE (cB (cE (cB (cE (cB (cE (cB (cE (cB (cE (cB (cE (cB (cE (cB (cE (cB (cE (cB (cK (cB (cA (cB (cB (bodyC Tryz.f124))))))))))))))))))))))))))))))) [.blk 0, .seq (cB (cB (cB (bodyC Tryz.f124))))] 365 (mkF 365 0 [(0, .sl 0), (3, .box (treeC p1) 0), (5, .int .i64 ((p1.kids.length : Nat) : Int))]) ⟨1, [(0, .row 131 2 (List.map GSemvcsref02Piece.w p0))]⟩
def L18_semvcsref02_pieces (m : Nat) (p0 : (List GSemvcsref02Piece)) (p1 : Tree) (r0 : (List GSemvcsref02Piece)) : Prop := ∀ (K : Ctx), PinB K [] → Go Tryz.prog K (bodyPost Tryz.prog Tryz.f124 (SP K (fun u G => u = .sl 1 ∧ G = ⟨2, [(1, .row 131 2 (List.map GSemvcsref02Piece.w r0))]⟩))) (.code (cE (cB (cE (cB (cE (cB (cE (cB (cE (cB (cE (cB (cE (cB (cE (cB (cE (cB (cE (cB (cE (cB (cE (cB (cK (cB (cA (cB (cB (bodyC Tryz.f124))))))))))))))))))))))))))))))) [.blk 0, .seq (cB (cB (cB (bodyC Tryz.f124))))] 365 (mkF 365 0 [(0, .sl 0), (3, .box (treeC p1) 0), (5, .int .i64 ((p1.kids.length : Nat) : Int)), (11, .int .i64 p1.kind)]) ⟨1, [(0, .row 131 2 (List.map GSemvcsref02Piece.w p0))]⟩
def L19_semvcsref02_pieces (m : Nat) (p0 : (List GSemvcsref02Piece)) (p1 : Tree) (r0 : (List GSemvcsref02Piece)) : Prop := ∀ (K : Ctx), PinB K [] → Go Tryz.prog K (bodyPost Tryz.prog Tryz.f124 (SP K (fun u G => u = .sl 1 ∧ G = ⟨2, [(1, .row 131 2 (List.map GSemvcsref02Piece.w r0))]⟩))) (.code (cE (cB (cE (cB (cE (cB (cE (cB (cE (cB (cE (cB (cE (cB (cE (cB (cE (cB (cE (cB (cE (cB (cE (cB (cE (cB (cK (cB (cA (cB (cB (bodyC Tryz.f124))))))))))))))))))))))))))))))))) [.blk 0, .seq (cB (cB (cB (bodyC Tryz.f124))))] 365 (mkF 365 0 [(0, .sl 0), (3, .box (treeC p1) 0), (5, .int .i64 ((p1.kids.length : Nat) : Int)), (11, .int .i64 p1.kind)]) ⟨1, [(0, .row 131 2 (List.map GSemvcsref02Piece.w p0))]⟩
def L20_semvcsref02_pieces (m : Nat) (p0 : (List GSemvcsref02Piece)) (p1 : Tree) (r0 : (List GSemvcsref02Piece)) : Prop := ∀ (K : Ctx), PinB K [] → Go Tryz.prog K (bodyPost Tryz.prog Tryz.f124 (SP K (fun u G => u = .sl 1 ∧ G = ⟨2, [(1, .row 131 2 (List.map GSemvcsref02Piece.w r0))]⟩))) (.code (cT (cB (cE (cB (cE (cB (cE (cB (cE (cB (cE (cB (cE (cB (cE (cB (cE (cB (cE (cB (cE (cB (cE (cB (cE (cB (cE (cB (cK (cB (cA (cB (cB (bodyC Tryz.f124))))))))))))))))))))))))))))))))))) [.blk 0, .seq (cB (cB (cB (bodyC Tryz.f124))))] 365 (mkF 365 0 [(0, .sl 0), (3, .box (treeC p1) 0), (5, .int .i64 ((p1.kids.length : Nat) : Int))]) ⟨1, [(0, .row 131 2 (List.map GSemvcsref02Piece.w p0))]⟩
def L21_semvcsref02_pieces (m : Nat) (p0 : (List GSemvcsref02Piece)) (p1 : Tree) (r0 : (List GSemvcsref02Piece)) : Prop := ∀ (K : Ctx), PinB K [] → Go Tryz.prog K (bodyPost Tryz.prog Tryz.f124 (SP K (fun u G => u = .sl 1 ∧ G = ⟨2, [(1, .row 131 2 (List.map GSemvcsref02Piece.w r0))]⟩))) (.code (cE (cB (cE (cB (cE (cB (cE (cB (cE (cB (cE (cB (cE (cB (cE (cB (cE (cB (cE (cB (cE (cB (cE (cB (cE (cB (cE (cB (cK (cB (cA (cB (cB (bodyC Tryz.f124))))))))))))))))))))))))))))))))))) [.blk 0, .seq (cB (cB (cB (bodyC Tryz.f124))))] 365 (mkF 365 0 [(0, .sl 0), (3, .box (treeC p1) 0), (11, .int .i64 p1.kind)]) ⟨1, [(0, .row 131 2 (List.map GSemvcsref02Piece.w p0))]⟩
def L22_semvcsref02_pieces (m : Nat) (p0 : (List GSemvcsref02Piece)) (p1 : Tree) (r0 : (List GSemvcsref02Piece)) : Prop := ∀ (K : Ctx), PinB K [] → Go Tryz.prog K (bodyPost Tryz.prog Tryz.f124 (SP K (fun u G => u = .sl 1 ∧ G = ⟨2, [(1, .row 131 2 (List.map GSemvcsref02Piece.w r0))]⟩))) (.code (cT (cB (cE (cB (cE (cB (cE (cB (cE (cB (cE (cB (cE (cB (cE (cB (cE (cB (cE (cB (cE (cB (cE (cB (cE (cB (cE (cB (cE (cB (cK (cB (cA (cB (cB (bodyC Tryz.f124))))))))))))))))))))))))))))))))))))) [.blk 0, .seq (cB (cB (cB (bodyC Tryz.f124))))] 365 (mkF 365 0 [(0, .sl 0), (3, .box (treeC p1) 0)]) ⟨1, [(0, .row 131 2 (List.map GSemvcsref02Piece.w p0))]⟩
def L23_semvcsref02_pieces (m : Nat) (p0 : (List GSemvcsref02Piece)) (p1 : Tree) (r0 : (List GSemvcsref02Piece)) : Prop := ∀ (K : Ctx), PinB K [] → Go Tryz.prog K (bodyPost Tryz.prog Tryz.f124 (SP K (fun u G => u = .sl 1 ∧ G = ⟨2, [(1, .row 131 2 (List.map GSemvcsref02Piece.w r0))]⟩))) (.code (cE (cB (cE (cB (cE (cB (cE (cB (cE (cB (cE (cB (cE (cB (cE (cB (cE (cB (cE (cB (cE (cB (cE (cB (cE (cB (cE (cB (cE (cB (cK (cB (cA (cB (cB (bodyC Tryz.f124))))))))))))))))))))))))))))))))))))) [.blk 0, .seq (cB (cB (cB (bodyC Tryz.f124))))] 365 (mkF 365 0 [(0, .sl 0), (3, .box (treeC p1) 0), (11, .int .i64 p1.kind)]) ⟨1, [(0, .row 131 2 (List.map GSemvcsref02Piece.w p0))]⟩
def L24_semvcsref02_pieces (m : Nat) (p0 : (List GSemvcsref02Piece)) (p1 : Tree) (r0 : (List GSemvcsref02Piece)) : Prop := ∀ (K : Ctx), PinB K [] → Go Tryz.prog K (bodyPost Tryz.prog Tryz.f124 (SP K (fun u G => u = .sl 1 ∧ G = ⟨2, [(1, .row 131 2 (List.map GSemvcsref02Piece.w r0))]⟩))) (.code (cT (cB (cE (cB (cE (cB (cE (cB (cE (cB (cE (cB (cE (cB (cE (cB (cE (cB (cE (cB (cE (cB (cE (cB (cE (cB (cE (cB (cE (cB (cE (cB (cK (cB (cA (cB (cB (bodyC Tryz.f124))))))))))))))))))))))))))))))))))))))) [.blk 0, .seq (cB (cB (cB (bodyC Tryz.f124))))] 365 (mkF 365 0 [(0, .sl 0), (3, .box (treeC p1) 0)]) ⟨1, [(0, .row 131 2 (List.map GSemvcsref02Piece.w p0))]⟩
def L25_semvcsref02_pieces (m : Nat) (p0 : (List GSemvcsref02Piece)) (p1 : Tree) (r0 : (List GSemvcsref02Piece)) : Prop := ∀ (K : Ctx), PinB K [] → Go Tryz.prog K (bodyPost Tryz.prog Tryz.f124 (SP K (fun u G => u = .sl 1 ∧ G = ⟨2, [(1, .row 131 2 (List.map GSemvcsref02Piece.w r0))]⟩))) (.code (cE (cB (cE (cB (cE (cB (cE (cB (cE (cB (cE (cB (cE (cB (cE (cB (cE (cB (cE (cB (cE (cB (cE (cB (cE (cB (cE (cB (cE (cB (cE (cB (cK (cB (cA (cB (cB (bodyC Tryz.f124))))))))))))))))))))))))))))))))))))))) [.blk 0, .seq (cB (cB (cB (bodyC Tryz.f124))))] 365 (mkF 365 0 [(0, .sl 0), (3, .box (treeC p1) 0), (11, .int .i64 p1.kind)]) ⟨1, [(0, .row 131 2 (List.map GSemvcsref02Piece.w p0))]⟩
def L26_semvcsref02_pieces (m : Nat) (p0 : (List GSemvcsref02Piece)) (p1 : Tree) (r0 : (List GSemvcsref02Piece)) : Prop := ∀ (K : Ctx), PinB K [] → Go Tryz.prog K (bodyPost Tryz.prog Tryz.f124 (SP K (fun u G => u = .sl 1 ∧ G = ⟨2, [(1, .row 131 2 (List.map GSemvcsref02Piece.w r0))]⟩))) (.code (cT (cB (cE (cB (cE (cB (cE (cB (cE (cB (cE (cB (cE (cB (cE (cB (cE (cB (cE (cB (cE (cB (cE (cB (cE (cB (cE (cB (cE (cB (cE (cB (cE (cB (cK (cB (cA (cB (cB (bodyC Tryz.f124))))))))))))))))))))))))))))))))))))))))) [.blk 0, .seq (cB (cB (cB (bodyC Tryz.f124))))] 365 (mkF 365 0 [(0, .sl 0), (3, .box (treeC p1) 0)]) ⟨1, [(0, .row 131 2 (List.map GSemvcsref02Piece.w p0))]⟩
def L27_semvcsref02_pieces (m : Nat) (p0 : (List GSemvcsref02Piece)) (p1 : Tree) (r0 : (List GSemvcsref02Piece)) : Prop := ∀ (K : Ctx), PinB K [] → Go Tryz.prog K (bodyPost Tryz.prog Tryz.f124 (SP K (fun u G => u = .sl 1 ∧ G = ⟨2, [(1, .row 131 2 (List.map GSemvcsref02Piece.w r0))]⟩))) (.code (cE (cB (cE (cB (cE (cB (cE (cB (cE (cB (cE (cB (cE (cB (cE (cB (cE (cB (cE (cB (cE (cB (cE (cB (cE (cB (cE (cB (cE (cB (cE (cB (cE (cB (cK (cB (cA (cB (cB (bodyC Tryz.f124))))))))))))))))))))))))))))))))))))))))) [.blk 0, .seq (cB (cB (cB (bodyC Tryz.f124))))] 365 (mkF 365 0 [(0, .sl 0), (3, .box (treeC p1) 0), (11, .int .i64 p1.kind)]) ⟨1, [(0, .row 131 2 (List.map GSemvcsref02Piece.w p0))]⟩
def L28_semvcsref02_pieces (m : Nat) (p0 : (List GSemvcsref02Piece)) (p1 : Tree) (r0 : (List GSemvcsref02Piece)) : Prop := ∀ (K : Ctx), PinB K [] → Go Tryz.prog K (bodyPost Tryz.prog Tryz.f124 (SP K (fun u G => u = .sl 1 ∧ G = ⟨2, [(1, .row 131 2 (List.map GSemvcsref02Piece.w r0))]⟩))) (.code (cT (cB (cE (cB (cE (cB (cE (cB (cE (cB (cE (cB (cE (cB (cE (cB (cE (cB (cE (cB (cE (cB (cE (cB (cE (cB (cE (cB (cE (cB (cE (cB (cE (cB (cE (cB (cK (cB (cA (cB (cB (bodyC Tryz.f124))))))))))))))))))))))))))))))))))))))))))) [.blk 0, .seq (cB (cB (cB (bodyC Tryz.f124))))] 365 (mkF 365 0 [(0, .sl 0), (3, .box (treeC p1) 0)]) ⟨1, [(0, .row 131 2 (List.map GSemvcsref02Piece.w p0))]⟩
theorem rS_semvcsref02_pieces (m : Nat) (p0 : (List GSemvcsref02Piece)) (p1 : Tree) (r0 : (List GSemvcsref02Piece)) (h : ((p1.kind = 1) → L0_semvcsref02_pieces m p0 p1 r0) ∧ ((p1.kind ≠ 1) → L1_semvcsref02_pieces m p0 p1 r0)) : S_semvcsref02_pieces p0 p1 r0 := by
  refine sum_enter 365 [] Tryz.func124 rfl rfl rfl (pv_of rfl) fun K hK => ?_
  refine gR 3 rfl ?_
  refine gFP 1 rfl rfl rfl rfl ?_
  refine gR 8 rfl ?_
  refine gV 9 (.int .i64 ((p1.kids.length : Nat) : Int)) rfl (lenI (lenK _)) rfl ?_
  refine gLB 8 rfl (lenK _) fun hl115 => ?_
  refine gR 17 rfl ?_
  refine gB 12 rfl rfl rfl (fun hd => ?_) (fun hd => ?_)
  · refine gT 13 rfl hd rfl ?_
    replace hd := (eq_of_beq hd)
    replace h := h.1 hd
    refine gR 1 rfl ?_
    exact gJ (h K hK) [0] [] rfl hK ⟨⟨_, rfl, .rfl⟩, ⟨_, rfl, .rfl⟩, ⟨_, rfl, .rfl⟩, trivial⟩ ⟨⟨_, rfl, ⟨rfl, rfl, (renM _ GSemvcsref02Piece.w (fun _ => rfl) p0).symm⟩⟩, trivial⟩ rfl
  · refine gF 13 rfl hd rfl ?_
    replace hd := (ne_of_beq_false hd)
    replace h := h.2 hd
    refine gR 1 rfl ?_
    exact gJ (h K hK) [0] [] rfl hK ⟨⟨_, rfl, .rfl⟩, ⟨_, rfl, .rfl⟩, ⟨_, rfl, .rfl⟩, ⟨_, rfl, .rfl⟩, trivial⟩ ⟨⟨_, rfl, ⟨rfl, rfl, (renM _ GSemvcsref02Piece.w (fun _ => rfl) p0).symm⟩⟩, trivial⟩ rfl
theorem rL0_semvcsref02_pieces (m : Nat) (p0 : (List GSemvcsref02Piece)) (p1 : Tree) (r0 : (List GSemvcsref02Piece)) (h : ∃ (s1_1 : (List UInt8)), S_semvcsref02_lead p1 0 s1_1 ∧ ∃ (s1_2 : (List UInt8)), S_semvcsref02_lead p1 1 s1_2 ∧ (p0 ++ [(GSemvcsref02Piece.mk s1_1 [109, 111, 100, 117, 108, 101]), (GSemvcsref02Piece.mk s1_2 p1.text)]).length ≤ 1000000000 ∧ L2_semvcsref02_pieces m p1 (p0 ++ [(GSemvcsref02Piece.mk s1_1 [109, 111, 100, 117, 108, 101]), (GSemvcsref02Piece.mk s1_2 p1.text)]) 0 r0) : L0_semvcsref02_pieces (m + 1) p0 p1 r0 := by
  intro K hK
  refine gR 1 rfl ?_
  refine gDs [] 12 12 rfl (by kernel_rfl) (by kernel_rfl) ?_
  refine gDr [(0, 2), (1, 2), (4, 2), (6, 2), (7, 2)] (by kernel_rfl) rfl rfl ?_
  obtain ⟨s1_1, hs116, h⟩ := h
  refine gDC0 2 hs116 (by kernel_rfl) rfl (by kernel_rfl) rfl rfl .rfl rfl rfl ?_
  refine gDr [(3, 2)] (by kernel_rfl) rfl rfl ?_
  obtain ⟨s1_2, hs117, h⟩ := h
  refine gDC0 5 hs117 (by kernel_rfl) rfl (by kernel_rfl) rfl rfl .rfl rfl rfl ?_
  refine gDr [(8, 0), (9, 0)] (by kernel_rfl) rfl rfl ?_
  obtain ⟨hb, h⟩ := h
  refine gDd1 10 (.repl 0 (.row 131 2 (List.map GSemvcsref02Piece.w (p0 ++ [(GSemvcsref02Piece.mk s1_1 [109, 111, 100, 117, 108, 101]), (GSemvcsref02Piece.mk s1_2 p1.text)])))) rfl (by kernel_rfl) (dAp' tabS_ok rfl rfl rfl rfl rfl (List.map_append (f := GSemvcsref02Piece.w) (l₁ := p0) (l₂ := [(GSemvcsref02Piece.mk s1_1 [109, 111, 100, 117, 108, 101]), (GSemvcsref02Piece.mk s1_2 p1.text)])).symm (by rw [lenM]; exact hb)) (okR rfl) rfl (by kernel_rfl) rfl rfl ?_
  refine gDr [(11, 0)] (by kernel_rfl) rfl rfl ?_
  refine gDe (by kernel_rfl) ?_
  refine gR 8 rfl ?_
  refine go_loop m ?_
  exact gJ (h K _ hK (by omega)) [2] [] rfl hK ⟨⟨_, rfl, .rfl⟩, ⟨_, rfl, .rfl⟩, ⟨_, rfl, .rfl⟩, ⟨_, rfl, .rfl⟩, trivial⟩ ⟨⟨_, rfl, ⟨rfl, rfl, (renM _ GSemvcsref02Piece.w (fun _ => rfl) (p0 ++ [(GSemvcsref02Piece.mk s1_1 [109, 111, 100, 117, 108, 101]), (GSemvcsref02Piece.mk s1_2 p1.text)])).symm⟩⟩, trivial⟩ rfl
theorem rL1_semvcsref02_pieces (m : Nat) (p0 : (List GSemvcsref02Piece)) (p1 : Tree) (r0 : (List GSemvcsref02Piece)) (h : ((p1.kind = 2) → L3_semvcsref02_pieces m p0 p1 r0) ∧ ((p1.kind ≠ 2) → L4_semvcsref02_pieces m p0 p1 r0)) : L1_semvcsref02_pieces (m + 1) p0 p1 r0 := by
  intro K hK
  refine gR 6 rfl ?_
  refine gB 43 rfl rfl rfl (fun hd => ?_) (fun hd => ?_)
  · refine gT 44 rfl hd rfl ?_
    replace hd := (eq_of_beq hd)
    replace h := h.1 hd
    refine gR 1 rfl ?_
    exact gJ (h K hK) [0] [] rfl hK ⟨⟨_, rfl, .rfl⟩, ⟨_, rfl, .rfl⟩, ⟨_, rfl, .rfl⟩, trivial⟩ ⟨⟨_, rfl, ⟨rfl, rfl, (renM _ GSemvcsref02Piece.w (fun _ => rfl) p0).symm⟩⟩, trivial⟩ rfl
  · refine gF 44 rfl hd rfl ?_
    replace hd := (ne_of_beq_false hd)
    replace h := h.2 hd
    refine gR 1 rfl ?_
    exact gJ (h K hK) [0] [] rfl hK ⟨⟨_, rfl, .rfl⟩, ⟨_, rfl, .rfl⟩, ⟨_, rfl, .rfl⟩, ⟨_, rfl, .rfl⟩, trivial⟩ ⟨⟨_, rfl, ⟨rfl, rfl, (renM _ GSemvcsref02Piece.w (fun _ => rfl) p0).symm⟩⟩, trivial⟩ rfl
theorem rL2_semvcsref02_pieces (m : Nat) (p1 : Tree) (l3v1 : (List GSemvcsref02Piece)) (i3v2 : Nat) (r0 : (List GSemvcsref02Piece)) (h : ((i3v2 < p1.kids.length) → ∃ (t3_1 : Tree), p1.kids[i3v2]? = some t3_1 ∧ ∃ (r3_2 : (List GSemvcsref02Piece)), S_semvcsref02_pieces l3v1 t3_1 r3_2 ∧ i3v2 + 1 ≤ 9223372036854775807 ∧ L2_semvcsref02_pieces m p1 r3_2 (i3v2 + 1) r0) ∧ ((¬ i3v2 < p1.kids.length) → ∃ (s3_3 : (List UInt8)), S_semvcsref02_lead p1 2 s3_3 ∧ (l3v1 ++ [(GSemvcsref02Piece.mk s3_3 [])]).length ≤ 1000000000 ∧ (l3v1 ++ [(GSemvcsref02Piece.mk s3_3 [])]) = r0)) : L2_semvcsref02_pieces (m + 1) p1 l3v1 i3v2 r0 := by
  intro K j1 hK hj1
  obtain ⟨j1, rfl⟩ : ∃ j, j1 = j + 1 := ⟨j1 - 1, by omega⟩
  refine gR 8 rfl ?_
  refine gB 27 rfl rfl rfl (fun hd => ?_) (fun hd => ?_)
  · replace hd := (natT hd)
    replace h := h.1 hd
    refine gR 10 rfl ?_
    obtain ⟨t3_1, hxt3_1, h⟩ := h
    refine gY (yIR' (kidsV_get hxt3_1) tabS_ok rfl rfl rfl rfl) rfl rfl ?_
    refine gR 1 rfl ?_
    obtain ⟨r3_2, hs118, h⟩ := h
    refine gC hs118 [0] (by kernel_rfl) rfl rfl .rfl ⟨⟨_, rfl, ⟨rfl, rfl, (renM _ GSemvcsref02Piece.w (fun _ => rfl) l3v1).symm⟩⟩, trivial⟩ rfl ?_
    rintro _ _ ⟨rfl, rfl⟩
    refine gHR 2 (List.map GSemvcsref02Piece.w r3_2) rfl (renM _ GSemvcsref02Piece.w (fun _ => rfl) r3_2) rfl ?_
    refine gR 6 rfl ?_
    obtain ⟨hb, h⟩ := h
    refine gR 1 rfl ?_
    refine gV 29 (.int .i64 ((i3v2 + 1 : Nat) : Int)) rfl (wrapI (by omega) (by omega)) rfl ?_
    refine gR 2 rfl ?_
    refine go_xloop ?_
    exact gJ (h K _ hK (by omega)) [2] [] rfl hK ⟨⟨_, rfl, .rfl⟩, ⟨_, rfl, .rfl⟩, ⟨_, rfl, .rfl⟩, ⟨_, rfl, .rfl⟩, trivial⟩ ⟨⟨_, rfl, ⟨rfl, rfl, (renM _ GSemvcsref02Piece.w (fun _ => rfl) r3_2).symm⟩⟩, trivial⟩ rfl
  · replace hd := (natF hd)
    replace h := h.2 hd
    refine gR 3 rfl ?_
    refine go_xloopE ?_
    refine gR 6 rfl ?_
    obtain ⟨s3_3, hs119, h⟩ := h
    refine gC0 hs119 (by kernel_rfl) rfl rfl .rfl rfl ?_
    refine gR 2 rfl ?_
    obtain ⟨hb, h⟩ := h
    refine gDo (.repl 0 (.row 131 2 (List.map GSemvcsref02Piece.w (l3v1 ++ [(GSemvcsref02Piece.mk s3_3 [])])))) (dAp' tabS_ok rfl rfl rfl rfl rfl (apM GSemvcsref02Piece.w l3v1 (GSemvcsref02Piece.mk s3_3 [])) (by rw [lenM]; exact hb)) (okR rfl) rfl rfl rfl ?_
    refine gR 6 rfl ?_
    subst h
    refine go_sub (F' := (mkF 365 0 [(4, .sl 1)])) (H' := ⟨2, [(1, .row 131 2 (List.map GSemvcsref02Piece.w (l3v1 ++ [(GSemvcsref02Piece.mk s3_3 [])])))]⟩) [1000, 2] [] rfl hK ⟨⟨_, rfl, .rfl⟩, trivial⟩ ⟨⟨_, rfl, ⟨rfl, rfl, (renM _ GSemvcsref02Piece.w (fun _ => rfl) (l3v1 ++ [(GSemvcsref02Piece.mk s3_3 [])])).symm⟩⟩, trivial⟩ rfl ?_
    exact go_endD [] tabS_ok (rs := [.tmp 4]) rfl rfl ⟨rfl, rfl⟩
theorem rL3_semvcsref02_pieces (m : Nat) (p0 : (List GSemvcsref02Piece)) (p1 : Tree) (r0 : (List GSemvcsref02Piece)) (h : ∃ (s4_1 : (List UInt8)), S_semvcsref02_lead p1 0 s4_1 ∧ ∃ (s4_2 : (List UInt8)), S_semvcsref02_lead p1 1 s4_2 ∧ ∃ (s4_3 : (List UInt8)), S_semvcsref02_lead p1 2 s4_3 ∧ (p0 ++ [(GSemvcsref02Piece.mk s4_1 [100, 101, 102]), (GSemvcsref02Piece.mk s4_2 p1.text), (GSemvcsref02Piece.mk s4_3 [40])]).length ≤ 1000000000 ∧ InI (((p1.kids.length : Nat) : Int) - 2) ∧ ∃ (r4_4 : (List GSemvcsref02Piece)), S_semvcsref02_row (p0 ++ [(GSemvcsref02Piece.mk s4_1 [100, 101, 102]), (GSemvcsref02Piece.mk s4_2 p1.text), (GSemvcsref02Piece.mk s4_3 [40])]) p1 0 (((p1.kids.length : Nat) : Int) - 2) 6 r4_4 ∧ ∃ (s4_5 : (List UInt8)), S_semvcsref02_lead p1 3 s4_5 ∧ ∃ (s4_6 : (List UInt8)), S_semvcsref02_lead p1 4 s4_6 ∧ (r4_4 ++ [(GSemvcsref02Piece.mk s4_5 [41]), (GSemvcsref02Piece.mk s4_6 [58])]).length ≤ 1000000000 ∧ InI (((p1.kids.length : Nat) : Int) - 2) ∧ ∃ (k4_7 : Nat), (((p1.kids.length : Nat) : Int) - 2) = ((k4_7 : Nat) : Int) ∧ ∃ (t4_8 : Tree), p1.kids[k4_7]? = some t4_8 ∧ ∃ (r4_9 : (List GSemvcsref02Piece)), S_semvcsref02_pieces (r4_4 ++ [(GSemvcsref02Piece.mk s4_5 [41]), (GSemvcsref02Piece.mk s4_6 [58])]) t4_8 r4_9 ∧ ∃ (s4_10 : (List UInt8)), S_semvcsref02_lead p1 5 s4_10 ∧ (r4_9 ++ [(GSemvcsref02Piece.mk s4_10 [61])]).length ≤ 1000000000 ∧ InI (((p1.kids.length : Nat) : Int) - 1) ∧ ∃ (k4_11 : Nat), (((p1.kids.length : Nat) : Int) - 1) = ((k4_11 : Nat) : Int) ∧ ∃ (t4_12 : Tree), p1.kids[k4_11]? = some t4_12 ∧ ∃ (r4_13 : (List GSemvcsref02Piece)), S_semvcsref02_pieces (r4_9 ++ [(GSemvcsref02Piece.mk s4_10 [61])]) t4_12 r4_13 ∧ r4_13 = r0) : L3_semvcsref02_pieces (m + 1) p0 p1 r0 := by
  intro K hK
  refine gR 1 rfl ?_
  refine gDs [] 15 15 rfl (by kernel_rfl) (by kernel_rfl) ?_
  refine gDr [(0, 2), (1, 2), (4, 2), (6, 2), (7, 2), (9, 2)] (by kernel_rfl) rfl rfl ?_
  obtain ⟨s4_1, hs120, h⟩ := h
  refine gDC0 2 hs120 (by kernel_rfl) rfl (by kernel_rfl) rfl rfl .rfl rfl rfl ?_
  refine gDr [(3, 2)] (by kernel_rfl) rfl rfl ?_
  obtain ⟨s4_2, hs121, h⟩ := h
  refine gDC0 5 hs121 (by kernel_rfl) rfl (by kernel_rfl) rfl rfl .rfl rfl rfl ?_
  refine gDr [(8, 2)] (by kernel_rfl) rfl rfl ?_
  obtain ⟨s4_3, hs122, h⟩ := h
  refine gDC0 10 hs122 (by kernel_rfl) rfl (by kernel_rfl) rfl rfl .rfl rfl rfl ?_
  refine gDr [(11, 0), (12, 0)] (by kernel_rfl) rfl rfl ?_
  obtain ⟨hb, h⟩ := h
  refine gDd1 13 (.repl 0 (.row 131 2 (List.map GSemvcsref02Piece.w (p0 ++ [(GSemvcsref02Piece.mk s4_1 [100, 101, 102]), (GSemvcsref02Piece.mk s4_2 p1.text), (GSemvcsref02Piece.mk s4_3 [40])])))) rfl (by kernel_rfl) (dAp' tabS_ok rfl rfl rfl rfl rfl (List.map_append (f := GSemvcsref02Piece.w) (l₁ := p0) (l₂ := [(GSemvcsref02Piece.mk s4_1 [100, 101, 102]), (GSemvcsref02Piece.mk s4_2 p1.text), (GSemvcsref02Piece.mk s4_3 [40])])).symm (by rw [lenM]; exact hb)) (okR rfl) rfl (by kernel_rfl) rfl rfl ?_
  refine gDr [(14, 0)] (by kernel_rfl) rfl rfl ?_
  refine gDe (by kernel_rfl) ?_
  refine gR 6 rfl ?_
  obtain ⟨hb, h⟩ := h
  refine gR 1 rfl ?_
  refine gV 62 (.int .i64 (((p1.kids.length : Nat) : Int) - 2)) rfl (wrapI hb rfl) rfl ?_
  obtain ⟨r4_4, hs123, h⟩ := h
  refine gC hs123 [2] (by kernel_rfl) rfl rfl .rfl ⟨⟨_, rfl, ⟨rfl, rfl, (renM _ GSemvcsref02Piece.w (fun _ => rfl) (p0 ++ [(GSemvcsref02Piece.mk s4_1 [100, 101, 102]), (GSemvcsref02Piece.mk s4_2 p1.text), (GSemvcsref02Piece.mk s4_3 [40])])).symm⟩⟩, trivial⟩ rfl ?_
  rintro _ _ ⟨rfl, rfl⟩
  refine gHR 4 (List.map GSemvcsref02Piece.w r4_4) rfl (renM _ GSemvcsref02Piece.w (fun _ => rfl) r4_4) rfl ?_
  refine gR 4 rfl ?_
  refine gDs [] 10 10 rfl (by kernel_rfl) (by kernel_rfl) ?_
  refine gDr [(0, 2), (1, 2), (4, 2)] (by kernel_rfl) rfl rfl ?_
  obtain ⟨s4_5, hs124, h⟩ := h
  refine gDC0 2 hs124 (by kernel_rfl) rfl (by kernel_rfl) rfl rfl .rfl rfl rfl ?_
  refine gDr [(3, 2)] (by kernel_rfl) rfl rfl ?_
  obtain ⟨s4_6, hs125, h⟩ := h
  refine gDC0 5 hs125 (by kernel_rfl) rfl (by kernel_rfl) rfl rfl .rfl rfl rfl ?_
  refine gDr [(6, 0), (7, 0)] (by kernel_rfl) rfl rfl ?_
  obtain ⟨hb, h⟩ := h
  refine gDd1 8 (.repl 4 (.row 131 2 (List.map GSemvcsref02Piece.w (r4_4 ++ [(GSemvcsref02Piece.mk s4_5 [41]), (GSemvcsref02Piece.mk s4_6 [58])])))) rfl (by kernel_rfl) (dAp' tabS_ok rfl rfl rfl rfl rfl (List.map_append (f := GSemvcsref02Piece.w) (l₁ := r4_4) (l₂ := [(GSemvcsref02Piece.mk s4_5 [41]), (GSemvcsref02Piece.mk s4_6 [58])])).symm (by rw [lenM]; exact hb)) (okR rfl) rfl (by kernel_rfl) rfl rfl ?_
  refine gDr [(9, 0)] (by kernel_rfl) rfl rfl ?_
  refine gDe (by kernel_rfl) ?_
  refine gR 2 rfl ?_
  refine gDs [] 14 14 rfl (by kernel_rfl) (by kernel_rfl) ?_
  refine gDr [(0, 2), (1, 2), (2, 2), (3, 2)] (by kernel_rfl) rfl rfl ?_
  obtain ⟨hb, h⟩ := h
  refine gDr [(4, 2)] (by kernel_rfl) rfl rfl ?_
  refine gV 77 (.int .i64 (((p1.kids.length : Nat) : Int) - 2)) rfl (wrapI hb rfl) rfl ?_
  obtain ⟨k4_7, ek4_7, h⟩ := h
  refine gV 77 (.int .i64 ((k4_7 : Nat) : Int)) rfl (lenI' ek4_7) rfl ?_
  obtain ⟨t4_8, hxt4_8, h⟩ := h
  refine gYd 5 rfl (by kernel_rfl) (yIR' (kidsV_get hxt4_8) tabS_ok rfl rfl rfl rfl) rfl rfl ?_
  refine gDr [(6, 2), (8, 2)] (by kernel_rfl) rfl rfl ?_
  obtain ⟨r4_9, hs126, h⟩ := h
  refine gDC 7 hs126 [6] (by kernel_rfl) rfl (by kernel_rfl) rfl rfl .rfl ⟨⟨_, rfl, ⟨rfl, rfl, (renM _ GSemvcsref02Piece.w (fun _ => rfl) (r4_4 ++ [(GSemvcsref02Piece.mk s4_5 [41]), (GSemvcsref02Piece.mk s4_6 [58])])).symm⟩⟩, trivial⟩ (by kernel_rfl) rfl ?_
  rintro _ _ ⟨rfl, rfl⟩
  refine gHR 8 (List.map GSemvcsref02Piece.w r4_9) rfl (renM _ GSemvcsref02Piece.w (fun _ => rfl) r4_9) rfl ?_
  obtain ⟨s4_10, hs127, h⟩ := h
  refine gDC0 9 hs127 (by kernel_rfl) rfl (by kernel_rfl) rfl rfl .rfl rfl rfl ?_
  refine gDr [(10, 0), (11, 0)] (by kernel_rfl) rfl rfl ?_
  obtain ⟨hb, h⟩ := h
  refine gDd1 12 (.repl 8 (.row 131 2 (List.map GSemvcsref02Piece.w (r4_9 ++ [(GSemvcsref02Piece.mk s4_10 [61])])))) rfl (by kernel_rfl) (dAp' tabS_ok rfl rfl rfl rfl rfl (apM GSemvcsref02Piece.w r4_9 (GSemvcsref02Piece.mk s4_10 [61])) (by rw [lenM]; exact hb)) (okR rfl) rfl (by kernel_rfl) rfl rfl ?_
  refine gDr [(13, 0)] (by kernel_rfl) rfl rfl ?_
  refine gDe (by kernel_rfl) ?_
  refine gR 1 rfl ?_
  refine go_sub (F' := (mkF 365 0 [(0, .sl 0), (3, .box (treeC p1) 0), (5, .int .i64 ((p1.kids.length : Nat) : Int))])) (H' := ⟨1, [(0, .row 131 2 (List.map GSemvcsref02Piece.w (r4_9 ++ [(GSemvcsref02Piece.mk s4_10 [61])])))]⟩) [10] [] rfl hK ⟨⟨_, rfl, .rfl⟩, ⟨_, rfl, .rfl⟩, ⟨_, rfl, .rfl⟩, trivial⟩ ⟨⟨_, rfl, ⟨rfl, rfl, (renM _ GSemvcsref02Piece.w (fun _ => rfl) (r4_9 ++ [(GSemvcsref02Piece.mk s4_10 [61])])).symm⟩⟩, trivial⟩ rfl ?_
  refine gR 6 rfl ?_
  obtain ⟨hb, h⟩ := h
  refine gR 1 rfl ?_
  refine gV 90 (.int .i64 (((p1.kids.length : Nat) : Int) - 1)) rfl (wrapI hb rfl) rfl ?_
  obtain ⟨k4_11, ek4_11, h⟩ := h
  refine gV 90 (.int .i64 ((k4_11 : Nat) : Int)) rfl (lenI' ek4_11) rfl ?_
  obtain ⟨t4_12, hxt4_12, h⟩ := h
  refine gY (yIR' (kidsV_get hxt4_12) tabS_ok rfl rfl rfl rfl) rfl rfl ?_
  refine gR 1 rfl ?_
  obtain ⟨r4_13, hs128, h⟩ := h
  refine gC hs128 [0] (by kernel_rfl) rfl rfl .rfl ⟨⟨_, rfl, ⟨rfl, rfl, (renM _ GSemvcsref02Piece.w (fun _ => rfl) (r4_9 ++ [(GSemvcsref02Piece.mk s4_10 [61])])).symm⟩⟩, trivial⟩ rfl ?_
  rintro _ _ ⟨rfl, rfl⟩
  refine gHR 2 (List.map GSemvcsref02Piece.w r4_13) rfl (renM _ GSemvcsref02Piece.w (fun _ => rfl) r4_13) rfl ?_
  refine gR 6 rfl ?_
  subst h
  refine go_sub (F' := (mkF 365 0 [(4, .sl 1)])) (H' := ⟨2, [(1, .row 131 2 (List.map GSemvcsref02Piece.w r4_13))]⟩) [1000, 2] [] rfl hK ⟨⟨_, rfl, .rfl⟩, trivial⟩ ⟨⟨_, rfl, ⟨rfl, rfl, (renM _ GSemvcsref02Piece.w (fun _ => rfl) r4_13).symm⟩⟩, trivial⟩ rfl ?_
  exact go_endD [] tabS_ok (rs := [.tmp 4]) rfl rfl ⟨rfl, rfl⟩
end Go.Proofs.YteglbnopdedadaaGreat
