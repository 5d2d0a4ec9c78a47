/- Contracts of the functions that the law reaches, part 5. -/
import Derived.Test.YthnohcipianijaaGreatDoorWa4
set_option linter.unusedVariables false
set_option linter.unusedSimpArgs false
namespace Go.Proofs.YthnohcipianijaaGreatDoor
open Go.RowKit Lx Sx
set_option maxRecDepth 100000
set_option maxHeartbeats 1100000
theorem tC : dV fc (iJ jK 5000 27 [.str tK]) = true := by kernel_rfl
theorem kn : kbulk [fc] ≤ 1100000 := by decide +kernel
theorem vG : (bu [fc] 0 0 [dI 2] 100).2 = (25, 0) ∧ sameD (bu [fc] 0 0 [dI 2] 100).1 (dI 3) = true ∧ cy (bu [fc] 0 0 [dI 2] 100).1 = true := by decide +kernel
theorem we : (bu [fc] 0 0 [dI 2] 5).2 = (5, 21) := by decide +kernel
theorem sI : eP true := by
 obtain ⟨a1, a2, a3⟩ := vG
 have a4 := we
 have r1 := qT kn 0 0 [dI 2] (by simp) 100
 have r2 := qT kn 0 0 [dI 2] (by simp) 5
 have hw := ut kn 0 0 [dI 2] 100
 have hn := qX (bu [fc] 0 0 [dI 2] 100).1
 revert a1 a2 a3 a4 r1 r2 hw hn
 generalize bu [fc] 0 0 [dI 2] 100 = x
 generalize bu [fc] 0 0 [dI 2] 5 = y
 obtain ⟨x1, x2, x3⟩ := x
 obtain ⟨y1, y2, y3⟩ := y
 intro a1 a2 a3 a4 r1 r2 hw hn
 simp only [Prod.mk.injEq] at a1 a2 a3 a4 r1 r2 hw hn
 obtain ⟨rfl, rfl⟩ := a1
 obtain ⟨rfl, rfl⟩ := a4
 refine iL 5 _ ⟨fc, 0, 0, gX tC, _, bl 2, _, _, _, r1, it 4 _ _ _ _ _ _ ⟨_, bl 2, _, _, _, r2, iu 3 _ _ _ _ _ _ _ ⟨fun _ => ⟨fun _ => ⟨fun _ => ⟨_, bl 3, _, io x1 (by omega) _, fun _ => ⟨fun _ => ⟨fun _ => ⟨_, pT x1, a3⟩, fun h => absurd rfl h⟩, fun h => absurd rfl h⟩, fun h => by rw [a2] at h; cases h⟩, fun h => absurd rfl h⟩, fun h => absurd rfl h⟩, fun h => absurd rfl h⟩⟩⟩
theorem aw9 : fH true := sI
end Go.Proofs.YthnohcipianijaaGreatDoor
namespace Go.Proofs.YthnohcipianijaaGreatDoor
open Go.RowKit Lx Sx
set_option maxHeartbeats 1000000
def Dc (L : List Int) (a : Int) : Prop := 0 ≤ a ∧ a ≤ L.length ∧ L.length ≤ 1000000000
def Gt (L : List Int) (C : Tree → Int → Prop) (B : Nat) : Prop := ∃ t a', C t a' ∧ Dc L a' ∧ tbulk t ≤ B
theorem Gt.map {L : List Int} {C C' : Tree → Int → Prop} {B B' : Nat} (h : Gt L C B) (hb : B ≤ B') (k : ∀ t a', C t a' → C' t a') : Gt L C' B' := by
 obtain ⟨t, a', h1, h2, h3⟩ := h; exact ⟨t, a', k t a' h1, h2, by omega⟩
section
variable {L : List Int} {d a z : Int} {t : Tree} {a' : Int} {m : Nat}
end
end Go.Proofs.YthnohcipianijaaGreatDoor
namespace Go.Proofs.YthnohcipianijaaGreatDoor
open Go.RowKit Lx Sx
set_option maxRecDepth 100000
set_option maxHeartbeats 1000000
abbrev P9 : List Tree := [fc]
def bIf : Tree := ao (aJ P9 0 0) 2
def bLt : Tree := ao bIf 0
def bZ : Tree := ao bIf 1
def sq : Tree := ao bIf 2
def bN1 : Tree := ao bLt 0
def xu : Tree := ao bLt 1
def bN2 : Tree := ao sq 0
def xo : Tree := ao sq 1
def xR : Tree := ao xo 0
def tG : Tree := ao xR 0
def bN3 : Tree := ao tG 0
def xb : Tree := ao tG 1
theorem wR {t : Tree} (h : t.kids.length = 2) : t.kids = [ao t 0, ao t 1] := by
 unfold ao
 match hk : t.kids, h with
 | [a, b], _ => rfl
theorem t9 : bLt.text = [60] ∧ jB bZ.text 0 = 0 ∧ sq.text = [43] ∧ bN1.text = [110] ∧ jB xu.text 0 = 1 ∧ bN2.text = [110] ∧ tG.text = [45] ∧ bN3.text = [110] ∧ jB xb.text 0 = 1 := by decide +kernel
end Go.Proofs.YthnohcipianijaaGreatDoor
namespace Go.Proofs.YthnohcipianijaaGreatDoor
open Go.RowKit Lx Sx
set_option maxRecDepth 100000
set_option maxHeartbeats 4000000
def dX (p0 p1 : Int) (r0 : Bool) : Prop := qS 10 [.int .i64 p0, .int .i64 p1] (.bool r0)
def aR (m : Nat) (p0 p1 : Int) (a b c : GDatum) (d e : Nat) (r0 : Bool) : Prop := ∀ (K : Ctx), aC K [] → qLG K Tryz.f10 (fun u _ => u = .bool r0) (xJ (ai Tryz.f10)) [.loop (xJ (ai Tryz.f10)) 8, .blk 0, .seq (xD (xA (ai Tryz.f10)))] 85 (mkF 85 0 [(0, .int .i64 p0), (1, .int .i64 p1), (5, .ptr 0 0), (6, .ptr 1 0), (7, .int .i64 0)]) ⟨2, [(1, .var 50 [.int .i64 a.Kind, .int .i64 a.N, .str a.S, .row 4 (GDatum.vs a.L), .int .i64 b.Kind, .int .i64 b.N, .str b.S, .row 4 (GDatum.vs b.L), .int .i64 c.Kind, .int .i64 c.N, .str c.S, .row 4 (GDatum.vs c.L), .int .i64 3, .int .i64 (e : Int), .str [], .nils, .int .i64 3, .int .i64 (d : Int), .str [], .nils]), (0, .var 49 [.str [43], .str [45], .str [42], .str [60], .str [61, 61]])]⟩
def dx (m : Nat) (p0 p1 : Int) (a b d : GDatum) (e f : Nat) (g : Int) (i : GDatum) (j k : Int) (r0 : Bool) : Prop := ∀ (K : Ctx), aC K [] → Go Tryz.prog K (bodyPost Tryz.prog Tryz.f10 (SP K (fun u _ => u = .bool r0))) (.ex .normal) [.seq (xA (cK (cA (cB (xJ (ai Tryz.f10)))))), .blk 1, .seq (xA (xJ (ai Tryz.f10))), .loop (xJ (ai Tryz.f10)) 8, .blk 0, .seq (xD (xA (ai Tryz.f10)))] 85 (mkF 85 0 [(0, .int .i64 p0), (1, .int .i64 p1), (5, .ptr 0 0), (6, .ptr 1 0), (7, .int .i64 0), (10, .int .i64 g), (11, .ptr 2 0), (12, .int .i64 j), (13, .int .i64 k)]) ⟨3, [(2, .var 24 (GDatum.c i)), (1, .var 50 [.int .i64 a.Kind, .int .i64 a.N, .str a.S, .row 4 (GDatum.vs a.L), .int .i64 b.Kind, .int .i64 b.N, .str b.S, .row 4 (GDatum.vs b.L), .int .i64 d.Kind, .int .i64 d.N, .str d.S, .row 4 (GDatum.vs d.L), .int .i64 3, .int .i64 (f : Int), .str [], .nils, .int .i64 3, .int .i64 (e : Int), .str [], .nils]), (0, .var 49 [.str [43], .str [45], .str [42], .str [60], .str [61, 61]])]⟩
def dO (m : Nat) (p0 p1 : Int) (a b c : GDatum) (d e : Nat) (r0 : Bool) : Prop := ∀ (K : Ctx), aC K [] → qLG K Tryz.f10 (fun u _ => u = .bool r0) (xJ (ai Tryz.f10)) [.loop (xJ (ai Tryz.f10)) 7, .blk 0, .seq (xD (xA (ai Tryz.f10)))] 85 (mkF 85 0 [(0, .int .i64 p0), (1, .int .i64 p1), (5, .ptr 0 0), (6, .ptr 1 0), (7, .int .i64 1)]) ⟨2, [(1, .var 50 [.int .i64 a.Kind, .int .i64 a.N, .str a.S, .row 4 (GDatum.vs a.L), .int .i64 b.Kind, .int .i64 b.N, .str b.S, .row 4 (GDatum.vs b.L), .int .i64 c.Kind, .int .i64 c.N, .str c.S, .row 4 (GDatum.vs c.L), .int .i64 3, .int .i64 (e : Int), .str [], .nils, .int .i64 3, .int .i64 (d : Int), .str [], .nils]), (0, .var 49 [.str [43], .str [45], .str [42], .str [60], .str [61, 61]])]⟩
def dH (m : Nat) (p0 p1 : Int) (a b d : GDatum) (e f : Nat) (g : Int) (i : GDatum) (j k : Int) (r0 : Bool) : Prop := ∀ (K : Ctx), aC K [] → Go Tryz.prog K (bodyPost Tryz.prog Tryz.f10 (SP K (fun u _ => u = .bool r0))) (.ex .normal) [.seq (xA (cK (cA (cB (xJ (ai Tryz.f10)))))), .blk 1, .seq (xA (xJ (ai Tryz.f10))), .loop (xJ (ai Tryz.f10)) 7, .blk 0, .seq (xD (xA (ai Tryz.f10)))] 85 (mkF 85 0 [(0, .int .i64 p0), (1, .int .i64 p1), (5, .ptr 0 0), (6, .ptr 1 0), (7, .int .i64 1), (10, .int .i64 g), (11, .ptr 2 0), (12, .int .i64 j), (13, .int .i64 k)]) ⟨3, [(2, .var 24 (GDatum.c i)), (1, .var 50 [.int .i64 a.Kind, .int .i64 a.N, .str a.S, .row 4 (GDatum.vs a.L), .int .i64 b.Kind, .int .i64 b.N, .str b.S, .row 4 (GDatum.vs b.L), .int .i64 d.Kind, .int .i64 d.N, .str d.S, .row 4 (GDatum.vs d.L), .int .i64 3, .int .i64 (f : Int), .str [], .nils, .int .i64 3, .int .i64 (e : Int), .str [], .nils]), (0, .var 49 [.str [43], .str [45], .str [42], .str [60], .str [61, 61]])]⟩
def dP (m : Nat) (p0 p1 : Int) (a b c : GDatum) (d e : Nat) (r0 : Bool) : Prop := ∀ (K : Ctx), aC K [] → qLG K Tryz.f10 (fun u _ => u = .bool r0) (xJ (ai Tryz.f10)) [.loop (xJ (ai Tryz.f10)) 6, .blk 0, .seq (xD (xA (ai Tryz.f10)))] 85 (mkF 85 0 [(0, .int .i64 p0), (1, .int .i64 p1), (5, .ptr 0 0), (6, .ptr 1 0), (7, .int .i64 2)]) ⟨2, [(1, .var 50 [.int .i64 a.Kind, .int .i64 a.N, .str a.S, .row 4 (GDatum.vs a.L), .int .i64 b.Kind, .int .i64 b.N, .str b.S, .row 4 (GDatum.vs b.L), .int .i64 c.Kind, .int .i64 c.N, .str c.S, .row 4 (GDatum.vs c.L), .int .i64 3, .int .i64 (e : Int), .str [], .nils, .int .i64 3, .int .i64 (d : Int), .str [], .nils]), (0, .var 49 [.str [43], .str [45], .str [42], .str [60], .str [61, 61]])]⟩
def dD (m : Nat) (p0 p1 : Int) (a b d : GDatum) (e f : Nat) (g : Int) (i : GDatum) (j k : Int) (r0 : Bool) : Prop := ∀ (K : Ctx), aC K [] → Go Tryz.prog K (bodyPost Tryz.prog Tryz.f10 (SP K (fun u _ => u = .bool r0))) (.ex .normal) [.seq (xA (cK (cA (cB (xJ (ai Tryz.f10)))))), .blk 1, .seq (xA (xJ (ai Tryz.f10))), .loop (xJ (ai Tryz.f10)) 6, .blk 0, .seq (xD (xA (ai Tryz.f10)))] 85 (mkF 85 0 [(0, .int .i64 p0), (1, .int .i64 p1), (5, .ptr 0 0), (6, .ptr 1 0), (7, .int .i64 2), (10, .int .i64 g), (11, .ptr 2 0), (12, .int .i64 j), (13, .int .i64 k)]) ⟨3, [(2, .var 24 (GDatum.c i)), (1, .var 50 [.int .i64 a.Kind, .int .i64 a.N, .str a.S, .row 4 (GDatum.vs a.L), .int .i64 b.Kind, .int .i64 b.N, .str b.S, .row 4 (GDatum.vs b.L), .int .i64 d.Kind, .int .i64 d.N, .str d.S, .row 4 (GDatum.vs d.L), .int .i64 3, .int .i64 (f : Int), .str [], .nils, .int .i64 3, .int .i64 (e : Int), .str [], .nils]), (0, .var 49 [.str [43], .str [45], .str [42], .str [60], .str [61, 61]])]⟩
def dJ (m : Nat) (p0 p1 : Int) (a b c : GDatum) (d e : Nat) (r0 : Bool) : Prop := ∀ (K : Ctx), aC K [] → qLG K Tryz.f10 (fun u _ => u = .bool r0) (xJ (ai Tryz.f10)) [.loop (xJ (ai Tryz.f10)) 5, .blk 0, .seq (xD (xA (ai Tryz.f10)))] 85 (mkF 85 0 [(0, .int .i64 p0), (1, .int .i64 p1), (5, .ptr 0 0), (6, .ptr 1 0), (7, .int .i64 3)]) ⟨2, [(1, .var 50 [.int .i64 a.Kind, .int .i64 a.N, .str a.S, .row 4 (GDatum.vs a.L), .int .i64 b.Kind, .int .i64 b.N, .str b.S, .row 4 (GDatum.vs b.L), .int .i64 c.Kind, .int .i64 c.N, .str c.S, .row 4 (GDatum.vs c.L), .int .i64 3, .int .i64 (e : Int), .str [], .nils, .int .i64 3, .int .i64 (d : Int), .str [], .nils]), (0, .var 49 [.str [43], .str [45], .str [42], .str [60], .str [61, 61]])]⟩
def dy (m : Nat) (p0 p1 : Int) (a b d : GDatum) (e f : Nat) (g : Int) (i : GDatum) (j k : Int) (r0 : Bool) : Prop := ∀ (K : Ctx), aC K [] → Go Tryz.prog K (bodyPost Tryz.prog Tryz.f10 (SP K (fun u _ => u = .bool r0))) (.ex .normal) [.seq (xA (cK (cA (cB (xJ (ai Tryz.f10)))))), .blk 1, .seq (xA (xJ (ai Tryz.f10))), .loop (xJ (ai Tryz.f10)) 5, .blk 0, .seq (xD (xA (ai Tryz.f10)))] 85 (mkF 85 0 [(0, .int .i64 p0), (1, .int .i64 p1), (5, .ptr 0 0), (6, .ptr 1 0), (7, .int .i64 3), (10, .int .i64 g), (11, .ptr 2 0), (12, .int .i64 j), (13, .int .i64 k)]) ⟨3, [(2, .var 24 (GDatum.c i)), (1, .var 50 [.int .i64 a.Kind, .int .i64 a.N, .str a.S, .row 4 (GDatum.vs a.L), .int .i64 b.Kind, .int .i64 b.N, .str b.S, .row 4 (GDatum.vs b.L), .int .i64 d.Kind, .int .i64 d.N, .str d.S, .row 4 (GDatum.vs d.L), .int .i64 3, .int .i64 (f : Int), .str [], .nils, .int .i64 3, .int .i64 (e : Int), .str [], .nils]), (0, .var 49 [.str [43], .str [45], .str [42], .str [60], .str [61, 61]])]⟩
def dK (m : Nat) (p0 p1 : Int) (a b c : GDatum) (d e : Nat) (r0 : Bool) : Prop := ∀ (K : Ctx), aC K [] → qLG K Tryz.f10 (fun u _ => u = .bool r0) (xJ (ai Tryz.f10)) [.loop (xJ (ai Tryz.f10)) 4, .blk 0, .seq (xD (xA (ai Tryz.f10)))] 85 (mkF 85 0 [(0, .int .i64 p0), (1, .int .i64 p1), (5, .ptr 0 0), (6, .ptr 1 0), (7, .int .i64 4)]) ⟨2, [(1, .var 50 [.int .i64 a.Kind, .int .i64 a.N, .str a.S, .row 4 (GDatum.vs a.L), .int .i64 b.Kind, .int .i64 b.N, .str b.S, .row 4 (GDatum.vs b.L), .int .i64 c.Kind, .int .i64 c.N, .str c.S, .row 4 (GDatum.vs c.L), .int .i64 3, .int .i64 (e : Int), .str [], .nils, .int .i64 3, .int .i64 (d : Int), .str [], .nils]), (0, .var 49 [.str [43], .str [45], .str [42], .str [60], .str [61, 61]])]⟩
def dG (m : Nat) (p0 p1 : Int) (a b d : GDatum) (e f : Nat) (g : Int) (i : GDatum) (j k : Int) (r0 : Bool) : Prop := ∀ (K : Ctx), aC K [] → Go Tryz.prog K (bodyPost Tryz.prog Tryz.f10 (SP K (fun u _ => u = .bool r0))) (.ex .normal) [.seq (xA (cK (cA (cB (xJ (ai Tryz.f10)))))), .blk 1, .seq (xA (xJ (ai Tryz.f10))), .loop (xJ (ai Tryz.f10)) 4, .blk 0, .seq (xD (xA (ai Tryz.f10)))] 85 (mkF 85 0 [(0, .int .i64 p0), (1, .int .i64 p1), (5, .ptr 0 0), (6, .ptr 1 0), (7, .int .i64 4), (10, .int .i64 g), (11, .ptr 2 0), (12, .int .i64 j), (13, .int .i64 k)]) ⟨3, [(2, .var 24 (GDatum.c i)), (1, .var 50 [.int .i64 a.Kind, .int .i64 a.N, .str a.S, .row 4 (GDatum.vs a.L), .int .i64 b.Kind, .int .i64 b.N, .str b.S, .row 4 (GDatum.vs b.L), .int .i64 d.Kind, .int .i64 d.N, .str d.S, .row 4 (GDatum.vs d.L), .int .i64 3, .int .i64 (f : Int), .str [], .nils, .int .i64 3, .int .i64 (e : Int), .str [], .nils]), (0, .var 49 [.str [43], .str [45], .str [42], .str [60], .str [61, 61]])]⟩
def dq (m : Nat) (p0 p1 : Int) (a b c : GDatum) (d e : Nat) (r0 : Bool) : Prop := ∀ (K : Ctx), aC K [] → qLG K Tryz.f10 (fun u _ => u = .bool r0) (xJ (ai Tryz.f10)) [.loop (xJ (ai Tryz.f10)) 3, .blk 0, .seq (xD (xA (ai Tryz.f10)))] 85 (mkF 85 0 [(0, .int .i64 p0), (1, .int .i64 p1), (5, .ptr 0 0), (6, .ptr 1 0), (7, .int .i64 5)]) ⟨2, [(1, .var 50 [.int .i64 a.Kind, .int .i64 a.N, .str a.S, .row 4 (GDatum.vs a.L), .int .i64 b.Kind, .int .i64 b.N, .str b.S, .row 4 (GDatum.vs b.L), .int .i64 c.Kind, .int .i64 c.N, .str c.S, .row 4 (GDatum.vs c.L), .int .i64 3, .int .i64 (e : Int), .str [], .nils, .int .i64 3, .int .i64 (d : Int), .str [], .nils]), (0, .var 49 [.str [43], .str [45], .str [42], .str [60], .str [61, 61]])]⟩
theorem hD (m : Nat) (p0 p1 : Int) (r0 : Bool) (h : ∃ a, au (IntKind.i64.wrap (p0 + p1)) a ∧ ∃ b, au (IntKind.i64.wrap (p0 - p1)) b ∧ ∃ c, au (IntKind.i64.wrap (p0 * p1)) c ∧ ((p0 < p1) → ((p0 = p1) → aR m p0 p1 a b c 1 1 r0) ∧ ((p0 ≠ p1) → aR m p0 p1 a b c 0 1 r0)) ∧ ((¬ p0 < p1) → ((p0 = p1) → aR m p0 p1 a b c 1 0 r0) ∧ ((p0 ≠ p1) → aR m p0 p1 a b c 0 0 r0))) : dX p0 p1 r0 := by
 refine ⟨rfl, rfl, ?_⟩
 refine av 85 [] Tryz.func10 rfl rfl rfl (aI rfl) fun K hK => ?_
 refine gR 17 rfl <| gV 17 (.int .i64 (IntKind.i64.wrap (p0 + p1))) rfl (rfl) rfl ?_
 obtain ⟨a, hs289, h⟩ := h
 refine gC0 hs289 (by kernel_rfl) rfl rfl .rfl rfl <| gR 3 rfl <| gV 21 (.int .i64 (IntKind.i64.wrap (p0 - p1))) rfl (rfl) rfl ?_
 obtain ⟨b, hs290, h⟩ := h
 refine gC0 hs290 (by kernel_rfl) rfl rfl .rfl rfl <| gR 2 rfl <| gY (tW rfl rfl) rfl rfl ?_
 obtain ⟨c, hs291, h⟩ := h
 refine gC0 hs291 (by kernel_rfl) rfl rfl .rfl rfl <| gR 15 rfl <| qBd 32 rfl rfl rfl h (fun h => ?_) fun h => ?_
 refine gR 2 rfl <| gY (yIP (len := 5) (e := 24) (sz := 4) ab rfl rfl rfl rfl rfl rfl rfl rfl) rfl rfl <| gR 12 rfl <| qBe 37 rfl rfl rfl h (fun h => ?_) fun h => ?_
 exact gR 2 rfl <| gY (yIP (len := 5) (e := 24) (sz := 4) ab rfl rfl rfl rfl rfl rfl rfl rfl) rfl rfl <| gR 11 rfl <| go_loop 8 <| gJ (h K hK) [0, 1] [] rfl hK pq5 (pqo2 rfl rfl rfl rfl) rfl
 exact gR 10 rfl <| go_loop 8 <| gJ (h K hK) [0, 1] [] rfl hK pq5 (pqo2 rfl rfl rfl rfl) rfl
 refine gR 11 rfl <| qBe 37 rfl rfl rfl h (fun h => ?_) fun h => ?_
 exact gR 2 rfl <| gY (yIP (len := 5) (e := 24) (sz := 4) ab rfl rfl rfl rfl rfl rfl rfl rfl) rfl rfl <| gR 11 rfl <| go_loop 8 <| gJ (h K hK) [0, 1] [] rfl hK pq5 (pqo2 rfl rfl rfl rfl) rfl
 exact gR 10 rfl <| go_loop 8 <| gJ (h K hK) [0, 1] [] rfl hK pq5 (pqo2 rfl rfl rfl rfl) rfl
theorem gE (m : Nat) (p0 p1 : Int) (n o p : GDatum) (q r : Nat) (r0 : Bool) (h : [109, 111, 100, 117, 108, 101, 32, 77, 32, 100, 101, 102, 32, 102, 40, 97, 58, 32, 73, 110, 116, 44, 32, 98, 58, 32, 73, 110, 116, 41, 58, 32, 73, 110, 116, 32, 61, 32, 97, 32].length + [43].length ≤ 9223372036854775807 ∧ ([109, 111, 100, 117, 108, 101, 32, 77, 32, 100, 101, 102, 32, 102, 40, 97, 58, 32, 73, 110, 116, 44, 32, 98, 58, 32, 73, 110, 116, 41, 58, 32, 73, 110, 116, 32, 61, 32, 97, 32] ++ [43]).length + [32, 98].length ≤ 9223372036854775807 ∧ ∃ c s k, bQ (([109, 111, 100, 117, 108, 101, 32, 77, 32, 100, 101, 102, 32, 102, 40, 97, 58, 32, 73, 110, 116, 44, 32, 98, 58, 32, 73, 110, 116, 41, 58, 32, 73, 110, 116, 32, 61, 32, 97, 32] ++ [43]) ++ [32, 98]) c s k ∧ ∃ b, au p0 b ∧ ∃ a, au p1 a ∧ ∃ d f g, bT [c] 0 0 [b, a] 3 d f g ∧ dx m p0 p1 n o p q r k d f g r0) : aR (m + 1) p0 p1 n o p q r r0 := by
 intro K hK
 refine gR 15 rfl <| gY (yIP (len := 5) (e := 9) (sz := 1) ab rfl rfl rfl rfl rfl rfl rfl rfl) rfl rfl <| gR 1 rfl ?_
 obtain ⟨hb, h⟩ := h
 refine gY (ia rfl rfl hb) rfl rfl ?_
 obtain ⟨hb, h⟩ := h
 refine gY (ia rfl rfl hb) rfl rfl ?_
 obtain ⟨c, s, k, hs292, h⟩ := h
 refine gC0 hs292 (by kernel_rfl) rfl rfl .rfl rfl <| gR 11 rfl <| gDs [2] 13 16 rfl (by kernel_rfl) (by kernel_rfl) <| gDr [(0, 3), (2, 2), (4, 2)] (by kernel_rfl) rfl rfl ?_
 obtain ⟨b, hs293, h⟩ := h
 apply bE (i := 1) (j := 3) (l := 12) (by kernel_rfl) rfl rfl rfl rfl rfl rfl
 exact (ac ab rfl rfl)
 exact (ak (L' := [2]) (by kernel_rfl) rfl rfl (ar hs293 .rfl [2] rfl) (.inl rfl))
 exact (ac ab rfl rfl)
 refine gHR 3 (kidsV [c]) rfl (ax c) rfl ?_
 apply ah (i := 3) (j := 12) (by kernel_rfl) rfl rfl rfl rfl
 exact (ak (L' := [2]) (by kernel_rfl) rfl rfl (ar hs293 .rfl [2] rfl) (.inl rfl))
 exact (ac ab rfl rfl)
 obtain ⟨a, hs294, h⟩ := h
 apply ah (i := 5) (j := 12) (by kernel_rfl) rfl rfl rfl rfl
 exact (ak (L' := [2]) (by kernel_rfl) rfl rfl (ar hs294 .rfl [2] rfl) (.inl rfl))
 exact (ac ab rfl rfl)
 apply ah (i := 6) (j := 12) (by kernel_rfl) rfl rfl rfl rfl
 exact (ac ab rfl rfl)
 exact (ac ab rfl rfl)
 refine gHR 4 (GDatum.vs [b, a]) rfl (GDatum.vlit [b, a]) rfl <| gFR 3 rfl (am _) rfl rfl <| gFR 4 rfl (GDatum.vpure _) rfl rfl ?_
 obtain ⟨d, f, g, hs295, h⟩ := h
 apply ah (i := 7) (j := 12) (by kernel_rfl) rfl rfl rfl rfl
 exact (ak (L' := [2]) (by kernel_rfl) rfl rfl (ar hs295 .rfl [2] rfl) (.inl rfl))
 exact (ac ab rfl rfl)
 exact gDr [(8, 2), (9, 2), (10, 2), (11, 2), (12, 0), (13, 1), (14, 1), (15, 1)] (by kernel_rfl) rfl rfl <| gDe (by kernel_rfl) <| gJ (h K hK) [0, 1, 5] [] rfl hK pq9 (pqo3 rfl rfl rfl rfl rfl rfl) rfl
 refine aj 7 hs295 (by kernel_rfl) rfl (by kernel_rfl) rfl rfl .rfl rfl rfl ?_
 exact gDr [(8, 0), (9, 2), (10, 2), (11, 2), (13, 1), (14, 1), (15, 1)] (by kernel_rfl) rfl rfl <| gDe (by kernel_rfl) <| gJ (h K hK) [0, 1, 5] [] rfl hK pq9 (pqo3 rfl rfl rfl rfl rfl rfl) rfl
 refine gDr [(6, 0)] (by kernel_rfl) rfl rfl <| gHR 5 (GDatum.vs [b, a]) rfl (GDatum.vlit [b, a]) rfl <| gFR 3 rfl (am _) rfl rfl <| gFR 5 rfl (GDatum.vpure _) rfl rfl ?_
 obtain ⟨d, f, g, hs296, h⟩ := h
 refine aj 7 hs296 (by kernel_rfl) rfl (by kernel_rfl) rfl rfl .rfl rfl rfl ?_
 exact gDr [(8, 0), (9, 2), (10, 2), (11, 2), (13, 1), (14, 1), (15, 1)] (by kernel_rfl) rfl rfl <| gDe (by kernel_rfl) <| gJ (h K hK) [0, 1, 4] [] rfl hK pq9 (pqo3 rfl rfl rfl rfl rfl rfl) rfl
 refine aj 5 hs294 (by kernel_rfl) rfl (by kernel_rfl) rfl rfl .rfl rfl rfl ?_
 refine gDr [(6, 0)] (by kernel_rfl) rfl rfl <| gHR 5 (GDatum.vs [b, a]) rfl (GDatum.vlit [b, a]) rfl <| gFR 3 rfl (am _) rfl rfl <| gFR 5 rfl (GDatum.vpure _) rfl rfl ?_
 obtain ⟨d, f, g, hs297, h⟩ := h
 refine aj 7 hs297 (by kernel_rfl) rfl (by kernel_rfl) rfl rfl .rfl rfl rfl ?_
 exact gDr [(8, 0), (9, 2), (10, 2), (11, 2), (13, 1), (14, 1), (15, 1)] (by kernel_rfl) rfl rfl <| gDe (by kernel_rfl) <| gJ (h K hK) [0, 1, 4] [] rfl hK pq9 (pqo3 rfl rfl rfl rfl rfl rfl) rfl
 refine aj 3 hs293 (by kernel_rfl) rfl (by kernel_rfl) rfl rfl .rfl rfl rfl ?_
 obtain ⟨a, hs298, h⟩ := h
 refine aj 5 hs298 (by kernel_rfl) rfl (by kernel_rfl) rfl rfl .rfl rfl rfl ?_
 refine gDr [(6, 0)] (by kernel_rfl) rfl rfl <| gHR 5 (GDatum.vs [b, a]) rfl (GDatum.vlit [b, a]) rfl <| gFR 3 rfl (am _) rfl rfl <| gFR 5 rfl (GDatum.vpure _) rfl rfl ?_
 obtain ⟨d, f, g, hs299, h⟩ := h
 refine aj 7 hs299 (by kernel_rfl) rfl (by kernel_rfl) rfl rfl .rfl rfl rfl ?_
 exact gDr [(8, 0), (9, 2), (10, 2), (11, 2), (13, 1), (14, 1), (15, 1)] (by kernel_rfl) rfl rfl <| gDe (by kernel_rfl) <| gJ (h K hK) [0, 1, 4] [] rfl hK pq9 (pqo3 rfl rfl rfl rfl rfl rfl) rfl
 obtain ⟨a, hs300, h⟩ := h
 apply bE (i := 1) (j := 5) (l := 12) (by kernel_rfl) rfl rfl rfl rfl rfl rfl
 exact (ac ab rfl rfl)
 exact (ak (L' := [2]) (by kernel_rfl) rfl rfl (ar hs300 .rfl [2] rfl) (.inl rfl))
 exact (ac ab rfl rfl)
 refine gHR 3 (kidsV [c]) rfl (ax c) rfl ?_
 apply ah (i := 5) (j := 12) (by kernel_rfl) rfl rfl rfl rfl
 exact (ak (L' := [2]) (by kernel_rfl) rfl rfl (ar hs300 .rfl [2] rfl) (.inl rfl))
 exact (ac ab rfl rfl)
 apply ah (i := 6) (j := 12) (by kernel_rfl) rfl rfl rfl rfl
 exact (ac ab rfl rfl)
 exact (ac ab rfl rfl)
 refine gHR 4 (GDatum.vs [b, a]) rfl (GDatum.vlit [b, a]) rfl <| gFR 3 rfl (am _) rfl rfl <| gFR 4 rfl (GDatum.vpure _) rfl rfl ?_
 obtain ⟨d, f, g, hs301, h⟩ := h
 apply ah (i := 7) (j := 12) (by kernel_rfl) rfl rfl rfl rfl
 exact (ak (L' := [2]) (by kernel_rfl) rfl rfl (ar hs301 .rfl [2] rfl) (.inl rfl))
 exact (ac ab rfl rfl)
 exact gDr [(8, 2), (9, 2), (10, 2), (11, 2), (12, 0), (13, 1), (14, 1), (15, 1)] (by kernel_rfl) rfl rfl <| gDe (by kernel_rfl) <| gJ (h K hK) [0, 1, 5] [] rfl hK pq9 (pqo3 rfl rfl rfl rfl rfl rfl) rfl
 refine aj 7 hs301 (by kernel_rfl) rfl (by kernel_rfl) rfl rfl .rfl rfl rfl ?_
 exact gDr [(8, 0), (9, 2), (10, 2), (11, 2), (13, 1), (14, 1), (15, 1)] (by kernel_rfl) rfl rfl <| gDe (by kernel_rfl) <| gJ (h K hK) [0, 1, 5] [] rfl hK pq9 (pqo3 rfl rfl rfl rfl rfl rfl) rfl
 refine gDr [(6, 0)] (by kernel_rfl) rfl rfl <| gHR 5 (GDatum.vs [b, a]) rfl (GDatum.vlit [b, a]) rfl <| gFR 3 rfl (am _) rfl rfl <| gFR 5 rfl (GDatum.vpure _) rfl rfl ?_
 obtain ⟨d, f, g, hs302, h⟩ := h
 refine aj 7 hs302 (by kernel_rfl) rfl (by kernel_rfl) rfl rfl .rfl rfl rfl ?_
 exact gDr [(8, 0), (9, 2), (10, 2), (11, 2), (13, 1), (14, 1), (15, 1)] (by kernel_rfl) rfl rfl <| gDe (by kernel_rfl) <| gJ (h K hK) [0, 1, 4] [] rfl hK pq9 (pqo3 rfl rfl rfl rfl rfl rfl) rfl
 refine aj 5 hs300 (by kernel_rfl) rfl (by kernel_rfl) rfl rfl .rfl rfl rfl ?_
 refine gDr [(6, 0)] (by kernel_rfl) rfl rfl <| gHR 5 (GDatum.vs [b, a]) rfl (GDatum.vlit [b, a]) rfl <| gFR 3 rfl (am _) rfl rfl <| gFR 5 rfl (GDatum.vpure _) rfl rfl ?_
 obtain ⟨d, f, g, hs303, h⟩ := h
 refine aj 7 hs303 (by kernel_rfl) rfl (by kernel_rfl) rfl rfl .rfl rfl rfl ?_
 exact gDr [(8, 0), (9, 2), (10, 2), (11, 2), (13, 1), (14, 1), (15, 1)] (by kernel_rfl) rfl rfl <| gDe (by kernel_rfl) <| gJ (h K hK) [0, 1, 4] [] rfl hK pq9 (pqo3 rfl rfl rfl rfl rfl rfl) rfl
 apply bE (i := 1) (j := 6) (l := 12) (by kernel_rfl) rfl rfl rfl rfl rfl rfl
 exact (ac ab rfl rfl)
 exact (ac ab rfl rfl)
 exact (ac ab rfl rfl)
 refine gHR 3 (kidsV [c]) rfl (ax c) rfl ?_
 apply ah (i := 6) (j := 12) (by kernel_rfl) rfl rfl rfl rfl
 exact (ac ab rfl rfl)
 exact (ac ab rfl rfl)
 refine gHR 4 (GDatum.vs [b, a]) rfl (GDatum.vlit [b, a]) rfl <| gFR 3 rfl (am _) rfl rfl <| gFR 4 rfl (GDatum.vpure _) rfl rfl ?_
 obtain ⟨d, f, g, hs304, h⟩ := h
 apply ah (i := 7) (j := 12) (by kernel_rfl) rfl rfl rfl rfl
 exact (ak (L' := [2]) (by kernel_rfl) rfl rfl (ar hs304 .rfl [2] rfl) (.inl rfl))
 exact (ac ab rfl rfl)
 exact gDr [(8, 2), (9, 2), (10, 2), (11, 2), (12, 0), (13, 1), (14, 1), (15, 1)] (by kernel_rfl) rfl rfl <| gDe (by kernel_rfl) <| gJ (h K hK) [0, 1, 5] [] rfl hK pq9 (pqo3 rfl rfl rfl rfl rfl rfl) rfl
 refine aj 7 hs304 (by kernel_rfl) rfl (by kernel_rfl) rfl rfl .rfl rfl rfl ?_
 exact gDr [(8, 0), (9, 2), (10, 2), (11, 2), (13, 1), (14, 1), (15, 1)] (by kernel_rfl) rfl rfl <| gDe (by kernel_rfl) <| gJ (h K hK) [0, 1, 5] [] rfl hK pq9 (pqo3 rfl rfl rfl rfl rfl rfl) rfl
 refine gDr [(6, 0)] (by kernel_rfl) rfl rfl <| gHR 5 (GDatum.vs [b, a]) rfl (GDatum.vlit [b, a]) rfl <| gFR 3 rfl (am _) rfl rfl <| gFR 5 rfl (GDatum.vpure _) rfl rfl ?_
 obtain ⟨d, f, g, hs305, h⟩ := h
 refine aj 7 hs305 (by kernel_rfl) rfl (by kernel_rfl) rfl rfl .rfl rfl rfl ?_
 exact gDr [(8, 0), (9, 2), (10, 2), (11, 2), (13, 1), (14, 1), (15, 1)] (by kernel_rfl) rfl rfl <| gDe (by kernel_rfl) <| gJ (h K hK) [0, 1, 4] [] rfl hK pq9 (pqo3 rfl rfl rfl rfl rfl rfl) rfl
 refine gHR 3 (GDatum.vs [b, a]) rfl (GDatum.vlit [b, a]) rfl ?_
 apply ah (i := 1) (j := 12) (by kernel_rfl) rfl rfl rfl rfl
 exact (ac ab rfl rfl)
 exact (ac ab rfl rfl)
 refine gHR 4 (kidsV [c]) rfl (ax c) rfl <| gFR 4 rfl (am _) rfl rfl <| gFR 3 rfl (GDatum.vpure _) rfl rfl ?_
 obtain ⟨d, f, g, hs306, h⟩ := h
 apply ah (i := 7) (j := 12) (by kernel_rfl) rfl rfl rfl rfl
 exact (ak (L' := [2]) (by kernel_rfl) rfl rfl (ar hs306 .rfl [2] rfl) (.inl rfl))
 exact (ac ab rfl rfl)
 exact gDr [(8, 2), (9, 2), (10, 2), (11, 2), (12, 0), (13, 1), (14, 1), (15, 1)] (by kernel_rfl) rfl rfl <| gDe (by kernel_rfl) <| gJ (h K hK) [0, 1, 5] [] rfl hK pq9 (pqo3 rfl rfl rfl rfl rfl rfl) rfl
 refine aj 7 hs306 (by kernel_rfl) rfl (by kernel_rfl) rfl rfl .rfl rfl rfl ?_
 exact gDr [(8, 0), (9, 2), (10, 2), (11, 2), (13, 1), (14, 1), (15, 1)] (by kernel_rfl) rfl rfl <| gDe (by kernel_rfl) <| gJ (h K hK) [0, 1, 5] [] rfl hK pq9 (pqo3 rfl rfl rfl rfl rfl rfl) rfl
 refine gDr [(1, 0)] (by kernel_rfl) rfl rfl <| gHR 5 (kidsV [c]) rfl (ax c) rfl <| gFR 5 rfl (am _) rfl rfl <| gFR 3 rfl (GDatum.vpure _) rfl rfl ?_
 obtain ⟨d, f, g, hs307, h⟩ := h
 refine aj 7 hs307 (by kernel_rfl) rfl (by kernel_rfl) rfl rfl .rfl rfl rfl ?_
 exact gDr [(8, 0), (9, 2), (10, 2), (11, 2), (13, 1), (14, 1), (15, 1)] (by kernel_rfl) rfl rfl <| gDe (by kernel_rfl) <| gJ (h K hK) [0, 1, 4] [] rfl hK pq9 (pqo3 rfl rfl rfl rfl rfl rfl) rfl
 apply ah (i := 1) (j := 6) (by kernel_rfl) rfl rfl rfl rfl
 exact (ac ab rfl rfl)
 exact (ac ab rfl rfl)
 refine gHR 4 (kidsV [c]) rfl (ax c) rfl <| gDr [(6, 0)] (by kernel_rfl) rfl rfl <| gHR 5 (GDatum.vs [b, a]) rfl (GDatum.vlit [b, a]) rfl <| gFR 4 rfl (am _) rfl rfl <| gFR 5 rfl (GDatum.vpure _) rfl rfl ?_
 obtain ⟨d, f, g, hs308, h⟩ := h
 refine aj 7 hs308 (by kernel_rfl) rfl (by kernel_rfl) rfl rfl .rfl rfl rfl ?_
 exact gDr [(8, 0), (9, 2), (10, 2), (11, 2), (13, 1), (14, 1), (15, 1)] (by kernel_rfl) rfl rfl <| gDe (by kernel_rfl) <| gJ (h K hK) [0, 1, 3] [] rfl hK pq9 (pqo3 rfl rfl rfl rfl rfl rfl) rfl
 refine gHR 4 (GDatum.vs [b, a]) rfl (GDatum.vlit [b, a]) rfl <| gDr [(1, 0)] (by kernel_rfl) rfl rfl <| gHR 5 (kidsV [c]) rfl (ax c) rfl <| gFR 5 rfl (am _) rfl rfl <| gFR 4 rfl (GDatum.vpure _) rfl rfl ?_
 obtain ⟨d, f, g, hs309, h⟩ := h
 refine aj 7 hs309 (by kernel_rfl) rfl (by kernel_rfl) rfl rfl .rfl rfl rfl ?_
 exact gDr [(8, 0), (9, 2), (10, 2), (11, 2), (13, 1), (14, 1), (15, 1)] (by kernel_rfl) rfl rfl <| gDe (by kernel_rfl) <| gJ (h K hK) [0, 1, 3] [] rfl hK pq9 (pqo3 rfl rfl rfl rfl rfl rfl) rfl
 apply ah (i := 1) (j := 5) (by kernel_rfl) rfl rfl rfl rfl
 exact (ac ab rfl rfl)
 exact (ak (L' := [2]) (by kernel_rfl) rfl rfl (ar hs300 .rfl [2] rfl) (.inl rfl))
 refine gHR 4 (kidsV [c]) rfl (ax c) rfl <| aj 5 hs300 (by kernel_rfl) rfl (by kernel_rfl) rfl rfl .rfl rfl rfl <| gDr [(6, 0)] (by kernel_rfl) rfl rfl <| gHR 5 (GDatum.vs [b, a]) rfl (GDatum.vlit [b, a]) rfl <| gFR 4 rfl (am _) rfl rfl <| gFR 5 rfl (GDatum.vpure _) rfl rfl ?_
 obtain ⟨d, f, g, hs310, h⟩ := h
 refine aj 7 hs310 (by kernel_rfl) rfl (by kernel_rfl) rfl rfl .rfl rfl rfl ?_
 exact gDr [(8, 0), (9, 2), (10, 2), (11, 2), (13, 1), (14, 1), (15, 1)] (by kernel_rfl) rfl rfl <| gDe (by kernel_rfl) <| gJ (h K hK) [0, 1, 3] [] rfl hK pq9 (pqo3 rfl rfl rfl rfl rfl rfl) rfl
 apply ah (i := 1) (j := 6) (by kernel_rfl) rfl rfl rfl rfl
 exact (ac ab rfl rfl)
 exact (ac ab rfl rfl)
 refine gHR 4 (kidsV [c]) rfl (ax c) rfl <| gDr [(6, 0)] (by kernel_rfl) rfl rfl <| gHR 5 (GDatum.vs [b, a]) rfl (GDatum.vlit [b, a]) rfl <| gFR 4 rfl (am _) rfl rfl <| gFR 5 rfl (GDatum.vpure _) rfl rfl ?_
 obtain ⟨d, f, g, hs311, h⟩ := h
 refine aj 7 hs311 (by kernel_rfl) rfl (by kernel_rfl) rfl rfl .rfl rfl rfl ?_
 exact gDr [(8, 0), (9, 2), (10, 2), (11, 2), (13, 1), (14, 1), (15, 1)] (by kernel_rfl) rfl rfl <| gDe (by kernel_rfl) <| gJ (h K hK) [0, 1, 3] [] rfl hK pq9 (pqo3 rfl rfl rfl rfl rfl rfl) rfl
 refine gHR 4 (GDatum.vs [b, a]) rfl (GDatum.vlit [b, a]) rfl <| gDr [(1, 0)] (by kernel_rfl) rfl rfl <| gHR 5 (kidsV [c]) rfl (ax c) rfl <| gFR 5 rfl (am _) rfl rfl <| gFR 4 rfl (GDatum.vpure _) rfl rfl ?_
 obtain ⟨d, f, g, hs312, h⟩ := h
 refine aj 7 hs312 (by kernel_rfl) rfl (by kernel_rfl) rfl rfl .rfl rfl rfl ?_
 exact gDr [(8, 0), (9, 2), (10, 2), (11, 2), (13, 1), (14, 1), (15, 1)] (by kernel_rfl) rfl rfl <| gDe (by kernel_rfl) <| gJ (h K hK) [0, 1, 3] [] rfl hK pq9 (pqo3 rfl rfl rfl rfl rfl rfl) rfl
 apply ah (i := 1) (j := 3) (by kernel_rfl) rfl rfl rfl rfl
 exact (ac ab rfl rfl)
 exact (ak (L' := [2]) (by kernel_rfl) rfl rfl (ar hs293 .rfl [2] rfl) (.inl rfl))
 refine gHR 4 (kidsV [c]) rfl (ax c) rfl <| aj 3 hs293 (by kernel_rfl) rfl (by kernel_rfl) rfl rfl .rfl rfl rfl ?_
 obtain ⟨a, hs313, h⟩ := h
 refine aj 5 hs313 (by kernel_rfl) rfl (by kernel_rfl) rfl rfl .rfl rfl rfl ?_
 refine gDr [(6, 0)] (by kernel_rfl) rfl rfl <| gHR 5 (GDatum.vs [b, a]) rfl (GDatum.vlit [b, a]) rfl <| gFR 4 rfl (am _) rfl rfl <| gFR 5 rfl (GDatum.vpure _) rfl rfl ?_
 obtain ⟨d, f, g, hs314, h⟩ := h
 refine aj 7 hs314 (by kernel_rfl) rfl (by kernel_rfl) rfl rfl .rfl rfl rfl ?_
 exact gDr [(8, 0), (9, 2), (10, 2), (11, 2), (13, 1), (14, 1), (15, 1)] (by kernel_rfl) rfl rfl <| gDe (by kernel_rfl) <| gJ (h K hK) [0, 1, 3] [] rfl hK pq9 (pqo3 rfl rfl rfl rfl rfl rfl) rfl
 obtain ⟨a, hs315, h⟩ := h
 apply ah (i := 1) (j := 5) (by kernel_rfl) rfl rfl rfl rfl
 exact (ac ab rfl rfl)
 exact (ak (L' := [2]) (by kernel_rfl) rfl rfl (ar hs315 .rfl [2] rfl) (.inl rfl))
 refine gHR 4 (kidsV [c]) rfl (ax c) rfl <| aj 5 hs315 (by kernel_rfl) rfl (by kernel_rfl) rfl rfl .rfl rfl rfl <| gDr [(6, 0)] (by kernel_rfl) rfl rfl <| gHR 5 (GDatum.vs [b, a]) rfl (GDatum.vlit [b, a]) rfl <| gFR 4 rfl (am _) rfl rfl <| gFR 5 rfl (GDatum.vpure _) rfl rfl ?_
 obtain ⟨d, f, g, hs316, h⟩ := h
 refine aj 7 hs316 (by kernel_rfl) rfl (by kernel_rfl) rfl rfl .rfl rfl rfl ?_
 exact gDr [(8, 0), (9, 2), (10, 2), (11, 2), (13, 1), (14, 1), (15, 1)] (by kernel_rfl) rfl rfl <| gDe (by kernel_rfl) <| gJ (h K hK) [0, 1, 3] [] rfl hK pq9 (pqo3 rfl rfl rfl rfl rfl rfl) rfl
 apply ah (i := 1) (j := 6) (by kernel_rfl) rfl rfl rfl rfl
 exact (ac ab rfl rfl)
 exact (ac ab rfl rfl)
 refine gHR 4 (kidsV [c]) rfl (ax c) rfl <| gDr [(6, 0)] (by kernel_rfl) rfl rfl <| gHR 5 (GDatum.vs [b, a]) rfl (GDatum.vlit [b, a]) rfl <| gFR 4 rfl (am _) rfl rfl <| gFR 5 rfl (GDatum.vpure _) rfl rfl ?_
 obtain ⟨d, f, g, hs317, h⟩ := h
 refine aj 7 hs317 (by kernel_rfl) rfl (by kernel_rfl) rfl rfl .rfl rfl rfl ?_
 exact gDr [(8, 0), (9, 2), (10, 2), (11, 2), (13, 1), (14, 1), (15, 1)] (by kernel_rfl) rfl rfl <| gDe (by kernel_rfl) <| gJ (h K hK) [0, 1, 3] [] rfl hK pq9 (pqo3 rfl rfl rfl rfl rfl rfl) rfl
 refine gHR 4 (GDatum.vs [b, a]) rfl (GDatum.vlit [b, a]) rfl <| gDr [(1, 0)] (by kernel_rfl) rfl rfl <| gHR 5 (kidsV [c]) rfl (ax c) rfl <| gFR 5 rfl (am _) rfl rfl <| gFR 4 rfl (GDatum.vpure _) rfl rfl ?_
 obtain ⟨d, f, g, hs318, h⟩ := h
 refine aj 7 hs318 (by kernel_rfl) rfl (by kernel_rfl) rfl rfl .rfl rfl rfl ?_
 exact gDr [(8, 0), (9, 2), (10, 2), (11, 2), (13, 1), (14, 1), (15, 1)] (by kernel_rfl) rfl rfl <| gDe (by kernel_rfl) <| gJ (h K hK) [0, 1, 3] [] rfl hK pq9 (pqo3 rfl rfl rfl rfl rfl rfl) rfl
theorem gz (m : Nat) (p0 p1 : Int) (b g i : GDatum) (j k : Nat) (c : Int) (l : GDatum) (d f : Int) (r0 : Bool) (h : ((c ≠ 0) → false = r0) ∧ ((c = 0) → ((f ≠ 0) → false = r0) ∧ ((f = 0) → ((d ≠ 3) → false = r0) ∧ ((d = 3) → ∃ a, aP l b a ∧ ((a = false) → false = r0) ∧ ((a = true) → dO m p0 p1 b g i j k r0))))) : dx (m + 1) p0 p1 b g i j k c l d f r0 := by
 intro K hK
 refine gR 2 rfl <| gDs [2, 1] 15 18 rfl (by kernel_rfl) (by kernel_rfl) <| gDr [(0, 0), (1, 0), (2, 0)] (by kernel_rfl) rfl rfl <| gB 68 rfl rfl rfl ?_ ?_ <;> intro hd
 refine gT 67 rfl hd rfl ?_
 replace hd := (bi hd)
 replace h := h.1 hd
 refine gDr [(3, 0), (4, 0), (5, 0), (6, 0), (7, 0), (8, 0), (9, 0), (10, 0), (11, 2), (12, 0), (13, 0), (14, 0), (15, 0), (16, 0), (17, 1)] (by kernel_rfl) rfl rfl <| gDe (by kernel_rfl) <| gR 10 rfl <| go_xloopR <| gR 2 rfl ?_
 subst h
 exact go_end ab (rs := [.tmp 4]) rfl rfl rfl
 refine gF 67 rfl hd rfl ?_
 replace hd := (aQ hd)
 replace h := h.2 hd
 refine gDr [(3, 0), (4, 0), (5, 0), (6, 0)] (by kernel_rfl) rfl rfl <| gB 72 rfl rfl rfl ?_ ?_ <;> intro hd
 refine gT 71 rfl hd rfl ?_
 replace hd := (bi hd)
 replace h := h.1 hd
 refine gDr [(7, 0), (8, 0), (9, 0), (10, 0), (11, 2), (12, 0), (13, 0), (14, 0), (15, 0), (16, 0), (17, 1)] (by kernel_rfl) rfl rfl <| gDe (by kernel_rfl) <| gR 10 rfl <| go_xloopR <| gR 2 rfl ?_
 subst h
 exact go_end ab (rs := [.tmp 4]) rfl rfl rfl
 refine gF 71 rfl hd rfl ?_
 replace hd := (aQ hd)
 replace h := h.2 hd
 refine gDr [(7, 0), (8, 0), (9, 0), (10, 0)] (by kernel_rfl) rfl rfl <| gB 76 rfl rfl rfl ?_ ?_ <;> intro hd
 refine gT 75 rfl hd rfl ?_
 replace hd := (bi hd)
 replace h := h.1 hd
 refine gDr [(11, 2), (12, 0), (13, 0), (14, 0), (15, 0), (16, 0), (17, 1)] (by kernel_rfl) rfl rfl <| gDe (by kernel_rfl) <| gR 10 rfl <| go_xloopR <| gR 2 rfl ?_
 subst h
 exact go_end ab (rs := [.tmp 4]) rfl rfl rfl
 refine gF 75 rfl hd rfl ?_
 replace hd := (aQ hd)
 replace h := h.2 hd
 refine gDr [(11, 3), (12, 0)] (by kernel_rfl) rfl rfl <| jF 13 rfl (by kernel_rfl) (yIP (len := 5) (e := 24) (sz := 4) ab rfl rfl rfl rfl rfl rfl rfl rfl) rfl rfl <| gDr [(14, 0)] (by kernel_rfl) rfl rfl ?_
 obtain ⟨a, hs319, h⟩ := h
 refine aj 15 hs319 (by kernel_rfl) rfl (by kernel_rfl) rfl rfl .rfl rfl rfl ?_
 refine gDr [(16, 1), (17, 1)] (by kernel_rfl) rfl rfl <| gDe (by kernel_rfl) <| gR 1 rfl <| gB 83 rfl rfl rfl ?_ ?_ <;> intro hd
 replace hd := (dg hd)
 replace h := h.1 hd
 refine gR 9 rfl <| go_xloopR <| gR 2 rfl ?_
 subst h
 exact go_end ab (rs := [.tmp 4]) rfl rfl rfl
 replace hd := (de hd)
 replace h := h.2 hd
 exact gR 7 rfl <| gV 43 (.int .i64 1) rfl (aL (by omega) (by omega)) rfl <| gR 2 rfl <| go_xloop <| gJ (h K hK) [0, 1] [] rfl hK pq5 (pqo2 rfl rfl rfl rfl) rfl
theorem gL (m : Nat) (p0 p1 : Int) (n o p : GDatum) (q r : Nat) (r0 : Bool) (h : [109, 111, 100, 117, 108, 101, 32, 77, 32, 100, 101, 102, 32, 102, 40, 97, 58, 32, 73, 110, 116, 44, 32, 98, 58, 32, 73, 110, 116, 41, 58, 32, 73, 110, 116, 32, 61, 32, 97, 32].length + [45].length ≤ 9223372036854775807 ∧ ([109, 111, 100, 117, 108, 101, 32, 77, 32, 100, 101, 102, 32, 102, 40, 97, 58, 32, 73, 110, 116, 44, 32, 98, 58, 32, 73, 110, 116, 41, 58, 32, 73, 110, 116, 32, 61, 32, 97, 32] ++ [45]).length + [32, 98].length ≤ 9223372036854775807 ∧ ∃ c s k, bQ (([109, 111, 100, 117, 108, 101, 32, 77, 32, 100, 101, 102, 32, 102, 40, 97, 58, 32, 73, 110, 116, 44, 32, 98, 58, 32, 73, 110, 116, 41, 58, 32, 73, 110, 116, 32, 61, 32, 97, 32] ++ [45]) ++ [32, 98]) c s k ∧ ∃ b, au p0 b ∧ ∃ a, au p1 a ∧ ∃ d f g, bT [c] 0 0 [b, a] 3 d f g ∧ dH m p0 p1 n o p q r k d f g r0) : dO (m + 1) p0 p1 n o p q r r0 := by
 intro K hK
 refine gR 15 rfl <| gY (yIP (len := 5) (e := 9) (sz := 1) ab rfl rfl rfl rfl rfl rfl rfl rfl) rfl rfl <| gR 1 rfl ?_
 obtain ⟨hb, h⟩ := h
 refine gY (ia rfl rfl hb) rfl rfl ?_
 obtain ⟨hb, h⟩ := h
 refine gY (ia rfl rfl hb) rfl rfl ?_
 obtain ⟨c, s, k, hs320, h⟩ := h
 refine gC0 hs320 (by kernel_rfl) rfl rfl .rfl rfl <| gR 11 rfl <| gDs [2] 13 16 rfl (by kernel_rfl) (by kernel_rfl) <| gDr [(0, 3), (2, 2), (4, 2)] (by kernel_rfl) rfl rfl ?_
 obtain ⟨b, hs321, h⟩ := h
 apply bE (i := 1) (j := 3) (l := 12) (by kernel_rfl) rfl rfl rfl rfl rfl rfl
 exact (ac ab rfl rfl)
 exact (ak (L' := [2]) (by kernel_rfl) rfl rfl (ar hs321 .rfl [2] rfl) (.inl rfl))
 exact (ac ab rfl rfl)
 refine gHR 3 (kidsV [c]) rfl (ax c) rfl ?_
 apply ah (i := 3) (j := 12) (by kernel_rfl) rfl rfl rfl rfl
 exact (ak (L' := [2]) (by kernel_rfl) rfl rfl (ar hs321 .rfl [2] rfl) (.inl rfl))
 exact (ac ab rfl rfl)
 obtain ⟨a, hs322, h⟩ := h
 apply ah (i := 5) (j := 12) (by kernel_rfl) rfl rfl rfl rfl
 exact (ak (L' := [2]) (by kernel_rfl) rfl rfl (ar hs322 .rfl [2] rfl) (.inl rfl))
 exact (ac ab rfl rfl)
 apply ah (i := 6) (j := 12) (by kernel_rfl) rfl rfl rfl rfl
 exact (ac ab rfl rfl)
 exact (ac ab rfl rfl)
 refine gHR 4 (GDatum.vs [b, a]) rfl (GDatum.vlit [b, a]) rfl <| gFR 3 rfl (am _) rfl rfl <| gFR 4 rfl (GDatum.vpure _) rfl rfl ?_
 obtain ⟨d, f, g, hs323, h⟩ := h
 apply ah (i := 7) (j := 12) (by kernel_rfl) rfl rfl rfl rfl
 exact (ak (L' := [2]) (by kernel_rfl) rfl rfl (ar hs323 .rfl [2] rfl) (.inl rfl))
 exact (ac ab rfl rfl)
 exact gDr [(8, 2), (9, 2), (10, 2), (11, 2), (12, 0), (13, 1), (14, 1), (15, 1)] (by kernel_rfl) rfl rfl <| gDe (by kernel_rfl) <| gJ (h K hK) [0, 1, 5] [] rfl hK pq9 (pqo3 rfl rfl rfl rfl rfl rfl) rfl
 refine aj 7 hs323 (by kernel_rfl) rfl (by kernel_rfl) rfl rfl .rfl rfl rfl ?_
 exact gDr [(8, 0), (9, 2), (10, 2), (11, 2), (13, 1), (14, 1), (15, 1)] (by kernel_rfl) rfl rfl <| gDe (by kernel_rfl) <| gJ (h K hK) [0, 1, 5] [] rfl hK pq9 (pqo3 rfl rfl rfl rfl rfl rfl) rfl
 refine gDr [(6, 0)] (by kernel_rfl) rfl rfl <| gHR 5 (GDatum.vs [b, a]) rfl (GDatum.vlit [b, a]) rfl <| gFR 3 rfl (am _) rfl rfl <| gFR 5 rfl (GDatum.vpure _) rfl rfl ?_
 obtain ⟨d, f, g, hs324, h⟩ := h
 refine aj 7 hs324 (by kernel_rfl) rfl (by kernel_rfl) rfl rfl .rfl rfl rfl ?_
 exact gDr [(8, 0), (9, 2), (10, 2), (11, 2), (13, 1), (14, 1), (15, 1)] (by kernel_rfl) rfl rfl <| gDe (by kernel_rfl) <| gJ (h K hK) [0, 1, 4] [] rfl hK pq9 (pqo3 rfl rfl rfl rfl rfl rfl) rfl
 refine aj 5 hs322 (by kernel_rfl) rfl (by kernel_rfl) rfl rfl .rfl rfl rfl ?_
 refine gDr [(6, 0)] (by kernel_rfl) rfl rfl <| gHR 5 (GDatum.vs [b, a]) rfl (GDatum.vlit [b, a]) rfl <| gFR 3 rfl (am _) rfl rfl <| gFR 5 rfl (GDatum.vpure _) rfl rfl ?_
 obtain ⟨d, f, g, hs325, h⟩ := h
 refine aj 7 hs325 (by kernel_rfl) rfl (by kernel_rfl) rfl rfl .rfl rfl rfl ?_
 exact gDr [(8, 0), (9, 2), (10, 2), (11, 2), (13, 1), (14, 1), (15, 1)] (by kernel_rfl) rfl rfl <| gDe (by kernel_rfl) <| gJ (h K hK) [0, 1, 4] [] rfl hK pq9 (pqo3 rfl rfl rfl rfl rfl rfl) rfl
 refine aj 3 hs321 (by kernel_rfl) rfl (by kernel_rfl) rfl rfl .rfl rfl rfl ?_
 obtain ⟨a, hs326, h⟩ := h
 refine aj 5 hs326 (by kernel_rfl) rfl (by kernel_rfl) rfl rfl .rfl rfl rfl ?_
 refine gDr [(6, 0)] (by kernel_rfl) rfl rfl <| gHR 5 (GDatum.vs [b, a]) rfl (GDatum.vlit [b, a]) rfl <| gFR 3 rfl (am _) rfl rfl <| gFR 5 rfl (GDatum.vpure _) rfl rfl ?_
 obtain ⟨d, f, g, hs327, h⟩ := h
 refine aj 7 hs327 (by kernel_rfl) rfl (by kernel_rfl) rfl rfl .rfl rfl rfl ?_
 exact gDr [(8, 0), (9, 2), (10, 2), (11, 2), (13, 1), (14, 1), (15, 1)] (by kernel_rfl) rfl rfl <| gDe (by kernel_rfl) <| gJ (h K hK) [0, 1, 4] [] rfl hK pq9 (pqo3 rfl rfl rfl rfl rfl rfl) rfl
 obtain ⟨a, hs328, h⟩ := h
 apply bE (i := 1) (j := 5) (l := 12) (by kernel_rfl) rfl rfl rfl rfl rfl rfl
 exact (ac ab rfl rfl)
 exact (ak (L' := [2]) (by kernel_rfl) rfl rfl (ar hs328 .rfl [2] rfl) (.inl rfl))
 exact (ac ab rfl rfl)
 refine gHR 3 (kidsV [c]) rfl (ax c) rfl ?_
 apply ah (i := 5) (j := 12) (by kernel_rfl) rfl rfl rfl rfl
 exact (ak (L' := [2]) (by kernel_rfl) rfl rfl (ar hs328 .rfl [2] rfl) (.inl rfl))
 exact (ac ab rfl rfl)
 apply ah (i := 6) (j := 12) (by kernel_rfl) rfl rfl rfl rfl
 exact (ac ab rfl rfl)
 exact (ac ab rfl rfl)
 refine gHR 4 (GDatum.vs [b, a]) rfl (GDatum.vlit [b, a]) rfl <| gFR 3 rfl (am _) rfl rfl <| gFR 4 rfl (GDatum.vpure _) rfl rfl ?_
 obtain ⟨d, f, g, hs329, h⟩ := h
 apply ah (i := 7) (j := 12) (by kernel_rfl) rfl rfl rfl rfl
 exact (ak (L' := [2]) (by kernel_rfl) rfl rfl (ar hs329 .rfl [2] rfl) (.inl rfl))
 exact (ac ab rfl rfl)
 exact gDr [(8, 2), (9, 2), (10, 2), (11, 2), (12, 0), (13, 1), (14, 1), (15, 1)] (by kernel_rfl) rfl rfl <| gDe (by kernel_rfl) <| gJ (h K hK) [0, 1, 5] [] rfl hK pq9 (pqo3 rfl rfl rfl rfl rfl rfl) rfl
 refine aj 7 hs329 (by kernel_rfl) rfl (by kernel_rfl) rfl rfl .rfl rfl rfl ?_
 exact gDr [(8, 0), (9, 2), (10, 2), (11, 2), (13, 1), (14, 1), (15, 1)] (by kernel_rfl) rfl rfl <| gDe (by kernel_rfl) <| gJ (h K hK) [0, 1, 5] [] rfl hK pq9 (pqo3 rfl rfl rfl rfl rfl rfl) rfl
 refine gDr [(6, 0)] (by kernel_rfl) rfl rfl <| gHR 5 (GDatum.vs [b, a]) rfl (GDatum.vlit [b, a]) rfl <| gFR 3 rfl (am _) rfl rfl <| gFR 5 rfl (GDatum.vpure _) rfl rfl ?_
 obtain ⟨d, f, g, hs330, h⟩ := h
 refine aj 7 hs330 (by kernel_rfl) rfl (by kernel_rfl) rfl rfl .rfl rfl rfl ?_
 exact gDr [(8, 0), (9, 2), (10, 2), (11, 2), (13, 1), (14, 1), (15, 1)] (by kernel_rfl) rfl rfl <| gDe (by kernel_rfl) <| gJ (h K hK) [0, 1, 4] [] rfl hK pq9 (pqo3 rfl rfl rfl rfl rfl rfl) rfl
 refine aj 5 hs328 (by kernel_rfl) rfl (by kernel_rfl) rfl rfl .rfl rfl rfl ?_
 refine gDr [(6, 0)] (by kernel_rfl) rfl rfl <| gHR 5 (GDatum.vs [b, a]) rfl (GDatum.vlit [b, a]) rfl <| gFR 3 rfl (am _) rfl rfl <| gFR 5 rfl (GDatum.vpure _) rfl rfl ?_
 obtain ⟨d, f, g, hs331, h⟩ := h
 refine aj 7 hs331 (by kernel_rfl) rfl (by kernel_rfl) rfl rfl .rfl rfl rfl ?_
 exact gDr [(8, 0), (9, 2), (10, 2), (11, 2), (13, 1), (14, 1), (15, 1)] (by kernel_rfl) rfl rfl <| gDe (by kernel_rfl) <| gJ (h K hK) [0, 1, 4] [] rfl hK pq9 (pqo3 rfl rfl rfl rfl rfl rfl) rfl
 apply bE (i := 1) (j := 6) (l := 12) (by kernel_rfl) rfl rfl rfl rfl rfl rfl
 exact (ac ab rfl rfl)
 exact (ac ab rfl rfl)
 exact (ac ab rfl rfl)
 refine gHR 3 (kidsV [c]) rfl (ax c) rfl ?_
 apply ah (i := 6) (j := 12) (by kernel_rfl) rfl rfl rfl rfl
 exact (ac ab rfl rfl)
 exact (ac ab rfl rfl)
 refine gHR 4 (GDatum.vs [b, a]) rfl (GDatum.vlit [b, a]) rfl <| gFR 3 rfl (am _) rfl rfl <| gFR 4 rfl (GDatum.vpure _) rfl rfl ?_
 obtain ⟨d, f, g, hs332, h⟩ := h
 apply ah (i := 7) (j := 12) (by kernel_rfl) rfl rfl rfl rfl
 exact (ak (L' := [2]) (by kernel_rfl) rfl rfl (ar hs332 .rfl [2] rfl) (.inl rfl))
 exact (ac ab rfl rfl)
 exact gDr [(8, 2), (9, 2), (10, 2), (11, 2), (12, 0), (13, 1), (14, 1), (15, 1)] (by kernel_rfl) rfl rfl <| gDe (by kernel_rfl) <| gJ (h K hK) [0, 1, 5] [] rfl hK pq9 (pqo3 rfl rfl rfl rfl rfl rfl) rfl
 refine aj 7 hs332 (by kernel_rfl) rfl (by kernel_rfl) rfl rfl .rfl rfl rfl ?_
 exact gDr [(8, 0), (9, 2), (10, 2), (11, 2), (13, 1), (14, 1), (15, 1)] (by kernel_rfl) rfl rfl <| gDe (by kernel_rfl) <| gJ (h K hK) [0, 1, 5] [] rfl hK pq9 (pqo3 rfl rfl rfl rfl rfl rfl) rfl
 refine gDr [(6, 0)] (by kernel_rfl) rfl rfl <| gHR 5 (GDatum.vs [b, a]) rfl (GDatum.vlit [b, a]) rfl <| gFR 3 rfl (am _) rfl rfl <| gFR 5 rfl (GDatum.vpure _) rfl rfl ?_
 obtain ⟨d, f, g, hs333, h⟩ := h
 refine aj 7 hs333 (by kernel_rfl) rfl (by kernel_rfl) rfl rfl .rfl rfl rfl ?_
 exact gDr [(8, 0), (9, 2), (10, 2), (11, 2), (13, 1), (14, 1), (15, 1)] (by kernel_rfl) rfl rfl <| gDe (by kernel_rfl) <| gJ (h K hK) [0, 1, 4] [] rfl hK pq9 (pqo3 rfl rfl rfl rfl rfl rfl) rfl
 refine gHR 3 (GDatum.vs [b, a]) rfl (GDatum.vlit [b, a]) rfl ?_
 apply ah (i := 1) (j := 12) (by kernel_rfl) rfl rfl rfl rfl
 exact (ac ab rfl rfl)
 exact (ac ab rfl rfl)
 refine gHR 4 (kidsV [c]) rfl (ax c) rfl <| gFR 4 rfl (am _) rfl rfl <| gFR 3 rfl (GDatum.vpure _) rfl rfl ?_
 obtain ⟨d, f, g, hs334, h⟩ := h
 apply ah (i := 7) (j := 12) (by kernel_rfl) rfl rfl rfl rfl
 exact (ak (L' := [2]) (by kernel_rfl) rfl rfl (ar hs334 .rfl [2] rfl) (.inl rfl))
 exact (ac ab rfl rfl)
 exact gDr [(8, 2), (9, 2), (10, 2), (11, 2), (12, 0), (13, 1), (14, 1), (15, 1)] (by kernel_rfl) rfl rfl <| gDe (by kernel_rfl) <| gJ (h K hK) [0, 1, 5] [] rfl hK pq9 (pqo3 rfl rfl rfl rfl rfl rfl) rfl
 refine aj 7 hs334 (by kernel_rfl) rfl (by kernel_rfl) rfl rfl .rfl rfl rfl ?_
 exact gDr [(8, 0), (9, 2), (10, 2), (11, 2), (13, 1), (14, 1), (15, 1)] (by kernel_rfl) rfl rfl <| gDe (by kernel_rfl) <| gJ (h K hK) [0, 1, 5] [] rfl hK pq9 (pqo3 rfl rfl rfl rfl rfl rfl) rfl
 refine gDr [(1, 0)] (by kernel_rfl) rfl rfl <| gHR 5 (kidsV [c]) rfl (ax c) rfl <| gFR 5 rfl (am _) rfl rfl <| gFR 3 rfl (GDatum.vpure _) rfl rfl ?_
 obtain ⟨d, f, g, hs335, h⟩ := h
 refine aj 7 hs335 (by kernel_rfl) rfl (by kernel_rfl) rfl rfl .rfl rfl rfl ?_
 exact gDr [(8, 0), (9, 2), (10, 2), (11, 2), (13, 1), (14, 1), (15, 1)] (by kernel_rfl) rfl rfl <| gDe (by kernel_rfl) <| gJ (h K hK) [0, 1, 4] [] rfl hK pq9 (pqo3 rfl rfl rfl rfl rfl rfl) rfl
 apply ah (i := 1) (j := 6) (by kernel_rfl) rfl rfl rfl rfl
 exact (ac ab rfl rfl)
 exact (ac ab rfl rfl)
 refine gHR 4 (kidsV [c]) rfl (ax c) rfl <| gDr [(6, 0)] (by kernel_rfl) rfl rfl <| gHR 5 (GDatum.vs [b, a]) rfl (GDatum.vlit [b, a]) rfl <| gFR 4 rfl (am _) rfl rfl <| gFR 5 rfl (GDatum.vpure _) rfl rfl ?_
 obtain ⟨d, f, g, hs336, h⟩ := h
 refine aj 7 hs336 (by kernel_rfl) rfl (by kernel_rfl) rfl rfl .rfl rfl rfl ?_
 exact gDr [(8, 0), (9, 2), (10, 2), (11, 2), (13, 1), (14, 1), (15, 1)] (by kernel_rfl) rfl rfl <| gDe (by kernel_rfl) <| gJ (h K hK) [0, 1, 3] [] rfl hK pq9 (pqo3 rfl rfl rfl rfl rfl rfl) rfl
 refine gHR 4 (GDatum.vs [b, a]) rfl (GDatum.vlit [b, a]) rfl <| gDr [(1, 0)] (by kernel_rfl) rfl rfl <| gHR 5 (kidsV [c]) rfl (ax c) rfl <| gFR 5 rfl (am _) rfl rfl <| gFR 4 rfl (GDatum.vpure _) rfl rfl ?_
 obtain ⟨d, f, g, hs337, h⟩ := h
 refine aj 7 hs337 (by kernel_rfl) rfl (by kernel_rfl) rfl rfl .rfl rfl rfl ?_
 exact gDr [(8, 0), (9, 2), (10, 2), (11, 2), (13, 1), (14, 1), (15, 1)] (by kernel_rfl) rfl rfl <| gDe (by kernel_rfl) <| gJ (h K hK) [0, 1, 3] [] rfl hK pq9 (pqo3 rfl rfl rfl rfl rfl rfl) rfl
 apply ah (i := 1) (j := 5) (by kernel_rfl) rfl rfl rfl rfl
 exact (ac ab rfl rfl)
 exact (ak (L' := [2]) (by kernel_rfl) rfl rfl (ar hs328 .rfl [2] rfl) (.inl rfl))
 refine gHR 4 (kidsV [c]) rfl (ax c) rfl <| aj 5 hs328 (by kernel_rfl) rfl (by kernel_rfl) rfl rfl .rfl rfl rfl <| gDr [(6, 0)] (by kernel_rfl) rfl rfl <| gHR 5 (GDatum.vs [b, a]) rfl (GDatum.vlit [b, a]) rfl <| gFR 4 rfl (am _) rfl rfl <| gFR 5 rfl (GDatum.vpure _) rfl rfl ?_
 obtain ⟨d, f, g, hs338, h⟩ := h
 refine aj 7 hs338 (by kernel_rfl) rfl (by kernel_rfl) rfl rfl .rfl rfl rfl ?_
 exact gDr [(8, 0), (9, 2), (10, 2), (11, 2), (13, 1), (14, 1), (15, 1)] (by kernel_rfl) rfl rfl <| gDe (by kernel_rfl) <| gJ (h K hK) [0, 1, 3] [] rfl hK pq9 (pqo3 rfl rfl rfl rfl rfl rfl) rfl
 apply ah (i := 1) (j := 6) (by kernel_rfl) rfl rfl rfl rfl
 exact (ac ab rfl rfl)
 exact (ac ab rfl rfl)
 refine gHR 4 (kidsV [c]) rfl (ax c) rfl <| gDr [(6, 0)] (by kernel_rfl) rfl rfl <| gHR 5 (GDatum.vs [b, a]) rfl (GDatum.vlit [b, a]) rfl <| gFR 4 rfl (am _) rfl rfl <| gFR 5 rfl (GDatum.vpure _) rfl rfl ?_
 obtain ⟨d, f, g, hs339, h⟩ := h
 refine aj 7 hs339 (by kernel_rfl) rfl (by kernel_rfl) rfl rfl .rfl rfl rfl ?_
 exact gDr [(8, 0), (9, 2), (10, 2), (11, 2), (13, 1), (14, 1), (15, 1)] (by kernel_rfl) rfl rfl <| gDe (by kernel_rfl) <| gJ (h K hK) [0, 1, 3] [] rfl hK pq9 (pqo3 rfl rfl rfl rfl rfl rfl) rfl
 refine gHR 4 (GDatum.vs [b, a]) rfl (GDatum.vlit [b, a]) rfl <| gDr [(1, 0)] (by kernel_rfl) rfl rfl <| gHR 5 (kidsV [c]) rfl (ax c) rfl <| gFR 5 rfl (am _) rfl rfl <| gFR 4 rfl (GDatum.vpure _) rfl rfl ?_
 obtain ⟨d, f, g, hs340, h⟩ := h
 refine aj 7 hs340 (by kernel_rfl) rfl (by kernel_rfl) rfl rfl .rfl rfl rfl ?_
 exact gDr [(8, 0), (9, 2), (10, 2), (11, 2), (13, 1), (14, 1), (15, 1)] (by kernel_rfl) rfl rfl <| gDe (by kernel_rfl) <| gJ (h K hK) [0, 1, 3] [] rfl hK pq9 (pqo3 rfl rfl rfl rfl rfl rfl) rfl
 apply ah (i := 1) (j := 3) (by kernel_rfl) rfl rfl rfl rfl
 exact (ac ab rfl rfl)
 exact (ak (L' := [2]) (by kernel_rfl) rfl rfl (ar hs321 .rfl [2] rfl) (.inl rfl))
 refine gHR 4 (kidsV [c]) rfl (ax c) rfl <| aj 3 hs321 (by kernel_rfl) rfl (by kernel_rfl) rfl rfl .rfl rfl rfl ?_
 obtain ⟨a, hs341, h⟩ := h
 refine aj 5 hs341 (by kernel_rfl) rfl (by kernel_rfl) rfl rfl .rfl rfl rfl ?_
 refine gDr [(6, 0)] (by kernel_rfl) rfl rfl <| gHR 5 (GDatum.vs [b, a]) rfl (GDatum.vlit [b, a]) rfl <| gFR 4 rfl (am _) rfl rfl <| gFR 5 rfl (GDatum.vpure _) rfl rfl ?_
 obtain ⟨d, f, g, hs342, h⟩ := h
 refine aj 7 hs342 (by kernel_rfl) rfl (by kernel_rfl) rfl rfl .rfl rfl rfl ?_
 exact gDr [(8, 0), (9, 2), (10, 2), (11, 2), (13, 1), (14, 1), (15, 1)] (by kernel_rfl) rfl rfl <| gDe (by kernel_rfl) <| gJ (h K hK) [0, 1, 3] [] rfl hK pq9 (pqo3 rfl rfl rfl rfl rfl rfl) rfl
 obtain ⟨a, hs343, h⟩ := h
 apply ah (i := 1) (j := 5) (by kernel_rfl) rfl rfl rfl rfl
 exact (ac ab rfl rfl)
 exact (ak (L' := [2]) (by kernel_rfl) rfl rfl (ar hs343 .rfl [2] rfl) (.inl rfl))
 refine gHR 4 (kidsV [c]) rfl (ax c) rfl <| aj 5 hs343 (by kernel_rfl) rfl (by kernel_rfl) rfl rfl .rfl rfl rfl <| gDr [(6, 0)] (by kernel_rfl) rfl rfl <| gHR 5 (GDatum.vs [b, a]) rfl (GDatum.vlit [b, a]) rfl <| gFR 4 rfl (am _) rfl rfl <| gFR 5 rfl (GDatum.vpure _) rfl rfl ?_
 obtain ⟨d, f, g, hs344, h⟩ := h
 refine aj 7 hs344 (by kernel_rfl) rfl (by kernel_rfl) rfl rfl .rfl rfl rfl ?_
 exact gDr [(8, 0), (9, 2), (10, 2), (11, 2), (13, 1), (14, 1), (15, 1)] (by kernel_rfl) rfl rfl <| gDe (by kernel_rfl) <| gJ (h K hK) [0, 1, 3] [] rfl hK pq9 (pqo3 rfl rfl rfl rfl rfl rfl) rfl
 apply ah (i := 1) (j := 6) (by kernel_rfl) rfl rfl rfl rfl
 exact (ac ab rfl rfl)
 exact (ac ab rfl rfl)
 refine gHR 4 (kidsV [c]) rfl (ax c) rfl <| gDr [(6, 0)] (by kernel_rfl) rfl rfl <| gHR 5 (GDatum.vs [b, a]) rfl (GDatum.vlit [b, a]) rfl <| gFR 4 rfl (am _) rfl rfl <| gFR 5 rfl (GDatum.vpure _) rfl rfl ?_
 obtain ⟨d, f, g, hs345, h⟩ := h
 refine aj 7 hs345 (by kernel_rfl) rfl (by kernel_rfl) rfl rfl .rfl rfl rfl ?_
 exact gDr [(8, 0), (9, 2), (10, 2), (11, 2), (13, 1), (14, 1), (15, 1)] (by kernel_rfl) rfl rfl <| gDe (by kernel_rfl) <| gJ (h K hK) [0, 1, 3] [] rfl hK pq9 (pqo3 rfl rfl rfl rfl rfl rfl) rfl
 refine gHR 4 (GDatum.vs [b, a]) rfl (GDatum.vlit [b, a]) rfl <| gDr [(1, 0)] (by kernel_rfl) rfl rfl <| gHR 5 (kidsV [c]) rfl (ax c) rfl <| gFR 5 rfl (am _) rfl rfl <| gFR 4 rfl (GDatum.vpure _) rfl rfl ?_
 obtain ⟨d, f, g, hs346, h⟩ := h
 refine aj 7 hs346 (by kernel_rfl) rfl (by kernel_rfl) rfl rfl .rfl rfl rfl ?_
 exact gDr [(8, 0), (9, 2), (10, 2), (11, 2), (13, 1), (14, 1), (15, 1)] (by kernel_rfl) rfl rfl <| gDe (by kernel_rfl) <| gJ (h K hK) [0, 1, 3] [] rfl hK pq9 (pqo3 rfl rfl rfl rfl rfl rfl) rfl
theorem gO (m : Nat) (p0 p1 : Int) (g b i : GDatum) (j k : Nat) (c : Int) (l : GDatum) (d f : Int) (r0 : Bool) (h : ((c ≠ 0) → false = r0) ∧ ((c = 0) → ((f ≠ 0) → false = r0) ∧ ((f = 0) → ((d ≠ 3) → false = r0) ∧ ((d = 3) → ∃ a, aP l b a ∧ ((a = false) → false = r0) ∧ ((a = true) → dP m p0 p1 g b i j k r0))))) : dH (m + 1) p0 p1 g b i j k c l d f r0 := by
 intro K hK
 refine gR 2 rfl <| gDs [2, 1] 15 18 rfl (by kernel_rfl) (by kernel_rfl) <| gDr [(0, 0), (1, 0), (2, 0)] (by kernel_rfl) rfl rfl <| gB 68 rfl rfl rfl ?_ ?_ <;> intro hd
 refine gT 67 rfl hd rfl ?_
 replace hd := (bi hd)
 replace h := h.1 hd
 refine gDr [(3, 0), (4, 0), (5, 0), (6, 0), (7, 0), (8, 0), (9, 0), (10, 0), (11, 2), (12, 0), (13, 0), (14, 0), (15, 0), (16, 0), (17, 1)] (by kernel_rfl) rfl rfl <| gDe (by kernel_rfl) <| gR 10 rfl <| go_xloopR <| gR 2 rfl ?_
 subst h
 exact go_end ab (rs := [.tmp 4]) rfl rfl rfl
 refine gF 67 rfl hd rfl ?_
 replace hd := (aQ hd)
 replace h := h.2 hd
 refine gDr [(3, 0), (4, 0), (5, 0), (6, 0)] (by kernel_rfl) rfl rfl <| gB 72 rfl rfl rfl ?_ ?_ <;> intro hd
 refine gT 71 rfl hd rfl ?_
 replace hd := (bi hd)
 replace h := h.1 hd
 refine gDr [(7, 0), (8, 0), (9, 0), (10, 0), (11, 2), (12, 0), (13, 0), (14, 0), (15, 0), (16, 0), (17, 1)] (by kernel_rfl) rfl rfl <| gDe (by kernel_rfl) <| gR 10 rfl <| go_xloopR <| gR 2 rfl ?_
 subst h
 exact go_end ab (rs := [.tmp 4]) rfl rfl rfl
 refine gF 71 rfl hd rfl ?_
 replace hd := (aQ hd)
 replace h := h.2 hd
 refine gDr [(7, 0), (8, 0), (9, 0), (10, 0)] (by kernel_rfl) rfl rfl <| gB 76 rfl rfl rfl ?_ ?_ <;> intro hd
 refine gT 75 rfl hd rfl ?_
 replace hd := (bi hd)
 replace h := h.1 hd
 refine gDr [(11, 2), (12, 0), (13, 0), (14, 0), (15, 0), (16, 0), (17, 1)] (by kernel_rfl) rfl rfl <| gDe (by kernel_rfl) <| gR 10 rfl <| go_xloopR <| gR 2 rfl ?_
 subst h
 exact go_end ab (rs := [.tmp 4]) rfl rfl rfl
 refine gF 75 rfl hd rfl ?_
 replace hd := (aQ hd)
 replace h := h.2 hd
 refine gDr [(11, 3), (12, 0)] (by kernel_rfl) rfl rfl <| jF 13 rfl (by kernel_rfl) (yIP (len := 5) (e := 24) (sz := 4) ab rfl rfl rfl rfl rfl rfl rfl rfl) rfl rfl <| gDr [(14, 0)] (by kernel_rfl) rfl rfl ?_
 obtain ⟨a, hs347, h⟩ := h
 refine aj 15 hs347 (by kernel_rfl) rfl (by kernel_rfl) rfl rfl .rfl rfl rfl ?_
 refine gDr [(16, 1), (17, 1)] (by kernel_rfl) rfl rfl <| gDe (by kernel_rfl) <| gR 1 rfl <| gB 83 rfl rfl rfl ?_ ?_ <;> intro hd
 replace hd := (dg hd)
 replace h := h.1 hd
 refine gR 9 rfl <| go_xloopR <| gR 2 rfl ?_
 subst h
 exact go_end ab (rs := [.tmp 4]) rfl rfl rfl
 replace hd := (de hd)
 replace h := h.2 hd
 exact gR 7 rfl <| gV 43 (.int .i64 2) rfl (aL (by omega) (by omega)) rfl <| gR 2 rfl <| go_xloop <| gJ (h K hK) [0, 1] [] rfl hK pq5 (pqo2 rfl rfl rfl rfl) rfl
theorem gP (m : Nat) (p0 p1 : Int) (n o p : GDatum) (q r : Nat) (r0 : Bool) (h : [109, 111, 100, 117, 108, 101, 32, 77, 32, 100, 101, 102, 32, 102, 40, 97, 58, 32, 73, 110, 116, 44, 32, 98, 58, 32, 73, 110, 116, 41, 58, 32, 73, 110, 116, 32, 61, 32, 97, 32].length + [42].length ≤ 9223372036854775807 ∧ ([109, 111, 100, 117, 108, 101, 32, 77, 32, 100, 101, 102, 32, 102, 40, 97, 58, 32, 73, 110, 116, 44, 32, 98, 58, 32, 73, 110, 116, 41, 58, 32, 73, 110, 116, 32, 61, 32, 97, 32] ++ [42]).length + [32, 98].length ≤ 9223372036854775807 ∧ ∃ c s k, bQ (([109, 111, 100, 117, 108, 101, 32, 77, 32, 100, 101, 102, 32, 102, 40, 97, 58, 32, 73, 110, 116, 44, 32, 98, 58, 32, 73, 110, 116, 41, 58, 32, 73, 110, 116, 32, 61, 32, 97, 32] ++ [42]) ++ [32, 98]) c s k ∧ ∃ b, au p0 b ∧ ∃ a, au p1 a ∧ ∃ d f g, bT [c] 0 0 [b, a] 3 d f g ∧ dD m p0 p1 n o p q r k d f g r0) : dP (m + 1) p0 p1 n o p q r r0 := by
 intro K hK
 refine gR 15 rfl <| gY (yIP (len := 5) (e := 9) (sz := 1) ab rfl rfl rfl rfl rfl rfl rfl rfl) rfl rfl <| gR 1 rfl ?_
 obtain ⟨hb, h⟩ := h
 refine gY (ia rfl rfl hb) rfl rfl ?_
 obtain ⟨hb, h⟩ := h
 refine gY (ia rfl rfl hb) rfl rfl ?_
 obtain ⟨c, s, k, hs348, h⟩ := h
 refine gC0 hs348 (by kernel_rfl) rfl rfl .rfl rfl <| gR 11 rfl <| gDs [2] 13 16 rfl (by kernel_rfl) (by kernel_rfl) <| gDr [(0, 3), (2, 2), (4, 2)] (by kernel_rfl) rfl rfl ?_
 obtain ⟨b, hs349, h⟩ := h
 apply bE (i := 1) (j := 3) (l := 12) (by kernel_rfl) rfl rfl rfl rfl rfl rfl
 exact (ac ab rfl rfl)
 exact (ak (L' := [2]) (by kernel_rfl) rfl rfl (ar hs349 .rfl [2] rfl) (.inl rfl))
 exact (ac ab rfl rfl)
 refine gHR 3 (kidsV [c]) rfl (ax c) rfl ?_
 apply ah (i := 3) (j := 12) (by kernel_rfl) rfl rfl rfl rfl
 exact (ak (L' := [2]) (by kernel_rfl) rfl rfl (ar hs349 .rfl [2] rfl) (.inl rfl))
 exact (ac ab rfl rfl)
 obtain ⟨a, hs350, h⟩ := h
 apply ah (i := 5) (j := 12) (by kernel_rfl) rfl rfl rfl rfl
 exact (ak (L' := [2]) (by kernel_rfl) rfl rfl (ar hs350 .rfl [2] rfl) (.inl rfl))
 exact (ac ab rfl rfl)
 apply ah (i := 6) (j := 12) (by kernel_rfl) rfl rfl rfl rfl
 exact (ac ab rfl rfl)
 exact (ac ab rfl rfl)
 refine gHR 4 (GDatum.vs [b, a]) rfl (GDatum.vlit [b, a]) rfl <| gFR 3 rfl (am _) rfl rfl <| gFR 4 rfl (GDatum.vpure _) rfl rfl ?_
 obtain ⟨d, f, g, hs351, h⟩ := h
 apply ah (i := 7) (j := 12) (by kernel_rfl) rfl rfl rfl rfl
 exact (ak (L' := [2]) (by kernel_rfl) rfl rfl (ar hs351 .rfl [2] rfl) (.inl rfl))
 exact (ac ab rfl rfl)
 exact gDr [(8, 2), (9, 2), (10, 2), (11, 2), (12, 0), (13, 1), (14, 1), (15, 1)] (by kernel_rfl) rfl rfl <| gDe (by kernel_rfl) <| gJ (h K hK) [0, 1, 5] [] rfl hK pq9 (pqo3 rfl rfl rfl rfl rfl rfl) rfl
 refine aj 7 hs351 (by kernel_rfl) rfl (by kernel_rfl) rfl rfl .rfl rfl rfl ?_
 exact gDr [(8, 0), (9, 2), (10, 2), (11, 2), (13, 1), (14, 1), (15, 1)] (by kernel_rfl) rfl rfl <| gDe (by kernel_rfl) <| gJ (h K hK) [0, 1, 5] [] rfl hK pq9 (pqo3 rfl rfl rfl rfl rfl rfl) rfl
 refine gDr [(6, 0)] (by kernel_rfl) rfl rfl <| gHR 5 (GDatum.vs [b, a]) rfl (GDatum.vlit [b, a]) rfl <| gFR 3 rfl (am _) rfl rfl <| gFR 5 rfl (GDatum.vpure _) rfl rfl ?_
 obtain ⟨d, f, g, hs352, h⟩ := h
 refine aj 7 hs352 (by kernel_rfl) rfl (by kernel_rfl) rfl rfl .rfl rfl rfl ?_
 exact gDr [(8, 0), (9, 2), (10, 2), (11, 2), (13, 1), (14, 1), (15, 1)] (by kernel_rfl) rfl rfl <| gDe (by kernel_rfl) <| gJ (h K hK) [0, 1, 4] [] rfl hK pq9 (pqo3 rfl rfl rfl rfl rfl rfl) rfl
 refine aj 5 hs350 (by kernel_rfl) rfl (by kernel_rfl) rfl rfl .rfl rfl rfl ?_
 refine gDr [(6, 0)] (by kernel_rfl) rfl rfl <| gHR 5 (GDatum.vs [b, a]) rfl (GDatum.vlit [b, a]) rfl <| gFR 3 rfl (am _) rfl rfl <| gFR 5 rfl (GDatum.vpure _) rfl rfl ?_
 obtain ⟨d, f, g, hs353, h⟩ := h
 refine aj 7 hs353 (by kernel_rfl) rfl (by kernel_rfl) rfl rfl .rfl rfl rfl ?_
 exact gDr [(8, 0), (9, 2), (10, 2), (11, 2), (13, 1), (14, 1), (15, 1)] (by kernel_rfl) rfl rfl <| gDe (by kernel_rfl) <| gJ (h K hK) [0, 1, 4] [] rfl hK pq9 (pqo3 rfl rfl rfl rfl rfl rfl) rfl
 refine aj 3 hs349 (by kernel_rfl) rfl (by kernel_rfl) rfl rfl .rfl rfl rfl ?_
 obtain ⟨a, hs354, h⟩ := h
 refine aj 5 hs354 (by kernel_rfl) rfl (by kernel_rfl) rfl rfl .rfl rfl rfl ?_
 refine gDr [(6, 0)] (by kernel_rfl) rfl rfl <| gHR 5 (GDatum.vs [b, a]) rfl (GDatum.vlit [b, a]) rfl <| gFR 3 rfl (am _) rfl rfl <| gFR 5 rfl (GDatum.vpure _) rfl rfl ?_
 obtain ⟨d, f, g, hs355, h⟩ := h
 refine aj 7 hs355 (by kernel_rfl) rfl (by kernel_rfl) rfl rfl .rfl rfl rfl ?_
 exact gDr [(8, 0), (9, 2), (10, 2), (11, 2), (13, 1), (14, 1), (15, 1)] (by kernel_rfl) rfl rfl <| gDe (by kernel_rfl) <| gJ (h K hK) [0, 1, 4] [] rfl hK pq9 (pqo3 rfl rfl rfl rfl rfl rfl) rfl
 obtain ⟨a, hs356, h⟩ := h
 apply bE (i := 1) (j := 5) (l := 12) (by kernel_rfl) rfl rfl rfl rfl rfl rfl
 exact (ac ab rfl rfl)
 exact (ak (L' := [2]) (by kernel_rfl) rfl rfl (ar hs356 .rfl [2] rfl) (.inl rfl))
 exact (ac ab rfl rfl)
 refine gHR 3 (kidsV [c]) rfl (ax c) rfl ?_
 apply ah (i := 5) (j := 12) (by kernel_rfl) rfl rfl rfl rfl
 exact (ak (L' := [2]) (by kernel_rfl) rfl rfl (ar hs356 .rfl [2] rfl) (.inl rfl))
 exact (ac ab rfl rfl)
 apply ah (i := 6) (j := 12) (by kernel_rfl) rfl rfl rfl rfl
 exact (ac ab rfl rfl)
 exact (ac ab rfl rfl)
 refine gHR 4 (GDatum.vs [b, a]) rfl (GDatum.vlit [b, a]) rfl <| gFR 3 rfl (am _) rfl rfl <| gFR 4 rfl (GDatum.vpure _) rfl rfl ?_
 obtain ⟨d, f, g, hs357, h⟩ := h
 apply ah (i := 7) (j := 12) (by kernel_rfl) rfl rfl rfl rfl
 exact (ak (L' := [2]) (by kernel_rfl) rfl rfl (ar hs357 .rfl [2] rfl) (.inl rfl))
 exact (ac ab rfl rfl)
 exact gDr [(8, 2), (9, 2), (10, 2), (11, 2), (12, 0), (13, 1), (14, 1), (15, 1)] (by kernel_rfl) rfl rfl <| gDe (by kernel_rfl) <| gJ (h K hK) [0, 1, 5] [] rfl hK pq9 (pqo3 rfl rfl rfl rfl rfl rfl) rfl
 refine aj 7 hs357 (by kernel_rfl) rfl (by kernel_rfl) rfl rfl .rfl rfl rfl ?_
 exact gDr [(8, 0), (9, 2), (10, 2), (11, 2), (13, 1), (14, 1), (15, 1)] (by kernel_rfl) rfl rfl <| gDe (by kernel_rfl) <| gJ (h K hK) [0, 1, 5] [] rfl hK pq9 (pqo3 rfl rfl rfl rfl rfl rfl) rfl
 refine gDr [(6, 0)] (by kernel_rfl) rfl rfl <| gHR 5 (GDatum.vs [b, a]) rfl (GDatum.vlit [b, a]) rfl <| gFR 3 rfl (am _) rfl rfl <| gFR 5 rfl (GDatum.vpure _) rfl rfl ?_
 obtain ⟨d, f, g, hs358, h⟩ := h
 refine aj 7 hs358 (by kernel_rfl) rfl (by kernel_rfl) rfl rfl .rfl rfl rfl ?_
 exact gDr [(8, 0), (9, 2), (10, 2), (11, 2), (13, 1), (14, 1), (15, 1)] (by kernel_rfl) rfl rfl <| gDe (by kernel_rfl) <| gJ (h K hK) [0, 1, 4] [] rfl hK pq9 (pqo3 rfl rfl rfl rfl rfl rfl) rfl
 refine aj 5 hs356 (by kernel_rfl) rfl (by kernel_rfl) rfl rfl .rfl rfl rfl ?_
 refine gDr [(6, 0)] (by kernel_rfl) rfl rfl <| gHR 5 (GDatum.vs [b, a]) rfl (GDatum.vlit [b, a]) rfl <| gFR 3 rfl (am _) rfl rfl <| gFR 5 rfl (GDatum.vpure _) rfl rfl ?_
 obtain ⟨d, f, g, hs359, h⟩ := h
 refine aj 7 hs359 (by kernel_rfl) rfl (by kernel_rfl) rfl rfl .rfl rfl rfl ?_
 exact gDr [(8, 0), (9, 2), (10, 2), (11, 2), (13, 1), (14, 1), (15, 1)] (by kernel_rfl) rfl rfl <| gDe (by kernel_rfl) <| gJ (h K hK) [0, 1, 4] [] rfl hK pq9 (pqo3 rfl rfl rfl rfl rfl rfl) rfl
 apply bE (i := 1) (j := 6) (l := 12) (by kernel_rfl) rfl rfl rfl rfl rfl rfl
 exact (ac ab rfl rfl)
 exact (ac ab rfl rfl)
 exact (ac ab rfl rfl)
 refine gHR 3 (kidsV [c]) rfl (ax c) rfl ?_
 apply ah (i := 6) (j := 12) (by kernel_rfl) rfl rfl rfl rfl
 exact (ac ab rfl rfl)
 exact (ac ab rfl rfl)
 refine gHR 4 (GDatum.vs [b, a]) rfl (GDatum.vlit [b, a]) rfl <| gFR 3 rfl (am _) rfl rfl <| gFR 4 rfl (GDatum.vpure _) rfl rfl ?_
 obtain ⟨d, f, g, hs360, h⟩ := h
 apply ah (i := 7) (j := 12) (by kernel_rfl) rfl rfl rfl rfl
 exact (ak (L' := [2]) (by kernel_rfl) rfl rfl (ar hs360 .rfl [2] rfl) (.inl rfl))
 exact (ac ab rfl rfl)
 exact gDr [(8, 2), (9, 2), (10, 2), (11, 2), (12, 0), (13, 1), (14, 1), (15, 1)] (by kernel_rfl) rfl rfl <| gDe (by kernel_rfl) <| gJ (h K hK) [0, 1, 5] [] rfl hK pq9 (pqo3 rfl rfl rfl rfl rfl rfl) rfl
 refine aj 7 hs360 (by kernel_rfl) rfl (by kernel_rfl) rfl rfl .rfl rfl rfl ?_
 exact gDr [(8, 0), (9, 2), (10, 2), (11, 2), (13, 1), (14, 1), (15, 1)] (by kernel_rfl) rfl rfl <| gDe (by kernel_rfl) <| gJ (h K hK) [0, 1, 5] [] rfl hK pq9 (pqo3 rfl rfl rfl rfl rfl rfl) rfl
 refine gDr [(6, 0)] (by kernel_rfl) rfl rfl <| gHR 5 (GDatum.vs [b, a]) rfl (GDatum.vlit [b, a]) rfl <| gFR 3 rfl (am _) rfl rfl <| gFR 5 rfl (GDatum.vpure _) rfl rfl ?_
 obtain ⟨d, f, g, hs361, h⟩ := h
 refine aj 7 hs361 (by kernel_rfl) rfl (by kernel_rfl) rfl rfl .rfl rfl rfl ?_
 exact gDr [(8, 0), (9, 2), (10, 2), (11, 2), (13, 1), (14, 1), (15, 1)] (by kernel_rfl) rfl rfl <| gDe (by kernel_rfl) <| gJ (h K hK) [0, 1, 4] [] rfl hK pq9 (pqo3 rfl rfl rfl rfl rfl rfl) rfl
 refine gHR 3 (GDatum.vs [b, a]) rfl (GDatum.vlit [b, a]) rfl ?_
 apply ah (i := 1) (j := 12) (by kernel_rfl) rfl rfl rfl rfl
 exact (ac ab rfl rfl)
 exact (ac ab rfl rfl)
 refine gHR 4 (kidsV [c]) rfl (ax c) rfl <| gFR 4 rfl (am _) rfl rfl <| gFR 3 rfl (GDatum.vpure _) rfl rfl ?_
 obtain ⟨d, f, g, hs362, h⟩ := h
 apply ah (i := 7) (j := 12) (by kernel_rfl) rfl rfl rfl rfl
 exact (ak (L' := [2]) (by kernel_rfl) rfl rfl (ar hs362 .rfl [2] rfl) (.inl rfl))
 exact (ac ab rfl rfl)
 exact gDr [(8, 2), (9, 2), (10, 2), (11, 2), (12, 0), (13, 1), (14, 1), (15, 1)] (by kernel_rfl) rfl rfl <| gDe (by kernel_rfl) <| gJ (h K hK) [0, 1, 5] [] rfl hK pq9 (pqo3 rfl rfl rfl rfl rfl rfl) rfl
 refine aj 7 hs362 (by kernel_rfl) rfl (by kernel_rfl) rfl rfl .rfl rfl rfl ?_
 exact gDr [(8, 0), (9, 2), (10, 2), (11, 2), (13, 1), (14, 1), (15, 1)] (by kernel_rfl) rfl rfl <| gDe (by kernel_rfl) <| gJ (h K hK) [0, 1, 5] [] rfl hK pq9 (pqo3 rfl rfl rfl rfl rfl rfl) rfl
 refine gDr [(1, 0)] (by kernel_rfl) rfl rfl <| gHR 5 (kidsV [c]) rfl (ax c) rfl <| gFR 5 rfl (am _) rfl rfl <| gFR 3 rfl (GDatum.vpure _) rfl rfl ?_
 obtain ⟨d, f, g, hs363, h⟩ := h
 refine aj 7 hs363 (by kernel_rfl) rfl (by kernel_rfl) rfl rfl .rfl rfl rfl ?_
 exact gDr [(8, 0), (9, 2), (10, 2), (11, 2), (13, 1), (14, 1), (15, 1)] (by kernel_rfl) rfl rfl <| gDe (by kernel_rfl) <| gJ (h K hK) [0, 1, 4] [] rfl hK pq9 (pqo3 rfl rfl rfl rfl rfl rfl) rfl
 apply ah (i := 1) (j := 6) (by kernel_rfl) rfl rfl rfl rfl
 exact (ac ab rfl rfl)
 exact (ac ab rfl rfl)
 refine gHR 4 (kidsV [c]) rfl (ax c) rfl <| gDr [(6, 0)] (by kernel_rfl) rfl rfl <| gHR 5 (GDatum.vs [b, a]) rfl (GDatum.vlit [b, a]) rfl <| gFR 4 rfl (am _) rfl rfl <| gFR 5 rfl (GDatum.vpure _) rfl rfl ?_
 obtain ⟨d, f, g, hs364, h⟩ := h
 refine aj 7 hs364 (by kernel_rfl) rfl (by kernel_rfl) rfl rfl .rfl rfl rfl ?_
 exact gDr [(8, 0), (9, 2), (10, 2), (11, 2), (13, 1), (14, 1), (15, 1)] (by kernel_rfl) rfl rfl <| gDe (by kernel_rfl) <| gJ (h K hK) [0, 1, 3] [] rfl hK pq9 (pqo3 rfl rfl rfl rfl rfl rfl) rfl
 refine gHR 4 (GDatum.vs [b, a]) rfl (GDatum.vlit [b, a]) rfl <| gDr [(1, 0)] (by kernel_rfl) rfl rfl <| gHR 5 (kidsV [c]) rfl (ax c) rfl <| gFR 5 rfl (am _) rfl rfl <| gFR 4 rfl (GDatum.vpure _) rfl rfl ?_
 obtain ⟨d, f, g, hs365, h⟩ := h
 refine aj 7 hs365 (by kernel_rfl) rfl (by kernel_rfl) rfl rfl .rfl rfl rfl ?_
 exact gDr [(8, 0), (9, 2), (10, 2), (11, 2), (13, 1), (14, 1), (15, 1)] (by kernel_rfl) rfl rfl <| gDe (by kernel_rfl) <| gJ (h K hK) [0, 1, 3] [] rfl hK pq9 (pqo3 rfl rfl rfl rfl rfl rfl) rfl
 apply ah (i := 1) (j := 5) (by kernel_rfl) rfl rfl rfl rfl
 exact (ac ab rfl rfl)
 exact (ak (L' := [2]) (by kernel_rfl) rfl rfl (ar hs356 .rfl [2] rfl) (.inl rfl))
 refine gHR 4 (kidsV [c]) rfl (ax c) rfl <| aj 5 hs356 (by kernel_rfl) rfl (by kernel_rfl) rfl rfl .rfl rfl rfl <| gDr [(6, 0)] (by kernel_rfl) rfl rfl <| gHR 5 (GDatum.vs [b, a]) rfl (GDatum.vlit [b, a]) rfl <| gFR 4 rfl (am _) rfl rfl <| gFR 5 rfl (GDatum.vpure _) rfl rfl ?_
 obtain ⟨d, f, g, hs366, h⟩ := h
 refine aj 7 hs366 (by kernel_rfl) rfl (by kernel_rfl) rfl rfl .rfl rfl rfl ?_
 exact gDr [(8, 0), (9, 2), (10, 2), (11, 2), (13, 1), (14, 1), (15, 1)] (by kernel_rfl) rfl rfl <| gDe (by kernel_rfl) <| gJ (h K hK) [0, 1, 3] [] rfl hK pq9 (pqo3 rfl rfl rfl rfl rfl rfl) rfl
 apply ah (i := 1) (j := 6) (by kernel_rfl) rfl rfl rfl rfl
 exact (ac ab rfl rfl)
 exact (ac ab rfl rfl)
 refine gHR 4 (kidsV [c]) rfl (ax c) rfl <| gDr [(6, 0)] (by kernel_rfl) rfl rfl <| gHR 5 (GDatum.vs [b, a]) rfl (GDatum.vlit [b, a]) rfl <| gFR 4 rfl (am _) rfl rfl <| gFR 5 rfl (GDatum.vpure _) rfl rfl ?_
 obtain ⟨d, f, g, hs367, h⟩ := h
 refine aj 7 hs367 (by kernel_rfl) rfl (by kernel_rfl) rfl rfl .rfl rfl rfl ?_
 exact gDr [(8, 0), (9, 2), (10, 2), (11, 2), (13, 1), (14, 1), (15, 1)] (by kernel_rfl) rfl rfl <| gDe (by kernel_rfl) <| gJ (h K hK) [0, 1, 3] [] rfl hK pq9 (pqo3 rfl rfl rfl rfl rfl rfl) rfl
 refine gHR 4 (GDatum.vs [b, a]) rfl (GDatum.vlit [b, a]) rfl <| gDr [(1, 0)] (by kernel_rfl) rfl rfl <| gHR 5 (kidsV [c]) rfl (ax c) rfl <| gFR 5 rfl (am _) rfl rfl <| gFR 4 rfl (GDatum.vpure _) rfl rfl ?_
 obtain ⟨d, f, g, hs368, h⟩ := h
 refine aj 7 hs368 (by kernel_rfl) rfl (by kernel_rfl) rfl rfl .rfl rfl rfl ?_
 exact gDr [(8, 0), (9, 2), (10, 2), (11, 2), (13, 1), (14, 1), (15, 1)] (by kernel_rfl) rfl rfl <| gDe (by kernel_rfl) <| gJ (h K hK) [0, 1, 3] [] rfl hK pq9 (pqo3 rfl rfl rfl rfl rfl rfl) rfl
 apply ah (i := 1) (j := 3) (by kernel_rfl) rfl rfl rfl rfl
 exact (ac ab rfl rfl)
 exact (ak (L' := [2]) (by kernel_rfl) rfl rfl (ar hs349 .rfl [2] rfl) (.inl rfl))
 refine gHR 4 (kidsV [c]) rfl (ax c) rfl <| aj 3 hs349 (by kernel_rfl) rfl (by kernel_rfl) rfl rfl .rfl rfl rfl ?_
 obtain ⟨a, hs369, h⟩ := h
 refine aj 5 hs369 (by kernel_rfl) rfl (by kernel_rfl) rfl rfl .rfl rfl rfl ?_
 refine gDr [(6, 0)] (by kernel_rfl) rfl rfl <| gHR 5 (GDatum.vs [b, a]) rfl (GDatum.vlit [b, a]) rfl <| gFR 4 rfl (am _) rfl rfl <| gFR 5 rfl (GDatum.vpure _) rfl rfl ?_
 obtain ⟨d, f, g, hs370, h⟩ := h
 refine aj 7 hs370 (by kernel_rfl) rfl (by kernel_rfl) rfl rfl .rfl rfl rfl ?_
 exact gDr [(8, 0), (9, 2), (10, 2), (11, 2), (13, 1), (14, 1), (15, 1)] (by kernel_rfl) rfl rfl <| gDe (by kernel_rfl) <| gJ (h K hK) [0, 1, 3] [] rfl hK pq9 (pqo3 rfl rfl rfl rfl rfl rfl) rfl
 obtain ⟨a, hs371, h⟩ := h
 apply ah (i := 1) (j := 5) (by kernel_rfl) rfl rfl rfl rfl
 exact (ac ab rfl rfl)
 exact (ak (L' := [2]) (by kernel_rfl) rfl rfl (ar hs371 .rfl [2] rfl) (.inl rfl))
 refine gHR 4 (kidsV [c]) rfl (ax c) rfl <| aj 5 hs371 (by kernel_rfl) rfl (by kernel_rfl) rfl rfl .rfl rfl rfl <| gDr [(6, 0)] (by kernel_rfl) rfl rfl <| gHR 5 (GDatum.vs [b, a]) rfl (GDatum.vlit [b, a]) rfl <| gFR 4 rfl (am _) rfl rfl <| gFR 5 rfl (GDatum.vpure _) rfl rfl ?_
 obtain ⟨d, f, g, hs372, h⟩ := h
 refine aj 7 hs372 (by kernel_rfl) rfl (by kernel_rfl) rfl rfl .rfl rfl rfl ?_
 exact gDr [(8, 0), (9, 2), (10, 2), (11, 2), (13, 1), (14, 1), (15, 1)] (by kernel_rfl) rfl rfl <| gDe (by kernel_rfl) <| gJ (h K hK) [0, 1, 3] [] rfl hK pq9 (pqo3 rfl rfl rfl rfl rfl rfl) rfl
 apply ah (i := 1) (j := 6) (by kernel_rfl) rfl rfl rfl rfl
 exact (ac ab rfl rfl)
 exact (ac ab rfl rfl)
 refine gHR 4 (kidsV [c]) rfl (ax c) rfl <| gDr [(6, 0)] (by kernel_rfl) rfl rfl <| gHR 5 (GDatum.vs [b, a]) rfl (GDatum.vlit [b, a]) rfl <| gFR 4 rfl (am _) rfl rfl <| gFR 5 rfl (GDatum.vpure _) rfl rfl ?_
 obtain ⟨d, f, g, hs373, h⟩ := h
 refine aj 7 hs373 (by kernel_rfl) rfl (by kernel_rfl) rfl rfl .rfl rfl rfl ?_
 exact gDr [(8, 0), (9, 2), (10, 2), (11, 2), (13, 1), (14, 1), (15, 1)] (by kernel_rfl) rfl rfl <| gDe (by kernel_rfl) <| gJ (h K hK) [0, 1, 3] [] rfl hK pq9 (pqo3 rfl rfl rfl rfl rfl rfl) rfl
 refine gHR 4 (GDatum.vs [b, a]) rfl (GDatum.vlit [b, a]) rfl <| gDr [(1, 0)] (by kernel_rfl) rfl rfl <| gHR 5 (kidsV [c]) rfl (ax c) rfl <| gFR 5 rfl (am _) rfl rfl <| gFR 4 rfl (GDatum.vpure _) rfl rfl ?_
 obtain ⟨d, f, g, hs374, h⟩ := h
 refine aj 7 hs374 (by kernel_rfl) rfl (by kernel_rfl) rfl rfl .rfl rfl rfl ?_
 exact gDr [(8, 0), (9, 2), (10, 2), (11, 2), (13, 1), (14, 1), (15, 1)] (by kernel_rfl) rfl rfl <| gDe (by kernel_rfl) <| gJ (h K hK) [0, 1, 3] [] rfl hK pq9 (pqo3 rfl rfl rfl rfl rfl rfl) rfl
theorem gQ (m : Nat) (p0 p1 : Int) (g i b : GDatum) (j k : Nat) (c : Int) (l : GDatum) (d f : Int) (r0 : Bool) (h : ((c ≠ 0) → false = r0) ∧ ((c = 0) → ((f ≠ 0) → false = r0) ∧ ((f = 0) → ((d ≠ 3) → false = r0) ∧ ((d = 3) → ∃ a, aP l b a ∧ ((a = false) → false = r0) ∧ ((a = true) → dJ m p0 p1 g i b j k r0))))) : dD (m + 1) p0 p1 g i b j k c l d f r0 := by
 intro K hK
 refine gR 2 rfl <| gDs [2, 1] 15 18 rfl (by kernel_rfl) (by kernel_rfl) <| gDr [(0, 0), (1, 0), (2, 0)] (by kernel_rfl) rfl rfl <| gB 68 rfl rfl rfl ?_ ?_ <;> intro hd
 refine gT 67 rfl hd rfl ?_
 replace hd := (bi hd)
 replace h := h.1 hd
 refine gDr [(3, 0), (4, 0), (5, 0), (6, 0), (7, 0), (8, 0), (9, 0), (10, 0), (11, 2), (12, 0), (13, 0), (14, 0), (15, 0), (16, 0), (17, 1)] (by kernel_rfl) rfl rfl <| gDe (by kernel_rfl) <| gR 10 rfl <| go_xloopR <| gR 2 rfl ?_
 subst h
 exact go_end ab (rs := [.tmp 4]) rfl rfl rfl
 refine gF 67 rfl hd rfl ?_
 replace hd := (aQ hd)
 replace h := h.2 hd
 refine gDr [(3, 0), (4, 0), (5, 0), (6, 0)] (by kernel_rfl) rfl rfl <| gB 72 rfl rfl rfl ?_ ?_ <;> intro hd
 refine gT 71 rfl hd rfl ?_
 replace hd := (bi hd)
 replace h := h.1 hd
 refine gDr [(7, 0), (8, 0), (9, 0), (10, 0), (11, 2), (12, 0), (13, 0), (14, 0), (15, 0), (16, 0), (17, 1)] (by kernel_rfl) rfl rfl <| gDe (by kernel_rfl) <| gR 10 rfl <| go_xloopR <| gR 2 rfl ?_
 subst h
 exact go_end ab (rs := [.tmp 4]) rfl rfl rfl
 refine gF 71 rfl hd rfl ?_
 replace hd := (aQ hd)
 replace h := h.2 hd
 refine gDr [(7, 0), (8, 0), (9, 0), (10, 0)] (by kernel_rfl) rfl rfl <| gB 76 rfl rfl rfl ?_ ?_ <;> intro hd
 refine gT 75 rfl hd rfl ?_
 replace hd := (bi hd)
 replace h := h.1 hd
 refine gDr [(11, 2), (12, 0), (13, 0), (14, 0), (15, 0), (16, 0), (17, 1)] (by kernel_rfl) rfl rfl <| gDe (by kernel_rfl) <| gR 10 rfl <| go_xloopR <| gR 2 rfl ?_
 subst h
 exact go_end ab (rs := [.tmp 4]) rfl rfl rfl
 refine gF 75 rfl hd rfl ?_
 replace hd := (aQ hd)
 replace h := h.2 hd
 refine gDr [(11, 3), (12, 0)] (by kernel_rfl) rfl rfl <| jF 13 rfl (by kernel_rfl) (yIP (len := 5) (e := 24) (sz := 4) ab rfl rfl rfl rfl rfl rfl rfl rfl) rfl rfl <| gDr [(14, 0)] (by kernel_rfl) rfl rfl ?_
 obtain ⟨a, hs375, h⟩ := h
 refine aj 15 hs375 (by kernel_rfl) rfl (by kernel_rfl) rfl rfl .rfl rfl rfl ?_
 refine gDr [(16, 1), (17, 1)] (by kernel_rfl) rfl rfl <| gDe (by kernel_rfl) <| gR 1 rfl <| gB 83 rfl rfl rfl ?_ ?_ <;> intro hd
 replace hd := (dg hd)
 replace h := h.1 hd
 refine gR 9 rfl <| go_xloopR <| gR 2 rfl ?_
 subst h
 exact go_end ab (rs := [.tmp 4]) rfl rfl rfl
 replace hd := (de hd)
 replace h := h.2 hd
 exact gR 7 rfl <| gV 43 (.int .i64 3) rfl (aL (by omega) (by omega)) rfl <| gR 2 rfl <| go_xloop <| gJ (h K hK) [0, 1] [] rfl hK pq5 (pqo2 rfl rfl rfl rfl) rfl
theorem gM (m : Nat) (p0 p1 : Int) (n o p : GDatum) (q r : Nat) (r0 : Bool) (h : [109, 111, 100, 117, 108, 101, 32, 77, 32, 100, 101, 102, 32, 102, 40, 97, 58, 32, 73, 110, 116, 44, 32, 98, 58, 32, 73, 110, 116, 41, 58, 32, 73, 110, 116, 32, 61, 32, 97, 32].length + [60].length ≤ 9223372036854775807 ∧ ([109, 111, 100, 117, 108, 101, 32, 77, 32, 100, 101, 102, 32, 102, 40, 97, 58, 32, 73, 110, 116, 44, 32, 98, 58, 32, 73, 110, 116, 41, 58, 32, 73, 110, 116, 32, 61, 32, 97, 32] ++ [60]).length + [32, 98].length ≤ 9223372036854775807 ∧ ∃ c s k, bQ (([109, 111, 100, 117, 108, 101, 32, 77, 32, 100, 101, 102, 32, 102, 40, 97, 58, 32, 73, 110, 116, 44, 32, 98, 58, 32, 73, 110, 116, 41, 58, 32, 73, 110, 116, 32, 61, 32, 97, 32] ++ [60]) ++ [32, 98]) c s k ∧ ∃ b, au p0 b ∧ ∃ a, au p1 a ∧ ∃ d f g, bT [c] 0 0 [b, a] 3 d f g ∧ dy m p0 p1 n o p q r k d f g r0) : dJ (m + 1) p0 p1 n o p q r r0 := by
 intro K hK
 refine gR 15 rfl <| gY (yIP (len := 5) (e := 9) (sz := 1) ab rfl rfl rfl rfl rfl rfl rfl rfl) rfl rfl <| gR 1 rfl ?_
 obtain ⟨hb, h⟩ := h
 refine gY (ia rfl rfl hb) rfl rfl ?_
 obtain ⟨hb, h⟩ := h
 refine gY (ia rfl rfl hb) rfl rfl ?_
 obtain ⟨c, s, k, hs376, h⟩ := h
 refine gC0 hs376 (by kernel_rfl) rfl rfl .rfl rfl <| gR 11 rfl <| gDs [2] 13 16 rfl (by kernel_rfl) (by kernel_rfl) <| gDr [(0, 3), (2, 2), (4, 2)] (by kernel_rfl) rfl rfl ?_
 obtain ⟨b, hs377, h⟩ := h
 apply bE (i := 1) (j := 3) (l := 12) (by kernel_rfl) rfl rfl rfl rfl rfl rfl
 exact (ac ab rfl rfl)
 exact (ak (L' := [2]) (by kernel_rfl) rfl rfl (ar hs377 .rfl [2] rfl) (.inl rfl))
 exact (ac ab rfl rfl)
 refine gHR 3 (kidsV [c]) rfl (ax c) rfl ?_
 apply ah (i := 3) (j := 12) (by kernel_rfl) rfl rfl rfl rfl
 exact (ak (L' := [2]) (by kernel_rfl) rfl rfl (ar hs377 .rfl [2] rfl) (.inl rfl))
 exact (ac ab rfl rfl)
 obtain ⟨a, hs378, h⟩ := h
 apply ah (i := 5) (j := 12) (by kernel_rfl) rfl rfl rfl rfl
 exact (ak (L' := [2]) (by kernel_rfl) rfl rfl (ar hs378 .rfl [2] rfl) (.inl rfl))
 exact (ac ab rfl rfl)
 apply ah (i := 6) (j := 12) (by kernel_rfl) rfl rfl rfl rfl
 exact (ac ab rfl rfl)
 exact (ac ab rfl rfl)
 refine gHR 4 (GDatum.vs [b, a]) rfl (GDatum.vlit [b, a]) rfl <| gFR 3 rfl (am _) rfl rfl <| gFR 4 rfl (GDatum.vpure _) rfl rfl ?_
 obtain ⟨d, f, g, hs379, h⟩ := h
 apply ah (i := 7) (j := 12) (by kernel_rfl) rfl rfl rfl rfl
 exact (ak (L' := [2]) (by kernel_rfl) rfl rfl (ar hs379 .rfl [2] rfl) (.inl rfl))
 exact (ac ab rfl rfl)
 exact gDr [(8, 2), (9, 2), (10, 2), (11, 2), (12, 0), (13, 1), (14, 1), (15, 1)] (by kernel_rfl) rfl rfl <| gDe (by kernel_rfl) <| gJ (h K hK) [0, 1, 5] [] rfl hK pq9 (pqo3 rfl rfl rfl rfl rfl rfl) rfl
 refine aj 7 hs379 (by kernel_rfl) rfl (by kernel_rfl) rfl rfl .rfl rfl rfl ?_
 exact gDr [(8, 0), (9, 2), (10, 2), (11, 2), (13, 1), (14, 1), (15, 1)] (by kernel_rfl) rfl rfl <| gDe (by kernel_rfl) <| gJ (h K hK) [0, 1, 5] [] rfl hK pq9 (pqo3 rfl rfl rfl rfl rfl rfl) rfl
 refine gDr [(6, 0)] (by kernel_rfl) rfl rfl <| gHR 5 (GDatum.vs [b, a]) rfl (GDatum.vlit [b, a]) rfl <| gFR 3 rfl (am _) rfl rfl <| gFR 5 rfl (GDatum.vpure _) rfl rfl ?_
 obtain ⟨d, f, g, hs380, h⟩ := h
 refine aj 7 hs380 (by kernel_rfl) rfl (by kernel_rfl) rfl rfl .rfl rfl rfl ?_
 exact gDr [(8, 0), (9, 2), (10, 2), (11, 2), (13, 1), (14, 1), (15, 1)] (by kernel_rfl) rfl rfl <| gDe (by kernel_rfl) <| gJ (h K hK) [0, 1, 4] [] rfl hK pq9 (pqo3 rfl rfl rfl rfl rfl rfl) rfl
 refine aj 5 hs378 (by kernel_rfl) rfl (by kernel_rfl) rfl rfl .rfl rfl rfl ?_
 refine gDr [(6, 0)] (by kernel_rfl) rfl rfl <| gHR 5 (GDatum.vs [b, a]) rfl (GDatum.vlit [b, a]) rfl <| gFR 3 rfl (am _) rfl rfl <| gFR 5 rfl (GDatum.vpure _) rfl rfl ?_
 obtain ⟨d, f, g, hs381, h⟩ := h
 refine aj 7 hs381 (by kernel_rfl) rfl (by kernel_rfl) rfl rfl .rfl rfl rfl ?_
 exact gDr [(8, 0), (9, 2), (10, 2), (11, 2), (13, 1), (14, 1), (15, 1)] (by kernel_rfl) rfl rfl <| gDe (by kernel_rfl) <| gJ (h K hK) [0, 1, 4] [] rfl hK pq9 (pqo3 rfl rfl rfl rfl rfl rfl) rfl
 refine aj 3 hs377 (by kernel_rfl) rfl (by kernel_rfl) rfl rfl .rfl rfl rfl ?_
 obtain ⟨a, hs382, h⟩ := h
 refine aj 5 hs382 (by kernel_rfl) rfl (by kernel_rfl) rfl rfl .rfl rfl rfl ?_
 refine gDr [(6, 0)] (by kernel_rfl) rfl rfl <| gHR 5 (GDatum.vs [b, a]) rfl (GDatum.vlit [b, a]) rfl <| gFR 3 rfl (am _) rfl rfl <| gFR 5 rfl (GDatum.vpure _) rfl rfl ?_
 obtain ⟨d, f, g, hs383, h⟩ := h
 refine aj 7 hs383 (by kernel_rfl) rfl (by kernel_rfl) rfl rfl .rfl rfl rfl ?_
 exact gDr [(8, 0), (9, 2), (10, 2), (11, 2), (13, 1), (14, 1), (15, 1)] (by kernel_rfl) rfl rfl <| gDe (by kernel_rfl) <| gJ (h K hK) [0, 1, 4] [] rfl hK pq9 (pqo3 rfl rfl rfl rfl rfl rfl) rfl
 obtain ⟨a, hs384, h⟩ := h
 apply bE (i := 1) (j := 5) (l := 12) (by kernel_rfl) rfl rfl rfl rfl rfl rfl
 exact (ac ab rfl rfl)
 exact (ak (L' := [2]) (by kernel_rfl) rfl rfl (ar hs384 .rfl [2] rfl) (.inl rfl))
 exact (ac ab rfl rfl)
 refine gHR 3 (kidsV [c]) rfl (ax c) rfl ?_
 apply ah (i := 5) (j := 12) (by kernel_rfl) rfl rfl rfl rfl
 exact (ak (L' := [2]) (by kernel_rfl) rfl rfl (ar hs384 .rfl [2] rfl) (.inl rfl))
 exact (ac ab rfl rfl)
 apply ah (i := 6) (j := 12) (by kernel_rfl) rfl rfl rfl rfl
 exact (ac ab rfl rfl)
 exact (ac ab rfl rfl)
 refine gHR 4 (GDatum.vs [b, a]) rfl (GDatum.vlit [b, a]) rfl <| gFR 3 rfl (am _) rfl rfl <| gFR 4 rfl (GDatum.vpure _) rfl rfl ?_
 obtain ⟨d, f, g, hs385, h⟩ := h
 apply ah (i := 7) (j := 12) (by kernel_rfl) rfl rfl rfl rfl
 exact (ak (L' := [2]) (by kernel_rfl) rfl rfl (ar hs385 .rfl [2] rfl) (.inl rfl))
 exact (ac ab rfl rfl)
 exact gDr [(8, 2), (9, 2), (10, 2), (11, 2), (12, 0), (13, 1), (14, 1), (15, 1)] (by kernel_rfl) rfl rfl <| gDe (by kernel_rfl) <| gJ (h K hK) [0, 1, 5] [] rfl hK pq9 (pqo3 rfl rfl rfl rfl rfl rfl) rfl
 refine aj 7 hs385 (by kernel_rfl) rfl (by kernel_rfl) rfl rfl .rfl rfl rfl ?_
 exact gDr [(8, 0), (9, 2), (10, 2), (11, 2), (13, 1), (14, 1), (15, 1)] (by kernel_rfl) rfl rfl <| gDe (by kernel_rfl) <| gJ (h K hK) [0, 1, 5] [] rfl hK pq9 (pqo3 rfl rfl rfl rfl rfl rfl) rfl
 refine gDr [(6, 0)] (by kernel_rfl) rfl rfl <| gHR 5 (GDatum.vs [b, a]) rfl (GDatum.vlit [b, a]) rfl <| gFR 3 rfl (am _) rfl rfl <| gFR 5 rfl (GDatum.vpure _) rfl rfl ?_
 obtain ⟨d, f, g, hs386, h⟩ := h
 refine aj 7 hs386 (by kernel_rfl) rfl (by kernel_rfl) rfl rfl .rfl rfl rfl ?_
 exact gDr [(8, 0), (9, 2), (10, 2), (11, 2), (13, 1), (14, 1), (15, 1)] (by kernel_rfl) rfl rfl <| gDe (by kernel_rfl) <| gJ (h K hK) [0, 1, 4] [] rfl hK pq9 (pqo3 rfl rfl rfl rfl rfl rfl) rfl
 refine aj 5 hs384 (by kernel_rfl) rfl (by kernel_rfl) rfl rfl .rfl rfl rfl ?_
 refine gDr [(6, 0)] (by kernel_rfl) rfl rfl <| gHR 5 (GDatum.vs [b, a]) rfl (GDatum.vlit [b, a]) rfl <| gFR 3 rfl (am _) rfl rfl <| gFR 5 rfl (GDatum.vpure _) rfl rfl ?_
 obtain ⟨d, f, g, hs387, h⟩ := h
 refine aj 7 hs387 (by kernel_rfl) rfl (by kernel_rfl) rfl rfl .rfl rfl rfl ?_
 exact gDr [(8, 0), (9, 2), (10, 2), (11, 2), (13, 1), (14, 1), (15, 1)] (by kernel_rfl) rfl rfl <| gDe (by kernel_rfl) <| gJ (h K hK) [0, 1, 4] [] rfl hK pq9 (pqo3 rfl rfl rfl rfl rfl rfl) rfl
 apply bE (i := 1) (j := 6) (l := 12) (by kernel_rfl) rfl rfl rfl rfl rfl rfl
 exact (ac ab rfl rfl)
 exact (ac ab rfl rfl)
 exact (ac ab rfl rfl)
 refine gHR 3 (kidsV [c]) rfl (ax c) rfl ?_
 apply ah (i := 6) (j := 12) (by kernel_rfl) rfl rfl rfl rfl
 exact (ac ab rfl rfl)
 exact (ac ab rfl rfl)
 refine gHR 4 (GDatum.vs [b, a]) rfl (GDatum.vlit [b, a]) rfl <| gFR 3 rfl (am _) rfl rfl <| gFR 4 rfl (GDatum.vpure _) rfl rfl ?_
 obtain ⟨d, f, g, hs388, h⟩ := h
 apply ah (i := 7) (j := 12) (by kernel_rfl) rfl rfl rfl rfl
 exact (ak (L' := [2]) (by kernel_rfl) rfl rfl (ar hs388 .rfl [2] rfl) (.inl rfl))
 exact (ac ab rfl rfl)
 exact gDr [(8, 2), (9, 2), (10, 2), (11, 2), (12, 0), (13, 1), (14, 1), (15, 1)] (by kernel_rfl) rfl rfl <| gDe (by kernel_rfl) <| gJ (h K hK) [0, 1, 5] [] rfl hK pq9 (pqo3 rfl rfl rfl rfl rfl rfl) rfl
 refine aj 7 hs388 (by kernel_rfl) rfl (by kernel_rfl) rfl rfl .rfl rfl rfl ?_
 exact gDr [(8, 0), (9, 2), (10, 2), (11, 2), (13, 1), (14, 1), (15, 1)] (by kernel_rfl) rfl rfl <| gDe (by kernel_rfl) <| gJ (h K hK) [0, 1, 5] [] rfl hK pq9 (pqo3 rfl rfl rfl rfl rfl rfl) rfl
 refine gDr [(6, 0)] (by kernel_rfl) rfl rfl <| gHR 5 (GDatum.vs [b, a]) rfl (GDatum.vlit [b, a]) rfl <| gFR 3 rfl (am _) rfl rfl <| gFR 5 rfl (GDatum.vpure _) rfl rfl ?_
 obtain ⟨d, f, g, hs389, h⟩ := h
 refine aj 7 hs389 (by kernel_rfl) rfl (by kernel_rfl) rfl rfl .rfl rfl rfl ?_
 exact gDr [(8, 0), (9, 2), (10, 2), (11, 2), (13, 1), (14, 1), (15, 1)] (by kernel_rfl) rfl rfl <| gDe (by kernel_rfl) <| gJ (h K hK) [0, 1, 4] [] rfl hK pq9 (pqo3 rfl rfl rfl rfl rfl rfl) rfl
 refine gHR 3 (GDatum.vs [b, a]) rfl (GDatum.vlit [b, a]) rfl ?_
 apply ah (i := 1) (j := 12) (by kernel_rfl) rfl rfl rfl rfl
 exact (ac ab rfl rfl)
 exact (ac ab rfl rfl)
 refine gHR 4 (kidsV [c]) rfl (ax c) rfl <| gFR 4 rfl (am _) rfl rfl <| gFR 3 rfl (GDatum.vpure _) rfl rfl ?_
 obtain ⟨d, f, g, hs390, h⟩ := h
 apply ah (i := 7) (j := 12) (by kernel_rfl) rfl rfl rfl rfl
 exact (ak (L' := [2]) (by kernel_rfl) rfl rfl (ar hs390 .rfl [2] rfl) (.inl rfl))
 exact (ac ab rfl rfl)
 exact gDr [(8, 2), (9, 2), (10, 2), (11, 2), (12, 0), (13, 1), (14, 1), (15, 1)] (by kernel_rfl) rfl rfl <| gDe (by kernel_rfl) <| gJ (h K hK) [0, 1, 5] [] rfl hK pq9 (pqo3 rfl rfl rfl rfl rfl rfl) rfl
 refine aj 7 hs390 (by kernel_rfl) rfl (by kernel_rfl) rfl rfl .rfl rfl rfl ?_
 exact gDr [(8, 0), (9, 2), (10, 2), (11, 2), (13, 1), (14, 1), (15, 1)] (by kernel_rfl) rfl rfl <| gDe (by kernel_rfl) <| gJ (h K hK) [0, 1, 5] [] rfl hK pq9 (pqo3 rfl rfl rfl rfl rfl rfl) rfl
 refine gDr [(1, 0)] (by kernel_rfl) rfl rfl <| gHR 5 (kidsV [c]) rfl (ax c) rfl <| gFR 5 rfl (am _) rfl rfl <| gFR 3 rfl (GDatum.vpure _) rfl rfl ?_
 obtain ⟨d, f, g, hs391, h⟩ := h
 refine aj 7 hs391 (by kernel_rfl) rfl (by kernel_rfl) rfl rfl .rfl rfl rfl ?_
 exact gDr [(8, 0), (9, 2), (10, 2), (11, 2), (13, 1), (14, 1), (15, 1)] (by kernel_rfl) rfl rfl <| gDe (by kernel_rfl) <| gJ (h K hK) [0, 1, 4] [] rfl hK pq9 (pqo3 rfl rfl rfl rfl rfl rfl) rfl
 apply ah (i := 1) (j := 6) (by kernel_rfl) rfl rfl rfl rfl
 exact (ac ab rfl rfl)
 exact (ac ab rfl rfl)
 refine gHR 4 (kidsV [c]) rfl (ax c) rfl <| gDr [(6, 0)] (by kernel_rfl) rfl rfl <| gHR 5 (GDatum.vs [b, a]) rfl (GDatum.vlit [b, a]) rfl <| gFR 4 rfl (am _) rfl rfl <| gFR 5 rfl (GDatum.vpure _) rfl rfl ?_
 obtain ⟨d, f, g, hs392, h⟩ := h
 refine aj 7 hs392 (by kernel_rfl) rfl (by kernel_rfl) rfl rfl .rfl rfl rfl ?_
 exact gDr [(8, 0), (9, 2), (10, 2), (11, 2), (13, 1), (14, 1), (15, 1)] (by kernel_rfl) rfl rfl <| gDe (by kernel_rfl) <| gJ (h K hK) [0, 1, 3] [] rfl hK pq9 (pqo3 rfl rfl rfl rfl rfl rfl) rfl
 refine gHR 4 (GDatum.vs [b, a]) rfl (GDatum.vlit [b, a]) rfl <| gDr [(1, 0)] (by kernel_rfl) rfl rfl <| gHR 5 (kidsV [c]) rfl (ax c) rfl <| gFR 5 rfl (am _) rfl rfl <| gFR 4 rfl (GDatum.vpure _) rfl rfl ?_
 obtain ⟨d, f, g, hs393, h⟩ := h
 refine aj 7 hs393 (by kernel_rfl) rfl (by kernel_rfl) rfl rfl .rfl rfl rfl ?_
 exact gDr [(8, 0), (9, 2), (10, 2), (11, 2), (13, 1), (14, 1), (15, 1)] (by kernel_rfl) rfl rfl <| gDe (by kernel_rfl) <| gJ (h K hK) [0, 1, 3] [] rfl hK pq9 (pqo3 rfl rfl rfl rfl rfl rfl) rfl
 apply ah (i := 1) (j := 5) (by kernel_rfl) rfl rfl rfl rfl
 exact (ac ab rfl rfl)
 exact (ak (L' := [2]) (by kernel_rfl) rfl rfl (ar hs384 .rfl [2] rfl) (.inl rfl))
 refine gHR 4 (kidsV [c]) rfl (ax c) rfl <| aj 5 hs384 (by kernel_rfl) rfl (by kernel_rfl) rfl rfl .rfl rfl rfl <| gDr [(6, 0)] (by kernel_rfl) rfl rfl <| gHR 5 (GDatum.vs [b, a]) rfl (GDatum.vlit [b, a]) rfl <| gFR 4 rfl (am _) rfl rfl <| gFR 5 rfl (GDatum.vpure _) rfl rfl ?_
 obtain ⟨d, f, g, hs394, h⟩ := h
 refine aj 7 hs394 (by kernel_rfl) rfl (by kernel_rfl) rfl rfl .rfl rfl rfl ?_
 exact gDr [(8, 0), (9, 2), (10, 2), (11, 2), (13, 1), (14, 1), (15, 1)] (by kernel_rfl) rfl rfl <| gDe (by kernel_rfl) <| gJ (h K hK) [0, 1, 3] [] rfl hK pq9 (pqo3 rfl rfl rfl rfl rfl rfl) rfl
 apply ah (i := 1) (j := 6) (by kernel_rfl) rfl rfl rfl rfl
 exact (ac ab rfl rfl)
 exact (ac ab rfl rfl)
 refine gHR 4 (kidsV [c]) rfl (ax c) rfl <| gDr [(6, 0)] (by kernel_rfl) rfl rfl <| gHR 5 (GDatum.vs [b, a]) rfl (GDatum.vlit [b, a]) rfl <| gFR 4 rfl (am _) rfl rfl <| gFR 5 rfl (GDatum.vpure _) rfl rfl ?_
 obtain ⟨d, f, g, hs395, h⟩ := h
 refine aj 7 hs395 (by kernel_rfl) rfl (by kernel_rfl) rfl rfl .rfl rfl rfl ?_
 exact gDr [(8, 0), (9, 2), (10, 2), (11, 2), (13, 1), (14, 1), (15, 1)] (by kernel_rfl) rfl rfl <| gDe (by kernel_rfl) <| gJ (h K hK) [0, 1, 3] [] rfl hK pq9 (pqo3 rfl rfl rfl rfl rfl rfl) rfl
 refine gHR 4 (GDatum.vs [b, a]) rfl (GDatum.vlit [b, a]) rfl <| gDr [(1, 0)] (by kernel_rfl) rfl rfl <| gHR 5 (kidsV [c]) rfl (ax c) rfl <| gFR 5 rfl (am _) rfl rfl <| gFR 4 rfl (GDatum.vpure _) rfl rfl ?_
 obtain ⟨d, f, g, hs396, h⟩ := h
 refine aj 7 hs396 (by kernel_rfl) rfl (by kernel_rfl) rfl rfl .rfl rfl rfl ?_
 exact gDr [(8, 0), (9, 2), (10, 2), (11, 2), (13, 1), (14, 1), (15, 1)] (by kernel_rfl) rfl rfl <| gDe (by kernel_rfl) <| gJ (h K hK) [0, 1, 3] [] rfl hK pq9 (pqo3 rfl rfl rfl rfl rfl rfl) rfl
 apply ah (i := 1) (j := 3) (by kernel_rfl) rfl rfl rfl rfl
 exact (ac ab rfl rfl)
 exact (ak (L' := [2]) (by kernel_rfl) rfl rfl (ar hs377 .rfl [2] rfl) (.inl rfl))
 refine gHR 4 (kidsV [c]) rfl (ax c) rfl <| aj 3 hs377 (by kernel_rfl) rfl (by kernel_rfl) rfl rfl .rfl rfl rfl ?_
 obtain ⟨a, hs397, h⟩ := h
 refine aj 5 hs397 (by kernel_rfl) rfl (by kernel_rfl) rfl rfl .rfl rfl rfl ?_
 refine gDr [(6, 0)] (by kernel_rfl) rfl rfl <| gHR 5 (GDatum.vs [b, a]) rfl (GDatum.vlit [b, a]) rfl <| gFR 4 rfl (am _) rfl rfl <| gFR 5 rfl (GDatum.vpure _) rfl rfl ?_
 obtain ⟨d, f, g, hs398, h⟩ := h
 refine aj 7 hs398 (by kernel_rfl) rfl (by kernel_rfl) rfl rfl .rfl rfl rfl ?_
 exact gDr [(8, 0), (9, 2), (10, 2), (11, 2), (13, 1), (14, 1), (15, 1)] (by kernel_rfl) rfl rfl <| gDe (by kernel_rfl) <| gJ (h K hK) [0, 1, 3] [] rfl hK pq9 (pqo3 rfl rfl rfl rfl rfl rfl) rfl
 obtain ⟨a, hs399, h⟩ := h
 apply ah (i := 1) (j := 5) (by kernel_rfl) rfl rfl rfl rfl
 exact (ac ab rfl rfl)
 exact (ak (L' := [2]) (by kernel_rfl) rfl rfl (ar hs399 .rfl [2] rfl) (.inl rfl))
 refine gHR 4 (kidsV [c]) rfl (ax c) rfl <| aj 5 hs399 (by kernel_rfl) rfl (by kernel_rfl) rfl rfl .rfl rfl rfl <| gDr [(6, 0)] (by kernel_rfl) rfl rfl <| gHR 5 (GDatum.vs [b, a]) rfl (GDatum.vlit [b, a]) rfl <| gFR 4 rfl (am _) rfl rfl <| gFR 5 rfl (GDatum.vpure _) rfl rfl ?_
 obtain ⟨d, f, g, hs400, h⟩ := h
 refine aj 7 hs400 (by kernel_rfl) rfl (by kernel_rfl) rfl rfl .rfl rfl rfl ?_
 exact gDr [(8, 0), (9, 2), (10, 2), (11, 2), (13, 1), (14, 1), (15, 1)] (by kernel_rfl) rfl rfl <| gDe (by kernel_rfl) <| gJ (h K hK) [0, 1, 3] [] rfl hK pq9 (pqo3 rfl rfl rfl rfl rfl rfl) rfl
 apply ah (i := 1) (j := 6) (by kernel_rfl) rfl rfl rfl rfl
 exact (ac ab rfl rfl)
 exact (ac ab rfl rfl)
 refine gHR 4 (kidsV [c]) rfl (ax c) rfl <| gDr [(6, 0)] (by kernel_rfl) rfl rfl <| gHR 5 (GDatum.vs [b, a]) rfl (GDatum.vlit [b, a]) rfl <| gFR 4 rfl (am _) rfl rfl <| gFR 5 rfl (GDatum.vpure _) rfl rfl ?_
 obtain ⟨d, f, g, hs401, h⟩ := h
 refine aj 7 hs401 (by kernel_rfl) rfl (by kernel_rfl) rfl rfl .rfl rfl rfl ?_
 exact gDr [(8, 0), (9, 2), (10, 2), (11, 2), (13, 1), (14, 1), (15, 1)] (by kernel_rfl) rfl rfl <| gDe (by kernel_rfl) <| gJ (h K hK) [0, 1, 3] [] rfl hK pq9 (pqo3 rfl rfl rfl rfl rfl rfl) rfl
 refine gHR 4 (GDatum.vs [b, a]) rfl (GDatum.vlit [b, a]) rfl <| gDr [(1, 0)] (by kernel_rfl) rfl rfl <| gHR 5 (kidsV [c]) rfl (ax c) rfl <| gFR 5 rfl (am _) rfl rfl <| gFR 4 rfl (GDatum.vpure _) rfl rfl ?_
 obtain ⟨d, f, g, hs402, h⟩ := h
 refine aj 7 hs402 (by kernel_rfl) rfl (by kernel_rfl) rfl rfl .rfl rfl rfl ?_
 exact gDr [(8, 0), (9, 2), (10, 2), (11, 2), (13, 1), (14, 1), (15, 1)] (by kernel_rfl) rfl rfl <| gDe (by kernel_rfl) <| gJ (h K hK) [0, 1, 3] [] rfl hK pq9 (pqo3 rfl rfl rfl rfl rfl rfl) rfl
theorem gH (m : Nat) (p0 p1 : Int) (g i j : GDatum) (k b : Nat) (c : Int) (l : GDatum) (d f : Int) (r0 : Bool) (h : ((c ≠ 0) → false = r0) ∧ ((c = 0) → ((f ≠ 0) → false = r0) ∧ ((f = 0) → ((d ≠ 3) → false = r0) ∧ ((d = 3) → ∃ a, aP l (GDatum.mk 3 (b : Int) [] []) a ∧ ((a = false) → false = r0) ∧ ((a = true) → dK m p0 p1 g i j k b r0))))) : dy (m + 1) p0 p1 g i j k b c l d f r0 := by
 intro K hK
 refine gR 2 rfl <| gDs [2, 1] 15 18 rfl (by kernel_rfl) (by kernel_rfl) <| gDr [(0, 0), (1, 0), (2, 0)] (by kernel_rfl) rfl rfl <| gB 68 rfl rfl rfl ?_ ?_ <;> intro hd
 refine gT 67 rfl hd rfl ?_
 replace hd := (bi hd)
 replace h := h.1 hd
 refine gDr [(3, 0), (4, 0), (5, 0), (6, 0), (7, 0), (8, 0), (9, 0), (10, 0), (11, 2), (12, 0), (13, 0), (14, 0), (15, 0), (16, 0), (17, 1)] (by kernel_rfl) rfl rfl <| gDe (by kernel_rfl) <| gR 10 rfl <| go_xloopR <| gR 2 rfl ?_
 subst h
 exact go_end ab (rs := [.tmp 4]) rfl rfl rfl
 refine gF 67 rfl hd rfl ?_
 replace hd := (aQ hd)
 replace h := h.2 hd
 refine gDr [(3, 0), (4, 0), (5, 0), (6, 0)] (by kernel_rfl) rfl rfl <| gB 72 rfl rfl rfl ?_ ?_ <;> intro hd
 refine gT 71 rfl hd rfl ?_
 replace hd := (bi hd)
 replace h := h.1 hd
 refine gDr [(7, 0), (8, 0), (9, 0), (10, 0), (11, 2), (12, 0), (13, 0), (14, 0), (15, 0), (16, 0), (17, 1)] (by kernel_rfl) rfl rfl <| gDe (by kernel_rfl) <| gR 10 rfl <| go_xloopR <| gR 2 rfl ?_
 subst h
 exact go_end ab (rs := [.tmp 4]) rfl rfl rfl
 refine gF 71 rfl hd rfl ?_
 replace hd := (aQ hd)
 replace h := h.2 hd
 refine gDr [(7, 0), (8, 0), (9, 0), (10, 0)] (by kernel_rfl) rfl rfl <| gB 76 rfl rfl rfl ?_ ?_ <;> intro hd
 refine gT 75 rfl hd rfl ?_
 replace hd := (bi hd)
 replace h := h.1 hd
 refine gDr [(11, 2), (12, 0), (13, 0), (14, 0), (15, 0), (16, 0), (17, 1)] (by kernel_rfl) rfl rfl <| gDe (by kernel_rfl) <| gR 10 rfl <| go_xloopR <| gR 2 rfl ?_
 subst h
 exact go_end ab (rs := [.tmp 4]) rfl rfl rfl
 refine gF 75 rfl hd rfl ?_
 replace hd := (aQ hd)
 replace h := h.2 hd
 refine gDr [(11, 3), (12, 0)] (by kernel_rfl) rfl rfl <| jF 13 rfl (by kernel_rfl) (yIP (len := 5) (e := 24) (sz := 4) ab rfl rfl rfl rfl rfl rfl rfl rfl) rfl rfl <| gDr [(14, 0)] (by kernel_rfl) rfl rfl ?_
 obtain ⟨a, hs403, h⟩ := h
 refine aj 15 hs403 (by kernel_rfl) rfl (by kernel_rfl) rfl rfl (.cons .rfl (.cons (.agg (.cons .rfl (.cons .rfl (.cons .rfl (.cons (.nil 4) .nil))))) .nil)) rfl rfl ?_
 refine gDr [(16, 1), (17, 1)] (by kernel_rfl) rfl rfl <| gDe (by kernel_rfl) <| gR 1 rfl <| gB 83 rfl rfl rfl ?_ ?_ <;> intro hd
 replace hd := (dg hd)
 replace h := h.1 hd
 refine gR 9 rfl <| go_xloopR <| gR 2 rfl ?_
 subst h
 exact go_end ab (rs := [.tmp 4]) rfl rfl rfl
 replace hd := (de hd)
 replace h := h.2 hd
 exact gR 7 rfl <| gV 43 (.int .i64 4) rfl (aL (by omega) (by omega)) rfl <| gR 2 rfl <| go_xloop <| gJ (h K hK) [0, 1] [] rfl hK pq5 (pqo2 rfl rfl rfl rfl) rfl
theorem gG (m : Nat) (p0 p1 : Int) (n o p : GDatum) (q r : Nat) (r0 : Bool) (h : [109, 111, 100, 117, 108, 101, 32, 77, 32, 100, 101, 102, 32, 102, 40, 97, 58, 32, 73, 110, 116, 44, 32, 98, 58, 32, 73, 110, 116, 41, 58, 32, 73, 110, 116, 32, 61, 32, 97, 32].length + [61, 61].length ≤ 9223372036854775807 ∧ ([109, 111, 100, 117, 108, 101, 32, 77, 32, 100, 101, 102, 32, 102, 40, 97, 58, 32, 73, 110, 116, 44, 32, 98, 58, 32, 73, 110, 116, 41, 58, 32, 73, 110, 116, 32, 61, 32, 97, 32] ++ [61, 61]).length + [32, 98].length ≤ 9223372036854775807 ∧ ∃ c s k, bQ (([109, 111, 100, 117, 108, 101, 32, 77, 32, 100, 101, 102, 32, 102, 40, 97, 58, 32, 73, 110, 116, 44, 32, 98, 58, 32, 73, 110, 116, 41, 58, 32, 73, 110, 116, 32, 61, 32, 97, 32] ++ [61, 61]) ++ [32, 98]) c s k ∧ ∃ b, au p0 b ∧ ∃ a, au p1 a ∧ ∃ d f g, bT [c] 0 0 [b, a] 3 d f g ∧ dG m p0 p1 n o p q r k d f g r0) : dK (m + 1) p0 p1 n o p q r r0 := by
 intro K hK
 refine gR 15 rfl <| gY (yIP (len := 5) (e := 9) (sz := 1) ab rfl rfl rfl rfl rfl rfl rfl rfl) rfl rfl <| gR 1 rfl ?_
 obtain ⟨hb, h⟩ := h
 refine gY (ia rfl rfl hb) rfl rfl ?_
 obtain ⟨hb, h⟩ := h
 refine gY (ia rfl rfl hb) rfl rfl ?_
 obtain ⟨c, s, k, hs404, h⟩ := h
 refine gC0 hs404 (by kernel_rfl) rfl rfl .rfl rfl <| gR 11 rfl <| gDs [2] 13 16 rfl (by kernel_rfl) (by kernel_rfl) <| gDr [(0, 3), (2, 2), (4, 2)] (by kernel_rfl) rfl rfl ?_
 obtain ⟨b, hs405, h⟩ := h
 apply bE (i := 1) (j := 3) (l := 12) (by kernel_rfl) rfl rfl rfl rfl rfl rfl
 exact (ac ab rfl rfl)
 exact (ak (L' := [2]) (by kernel_rfl) rfl rfl (ar hs405 .rfl [2] rfl) (.inl rfl))
 exact (ac ab rfl rfl)
 refine gHR 3 (kidsV [c]) rfl (ax c) rfl ?_
 apply ah (i := 3) (j := 12) (by kernel_rfl) rfl rfl rfl rfl
 exact (ak (L' := [2]) (by kernel_rfl) rfl rfl (ar hs405 .rfl [2] rfl) (.inl rfl))
 exact (ac ab rfl rfl)
 obtain ⟨a, hs406, h⟩ := h
 apply ah (i := 5) (j := 12) (by kernel_rfl) rfl rfl rfl rfl
 exact (ak (L' := [2]) (by kernel_rfl) rfl rfl (ar hs406 .rfl [2] rfl) (.inl rfl))
 exact (ac ab rfl rfl)
 apply ah (i := 6) (j := 12) (by kernel_rfl) rfl rfl rfl rfl
 exact (ac ab rfl rfl)
 exact (ac ab rfl rfl)
 refine gHR 4 (GDatum.vs [b, a]) rfl (GDatum.vlit [b, a]) rfl <| gFR 3 rfl (am _) rfl rfl <| gFR 4 rfl (GDatum.vpure _) rfl rfl ?_
 obtain ⟨d, f, g, hs407, h⟩ := h
 apply ah (i := 7) (j := 12) (by kernel_rfl) rfl rfl rfl rfl
 exact (ak (L' := [2]) (by kernel_rfl) rfl rfl (ar hs407 .rfl [2] rfl) (.inl rfl))
 exact (ac ab rfl rfl)
 exact gDr [(8, 2), (9, 2), (10, 2), (11, 2), (12, 0), (13, 1), (14, 1), (15, 1)] (by kernel_rfl) rfl rfl <| gDe (by kernel_rfl) <| gJ (h K hK) [0, 1, 5] [] rfl hK pq9 (pqo3 rfl rfl rfl rfl rfl rfl) rfl
 refine aj 7 hs407 (by kernel_rfl) rfl (by kernel_rfl) rfl rfl .rfl rfl rfl ?_
 exact gDr [(8, 0), (9, 2), (10, 2), (11, 2), (13, 1), (14, 1), (15, 1)] (by kernel_rfl) rfl rfl <| gDe (by kernel_rfl) <| gJ (h K hK) [0, 1, 5] [] rfl hK pq9 (pqo3 rfl rfl rfl rfl rfl rfl) rfl
 refine gDr [(6, 0)] (by kernel_rfl) rfl rfl <| gHR 5 (GDatum.vs [b, a]) rfl (GDatum.vlit [b, a]) rfl <| gFR 3 rfl (am _) rfl rfl <| gFR 5 rfl (GDatum.vpure _) rfl rfl ?_
 obtain ⟨d, f, g, hs408, h⟩ := h
 refine aj 7 hs408 (by kernel_rfl) rfl (by kernel_rfl) rfl rfl .rfl rfl rfl ?_
 exact gDr [(8, 0), (9, 2), (10, 2), (11, 2), (13, 1), (14, 1), (15, 1)] (by kernel_rfl) rfl rfl <| gDe (by kernel_rfl) <| gJ (h K hK) [0, 1, 4] [] rfl hK pq9 (pqo3 rfl rfl rfl rfl rfl rfl) rfl
 refine aj 5 hs406 (by kernel_rfl) rfl (by kernel_rfl) rfl rfl .rfl rfl rfl ?_
 refine gDr [(6, 0)] (by kernel_rfl) rfl rfl <| gHR 5 (GDatum.vs [b, a]) rfl (GDatum.vlit [b, a]) rfl <| gFR 3 rfl (am _) rfl rfl <| gFR 5 rfl (GDatum.vpure _) rfl rfl ?_
 obtain ⟨d, f, g, hs409, h⟩ := h
 refine aj 7 hs409 (by kernel_rfl) rfl (by kernel_rfl) rfl rfl .rfl rfl rfl ?_
 exact gDr [(8, 0), (9, 2), (10, 2), (11, 2), (13, 1), (14, 1), (15, 1)] (by kernel_rfl) rfl rfl <| gDe (by kernel_rfl) <| gJ (h K hK) [0, 1, 4] [] rfl hK pq9 (pqo3 rfl rfl rfl rfl rfl rfl) rfl
 refine aj 3 hs405 (by kernel_rfl) rfl (by kernel_rfl) rfl rfl .rfl rfl rfl ?_
 obtain ⟨a, hs410, h⟩ := h
 refine aj 5 hs410 (by kernel_rfl) rfl (by kernel_rfl) rfl rfl .rfl rfl rfl ?_
 refine gDr [(6, 0)] (by kernel_rfl) rfl rfl <| gHR 5 (GDatum.vs [b, a]) rfl (GDatum.vlit [b, a]) rfl <| gFR 3 rfl (am _) rfl rfl <| gFR 5 rfl (GDatum.vpure _) rfl rfl ?_
 obtain ⟨d, f, g, hs411, h⟩ := h
 refine aj 7 hs411 (by kernel_rfl) rfl (by kernel_rfl) rfl rfl .rfl rfl rfl ?_
 exact gDr [(8, 0), (9, 2), (10, 2), (11, 2), (13, 1), (14, 1), (15, 1)] (by kernel_rfl) rfl rfl <| gDe (by kernel_rfl) <| gJ (h K hK) [0, 1, 4] [] rfl hK pq9 (pqo3 rfl rfl rfl rfl rfl rfl) rfl
 obtain ⟨a, hs412, h⟩ := h
 apply bE (i := 1) (j := 5) (l := 12) (by kernel_rfl) rfl rfl rfl rfl rfl rfl
 exact (ac ab rfl rfl)
 exact (ak (L' := [2]) (by kernel_rfl) rfl rfl (ar hs412 .rfl [2] rfl) (.inl rfl))
 exact (ac ab rfl rfl)
 refine gHR 3 (kidsV [c]) rfl (ax c) rfl ?_
 apply ah (i := 5) (j := 12) (by kernel_rfl) rfl rfl rfl rfl
 exact (ak (L' := [2]) (by kernel_rfl) rfl rfl (ar hs412 .rfl [2] rfl) (.inl rfl))
 exact (ac ab rfl rfl)
 apply ah (i := 6) (j := 12) (by kernel_rfl) rfl rfl rfl rfl
 exact (ac ab rfl rfl)
 exact (ac ab rfl rfl)
 refine gHR 4 (GDatum.vs [b, a]) rfl (GDatum.vlit [b, a]) rfl <| gFR 3 rfl (am _) rfl rfl <| gFR 4 rfl (GDatum.vpure _) rfl rfl ?_
 obtain ⟨d, f, g, hs413, h⟩ := h
 apply ah (i := 7) (j := 12) (by kernel_rfl) rfl rfl rfl rfl
 exact (ak (L' := [2]) (by kernel_rfl) rfl rfl (ar hs413 .rfl [2] rfl) (.inl rfl))
 exact (ac ab rfl rfl)
 exact gDr [(8, 2), (9, 2), (10, 2), (11, 2), (12, 0), (13, 1), (14, 1), (15, 1)] (by kernel_rfl) rfl rfl <| gDe (by kernel_rfl) <| gJ (h K hK) [0, 1, 5] [] rfl hK pq9 (pqo3 rfl rfl rfl rfl rfl rfl) rfl
 refine aj 7 hs413 (by kernel_rfl) rfl (by kernel_rfl) rfl rfl .rfl rfl rfl ?_
 exact gDr [(8, 0), (9, 2), (10, 2), (11, 2), (13, 1), (14, 1), (15, 1)] (by kernel_rfl) rfl rfl <| gDe (by kernel_rfl) <| gJ (h K hK) [0, 1, 5] [] rfl hK pq9 (pqo3 rfl rfl rfl rfl rfl rfl) rfl
 refine gDr [(6, 0)] (by kernel_rfl) rfl rfl <| gHR 5 (GDatum.vs [b, a]) rfl (GDatum.vlit [b, a]) rfl <| gFR 3 rfl (am _) rfl rfl <| gFR 5 rfl (GDatum.vpure _) rfl rfl ?_
 obtain ⟨d, f, g, hs414, h⟩ := h
 refine aj 7 hs414 (by kernel_rfl) rfl (by kernel_rfl) rfl rfl .rfl rfl rfl ?_
 exact gDr [(8, 0), (9, 2), (10, 2), (11, 2), (13, 1), (14, 1), (15, 1)] (by kernel_rfl) rfl rfl <| gDe (by kernel_rfl) <| gJ (h K hK) [0, 1, 4] [] rfl hK pq9 (pqo3 rfl rfl rfl rfl rfl rfl) rfl
 refine aj 5 hs412 (by kernel_rfl) rfl (by kernel_rfl) rfl rfl .rfl rfl rfl ?_
 refine gDr [(6, 0)] (by kernel_rfl) rfl rfl <| gHR 5 (GDatum.vs [b, a]) rfl (GDatum.vlit [b, a]) rfl <| gFR 3 rfl (am _) rfl rfl <| gFR 5 rfl (GDatum.vpure _) rfl rfl ?_
 obtain ⟨d, f, g, hs415, h⟩ := h
 refine aj 7 hs415 (by kernel_rfl) rfl (by kernel_rfl) rfl rfl .rfl rfl rfl ?_
 exact gDr [(8, 0), (9, 2), (10, 2), (11, 2), (13, 1), (14, 1), (15, 1)] (by kernel_rfl) rfl rfl <| gDe (by kernel_rfl) <| gJ (h K hK) [0, 1, 4] [] rfl hK pq9 (pqo3 rfl rfl rfl rfl rfl rfl) rfl
 apply bE (i := 1) (j := 6) (l := 12) (by kernel_rfl) rfl rfl rfl rfl rfl rfl
 exact (ac ab rfl rfl)
 exact (ac ab rfl rfl)
 exact (ac ab rfl rfl)
 refine gHR 3 (kidsV [c]) rfl (ax c) rfl ?_
 apply ah (i := 6) (j := 12) (by kernel_rfl) rfl rfl rfl rfl
 exact (ac ab rfl rfl)
 exact (ac ab rfl rfl)
 refine gHR 4 (GDatum.vs [b, a]) rfl (GDatum.vlit [b, a]) rfl <| gFR 3 rfl (am _) rfl rfl <| gFR 4 rfl (GDatum.vpure _) rfl rfl ?_
 obtain ⟨d, f, g, hs416, h⟩ := h
 apply ah (i := 7) (j := 12) (by kernel_rfl) rfl rfl rfl rfl
 exact (ak (L' := [2]) (by kernel_rfl) rfl rfl (ar hs416 .rfl [2] rfl) (.inl rfl))
 exact (ac ab rfl rfl)
 exact gDr [(8, 2), (9, 2), (10, 2), (11, 2), (12, 0), (13, 1), (14, 1), (15, 1)] (by kernel_rfl) rfl rfl <| gDe (by kernel_rfl) <| gJ (h K hK) [0, 1, 5] [] rfl hK pq9 (pqo3 rfl rfl rfl rfl rfl rfl) rfl
 refine aj 7 hs416 (by kernel_rfl) rfl (by kernel_rfl) rfl rfl .rfl rfl rfl ?_
 exact gDr [(8, 0), (9, 2), (10, 2), (11, 2), (13, 1), (14, 1), (15, 1)] (by kernel_rfl) rfl rfl <| gDe (by kernel_rfl) <| gJ (h K hK) [0, 1, 5] [] rfl hK pq9 (pqo3 rfl rfl rfl rfl rfl rfl) rfl
 refine gDr [(6, 0)] (by kernel_rfl) rfl rfl <| gHR 5 (GDatum.vs [b, a]) rfl (GDatum.vlit [b, a]) rfl <| gFR 3 rfl (am _) rfl rfl <| gFR 5 rfl (GDatum.vpure _) rfl rfl ?_
 obtain ⟨d, f, g, hs417, h⟩ := h
 refine aj 7 hs417 (by kernel_rfl) rfl (by kernel_rfl) rfl rfl .rfl rfl rfl ?_
 exact gDr [(8, 0), (9, 2), (10, 2), (11, 2), (13, 1), (14, 1), (15, 1)] (by kernel_rfl) rfl rfl <| gDe (by kernel_rfl) <| gJ (h K hK) [0, 1, 4] [] rfl hK pq9 (pqo3 rfl rfl rfl rfl rfl rfl) rfl
 refine gHR 3 (GDatum.vs [b, a]) rfl (GDatum.vlit [b, a]) rfl ?_
 apply ah (i := 1) (j := 12) (by kernel_rfl) rfl rfl rfl rfl
 exact (ac ab rfl rfl)
 exact (ac ab rfl rfl)
 refine gHR 4 (kidsV [c]) rfl (ax c) rfl <| gFR 4 rfl (am _) rfl rfl <| gFR 3 rfl (GDatum.vpure _) rfl rfl ?_
 obtain ⟨d, f, g, hs418, h⟩ := h
 apply ah (i := 7) (j := 12) (by kernel_rfl) rfl rfl rfl rfl
 exact (ak (L' := [2]) (by kernel_rfl) rfl rfl (ar hs418 .rfl [2] rfl) (.inl rfl))
 exact (ac ab rfl rfl)
 exact gDr [(8, 2), (9, 2), (10, 2), (11, 2), (12, 0), (13, 1), (14, 1), (15, 1)] (by kernel_rfl) rfl rfl <| gDe (by kernel_rfl) <| gJ (h K hK) [0, 1, 5] [] rfl hK pq9 (pqo3 rfl rfl rfl rfl rfl rfl) rfl
 refine aj 7 hs418 (by kernel_rfl) rfl (by kernel_rfl) rfl rfl .rfl rfl rfl ?_
 exact gDr [(8, 0), (9, 2), (10, 2), (11, 2), (13, 1), (14, 1), (15, 1)] (by kernel_rfl) rfl rfl <| gDe (by kernel_rfl) <| gJ (h K hK) [0, 1, 5] [] rfl hK pq9 (pqo3 rfl rfl rfl rfl rfl rfl) rfl
 refine gDr [(1, 0)] (by kernel_rfl) rfl rfl <| gHR 5 (kidsV [c]) rfl (ax c) rfl <| gFR 5 rfl (am _) rfl rfl <| gFR 3 rfl (GDatum.vpure _) rfl rfl ?_
 obtain ⟨d, f, g, hs419, h⟩ := h
 refine aj 7 hs419 (by kernel_rfl) rfl (by kernel_rfl) rfl rfl .rfl rfl rfl ?_
 exact gDr [(8, 0), (9, 2), (10, 2), (11, 2), (13, 1), (14, 1), (15, 1)] (by kernel_rfl) rfl rfl <| gDe (by kernel_rfl) <| gJ (h K hK) [0, 1, 4] [] rfl hK pq9 (pqo3 rfl rfl rfl rfl rfl rfl) rfl
 apply ah (i := 1) (j := 6) (by kernel_rfl) rfl rfl rfl rfl
 exact (ac ab rfl rfl)
 exact (ac ab rfl rfl)
 refine gHR 4 (kidsV [c]) rfl (ax c) rfl <| gDr [(6, 0)] (by kernel_rfl) rfl rfl <| gHR 5 (GDatum.vs [b, a]) rfl (GDatum.vlit [b, a]) rfl <| gFR 4 rfl (am _) rfl rfl <| gFR 5 rfl (GDatum.vpure _) rfl rfl ?_
 obtain ⟨d, f, g, hs420, h⟩ := h
 refine aj 7 hs420 (by kernel_rfl) rfl (by kernel_rfl) rfl rfl .rfl rfl rfl ?_
 exact gDr [(8, 0), (9, 2), (10, 2), (11, 2), (13, 1), (14, 1), (15, 1)] (by kernel_rfl) rfl rfl <| gDe (by kernel_rfl) <| gJ (h K hK) [0, 1, 3] [] rfl hK pq9 (pqo3 rfl rfl rfl rfl rfl rfl) rfl
 refine gHR 4 (GDatum.vs [b, a]) rfl (GDatum.vlit [b, a]) rfl <| gDr [(1, 0)] (by kernel_rfl) rfl rfl <| gHR 5 (kidsV [c]) rfl (ax c) rfl <| gFR 5 rfl (am _) rfl rfl <| gFR 4 rfl (GDatum.vpure _) rfl rfl ?_
 obtain ⟨d, f, g, hs421, h⟩ := h
 refine aj 7 hs421 (by kernel_rfl) rfl (by kernel_rfl) rfl rfl .rfl rfl rfl ?_
 exact gDr [(8, 0), (9, 2), (10, 2), (11, 2), (13, 1), (14, 1), (15, 1)] (by kernel_rfl) rfl rfl <| gDe (by kernel_rfl) <| gJ (h K hK) [0, 1, 3] [] rfl hK pq9 (pqo3 rfl rfl rfl rfl rfl rfl) rfl
 apply ah (i := 1) (j := 5) (by kernel_rfl) rfl rfl rfl rfl
 exact (ac ab rfl rfl)
 exact (ak (L' := [2]) (by kernel_rfl) rfl rfl (ar hs412 .rfl [2] rfl) (.inl rfl))
 refine gHR 4 (kidsV [c]) rfl (ax c) rfl <| aj 5 hs412 (by kernel_rfl) rfl (by kernel_rfl) rfl rfl .rfl rfl rfl <| gDr [(6, 0)] (by kernel_rfl) rfl rfl <| gHR 5 (GDatum.vs [b, a]) rfl (GDatum.vlit [b, a]) rfl <| gFR 4 rfl (am _) rfl rfl <| gFR 5 rfl (GDatum.vpure _) rfl rfl ?_
 obtain ⟨d, f, g, hs422, h⟩ := h
 refine aj 7 hs422 (by kernel_rfl) rfl (by kernel_rfl) rfl rfl .rfl rfl rfl ?_
 exact gDr [(8, 0), (9, 2), (10, 2), (11, 2), (13, 1), (14, 1), (15, 1)] (by kernel_rfl) rfl rfl <| gDe (by kernel_rfl) <| gJ (h K hK) [0, 1, 3] [] rfl hK pq9 (pqo3 rfl rfl rfl rfl rfl rfl) rfl
 apply ah (i := 1) (j := 6) (by kernel_rfl) rfl rfl rfl rfl
 exact (ac ab rfl rfl)
 exact (ac ab rfl rfl)
 refine gHR 4 (kidsV [c]) rfl (ax c) rfl <| gDr [(6, 0)] (by kernel_rfl) rfl rfl <| gHR 5 (GDatum.vs [b, a]) rfl (GDatum.vlit [b, a]) rfl <| gFR 4 rfl (am _) rfl rfl <| gFR 5 rfl (GDatum.vpure _) rfl rfl ?_
 obtain ⟨d, f, g, hs423, h⟩ := h
 refine aj 7 hs423 (by kernel_rfl) rfl (by kernel_rfl) rfl rfl .rfl rfl rfl ?_
 exact gDr [(8, 0), (9, 2), (10, 2), (11, 2), (13, 1), (14, 1), (15, 1)] (by kernel_rfl) rfl rfl <| gDe (by kernel_rfl) <| gJ (h K hK) [0, 1, 3] [] rfl hK pq9 (pqo3 rfl rfl rfl rfl rfl rfl) rfl
 refine gHR 4 (GDatum.vs [b, a]) rfl (GDatum.vlit [b, a]) rfl <| gDr [(1, 0)] (by kernel_rfl) rfl rfl <| gHR 5 (kidsV [c]) rfl (ax c) rfl <| gFR 5 rfl (am _) rfl rfl <| gFR 4 rfl (GDatum.vpure _) rfl rfl ?_
 obtain ⟨d, f, g, hs424, h⟩ := h
 refine aj 7 hs424 (by kernel_rfl) rfl (by kernel_rfl) rfl rfl .rfl rfl rfl ?_
 exact gDr [(8, 0), (9, 2), (10, 2), (11, 2), (13, 1), (14, 1), (15, 1)] (by kernel_rfl) rfl rfl <| gDe (by kernel_rfl) <| gJ (h K hK) [0, 1, 3] [] rfl hK pq9 (pqo3 rfl rfl rfl rfl rfl rfl) rfl
 apply ah (i := 1) (j := 3) (by kernel_rfl) rfl rfl rfl rfl
 exact (ac ab rfl rfl)
 exact (ak (L' := [2]) (by kernel_rfl) rfl rfl (ar hs405 .rfl [2] rfl) (.inl rfl))
 refine gHR 4 (kidsV [c]) rfl (ax c) rfl <| aj 3 hs405 (by kernel_rfl) rfl (by kernel_rfl) rfl rfl .rfl rfl rfl ?_
 obtain ⟨a, hs425, h⟩ := h
 refine aj 5 hs425 (by kernel_rfl) rfl (by kernel_rfl) rfl rfl .rfl rfl rfl ?_
 refine gDr [(6, 0)] (by kernel_rfl) rfl rfl <| gHR 5 (GDatum.vs [b, a]) rfl (GDatum.vlit [b, a]) rfl <| gFR 4 rfl (am _) rfl rfl <| gFR 5 rfl (GDatum.vpure _) rfl rfl ?_
 obtain ⟨d, f, g, hs426, h⟩ := h
 refine aj 7 hs426 (by kernel_rfl) rfl (by kernel_rfl) rfl rfl .rfl rfl rfl ?_
 exact gDr [(8, 0), (9, 2), (10, 2), (11, 2), (13, 1), (14, 1), (15, 1)] (by kernel_rfl) rfl rfl <| gDe (by kernel_rfl) <| gJ (h K hK) [0, 1, 3] [] rfl hK pq9 (pqo3 rfl rfl rfl rfl rfl rfl) rfl
 obtain ⟨a, hs427, h⟩ := h
 apply ah (i := 1) (j := 5) (by kernel_rfl) rfl rfl rfl rfl
 exact (ac ab rfl rfl)
 exact (ak (L' := [2]) (by kernel_rfl) rfl rfl (ar hs427 .rfl [2] rfl) (.inl rfl))
 refine gHR 4 (kidsV [c]) rfl (ax c) rfl <| aj 5 hs427 (by kernel_rfl) rfl (by kernel_rfl) rfl rfl .rfl rfl rfl <| gDr [(6, 0)] (by kernel_rfl) rfl rfl <| gHR 5 (GDatum.vs [b, a]) rfl (GDatum.vlit [b, a]) rfl <| gFR 4 rfl (am _) rfl rfl <| gFR 5 rfl (GDatum.vpure _) rfl rfl ?_
 obtain ⟨d, f, g, hs428, h⟩ := h
 refine aj 7 hs428 (by kernel_rfl) rfl (by kernel_rfl) rfl rfl .rfl rfl rfl ?_
 exact gDr [(8, 0), (9, 2), (10, 2), (11, 2), (13, 1), (14, 1), (15, 1)] (by kernel_rfl) rfl rfl <| gDe (by kernel_rfl) <| gJ (h K hK) [0, 1, 3] [] rfl hK pq9 (pqo3 rfl rfl rfl rfl rfl rfl) rfl
 apply ah (i := 1) (j := 6) (by kernel_rfl) rfl rfl rfl rfl
 exact (ac ab rfl rfl)
 exact (ac ab rfl rfl)
 refine gHR 4 (kidsV [c]) rfl (ax c) rfl <| gDr [(6, 0)] (by kernel_rfl) rfl rfl <| gHR 5 (GDatum.vs [b, a]) rfl (GDatum.vlit [b, a]) rfl <| gFR 4 rfl (am _) rfl rfl <| gFR 5 rfl (GDatum.vpure _) rfl rfl ?_
 obtain ⟨d, f, g, hs429, h⟩ := h
 refine aj 7 hs429 (by kernel_rfl) rfl (by kernel_rfl) rfl rfl .rfl rfl rfl ?_
 exact gDr [(8, 0), (9, 2), (10, 2), (11, 2), (13, 1), (14, 1), (15, 1)] (by kernel_rfl) rfl rfl <| gDe (by kernel_rfl) <| gJ (h K hK) [0, 1, 3] [] rfl hK pq9 (pqo3 rfl rfl rfl rfl rfl rfl) rfl
 refine gHR 4 (GDatum.vs [b, a]) rfl (GDatum.vlit [b, a]) rfl <| gDr [(1, 0)] (by kernel_rfl) rfl rfl <| gHR 5 (kidsV [c]) rfl (ax c) rfl <| gFR 5 rfl (am _) rfl rfl <| gFR 4 rfl (GDatum.vpure _) rfl rfl ?_
 obtain ⟨d, f, g, hs430, h⟩ := h
 refine aj 7 hs430 (by kernel_rfl) rfl (by kernel_rfl) rfl rfl .rfl rfl rfl ?_
 exact gDr [(8, 0), (9, 2), (10, 2), (11, 2), (13, 1), (14, 1), (15, 1)] (by kernel_rfl) rfl rfl <| gDe (by kernel_rfl) <| gJ (h K hK) [0, 1, 3] [] rfl hK pq9 (pqo3 rfl rfl rfl rfl rfl rfl) rfl
theorem gy (m : Nat) (p0 p1 : Int) (g i j : GDatum) (b k : Nat) (c : Int) (l : GDatum) (d f : Int) (r0 : Bool) (h : ((c ≠ 0) → false = r0) ∧ ((c = 0) → ((f ≠ 0) → false = r0) ∧ ((f = 0) → ((d ≠ 3) → false = r0) ∧ ((d = 3) → ∃ a, aP l (GDatum.mk 3 (b : Int) [] []) a ∧ ((a = false) → false = r0) ∧ ((a = true) → dq m p0 p1 g i j b k r0))))) : dG (m + 1) p0 p1 g i j b k c l d f r0 := by
 intro K hK
 refine gR 2 rfl <| gDs [2, 1] 15 18 rfl (by kernel_rfl) (by kernel_rfl) <| gDr [(0, 0), (1, 0), (2, 0)] (by kernel_rfl) rfl rfl <| gB 68 rfl rfl rfl ?_ ?_ <;> intro hd
 refine gT 67 rfl hd rfl ?_
 replace hd := (bi hd)
 replace h := h.1 hd
 refine gDr [(3, 0), (4, 0), (5, 0), (6, 0), (7, 0), (8, 0), (9, 0), (10, 0), (11, 2), (12, 0), (13, 0), (14, 0), (15, 0), (16, 0), (17, 1)] (by kernel_rfl) rfl rfl <| gDe (by kernel_rfl) <| gR 10 rfl <| go_xloopR <| gR 2 rfl ?_
 subst h
 exact go_end ab (rs := [.tmp 4]) rfl rfl rfl
 refine gF 67 rfl hd rfl ?_
 replace hd := (aQ hd)
 replace h := h.2 hd
 refine gDr [(3, 0), (4, 0), (5, 0), (6, 0)] (by kernel_rfl) rfl rfl <| gB 72 rfl rfl rfl ?_ ?_ <;> intro hd
 refine gT 71 rfl hd rfl ?_
 replace hd := (bi hd)
 replace h := h.1 hd
 refine gDr [(7, 0), (8, 0), (9, 0), (10, 0), (11, 2), (12, 0), (13, 0), (14, 0), (15, 0), (16, 0), (17, 1)] (by kernel_rfl) rfl rfl <| gDe (by kernel_rfl) <| gR 10 rfl <| go_xloopR <| gR 2 rfl ?_
 subst h
 exact go_end ab (rs := [.tmp 4]) rfl rfl rfl
 refine gF 71 rfl hd rfl ?_
 replace hd := (aQ hd)
 replace h := h.2 hd
 refine gDr [(7, 0), (8, 0), (9, 0), (10, 0)] (by kernel_rfl) rfl rfl <| gB 76 rfl rfl rfl ?_ ?_ <;> intro hd
 refine gT 75 rfl hd rfl ?_
 replace hd := (bi hd)
 replace h := h.1 hd
 refine gDr [(11, 2), (12, 0), (13, 0), (14, 0), (15, 0), (16, 0), (17, 1)] (by kernel_rfl) rfl rfl <| gDe (by kernel_rfl) <| gR 10 rfl <| go_xloopR <| gR 2 rfl ?_
 subst h
 exact go_end ab (rs := [.tmp 4]) rfl rfl rfl
 refine gF 75 rfl hd rfl ?_
 replace hd := (aQ hd)
 replace h := h.2 hd
 refine gDr [(11, 3), (12, 0)] (by kernel_rfl) rfl rfl <| jF 13 rfl (by kernel_rfl) (yIP (len := 5) (e := 24) (sz := 4) ab rfl rfl rfl rfl rfl rfl rfl rfl) rfl rfl <| gDr [(14, 0)] (by kernel_rfl) rfl rfl ?_
 obtain ⟨a, hs431, h⟩ := h
 refine aj 15 hs431 (by kernel_rfl) rfl (by kernel_rfl) rfl rfl (.cons .rfl (.cons (.agg (.cons .rfl (.cons .rfl (.cons .rfl (.cons (.nil 4) .nil))))) .nil)) rfl rfl ?_
 refine gDr [(16, 1), (17, 1)] (by kernel_rfl) rfl rfl <| gDe (by kernel_rfl) <| gR 1 rfl <| gB 83 rfl rfl rfl ?_ ?_ <;> intro hd
 replace hd := (dg hd)
 replace h := h.1 hd
 refine gR 9 rfl <| go_xloopR <| gR 2 rfl ?_
 subst h
 exact go_end ab (rs := [.tmp 4]) rfl rfl rfl
 replace hd := (de hd)
 replace h := h.2 hd
 exact gR 7 rfl <| gV 43 (.int .i64 5) rfl (aL (by omega) (by omega)) rfl <| gR 2 rfl <| go_xloop <| gJ (h K hK) [0, 1] [] rfl hK pq5 (pqo2 rfl rfl rfl rfl) rfl
theorem gu (m : Nat) (p0 p1 : Int) (b c d : GDatum) (e f : Nat) (r0 : Bool) (h : ∃ a, fH a ∧ a = r0) : dq (m + 1) p0 p1 b c d e f r0 := by
 intro K hK
 refine gR 10 rfl <| go_xloopE <| gR 4 rfl ?_
 obtain ⟨a, hs432, h⟩ := h
 refine gC0 hs432 (by kernel_rfl) rfl rfl .rfl rfl <| gR 4 rfl ?_
 subst h
 exact go_end ab (rs := [.tmp 4]) rfl rfl rfl
end Go.Proofs.YthnohcipianijaaGreatDoor
namespace Go.Proofs.YthnohcipianijaaGreatDoor
open Go.RowKit Lx Sx
set_option maxRecDepth 100000
set_option maxHeartbeats 1000000
def opT (T : Tree) (op : List UInt8) : Bool := ix [T] 0 0 2 && (ao (aJ [T] 0 0) 3).kind == 21 && (ao (aJ [T] 0 0) 3).text == op && (ao (aJ [T] 0 0) 3).kids.length == 2 && (ao (ao (aJ [T] 0 0) 3) 0).kind == 12 && (ao (ao (aJ [T] 0 0) 3) 0).text == [97] && (ao (ao (aJ [T] 0 0) 3) 1).kind == 12 && (ao (ao (aJ [T] 0 0) 3) 1).text == [98] && (aJ [T] 0 0).kids.length == 4 && (ao (aJ [T] 0 0) 0).text == [97] && (ao (aJ [T] 0 0) 1).text == [98] && decide (kbulk [T] ≤ 1100000)
theorem op9 {T : Tree} {op : List UInt8} (h : opT T op = true) (a b : Int) : bu [T] 0 0 [dI a, dI b] 3 = ((bd op (dI a) (dI b)).1, 3, (bd op (dI a) (dI b)).2) ∧ kbulk [T] ≤ 1100000 := by
 simp only [opT, Bool.and_eq_true, beq_iff_eq, decide_eq_true_eq] at h
 obtain ⟨⟨⟨⟨⟨⟨⟨⟨⟨⟨⟨h1, h2⟩, h3⟩, h4⟩, h5⟩, h6⟩, h7⟩, h8⟩, h9⟩, h10⟩, h11⟩, h12⟩ := h
 refine ⟨?_, h12⟩
 have hv : [dI a, dI b].all cy = true := by simp [cy, wD, wDs, formD, dI]
 have he : bU (aJ [T] 0 0).kids [dI a, dI b] = [([97], dI a), ([98], dI b)] := by
  unfold ao at h10 h11
  match hk : (aJ [T] 0 0).kids, h9 with
  | [x, y, z, w], _ =>
   rw [hk] at h10 h11
   have e1 : x.text = [97] := h10
   have e2 : y.text = [98] := h11
   simp [bU, e1, e2]
 have a1 : bW (ao (ao (aJ [T] 0 0) 3) 0) = ao (ao (aJ [T] 0 0) 3) 0 := by rw [bW, if_neg (by omega)]
 have a2 : bW (ao (ao (aJ [T] 0 0) 3) 1) = ao (ao (aJ [T] 0 0) 3) 1 := by rw [bW, if_neg (by omega)]
 have hev : evG [T] 16385 0 (ao (aJ [T] 0 0) ([dI a, dI b].length + 1)) (bU (aJ [T] 0 0).kids [dI a, dI b]) (3 : Int).toNat = ((bd op (dI a) (dI b)).1, (bd op (dI a) (dI b)).2, 0) := by
  rw [he]
  show evG [T] (16384 + 1) 0 (ao (aJ [T] 0 0) 3) [([97], dI a), ([98], dI b)] (2 + 1) = _
  rw [nz h2, wR h4, h3]
  have v1 : evG [T] (16383 + 1) 0 (ao (ao (aJ [T] 0 0) 3) 0) [([97], dI a), ([98], dI b)] (1 + 1) = (dI a, 0, 1) := by rw [mr h5, h6]; simp [ey]
  have v2 : evG [T] (16383 + 1) 0 (ao (ao (aJ [T] 0 0) 3) 1) [([97], dI a), ([98], dI b)] (0 + 1) = (dI b, 0, 0) := by rw [mr h7, h8]; simp [ey]
  have hL : evL (fun k r => evG [T] 16384 0 k [([97], dI a), ([98], dI b)] r) [ao (ao (aJ [T] 0 0) 3) 0, ao (ao (aJ [T] 0 0) 3) 1] 2 = ([dI a, dI b], 0, 0) := by
   simp only [evL, a1, a2]
   rw [show evG [T] 16384 0 (ao (ao (aJ [T] 0 0) 3) 0) [([97], dI a), ([98], dI b)] 2 = (dI a, 0, 1) from v1]
   simp only [if_true]
   rw [show evG [T] 16384 0 (ao (ao (aJ [T] 0 0) 3) 1) [([97], dI a), ([98], dI b)] 1 = (dI b, 0, 0) from v2]
   simp
  rw [hL]
  simp
 rw [bu, if_pos ⟨h1, by decide, by decide, hv⟩, hev]
 simp
def wx : List UInt8 := [109, 111, 100, 117, 108, 101, 32, 77, 32, 100, 101, 102, 32, 102, 40, 97, 58, 32, 73, 110, 116, 44, 32, 98, 58, 32, 73, 110, 116, 41, 58, 32, 73, 110, 116, 32, 61, 32, 97, 32, 43, 32, 98]
def tr : Tree := (iY wx).1
theorem xX : dV tr (iJ jK 5000 27 [.str wx]) = true := by kernel_rfl
theorem yb : opT tr [43] = true := by decide +kernel
def vu : List UInt8 := [109, 111, 100, 117, 108, 101, 32, 77, 32, 100, 101, 102, 32, 102, 40, 97, 58, 32, 73, 110, 116, 44, 32, 98, 58, 32, 73, 110, 116, 41, 58, 32, 73, 110, 116, 32, 61, 32, 97, 32, 45, 32, 98]
def sL : Tree := (iY vu).1
theorem xU : dV sL (iJ jK 5000 27 [.str vu]) = true := by kernel_rfl
theorem ya : opT sL [45] = true := by decide +kernel
def vI : List UInt8 := [109, 111, 100, 117, 108, 101, 32, 77, 32, 100, 101, 102, 32, 102, 40, 97, 58, 32, 73, 110, 116, 44, 32, 98, 58, 32, 73, 110, 116, 41, 58, 32, 73, 110, 116, 32, 61, 32, 97, 32, 42, 32, 98]
def sO : Tree := (iY vI).1
theorem xT : dV sO (iJ jK 5000 27 [.str vI]) = true := by kernel_rfl
theorem xw : opT sO [42] = true := by decide +kernel
def vO : List UInt8 := [109, 111, 100, 117, 108, 101, 32, 77, 32, 100, 101, 102, 32, 102, 40, 97, 58, 32, 73, 110, 116, 44, 32, 98, 58, 32, 73, 110, 116, 41, 58, 32, 73, 110, 116, 32, 61, 32, 97, 32, 60, 32, 98]
def tH : Tree := (iY vO).1
theorem yd : dV tH (iJ jK 5000 27 [.str vO]) = true := by kernel_rfl
theorem xt : opT tH [60] = true := by decide +kernel
def vi : List UInt8 := [109, 111, 100, 117, 108, 101, 32, 77, 32, 100, 101, 102, 32, 102, 40, 97, 58, 32, 73, 110, 116, 44, 32, 98, 58, 32, 73, 110, 116, 41, 58, 32, 73, 110, 116, 32, 61, 32, 97, 32, 61, 61, 32, 98]
def tJ : Tree := (iY vi).1
theorem xZ : dV tJ (iJ jK 5000 27 [.str vi]) = true := by kernel_rfl
theorem xW : opT tJ [61, 61] = true := by decide +kernel
theorem kr {T : Tree} {op : List UInt8} (h : opT T op = true) (a b : Int) {d : GDatum} (hb : bd op (dI a) (dI b) = (d, 0)) : bT [T] 0 0 [dI a, dI b] 3 d 3 0 := by
 obtain ⟨h1, h2⟩ := op9 h a b
 have := qT h2 0 0 [dI a, dI b] (by simp) 3
 rw [h1, hb] at this
 exact this
theorem jb {op : List UInt8} {a b : Int} : bd op (dI a) (dI b) = (if op = [61, 61] then (dB (sameD (dI a) (dI b)), 0) else if op = [43] then (dI (IntKind.i64.wrap (a + b)), 0) else if op = [45] then (dI (IntKind.i64.wrap (a - b)), 0) else if op = [42] then (dI (IntKind.i64.wrap (a * b)), 0) else (dB (decide (a < b)), 0)) := by
 rw [bd]
 split
 ·rw [if_pos (show (dI a).Kind = (dI b).Kind from rfl)]
 ·rw [if_neg (fun h => absurd h.2.1 (by show ¬ (1 : Int) = 2; decide)), if_neg (fun h => h ⟨rfl, rfl⟩)]; rfl
theorem tE (a b : Int) : sameD (dI a) (dI b) = decide (a = b) := by
 by_cases h : a = b
 ·subst h; rw [dQ, decide_eq_true rfl]
 ·rw [decide_eq_false h]; simp [dI, sameD, h]
theorem rj (a : Int) : nD (dI a) ≤ 1000000000 := by simp [nD, nDs, dI]
theorem tM (a : Bool) : nD (dB a) ≤ 1000000000 := by simp [nD, nDs, dB]
theorem mC (a b : Int) (i j : Nat) (hi : (i : Int) = if decide (a = b) = true then 1 else 0) (hj : (j : Int) = if decide (a < b) = true then 1 else 0) : aR 11 a b (dI (IntKind.i64.wrap (a + b))) (dI (IntKind.i64.wrap (a - b))) (dI (IntKind.i64.wrap (a * b))) i j true := by
 have b0 : bd [43] (dI a) (dI b) = (dI (IntKind.i64.wrap (a + b)), 0) := by rw [jb, if_neg (by decide), if_pos rfl]
 have b1 : bd [45] (dI a) (dI b) = (dI (IntKind.i64.wrap (a - b)), 0) := by rw [jb, if_neg (by decide), if_neg (by decide), if_pos rfl]
 have b2 : bd [42] (dI a) (dI b) = (dI (IntKind.i64.wrap (a * b)), 0) := by rw [jb, if_neg (by decide), if_neg (by decide), if_neg (by decide), if_pos rfl]
 have b3 : bd [60] (dI a) (dI b) = (dB (decide (a < b)), 0) := by rw [jb, if_neg (by decide), if_neg (by decide), if_neg (by decide), if_neg (by decide)]
 have b4 : bd [61, 61] (dI a) (dI b) = (dB (decide (a = b)), 0) := by rw [jb, if_pos rfl, tE]
 have w3 : dB (decide (a < b)) = GDatum.mk 3 ((j : Nat) : Int) [] [] := by rw [hj]; rfl
 have w4 : dB (decide (a = b)) = GDatum.mk 3 ((i : Nat) : Int) [] [] := by rw [hi]; rfl
 have s0 : aP (dI (IntKind.i64.wrap (a + b))) (dI (IntKind.i64.wrap (a + b))) true := dQ (dI (IntKind.i64.wrap (a + b))) ▸ io _ (rj _) _
 have s1 : aP (dI (IntKind.i64.wrap (a - b))) (dI (IntKind.i64.wrap (a - b))) true := dQ (dI (IntKind.i64.wrap (a - b))) ▸ io _ (rj _) _
 have s2 : aP (dI (IntKind.i64.wrap (a * b))) (dI (IntKind.i64.wrap (a * b))) true := dQ (dI (IntKind.i64.wrap (a * b))) ▸ io _ (rj _) _
 have s3 : aP (dB (decide (a < b))) (GDatum.mk 3 ((j : Nat) : Int) [] []) true := by have := io _ (tM (decide (a < b))) (dB (decide (a < b))); rw [dQ] at this; rw [← w3]; exact this
 have s4 : aP (dB (decide (a = b))) (GDatum.mk 3 ((i : Nat) : Int) [] []) true := by have := io _ (tM (decide (a = b))) (dB (decide (a = b))); rw [dQ] at this; rw [← w4]; exact this
 exact gE 10 _ _ _ _ _ _ _ _ ⟨by decide, by decide, tr, 0, 0, gX xX, _, bl a, _, bl b, _, _, _, kr yb a b b0, gz 9 _ _ _ _ _ _ _ _ _ _ _ _ ⟨fun h => absurd rfl h, fun _ => ⟨fun h => absurd rfl h, fun _ => ⟨fun h => absurd rfl h, fun _ => ⟨_, s0, fun h => (by cases h), fun _ => gL 8 _ _ _ _ _ _ _ _ ⟨by decide, by decide, sL, 0, 0, gX xU, _, bl a, _, bl b, _, _, _, kr ya a b b1, gO 7 _ _ _ _ _ _ _ _ _ _ _ _ ⟨fun h => absurd rfl h, fun _ => ⟨fun h => absurd rfl h, fun _ => ⟨fun h => absurd rfl h, fun _ => ⟨_, s1, fun h => (by cases h), fun _ => gP 6 _ _ _ _ _ _ _ _ ⟨by decide, by decide, sO, 0, 0, gX xT, _, bl a, _, bl b, _, _, _, kr xw a b b2, gQ 5 _ _ _ _ _ _ _ _ _ _ _ _ ⟨fun h => absurd rfl h, fun _ => ⟨fun h => absurd rfl h, fun _ => ⟨fun h => absurd rfl h, fun _ => ⟨_, s2, fun h => (by cases h), fun _ => gM 4 _ _ _ _ _ _ _ _ ⟨by decide, by decide, tH, 0, 0, gX yd, _, bl a, _, bl b, _, _, _, kr xt a b b3, gH 3 _ _ _ _ _ _ _ _ _ _ _ _ ⟨fun h => absurd rfl h, fun _ => ⟨fun h => absurd rfl h, fun _ => ⟨fun h => absurd rfl h, fun _ => ⟨_, s3, fun h => (by cases h), fun _ => gG 2 _ _ _ _ _ _ _ _ ⟨by decide, by decide, tJ, 0, 0, gX xZ, _, bl a, _, bl b, _, _, _, kr xW a b b4, gy 1 _ _ _ _ _ _ _ _ _ _ _ _ ⟨fun h => absurd rfl h, fun _ => ⟨fun h => absurd rfl h, fun _ => ⟨fun h => absurd rfl h, fun _ => ⟨_, s4, fun h => (by cases h), fun _ => gu 0 _ _ _ _ _ _ _ _ ⟨_, aw9, rfl⟩⟩⟩⟩⟩⟩⟩⟩⟩⟩⟩⟩⟩⟩⟩⟩⟩⟩⟩⟩⟩⟩⟩⟩⟩⟩
theorem wF (a b : Int) : dX a b true := by
 refine hD 11 _ _ _ ⟨_, bl _, _, bl _, _, bl _, fun h => ⟨fun h' => by omega, fun h' => ?_⟩, fun h => ⟨fun h' => ?_, fun h' => ?_⟩⟩
 ·exact mC a b 0 1 (by rw [decide_eq_false h']; rfl) (by rw [decide_eq_true h]; rfl)
 ·exact mC a b 1 0 (by rw [decide_eq_true h']; rfl) (by rw [decide_eq_false h]; rfl)
 ·exact mC a b 0 0 (by rw [decide_eq_false h']; rfl) (by rw [decide_eq_false h]; rfl)
end Go.Proofs.YthnohcipianijaaGreatDoor
namespace Go.Proofs.YthnohcipianijaaGreatDoor
open Go.RowKit Lx Sx
abbrev kM (W : World) : Nat → Prop := fun b => b < W.heap.size
abbrev VLive (W : World) (v : V) (x : Value) : Prop := VRel (kM W) W (fun _ => none) v x
theorem yf {W : World} (z : Int) : VLive W (.int .i64 z) (.int .i64 z) := by simp only [VLive, VRel]
theorem ye {fid : FuncId} {us : List V} {b : Bool} (h : jD Tryz.prog fid us (.bool b)) {W : World} {xs : List Value} (hx : LRel (kM W) W (fun _ => none) us xs) : Calls Tryz.prog fid xs.toArray W fun e W' => e = .returned (.bool b) ∧ Ext W W' := by
 have h0 := tL W
 have hr' : HRel (kM W) W (fun _ => none) (⟨0, []⟩ : Hp).get := ⟨h0.ob, fun i b hb => by rw [iK] at hb; exact hb.elim, fun i j b hb _ => by rw [iK] at hb; exact hb.elim, fun _ h => h⟩
 refine (h.2.2 _ W _ xs hr' hx).mono ?_
 rintro e W' ⟨x, S', ρ', v, H', rfl, rfl, h1, h2, h3⟩
 simp only [VRel] at h3
 subst h3
 have hno : ∀ b, ¬ ∃ id, own (fun _ => none) id ((⟨0, []⟩ : Hp).get id) b := fun b ⟨id, hb⟩ => by rw [iK] at hb; exact hb
 exact ⟨rfl, Chg.ext ⟨h2.chg.os, h2.chg.tape, h2.chg.output, h2.chg.size, fun b hb _ => h2.chg.block b hb (hno b)⟩⟩
theorem lr1 {W : World} {u : V} {x : Value} (h : VLive W u x) : LRel (kM W) W (fun _ => none) [u] [x] := ⟨x, [], rfl, h, rfl⟩
theorem lrc {W : World} {u : V} {us : List V} {x : Value} {xs : List Value} (h : VLive W u x) (k : LRel (kM W) W (fun _ => none) us xs) : LRel (kM W) W (fun _ => none) (u :: us) (x :: xs) := ⟨x, xs, rfl, h, k⟩
end Go.Proofs.YthnohcipianijaaGreatDoor
namespace Go.Proofs.YthnohcipianijaaGreatDoor
def oR (cs : Array Value) : Obj → Obj
 | .cells _ t frozen => .cells cs t frozen
 | o => o
noncomputable def vp : Nat := (World.holding Tryz.prog default ⟨#[], #[], []⟩).heap.size
noncomputable def rL (os : Os) : World :=
 let w0 := World.holding Tryz.prog os ⟨#[.cells #[.string ⟨#[105, 110, 118, 97, 108, 105, 100, 32, 115, 121, 110, 116, 97, 120]⟩] 242, .cells #[.string ⟨#[118, 97, 108, 117, 101, 32, 111, 117, 116, 32, 111, 102, 32, 114, 97, 110, 103, 101]⟩] 242], #[], []⟩
 { w0 with heap := ((((w0.heap.modify 3 (oR #[.iface 240 (.pointer (some ⟨vp, 0, none⟩))])).modify 4 (oR #[.iface 240 (.pointer (some ⟨vp + 1, 0, none⟩))])).modify 6 (oR #[.int .u64 1, .int .u64 10, .int .u64 100, .int .u64 1000, .int .u64 10000, .int .u64 100000, .int .u64 1000000, .int .u64 10000000, .int .u64 100000000, .int .u64 1000000000, .int .u64 10000000000, .int .u64 100000000000, .int .u64 1000000000000, .int .u64 10000000000000, .int .u64 100000000000000, .int .u64 1000000000000000, .int .u64 10000000000000000, .int .u64 100000000000000000, .int .u64 1000000000000000000, .int .u64 10000000000000000000])).modify 7 (oR #[.int .u8 0, .int .u8 1, .int .u8 28, .int .u8 2, .int .u8 29, .int .u8 14, .int .u8 24, .int .u8 3, .int .u8 30, .int .u8 22, .int .u8 20, .int .u8 15, .int .u8 25, .int .u8 17, .int .u8 4, .int .u8 8, .int .u8 31, .int .u8 27, .int .u8 13, .int .u8 23, .int .u8 21, .int .u8 19, .int .u8 16, .int .u8 7, .int .u8 26, .int .u8 12, .int .u8 18, .int .u8 6, .int .u8 11, .int .u8 5, .int .u8 10, .int .u8 9])).modify 8 (oR #[.int .u8 0, .int .u8 1, .int .u8 56, .int .u8 2, .int .u8 57, .int .u8 49, .int .u8 28, .int .u8 3, .int .u8 61, .int .u8 58, .int .u8 42, .int .u8 50, .int .u8 38, .int .u8 29, .int .u8 17, .int .u8 4, .int .u8 62, .int .u8 47, .int .u8 59, .int .u8 36, .int .u8 45, .int .u8 43, .int .u8 51, .int .u8 22, .int .u8 53, .int .u8 39, .int .u8 33, .int .u8 30, .int .u8 24, .int .u8 18, .int .u8 12, .int .u8 5, .int .u8 63, .int .u8 55, .int .u8 48, .int .u8 27, .int .u8 60, .int .u8 41, .int .u8 37, .int .u8 16, .int .u8 46, .int .u8 35, .int .u8 44, .int .u8 21, .int .u8 52, .int .u8 32, .int .u8 23, .int .u8 11, .int .u8 54, .int .u8 26, .int .u8 40, .int .u8 15, .int .u8 34, .int .u8 20, .int .u8 31, .int .u8 10, .int .u8 25, .int .u8 14, .int .u8 19, .int .u8 9, .int .u8 13, .int .u8 8, .int .u8 7, .int .u8 6]) }
theorem xx (os : Os) (args : Array Value) : laidMet Tryz.prog Rows.evalDataRow.laid ((rL os).forCall (fun _ _ => 0) ⟨#[], args, []⟩).memory :=
 laidMet_of_run' 8 (by kernel_rfl) (by kernel_rfl)
end Go.Proofs.YthnohcipianijaaGreatDoor
