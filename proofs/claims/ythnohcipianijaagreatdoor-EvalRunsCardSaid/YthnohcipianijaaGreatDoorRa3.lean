/- Contracts of the functions that the law reaches, part 3. -/
import Derived.Test.YthnohcipianijaaGreatDoorRa2
set_option linter.unusedVariables false
set_option linter.unusedSimpArgs false
namespace Go.Proofs.YthnohcipianijaaGreatDoor
open Go.RowKit Lx Sx
set_option maxRecDepth 100000
set_option maxHeartbeats 4000000
def yz (p0 : List UInt8) (r0 : Int) : Prop := qS 143 [.str p0] (.int .i64 r0)
def rX (p0 : List UInt8) (r0 : Int) : Prop := qS 140 [.str p0] (.int .i64 r0)
def nv (p0 p1 r0 : Int) : Prop := qS 97 [.int .i64 p0, .int .i64 p1] (.int .i64 r0)
def dQ (p0 p1 p2 r0 : Int) : Prop := qS 142 [.int .i64 p0, .int .i64 p1, .int .i64 p2] (.int .i64 r0)
def jd (p0 : Int) (r0 : Bool) : Prop := qS 146 [.int .i64 p0] (.bool r0)
def dj (p0 : Int) (r0 : Bool) : Prop := qS 145 [.int .i64 p0] (.bool r0)
def mv (p0 : Int) (r0 : Bool) : Prop := qS 147 [.int .i64 p0] (.bool r0)
def kg (p0 : List UInt8) (r0 : Bool) : Prop := qS 144 [.str p0] (.bool r0)
def ml (p0 : Int) (p1 : List UInt8) (r0 : Bool) : Prop := qS 98 [.int .i64 p0, .str p1] (.bool r0)
def nF (p0 : Tree) (p1 : Int) (r0 : Bool) : Prop := qS 99 [.agg (an p0), .int .i64 p1] (.bool r0)
def fS (p0 : Tree) (r0 : Bool) : Prop := qS 66 [.agg (an p0)] (.bool r0)
def dN (p0 p1 r0 : Int) : Prop := qS 108 [.int .i64 p0, .int .i64 p1] (.int .i64 r0)
def bG (p0 p1 p2 r0 : Int) : Prop := qS 153 [.int .i64 p0, .int .i64 p1, .int .i64 p2] (.int .i64 r0)
def eI (p0 : Int) (r0 : Bool) : Prop := qS 156 [.int .i64 p0] (.bool r0)
def du (p0 : Int) (r0 : Bool) : Prop := qS 155 [.int .i64 p0] (.bool r0)
def eP (p0 : Int) (r0 : Bool) : Prop := qS 157 [.int .i64 p0] (.bool r0)
def ff (p0 : List UInt8) (r0 : Bool) : Prop := qS 154 [.str p0] (.bool r0)
def ga (p0 : Int) (p1 : List UInt8) (r0 : Bool) : Prop := qS 109 [.int .i64 p0, .str p1] (.bool r0)
def jZ (p0 : Tree) (p1 p2 : Int) (r0 : Bool) : Prop := qS 110 [.agg (an p0), .int .i64 p1, .int .i64 p2] (.bool r0)
def cu (p0 : Tree) (r0 : Bool) : Prop := qS 70 [.agg (an p0)] (.bool r0)
def aH (m : Nat) (p1 : Int) (a b c : Nat) (d r0 : Int) : Prop := ∀ (K : Ctx), ao K [] → qLG K Tryz.f97 (fun u _ => u = .int .i64 r0) (xK (ae Tryz.f97)) [] 69 (mkF 69 0 [(1, .int .i64 p1), (5, .int .i64 (a : Int)), (6, .int .i64 d), (7, .int .i64 (b : Int)), (8, .int .i64 (c : Int))]) ⟨0, []⟩
def je (m : Nat) (p0 p1 : Int) (a : Bool) (r0 : Int) : Prop := ∀ (K : Ctx), ao K [] → qLG K Tryz.f97 (fun u _ => u = .int .i64 r0) (cB (xG (xL (cB (ae Tryz.f97))))) [.blk 0, .seq (xK (ae Tryz.f97))] 69 (mkF 69 0 [(1, .int .i64 p1), (5, .int .i64 0), (6, .int .i64 0), (7, .int .i64 1), (8, .int .i64 0), (9, .int .i64 p0), (22, .bool a)]) ⟨0, []⟩
def ja (m : Nat) (p1 : Int) (a b c : Nat) (d r0 : Int) : Prop := ∀ (K : Ctx), ao K [] → qLG K Tryz.f97 (fun u _ => u = .int .i64 r0) (xN (ae Tryz.f97)) [] 69 (mkF 69 0 [(1, .int .i64 p1), (5, .int .i64 (a : Int)), (6, .int .i64 d), (7, .int .i64 (b : Int)), (8, .int .i64 (c : Int))]) ⟨0, []⟩
theorem uI (m : Nat) (p0 p1 r0 : Int) (h : ((p0 = 1) → ∃ a, dQ p1 0 3 a ∧ a = r0) ∧ ((p0 ≠ 1) → ((p0 = 2) → aH m p1 2 6 2 (-1) r0) ∧ ((p0 ≠ 2) → ((p0 = 16) → aH m p1 0 3 0 (-1) r0) ∧ ((p0 ≠ 16) → ((p0 = 18) → aH m p1 1 2 0 (-1) r0) ∧ ((p0 ≠ 18) → ((p0 = 3) → aH m p1 1 3 0 1 r0) ∧ ((p0 ≠ 3) → ((p0 = 4) → je m p0 p1 true r0) ∧ ((p0 ≠ 4) → ((p0 = 8) → je m p0 p1 true r0) ∧ ((p0 ≠ 8) → je m p0 p1 (p0 == 22) r0)))))))) : nv p0 p1 r0 := by
 refine ⟨rfl, rfl, ?_⟩
 refine aj 69 [] Tryz.func97 rfl rfl rfl (ax rfl) fun K hK => ?_
 refine gR 30 rfl <| qBeZ 10 11 rfl rfl rfl rfl h (fun h => ?_) fun h => ?_
 refine gR 4 rfl ?_
 obtain ⟨a, hs17, h⟩ := h
 refine gC0 hs17 (by kernel_rfl) rfl rfl .rfl rfl <| gR 6 rfl ?_
 subst h
 exact go_end ab (rs := [.tmp 4]) rfl rfl rfl
 refine gR 7 rfl <| qBeZ 14 15 rfl rfl rfl rfl h (fun h => ?_) fun h => ?_
 exact gR 9 rfl <| gJ (h K hK) [] [] rfl hK pq5 trivial rfl
 refine gR 7 rfl <| qBeZ 16 17 rfl rfl rfl rfl h (fun h => ?_) fun h => ?_
 exact gR 9 rfl <| gJ (h K hK) [] [] rfl hK pq5 trivial rfl
 refine gR 7 rfl <| qBeZ 18 19 rfl rfl rfl rfl h (fun h => ?_) fun h => ?_
 exact gR 9 rfl <| gJ (h K hK) [] [] rfl hK pq5 trivial rfl
 refine gR 7 rfl <| qBeZ 20 21 rfl rfl rfl rfl h (fun h => ?_) fun h => ?_
 exact gR 8 rfl <| gJ (h K hK) [] [] rfl hK pq5 trivial rfl
 refine gR 8 rfl <| qBeZ 22 23 rfl rfl rfl rfl h (fun h => ?_) fun h => ?_
 exact gR 3 rfl <| gJ (h K hK) [] [] rfl hK pq7 trivial rfl
 refine gR 7 rfl <| qBeZ 22 24 rfl rfl rfl rfl h (fun h => ?_) fun h => ?_
 exact gR 3 rfl <| gJ (h K hK) [] [] rfl hK pq7 trivial rfl
 exact gR 6 rfl <| gJ (h K hK) [] [] rfl hK pq7 trivial rfl
theorem tQ (m : Nat) (p1 : Int) (b c d : Nat) (a r0 : Int) (h : ((0 ≤ a) → ((a < p1) → (-1) = r0) ∧ ((¬ a < p1) → ja m p1 b c d a r0)) ∧ ((¬ 0 ≤ a) → ja m p1 b c d a r0)) : aH (m + 1) p1 b c d a r0 := by
 intro K hK
 refine gR 6 rfl <| qBdZ 47 46 rfl rfl rfl rfl h (fun h => ?_) fun h => ?_
 refine gR 6 rfl <| qBd 51 rfl rfl rfl h (fun h => ?_) fun h => ?_
 refine gR 8 rfl ?_
 subst h
 exact go_end ab (rs := [.tmp 4]) rfl rfl rfl
 exact gR 3 rfl <| gJ (h K hK) [] [] rfl hK pq5 trivial rfl
 exact gR 9 rfl <| gJ (h K hK) [] [] rfl hK pq5 trivial rfl
theorem tX (m : Nat) (p0 p1 : Int) (a : Bool) (r0 : Int) (h : ((a = true) → aH m p1 1 2 0 1 r0) ∧ ((a = false) → ((p0 = 17) → aH m p1 1 0 0 1 r0) ∧ ((p0 ≠ 17) → ((p0 = 19) → aH m p1 3 3 0 3 r0) ∧ ((p0 ≠ 19) → ((p0 = 20) → aH m p1 2 4 0 2 r0) ∧ ((p0 ≠ 20) → ((p0 = 21) → aH m p1 2 1 0 2 r0) ∧ ((p0 ≠ 21) → ((p0 = 5) → aH m p1 0 1 0 0 r0) ∧ ((p0 ≠ 5) → ((p0 = 6) → aH m p1 0 1 0 0 r0) ∧ ((p0 ≠ 6) → ((p0 = 7) → aH m p1 0 1 0 0 r0) ∧ ((p0 ≠ 7) → ((p0 = 9) → aH m p1 0 1 0 0 r0) ∧ ((p0 ≠ 9) → ((p0 = 10) → aH m p1 0 1 0 0 r0) ∧ ((p0 ≠ 10) → ((p0 = 11) → aH m p1 0 1 0 0 r0) ∧ ((p0 ≠ 11) → ((p0 = 12) → aH m p1 0 1 0 0 r0) ∧ ((p0 ≠ 12) → ((p0 = 13) → aH m p1 0 1 0 0 r0) ∧ ((p0 ≠ 13) → ((p0 = 14) → aH m p1 0 1 0 0 r0) ∧ ((p0 ≠ 14) → ((p0 = 15) → aH m p1 0 1 0 0 r0) ∧ ((p0 ≠ 15) → (-1) = r0)))))))))))))))) : je (m + 1) p0 p1 a r0 := by
 intro K hK
 refine qBi 22 rfl rfl rfl h (fun h => ?_) fun h => ?_
 exact gR 8 rfl <| gJ (h K hK) [] [] rfl hK pq5 trivial rfl
 refine gR 7 rfl <| qBeZ 26 27 rfl rfl rfl rfl h (fun h => ?_) fun h => ?_
 exact gR 8 rfl <| gJ (h K hK) [] [] rfl hK pq5 trivial rfl
 refine gR 7 rfl <| qBeZ 28 29 rfl rfl rfl rfl h (fun h => ?_) fun h => ?_
 exact gR 8 rfl <| gJ (h K hK) [] [] rfl hK pq5 trivial rfl
 refine gR 7 rfl <| qBeZ 30 31 rfl rfl rfl rfl h (fun h => ?_) fun h => ?_
 exact gR 8 rfl <| gJ (h K hK) [] [] rfl hK pq5 trivial rfl
 refine gR 7 rfl <| qBeZ 32 33 rfl rfl rfl rfl h (fun h => ?_) fun h => ?_
 exact gR 8 rfl <| gJ (h K hK) [] [] rfl hK pq5 trivial rfl
 refine gR 8 rfl <| qBeZ 34 35 rfl rfl rfl rfl h (fun h => ?_) fun h => ?_
 exact gR 7 rfl <| gJ (h K hK) [] [] rfl hK pq5 trivial rfl
 refine gR 7 rfl <| qBeZ 34 36 rfl rfl rfl rfl h (fun h => ?_) fun h => ?_
 exact gR 7 rfl <| gJ (h K hK) [] [] rfl hK pq5 trivial rfl
 refine gR 7 rfl <| qBeZ 34 37 rfl rfl rfl rfl h (fun h => ?_) fun h => ?_
 exact gR 7 rfl <| gJ (h K hK) [] [] rfl hK pq5 trivial rfl
 refine gR 7 rfl <| qBeZ 34 38 rfl rfl rfl rfl h (fun h => ?_) fun h => ?_
 exact gR 7 rfl <| gJ (h K hK) [] [] rfl hK pq5 trivial rfl
 refine gR 7 rfl <| qBeZ 34 39 rfl rfl rfl rfl h (fun h => ?_) fun h => ?_
 exact gR 7 rfl <| gJ (h K hK) [] [] rfl hK pq5 trivial rfl
 refine gR 7 rfl <| qBeZ 34 40 rfl rfl rfl rfl h (fun h => ?_) fun h => ?_
 exact gR 7 rfl <| gJ (h K hK) [] [] rfl hK pq5 trivial rfl
 refine gR 7 rfl <| qBeZ 34 41 rfl rfl rfl rfl h (fun h => ?_) fun h => ?_
 exact gR 7 rfl <| gJ (h K hK) [] [] rfl hK pq5 trivial rfl
 refine gR 7 rfl <| qBeZ 34 42 rfl rfl rfl rfl h (fun h => ?_) fun h => ?_
 exact gR 7 rfl <| gJ (h K hK) [] [] rfl hK pq5 trivial rfl
 refine gR 7 rfl <| qBeZ 34 43 rfl rfl rfl rfl h (fun h => ?_) fun h => ?_
 exact gR 7 rfl <| gJ (h K hK) [] [] rfl hK pq5 trivial rfl
 refine gR 6 rfl <| qBeZ 34 44 rfl rfl rfl rfl h (fun h => ?_) fun h => ?_
 exact gR 4 rfl <| gJ (h K hK) [] [] rfl hK pq5 trivial rfl
 refine gR 9 rfl ?_
 subst h
 exact go_end ab (rs := [.tmp 4]) rfl rfl rfl
theorem tC (m : Nat) (p1 : Int) (c b a : Nat) (d r0 : Int) (h : ((d < 0) → (((a : Int) < p1) → InI (p1 - (a : Int)) ∧ InI ((p1 - (a : Int)) - 1) ∧ InI ((b : Int) + ((p1 - (a : Int)) - 1)) ∧ ∃ e, dQ p1 (c : Int) ((b : Int) + ((p1 - (a : Int)) - 1)) e ∧ e = r0) ∧ ((¬ (a : Int) < p1) → ∃ f, dQ p1 (c : Int) (b : Int) f ∧ f = r0)) ∧ ((¬ d < 0) → ∃ g, dQ p1 (c : Int) (b : Int) g ∧ g = r0)) : ja (m + 1) p1 c b a d r0 := by
 intro K hK
 refine gR 6 rfl <| qBdZ 54 53 rfl rfl rfl rfl h (fun h => ?_) fun h => ?_
 refine gR 6 rfl <| qBd 58 rfl rfl rfl h (fun h => ?_) fun h => ?_
 refine gR 5 rfl ?_
 obtain ⟨hb, h⟩ := h
 refine gR 1 rfl <| gV 62 (.int .i64 (p1 - (a : Int))) rfl (au hb rfl) rfl ?_
 obtain ⟨hb, h⟩ := h
 refine gR 1 rfl <| gV 63 (.int .i64 ((p1 - (a : Int)) - 1)) rfl (au hb rfl) rfl ?_
 obtain ⟨hb, h⟩ := h
 refine gR 1 rfl <| gV 64 (.int .i64 ((b : Int) + ((p1 - (a : Int)) - 1))) rfl (au hb rfl) rfl <| gR 8 rfl ?_
 obtain ⟨e, hs18, h⟩ := h
 refine gC0 hs18 (by kernel_rfl) rfl rfl .rfl rfl <| gR 4 rfl ?_
 subst h
 exact go_end ab (rs := [.tmp 4]) rfl rfl rfl
 refine gR 8 rfl ?_
 obtain ⟨f, hs19, h⟩ := h
 refine gC0 hs19 (by kernel_rfl) rfl rfl .rfl rfl <| gR 4 rfl ?_
 subst h
 exact go_end ab (rs := [.tmp 4]) rfl rfl rfl
 refine gR 14 rfl ?_
 obtain ⟨g, hs20, h⟩ := h
 refine gC0 hs20 (by kernel_rfl) rfl rfl .rfl rfl <| gR 4 rfl ?_
 subst h
 exact go_end ab (rs := [.tmp 4]) rfl rfl rfl
theorem te (m : Nat) (p0 p1 p2 r0 : Int) (h : ((p0 < p1) → (-1) = r0) ∧ ((¬ p0 < p1) → p2 = r0)) : dQ p0 p1 p2 r0 := by
 refine ⟨rfl, rfl, ?_⟩
 refine aj 11 [] Tryz.func142 rfl rfl rfl (ax rfl) fun K hK => ?_
 refine gR 13 rfl <| qBd 9 rfl rfl rfl h (fun h => ?_) fun h => ?_
 refine gR 8 rfl ?_
 subst h
 exact go_end ab (rs := [.tmp 6]) rfl rfl rfl
 refine gR 10 rfl ?_
 subst h
 exact go_end ab (rs := [.tmp 6]) rfl rfl rfl
theorem tK (m : Nat) (p0 : Int) (r0 : Bool) (h : ((5 ≤ p0) → decide (p0 ≤ 9) = r0) ∧ ((¬ 5 ≤ p0) → false = r0)) : jd p0 r0 := by
 refine ⟨rfl, rfl, ?_⟩
 refine aj 9 [] Tryz.func146 rfl rfl rfl (ax rfl) fun K hK => ?_
 refine gR 10 rfl <| qBdZ 5 4 rfl rfl rfl rfl h (fun h => ?_) fun h => ?_
 refine gR 7 rfl ?_
 subst h
 exact go_end ab (rs := [.tmp 2]) rfl rfl rfl
 refine gR 7 rfl ?_
 subst h
 exact go_end ab (rs := [.tmp 2]) rfl rfl rfl
theorem pT (m : Nat) (p0 : Int) (r0 : Bool) (h : ((10 ≤ p0) → ((p0 ≤ 22) → (p0 != 17) = r0) ∧ ((¬ p0 ≤ 22) → false = r0)) ∧ ((¬ 10 ≤ p0) → false = r0)) : dj p0 r0 := by
 refine ⟨rfl, rfl, ?_⟩
 refine aj 13 [] Tryz.func145 rfl rfl rfl (ax rfl) fun K hK => ?_
 refine gR 10 rfl <| qBdZ 5 4 rfl rfl rfl rfl h (fun h => ?_) fun h => ?_
 refine gR 4 rfl <| qBdZ 9 8 rfl rfl rfl rfl h (fun h => ?_) fun h => ?_
 refine gR 7 rfl ?_
 subst h
 exact go_end ab (rs := [.tmp 2]) rfl rfl rfl
 refine gR 7 rfl ?_
 subst h
 exact go_end ab (rs := [.tmp 2]) rfl rfl rfl
 refine gR 11 rfl ?_
 subst h
 exact go_end ab (rs := [.tmp 2]) rfl rfl rfl
theorem tF (m : Nat) (p0 : Int) (r0 : Bool) (h : ∃ a, dj p0 a ∧ ((a = true) → ((p0 ≠ 19) → ((p0 ≠ 20) → (p0 != 21) = r0) ∧ ((p0 = 20) → false = r0)) ∧ ((p0 = 19) → false = r0)) ∧ ((a = false) → false = r0)) : mv p0 r0 := by
 refine ⟨rfl, rfl, ?_⟩
 refine aj 17 [] Tryz.func147 rfl rfl rfl (ax rfl) fun K hK => ?_
 refine gR 8 rfl ?_
 obtain ⟨a, hs2, h⟩ := h
 refine gC0 hs2 (by kernel_rfl) rfl rfl .rfl rfl <| gR 1 rfl <| qBiZ 5 4 rfl rfl rfl rfl h (fun h => ?_) fun h => ?_
 refine gR 4 rfl <| qBhZ 9 8 rfl rfl rfl rfl h bN bn (fun h => ?_) fun h => ?_
 refine gR 4 rfl <| qBhZ 13 12 rfl rfl rfl rfl h bN bn (fun h => ?_) fun h => ?_
 refine gR 7 rfl ?_
 subst h
 exact go_end ab (rs := [.tmp 2]) rfl rfl rfl
 refine gR 7 rfl ?_
 subst h
 exact go_end ab (rs := [.tmp 2]) rfl rfl rfl
 refine gR 11 rfl ?_
 subst h
 exact go_end ab (rs := [.tmp 2]) rfl rfl rfl
 refine gR 15 rfl ?_
 subst h
 exact go_end ab (rs := [.tmp 2]) rfl rfl rfl
theorem sG (m : Nat) (p0 : List UInt8) (r0 : Bool) (h : ((p0 = [43]) → true = r0) ∧ ((p0 ≠ [43]) → ((p0 = [45]) → true = r0) ∧ ((p0 ≠ [45]) → ((p0 = [42]) → true = r0) ∧ ((p0 ≠ [42]) → ((p0 = [60]) → true = r0) ∧ ((p0 ≠ [60]) → ((p0 = [61, 61]) → true = r0) ∧ ((p0 ≠ [61, 61]) → false = r0)))))) : kg p0 r0 := by
 refine ⟨rfl, rfl, ?_⟩
 refine aj 10 [] Tryz.func144 rfl rfl rfl (ax rfl) fun K hK => ?_
 refine gR 19 rfl <| qBeZ 4 5 rfl rfl rfl rfl h (fun h => ?_) fun h => ?_
 refine gR 12 rfl ?_
 subst h
 exact go_end ab (rs := [.tmp 2]) rfl rfl rfl
 refine gR 7 rfl <| qBeZ 4 6 rfl rfl rfl rfl h (fun h => ?_) fun h => ?_
 refine gR 12 rfl ?_
 subst h
 exact go_end ab (rs := [.tmp 2]) rfl rfl rfl
 refine gR 7 rfl <| qBeZ 4 7 rfl rfl rfl rfl h (fun h => ?_) fun h => ?_
 refine gR 12 rfl ?_
 subst h
 exact go_end ab (rs := [.tmp 2]) rfl rfl rfl
 refine gR 7 rfl <| qBeZ 4 8 rfl rfl rfl rfl h (fun h => ?_) fun h => ?_
 refine gR 12 rfl ?_
 subst h
 exact go_end ab (rs := [.tmp 2]) rfl rfl rfl
 refine gR 6 rfl <| qBeZ 4 9 rfl rfl rfl rfl h (fun h => ?_) fun h => ?_
 refine gR 9 rfl ?_
 subst h
 exact go_end ab (rs := [.tmp 2]) rfl rfl rfl
 refine gR 10 rfl ?_
 subst h
 exact go_end ab (rs := [.tmp 2]) rfl rfl rfl
def lh (m : Nat) (p0 : Int) (p1 : List UInt8) (a : Int) (b r0 : Bool) : Prop := ∀ (K : Ctx), ao K [] → qLG K Tryz.f98 (fun u _ => u = .bool r0) (cB (xF (ae Tryz.f98))) [.blk 0, .seq (xH (ae Tryz.f98))] 51 (mkF 51 0 [(1, .str p1), (5, .int .i64 a), (8, .int .i64 p0), (9, .bool b)]) ⟨0, []⟩
def fe (m : Nat) (p0 : Int) (p1 : List UInt8) (a : Int) (b r0 : Bool) : Prop := ∀ (K : Ctx), ao K [] → qLG K Tryz.f98 (fun u _ => u = .bool r0) (cB (xL (ae Tryz.f98))) [.blk 0, .seq (xH (ae Tryz.f98))] 51 (mkF 51 0 [(1, .str p1), (5, .int .i64 a), (8, .int .i64 p0), (14, .bool b)]) ⟨0, []⟩
theorem tH (m : Nat) (p0 : Int) (p1 : List UInt8) (r0 : Bool) (h : ∃ a, yz p1 a ∧ ((p0 = 1) → lh m p0 p1 a true r0) ∧ ((p0 ≠ 1) → lh m p0 p1 a (p0 == 3) r0)) : ml p0 p1 r0 := by
 refine ⟨rfl, rfl, ?_⟩
 refine aj 51 [] Tryz.func98 rfl rfl rfl (ax rfl) fun K hK => ?_
 refine gR 8 rfl ?_
 obtain ⟨a, hs7, h⟩ := h
 refine gC0 hs7 (by kernel_rfl) rfl rfl .rfl rfl <| gR 17 rfl <| qBeZ 9 10 rfl rfl rfl rfl h (fun h => ?_) fun h => ?_
 exact gR 3 rfl <| gJ (h K hK) [] [] rfl hK pq4 trivial rfl
 exact gR 6 rfl <| gJ (h K hK) [] [] rfl hK pq4 trivial rfl
theorem sZ (m : Nat) (p0 : Int) (p1 : List UInt8) (a : Int) (b r0 : Bool) (h : ((b = true) → (a == 2) = r0) ∧ ((b = false) → ((p0 = 2) → fe m p0 p1 a true r0) ∧ ((p0 ≠ 2) → ((p0 = 4) → fe m p0 p1 a true r0) ∧ ((p0 ≠ 4) → ((p0 = 12) → fe m p0 p1 a true r0) ∧ ((p0 ≠ 12) → fe m p0 p1 a (p0 == 20) r0))))) : lh (m + 1) p0 p1 a b r0 := by
 intro K hK
 refine qBi 9 rfl rfl rfl h (fun h => ?_) fun h => ?_
 refine gR 11 rfl ?_
 subst h
 exact go_end ab (rs := [.tmp 4]) rfl rfl rfl
 refine gR 8 rfl <| qBeZ 14 15 rfl rfl rfl rfl h (fun h => ?_) fun h => ?_
 exact gR 3 rfl <| gJ (h K hK) [] [] rfl hK pq4 trivial rfl
 refine gR 7 rfl <| qBeZ 14 16 rfl rfl rfl rfl h (fun h => ?_) fun h => ?_
 exact gR 3 rfl <| gJ (h K hK) [] [] rfl hK pq4 trivial rfl
 refine gR 7 rfl <| qBeZ 14 17 rfl rfl rfl rfl h (fun h => ?_) fun h => ?_
 exact gR 3 rfl <| gJ (h K hK) [] [] rfl hK pq4 trivial rfl
 exact gR 6 rfl <| gJ (h K hK) [] [] rfl hK pq4 trivial rfl
theorem tf (m : Nat) (p0 : Int) (p1 : List UInt8) (a : Int) (b r0 : Bool) (h : ((b = true) → (a == 1) = r0) ∧ ((b = false) → ((p0 = 9) → ((a = 2) → true = r0) ∧ ((a ≠ 2) → (a == 4) = r0)) ∧ ((p0 ≠ 9) → ((p0 = 16) → ((a = 1) → true = r0) ∧ ((a ≠ 1) → (a == 3) = r0)) ∧ ((p0 ≠ 16) → ((p0 = 10) → (a == 5) = r0) ∧ ((p0 ≠ 10) → ((p0 = 11) → (a == 6) = r0) ∧ ((p0 ≠ 11) → ((p0 = 21) → ∃ c, kg p1 c ∧ c = r0) ∧ ((p0 ≠ 21) → (p1 == []) = r0))))))) : fe (m + 1) p0 p1 a b r0 := by
 intro K hK
 refine qBi 14 rfl rfl rfl h (fun h => ?_) fun h => ?_
 refine gR 11 rfl ?_
 subst h
 exact go_end ab (rs := [.tmp 4]) rfl rfl rfl
 refine gR 7 rfl <| qBeZ 21 22 rfl rfl rfl rfl h (fun h => ?_) fun h => ?_
 refine gR 6 rfl <| qBeZ 25 24 rfl rfl rfl rfl h (fun h => ?_) fun h => ?_
 refine gR 9 rfl ?_
 subst h
 exact go_end ab (rs := [.tmp 4]) rfl rfl rfl
 refine gR 9 rfl ?_
 subst h
 exact go_end ab (rs := [.tmp 4]) rfl rfl rfl
 refine gR 7 rfl <| qBeZ 29 30 rfl rfl rfl rfl h (fun h => ?_) fun h => ?_
 refine gR 6 rfl <| qBeZ 33 32 rfl rfl rfl rfl h (fun h => ?_) fun h => ?_
 refine gR 9 rfl ?_
 subst h
 exact go_end ab (rs := [.tmp 4]) rfl rfl rfl
 refine gR 9 rfl ?_
 subst h
 exact go_end ab (rs := [.tmp 4]) rfl rfl rfl
 refine gR 7 rfl <| qBeZ 37 38 rfl rfl rfl rfl h (fun h => ?_) fun h => ?_
 refine gR 11 rfl ?_
 subst h
 exact go_end ab (rs := [.tmp 4]) rfl rfl rfl
 refine gR 7 rfl <| qBeZ 41 42 rfl rfl rfl rfl h (fun h => ?_) fun h => ?_
 refine gR 11 rfl ?_
 subst h
 exact go_end ab (rs := [.tmp 4]) rfl rfl rfl
 refine gR 7 rfl <| qBeZ 45 46 rfl rfl rfl rfl h (fun h => ?_) fun h => ?_
 refine gR 4 rfl ?_
 obtain ⟨c, hs8, h⟩ := h
 refine gC0 hs8 (by kernel_rfl) rfl rfl .rfl rfl <| gR 6 rfl ?_
 subst h
 exact go_end ab (rs := [.tmp 4]) rfl rfl rfl
 refine gR 12 rfl ?_
 subst h
 exact go_end ab (rs := [.tmp 4]) rfl rfl rfl
def jb (m : Nat) (p0 : Tree) (p1 : Int) (a : Tree) (b r0 : Bool) : Prop := ∀ (K : Ctx), ao K [] → qLG K Tryz.f99 (fun u _ => u = .bool r0) (cB (xC (xF (ae Tryz.f99)))) [.blk 0, .seq (xH (ae Tryz.f99))] 67 (mkF 67 0 [(1, .int .i64 p1), (5, .int .i64 a.kind), (13, .int .i64 p0.kind), (43, .bool b)]) ⟨0, []⟩
theorem uu (m : Nat) (p0 : Tree) (p1 : Int) (r0 : Bool) (h : ∃ b, p1 = ((b : Nat) : Int) ∧ ∃ a, p0.kids[b]? = some a ∧ ((p0.kind = 1) → ((a.kind = 2) → true = r0) ∧ ((a.kind ≠ 2) → (a.kind == 3) = r0)) ∧ ((p0.kind ≠ 1) → ((p0.kind = 2) → ((p1 = ((p0.kids.length : Int) - 1)) → ∃ c, dj a.kind c ∧ c = r0) ∧ ((p1 ≠ ((p0.kids.length : Int) - 1)) → ((p1 = ((p0.kids.length : Int) - 2)) → ∃ d, jd a.kind d ∧ d = r0) ∧ ((p1 ≠ ((p0.kids.length : Int) - 2)) → (a.kind == 4) = r0))) ∧ ((p0.kind ≠ 2) → ((p0.kind = 3) → jb m p0 p1 a true r0) ∧ ((p0.kind ≠ 3) → ((p0.kind = 4) → jb m p0 p1 a true r0) ∧ ((p0.kind ≠ 4) → jb m p0 p1 a (p0.kind == 8) r0))))) : nF p0 p1 r0 := by
 refine ⟨rfl, rfl, ?_⟩
 refine aj 67 [] Tryz.func99 rfl rfl rfl (ax rfl) fun K hK => ?_
 refine gR 3 rfl <| gFP 0 rfl rfl rfl rfl <| gR 8 rfl ?_
 obtain ⟨b, e, h⟩ := h
 refine gV 8 (.int .i64 ((b : Nat) : Int)) rfl (bo e) rfl ?_
 obtain ⟨a, hxt0_2, h⟩ := h
 refine gY (ay (aq hxt0_2) ab rfl rfl rfl rfl) rfl rfl <| gR 19 rfl <| gB 14 rfl rfl rfl ?_ ?_ <;> intro hd
 refine gT 15 rfl hd rfl ?_
 replace hd := (eq_of_beq hd)
 replace h := h.1 hd
 refine gR 6 rfl <| gB 18 rfl rfl rfl ?_ ?_ <;> intro hd
 refine gT 17 rfl hd rfl ?_
 replace hd := (eq_of_beq hd)
 replace h := h.1 hd
 refine gR 9 rfl ?_
 subst h
 exact go_end ab (rs := [.tmp 4]) rfl rfl rfl
 refine gF 17 rfl hd rfl ?_
 replace hd := (ne_of_beq_false hd)
 replace h := h.2 hd
 refine gR 9 rfl ?_
 subst h
 exact go_end ab (rs := [.tmp 4]) rfl rfl rfl
 refine gF 15 rfl hd rfl ?_
 replace hd := (ne_of_beq_false hd)
 replace h := h.2 hd
 refine gR 7 rfl <| gB 22 rfl rfl rfl ?_ ?_ <;> intro hd
 refine gT 23 rfl hd rfl ?_
 replace hd := (eq_of_beq hd)
 replace h := h.1 hd
 refine gR 13 rfl <| gV 28 (.int .i64 (p0.kids.length : Int)) rfl (aL (aG _)) rfl <| gLB 27 rfl (aG _) fun hl17 => gR 1 rfl <| gV 29 (.int .i64 ((p0.kids.length : Int) - 1)) rfl (au (by have := hl17; omega) rfl) rfl <| gR 4 rfl <| gB 25 rfl rfl rfl ?_ ?_ <;> intro hd
 refine gT 30 rfl hd rfl ?_
 replace hd := (eq_of_beq hd)
 replace h := h.1 hd
 refine gR 4 rfl ?_
 obtain ⟨c, hs18, h⟩ := h
 refine gC0 hs18 (by kernel_rfl) rfl rfl .rfl rfl <| gR 8 rfl ?_
 subst h
 exact go_end ab (rs := [.tmp 4]) rfl rfl rfl
 refine gF 30 rfl hd rfl ?_
 replace hd := (ne_of_beq_false hd)
 replace h := h.2 hd
 refine gR 6 rfl <| gV 36 (.int .i64 (p0.kids.length : Int)) rfl (aL (aG _)) rfl <| gR 1 rfl <| gV 37 (.int .i64 ((p0.kids.length : Int) - 2)) rfl (au (by have := hl17; omega) rfl) rfl <| gR 4 rfl <| gB 33 rfl rfl rfl ?_ ?_ <;> intro hd
 refine gT 38 rfl hd rfl ?_
 replace hd := (eq_of_beq hd)
 replace h := h.1 hd
 refine gR 4 rfl ?_
 obtain ⟨d, hs19, h⟩ := h
 refine gC0 hs19 (by kernel_rfl) rfl rfl .rfl rfl <| gR 8 rfl ?_
 subst h
 exact go_end ab (rs := [.tmp 4]) rfl rfl rfl
 refine gF 38 rfl hd rfl ?_
 replace hd := (ne_of_beq_false hd)
 replace h := h.2 hd
 refine gR 14 rfl ?_
 subst h
 exact go_end ab (rs := [.tmp 4]) rfl rfl rfl
 refine gF 23 rfl hd rfl ?_
 replace hd := (ne_of_beq_false hd)
 replace h := h.2 hd
 refine gR 8 rfl <| gB 43 rfl rfl rfl ?_ ?_ <;> intro hd
 refine gT 44 rfl hd rfl ?_
 replace hd := (eq_of_beq hd)
 replace h := h.1 hd
 exact gR 3 rfl <| gJ (h K hK) [] [] rfl hK pq4 trivial rfl
 refine gF 44 rfl hd rfl ?_
 replace hd := (ne_of_beq_false hd)
 replace h := h.2 hd
 refine gR 7 rfl <| gB 43 rfl rfl rfl ?_ ?_ <;> intro hd
 refine gT 45 rfl hd rfl ?_
 replace hd := (eq_of_beq hd)
 replace h := h.1 hd
 exact gR 3 rfl <| gJ (h K hK) [] [] rfl hK pq4 trivial rfl
 refine gF 45 rfl hd rfl ?_
 replace hd := (ne_of_beq_false hd)
 replace h := h.2 hd
 exact gR 6 rfl <| gJ (h K hK) [] [] rfl hK pq4 trivial rfl
theorem tM (m : Nat) (p0 : Tree) (p1 : Int) (a : Tree) (c r0 : Bool) (h : ((c = true) → ∃ d, jd a.kind d ∧ d = r0) ∧ ((c = false) → ((p0.kind = 16) → (a.kind == 17) = r0) ∧ ((p0.kind ≠ 16) → ((p0.kind = 21) → ∃ b, mv a.kind b ∧ ((b = true) → true = r0) ∧ ((b = false) → ((p1 = 0) → (a.kind == 21) = r0) ∧ ((p1 ≠ 0) → false = r0))) ∧ ((p0.kind ≠ 21) → ∃ e, dj a.kind e ∧ e = r0)))) : jb (m + 1) p0 p1 a c r0 := by
 intro K hK
 refine qBi 43 rfl rfl rfl h (fun h => ?_) fun h => ?_
 refine gR 4 rfl ?_
 obtain ⟨d, hs20, h⟩ := h
 refine gC0 hs20 (by kernel_rfl) rfl rfl .rfl rfl <| gR 6 rfl ?_
 subst h
 exact go_end ab (rs := [.tmp 4]) rfl rfl rfl
 refine gR 7 rfl <| qBeZ 49 50 rfl rfl rfl rfl h (fun h => ?_) fun h => ?_
 refine gR 11 rfl ?_
 subst h
 exact go_end ab (rs := [.tmp 4]) rfl rfl rfl
 refine gR 7 rfl <| qBeZ 53 54 rfl rfl rfl rfl h (fun h => ?_) fun h => ?_
 refine gR 4 rfl ?_
 obtain ⟨b, hs21, h⟩ := h
 refine gC0 hs21 (by kernel_rfl) rfl rfl .rfl rfl <| gR 1 rfl <| qBiZ 57 56 rfl rfl rfl rfl h (fun h => ?_) fun h => ?_
 refine gR 13 rfl ?_
 subst h
 exact go_end ab (rs := [.tmp 4]) rfl rfl rfl
 refine gR 3 rfl <| qBeZ 60 59 rfl rfl rfl rfl h (fun h => ?_) fun h => ?_
 refine gR 10 rfl ?_
 subst h
 exact go_end ab (rs := [.tmp 4]) rfl rfl rfl
 refine gR 10 rfl ?_
 subst h
 exact go_end ab (rs := [.tmp 4]) rfl rfl rfl
 refine gR 7 rfl ?_
 obtain ⟨e, hs22, h⟩ := h
 refine gC0 hs22 (by kernel_rfl) rfl rfl .rfl rfl <| gR 4 rfl ?_
 subst h
 exact go_end ab (rs := [.tmp 4]) rfl rfl rfl
def iD (m : Nat) (p0 : Tree) (a : Nat) (r0 : Bool) : Prop := ∀ (K : Ctx) (j1 : Nat), ao K [] → m ≤ j1 → qLG K Tryz.f66 (fun u _ => u = .bool r0) (xI (ae Tryz.f66)) [.loop (xI (ae Tryz.f66)) j1, .blk 0, .seq (xH (ae Tryz.f66))] 38 (mkF 38 0 [(1, .box (an p0) 0), (21, .row 4 (kidsV p0.kids)), (22, .int .i64 (p0.kids.length : Int)), (23, .int .i64 (a : Int))]) ⟨0, []⟩
theorem tG (m : Nat) (p0 : Tree) (r0 : Bool) (h : ∃ a, nv p0.kind (p0.kids.length : Int) a ∧ ((a < 0) → false = r0) ∧ ((¬ a < 0) → ∃ b, ml p0.kind p0.text b ∧ ((b = false) → false = r0) ∧ ((b = true) → iD m p0 0 r0))) : fS p0 r0 := by
 refine ⟨rfl, rfl, ?_⟩
 refine aj 38 [] Tryz.func66 rfl rfl rfl (ax rfl) fun K hK => ?_
 refine gR 3 rfl <| gFP 0 rfl rfl rfl rfl <| gR 11 rfl <| gV 9 (.int .i64 (p0.kids.length : Int)) rfl (aL (aG _)) rfl <| gLB 8 rfl (aG _) fun hl11 => ?_
 obtain ⟨a, hs12, h⟩ := h
 refine gC0 hs12 (by kernel_rfl) rfl rfl .rfl rfl <| gR 2 rfl <| gB 12 rfl rfl rfl ?_ ?_ <;> intro hd
 refine gT 11 rfl hd rfl ?_
 replace hd := (of_decide_eq_true hd)
 replace h := h.1 hd
 refine gR 17 rfl ?_
 subst h
 exact go_end ab (rs := [.tmp 2]) rfl rfl rfl
 refine gF 11 rfl hd rfl ?_
 replace hd := (of_decide_eq_false hd)
 replace h := h.2 hd
 refine gR 4 rfl ?_
 obtain ⟨b, hs13, h⟩ := h
 refine gC0 hs13 (by kernel_rfl) rfl rfl .rfl rfl <| gR 4 rfl <| gB 19 rfl rfl rfl ?_ ?_ <;> intro hd
 replace hd := (cb hd)
 replace h := h.1 hd
 refine gR 8 rfl ?_
 subst h
 exact go_end ab (rs := [.tmp 2]) rfl rfl rfl
 replace hd := (cc hd)
 replace h := h.2 hd
 exact gR 9 rfl <| gV 22 (.int .i64 (p0.kids.length : Int)) rfl (aL (aG _)) rfl <| gR 4 rfl <| go_loop m <| gJ (h K _ hK (by omega)) [] [] rfl hK pq4 trivial rfl
theorem oq (m : Nat) (p0 : Tree) (a : Nat) (r0 : Bool) (h : ((a < p0.kids.length) → ∃ d, p0.kids[a]? = some d ∧ ∃ b, nF p0 (a : Int) b ∧ ((b = false) → false = r0) ∧ ((b = true) → ∃ c, fS d c ∧ ((c = false) → false = r0) ∧ ((c = true) → a + 1 ≤ 9223372036854775807 ∧ iD m p0 (a + 1) r0))) ∧ ((¬ a < p0.kids.length) → true = r0)) : iD (m + 1) p0 a r0 := by
 intro K j1 hK hj1
 obtain ⟨j1, rfl⟩ : ∃ j, j1 = j + 1 := ⟨j1 - 1, by omega⟩
 refine gR 6 rfl <| gB 24 rfl rfl rfl ?_ ?_ <;> intro hd
 replace hd := (bZ hd)
 replace h := h.1 hd
 refine gR 8 rfl ?_
 obtain ⟨d, hxt1_1, h⟩ := h
 refine gY (ay (aq hxt1_1) ab rfl rfl rfl rfl) rfl rfl <| gR 10 rfl ?_
 obtain ⟨b, hs14, h⟩ := h
 refine gC0 hs14 (by kernel_rfl) rfl rfl .rfl rfl <| gR 2 rfl <| gB 32 rfl rfl rfl ?_ ?_ <;> intro hd
 refine gT 31 rfl hd rfl ?_
 replace hd := (cb hd)
 replace h := h.1 hd
 refine gR 15 rfl <| go_xloopR <| gR 2 rfl ?_
 subst h
 exact go_end ab (rs := [.tmp 2]) rfl rfl rfl
 refine gF 31 rfl hd rfl ?_
 replace hd := (cc hd)
 replace h := h.2 hd
 refine gR 1 rfl ?_
 obtain ⟨c, hs15, h⟩ := h
 refine gC0 hs15 (by kernel_rfl) rfl rfl .rfl rfl <| gR 4 rfl <| gB 36 rfl rfl rfl ?_ ?_ <;> intro hd
 replace hd := (cb hd)
 replace h := h.1 hd
 refine gR 9 rfl <| go_xloopR <| gR 2 rfl ?_
 subst h
 exact go_end ab (rs := [.tmp 2]) rfl rfl rfl
 replace hd := (cc hd)
 replace h := h.2 hd
 refine gR 5 rfl ?_
 obtain ⟨hb, h⟩ := h
 exact gR 1 rfl <| gV 37 (.int .i64 ((a + 1 : Nat) : Int)) rfl (au (by omega) (by omega)) rfl <| gR 2 rfl <| go_xloop <| gJ (h K _ hK (by omega)) [] [] rfl hK pq4 trivial rfl
 replace hd := (bV hd)
 replace h := h.2 hd
 refine gR 3 rfl <| go_xloopE <| gR 8 rfl ?_
 subst h
 exact go_end ab (rs := [.tmp 2]) rfl rfl rfl
def eS (m : Nat) (p0 p1 : Int) (a : Bool) (r0 : Int) : Prop := ∀ (K : Ctx), ao K [] → qLG K Tryz.f108 (fun u _ => u = .int .i64 r0) (cB (xC (xB (xE (cB (ae Tryz.f108)))))) [.blk 0, .seq (xA (ae Tryz.f108))] 71 (mkF 71 0 [(1, .int .i64 p1), (5, .int .i64 p0), (22, .bool a)]) ⟨0, []⟩
def bd (m : Nat) (p0 p1 : Int) (a : Bool) (r0 : Int) : Prop := ∀ (K : Ctx), ao K [] → qLG K Tryz.f108 (fun u _ => u = .int .i64 r0) (cB (xG (xE (cB (ae Tryz.f108))))) [.blk 0, .seq (xA (ae Tryz.f108))] 71 (mkF 71 0 [(1, .int .i64 p1), (5, .int .i64 p0), (28, .bool a)]) ⟨0, []⟩
theorem ry (m : Nat) (p0 p1 r0 : Int) (h : ((p0 = 1) → ((0 ≤ p1) → 3 = r0) ∧ ((¬ 0 ≤ p1) → (-1) = r0)) ∧ ((p0 ≠ 1) → ((p0 = 2) → ((2 ≤ p1) → InI (p1 - 3) ∧ InI (6 + (max 0 (p1 - 3))) ∧ (6 + (max 0 (p1 - 3))) = r0) ∧ ((¬ 2 ≤ p1) → (-1) = r0)) ∧ ((p0 ≠ 2) → ((p0 = 3) → ∃ a, bG p1 1 3 a ∧ a = r0) ∧ ((p0 ≠ 3) → ((p0 = 4) → eS m p0 p1 true r0) ∧ ((p0 ≠ 4) → ((p0 = 8) → eS m p0 p1 true r0) ∧ ((p0 ≠ 8) → eS m p0 p1 (p0 == 22) r0)))))) : dN p0 p1 r0 := by
 refine ⟨rfl, rfl, ?_⟩
 refine aj 71 [] Tryz.func108 rfl rfl rfl (ax rfl) fun K hK => ?_
 refine gR 18 rfl <| qBeZ 6 7 rfl rfl rfl rfl h (fun h => ?_) fun h => ?_
 refine gR 7 rfl <| qBd 9 rfl rfl rfl h (fun h => ?_) fun h => ?_
 refine gR 9 rfl ?_
 subst h
 exact go_end ab (rs := [.tmp 4]) rfl rfl rfl
 refine gR 10 rfl ?_
 subst h
 exact go_end ab (rs := [.tmp 4]) rfl rfl rfl
 refine gR 7 rfl <| qBeZ 10 11 rfl rfl rfl rfl h (fun h => ?_) fun h => ?_
 refine gR 7 rfl <| qBd 13 rfl rfl rfl h (fun h => ?_) fun h => ?_
 refine gR 4 rfl ?_
 obtain ⟨hb, h⟩ := h
 refine gR 1 rfl <| gV 15 (.int .i64 (p1 - 3)) rfl (au hb rfl) rfl <| gR 1 rfl ?_
 obtain ⟨hb, h⟩ := h
 refine gR 1 rfl <| gV 17 (.int .i64 (6 + (max 0 (p1 - 3)))) rfl (au hb rfl) rfl <| gR 6 rfl ?_
 subst h
 exact go_end ab (rs := [.tmp 4]) rfl rfl rfl
 refine gR 10 rfl ?_
 subst h
 exact go_end ab (rs := [.tmp 4]) rfl rfl rfl
 refine gR 7 rfl <| qBeZ 18 19 rfl rfl rfl rfl h (fun h => ?_) fun h => ?_
 refine gR 4 rfl ?_
 obtain ⟨a, hs20, h⟩ := h
 refine gC0 hs20 (by kernel_rfl) rfl rfl .rfl rfl <| gR 6 rfl ?_
 subst h
 exact go_end ab (rs := [.tmp 4]) rfl rfl rfl
 refine gR 8 rfl <| qBeZ 22 23 rfl rfl rfl rfl h (fun h => ?_) fun h => ?_
 exact gR 3 rfl <| gJ (h K hK) [] [] rfl hK pq3 trivial rfl
 refine gR 7 rfl <| qBeZ 22 24 rfl rfl rfl rfl h (fun h => ?_) fun h => ?_
 exact gR 3 rfl <| gJ (h K hK) [] [] rfl hK pq3 trivial rfl
 exact gR 6 rfl <| gJ (h K hK) [] [] rfl hK pq3 trivial rfl
theorem qu (m : Nat) (p0 p1 : Int) (a : Bool) (r0 : Int) (h : ((a = true) → ∃ b, bG p1 1 2 b ∧ b = r0) ∧ ((a = false) → ((p0 = 5) → bd m p0 p1 true r0) ∧ ((p0 ≠ 5) → ((p0 = 6) → bd m p0 p1 true r0) ∧ ((p0 ≠ 6) → ((p0 = 7) → bd m p0 p1 true r0) ∧ ((p0 ≠ 7) → ((p0 = 9) → bd m p0 p1 true r0) ∧ ((p0 ≠ 9) → ((p0 = 10) → bd m p0 p1 true r0) ∧ ((p0 ≠ 10) → ((p0 = 11) → bd m p0 p1 true r0) ∧ ((p0 ≠ 11) → ((p0 = 12) → bd m p0 p1 true r0) ∧ ((p0 ≠ 12) → ((p0 = 13) → bd m p0 p1 true r0) ∧ ((p0 ≠ 13) → ((p0 = 14) → bd m p0 p1 true r0) ∧ ((p0 ≠ 14) → bd m p0 p1 (p0 == 15) r0))))))))))) : eS (m + 1) p0 p1 a r0 := by
 intro K hK
 refine qBi 22 rfl rfl rfl h (fun h => ?_) fun h => ?_
 refine gR 4 rfl ?_
 obtain ⟨b, hs21, h⟩ := h
 refine gC0 hs21 (by kernel_rfl) rfl rfl .rfl rfl <| gR 6 rfl ?_
 subst h
 exact go_end ab (rs := [.tmp 4]) rfl rfl rfl
 refine gR 8 rfl <| qBeZ 28 29 rfl rfl rfl rfl h (fun h => ?_) fun h => ?_
 exact gR 3 rfl <| gJ (h K hK) [] [] rfl hK pq3 trivial rfl
 refine gR 7 rfl <| qBeZ 28 30 rfl rfl rfl rfl h (fun h => ?_) fun h => ?_
 exact gR 3 rfl <| gJ (h K hK) [] [] rfl hK pq3 trivial rfl
 refine gR 7 rfl <| qBeZ 28 31 rfl rfl rfl rfl h (fun h => ?_) fun h => ?_
 exact gR 3 rfl <| gJ (h K hK) [] [] rfl hK pq3 trivial rfl
 refine gR 7 rfl <| qBeZ 28 32 rfl rfl rfl rfl h (fun h => ?_) fun h => ?_
 exact gR 3 rfl <| gJ (h K hK) [] [] rfl hK pq3 trivial rfl
 refine gR 7 rfl <| qBeZ 28 33 rfl rfl rfl rfl h (fun h => ?_) fun h => ?_
 exact gR 3 rfl <| gJ (h K hK) [] [] rfl hK pq3 trivial rfl
 refine gR 7 rfl <| qBeZ 28 34 rfl rfl rfl rfl h (fun h => ?_) fun h => ?_
 exact gR 3 rfl <| gJ (h K hK) [] [] rfl hK pq3 trivial rfl
 refine gR 7 rfl <| qBeZ 28 35 rfl rfl rfl rfl h (fun h => ?_) fun h => ?_
 exact gR 3 rfl <| gJ (h K hK) [] [] rfl hK pq3 trivial rfl
 refine gR 7 rfl <| qBeZ 28 36 rfl rfl rfl rfl h (fun h => ?_) fun h => ?_
 exact gR 3 rfl <| gJ (h K hK) [] [] rfl hK pq3 trivial rfl
 refine gR 7 rfl <| qBeZ 28 37 rfl rfl rfl rfl h (fun h => ?_) fun h => ?_
 exact gR 3 rfl <| gJ (h K hK) [] [] rfl hK pq3 trivial rfl
 exact gR 6 rfl <| gJ (h K hK) [] [] rfl hK pq3 trivial rfl
theorem qi (m : Nat) (p0 p1 : Int) (a : Bool) (r0 : Int) (h : ((a = true) → ∃ b, bG p1 0 1 b ∧ b = r0) ∧ ((a = false) → ((p0 = 16) → ((0 ≤ p1) → InI (p1 - 1) ∧ InI (3 + (max 0 (p1 - 1))) ∧ (3 + (max 0 (p1 - 1))) = r0) ∧ ((¬ 0 ≤ p1) → (-1) = r0)) ∧ ((p0 ≠ 16) → ((p0 = 17) → ∃ c, bG p1 1 0 c ∧ c = r0) ∧ ((p0 ≠ 17) → ((p0 = 18) → ((1 ≤ p1) → InI (1 + p1) ∧ (1 + p1) = r0) ∧ ((¬ 1 ≤ p1) → (-1) = r0)) ∧ ((p0 ≠ 18) → ((p0 = 19) → ∃ d, bG p1 3 3 d ∧ d = r0) ∧ ((p0 ≠ 19) → ((p0 = 20) → ∃ e, bG p1 2 4 e ∧ e = r0) ∧ ((p0 ≠ 20) → ((p0 = 21) → ∃ f, bG p1 2 1 f ∧ f = r0) ∧ ((p0 ≠ 21) → (-1) = r0)))))))) : bd (m + 1) p0 p1 a r0 := by
 intro K hK
 refine qBi 28 rfl rfl rfl h (fun h => ?_) fun h => ?_
 refine gR 4 rfl ?_
 obtain ⟨b, hs22, h⟩ := h
 refine gC0 hs22 (by kernel_rfl) rfl rfl .rfl rfl <| gR 6 rfl ?_
 subst h
 exact go_end ab (rs := [.tmp 4]) rfl rfl rfl
 refine gR 7 rfl <| qBeZ 41 42 rfl rfl rfl rfl h (fun h => ?_) fun h => ?_
 refine gR 7 rfl <| qBd 44 rfl rfl rfl h (fun h => ?_) fun h => ?_
 refine gR 4 rfl ?_
 obtain ⟨hb, h⟩ := h
 refine gR 1 rfl <| gV 46 (.int .i64 (p1 - 1)) rfl (au hb rfl) rfl <| gR 1 rfl ?_
 obtain ⟨hb, h⟩ := h
 refine gR 1 rfl <| gV 48 (.int .i64 (3 + (max 0 (p1 - 1)))) rfl (au hb rfl) rfl <| gR 6 rfl ?_
 subst h
 exact go_end ab (rs := [.tmp 4]) rfl rfl rfl
 refine gR 10 rfl ?_
 subst h
 exact go_end ab (rs := [.tmp 4]) rfl rfl rfl
 refine gR 7 rfl <| qBeZ 49 50 rfl rfl rfl rfl h (fun h => ?_) fun h => ?_
 refine gR 4 rfl ?_
 obtain ⟨c, hs23, h⟩ := h
 refine gC0 hs23 (by kernel_rfl) rfl rfl .rfl rfl <| gR 6 rfl ?_
 subst h
 exact go_end ab (rs := [.tmp 4]) rfl rfl rfl
 refine gR 7 rfl <| qBeZ 53 54 rfl rfl rfl rfl h (fun h => ?_) fun h => ?_
 refine gR 7 rfl <| qBd 56 rfl rfl rfl h (fun h => ?_) fun h => ?_
 refine gR 4 rfl ?_
 obtain ⟨hb, h⟩ := h
 refine gR 1 rfl <| gV 58 (.int .i64 (1 + p1)) rfl (au hb rfl) rfl <| gR 6 rfl ?_
 subst h
 exact go_end ab (rs := [.tmp 4]) rfl rfl rfl
 refine gR 10 rfl ?_
 subst h
 exact go_end ab (rs := [.tmp 4]) rfl rfl rfl
 refine gR 7 rfl <| qBeZ 59 60 rfl rfl rfl rfl h (fun h => ?_) fun h => ?_
 refine gR 4 rfl ?_
 obtain ⟨d, hs24, h⟩ := h
 refine gC0 hs24 (by kernel_rfl) rfl rfl .rfl rfl <| gR 6 rfl ?_
 subst h
 exact go_end ab (rs := [.tmp 4]) rfl rfl rfl
 refine gR 7 rfl <| qBeZ 63 64 rfl rfl rfl rfl h (fun h => ?_) fun h => ?_
 refine gR 4 rfl ?_
 obtain ⟨e, hs25, h⟩ := h
 refine gC0 hs25 (by kernel_rfl) rfl rfl .rfl rfl <| gR 6 rfl ?_
 subst h
 exact go_end ab (rs := [.tmp 4]) rfl rfl rfl
 refine gR 7 rfl <| qBeZ 67 68 rfl rfl rfl rfl h (fun h => ?_) fun h => ?_
 refine gR 4 rfl ?_
 obtain ⟨f, hs26, h⟩ := h
 refine gC0 hs26 (by kernel_rfl) rfl rfl .rfl rfl <| gR 6 rfl ?_
 subst h
 exact go_end ab (rs := [.tmp 4]) rfl rfl rfl
 refine gR 10 rfl ?_
 subst h
 exact go_end ab (rs := [.tmp 4]) rfl rfl rfl
theorem sa (m : Nat) (p0 p1 p2 r0 : Int) (h : ((p0 = p1) → p2 = r0) ∧ ((p0 ≠ p1) → (-1) = r0)) : bG p0 p1 p2 r0 := by
 refine ⟨rfl, rfl, ?_⟩
 refine aj 11 [] Tryz.func153 rfl rfl rfl (ax rfl) fun K hK => ?_
 refine gR 13 rfl <| qBe 9 rfl rfl rfl h (fun h => ?_) fun h => ?_
 refine gR 9 rfl ?_
 subst h
 exact go_end ab (rs := [.tmp 6]) rfl rfl rfl
 refine gR 9 rfl ?_
 subst h
 exact go_end ab (rs := [.tmp 6]) rfl rfl rfl
theorem qw (m : Nat) (p0 : Int) (r0 : Bool) (h : ((5 ≤ p0) → decide (p0 ≤ 9) = r0) ∧ ((¬ 5 ≤ p0) → false = r0)) : eI p0 r0 := by
 refine ⟨rfl, rfl, ?_⟩
 refine aj 9 [] Tryz.func156 rfl rfl rfl (ax rfl) fun K hK => ?_
 refine gR 10 rfl <| qBdZ 5 4 rfl rfl rfl rfl h (fun h => ?_) fun h => ?_
 refine gR 7 rfl ?_
 subst h
 exact go_end ab (rs := [.tmp 2]) rfl rfl rfl
 refine gR 7 rfl ?_
 subst h
 exact go_end ab (rs := [.tmp 2]) rfl rfl rfl
theorem qN (m : Nat) (p0 : Int) (r0 : Bool) (h : ((10 ≤ p0) → ((p0 ≤ 22) → (p0 != 17) = r0) ∧ ((¬ p0 ≤ 22) → false = r0)) ∧ ((¬ 10 ≤ p0) → false = r0)) : du p0 r0 := by
 refine ⟨rfl, rfl, ?_⟩
 refine aj 13 [] Tryz.func155 rfl rfl rfl (ax rfl) fun K hK => ?_
 refine gR 10 rfl <| qBdZ 5 4 rfl rfl rfl rfl h (fun h => ?_) fun h => ?_
 refine gR 4 rfl <| qBdZ 9 8 rfl rfl rfl rfl h (fun h => ?_) fun h => ?_
 refine gR 7 rfl ?_
 subst h
 exact go_end ab (rs := [.tmp 2]) rfl rfl rfl
 refine gR 7 rfl ?_
 subst h
 exact go_end ab (rs := [.tmp 2]) rfl rfl rfl
 refine gR 11 rfl ?_
 subst h
 exact go_end ab (rs := [.tmp 2]) rfl rfl rfl
theorem qm (m : Nat) (p0 : Int) (r0 : Bool) (h : ∃ a, du p0 a ∧ ((a = true) → ((p0 ≠ 19) → ((p0 ≠ 20) → (p0 != 21) = r0) ∧ ((p0 = 20) → false = r0)) ∧ ((p0 = 19) → false = r0)) ∧ ((a = false) → false = r0)) : eP p0 r0 := by
 refine ⟨rfl, rfl, ?_⟩
 refine aj 17 [] Tryz.func157 rfl rfl rfl (ax rfl) fun K hK => ?_
 refine gR 8 rfl ?_
 obtain ⟨a, hs2, h⟩ := h
 refine gC0 hs2 (by kernel_rfl) rfl rfl .rfl rfl <| gR 1 rfl <| qBiZ 5 4 rfl rfl rfl rfl h (fun h => ?_) fun h => ?_
 refine gR 4 rfl <| qBhZ 9 8 rfl rfl rfl rfl h bN bn (fun h => ?_) fun h => ?_
 refine gR 4 rfl <| qBhZ 13 12 rfl rfl rfl rfl h bN bn (fun h => ?_) fun h => ?_
 refine gR 7 rfl ?_
 subst h
 exact go_end ab (rs := [.tmp 2]) rfl rfl rfl
 refine gR 7 rfl ?_
 subst h
 exact go_end ab (rs := [.tmp 2]) rfl rfl rfl
 refine gR 11 rfl ?_
 subst h
 exact go_end ab (rs := [.tmp 2]) rfl rfl rfl
 refine gR 15 rfl ?_
 subst h
 exact go_end ab (rs := [.tmp 2]) rfl rfl rfl
theorem oz (m : Nat) (p0 : List UInt8) (r0 : Bool) (h : ((p0 = [43]) → true = r0) ∧ ((p0 ≠ [43]) → ((p0 = [45]) → true = r0) ∧ ((p0 ≠ [45]) → ((p0 = [42]) → true = r0) ∧ ((p0 ≠ [42]) → ((p0 = [60]) → true = r0) ∧ ((p0 ≠ [60]) → ((p0 = [61, 61]) → true = r0) ∧ ((p0 ≠ [61, 61]) → false = r0)))))) : ff p0 r0 := by
 refine ⟨rfl, rfl, ?_⟩
 refine aj 10 [] Tryz.func154 rfl rfl rfl (ax rfl) fun K hK => ?_
 refine gR 19 rfl <| qBeZ 4 5 rfl rfl rfl rfl h (fun h => ?_) fun h => ?_
 refine gR 12 rfl ?_
 subst h
 exact go_end ab (rs := [.tmp 2]) rfl rfl rfl
 refine gR 7 rfl <| qBeZ 4 6 rfl rfl rfl rfl h (fun h => ?_) fun h => ?_
 refine gR 12 rfl ?_
 subst h
 exact go_end ab (rs := [.tmp 2]) rfl rfl rfl
 refine gR 7 rfl <| qBeZ 4 7 rfl rfl rfl rfl h (fun h => ?_) fun h => ?_
 refine gR 12 rfl ?_
 subst h
 exact go_end ab (rs := [.tmp 2]) rfl rfl rfl
 refine gR 7 rfl <| qBeZ 4 8 rfl rfl rfl rfl h (fun h => ?_) fun h => ?_
 refine gR 12 rfl ?_
 subst h
 exact go_end ab (rs := [.tmp 2]) rfl rfl rfl
 refine gR 6 rfl <| qBeZ 4 9 rfl rfl rfl rfl h (fun h => ?_) fun h => ?_
 refine gR 9 rfl ?_
 subst h
 exact go_end ab (rs := [.tmp 2]) rfl rfl rfl
 refine gR 10 rfl ?_
 subst h
 exact go_end ab (rs := [.tmp 2]) rfl rfl rfl
def fB (m : Nat) (p0 : Int) (p1 : List UInt8) (a : Int) (b r0 : Bool) : Prop := ∀ (K : Ctx), ao K [] → qLG K Tryz.f109 (fun u _ => u = .bool r0) (cB (xF (ae Tryz.f109))) [.blk 0, .seq (xH (ae Tryz.f109))] 51 (mkF 51 0 [(1, .str p1), (5, .int .i64 a), (8, .int .i64 p0), (9, .bool b)]) ⟨0, []⟩
def cC (m : Nat) (p0 : Int) (p1 : List UInt8) (a : Int) (b r0 : Bool) : Prop := ∀ (K : Ctx), ao K [] → qLG K Tryz.f109 (fun u _ => u = .bool r0) (cB (xL (ae Tryz.f109))) [.blk 0, .seq (xH (ae Tryz.f109))] 51 (mkF 51 0 [(1, .str p1), (5, .int .i64 a), (8, .int .i64 p0), (14, .bool b)]) ⟨0, []⟩
theorem pd (m : Nat) (p0 : Int) (p1 : List UInt8) (r0 : Bool) (h : ∃ a, rX p1 a ∧ ((p0 = 1) → fB m p0 p1 a true r0) ∧ ((p0 ≠ 1) → fB m p0 p1 a (p0 == 3) r0)) : ga p0 p1 r0 := by
 refine ⟨rfl, rfl, ?_⟩
 refine aj 51 [] Tryz.func109 rfl rfl rfl (ax rfl) fun K hK => ?_
 refine gR 8 rfl ?_
 obtain ⟨a, hs7, h⟩ := h
 refine gC0 hs7 (by kernel_rfl) rfl rfl .rfl rfl <| gR 17 rfl <| qBeZ 9 10 rfl rfl rfl rfl h (fun h => ?_) fun h => ?_
 exact gR 3 rfl <| gJ (h K hK) [] [] rfl hK pq4 trivial rfl
 exact gR 6 rfl <| gJ (h K hK) [] [] rfl hK pq4 trivial rfl
theorem oQ (m : Nat) (p0 : Int) (p1 : List UInt8) (a : Int) (b r0 : Bool) (h : ((b = true) → (a == 2) = r0) ∧ ((b = false) → ((p0 = 2) → cC m p0 p1 a true r0) ∧ ((p0 ≠ 2) → ((p0 = 4) → cC m p0 p1 a true r0) ∧ ((p0 ≠ 4) → ((p0 = 12) → cC m p0 p1 a true r0) ∧ ((p0 ≠ 12) → cC m p0 p1 a (p0 == 20) r0))))) : fB (m + 1) p0 p1 a b r0 := by
 intro K hK
 refine qBi 9 rfl rfl rfl h (fun h => ?_) fun h => ?_
 refine gR 11 rfl ?_
 subst h
 exact go_end ab (rs := [.tmp 4]) rfl rfl rfl
 refine gR 8 rfl <| qBeZ 14 15 rfl rfl rfl rfl h (fun h => ?_) fun h => ?_
 exact gR 3 rfl <| gJ (h K hK) [] [] rfl hK pq4 trivial rfl
 refine gR 7 rfl <| qBeZ 14 16 rfl rfl rfl rfl h (fun h => ?_) fun h => ?_
 exact gR 3 rfl <| gJ (h K hK) [] [] rfl hK pq4 trivial rfl
 refine gR 7 rfl <| qBeZ 14 17 rfl rfl rfl rfl h (fun h => ?_) fun h => ?_
 exact gR 3 rfl <| gJ (h K hK) [] [] rfl hK pq4 trivial rfl
 exact gR 6 rfl <| gJ (h K hK) [] [] rfl hK pq4 trivial rfl
theorem oD (m : Nat) (p0 : Int) (p1 : List UInt8) (a : Int) (b r0 : Bool) (h : ((b = true) → (a == 1) = r0) ∧ ((b = false) → ((p0 = 9) → ((a = 2) → true = r0) ∧ ((a ≠ 2) → (a == 4) = r0)) ∧ ((p0 ≠ 9) → ((p0 = 16) → ((a = 1) → true = r0) ∧ ((a ≠ 1) → (a == 3) = r0)) ∧ ((p0 ≠ 16) → ((p0 = 10) → (a == 5) = r0) ∧ ((p0 ≠ 10) → ((p0 = 11) → (a == 6) = r0) ∧ ((p0 ≠ 11) → ((p0 = 21) → ∃ c, ff p1 c ∧ c = r0) ∧ ((p0 ≠ 21) → (p1 == []) = r0))))))) : cC (m + 1) p0 p1 a b r0 := by
 intro K hK
 refine qBi 14 rfl rfl rfl h (fun h => ?_) fun h => ?_
 refine gR 11 rfl ?_
 subst h
 exact go_end ab (rs := [.tmp 4]) rfl rfl rfl
 refine gR 7 rfl <| qBeZ 21 22 rfl rfl rfl rfl h (fun h => ?_) fun h => ?_
 refine gR 6 rfl <| qBeZ 25 24 rfl rfl rfl rfl h (fun h => ?_) fun h => ?_
 refine gR 9 rfl ?_
 subst h
 exact go_end ab (rs := [.tmp 4]) rfl rfl rfl
 refine gR 9 rfl ?_
 subst h
 exact go_end ab (rs := [.tmp 4]) rfl rfl rfl
 refine gR 7 rfl <| qBeZ 29 30 rfl rfl rfl rfl h (fun h => ?_) fun h => ?_
 refine gR 6 rfl <| qBeZ 33 32 rfl rfl rfl rfl h (fun h => ?_) fun h => ?_
 refine gR 9 rfl ?_
 subst h
 exact go_end ab (rs := [.tmp 4]) rfl rfl rfl
 refine gR 9 rfl ?_
 subst h
 exact go_end ab (rs := [.tmp 4]) rfl rfl rfl
 refine gR 7 rfl <| qBeZ 37 38 rfl rfl rfl rfl h (fun h => ?_) fun h => ?_
 refine gR 11 rfl ?_
 subst h
 exact go_end ab (rs := [.tmp 4]) rfl rfl rfl
 refine gR 7 rfl <| qBeZ 41 42 rfl rfl rfl rfl h (fun h => ?_) fun h => ?_
 refine gR 11 rfl ?_
 subst h
 exact go_end ab (rs := [.tmp 4]) rfl rfl rfl
 refine gR 7 rfl <| qBeZ 45 46 rfl rfl rfl rfl h (fun h => ?_) fun h => ?_
 refine gR 4 rfl ?_
 obtain ⟨c, hs8, h⟩ := h
 refine gC0 hs8 (by kernel_rfl) rfl rfl .rfl rfl <| gR 6 rfl ?_
 subst h
 exact go_end ab (rs := [.tmp 4]) rfl rfl rfl
 refine gR 12 rfl ?_
 subst h
 exact go_end ab (rs := [.tmp 4]) rfl rfl rfl
def fN (m : Nat) (p0 : Tree) (p1 p2 : Int) (a r0 : Bool) : Prop := ∀ (K : Ctx), ao K [] → qLG K Tryz.f110 (fun u _ => u = .bool r0) (cB (xC (xF (ae Tryz.f110)))) [.blk 0, .seq (xH (ae Tryz.f110))] 62 (mkF 62 0 [(1, .int .i64 p1), (2, .int .i64 p2), (12, .int .i64 p0.kind), (38, .bool a)]) ⟨0, []⟩
theorem sB (m : Nat) (p0 : Tree) (p1 p2 : Int) (r0 : Bool) (h : ((p0.kind = 1) → ((p2 = 2) → true = r0) ∧ ((p2 ≠ 2) → (p2 == 3) = r0)) ∧ ((p0.kind ≠ 1) → ((p0.kind = 2) → ((p1 = ((p0.kids.length : Int) - 1)) → ∃ a, du p2 a ∧ a = r0) ∧ ((p1 ≠ ((p0.kids.length : Int) - 1)) → ((p1 = ((p0.kids.length : Int) - 2)) → ∃ b, eI p2 b ∧ b = r0) ∧ ((p1 ≠ ((p0.kids.length : Int) - 2)) → (p2 == 4) = r0))) ∧ ((p0.kind ≠ 2) → ((p0.kind = 3) → fN m p0 p1 p2 true r0) ∧ ((p0.kind ≠ 3) → ((p0.kind = 4) → fN m p0 p1 p2 true r0) ∧ ((p0.kind ≠ 4) → fN m p0 p1 p2 (p0.kind == 8) r0))))) : jZ p0 p1 p2 r0 := by
 refine ⟨rfl, rfl, ?_⟩
 refine aj 62 [] Tryz.func110 rfl rfl rfl (ax rfl) fun K hK => ?_
 refine gR 3 rfl <| gFP 0 rfl rfl rfl rfl <| gR 8 rfl <| gV 10 (.int .i64 (p0.kids.length : Int)) rfl (aL (aG _)) rfl <| gLB 9 rfl (aG _) fun hl17 => gR 17 rfl <| gB 13 rfl rfl rfl ?_ ?_ <;> intro hd
 refine gT 14 rfl hd rfl ?_
 replace hd := (eq_of_beq hd)
 replace h := h.1 hd
 refine gR 6 rfl <| gB 17 rfl rfl rfl ?_ ?_ <;> intro hd
 refine gT 16 rfl hd rfl ?_
 replace hd := (eq_of_beq hd)
 replace h := h.1 hd
 refine gR 9 rfl ?_
 subst h
 exact go_end ab (rs := [.tmp 6]) rfl rfl rfl
 refine gF 16 rfl hd rfl ?_
 replace hd := (ne_of_beq_false hd)
 replace h := h.2 hd
 refine gR 9 rfl ?_
 subst h
 exact go_end ab (rs := [.tmp 6]) rfl rfl rfl
 refine gF 14 rfl hd rfl ?_
 replace hd := (ne_of_beq_false hd)
 replace h := h.2 hd
 refine gR 7 rfl <| gB 21 rfl rfl rfl ?_ ?_ <;> intro hd
 refine gT 22 rfl hd rfl ?_
 replace hd := (eq_of_beq hd)
 replace h := h.1 hd
 refine gR 12 rfl <| gV 26 (.int .i64 ((p0.kids.length : Int) - 1)) rfl (au (by have := hl17; omega) rfl) rfl <| gR 4 rfl <| gB 24 rfl rfl rfl ?_ ?_ <;> intro hd
 refine gT 27 rfl hd rfl ?_
 replace hd := (eq_of_beq hd)
 replace h := h.1 hd
 refine gR 4 rfl ?_
 obtain ⟨a, hs18, h⟩ := h
 refine gC0 hs18 (by kernel_rfl) rfl rfl .rfl rfl <| gR 8 rfl ?_
 subst h
 exact go_end ab (rs := [.tmp 6]) rfl rfl rfl
 refine gF 27 rfl hd rfl ?_
 replace hd := (ne_of_beq_false hd)
 replace h := h.2 hd
 refine gR 5 rfl <| gV 32 (.int .i64 ((p0.kids.length : Int) - 2)) rfl (au (by have := hl17; omega) rfl) rfl <| gR 4 rfl <| gB 30 rfl rfl rfl ?_ ?_ <;> intro hd
 refine gT 33 rfl hd rfl ?_
 replace hd := (eq_of_beq hd)
 replace h := h.1 hd
 refine gR 4 rfl ?_
 obtain ⟨b, hs19, h⟩ := h
 refine gC0 hs19 (by kernel_rfl) rfl rfl .rfl rfl <| gR 8 rfl ?_
 subst h
 exact go_end ab (rs := [.tmp 6]) rfl rfl rfl
 refine gF 33 rfl hd rfl ?_
 replace hd := (ne_of_beq_false hd)
 replace h := h.2 hd
 refine gR 14 rfl ?_
 subst h
 exact go_end ab (rs := [.tmp 6]) rfl rfl rfl
 refine gF 22 rfl hd rfl ?_
 replace hd := (ne_of_beq_false hd)
 replace h := h.2 hd
 refine gR 8 rfl <| gB 38 rfl rfl rfl ?_ ?_ <;> intro hd
 refine gT 39 rfl hd rfl ?_
 replace hd := (eq_of_beq hd)
 replace h := h.1 hd
 exact gR 3 rfl <| gJ (h K hK) [] [] rfl hK pq4 trivial rfl
 refine gF 39 rfl hd rfl ?_
 replace hd := (ne_of_beq_false hd)
 replace h := h.2 hd
 refine gR 7 rfl <| gB 38 rfl rfl rfl ?_ ?_ <;> intro hd
 refine gT 40 rfl hd rfl ?_
 replace hd := (eq_of_beq hd)
 replace h := h.1 hd
 exact gR 3 rfl <| gJ (h K hK) [] [] rfl hK pq4 trivial rfl
 refine gF 40 rfl hd rfl ?_
 replace hd := (ne_of_beq_false hd)
 replace h := h.2 hd
 exact gR 6 rfl <| gJ (h K hK) [] [] rfl hK pq4 trivial rfl
theorem rN (m : Nat) (p0 : Tree) (p1 p2 : Int) (b r0 : Bool) (h : ((b = true) → ∃ c, eI p2 c ∧ c = r0) ∧ ((b = false) → ((p0.kind = 16) → (p2 == 17) = r0) ∧ ((p0.kind ≠ 16) → ((p0.kind = 21) → ∃ a, eP p2 a ∧ ((a = true) → true = r0) ∧ ((a = false) → ((p1 = 0) → (p2 == 21) = r0) ∧ ((p1 ≠ 0) → false = r0))) ∧ ((p0.kind ≠ 21) → ∃ d, du p2 d ∧ d = r0)))) : fN (m + 1) p0 p1 p2 b r0 := by
 intro K hK
 refine qBi 38 rfl rfl rfl h (fun h => ?_) fun h => ?_
 refine gR 4 rfl ?_
 obtain ⟨c, hs20, h⟩ := h
 refine gC0 hs20 (by kernel_rfl) rfl rfl .rfl rfl <| gR 6 rfl ?_
 subst h
 exact go_end ab (rs := [.tmp 6]) rfl rfl rfl
 refine gR 7 rfl <| qBeZ 44 45 rfl rfl rfl rfl h (fun h => ?_) fun h => ?_
 refine gR 11 rfl ?_
 subst h
 exact go_end ab (rs := [.tmp 6]) rfl rfl rfl
 refine gR 7 rfl <| qBeZ 48 49 rfl rfl rfl rfl h (fun h => ?_) fun h => ?_
 refine gR 4 rfl ?_
 obtain ⟨a, hs21, h⟩ := h
 refine gC0 hs21 (by kernel_rfl) rfl rfl .rfl rfl <| gR 1 rfl <| qBiZ 52 51 rfl rfl rfl rfl h (fun h => ?_) fun h => ?_
 refine gR 13 rfl ?_
 subst h
 exact go_end ab (rs := [.tmp 6]) rfl rfl rfl
 refine gR 3 rfl <| qBeZ 55 54 rfl rfl rfl rfl h (fun h => ?_) fun h => ?_
 refine gR 10 rfl ?_
 subst h
 exact go_end ab (rs := [.tmp 6]) rfl rfl rfl
 refine gR 10 rfl ?_
 subst h
 exact go_end ab (rs := [.tmp 6]) rfl rfl rfl
 refine gR 7 rfl ?_
 obtain ⟨d, hs22, h⟩ := h
 refine gC0 hs22 (by kernel_rfl) rfl rfl .rfl rfl <| gR 4 rfl ?_
 subst h
 exact go_end ab (rs := [.tmp 6]) rfl rfl rfl
def ej (m : Nat) (p0 : Tree) (a : Nat) (r0 : Bool) : Prop := ∀ (K : Ctx) (j1 : Nat), ao K [] → m ≤ j1 → qLG K Tryz.f70 (fun u _ => u = .bool r0) (xI (ae Tryz.f70)) [.loop (xI (ae Tryz.f70)) j1, .blk 0, .seq (xH (ae Tryz.f70))] 45 (mkF 45 0 [(1, .box (an p0) 0), (3, .int .i64 (a : Int))]) ⟨0, []⟩
theorem qq (m : Nat) (p0 : Tree) (r0 : Bool) (h : ∃ a, dN p0.kind (p0.kids.length : Int) a ∧ ((a < 0) → false = r0) ∧ ((¬ a < 0) → ∃ b, ga p0.kind p0.text b ∧ ((b = false) → false = r0) ∧ ((b = true) → ej m p0 0 r0))) : cu p0 r0 := by
 refine ⟨rfl, rfl, ?_⟩
 refine aj 45 [] Tryz.func70 rfl rfl rfl (ax rfl) fun K hK => ?_
 refine gR 3 rfl <| gFP 0 rfl rfl rfl rfl <| gR 11 rfl <| gV 8 (.int .i64 (p0.kids.length : Int)) rfl (aL (aG _)) rfl <| gLB 7 rfl (aG _) fun hl13 => ?_
 obtain ⟨a, hs14, h⟩ := h
 refine gC0 hs14 (by kernel_rfl) rfl rfl .rfl rfl <| gR 2 rfl <| gB 11 rfl rfl rfl ?_ ?_ <;> intro hd
 refine gT 10 rfl hd rfl ?_
 replace hd := (of_decide_eq_true hd)
 replace h := h.1 hd
 refine gR 17 rfl ?_
 subst h
 exact go_end ab (rs := [.tmp 2]) rfl rfl rfl
 refine gF 10 rfl hd rfl ?_
 replace hd := (of_decide_eq_false hd)
 replace h := h.2 hd
 refine gR 4 rfl ?_
 obtain ⟨b, hs15, h⟩ := h
 refine gC0 hs15 (by kernel_rfl) rfl rfl .rfl rfl <| gR 4 rfl <| gB 18 rfl rfl rfl ?_ ?_ <;> intro hd
 replace hd := (cb hd)
 replace h := h.1 hd
 refine gR 8 rfl ?_
 subst h
 exact go_end ab (rs := [.tmp 2]) rfl rfl rfl
 replace hd := (cc hd)
 replace h := h.2 hd
 exact gR 10 rfl <| go_loop m <| gJ (h K _ hK (by omega)) [] [] rfl hK pq2 trivial rfl
theorem kC (m : Nat) (p0 : Tree) (a : Nat) (r0 : Bool) (h : ((a < p0.kids.length) → ∃ d, p0.kids[a]? = some d ∧ ∃ b, jZ p0 (a : Int) d.kind b ∧ ((b = false) → false = r0) ∧ ((b = true) → ∃ e, p0.kids[a]? = some e ∧ ∃ c, cu e c ∧ ((c = false) → false = r0) ∧ ((c = true) → ej m p0 (a + 1) r0))) ∧ ((¬ a < p0.kids.length) → true = r0)) : ej (m + 1) p0 a r0 := by
 intro K j1 hK hj1
 obtain ⟨j1, rfl⟩ : ∃ j, j1 = j + 1 := ⟨j1 - 1, by omega⟩
 refine gR 7 rfl <| gV 22 (.int .i64 (p0.kids.length : Int)) rfl (aL (aG _)) rfl <| gLB 21 rfl (aG _) fun hl16 => gR 3 rfl <| gB 23 rfl rfl rfl ?_ ?_ <;> intro hd
 replace hd := (bZ hd)
 replace h := h.1 hd
 refine gR 6 rfl <| gDs [] 19 19 rfl (by kernel_rfl) (by kernel_rfl) <| gDr [(0, 2), (1, 2), (2, 2), (3, 2), (4, 0)] (by kernel_rfl) rfl rfl ?_
 obtain ⟨d, hxt1_1, h⟩ := h
 refine eh 5 rfl (by kernel_rfl) (ay (aq hxt1_1) ab rfl rfl rfl rfl) rfl rfl ?_
 refine gDr [(6, 0), (7, 0)] (by kernel_rfl) rfl rfl ?_
 obtain ⟨b, hs17, h⟩ := h
 refine aO 8 hs17 (by kernel_rfl) rfl (by kernel_rfl) rfl rfl .rfl rfl rfl ?_
 refine gDr [(9, 0), (10, 0)] (by kernel_rfl) rfl rfl <| gB 36 rfl rfl rfl ?_ ?_ <;> intro hd
 refine gT 35 rfl hd rfl ?_
 replace hd := (cb hd)
 replace h := h.1 hd
 refine gDr [(11, 2), (12, 2), (13, 0), (14, 0), (15, 0), (16, 0), (17, 0), (18, 0)] (by kernel_rfl) rfl rfl <| gDe (by kernel_rfl) <| gR 10 rfl <| go_xloopR <| gR 2 rfl ?_
 subst h
 exact go_end ab (rs := [.tmp 2]) rfl rfl rfl
 refine gF 35 rfl hd rfl ?_
 replace hd := (cc hd)
 replace h := h.2 hd
 refine gDr [(11, 2), (12, 2), (13, 0)] (by kernel_rfl) rfl rfl ?_
 obtain ⟨e, hxt1_3, h⟩ := h
 refine eh 14 rfl (by kernel_rfl) (ay (aq hxt1_3) ab rfl rfl rfl rfl) rfl rfl ?_
 refine gDr [(15, 0)] (by kernel_rfl) rfl rfl ?_
 obtain ⟨c, hs18, h⟩ := h
 refine aO 16 hs18 (by kernel_rfl) rfl (by kernel_rfl) rfl rfl .rfl rfl rfl ?_
 refine gDr [(17, 0), (18, 0)] (by kernel_rfl) rfl rfl <| gDe (by kernel_rfl) <| gR 1 rfl <| gB 44 rfl rfl rfl ?_ ?_ <;> intro hd
 replace hd := (cb hd)
 replace h := h.1 hd
 refine gR 9 rfl <| go_xloopR <| gR 2 rfl ?_
 subst h
 exact go_end ab (rs := [.tmp 2]) rfl rfl rfl
 replace hd := (cc hd)
 replace h := h.2 hd
 exact gR 7 rfl <| gV 25 (.int .i64 ((a + 1 : Nat) : Int)) rfl (au (by have := hl16; omega) (by omega)) rfl <| gR 2 rfl <| go_xloop <| gJ (h K _ hK (by omega)) [] [] rfl hK pq2 trivial rfl
 replace hd := (bV hd)
 replace h := h.2 hd
 refine gR 3 rfl <| go_xloopE <| gR 8 rfl ?_
 subst h
 exact go_end ab (rs := [.tmp 2]) rfl rfl rfl
end Go.Proofs.YthnohcipianijaaGreatDoor
namespace Go.Proofs.YthnohcipianijaaGreatDoor
open Go.RowKit Lx Sx
set_option maxRecDepth 100000
set_option maxHeartbeats 4000000
structure GPlace where
 Module : Int
 Path : (List Int)
abbrev GPlace.c (x : GPlace) : List V := [.int .i64 x.Module, .row 1 (List.map (V.int .i64) x.Path)]
abbrev GPlace.w (x : GPlace) : V := .agg x.c
structure GTarget where
 Use : GPlace
 Module : Int
 Def : Int
 Free : Bool
abbrev GTarget.c (x : GTarget) : List V := [.int .i64 x.Use.Module, .row 1 (List.map (V.int .i64) x.Use.Path), .int .i64 x.Module, .int .i64 x.Def, .bool x.Free]
abbrev GTarget.w (x : GTarget) : V := .agg x.c
def fc (p0 : List UInt8) (p1 r0 : Int) : Prop := qS 163 [.str p0, .int .u8 p1] (.int .i64 r0)
def ni (p0 : List Tree) (r0 : Bool) : Prop := qS 67 [.row 4 (kidsV p0)] (.bool r0)
def oc (p0 : List Tree) (p1 : Int) (p2 : List UInt8) (r0 r1 : Int) (r2 : Bool) : Prop := qS 100 [.row 4 (kidsV p0), .int .i64 p1, .str p2] (.tup [.int .i64 r0, .int .i64 r1, .bool r2])
def nB (p0 : List Tree) (r0 : List GTarget) : Prop := qS 43 [.row 4 (kidsV p0)] (.row 5 (List.map GTarget.w r0))
def lG (p0 : List Tree) (p1 : List UInt8) (r0 : Int) : Prop := qS 149 [.row 4 (kidsV p0), .str p1] (.int .i64 r0)
def nj (p0 : Tree) (p1 : List UInt8) (r0 : Bool) : Prop := qS 179 [.agg (an p0), .box [.str p1] 0] (.bool r0)
def dS (g : List Tree) (a : Int) (e : List Int) (c : List GTarget) (p1 : Tree) (i : List Tree) (b : Int) (f : List Int) (d : List GTarget) : Prop := ci [] Tryz.prog 68 [.ptr 0 0, .agg (an p1)] ⟨3, [(2, .row 117 5 (List.map GTarget.w c)), (1, .row 3 1 (List.map (V.int .i64) e)), (0, .var 114 [.row 4 (kidsV g), .int .i64 a, .sl 1, .sl 2])]⟩ (fun u G => u = .tup [] ∧ G = ⟨3, [(2, .row 117 5 (List.map GTarget.w d)), (1, .row 3 1 (List.map (V.int .i64) f)), (0, .var 114 [.row 4 (kidsV i), .int .i64 b, .sl 1, .sl 2])]⟩)
def jn (p0 : List Tree) (a : List UInt8) (r0 : Int) : Prop := qS 178 [.row 4 (kidsV p0), .clo 179 [.box [.str a] 0]] (.int .i64 r0)
def kh (p0 r0 r1 : List UInt8) (r2 : Bool) : Prop := qS 148 [.str p0, .str [46]] (.tup [.str r0, .str r1, .bool r2])
def fW (p0 r0 r1 : List UInt8) (r2 : Bool) : Prop := qS 177 [.str p0, .str [46]] (.tup [.str r0, .str r1, .bool r2])
def cZ (p0 : List UInt8) (r0 : Int) : Prop := qS 203 [.str p0, .str [46]] (.int .i64 r0)
def hZ (p0 : List Tree) (r0 : Bool) : Prop := qS 47 [.row 4 (kidsV p0)] (.bool r0)
def jY (p0 : List UInt8) (r0 : Int) : Prop := qS 158 [.str p0] (.int .i64 r0)
def jl (p0 : List Tree) (p1 : Int) (p2 : List UInt8) (r0 r1 : Int) (r2 : Bool) : Prop := qS 114 [.row 4 (kidsV p0), .int .i64 p1, .str p2] (.tup [.int .i64 r0, .int .i64 r1, .bool r2])
def jf (m : Nat) (p0 : List Tree) (a : Nat) (r0 : Bool) : Prop := ∀ (K : Ctx) (j1 : Nat), ao K [] → m ≤ j1 → qLG K Tryz.f67 (fun u _ => u = .bool r0) (cL (xE (cB (ae Tryz.f67)))) [.loop (cL (xE (cB (ae Tryz.f67)))) j1, .blk 0, .seq (xA (ae Tryz.f67))] 20 (mkF 20 0 [(5, .row 4 (kidsV p0)), (6, .int .i64 (p0.length : Int)), (7, .int .i64 (a : Int))]) ⟨0, []⟩
theorem ur (m : Nat) (p0 : List Tree) (r0 : Bool) (h : jf m p0 0 r0) : ni p0 r0 := by
 refine ⟨rfl, rfl, ?_⟩
 refine aj 20 [] Tryz.func67 rfl rfl rfl (ax rfl) fun K hK => ?_
 exact gR 10 rfl <| gV 6 (.int .i64 (p0.length : Int)) rfl (aL (aG _)) rfl <| gLB 5 rfl (aG _) fun hl5 => gR 4 rfl <| go_loop m <| gJ (h K _ hK (by omega)) [] [] rfl hK pq3 trivial rfl
theorem oX (m : Nat) (p0 : List Tree) (a : Nat) (r0 : Bool) (h : ((a < p0.length) → ∃ b, p0[a]? = some b ∧ ((b.kind ≠ 1) → false = r0) ∧ ((b.kind = 1) → ∃ c, fS b c ∧ ((c = false) → false = r0) ∧ ((c = true) → a + 1 ≤ 9223372036854775807 ∧ jf m p0 (a + 1) r0))) ∧ ((¬ a < p0.length) → true = r0)) : jf (m + 1) p0 a r0 := by
 intro K j1 hK hj1
 obtain ⟨j1, rfl⟩ : ∃ j, j1 = j + 1 := ⟨j1 - 1, by omega⟩
 refine gR 6 rfl <| gB 8 rfl rfl rfl ?_ ?_ <;> intro hd
 replace hd := (bZ hd)
 replace h := h.1 hd
 refine gR 7 rfl ?_
 obtain ⟨b, hxt1_1, h⟩ := h
 refine gY (ay (aq hxt1_1) ab rfl rfl rfl rfl) rfl rfl <| gR 11 rfl <| gB 14 rfl rfl rfl ?_ ?_ <;> intro hd
 refine gT 13 rfl hd rfl ?_
 replace hd := (bN hd)
 replace h := h.1 hd
 refine gR 15 rfl <| go_xloopR <| gR 2 rfl ?_
 subst h
 exact go_end ab (rs := [.tmp 2]) rfl rfl rfl
 refine gF 13 rfl hd rfl ?_
 replace hd := (bn hd)
 replace h := h.2 hd
 refine gR 1 rfl ?_
 obtain ⟨c, hs6, h⟩ := h
 refine gC0 hs6 (by kernel_rfl) rfl rfl .rfl rfl <| gR 4 rfl <| gB 18 rfl rfl rfl ?_ ?_ <;> intro hd
 replace hd := (cb hd)
 replace h := h.1 hd
 refine gR 9 rfl <| go_xloopR <| gR 2 rfl ?_
 subst h
 exact go_end ab (rs := [.tmp 2]) rfl rfl rfl
 replace hd := (cc hd)
 replace h := h.2 hd
 refine gR 5 rfl ?_
 obtain ⟨hb, h⟩ := h
 exact gR 1 rfl <| gV 19 (.int .i64 ((a + 1 : Nat) : Int)) rfl (au (by omega) (by omega)) rfl <| gR 2 rfl <| go_xloop <| gJ (h K _ hK (by omega)) [] [] rfl hK pq3 trivial rfl
 replace hd := (bV hd)
 replace h := h.2 hd
 refine gR 3 rfl <| go_xloopE <| gR 8 rfl ?_
 subst h
 exact go_end ab (rs := [.tmp 2]) rfl rfl rfl
def jH (m : Nat) (p0 : List Tree) (a : Int) (b : List UInt8) (r0 r1 : Int) (r2 : Bool) : Prop := ∀ (K : Ctx), ao K [] → qLG K Tryz.f100 (fun u _ => u = .tup [.int .i64 r0, .int .i64 r1, .bool r2]) (xH (ae Tryz.f100)) [] 45 (mkF 45 0 [(0, .row 4 (kidsV p0)), (1, .int .i64 a), (2, .str b)]) ⟨0, []⟩
theorem vu (m : Nat) (p0 : List Tree) (p1 : Int) (p2 : List UInt8) (r0 r1 : Int) (r2 : Bool) (h : ((p1 < 0) → 0 = r0 ∧ 0 = r1 ∧ false = r2) ∧ ((¬ p1 < 0) → (((p0.length : Int) ≤ p1) → 0 = r0 ∧ 0 = r1 ∧ false = r2) ∧ ((¬ (p0.length : Int) ≤ p1) → ∃ b c a, kh p2 b c a ∧ ((a = true) → ∃ d, lG p0 b d ∧ jH m p0 d c r0 r1 r2) ∧ ((a = false) → jH m p0 p1 p2 r0 r1 r2)))) : oc p0 p1 p2 r0 r1 r2 := by
 refine ⟨rfl, rfl, ?_⟩
 refine aj 45 [] Tryz.func100 rfl rfl rfl (ax rfl) fun K hK => ?_
 refine gR 13 rfl <| qBdZ 15 14 rfl rfl rfl rfl h (fun h => ?_) fun h => ?_
 refine gR 17 rfl ?_
 obtain ⟨rfl, rfl, rfl⟩ := h
 exact go_end ab (rs := [.tmp 6, .tmp 7, .tmp 8]) rfl rfl rfl
 refine gR 3 rfl <| gV 18 (.int .i64 (p0.length : Int)) rfl (aL (aG _)) rfl <| gLB 17 rfl (aG _) fun hl13 => gR 4 rfl <| qBd 20 rfl rfl rfl h (fun h => ?_) fun h => ?_
 refine gR 10 rfl ?_
 obtain ⟨rfl, rfl, rfl⟩ := h
 exact go_end ab (rs := [.tmp 6, .tmp 7, .tmp 8]) rfl rfl rfl
 refine gR 7 rfl ?_
 obtain ⟨b, c, a, hs14, h⟩ := h
 refine gC0 hs14 (by kernel_rfl) rfl rfl .rfl rfl <| gR 14 rfl <| gB 27 rfl rfl rfl ?_ ?_ <;> intro hd
 refine gT 11 rfl hd rfl ?_
 refine gT 26 rfl hd rfl ?_
 replace h := h.1 hd
 refine gR 4 rfl ?_
 obtain ⟨d, hs15, h⟩ := h
 exact gC0 hs15 (by kernel_rfl) rfl rfl .rfl rfl <| gR 5 rfl <| gJ (h K hK) [] [] rfl hK pq3 trivial rfl
 refine gF 11 rfl hd rfl ?_
 refine gF 26 rfl hd rfl ?_
 replace h := h.2 hd
 exact gR 3 rfl <| gJ (h K hK) [] [] rfl hK pq3 trivial rfl
theorem uh (m : Nat) (p0 : List Tree) (a : Int) (e : List UInt8) (r0 r1 : Int) (r2 : Bool) (h : ((a < 0) → 0 = r0 ∧ 0 = r1 ∧ false = r2) ∧ ((¬ a < 0) → ∃ c, a = ((c : Nat) : Int) ∧ ∃ d, p0[c]? = some d ∧ ∃ b, lG d.kids e b ∧ ((b < 0) → 0 = r0 ∧ 0 = r1 ∧ false = r2) ∧ ((¬ b < 0) → a = r0 ∧ b = r1 ∧ true = r2))) : jH (m + 1) p0 a e r0 r1 r2 := by
 intro K hK
 refine gR 7 rfl <| qBd 33 rfl rfl rfl h (fun h => ?_) fun h => ?_
 refine gR 10 rfl ?_
 obtain ⟨rfl, rfl, rfl⟩ := h
 exact go_end ab (rs := [.tmp 6, .tmp 7, .tmp 8]) rfl rfl rfl
 refine gR 7 rfl ?_
 obtain ⟨c, f, h⟩ := h
 refine gV 35 (.int .i64 ((c : Nat) : Int)) rfl (bo f) rfl ?_
 obtain ⟨d, hxt1_2, h⟩ := h
 refine gY (ay (aq hxt1_2) ab rfl rfl rfl rfl) rfl rfl <| gR 3 rfl ?_
 obtain ⟨b, hs16, h⟩ := h
 refine gC0 hs16 (by kernel_rfl) rfl rfl .rfl rfl <| gR 10 rfl <| qBd 42 rfl rfl rfl h (fun h => ?_) fun h => ?_
 refine gR 10 rfl ?_
 obtain ⟨rfl, rfl, rfl⟩ := h
 exact go_end ab (rs := [.tmp 6, .tmp 7, .tmp 8]) rfl rfl rfl
 refine gR 13 rfl ?_
 obtain ⟨rfl, rfl, rfl⟩ := h
 exact go_end ab (rs := [.tmp 6, .tmp 7, .tmp 8]) rfl rfl rfl
def jh (m : Nat) (p0 a : List Tree) (b : Int) (c : List Int) (d : List GTarget) (e : Nat) (r0 : List GTarget) : Prop := ∀ (K : Ctx) (j1 : Nat), ao K [] → m ≤ j1 → qLG K Tryz.f43 (fun u _ => u = .row 5 (List.map GTarget.w r0)) (xI (cB (ae Tryz.f43))) [.loop (xI (cB (ae Tryz.f43))) j1, .blk 0, .seq (xK (ae Tryz.f43))] 25 (mkF 25 0 [(3, .ptr 0 0), (11, .row 4 (kidsV p0)), (12, .int .i64 (p0.length : Int)), (13, .int .i64 (e : Int))]) ⟨3, [(2, .row 117 5 (List.map GTarget.w d)), (1, .row 3 1 (List.map (V.int .i64) c)), (0, .var 114 [.row 4 (kidsV a), .int .i64 b, .sl 1, .sl 2])]⟩
theorem uN (m : Nat) (p0 : List Tree) (r0 : List GTarget) (h : ∃ a, ni p0 a ∧ ((a = false) → [] = r0) ∧ ((a = true) → jh m p0 p0 0 ([] : List Int) ([] : List GTarget) 0 r0)) : nB p0 r0 := by
 refine ⟨rfl, rfl, ?_⟩
 refine aj 25 [] Tryz.func43 rfl rfl rfl (ax rfl) fun K hK => ?_
 refine gR 9 rfl ?_
 obtain ⟨a, hs7, h⟩ := h
 refine gC0 hs7 (by kernel_rfl) rfl rfl .rfl rfl <| gR 3 rfl <| gB 8 rfl rfl rfl ?_ ?_ <;> intro hd
 replace hd := (cb hd)
 replace h := h.1 hd
 refine gR 8 rfl ?_
 subst h
 exact go_sub (F' := (mkF 25 0 [(2, .row 5 (List.map GTarget.w []))])) (H' := ⟨0, []⟩) [] [] rfl hK ⟨⟨_, rfl, (.nil 5)⟩, trivial⟩ trivial rfl <| go_end ab (rs := [.tmp 2]) rfl rfl rfl
 replace hd := (cc hd)
 replace h := h.2 hd
 exact gR 16 rfl <| gV 12 (.int .i64 (p0.length : Int)) rfl (aL (aG _)) rfl <| gLB 11 rfl (aG _) fun hl8 => gR 4 rfl <| go_loop m <| gNC 0 2 3 1 rfl rfl rfl rfl <| gNC 0 3 117 5 rfl rfl rfl rfl <| gJ (h K _ hK (by omega)) [0, 1, 2] [] rfl hK pq4 ⟨⟨_, rfl, rfl, rfl, rfl⟩, ⟨_, rfl, rfl, rfl, rfl⟩, (pqo1 rfl rfl)⟩ rfl
theorem oP (m : Nat) (p0 k : List Tree) (l : Int) (e : List Int) (d : List GTarget) (a : Nat) (r0 : List GTarget) (h : ((a < p0.length) → ∃ f, p0[a]? = some f ∧ ∃ g i b c, dS k (a : Int) e d f g i b c ∧ a + 1 ≤ 9223372036854775807 ∧ jh m p0 g i b c (a + 1) r0) ∧ ((¬ a < p0.length) → d = r0)) : jh (m + 1) p0 k l e d a r0 := by
 intro K j1 hK hj1
 obtain ⟨j1, rfl⟩ : ∃ j, j1 = j + 1 := ⟨j1 - 1, by omega⟩
 refine gR 6 rfl <| gB 14 rfl rfl rfl ?_ ?_ <;> intro hd
 replace hd := (bZ hd)
 replace h := h.1 hd
 refine gR 8 rfl ?_
 obtain ⟨f, hxt1_1, h⟩ := h
 refine gY (ay (aq hxt1_1) ab rfl rfl rfl rfl) rfl rfl <| gR 15 rfl ?_
 obtain ⟨g, i, b, c, hs9, h⟩ := h
 refine gC hs9 [0, 1, 2] (by kernel_rfl) rfl rfl .rfl ⟨⟨_, rfl, ⟨rfl, rfl, (ar _ GTarget.w (fun _ => rfl) d).symm⟩⟩, ⟨⟨_, rfl, ⟨rfl, rfl, (ar _ (V.int .i64) (fun _ => rfl) e).symm⟩⟩, ⟨⟨_, rfl, ⟨rfl, av.rfl⟩⟩, trivial⟩⟩⟩ rfl ?_
 rintro _ _ ⟨rfl, rfl⟩
 refine gHR 5 (List.map (V.int .i64) b) rfl (ar _ (V.int .i64) (fun _ => rfl) b) rfl <| gHR 6 (List.map GTarget.w c) rfl (ar _ GTarget.w (fun _ => rfl) c) rfl <| gR 4 rfl ?_
 obtain ⟨hb, h⟩ := h
 exact gR 1 rfl <| gV 22 (.int .i64 ((a + 1 : Nat) : Int)) rfl (au (by omega) (by omega)) rfl <| gR 2 rfl <| go_xloop <| gJ (h K _ hK (by omega)) [0, 5, 6] [] rfl hK pq4 ⟨⟨_, rfl, rfl, rfl, (ar _ GTarget.w (fun _ => rfl) c).symm⟩, ⟨_, rfl, rfl, rfl, (ar _ (V.int .i64) (fun _ => rfl) b).symm⟩, (pqo1 rfl rfl)⟩ rfl
 replace hd := (bV hd)
 replace h := h.2 hd
 refine gR 3 rfl <| go_xloopE <| gR 10 rfl <| gFR 2 rfl (iA _ (fun _ => rfl) _) rfl rfl ?_
 subst h
 exact go_end ab (rs := [.tmp 2]) rfl rfl rfl
theorem wf (m : Nat) (p0 : List Tree) (p1 : List UInt8) (r0 : Int) (h : ∃ a, jn p0 p1 a ∧ a = r0) : lG p0 p1 r0 := by
 refine ⟨rfl, rfl, ?_⟩
 refine aj 8 [] Tryz.func149 rfl rfl rfl (ax rfl) fun K hK => ?_
 refine gR 9 rfl <| gFP 0 rfl rfl rfl rfl <| gY (yMF rfl) rfl rfl ?_
 obtain ⟨a, hs2, h⟩ := h
 refine gC0 hs2 (by kernel_rfl) rfl rfl .rfl rfl <| gR 4 rfl ?_
 subst h
 exact go_end ab (rs := [.tmp 4]) rfl rfl rfl
theorem ut (m : Nat) (p0 : Tree) (p1 : List UInt8) (r0 : Bool) (h : (p0.text == p1) = r0) : nj p0 p1 r0 := by
 refine ⟨rfl, rfl, ?_⟩
 refine aj 8 [] Tryz.func179 rfl rfl rfl (ax rfl) fun K hK => ?_
 refine gR 3 rfl <| gFP 0 rfl rfl rfl rfl <| gR 13 rfl ?_
 subst h
 exact go_end ab (rs := [.tmp 3]) rfl rfl rfl
def dE (m : Nat) (g : List Tree) (a : Int) (e : List Int) (c : List GTarget) (p1 : Tree) (i : Bool) (j : List Tree) (b : Int) (f : List Int) (d : List GTarget) : Prop := ∀ (K : Ctx), ao K [0] → qLG K Tryz.f68 (fun u G => u = .tup [] ∧ G = ⟨3, [(2, .row 117 5 (List.map GTarget.w d)), (1, .row 3 1 (List.map (V.int .i64) f)), (0, .var 114 [.row 4 (kidsV j), .int .i64 b, .sl 1, .sl 2])]⟩) (cB (cA (cB (ae Tryz.f68)))) [.seq (xA (ae Tryz.f68))] 94 (mkF 94 0 [(0, .ptr 0 0), (3, .box (an p1) 0), (17, .bool i)]) ⟨3, [(2, .row 117 5 (List.map GTarget.w c)), (1, .row 3 1 (List.map (V.int .i64) e)), (0, .var 114 [.row 4 (kidsV g), .int .i64 a, .sl 1, .sl 2])]⟩
def jN (m : Nat) (g : List Tree) (a : Int) (e : List Int) (c : List GTarget) (p1 : Tree) (i j : Int) (k : Bool) (l : List Int) (n : List Tree) (b : Int) (f : List Int) (d : List GTarget) : Prop := ∀ (K : Ctx), ao K [0] → Go Tryz.prog K (bodyPost Tryz.prog Tryz.f68 (SP K (fun u G => u = .tup [] ∧ G = ⟨3, [(2, .row 117 5 (List.map GTarget.w d)), (1, .row 3 1 (List.map (V.int .i64) f)), (0, .var 114 [.row 4 (kidsV n), .int .i64 b, .sl 1, .sl 2])]⟩))) (.ex .normal) [.seq (xA (xJ (cA (cB (ae Tryz.f68))))), .seq (xA (ae Tryz.f68))] 94 (mkF 94 0 [(0, .ptr 0 0), (3, .box (an p1) 0), (4, .int .i64 i), (5, .int .i64 j), (6, .bool k), (7, .ptr 1 0)]) ⟨4, [(3, .row 117 5 (List.map GTarget.w c)), (2, .row 3 1 (List.map (V.int .i64) e)), (1, .var 96 [.int .i64 a, .row 1 (List.map (V.int .i64) l)]), (0, .var 114 [.row 4 (kidsV g), .int .i64 a, .sl 2, .sl 3])]⟩
def cy (m : Nat) (p1 : Tree) (d : List GTarget) (e : List Tree) (f : Int) (g : List Int) (i : Nat) (j : List Tree) (a : Int) (c : List Int) (b : List GTarget) : Prop := ∀ (K : Ctx) (j1 : Nat), ao K [0] → m ≤ j1 → qLG K Tryz.f68 (fun u G => u = .tup [] ∧ G = ⟨3, [(2, .row 117 5 (List.map GTarget.w b)), (1, .row 3 1 (List.map (V.int .i64) c)), (0, .var 114 [.row 4 (kidsV j), .int .i64 a, .sl 1, .sl 2])]⟩) (cL (cK (xH (ae Tryz.f68)))) [.loop (cL (cK (xH (ae Tryz.f68)))) j1, .blk 0] 94 (mkF 94 0 [(0, .ptr 0 0), (59, .row 4 (kidsV p1.kids)), (60, .int .i64 (p1.kids.length : Int)), (61, .int .i64 (i : Int))]) ⟨3, [(2, .row 117 5 (List.map GTarget.w d)), (1, .row 3 1 (List.map (V.int .i64) g)), (0, .var 114 [.row 4 (kidsV e), .int .i64 f, .sl 1, .sl 2])]⟩
theorem pa (m : Nat) (g : List Tree) (c : Int) (b : List Int) (a : List GTarget) (p1 : Tree) (i : List Tree) (d : Int) (f : List Int) (e : List GTarget) (h : ((p1.kind = 16) → dE m g c b a p1 true i d f e) ∧ ((p1.kind ≠ 16) → dE m g c b a p1 (p1.kind == 9) i d f e)) : dS g c b a p1 i d f e := by
 refine aj 94 [0] Tryz.func68 rfl rfl rfl (ax rfl) fun K hK => ?_
 refine gR 3 rfl <| gFP 3 rfl rfl rfl rfl <| gR 9 rfl <| qBeZ 13 12 rfl rfl rfl rfl h (fun h => ?_) fun h => ?_
 exact gR 6 rfl <| gJ (h K hK) [0, 1, 2] [0] rfl hK pq3 ⟨⟨_, rfl, rfl, rfl, (ar _ GTarget.w (fun _ => rfl) a).symm⟩, ⟨_, rfl, rfl, rfl, (ar _ (V.int .i64) (fun _ => rfl) b).symm⟩, (pqo1 rfl rfl)⟩ rfl
 exact gR 6 rfl <| gJ (h K hK) [0, 1, 2] [0] rfl hK pq3 ⟨⟨_, rfl, rfl, rfl, (ar _ GTarget.w (fun _ => rfl) a).symm⟩, ⟨_, rfl, rfl, rfl, (ar _ (V.int .i64) (fun _ => rfl) b).symm⟩, (pqo1 rfl rfl)⟩ rfl
theorem oU (m : Nat) (g : List Tree) (c : Int) (a : List Int) (b : List GTarget) (p1 : Tree) (k : Bool) (l : List Tree) (d : Int) (f : List Int) (e : List GTarget) (h : ((k = true) → ∃ n o p, oc g c p1.text n o p ∧ ∃ q, lc a q ∧ jN m g c a b p1 n o p q l d f e) ∧ ((k = false) → cy m p1 b g c a 0 l d f e)) : dE (m + 1) g c a b p1 k l d f e := by
 intro K hK
 refine gB 17 rfl rfl rfl ?_ ?_ <;> intro hd
 replace h := h.1 hd
 refine gR 2 rfl <| gDs [0] 10 18 rfl (by kernel_rfl) (by kernel_rfl) <| gDr [(0, 2), (1, 2), (2, 2), (3, 3), (4, 2), (5, 2), (6, 2), (7, 3), (8, 0), (9, 0)] (by kernel_rfl) rfl rfl ?_
 obtain ⟨n, o, p, hs21, h⟩ := h
 refine aO 10 hs21 (by kernel_rfl) rfl (by kernel_rfl) rfl rfl .rfl rfl rfl ?_
 refine gDr [(11, 1), (12, 2), (13, 2), (14, 2), (15, 1), (16, 1), (17, 1)] (by kernel_rfl) rfl rfl <| gDe (by kernel_rfl) <| gR 2 rfl <| gDs [0] 11 12 rfl (by kernel_rfl) (by kernel_rfl) <| gDr [(0, 2), (1, 2), (2, 2), (3, 3), (4, 2), (5, 2), (6, 2), (7, 3)] (by kernel_rfl) rfl rfl ?_
 obtain ⟨q, hs22, h⟩ := h
 apply bf (i := 8) (j := 10) (by kernel_rfl) rfl rfl rfl rfl
 exact (bO (L' := [0]) (by kernel_rfl) rfl rfl (sp (H := ⟨3, [(2, .row 117 5 (List.map GTarget.w b)), (1, .row 3 1 (List.map (V.int .i64) a)), (0, .var 114 [.row 4 (kidsV g), .int .i64 c, .sl 1, .sl 2])]⟩) hs22 [1] .rfl ⟨⟨_, rfl, ⟨rfl, rfl, (ar _ (V.int .i64) (fun _ => rfl) a).symm⟩⟩, trivial⟩ rfl [0] rfl) (.inl rfl))
 exact (aC ab rfl rfl)
 exact gHR 1 (List.map (V.int .i64) a) rfl (ar _ (V.int .i64) (fun _ => rfl) a) rfl <| gDr [(9, 2), (10, 0), (11, 1)] (by kernel_rfl) rfl rfl <| gDe (by kernel_rfl) <| gJ (h K hK) [0, 4, 1, 2] [0] rfl hK pq6 ⟨⟨_, rfl, rfl, rfl, (ar _ GTarget.w (fun _ => rfl) b).symm⟩, ⟨_, rfl, rfl, rfl, (ar _ (V.int .i64) (fun _ => rfl) a).symm⟩, (pqo2 rfl rfl rfl rfl)⟩ rfl
 refine gDC 8 hs22 [1] (by kernel_rfl) rfl (by kernel_rfl) rfl rfl .rfl ⟨⟨_, rfl, ⟨rfl, rfl, (ar _ (V.int .i64) (fun _ => rfl) a).symm⟩⟩, trivial⟩ (by kernel_rfl) rfl ?_
 rintro _ _ ⟨rfl, rfl⟩
 exact gHR 1 (List.map (V.int .i64) a) rfl (ar _ (V.int .i64) (fun _ => rfl) a) rfl <| gDr [(9, 0), (11, 1)] (by kernel_rfl) rfl rfl <| gDe (by kernel_rfl) <| gJ (h K hK) [0, 3, 1, 2] [0] rfl hK pq6 ⟨⟨_, rfl, rfl, rfl, (ar _ GTarget.w (fun _ => rfl) b).symm⟩, ⟨_, rfl, rfl, rfl, (ar _ (V.int .i64) (fun _ => rfl) a).symm⟩, (pqo2 rfl rfl rfl rfl)⟩ rfl
 replace h := h.2 hd
 exact gR 8 rfl <| gV 60 (.int .i64 (p1.kids.length : Int)) rfl (aL (aG _)) rfl <| gLB 59 rfl (aG _) fun hl23 => gR 4 rfl <| go_loop m <| gJ (h K _ hK (by omega)) [0, 1, 2] [0] rfl hK pq4 ⟨⟨_, rfl, rfl, rfl, (ar _ GTarget.w (fun _ => rfl) b).symm⟩, ⟨_, rfl, rfl, rfl, (ar _ (V.int .i64) (fun _ => rfl) a).symm⟩, (pqo1 rfl rfl)⟩ rfl
theorem oH (m : Nat) (l : List Tree) (a : Int) (c : List Int) (b : List GTarget) (p1 : Tree) (e f : Int) (g : Bool) (i : List Int) (n : List Tree) (d : Int) (k : List Int) (j : List GTarget) (h : (b ++ [(GTarget.mk (GPlace.mk a i) e f (!g))]).length ≤ 1000000000 ∧ cy m p1 (b ++ [(GTarget.mk (GPlace.mk a i) e f (!g))]) l a c 0 n d k j) : jN (m + 1) l a c b p1 e f g i n d k j := by
 intro K hK
 refine gR 1 rfl <| gDs [0, 1] 15 16 rfl (by kernel_rfl) (by kernel_rfl) <| gDr [(0, 2), (1, 2), (2, 2), (3, 2), (4, 3), (5, 3), (6, 2), (7, 2), (8, 0), (9, 0), (10, 0), (11, 0)] (by kernel_rfl) rfl rfl ?_
 obtain ⟨hb, h⟩ := h
 refine cf 12 (.repl 3 (.row 117 5 (List.map GTarget.w (b ++ [(GTarget.mk (GPlace.mk a i) e f (!g))])))) rfl (by kernel_rfl) (bw ab rfl rfl rfl rfl rfl (apM GTarget.w b (GTarget.mk (GPlace.mk a i) e f (!g))) (by rw [aZ]; exact hb)) (okR rfl) rfl (by kernel_rfl) rfl rfl ?_
 exact gDr [(13, 0), (14, 0), (15, 1)] (by kernel_rfl) rfl rfl <| gDe (by kernel_rfl) <| gR 6 rfl <| gV 60 (.int .i64 (p1.kids.length : Int)) rfl (aL (aG _)) rfl <| gLB 59 rfl (aG _) fun hl24 => gR 4 rfl <| go_loop m <| gJ (h K _ hK (by omega)) [0, 2, 5] [0] rfl hK pq4 ⟨⟨_, rfl, rfl, rfl, (ar _ GTarget.w (fun _ => rfl) (b ++ [(GTarget.mk (GPlace.mk a i) e f (!g))])).symm⟩, ⟨_, rfl, rfl, rfl, (ar _ (V.int .i64) (fun _ => rfl) c).symm⟩, (pqo1 rfl rfl)⟩ rfl
theorem jk (m : Nat) (p1 : Tree) (i : List GTarget) (l : List Tree) (n : Int) (d : List Int) (a : Nat) (o : List Tree) (c : Int) (f : List Int) (e : List GTarget) (h : ((a < p1.kids.length) → ∃ p, p1.kids[a]? = some p ∧ (d ++ [(a : Int)]).length ≤ 1000000000 ∧ ∃ q r b k, dS l n (d ++ [(a : Int)]) i p q r b k ∧ ∃ g, ((b.length : Int) - 1) = ((g : Nat) : Int) ∧ g ≤ b.length ∧ a + 1 ≤ 9223372036854775807 ∧ cy m p1 k q r (b.take g) (a + 1) o c f e) ∧ ((¬ a < p1.kids.length) → l = o ∧ n = c ∧ d = f ∧ i = e)) : cy (m + 1) p1 i l n d a o c f e := by
 intro K j1 hK hj1
 obtain ⟨j1, rfl⟩ : ∃ j, j1 = j + 1 := ⟨j1 - 1, by omega⟩
 refine gR 6 rfl <| gB 62 rfl rfl rfl ?_ ?_ <;> intro hd
 replace hd := (bZ hd)
 replace h := h.1 hd
 refine gR 8 rfl ?_
 obtain ⟨p, hxt3_1, h⟩ := h
 refine gY (ay (aq hxt3_1) ab rfl rfl rfl rfl) rfl rfl <| gR 15 rfl ?_
 obtain ⟨hb, h⟩ := h
 refine gDo (.repl 1 (.row 3 1 (List.map (V.int .i64) (d ++ [(a : Int)])))) (bw ab rfl rfl rfl rfl rfl (apM (V.int .i64) d (a : Int)) (by rw [aZ]; exact hb)) (okR rfl) rfl rfl rfl <| gR 9 rfl ?_
 obtain ⟨q, r, b, k, hs25, h⟩ := h
 refine gC hs25 [0, 5, 2] (by kernel_rfl) rfl rfl .rfl ⟨⟨_, rfl, ⟨rfl, rfl, (ar _ GTarget.w (fun _ => rfl) i).symm⟩⟩, ⟨⟨_, rfl, ⟨rfl, rfl, (ar _ (V.int .i64) (fun _ => rfl) (d ++ [(a : Int)])).symm⟩⟩, ⟨⟨_, rfl, ⟨rfl, av.rfl⟩⟩, trivial⟩⟩⟩ rfl ?_
 rintro _ _ ⟨rfl, rfl⟩
 refine gHR 7 (List.map (V.int .i64) b) rfl (ar _ (V.int .i64) (fun _ => rfl) b) rfl <| gHR 8 (List.map GTarget.w k) rfl (ar _ GTarget.w (fun _ => rfl) k) rfl <| gR 2 rfl <| gDs [0] 14 15 rfl (by kernel_rfl) (by kernel_rfl) <| gDr [(0, 2), (1, 2), (2, 2), (3, 2), (4, 3), (5, 0), (6, 0), (7, 0), (8, 0), (9, 0)] (by kernel_rfl) rfl rfl <| gV 88 (.int .i64 (b.length : Int)) rfl (aL (aZ (V.int .i64) _)) rfl <| gLO 7 rfl (aZ (V.int .i64) _) fun hl29 => gDr [(10, 0)] (by kernel_rfl) rfl rfl <| gV 89 (.int .i64 ((b.length : Int) - 1)) rfl (au (by have := hl29; omega) rfl) rfl ?_
 obtain ⟨g, s, h⟩ := h
 refine gV 89 (.int .i64 ((g : Nat) : Int)) rfl (bo s) rfl ?_
 obtain ⟨hb, h⟩ := h
 refine cf 11 (.repl 7 (.row 3 1 (List.map (V.int .i64) (b.take g)))) rfl (by kernel_rfl) (dTr ab rfl rfl rfl rfl (by rw [aZ]; exact hb) (Il _ _ _)) (okR rfl) rfl (by kernel_rfl) rfl rfl ?_
 refine gDr [(12, 0), (13, 0), (14, 1)] (by kernel_rfl) rfl rfl <| gDe (by kernel_rfl) <| gR 3 rfl ?_
 obtain ⟨hb, h⟩ := h
 exact gR 1 rfl <| gV 93 (.int .i64 ((a + 1 : Nat) : Int)) rfl (au (by omega) (by omega)) rfl <| gR 2 rfl <| go_xloop <| gJ (h K _ hK (by omega)) [0, 9, 8] [0] rfl hK pq4 ⟨⟨_, rfl, rfl, rfl, (ar _ GTarget.w (fun _ => rfl) k).symm⟩, ⟨_, rfl, rfl, rfl, (ar _ (V.int .i64) (fun _ => rfl) (b.take g)).symm⟩, (pqo1 rfl rfl)⟩ rfl
 replace hd := (bV hd)
 replace h := h.2 hd
 refine gR 3 rfl <| go_xloopE <| gR 1 rfl ?_
 obtain ⟨rfl, rfl, rfl, rfl⟩ := h
 exact go_sub (F' := (mkF 94 0 [])) (H' := ⟨3, [(2, .row 117 5 (List.map GTarget.w i)), (1, .row 3 1 (List.map (V.int .i64) d)), (0, .var 114 [.row 4 (kidsV l), .int .i64 n, .sl 1, .sl 2])]⟩) [0, 1, 2] [0] rfl hK trivial ⟨⟨_, rfl, rfl, rfl, (ar _ GTarget.w (fun _ => rfl) i).symm⟩, ⟨_, rfl, rfl, rfl, (ar _ (V.int .i64) (fun _ => rfl) d).symm⟩, (pqo1 rfl rfl)⟩ rfl <| go_endD [] ab (rs := []) rfl rfl ⟨rfl, rfl⟩
def fg (m : Nat) (p0 : List Tree) (a : List UInt8) (b : Nat) (r0 : Int) : Prop := ∀ (K : Ctx) (j1 : Nat), ao K [] → m ≤ j1 → qLG K Tryz.f178 (fun u _ => u = .int .i64 r0) (cL (xE (cB (ae Tryz.f178)))) [.loop (cL (xE (cB (ae Tryz.f178)))) j1, .blk 0, .seq (xA (ae Tryz.f178))] 19 (mkF 19 0 [(0, .row 4 (kidsV p0)), (1, .clo 179 [.box [.str a] 0]), (7, .int .i64 (p0.length : Int)), (8, .int .i64 (b : Int))]) ⟨0, []⟩
theorem rS (m : Nat) (p0 : List Tree) (a : List UInt8) (r0 : Int) (h : fg m p0 a 0 r0) : jn p0 a r0 := by
 refine ⟨rfl, rfl, ?_⟩
 refine aj 19 [] Tryz.func178 rfl rfl rfl (ax rfl) fun K hK => ?_
 exact gR 10 rfl <| gV 7 (.int .i64 (p0.length : Int)) rfl (aL (aG _)) rfl <| gLB 6 rfl (aG _) fun hl5 => gR 4 rfl <| go_loop m <| gJ (h K _ hK (by omega)) [] [] rfl hK pq4 trivial rfl
theorem mf (m : Nat) (p0 : List Tree) (b : List UInt8) (a : Nat) (r0 : Int) (h : ((a < p0.length) → ∃ d, p0[a]? = some d ∧ ∃ c, nj d b c ∧ ((c = true) → (a : Int) = r0) ∧ ((c = false) → a + 1 ≤ 9223372036854775807 ∧ fg m p0 b (a + 1) r0)) ∧ ((¬ a < p0.length) → (-1) = r0)) : fg (m + 1) p0 b a r0 := by
 intro K j1 hK hj1
 obtain ⟨j1, rfl⟩ : ∃ j, j1 = j + 1 := ⟨j1 - 1, by omega⟩
 refine gR 6 rfl <| gB 9 rfl rfl rfl ?_ ?_ <;> intro hd
 replace hd := (bZ hd)
 replace h := h.1 hd
 refine gR 16 rfl ?_
 obtain ⟨d, hxt1_1, h⟩ := h
 refine gY (ay (aq hxt1_1) ab rfl rfl rfl rfl) rfl rfl <| gR 1 rfl ?_
 obtain ⟨c, hs6, h⟩ := h
 refine IR hs6 (by kernel_rfl) rfl rfl rfl .rfl rfl ?_
 refine gR 2 rfl <| gB 16 rfl rfl rfl ?_ ?_ <;> intro hd
 replace h := h.1 hd
 refine gR 10 rfl <| go_xloopR <| gR 2 rfl ?_
 subst h
 exact go_end ab (rs := [.tmp 4]) rfl rfl rfl
 replace h := h.2 hd
 refine gR 5 rfl ?_
 obtain ⟨hb, h⟩ := h
 exact gR 1 rfl <| gV 18 (.int .i64 ((a + 1 : Nat) : Int)) rfl (au (by omega) (by omega)) rfl <| gR 2 rfl <| go_xloop <| gJ (h K _ hK (by omega)) [] [] rfl hK pq4 trivial rfl
 replace hd := (bV hd)
 replace h := h.2 hd
 refine gR 3 rfl <| go_xloopE <| gR 8 rfl ?_
 subst h
 exact go_end ab (rs := [.tmp 4]) rfl rfl rfl
theorem sn (m : Nat) (p0 r0 r1 : List UInt8) (r2 : Bool) (h : ∃ a b c, fW p0 a b c ∧ a = r0 ∧ b = r1 ∧ c = r2) : kh p0 r0 r1 r2 := by
 refine ⟨rfl, rfl, ?_⟩
 refine aj 13 [] Tryz.func148 rfl rfl rfl (ax rfl) fun K hK => ?_
 refine gR 11 rfl ?_
 obtain ⟨a, b, c, hs2, h⟩ := h
 refine gC0 hs2 (by kernel_rfl) rfl rfl .rfl rfl <| gR 9 rfl ?_
 obtain ⟨rfl, rfl, rfl⟩ := h
 exact go_end ab (rs := [.tmp 4, .tmp 5, .tmp 6]) rfl rfl rfl
theorem lE (m : Nat) (p0 r0 r1 : List UInt8) (r2 : Bool) (h : ∃ a, cZ p0 a ∧ ((0 ≤ a) → ∃ b, a = ((b : Nat) : Int) ∧ b ≤ p0.length ∧ InI (a + 1) ∧ ∃ c, (a + 1) = ((c : Nat) : Int) ∧ c ≤ p0.length ∧ (p0.take b) = r0 ∧ (p0.drop c) = r1 ∧ true = r2) ∧ ((¬ 0 ≤ a) → p0 = r0 ∧ [] = r1 ∧ false = r2)) : fW p0 r0 r1 r2 := by
 refine ⟨rfl, rfl, ?_⟩
 refine aj 23 [] Tryz.func177 rfl rfl rfl (ax rfl) fun K hK => ?_
 refine gR 12 rfl ?_
 obtain ⟨a, hs2, h⟩ := h
 refine gC0 hs2 (by kernel_rfl) rfl rfl .rfl rfl <| gR 9 rfl <| qBd 12 rfl rfl rfl h (fun h => ?_) fun h => ?_
 refine gR 2 rfl <| gDs [] 12 12 rfl (by kernel_rfl) (by kernel_rfl) <| gDr [(0, 2), (1, 2)] (by kernel_rfl) rfl rfl ?_
 obtain ⟨b, d, h⟩ := h
 refine gV 14 (.int .i64 ((b : Nat) : Int)) rfl (bo d) rfl ?_
 obtain ⟨hb', h⟩ := h
 refine gYd 2 rfl (by kernel_rfl) (ySS ab rfl rfl vd (pV rfl) (Nat.zero_le _) hb' (tA _ _)) rfl rfl <| gDr [(3, 2), (4, 2), (5, 2), (6, 2)] (by kernel_rfl) rfl rfl ?_
 obtain ⟨hb, h⟩ := h
 refine gDr [(7, 2)] (by kernel_rfl) rfl rfl <| gV 20 (.int .i64 (a + 1)) rfl (au hb rfl) rfl ?_
 obtain ⟨c, e, h⟩ := h
 refine gV 20 (.int .i64 ((c : Nat) : Int)) rfl (bo e) rfl ?_
 obtain ⟨hb, h⟩ := h
 refine gYd 8 rfl (by kernel_rfl) (ySS ab rfl rfl (pV rfl) vd hb (Nat.le_refl _) (tu _ _)) rfl rfl <| gDr [(9, 0), (10, 0), (11, 0)] (by kernel_rfl) rfl rfl <| gDe (by kernel_rfl) <| gR 3 rfl ?_
 obtain ⟨rfl, rfl, rfl⟩ := h
 exact go_end ab (rs := [.tmp 4, .tmp 5, .tmp 6]) rfl rfl rfl
 refine gR 12 rfl ?_
 obtain ⟨rfl, rfl, rfl⟩ := h
 exact go_end ab (rs := [.tmp 4, .tmp 5, .tmp 6]) rfl rfl rfl
def eV (m : Nat) (p0 : List UInt8) (r0 : Int) : Prop := ∀ (K : Ctx), ao K [] → qLG K Tryz.f203 (fun u _ => u = .int .i64 r0) (xB (cK (cA (xA (ae Tryz.f203))))) [.blk 0, .seq (xH (ae Tryz.f203))] 143 (mkF 143 0 [(0, .str p0), (1, .str [46]), (5, .int .i64 1)]) ⟨0, []⟩
theorem kJ (m : Nat) (p0 : List UInt8) (r0 : Int) (h : (([46] = p0) → 0 = r0) ∧ (([46] ≠ p0) → eV m p0 r0)) : cZ p0 r0 := by
 refine ⟨rfl, rfl, ?_⟩
 refine aj 143 [] Tryz.func203 rfl rfl rfl (ax rfl) fun K hK => ?_
 refine gR 26 rfl <| qBeZ 16 23 rfl rfl rfl rfl h (fun h => ?_) fun h => ?_
 refine gR 9 rfl ?_
 subst h
 exact go_end ab (rs := [.tmp 4]) rfl rfl rfl
 exact gR 1 rfl <| gJ (h K hK) [] [] rfl hK pq3 trivial rfl
theorem kf (m : Nat) (p0 : List UInt8) (r0 : Int) (h : ∃ a, fc p0 46 a ∧ a = r0) : eV (m + 1) p0 r0 := by
 intro K hK
 refine gR 13 rfl ?_
 obtain ⟨a, hs3, h⟩ := h
 refine gC0 hs3 (by kernel_rfl) rfl rfl .rfl rfl <| gR 6 rfl ?_
 subst h
 exact go_end ab (rs := [.tmp 4]) rfl rfl rfl
def dU (m : Nat) (p0 : List Tree) (a : Nat) (r0 : Bool) : Prop := ∀ (K : Ctx) (j1 : Nat), ao K [] → m ≤ j1 → qLG K Tryz.f47 (fun u _ => u = .bool r0) (cL (xE (cB (ae Tryz.f47)))) [.loop (cL (xE (cB (ae Tryz.f47)))) j1, .blk 0, .seq (xA (ae Tryz.f47))] 24 (mkF 24 0 [(0, .row 4 (kidsV p0)), (3, .int .i64 (a : Int))]) ⟨0, []⟩
theorem pX (m : Nat) (p0 : List Tree) (r0 : Bool) (h : dU m p0 0 r0) : hZ p0 r0 := by
 refine ⟨rfl, rfl, ?_⟩
 refine aj 24 [] Tryz.func47 rfl rfl rfl (ax rfl) fun K hK => ?_
 exact gR 12 rfl <| go_loop m <| gJ (h K _ hK (by omega)) [] [] rfl hK pq2 trivial rfl
theorem jX (m : Nat) (p0 : List Tree) (a : Nat) (r0 : Bool) (h : ((a < p0.length) → ∃ b, p0[a]? = some b ∧ ((b.kind ≠ 1) → false = r0) ∧ ((b.kind = 1) → ∃ d, p0[a]? = some d ∧ ∃ c, cu d c ∧ ((c = false) → false = r0) ∧ ((c = true) → dU m p0 (a + 1) r0))) ∧ ((¬ a < p0.length) → true = r0)) : dU (m + 1) p0 a r0 := by
 intro K j1 hK hj1
 obtain ⟨j1, rfl⟩ : ∃ j, j1 = j + 1 := ⟨j1 - 1, by omega⟩
 refine gR 6 rfl <| gV 6 (.int .i64 (p0.length : Int)) rfl (aL (aG _)) rfl <| gLB 5 rfl (aG _) fun hl5 => gR 3 rfl <| gB 7 rfl rfl rfl ?_ ?_ <;> intro hd
 replace hd := (bZ hd)
 replace h := h.1 hd
 refine gR 9 rfl ?_
 obtain ⟨b, hxt1_1, h⟩ := h
 refine gY (ay (aq hxt1_1) ab rfl rfl rfl rfl) rfl rfl <| gR 4 rfl <| gB 16 rfl rfl rfl ?_ ?_ <;> intro hd
 refine gT 15 rfl hd rfl ?_
 replace hd := (bN hd)
 replace h := h.1 hd
 refine gR 18 rfl <| go_xloopR <| gR 2 rfl ?_
 subst h
 exact go_end ab (rs := [.tmp 2]) rfl rfl rfl
 refine gF 15 rfl hd rfl ?_
 replace hd := (bn hd)
 replace h := h.2 hd
 refine gR 2 rfl ?_
 obtain ⟨d, hxt1_2, h⟩ := h
 refine gY (ay (aq hxt1_2) ab rfl rfl rfl rfl) rfl rfl <| gR 1 rfl ?_
 obtain ⟨c, hs6, h⟩ := h
 refine gC0 hs6 (by kernel_rfl) rfl rfl .rfl rfl <| gR 4 rfl <| gB 23 rfl rfl rfl ?_ ?_ <;> intro hd
 replace hd := (cb hd)
 replace h := h.1 hd
 refine gR 9 rfl <| go_xloopR <| gR 2 rfl ?_
 subst h
 exact go_end ab (rs := [.tmp 2]) rfl rfl rfl
 replace hd := (cc hd)
 replace h := h.2 hd
 exact gR 7 rfl <| gV 9 (.int .i64 ((a + 1 : Nat) : Int)) rfl (au (by have := hl5; omega) (by omega)) rfl <| gR 2 rfl <| go_xloop <| gJ (h K _ hK (by omega)) [] [] rfl hK pq2 trivial rfl
 replace hd := (bV hd)
 replace h := h.2 hd
 refine gR 3 rfl <| go_xloopE <| gR 8 rfl ?_
 subst h
 exact go_end ab (rs := [.tmp 2]) rfl rfl rfl
def fJ (m : Nat) (p0 : List UInt8) (a : Nat) (r0 : Int) : Prop := ∀ (K : Ctx) (j1 : Nat), ao K [] → m ≤ j1 → qLG K Tryz.f158 (fun u _ => u = .int .i64 r0) (cL (xE (cB (ae Tryz.f158)))) [.loop (cL (xE (cB (ae Tryz.f158)))) j1, .blk 0, .seq (xA (ae Tryz.f158))] 15 (mkF 15 0 [(0, .str p0), (3, .int .i64 (a : Int))]) ⟨0, []⟩
theorem sg (m : Nat) (p0 : List UInt8) (r0 : Int) (h : fJ m p0 0 r0) : jY p0 r0 := by
 refine ⟨rfl, rfl, ?_⟩
 refine aj 15 [] Tryz.func158 rfl rfl rfl (ax rfl) fun K hK => ?_
 exact gR 12 rfl <| go_loop m <| gJ (h K _ hK (by omega)) [] [] rfl hK pq2 trivial rfl
theorem mU (m : Nat) (p0 : List UInt8) (a : Nat) (r0 : Int) (h : ((a < p0.length) → ∃ b, p0[a]? = some b ∧ (((b.toNat : Int) = 46) → (a : Int) = r0) ∧ (((b.toNat : Int) ≠ 46) → a + 1 ≤ 9223372036854775807 ∧ fJ m p0 (a + 1) r0)) ∧ ((¬ a < p0.length) → (-1) = r0)) : fJ (m + 1) p0 a r0 := by
 intro K j1 hK hj1
 obtain ⟨j1, rfl⟩ : ∃ j, j1 = j + 1 := ⟨j1 - 1, by omega⟩
 refine gR 9 rfl <| gB 7 rfl rfl rfl ?_ ?_ <;> intro hd
 replace hd := (bZ hd)
 replace h := h.1 hd
 refine gR 9 rfl ?_
 obtain ⟨b, hxc1_1, h⟩ := h
 refine gY (yIS ab rfl rfl rfl hxc1_1) rfl rfl <| gR 3 rfl <| gB 13 rfl rfl rfl ?_ ?_ <;> intro hd
 replace hd := (eq_of_beq hd)
 replace h := h.1 hd
 refine gR 10 rfl <| go_xloopR <| gR 2 rfl ?_
 subst h
 exact go_end ab (rs := [.tmp 2]) rfl rfl rfl
 replace hd := (ne_of_beq_false hd)
 replace h := h.2 hd
 refine gR 6 rfl ?_
 obtain ⟨hb, h⟩ := h
 exact gR 1 rfl <| gV 9 (.int .i64 ((a + 1 : Nat) : Int)) rfl (au (by omega) (by omega)) rfl <| gR 2 rfl <| go_xloop <| gJ (h K _ hK (by omega)) [] [] rfl hK pq2 trivial rfl
 replace hd := (bV hd)
 replace h := h.2 hd
 refine gR 3 rfl <| go_xloopE <| gR 8 rfl ?_
 subst h
 exact go_end ab (rs := [.tmp 2]) rfl rfl rfl
def dH (m : Nat) (p0 : List Tree) (p2 : List UInt8) (a : Int) (b : Nat) (r0 r1 : Int) (r2 : Bool) : Prop := ∀ (K : Ctx) (j1 : Nat), ao K [] → m ≤ j1 → qLG K Tryz.f114 (fun u _ => u = .tup [.int .i64 r0, .int .i64 r1, .bool r2]) (cL (cK (cA (cB (xJ (cA (xA (ae Tryz.f114)))))))) [.loop (cL (cK (cA (cB (xJ (cA (xA (ae Tryz.f114)))))))) j1, .blk 0, .seq (xA (xJ (cA (xA (ae Tryz.f114))))), .seq (xH (ae Tryz.f114))] 65 (mkF 65 0 [(0, .row 4 (kidsV p0)), (2, .str p2), (9, .int .i64 a), (10, .int .i64 (b : Int))]) ⟨0, []⟩
def cM (m : Nat) (p0 : List Tree) (a : Nat) (b : Int) (c : List UInt8) (r0 r1 : Int) (r2 : Bool) : Prop := ∀ (K : Ctx) (j1 : Nat), ao K [] → m ≤ j1 → qLG K Tryz.f114 (fun u _ => u = .tup [.int .i64 r0, .int .i64 r1, .bool r2]) (xI (cB (ae Tryz.f114))) [.loop (xI (cB (ae Tryz.f114))) j1, .blk 2, .seq (xK (ae Tryz.f114))] 65 (mkF 65 0 [(0, .row 4 (kidsV p0)), (1, .int .i64 b), (2, .str c), (11, .int .i64 (a : Int))]) ⟨0, []⟩
def iV (m : Nat) (p0 : List Tree) (p2 : List UInt8) (a : Int) (b : Nat) (r0 r1 : Int) (r2 : Bool) : Prop := ∀ (K : Ctx), ao K [] → qLG K Tryz.f114 (fun u _ => u = .tup [.int .i64 r0, .int .i64 r1, .bool r2]) (xA (xJ (cA (xA (ae Tryz.f114))))) [.seq (xH (ae Tryz.f114))] 65 (mkF 65 0 [(0, .row 4 (kidsV p0)), (2, .str p2), (9, .int .i64 a), (10, .int .i64 (b : Int))]) ⟨0, []⟩
theorem mY (m : Nat) (p0 : List Tree) (p1 : Int) (p2 : List UInt8) (r0 r1 : Int) (r2 : Bool) (h : ∃ a, jY p2 a ∧ ((0 ≤ a) → dH m p0 p2 a 0 r0 r1 r2) ∧ ((¬ 0 ≤ a) → cM m p0 0 p1 p2 r0 r1 r2)) : jl p0 p1 p2 r0 r1 r2 := by
 refine ⟨rfl, rfl, ?_⟩
 refine aj 65 [] Tryz.func114 rfl rfl rfl (ax rfl) fun K hK => ?_
 refine gR 10 rfl ?_
 obtain ⟨a, hs27, h⟩ := h
 refine gC0 hs27 (by kernel_rfl) rfl rfl .rfl rfl <| gR 10 rfl <| gB 15 rfl rfl rfl ?_ ?_ <;> intro hd
 replace hd := (of_decide_eq_true hd)
 replace h := h.1 hd
 exact gR 8 rfl <| go_loop m <| gJ (h K _ hK (by omega)) [] [] rfl hK pq4 trivial rfl
 replace hd := (of_decide_eq_false hd)
 replace h := h.2 hd
 exact gR 10 rfl <| go_loop m <| gJ (h K _ hK (by omega)) [] [] rfl hK pq4 trivial rfl
theorem iu (m : Nat) (p0 : List Tree) (p2 : List UInt8) (c : Int) (a : Nat) (r0 r1 : Int) (r2 : Bool) (h : ((a < p0.length) → ∃ d, p0[a]? = some d ∧ ∃ b, c = ((b : Nat) : Int) ∧ b ≤ p2.length ∧ ((d.text ≠ (p2.take b)) → dH m p0 p2 c (a + 1) r0 r1 r2) ∧ ((d.text = (p2.take b)) → iV m p0 p2 c a r0 r1 r2)) ∧ ((¬ a < p0.length) → iV m p0 p2 c a r0 r1 r2)) : dH (m + 1) p0 p2 c a r0 r1 r2 := by
 intro K j1 hK hj1
 obtain ⟨j1, rfl⟩ : ∃ j, j1 = j + 1 := ⟨j1 - 1, by omega⟩
 refine gR 2 rfl <| gDs [] 15 15 rfl (by kernel_rfl) (by kernel_rfl) <| gDr [(0, 2), (1, 0), (2, 0)] (by kernel_rfl) rfl rfl <| gV 18 (.int .i64 (p0.length : Int)) rfl (aL (aG _)) rfl <| gLB 17 rfl (aG _) fun hl31 => gDr [(3, 0), (4, 0)] (by kernel_rfl) rfl rfl <| gB 20 rfl rfl rfl ?_ ?_ <;> intro hd
 refine gT 19 rfl hd rfl ?_
 replace hd := (bZ hd)
 replace h := h.1 hd
 refine gDr [(5, 2), (6, 2)] (by kernel_rfl) rfl rfl ?_
 obtain ⟨d, hxt1_1, h⟩ := h
 refine gYd 7 rfl (by kernel_rfl) (ay (aq hxt1_1) ab rfl rfl rfl rfl) rfl rfl <| gDr [(8, 2), (9, 2), (10, 2), (11, 0)] (by kernel_rfl) rfl rfl ?_
 obtain ⟨b, e, h⟩ := h
 refine gV 27 (.int .i64 ((b : Nat) : Int)) rfl (bo e) rfl ?_
 obtain ⟨hb', h⟩ := h
 refine eh 12 rfl (by kernel_rfl) (ySS ab rfl rfl vd (pV rfl) (Nat.zero_le _) hb' (tA _ _)) rfl rfl ?_
 refine gDr [(13, 0), (14, 0)] (by kernel_rfl) rfl rfl <| gDe (by kernel_rfl) <| gR 1 rfl <| gB 30 rfl rfl rfl ?_ ?_ <;> intro hd
 replace hd := (bN hd)
 replace h := h.1 hd
 exact gR 7 rfl <| gV 32 (.int .i64 ((a + 1 : Nat) : Int)) rfl (au (by have := hl31; omega) (by omega)) rfl <| gR 3 rfl <| go_xloop <| gJ (h K _ hK (by omega)) [] [] rfl hK pq4 trivial rfl
 replace hd := (bn hd)
 replace h := h.2 hd
 exact gR 3 rfl <| go_xloopE <| gR 2 rfl <| gJ (h K hK) [] [] rfl hK pq4 trivial rfl
 refine gF 19 rfl hd rfl ?_
 replace hd := (bV hd)
 replace h := h.2 hd
 exact gDr [(5, 2), (6, 2), (7, 2), (8, 2), (9, 2), (10, 2), (11, 0), (12, 0), (13, 0), (14, 0)] (by kernel_rfl) rfl rfl <| gDe (by kernel_rfl) <| gR 4 rfl <| go_xloopE <| gR 2 rfl <| gJ (h K hK) [] [] rfl hK pq4 trivial rfl
theorem mh (m : Nat) (p0 : List Tree) (a : Nat) (b : Int) (d : List UInt8) (r0 r1 : Int) (r2 : Bool) (h : ∃ e, b = ((e : Nat) : Int) ∧ ∃ c, p0[e]? = some c ∧ ((a < c.kids.length) → ∃ f, b = ((f : Nat) : Int) ∧ ∃ i, p0[f]? = some i ∧ ∃ g, i.kids[a]? = some g ∧ ((g.text = d) → b = r0 ∧ (a : Int) = r1 ∧ true = r2) ∧ ((g.text ≠ d) → cM m p0 (a + 1) b d r0 r1 r2)) ∧ ((¬ a < c.kids.length) → 0 = r0 ∧ 0 = r1 ∧ false = r2)) : cM (m + 1) p0 a b d r0 r1 r2 := by
 intro K j1 hK hj1
 obtain ⟨j1, rfl⟩ : ∃ j, j1 = j + 1 := ⟨j1 - 1, by omega⟩
 refine gR 6 rfl ?_
 obtain ⟨e, k, h⟩ := h
 refine gV 44 (.int .i64 ((e : Nat) : Int)) rfl (bo k) rfl ?_
 obtain ⟨c, hxt2_2, h⟩ := h
 refine gY (ay (aq hxt2_2) ab rfl rfl rfl rfl) rfl rfl <| gR 3 rfl <| gV 48 (.int .i64 (c.kids.length : Int)) rfl (aL (aG _)) rfl <| gLB 47 rfl (aG _) fun hl32 => gR 3 rfl <| gB 49 rfl rfl rfl ?_ ?_ <;> intro hd
 replace hd := (bZ hd)
 replace h := h.1 hd
 refine gR 9 rfl ?_
 obtain ⟨f, l, h⟩ := h
 refine gV 53 (.int .i64 ((f : Nat) : Int)) rfl (bo l) rfl ?_
 obtain ⟨i, hxt2_4, h⟩ := h
 refine gY (ay (aq hxt2_4) ab rfl rfl rfl rfl) rfl rfl <| gR 3 rfl ?_
 obtain ⟨g, hxt2_5, h⟩ := h
 refine gY (ay (aq hxt2_5) ab rfl rfl rfl rfl) rfl rfl <| gR 6 rfl <| gB 62 rfl rfl rfl ?_ ?_ <;> intro hd
 replace hd := (eq_of_beq hd)
 replace h := h.1 hd
 refine gR 13 rfl <| go_xloopR <| gR 2 rfl ?_
 obtain ⟨rfl, rfl, rfl⟩ := h
 exact go_end ab (rs := [.tmp 6, .tmp 7, .tmp 8]) rfl rfl rfl
 replace hd := (ne_of_beq_false hd)
 replace h := h.2 hd
 exact gR 7 rfl <| gV 51 (.int .i64 ((a + 1 : Nat) : Int)) rfl (au (by have := hl32; omega) (by omega)) rfl <| gR 2 rfl <| go_xloop <| gJ (h K _ hK (by omega)) [] [] rfl hK pq4 trivial rfl
 replace hd := (bV hd)
 replace h := h.2 hd
 refine gR 3 rfl <| go_xloopE <| gR 10 rfl ?_
 obtain ⟨rfl, rfl, rfl⟩ := h
 exact go_end ab (rs := [.tmp 6, .tmp 7, .tmp 8]) rfl rfl rfl
theorem lN (m : Nat) (p0 : List Tree) (p2 : List UInt8) (b : Int) (c : Nat) (r0 r1 : Int) (r2 : Bool) (h : ((c = p0.length) → 0 = r0 ∧ 0 = r1 ∧ false = r2) ∧ ((c ≠ p0.length) → InI (b + 1) ∧ ∃ a, (b + 1) = ((a : Nat) : Int) ∧ a ≤ p2.length ∧ cM m p0 0 (c : Int) (p2.drop a) r0 r1 r2)) : iV (m + 1) p0 p2 b c r0 r1 r2 := by
 intro K hK
 refine gR 6 rfl <| gV 35 (.int .i64 (p0.length : Int)) rfl (aL (aG _)) rfl <| gLB 34 rfl (aG _) fun hl33 => gR 3 rfl <| gB 36 rfl rfl rfl ?_ ?_ <;> intro hd
 replace hd := (IX hd)
 replace h := h.1 hd
 refine gR 11 rfl ?_
 obtain ⟨rfl, rfl, rfl⟩ := h
 exact go_end ab (rs := [.tmp 6, .tmp 7, .tmp 8]) rfl rfl rfl
 replace hd := (Jf hd)
 replace h := h.2 hd
 refine gR 3 rfl <| gDs [] 7 7 rfl (by kernel_rfl) (by kernel_rfl) <| gDr [(0, 2), (1, 2), (2, 2)] (by kernel_rfl) rfl rfl ?_
 obtain ⟨hb, h⟩ := h
 refine gDr [(3, 2)] (by kernel_rfl) rfl rfl <| gV 40 (.int .i64 (b + 1)) rfl (au hb rfl) rfl ?_
 obtain ⟨a, d, h⟩ := h
 refine gV 40 (.int .i64 ((a : Nat) : Int)) rfl (bo d) rfl ?_
 obtain ⟨hb, h⟩ := h
 exact gYd 4 rfl (by kernel_rfl) (ySS ab rfl rfl (pV rfl) vd hb (Nat.le_refl _) (tu _ _)) rfl rfl <| gDr [(5, 0), (6, 0)] (by kernel_rfl) rfl rfl <| gDe (by kernel_rfl) <| gR 8 rfl <| go_loop m <| gJ (h K _ hK (by omega)) [] [] rfl hK pq4 trivial rfl
end Go.Proofs.YthnohcipianijaaGreatDoor
namespace Go.Proofs.YthnohcipianijaaGreatDoor
open Go.RowKit Lx Sx
set_option maxRecDepth 100000
set_option maxHeartbeats 4000000
structure ac where
 kind : Int
 module : Int
 def_ : Int
 free : Bool
 text : (List UInt8)
 kids : (List ac)
mutual
def ac.v : ac → V
 | .mk a0 a1 a2 a3 a4 a5 => .agg [.int .i64 a0, .int .i64 a1, .int .i64 a2, .bool a3, .str a4, .row 6 (ac.vs a5)]
def ac.vs : List ac → List V
 | [] => []
 | t :: r => ac.v t :: ac.vs r
end
abbrev ac.c (x : ac) : List V := [.int .i64 x.kind, .int .i64 x.module, .int .i64 x.def_, .bool x.free, .str x.text, .row 6 (ac.vs x.kids)]
abbrev ac.w (x : ac) : V := .agg x.c
theorem ac.v_eq (x : ac) : x.v = x.w := by cases x; simp [ac.v]
theorem ac.vs_map : ∀ l : List ac, ac.vs l = l.map ac.w
 | [] => by simp [ac.vs]
 | t :: r => by simp [ac.vs, ac.v_eq, ac.vs_map r]
theorem ac.vlen (l : List ac) : (ac.vs l).length = l.length := by rw [ac.vs_map, List.length_map]
theorem ac.vget {l : List ac} {i : Nat} {u : ac} (h : l[i]? = some u) : (ac.vs l)[i]? = some u.w := by rw [ac.vs_map, List.getElem?_map, h]; rfl
theorem ac.vapp (a b : List ac) : ac.vs (a ++ b) = ac.vs a ++ ac.vs b := by simp [ac.vs_map]
theorem ac.vset (l : List ac) (i : Nat) (x : ac) : (ac.vs l).set i x.w = ac.vs (l.set i x) := by rw [ac.vs_map, ac.vs_map, List.map_set]
theorem ac.vsub (l : List ac) (i j : Nat) : ((ac.vs l).drop i).take j = ac.vs ((l.drop i).take j) := by rw [ac.vs_map, ac.vs_map, List.map_take, List.map_drop]
theorem ac.vren (σ : List Nat) (l : List ac) : renL σ (ac.vs l) = ac.vs l := by rw [ac.vs_map]; exact ar σ ac.w (fun _ => rfl) l
theorem ac.vpure (l : List ac) : pureL (ac.vs l) = true := by rw [ac.vs_map]; exact iA ac.w (fun _ => rfl) l
theorem ac.vone (x : ac) : [x.w] = ac.vs [x] := by rw [ac.vs_map]; rfl
structure ai where
 name : (List UInt8)
 value : GDatum
abbrev ai.c (x : ai) : List V := [.str x.name, .int .i64 x.value.Kind, .int .i64 x.value.N, .str x.value.S, .row 4 (GDatum.vs x.value.L)]
abbrev ai.w (x : ai) : V := .agg x.c
def jw (p0 : List UInt8) (p1 p2 r0 : Int) (r1 : Unit) : Prop := qS 102 [.str p0, .int .i64 p1, .int .i64 p2] (.tup [.int .i64 r0, .raw .nilIface])
def jc (p0 : Tree) (a : List GTarget) (r0 : ac) (b : List GTarget) : Prop := ci [] Tryz.prog 44 [.agg (an p0), .ptr 0 0] ⟨1, [(0, .var 64 [.row 5 (List.map GTarget.w a)])]⟩ (fun u G => u = .agg (ac.c r0) ∧ G = ⟨2, [(0, .var 64 [.row 5 (List.map GTarget.w b)])]⟩)
def lM (p0 : List Tree) (p1 p2 p3 : Int) (r0 : Bool) : Prop := qS 42 [.row 4 (kidsV p0), .int .i64 p1, .int .i64 p2, .int .i64 p3] (.bool r0)
def eY (p0 : Bool) (r0 : GDatum) : Prop := qS 103 [.bool p0] (.agg (GDatum.c r0))
def S_eval_runner_value (a : List ac) (d e : Int) (p1 : ac) (p2 : List ai) (r0 : GDatum) (r1 : Int) (b : List ac) (f g : Int) : Prop := ci [] Tryz.prog 69 [.ptr 0 0, .box (ac.c p1) 0, .lk (List.map ai.c p2)] ⟨1, [(0, .var 69 [.row 6 (ac.vs a), .int .i64 d, .int .i64 e])]⟩ (fun u G => u = .tup [.agg (GDatum.c r0), .int .i64 r1] ∧ G = ⟨2, [(0, .var 69 [.row 6 (ac.vs b), .int .i64 f, .int .i64 g])]⟩)
def S_eval_runner_all (a : List ac) (d e : Int) (p1 : ac) (p2 : List ai) (r0 : List GDatum) (r1 : Int) (b : List ac) (f g : Int) : Prop := ci [] Tryz.prog 152 [.ptr 0 0, .box (ac.c p1) 0, .lk (List.map ai.c p2)] ⟨1, [(0, .var 69 [.row 6 (ac.vs a), .int .i64 d, .int .i64 e])]⟩ (fun u G => u = .tup [.row 4 (GDatum.vs r0), .int .i64 r1] ∧ G = ⟨1, [(0, .var 69 [.row 6 (ac.vs b), .int .i64 f, .int .i64 g])]⟩)
def mn (a : List ac) (d e : Int) (p1 : ac) (p2 : List ai) (r0 : GDatum) (r1 : Int) (b : List ac) (f g : Int) : Prop := ci [] Tryz.prog 104 [.ptr 0 0, .box (ac.c p1) 0, .lk (List.map ai.c p2)] ⟨1, [(0, .var 69 [.row 6 (ac.vs a), .int .i64 d, .int .i64 e])]⟩ (fun u G => u = .tup [.agg (GDatum.c r0), .int .i64 r1] ∧ G = ⟨2, [(0, .var 69 [.row 6 (ac.vs b), .int .i64 f, .int .i64 g])]⟩)
def nS (a : List ac) (d e : Int) (p1 : ac) (p2 : List ai) (r0 : GDatum) (r1 : Int) (b : List ac) (f g : Int) : Prop := ci [] Tryz.prog 105 [.ptr 0 0, .box (ac.c p1) 0, .lk (List.map ai.c p2)] ⟨1, [(0, .var 69 [.row 6 (ac.vs a), .int .i64 d, .int .i64 e])]⟩ (fun u G => u = .tup [.agg (GDatum.c r0), .int .i64 r1] ∧ G = ⟨2, [(0, .var 69 [.row 6 (ac.vs b), .int .i64 f, .int .i64 g])]⟩)
def jI (a : List ac) (d e : Int) (p1 : ac) (p2 : List ai) (r0 : GDatum) (r1 : Int) (b : List ac) (f g : Int) : Prop := ci [] Tryz.prog 107 [.ptr 0 0, .box (ac.c p1) 0, .lk (List.map ai.c p2)] ⟨1, [(0, .var 69 [.row 6 (ac.vs a), .int .i64 d, .int .i64 e])]⟩ (fun u G => u = .tup [.agg (GDatum.c r0), .int .i64 r1] ∧ G = ⟨2, [(0, .var 69 [.row 6 (ac.vs b), .int .i64 f, .int .i64 g])]⟩)
def S_eval_runner_enter (a : List ac) (d e : Int) (p1 : ac) (p2 : List GDatum) (r0 : GDatum) (r1 : Int) (b : List ac) (f g : Int) : Prop := ci [] Tryz.prog 45 [.ptr 0 0, .box (ac.c p1) 0, .row 4 (GDatum.vs p2)] ⟨1, [(0, .var 69 [.row 6 (ac.vs a), .int .i64 d, .int .i64 e])]⟩ (fun u G => u = .tup [.agg (GDatum.c r0), .int .i64 r1] ∧ G = ⟨2, [(0, .var 69 [.row 6 (ac.vs b), .int .i64 f, .int .i64 g])]⟩)
def nT (a : List ac) (d e : Int) (p1 : ac) (p2 : List ai) (r0 : GDatum) (r1 : Int) (b : List ac) (f g : Int) : Prop := ci [] Tryz.prog 106 [.ptr 0 0, .box (ac.c p1) 0, .lk (List.map ai.c p2)] ⟨1, [(0, .var 69 [.row 6 (ac.vs a), .int .i64 d, .int .i64 e])]⟩ (fun u G => u = .tup [.agg (GDatum.c r0), .int .i64 r1] ∧ G = ⟨2, [(0, .var 69 [.row 6 (ac.vs b), .int .i64 f, .int .i64 g])]⟩)
def lF (p0 : List Tree) (p1 p2 : Int) (p3 : List GDatum) (p4 : Int) (r0 : GDatum) (r1 r2 : Int) : Prop := qS 22 [.row 4 (kidsV p0), .int .i64 p1, .int .i64 p2, .row 4 (GDatum.vs p3), .int .i64 p4] (.tup [.agg (GDatum.c r0), .int .i64 r1, .int .i64 r2])
def iF (m : Nat) (p0 : Tree) (a : List GTarget) (b : Bool) (r0 : ac) (d : List GTarget) : Prop := ∀ (K : Ctx), ao K [0] → qLG K Tryz.f44 (fun u G => u = .agg (ac.c r0) ∧ G = ⟨2, [(0, .var 64 [.row 5 (List.map GTarget.w d)])]⟩) (cB (cA (xA (ae Tryz.f44)))) [.seq (xH (ae Tryz.f44))] 59 (mkF 59 0 [(1, .ptr 0 0), (2, .box (an p0) 0), (4, .ptr 1 0), (5, .ptr 2 0), (21, .bool b)]) ⟨3, [(2, .var 71 [.int .i64 p0.kind, .int .i64 0, .int .i64 0, .bool false, .str p0.text, .nils]), (1, .var 71 [.int .i64 0, .int .i64 0, .int .i64 0, .bool false, .str [], .nils]), (0, .var 64 [.row 5 (List.map GTarget.w a)])]⟩
def fa (m : Nat) (p0 : Tree) (a : List GTarget) (b d : Int) (e : Bool) (f : List ac) (g : Nat) (r0 : ac) (i : List GTarget) : Prop := ∀ (K : Ctx) (j1 : Nat), ao K [0] → m ≤ j1 → qLG K Tryz.f44 (fun u G => u = .agg (ac.c r0) ∧ G = ⟨2, [(0, .var 64 [.row 5 (List.map GTarget.w i)])]⟩) (xI (cB (ae Tryz.f44))) [.loop (xI (cB (ae Tryz.f44))) j1, .blk 0, .seq (xK (ae Tryz.f44))] 59 (mkF 59 0 [(1, .ptr 0 0), (4, .ptr 1 0), (5, .ptr 2 0), (43, .row 4 (kidsV p0.kids)), (44, .int .i64 (p0.kids.length : Int)), (45, .int .i64 (g : Int))]) ⟨4, [(3, .row 71 6 (ac.vs f)), (2, .var 71 [.int .i64 p0.kind, .int .i64 b, .int .i64 d, .bool e, .str p0.text, .sl 3]), (1, .var 71 [.int .i64 0, .int .i64 0, .int .i64 0, .bool false, .str [], .nils]), (0, .var 64 [.row 5 (List.map GTarget.w a)])]⟩
theorem ud (m : Nat) (p0 : Tree) (a : List GTarget) (r0 : ac) (b : List GTarget) (h : ((p0.kind = 16) → iF m p0 a true r0 b) ∧ ((p0.kind ≠ 16) → iF m p0 a (p0.kind == 9) r0 b)) : jc p0 a r0 b := by
 refine aj 59 [0] Tryz.func44 rfl rfl rfl (ax rfl) fun K hK => ?_
 refine gR 3 rfl <| gFP 1 rfl rfl rfl rfl <| gR 21 rfl <| qBeZ 17 16 rfl rfl rfl rfl h (fun h => ?_) fun h => ?_
 exact gR 6 rfl <| gJ (h K hK) [0, 2, 3] [0] rfl hK pq5 (pqo3 rfl rfl rfl rfl rfl rfl) rfl
 exact gR 6 rfl <| gJ (h K hK) [0, 2, 3] [0] rfl hK pq5 (pqo3 rfl rfl rfl rfl rfl rfl) rfl
theorem tc (m : Nat) (p0 : Tree) (a : List GTarget) (c : Bool) (r0 : ac) (d : List GTarget) (h : ((c = true) → ∃ b, a[0]? = some b ∧ 1 ≤ a.length ∧ fa m p0 (a.drop 1) b.Module b.Def b.Free ([] : List ac) 0 r0 d) ∧ ((c = false) → fa m p0 a 0 0 false ([] : List ac) 0 r0 d)) : iF (m + 1) p0 a c r0 d := by
 intro K hK
 refine gB 21 rfl rfl rfl ?_ ?_ <;> intro hd
 replace h := h.1 hd
 refine gR 6 rfl ?_
 obtain ⟨b, hxx1_1, h⟩ := h
 refine gY (ay (mapget (f := GTarget.w) hxx1_1) ab rfl rfl rfl rfl) rfl rfl <| gR 11 rfl ?_
 obtain ⟨hb, h⟩ := h
 exact gY (Gn (aZ GTarget.w a) ab rfl rfl (pV rfl) vd hb (Nat.le_refl _) ((Jd _ _ _ _).trans (congrArg _ (tu _ _)))) rfl rfl <| gR 4 rfl <| gDs [3] 11 12 rfl (by kernel_rfl) (by kernel_rfl) <| gDr [(0, 2), (1, 3), (2, 2), (3, 3), (4, 2), (5, 3), (6, 0), (7, 0), (8, 0), (9, 0), (10, 0), (11, 1)] (by kernel_rfl) rfl rfl <| gDe (by kernel_rfl) <| gR 7 rfl <| gV 44 (.int .i64 (p0.kids.length : Int)) rfl (aL (aG _)) rfl <| gLB 43 rfl (aG _) fun hl8 => gR 4 rfl <| go_loop m <| gNC 2 5 71 6 rfl rfl rfl rfl <| gJ (h K _ hK (by omega)) [0, 1, 2, 4] [0] rfl hK pq6 ⟨⟨_, rfl, rfl, rfl, rfl⟩, (pqo3 rfl rfl rfl rfl rfl rfl)⟩ rfl
 replace h := h.2 hd
 exact gR 9 rfl <| gV 44 (.int .i64 (p0.kids.length : Int)) rfl (aL (aG _)) rfl <| gLB 43 rfl (aG _) fun hl9 => gR 4 rfl <| go_loop m <| gNC 2 5 71 6 rfl rfl rfl rfl <| gJ (h K _ hK (by omega)) [0, 1, 2, 3] [0] rfl hK pq6 ⟨⟨_, rfl, rfl, rfl, rfl⟩, (pqo3 rfl rfl rfl rfl rfl rfl)⟩ rfl
theorem oo (m : Nat) (p0 : Tree) (g : List GTarget) (b c : Int) (d : Bool) (a : List ac) (f : Nat) (r0 : ac) (i : List GTarget) (h : ((f < p0.kids.length) → ∃ k, p0.kids[f]? = some k ∧ ∃ e l, jc k g e l ∧ (a ++ [e]).length ≤ 1000000000 ∧ f + 1 ≤ 9223372036854775807 ∧ fa m p0 l b c d (a ++ [e]) (f + 1) r0 i) ∧ ((¬ f < p0.kids.length) → (ac.mk p0.kind b c d p0.text a) = r0 ∧ g = i)) : fa (m + 1) p0 g b c d a f r0 i := by
 intro K j1 hK hj1
 obtain ⟨j1, rfl⟩ : ∃ j, j1 = j + 1 := ⟨j1 - 1, by omega⟩
 refine gR 6 rfl <| gB 46 rfl rfl rfl ?_ ?_ <;> intro hd
 replace hd := (bZ hd)
 replace h := h.1 hd
 refine gR 7 rfl ?_
 obtain ⟨k, hxt2_1, h⟩ := h
 refine gY (ay (aq hxt2_1) ab rfl rfl rfl rfl) rfl rfl <| gR 5 rfl <| gDs [2, 4] 8 9 rfl (by kernel_rfl) (by kernel_rfl) <| gDr [(0, 2), (1, 3), (2, 3), (3, 0)] (by kernel_rfl) rfl rfl ?_
 obtain ⟨e, l, hs10, h⟩ := h
 refine gDC 4 hs10 [0] (by kernel_rfl) rfl (by kernel_rfl) rfl rfl .rfl ⟨⟨_, rfl, ⟨rfl, av.rfl⟩⟩, trivial⟩ (by kernel_rfl) rfl ?_
 rintro _ _ ⟨rfl, rfl⟩
 refine gDr [(5, 0)] (by kernel_rfl) rfl rfl <| gHR 7 (ac.vs [e]) rfl (ac.vone e) rfl ?_
 obtain ⟨hb, h⟩ := h
 refine cf 6 (.repl 3 (.row 71 6 (ac.vs (a ++ [e])))) rfl (by kernel_rfl) (bw ab rfl rfl rfl rfl rfl (ac.vapp a [e]).symm (by rw [ac.vlen]; exact hb)) (okR rfl) rfl (by kernel_rfl) rfl rfl ?_
 refine gDr [(7, 0), (8, 1)] (by kernel_rfl) rfl rfl <| gDe (by kernel_rfl) <| gR 3 rfl ?_
 obtain ⟨hb, h⟩ := h
 exact gR 1 rfl <| gV 57 (.int .i64 ((f + 1 : Nat) : Int)) rfl (au (by omega) (by omega)) rfl <| gR 2 rfl <| go_xloop <| gJ (h K _ hK (by omega)) [0, 1, 2, 8] [0] rfl hK pq6 ⟨⟨_, rfl, rfl, rfl, (ac.vren _ (a ++ [e])).symm⟩, (pqo3 rfl rfl rfl rfl rfl rfl)⟩ rfl
 replace hd := (bV hd)
 replace h := h.2 hd
 refine gR 3 rfl <| go_xloopE <| gR 9 rfl <| gFR 3 rfl (ac.vpure _) rfl rfl ?_
 obtain ⟨rfl, rfl⟩ := h
 exact go_sub (F' := (mkF 59 0 [(4, .ptr 1 0)])) (H' := ⟨2, [(1, .var 71 (ac.c (ac.mk p0.kind b c d p0.text a))), (0, .var 64 [.row 5 (List.map GTarget.w g)])]⟩) [0, 1] [0] rfl hK pq1 (pqo2 rfl rfl rfl rfl) rfl <| go_endD [1] ab (rs := [.cell 4 71]) rfl rfl ⟨rfl, rfl⟩
def fb (m : Nat) (p0 : List Tree) (p1 p2 p3 : Int) (a : Nat) (r0 : Bool) : Prop := ∀ (K : Ctx) (j1 : Nat), ao K [] → m ≤ j1 → qLG K Tryz.f42 (fun u _ => u = .bool r0) (cL (xE (cB (ae Tryz.f42)))) [.loop (cL (xE (cB (ae Tryz.f42)))) j1, .blk 0, .seq (xA (ae Tryz.f42))] 68 (mkF 68 0 [(0, .row 4 (kidsV p0)), (1, .int .i64 p1), (2, .int .i64 p2), (3, .int .i64 p3), (12, .row 4 (kidsV p0)), (13, .int .i64 (p0.length : Int)), (14, .int .i64 (a : Int))]) ⟨0, []⟩
theorem tY (m : Nat) (p0 : List Tree) (p1 p2 p3 : Int) (r0 : Bool) (h : fb m p0 p1 p2 p3 0 r0) : lM p0 p1 p2 p3 r0 := by
 refine ⟨rfl, rfl, ?_⟩
 refine aj 68 [] Tryz.func42 rfl rfl rfl (ax rfl) fun K hK => ?_
 exact gR 10 rfl <| gV 13 (.int .i64 (p0.length : Int)) rfl (aL (aG _)) rfl <| gLB 12 rfl (aG _) fun hl11 => gR 4 rfl <| go_loop m <| gJ (h K _ hK (by omega)) [] [] rfl hK pq7 trivial rfl
theorem ot (m : Nat) (p0 : List Tree) (p1 p2 p3 : Int) (a : Nat) (r0 : Bool) (h : ((a < p0.length) → ∃ c, p0[a]? = some c ∧ ((c.kind ≠ 1) → false = r0) ∧ ((c.kind = 1) → ∃ e, fS c e ∧ ((e = false) → false = r0) ∧ ((e = true) → a + 1 ≤ 9223372036854775807 ∧ fb m p0 p1 p2 p3 (a + 1) r0))) ∧ ((¬ a < p0.length) → ((p1 < 0) → false = r0) ∧ ((¬ p1 < 0) → (((p0.length : Int) ≤ p1) → false = r0) ∧ ((¬ (p0.length : Int) ≤ p1) → ((p2 < 0) → false = r0) ∧ ((¬ p2 < 0) → ∃ f, p1 = ((f : Nat) : Int) ∧ ∃ d, p0[f]? = some d ∧ (((d.kids.length : Int) ≤ p2) → false = r0) ∧ ((¬ (d.kids.length : Int) ≤ p2) → ∃ g, p1 = ((g : Nat) : Int) ∧ ∃ k, p0[g]? = some k ∧ ∃ i, p2 = ((i : Nat) : Int) ∧ ∃ b, k.kids[i]? = some b ∧ ((b.kind = 2) → InI (p3 + 2) ∧ ((b.kids.length : Int) == (p3 + 2)) = r0) ∧ ((b.kind ≠ 2) → false = r0))))))) : fb (m + 1) p0 p1 p2 p3 a r0 := by
 intro K j1 hK hj1
 obtain ⟨j1, rfl⟩ : ∃ j, j1 = j + 1 := ⟨j1 - 1, by omega⟩
 refine gR 6 rfl <| gB 15 rfl rfl rfl ?_ ?_ <;> intro hd
 replace hd := (bZ hd)
 replace h := h.1 hd
 refine gR 7 rfl ?_
 obtain ⟨c, hxt1_1, h⟩ := h
 refine gY (ay (aq hxt1_1) ab rfl rfl rfl rfl) rfl rfl <| gR 11 rfl <| gB 21 rfl rfl rfl ?_ ?_ <;> intro hd
 refine gT 20 rfl hd rfl ?_
 replace hd := (bN hd)
 replace h := h.1 hd
 refine gR 15 rfl <| go_xloopR <| gR 2 rfl ?_
 subst h
 exact go_end ab (rs := [.tmp 8]) rfl rfl rfl
 refine gF 20 rfl hd rfl ?_
 replace hd := (bn hd)
 replace h := h.2 hd
 refine gR 1 rfl ?_
 obtain ⟨e, hs12, h⟩ := h
 refine gC0 hs12 (by kernel_rfl) rfl rfl .rfl rfl <| gR 4 rfl <| gB 25 rfl rfl rfl ?_ ?_ <;> intro hd
 replace hd := (cb hd)
 replace h := h.1 hd
 refine gR 9 rfl <| go_xloopR <| gR 2 rfl ?_
 subst h
 exact go_end ab (rs := [.tmp 8]) rfl rfl rfl
 replace hd := (cc hd)
 replace h := h.2 hd
 refine gR 5 rfl ?_
 obtain ⟨hb, h⟩ := h
 exact gR 1 rfl <| gV 26 (.int .i64 ((a + 1 : Nat) : Int)) rfl (au (by omega) (by omega)) rfl <| gR 2 rfl <| go_xloop <| gJ (h K _ hK (by omega)) [] [] rfl hK pq7 trivial rfl
 replace hd := (bV hd)
 replace h := h.2 hd
 refine gR 3 rfl <| go_xloopE <| gR 8 rfl <| gB 29 rfl rfl rfl ?_ ?_ <;> intro hd
 refine gT 28 rfl hd rfl ?_
 replace hd := (of_decide_eq_true hd)
 replace h := h.1 hd
 refine gR 29 rfl ?_
 subst h
 exact go_end ab (rs := [.tmp 8]) rfl rfl rfl
 refine gF 28 rfl hd rfl ?_
 replace hd := (of_decide_eq_false hd)
 replace h := h.2 hd
 refine gR 3 rfl <| gV 32 (.int .i64 (p0.length : Int)) rfl (aL (aG _)) rfl <| gLB 31 rfl (aG _) fun hl13 => gR 3 rfl <| gB 35 rfl rfl rfl ?_ ?_ <;> intro hd
 refine gT 34 rfl hd rfl ?_
 replace hd := (of_decide_eq_true hd)
 replace h := h.1 hd
 refine gR 23 rfl ?_
 subst h
 exact go_end ab (rs := [.tmp 8]) rfl rfl rfl
 refine gF 34 rfl hd rfl ?_
 replace hd := (of_decide_eq_false hd)
 replace h := h.2 hd
 refine gR 4 rfl <| gB 39 rfl rfl rfl ?_ ?_ <;> intro hd
 refine gT 38 rfl hd rfl ?_
 replace hd := (of_decide_eq_true hd)
 replace h := h.1 hd
 refine gR 19 rfl ?_
 subst h
 exact go_end ab (rs := [.tmp 8]) rfl rfl rfl
 refine gF 38 rfl hd rfl ?_
 replace hd := (of_decide_eq_false hd)
 replace h := h.2 hd
 refine gR 3 rfl ?_
 obtain ⟨f, l, h⟩ := h
 refine gV 42 (.int .i64 ((f : Nat) : Int)) rfl (bo l) rfl ?_
 obtain ⟨d, hxt1_4, h⟩ := h
 refine gY (ay (aq hxt1_4) ab rfl rfl rfl rfl) rfl rfl <| gR 3 rfl <| gV 46 (.int .i64 (d.kids.length : Int)) rfl (aL (aG _)) rfl <| gLB 45 rfl (aG _) fun hl14 => gR 4 rfl <| gB 48 rfl rfl rfl ?_ ?_ <;> intro hd
 replace hd := (of_decide_eq_true hd)
 replace h := h.1 hd
 refine gR 8 rfl ?_
 subst h
 exact go_end ab (rs := [.tmp 8]) rfl rfl rfl
 replace hd := (of_decide_eq_false hd)
 replace h := h.2 hd
 refine gR 7 rfl ?_
 obtain ⟨g, n, h⟩ := h
 refine gV 50 (.int .i64 ((g : Nat) : Int)) rfl (bo n) rfl ?_
 obtain ⟨k, hxt1_6, h⟩ := h
 refine gY (ay (aq hxt1_6) ab rfl rfl rfl rfl) rfl rfl <| gR 3 rfl ?_
 obtain ⟨i, o, h⟩ := h
 refine gV 54 (.int .i64 ((i : Nat) : Int)) rfl (bo o) rfl ?_
 obtain ⟨b, hxt1_8, h⟩ := h
 refine gY (ay (aq hxt1_8) ab rfl rfl rfl rfl) rfl rfl <| gR 11 rfl <| gB 60 rfl rfl rfl ?_ ?_ <;> intro hd
 refine gT 59 rfl hd rfl ?_
 replace hd := (eq_of_beq hd)
 replace h := h.1 hd
 refine gR 3 rfl <| gV 63 (.int .i64 (b.kids.length : Int)) rfl (aL (aG _)) rfl <| gLB 62 rfl (aG _) fun hl15 => gR 1 rfl ?_
 obtain ⟨hb, h⟩ := h
 refine gR 1 rfl <| gV 65 (.int .i64 (p3 + 2)) rfl (au hb rfl) rfl <| gR 6 rfl ?_
 subst h
 exact go_end ab (rs := [.tmp 8]) rfl rfl rfl
 refine gF 59 rfl hd rfl ?_
 replace hd := (ne_of_beq_false hd)
 replace h := h.2 hd
 refine gR 11 rfl ?_
 subst h
 exact go_end ab (rs := [.tmp 8]) rfl rfl rfl
theorem ue (m : Nat) (p0 : Bool) (r0 : GDatum) (h : ((p0 = true) → (GDatum.mk 3 1 [] []) = r0) ∧ ((p0 = false) → (GDatum.mk 3 0 [] []) = r0)) : eY p0 r0 := by
 refine ⟨rfl, rfl, ?_⟩
 refine aj 8 [] Tryz.func103 rfl rfl rfl (ax rfl) fun K hK => ?_
 refine gR 18 rfl <| qBiZ 5 0 rfl rfl rfl rfl h (fun h => ?_) fun h => ?_
 refine gR 13 rfl ?_
 subst h
 exact go_sub (F' := (mkF 8 0 [(2, .ptr 0 0)])) (H' := ⟨1, [(0, .var 24 [.int .i64 ((GDatum.mk 3 1 [] []).Kind), .int .i64 ((GDatum.mk 3 1 [] []).N), .str ((GDatum.mk 3 1 [] []).S), .row 4 (GDatum.vs ((GDatum.mk 3 1 [] []).L))])]⟩) [0] [] rfl hK pq1 ⟨⟨_, rfl, rfl, (.cons .rfl (.cons .rfl (.cons .rfl (.cons (.nil 4) .nil))))⟩, trivial⟩ rfl <| go_end ab (rs := [.cell 2 24]) rfl rfl rfl
 refine gR 10 rfl ?_
 subst h
 exact go_sub (F' := (mkF 8 0 [(2, .ptr 0 0)])) (H' := ⟨1, [(0, .var 24 [.int .i64 ((GDatum.mk 3 0 [] []).Kind), .int .i64 ((GDatum.mk 3 0 [] []).N), .str ((GDatum.mk 3 0 [] []).S), .row 4 (GDatum.vs ((GDatum.mk 3 0 [] []).L))])]⟩) [0] [] rfl hK pq1 ⟨⟨_, rfl, rfl, (.cons .rfl (.cons .rfl (.cons .rfl (.cons (.nil 4) .nil))))⟩, trivial⟩ rfl <| go_end ab (rs := [.cell 2 24]) rfl rfl rfl
def lI (m : Nat) (a : List ac) (d e : Int) (p1 : ac) (r0 : GDatum) (r1 : Int) (b : List ac) (f g : Int) : Prop := ∀ (K : Ctx), ao K [0] → qLG K Tryz.f69 (fun u G => u = .tup [.agg (GDatum.c r0), .int .i64 r1] ∧ G = ⟨2, [(0, .var 69 [.row 6 (ac.vs b), .int .i64 f, .int .i64 g])]⟩) (xJ (xF (cB (ae Tryz.f69)))) [.blk 0, .seq (xK (ae Tryz.f69))] 167 (mkF 167 0 [(1, .box (ac.c p1) 0), (6, .ptr 1 0)]) ⟨2, [(1, .var 24 [.int .i64 0, .int .i64 0, .str [], .nils]), (0, .var 69 [.row 6 (ac.vs a), .int .i64 d, .int .i64 (e + 1)])]⟩
def mm (m : Nat) (a : List ac) (d e : Int) (p1 : ac) (p2 : List ai) (r0 : GDatum) (r1 : Int) (b : List ac) (f g : Int) : Prop := ∀ (K : Ctx), ao K [0] → qLG K Tryz.f69 (fun u G => u = .tup [.agg (GDatum.c r0), .int .i64 r1] ∧ G = ⟨2, [(0, .var 69 [.row 6 (ac.vs b), .int .i64 f, .int .i64 g])]⟩) (xL (cB (ae Tryz.f69))) [.blk 0, .seq (xK (ae Tryz.f69))] 167 (mkF 167 0 [(0, .ptr 0 0), (1, .box (ac.c p1) 0), (2, .lk (List.map ai.c p2)), (6, .ptr 1 0), (33, .int .i64 p1.kind)]) ⟨2, [(1, .var 24 [.int .i64 0, .int .i64 0, .str [], .nils]), (0, .var 69 [.row 6 (ac.vs a), .int .i64 d, .int .i64 (e + 1)])]⟩
def my (m : Nat) (a : List ac) (d e : Int) (p1 : ac) (r0 : GDatum) (r1 : Int) (b : List ac) (f g : Int) : Prop := ∀ (K : Ctx), ao K [0] → qLG K Tryz.f69 (fun u G => u = .tup [.agg (GDatum.c r0), .int .i64 r1] ∧ G = ⟨2, [(0, .var 69 [.row 6 (ac.vs b), .int .i64 f, .int .i64 g])]⟩) (xJ (xL (cB (ae Tryz.f69)))) [.blk 0, .seq (xK (ae Tryz.f69))] 167 (mkF 167 0 [(1, .box (ac.c p1) 0), (6, .ptr 1 0)]) ⟨2, [(1, .var 24 [.int .i64 0, .int .i64 0, .str [], .nils]), (0, .var 69 [.row 6 (ac.vs a), .int .i64 d, .int .i64 (e + 1)])]⟩
def lV (m : Nat) (a : List ac) (d e : Int) (p1 : ac) (p2 : List ai) (r0 : GDatum) (r1 : Int) (b : List ac) (f g : Int) : Prop := ∀ (K : Ctx), ao K [0] → qLG K Tryz.f69 (fun u G => u = .tup [.agg (GDatum.c r0), .int .i64 r1] ∧ G = ⟨2, [(0, .var 69 [.row 6 (ac.vs b), .int .i64 f, .int .i64 g])]⟩) (xC (xF (cB (ae Tryz.f69)))) [.blk 0, .seq (xK (ae Tryz.f69))] 167 (mkF 167 0 [(0, .ptr 0 0), (1, .box (ac.c p1) 0), (2, .lk (List.map ai.c p2)), (6, .ptr 1 0), (33, .int .i64 p1.kind)]) ⟨2, [(1, .var 24 [.int .i64 0, .int .i64 0, .str [], .nils]), (0, .var 69 [.row 6 (ac.vs a), .int .i64 d, .int .i64 (e + 1)])]⟩
def mz (m : Nat) (a : List ac) (d e : Int) (p1 : ac) (p2 : List ai) (r0 : GDatum) (r1 : Int) (b : List ac) (f g : Int) : Prop := ∀ (K : Ctx), ao K [0] → qLG K Tryz.f69 (fun u G => u = .tup [.agg (GDatum.c r0), .int .i64 r1] ∧ G = ⟨2, [(0, .var 69 [.row 6 (ac.vs b), .int .i64 f, .int .i64 g])]⟩) (xC (xL (cB (ae Tryz.f69)))) [.blk 0, .seq (xK (ae Tryz.f69))] 167 (mkF 167 0 [(0, .ptr 0 0), (1, .box (ac.c p1) 0), (2, .lk (List.map ai.c p2)), (6, .ptr 1 0), (33, .int .i64 p1.kind)]) ⟨2, [(1, .var 24 [.int .i64 0, .int .i64 0, .str [], .nils]), (0, .var 69 [.row 6 (ac.vs a), .int .i64 d, .int .i64 (e + 1)])]⟩
def ms (m : Nat) (a : List ac) (d e : Int) (p1 : ac) (p2 : List ai) (r0 : GDatum) (r1 : Int) (b : List ac) (f g : Int) : Prop := ∀ (K : Ctx), ao K [0] → qLG K Tryz.f69 (fun u G => u = .tup [.agg (GDatum.c r0), .int .i64 r1] ∧ G = ⟨2, [(0, .var 69 [.row 6 (ac.vs b), .int .i64 f, .int .i64 g])]⟩) (xG (xF (cB (ae Tryz.f69)))) [.blk 0, .seq (xK (ae Tryz.f69))] 167 (mkF 167 0 [(0, .ptr 0 0), (1, .box (ac.c p1) 0), (2, .lk (List.map ai.c p2)), (6, .ptr 1 0), (33, .int .i64 p1.kind)]) ⟨2, [(1, .var 24 [.int .i64 0, .int .i64 0, .str [], .nils]), (0, .var 69 [.row 6 (ac.vs a), .int .i64 d, .int .i64 (e + 1)])]⟩
def eQ (m : Nat) (a : List ac) (d e : Int) (p1 : ac) (i : List ai) (r0 : GDatum) (r1 : Int) (b : List ac) (f g : Int) : Prop := ∀ (K : Ctx) (j1 : Nat), ao K [0] → m ≤ j1 → qLG K Tryz.f69 (fun u G => u = .tup [.agg (GDatum.c r0), .int .i64 r1] ∧ G = ⟨2, [(0, .var 69 [.row 6 (ac.vs b), .int .i64 f, .int .i64 g])]⟩) (cL (xD (xJ (xG (xF (cB (ae Tryz.f69))))))) [.loop (cL (xD (xJ (xG (xF (cB (ae Tryz.f69))))))) j1, .blk 1, .blk 0, .seq (xK (ae Tryz.f69))] 167 (mkF 167 0 [(1, .box (ac.c p1) 0), (6, .ptr 1 0), (10, .lk (List.map ai.c i))]) ⟨2, [(1, .var 24 [.int .i64 0, .int .i64 0, .str [], .nils]), (0, .var 69 [.row 6 (ac.vs a), .int .i64 d, .int .i64 (e + 1)])]⟩
def lW (m : Nat) (a : List ac) (d e : Int) (p1 : ac) (p2 : List ai) (r0 : GDatum) (r1 : Int) (b : List ac) (f g : Int) : Prop := ∀ (K : Ctx), ao K [0] → qLG K Tryz.f69 (fun u G => u = .tup [.agg (GDatum.c r0), .int .i64 r1] ∧ G = ⟨2, [(0, .var 69 [.row 6 (ac.vs b), .int .i64 f, .int .i64 g])]⟩) (xG (xL (cB (ae Tryz.f69)))) [.blk 0, .seq (xK (ae Tryz.f69))] 167 (mkF 167 0 [(0, .ptr 0 0), (1, .box (ac.c p1) 0), (2, .lk (List.map ai.c p2)), (6, .ptr 1 0), (33, .int .i64 p1.kind)]) ⟨2, [(1, .var 24 [.int .i64 0, .int .i64 0, .str [], .nils]), (0, .var 69 [.row 6 (ac.vs a), .int .i64 d, .int .i64 (e + 1)])]⟩
def mo (m : Nat) (a : List ac) (d e : Int) (p1 : ac) (p2 : List ai) (r0 : GDatum) (r1 : Int) (b : List ac) (f g : Int) : Prop := ∀ (K : Ctx), ao K [0] → qLG K Tryz.f69 (fun u G => u = .tup [.agg (GDatum.c r0), .int .i64 r1] ∧ G = ⟨2, [(0, .var 69 [.row 6 (ac.vs b), .int .i64 f, .int .i64 g])]⟩) (xJ (xG (xL (cB (ae Tryz.f69))))) [.blk 0, .seq (xK (ae Tryz.f69))] 167 (mkF 167 0 [(0, .ptr 0 0), (1, .box (ac.c p1) 0), (2, .lk (List.map ai.c p2)), (6, .ptr 1 0)]) ⟨2, [(1, .var 24 [.int .i64 0, .int .i64 0, .str [], .nils]), (0, .var 69 [.row 6 (ac.vs a), .int .i64 d, .int .i64 (e + 1)])]⟩
def lT (m : Nat) (a : List ac) (d e : Int) (p1 : ac) (p2 : List ai) (r0 : GDatum) (r1 : Int) (b : List ac) (f g : Int) : Prop := ∀ (K : Ctx), ao K [0] → qLG K Tryz.f69 (fun u G => u = .tup [.agg (GDatum.c r0), .int .i64 r1] ∧ G = ⟨2, [(0, .var 69 [.row 6 (ac.vs b), .int .i64 f, .int .i64 g])]⟩) (xG (xC (xF (cB (ae Tryz.f69))))) [.blk 0, .seq (xK (ae Tryz.f69))] 167 (mkF 167 0 [(0, .ptr 0 0), (1, .box (ac.c p1) 0), (2, .lk (List.map ai.c p2)), (6, .ptr 1 0), (33, .int .i64 p1.kind)]) ⟨2, [(1, .var 24 [.int .i64 0, .int .i64 0, .str [], .nils]), (0, .var 69 [.row 6 (ac.vs a), .int .i64 d, .int .i64 (e + 1)])]⟩
def lv (m : Nat) (a : List ac) (d e : Int) (p1 : ac) (p2 : List ai) (r0 : GDatum) (r1 : Int) (b : List ac) (f g : Int) : Prop := ∀ (K : Ctx), ao K [0] → qLG K Tryz.f69 (fun u G => u = .tup [.agg (GDatum.c r0), .int .i64 r1] ∧ G = ⟨2, [(0, .var 69 [.row 6 (ac.vs b), .int .i64 f, .int .i64 g])]⟩) (xJ (xG (xC (xF (cB (ae Tryz.f69)))))) [.blk 0, .seq (xK (ae Tryz.f69))] 167 (mkF 167 0 [(0, .ptr 0 0), (1, .box (ac.c p1) 0), (2, .lk (List.map ai.c p2)), (6, .ptr 1 0)]) ⟨2, [(1, .var 24 [.int .i64 0, .int .i64 0, .str [], .nils]), (0, .var 69 [.row 6 (ac.vs a), .int .i64 d, .int .i64 (e + 1)])]⟩
def lA (m : Nat) (a : List ac) (d e : Int) (p1 : ac) (p2 : List ai) (r0 : GDatum) (r1 : Int) (b : List ac) (f g : Int) : Prop := ∀ (K : Ctx), ao K [0] → qLG K Tryz.f69 (fun u G => u = .tup [.agg (GDatum.c r0), .int .i64 r1] ∧ G = ⟨2, [(0, .var 69 [.row 6 (ac.vs b), .int .i64 f, .int .i64 g])]⟩) (xG (xC (xL (cB (ae Tryz.f69))))) [.blk 0, .seq (xK (ae Tryz.f69))] 167 (mkF 167 0 [(0, .ptr 0 0), (1, .box (ac.c p1) 0), (2, .lk (List.map ai.c p2)), (6, .ptr 1 0), (33, .int .i64 p1.kind)]) ⟨2, [(1, .var 24 [.int .i64 0, .int .i64 0, .str [], .nils]), (0, .var 69 [.row 6 (ac.vs a), .int .i64 d, .int .i64 (e + 1)])]⟩
def lC (m : Nat) (a : List ac) (d e : Int) (p1 : ac) (p2 : List ai) (r0 : GDatum) (r1 : Int) (b : List ac) (f g : Int) : Prop := ∀ (K : Ctx), ao K [0] → qLG K Tryz.f69 (fun u G => u = .tup [.agg (GDatum.c r0), .int .i64 r1] ∧ G = ⟨2, [(0, .var 69 [.row 6 (ac.vs b), .int .i64 f, .int .i64 g])]⟩) (xM (xF (cB (ae Tryz.f69)))) [.blk 0, .seq (xK (ae Tryz.f69))] 167 (mkF 167 0 [(0, .ptr 0 0), (1, .box (ac.c p1) 0), (2, .lk (List.map ai.c p2)), (6, .ptr 1 0), (33, .int .i64 p1.kind)]) ⟨2, [(1, .var 24 [.int .i64 0, .int .i64 0, .str [], .nils]), (0, .var 69 [.row 6 (ac.vs a), .int .i64 d, .int .i64 (e + 1)])]⟩
def lx (m : Nat) (a : List ac) (d e : Int) (p1 : ac) (p2 : List ai) (r0 : GDatum) (r1 : Int) (b : List ac) (f g : Int) : Prop := ∀ (K : Ctx), ao K [0] → qLG K Tryz.f69 (fun u G => u = .tup [.agg (GDatum.c r0), .int .i64 r1] ∧ G = ⟨2, [(0, .var 69 [.row 6 (ac.vs b), .int .i64 f, .int .i64 g])]⟩) (xM (xL (cB (ae Tryz.f69)))) [.blk 0, .seq (xK (ae Tryz.f69))] 167 (mkF 167 0 [(0, .ptr 0 0), (1, .box (ac.c p1) 0), (2, .lk (List.map ai.c p2)), (6, .ptr 1 0), (33, .int .i64 p1.kind)]) ⟨2, [(1, .var 24 [.int .i64 0, .int .i64 0, .str [], .nils]), (0, .var 69 [.row 6 (ac.vs a), .int .i64 d, .int .i64 (e + 1)])]⟩
def lu (m : Nat) (a : List ac) (d e : Int) (p1 : ac) (p2 : List ai) (r0 : GDatum) (r1 : Int) (b : List ac) (f g : Int) : Prop := ∀ (K : Ctx), ao K [0] → qLG K Tryz.f69 (fun u G => u = .tup [.agg (GDatum.c r0), .int .i64 r1] ∧ G = ⟨2, [(0, .var 69 [.row 6 (ac.vs b), .int .i64 f, .int .i64 g])]⟩) (xM (xC (xF (cB (ae Tryz.f69))))) [.blk 0, .seq (xK (ae Tryz.f69))] 167 (mkF 167 0 [(0, .ptr 0 0), (1, .box (ac.c p1) 0), (2, .lk (List.map ai.c p2)), (6, .ptr 1 0), (33, .int .i64 p1.kind)]) ⟨2, [(1, .var 24 [.int .i64 0, .int .i64 0, .str [], .nils]), (0, .var 69 [.row 6 (ac.vs a), .int .i64 d, .int .i64 (e + 1)])]⟩
theorem mi (m : Nat) (b : List ac) (c a : Int) (p1 : ac) (p2 : List ai) (r0 : GDatum) (r1 : Int) (d : List ac) (e f : Int) (h : ((a = c) → (GDatum.mk 0 0 [] []) = r0 ∧ 21 = r1 ∧ b = d ∧ c = e ∧ a = f) ∧ ((a ≠ c) → InI (a + 1) ∧ ((p1.kind = 10) → lI m b c a p1 r0 r1 d e f) ∧ ((p1.kind ≠ 10) → mm m b c a p1 p2 r0 r1 d e f))) : S_eval_runner_value b c a p1 p2 r0 r1 d e f := by
 refine aj 167 [0] Tryz.func69 rfl rfl rfl (ax rfl) fun K hK => ?_
 refine gR 8 rfl <| gDs [0] 8 9 rfl (by kernel_rfl) (by kernel_rfl) <| gDr [(0, 2), (1, 2), (2, 2), (3, 3), (4, 0), (5, 0), (6, 0), (7, 0), (8, 1)] (by kernel_rfl) rfl rfl <| gDe (by kernel_rfl) <| gR 1 rfl <| qBe 21 rfl rfl rfl h (fun h => ?_) fun h => ?_
 refine gR 10 rfl ?_
 obtain ⟨rfl, rfl, rfl, rfl, rfl⟩ := h
 exact go_sub (F' := (mkF 167 0 [(6, .ptr 1 0), (7, .int .i64 21)])) (H' := ⟨2, [(1, .var 24 [.int .i64 ((GDatum.mk 0 0 [] []).Kind), .int .i64 ((GDatum.mk 0 0 [] []).N), .str ((GDatum.mk 0 0 [] []).S), .row 4 (GDatum.vs ((GDatum.mk 0 0 [] []).L))]), (0, .var 69 [.row 6 (ac.vs b), .int .i64 c, .int .i64 a])]⟩) [0, 1] [0] rfl hK pq2 ⟨⟨_, rfl, rfl, (.cons .rfl (.cons .rfl (.cons .rfl (.cons (.nil 4) .nil))))⟩, (pqo1 rfl rfl)⟩ rfl <| go_endD [1] ab (rs := [.cell 6 24, .tmp 7]) rfl rfl ⟨rfl, rfl⟩
 refine gR 9 rfl ?_
 obtain ⟨hb, h⟩ := h
 refine gR 1 rfl <| gV 27 (.int .i64 (a + 1)) rfl (au hb rfl) rfl <| gR 21 rfl <| qBeZ 34 35 rfl rfl rfl rfl h (fun h => ?_) fun h => ?_
 exact gR 1 rfl <| gJ (h K hK) [0, 1] [0] rfl hK pq2 (pqo2 rfl rfl rfl rfl) rfl
 exact gR 1 rfl <| gJ (h K hK) [0, 1] [0] rfl hK pq5 (pqo2 rfl rfl rfl rfl) rfl
theorem qO (m : Nat) (a : List ac) (c d : Int) (p1 : ac) (r0 : GDatum) (r1 : Int) (b : List ac) (f g : Int) (h : ∃ e i, jw p1.text 10 64 e i ∧ (GDatum.mk 1 e [] []) = r0 ∧ 0 = r1 ∧ a = b ∧ c = f ∧ (d + 1) = g) : lI (m + 1) a c d p1 r0 r1 b f g := by
 intro K hK
 refine gR 6 rfl ?_
 obtain ⟨e, i, hs21, h⟩ := h
 refine gC0 hs21 (by kernel_rfl) rfl rfl .rfl rfl <| gR 18 rfl ?_
 obtain ⟨rfl, rfl, rfl, rfl, rfl⟩ := h
 exact go_sub (F' := (mkF 167 0 [(6, .ptr 1 0), (7, .int .i64 0)])) (H' := ⟨2, [(1, .var 24 [.int .i64 ((GDatum.mk 1 e [] []).Kind), .int .i64 ((GDatum.mk 1 e [] []).N), .str ((GDatum.mk 1 e [] []).S), .row 4 (GDatum.vs ((GDatum.mk 1 e [] []).L))]), (0, .var 69 [.row 6 (ac.vs a), .int .i64 c, .int .i64 (d + 1)])]⟩) [0, 1] [0] rfl hK pq2 ⟨⟨_, rfl, rfl, (.cons .rfl (.cons .rfl (.cons .rfl (.cons (.nil 4) .nil))))⟩, (pqo1 rfl rfl)⟩ rfl <| go_endD [1] ab (rs := [.cell 6 24, .tmp 7]) rfl rfl ⟨rfl, rfl⟩
theorem qM (m : Nat) (a : List ac) (c d : Int) (p1 : ac) (p2 : List ai) (r0 : GDatum) (r1 : Int) (b : List ac) (e f : Int) (h : ((p1.kind = 11) → my m a c d p1 r0 r1 b e f) ∧ ((p1.kind ≠ 11) → lV m a c d p1 p2 r0 r1 b e f)) : mm (m + 1) a c d p1 p2 r0 r1 b e f := by
 intro K hK
 refine gR 6 rfl <| qBeZ 46 47 rfl rfl rfl rfl h (fun h => ?_) fun h => ?_
 exact gR 1 rfl <| gJ (h K hK) [0, 1] [0] rfl hK pq2 (pqo2 rfl rfl rfl rfl) rfl
 exact gR 1 rfl <| gJ (h K hK) [0, 1] [0] rfl hK pq5 (pqo2 rfl rfl rfl rfl) rfl
theorem qB (m : Nat) (a : List ac) (d e : Int) (p1 : ac) (r0 : GDatum) (r1 : Int) (c : List ac) (f g : Int) (h : InI ((p1.text.length : Int) - 1) ∧ ∃ b, ((p1.text.length : Int) - 1) = ((b : Nat) : Int) ∧ 1 ≤ b ∧ b ≤ p1.text.length ∧ (GDatum.mk 2 0 ((p1.text.drop 1).take (b - 1)) []) = r0 ∧ 0 = r1 ∧ a = c ∧ d = f ∧ (e + 1) = g) : my (m + 1) a d e p1 r0 r1 c f g := by
 intro K hK
 refine gR 1 rfl <| gDs [] 12 14 rfl (by kernel_rfl) (by kernel_rfl) <| gDr [(0, 2), (1, 2), (2, 2), (3, 2), (4, 0), (5, 0), (6, 0), (7, 0), (8, 0)] (by kernel_rfl) rfl rfl ?_
 obtain ⟨hb, h⟩ := h
 refine gDr [(9, 0)] (by kernel_rfl) rfl rfl <| gV 57 (.int .i64 ((p1.text.length : Int) - 1)) rfl (au hb rfl) rfl ?_
 obtain ⟨b, i, h⟩ := h
 refine gV 57 (.int .i64 ((b : Nat) : Int)) rfl (bo i) rfl ?_
 obtain ⟨hb, h⟩ := h
 obtain ⟨hb', h⟩ := h
 refine eh 10 rfl (by kernel_rfl) (ySS ab rfl rfl (pV rfl) (pV rfl) hb hb' rfl) rfl rfl ?_
 refine gDr [(11, 0), (12, 1), (13, 1)] (by kernel_rfl) rfl rfl <| gDe (by kernel_rfl) <| gR 4 rfl ?_
 obtain ⟨rfl, rfl, rfl, rfl, rfl⟩ := h
 exact go_sub (F' := (mkF 167 0 [(6, .ptr 1 0), (7, .int .i64 0)])) (H' := ⟨2, [(1, .var 24 [.int .i64 ((GDatum.mk 2 0 ((p1.text.drop 1).take (b - 1)) []).Kind), .int .i64 ((GDatum.mk 2 0 ((p1.text.drop 1).take (b - 1)) []).N), .str ((GDatum.mk 2 0 ((p1.text.drop 1).take (b - 1)) []).S), .row 4 (GDatum.vs ((GDatum.mk 2 0 ((p1.text.drop 1).take (b - 1)) []).L))]), (0, .var 69 [.row 6 (ac.vs a), .int .i64 d, .int .i64 (e + 1)])]⟩) [0, 1] [0] rfl hK pq2 ⟨⟨_, rfl, rfl, (.cons .rfl (.cons .rfl (.cons .rfl (.cons (.nil 4) .nil))))⟩, (pqo1 rfl rfl)⟩ rfl <| go_endD [1] ab (rs := [.cell 6 24, .tmp 7]) rfl rfl ⟨rfl, rfl⟩
theorem qE (m : Nat) (a : List ac) (c d : Int) (p1 : ac) (p2 : List ai) (r0 : GDatum) (r1 : Int) (b : List ac) (e f : Int) (h : ((p1.kind = 13) → ∃ g, eY true g ∧ g = r0 ∧ 0 = r1 ∧ a = b ∧ c = e ∧ (d + 1) = f) ∧ ((p1.kind ≠ 13) → mz m a c d p1 p2 r0 r1 b e f)) : lV (m + 1) a c d p1 p2 r0 r1 b e f := by
 intro K hK
 refine gR 6 rfl <| qBeZ 60 61 rfl rfl rfl rfl h (fun h => ?_) fun h => ?_
 refine gR 3 rfl ?_
 obtain ⟨g, hs22, h⟩ := h
 refine gC0 hs22 (by kernel_rfl) rfl rfl .rfl rfl <| gR 7 rfl ?_
 obtain ⟨rfl, rfl, rfl, rfl, rfl⟩ := h
 exact go_sub (F' := (mkF 167 0 [(6, .ptr 1 0), (7, .int .i64 0)])) (H' := ⟨2, [(1, .var 24 (GDatum.c g)), (0, .var 69 [.row 6 (ac.vs a), .int .i64 c, .int .i64 (d + 1)])]⟩) [0, 1] [0] rfl hK pq2 (pqo2 rfl rfl rfl rfl) rfl <| go_endD [1] ab (rs := [.cell 6 24, .tmp 7]) rfl rfl ⟨rfl, rfl⟩
 exact gR 1 rfl <| gJ (h K hK) [0, 1] [0] rfl hK pq5 (pqo2 rfl rfl rfl rfl) rfl
theorem qP (m : Nat) (a : List ac) (c d : Int) (p1 : ac) (p2 : List ai) (r0 : GDatum) (r1 : Int) (b : List ac) (e f : Int) (h : ((p1.kind = 14) → ∃ g, eY false g ∧ g = r0 ∧ 0 = r1 ∧ a = b ∧ c = e ∧ (d + 1) = f) ∧ ((p1.kind ≠ 14) → ms m a c d p1 p2 r0 r1 b e f)) : mz (m + 1) a c d p1 p2 r0 r1 b e f := by
 intro K hK
 refine gR 6 rfl <| qBeZ 63 64 rfl rfl rfl rfl h (fun h => ?_) fun h => ?_
 refine gR 3 rfl ?_
 obtain ⟨g, hs23, h⟩ := h
 refine gC0 hs23 (by kernel_rfl) rfl rfl .rfl rfl <| gR 7 rfl ?_
 obtain ⟨rfl, rfl, rfl, rfl, rfl⟩ := h
 exact go_sub (F' := (mkF 167 0 [(6, .ptr 1 0), (7, .int .i64 0)])) (H' := ⟨2, [(1, .var 24 (GDatum.c g)), (0, .var 69 [.row 6 (ac.vs a), .int .i64 c, .int .i64 (d + 1)])]⟩) [0, 1] [0] rfl hK pq2 (pqo2 rfl rfl rfl rfl) rfl <| go_endD [1] ab (rs := [.cell 6 24, .tmp 7]) rfl rfl ⟨rfl, rfl⟩
 exact gR 1 rfl <| gJ (h K hK) [0, 1] [0] rfl hK pq5 (pqo2 rfl rfl rfl rfl) rfl
theorem qv (m : Nat) (a : List ac) (c d : Int) (p1 : ac) (p2 : List ai) (r0 : GDatum) (r1 : Int) (b : List ac) (e f : Int) (h : ((p1.kind = 12) → eQ m a c d p1 p2 r0 r1 b e f) ∧ ((p1.kind ≠ 12) → lW m a c d p1 p2 r0 r1 b e f)) : ms (m + 1) a c d p1 p2 r0 r1 b e f := by
 intro K hK
 refine gR 6 rfl <| gB 66 rfl rfl rfl ?_ ?_ <;> intro hd
 refine gT 67 rfl hd rfl ?_
 replace hd := (eq_of_beq hd)
 replace h := h.1 hd
 exact gR 8 rfl <| go_loop m <| gJ (h K _ hK (by omega)) [0, 1] [0] rfl hK pq3 (pqo2 rfl rfl rfl rfl) rfl
 refine gF 67 rfl hd rfl ?_
 replace hd := (ne_of_beq_false hd)
 replace h := h.2 hd
 exact gR 1 rfl <| gJ (h K hK) [0, 1] [0] rfl hK pq5 (pqo2 rfl rfl rfl rfl) rfl
theorem lp (m : Nat) (a : List ac) (e f : Int) (p1 : ac) (l : List ai) (r0 : GDatum) (r1 : Int) (d : List ac) (g i : Int) (h : ((l = []) → (GDatum.mk 0 0 [] []) = r0 ∧ 7 = r1 ∧ a = d ∧ e = g ∧ (f + 1) = i) ∧ (∀ (b : ai) (k : List ai), l = b :: k → ((b.name = p1.text) → b.value = r0 ∧ 0 = r1 ∧ a = d ∧ e = g ∧ (f + 1) = i) ∧ ((b.name ≠ p1.text) → eQ m a e f p1 k r0 r1 d g i))) : eQ (m + 1) a e f p1 l r0 r1 d g i := by
 intro K j1 hK hj1
 obtain ⟨j1, rfl⟩ : ∃ j, j1 = j + 1 := ⟨j1 - 1, by omega⟩
 refine gR 4 rfl ?_
 rcases l with _ | ⟨b, k⟩
 replace h := h.1 rfl
 refine gS 10 (.nilp) rfl zR rfl <| gS 69 (.nilp) rfl zR rfl <| gY (Gk Tryz.underlying118 rfl) rfl rfl <| gR 5 rfl <| go_xloopE <| gR 11 rfl ?_
 obtain ⟨rfl, rfl, rfl, rfl, rfl⟩ := h
 exact go_sub (F' := (mkF 167 0 [(6, .ptr 1 0), (7, .int .i64 7)])) (H' := ⟨2, [(1, .var 24 [.int .i64 ((GDatum.mk 0 0 [] []).Kind), .int .i64 ((GDatum.mk 0 0 [] []).N), .str ((GDatum.mk 0 0 [] []).S), .row 4 (GDatum.vs ((GDatum.mk 0 0 [] []).L))]), (0, .var 69 [.row 6 (ac.vs a), .int .i64 e, .int .i64 (f + 1)])]⟩) [0, 1] [0] rfl hK pq2 ⟨⟨_, rfl, rfl, (.cons .rfl (.cons .rfl (.cons .rfl (.cons (.nil 4) .nil))))⟩, (pqo1 rfl rfl)⟩ rfl <| go_endD [1] ab (rs := [.cell 6 24, .tmp 7]) rfl rfl ⟨rfl, rfl⟩
 replace h := h.2 b k rfl
 refine gS 10 (.box [.str b.name, .int .i64 b.value.Kind, .int .i64 b.value.N, .str b.value.S, .row 4 (GDatum.vs b.value.L), .lk (List.map ai.c k)] 0) rfl (Bb rfl) rfl <| gS 69 (.box [.str b.name, .int .i64 b.value.Kind, .int .i64 b.value.N, .str b.value.S, .row 4 (GDatum.vs b.value.L), .lk (List.map ai.c k)] 0) rfl (Bb rfl) rfl <| gY (HJ Tryz.underlying118 rfl) rfl rfl <| gR 8 rfl <| gDs [] 9 9 rfl (by kernel_rfl) (by kernel_rfl) <| gDr [(0, 2), (1, 2), (2, 2), (3, 2), (4, 0), (5, 0), (6, 0), (7, 0), (8, 0)] (by kernel_rfl) rfl rfl <| gDe (by kernel_rfl) <| gR 1 rfl <| gB 83 rfl rfl rfl ?_ ?_ <;> intro hd
 replace hd := (eq_of_beq hd)
 replace h := h.1 hd
 refine gR 14 rfl <| go_xloopR <| gR 3 rfl ?_
 obtain ⟨rfl, rfl, rfl, rfl, rfl⟩ := h
 exact go_sub (F' := (mkF 167 0 [(6, .ptr 1 0), (7, .int .i64 0)])) (H' := ⟨2, [(1, .var 24 (GDatum.c b.value)), (0, .var 69 [.row 6 (ac.vs a), .int .i64 e, .int .i64 (f + 1)])]⟩) [0, 1] [0] rfl hK pq2 (pqo2 rfl rfl rfl rfl) rfl <| go_endD [1] ab (rs := [.cell 6 24, .tmp 7]) rfl rfl ⟨rfl, rfl⟩
 replace hd := (ne_of_beq_false hd)
 replace h := h.2 hd
 exact gR 11 rfl <| go_xloop <| gJ (h K _ hK (by omega)) [0, 1] [0] rfl hK pq3 (pqo2 rfl rfl rfl rfl) rfl
theorem qy (m : Nat) (a : List ac) (c d : Int) (p1 : ac) (p2 : List ai) (r0 : GDatum) (r1 : Int) (b : List ac) (e f : Int) (h : ((p1.kind = 22) → mo m a c d p1 p2 r0 r1 b e f) ∧ ((p1.kind ≠ 22) → lT m a c d p1 p2 r0 r1 b e f)) : lW (m + 1) a c d p1 p2 r0 r1 b e f := by
 intro K hK
 refine gR 6 rfl <| qBeZ 88 89 rfl rfl rfl rfl h (fun h => ?_) fun h => ?_
 exact gR 1 rfl <| gJ (h K hK) [0, 1] [0] rfl hK pq4 (pqo2 rfl rfl rfl rfl) rfl
 exact gR 1 rfl <| gJ (h K hK) [0, 1] [0] rfl hK pq5 (pqo2 rfl rfl rfl rfl) rfl
theorem qo (m : Nat) (a : List ac) (d e : Int) (p1 : ac) (p2 : List ai) (r0 : GDatum) (r1 : Int) (b : List ac) (f g : Int) (h : ∃ n, p1.kids[0]? = some n ∧ ∃ c i j k l, S_eval_runner_value a d (e + 1) n p2 c i j k l ∧ c = r0 ∧ i = r1 ∧ j = b ∧ k = f ∧ l = g) : mo (m + 1) a d e p1 p2 r0 r1 b f g := by
 intro K hK
 refine gR 7 rfl ?_
 obtain ⟨n, hxx9_1, h⟩ := h
 refine gY (ay (ac.vget hxx9_1) ab rfl rfl rfl rfl) rfl rfl <| gR 1 rfl ?_
 obtain ⟨c, i, j, k, l, hs24, h⟩ := h
 refine gC hs24 [0] (by kernel_rfl) rfl rfl .rfl ⟨⟨_, rfl, ⟨rfl, av.rfl⟩⟩, trivial⟩ rfl ?_
 rintro _ _ ⟨rfl, rfl⟩
 refine gR 9 rfl ?_
 obtain ⟨rfl, rfl, rfl, rfl, rfl⟩ := h
 exact go_sub (F' := (mkF 167 0 [(6, .ptr 1 0), (7, .int .i64 i)])) (H' := ⟨2, [(1, .var 24 (GDatum.c c)), (0, .var 69 [.row 6 (ac.vs j), .int .i64 k, .int .i64 l])]⟩) [0, 1] [0] rfl hK pq2 (pqo2 rfl rfl rfl rfl) rfl <| go_endD [1] ab (rs := [.cell 6 24, .tmp 7]) rfl rfl ⟨rfl, rfl⟩
theorem qf (m : Nat) (a : List ac) (c d : Int) (p1 : ac) (p2 : List ai) (r0 : GDatum) (r1 : Int) (b : List ac) (e f : Int) (h : ((p1.kind = 20) → lv m a c d p1 p2 r0 r1 b e f) ∧ ((p1.kind ≠ 20) → lA m a c d p1 p2 r0 r1 b e f)) : lT (m + 1) a c d p1 p2 r0 r1 b e f := by
 intro K hK
 refine gR 6 rfl <| qBeZ 100 101 rfl rfl rfl rfl h (fun h => ?_) fun h => ?_
 exact gR 1 rfl <| gJ (h K hK) [0, 1] [0] rfl hK pq4 (pqo2 rfl rfl rfl rfl) rfl
 exact gR 1 rfl <| gJ (h K hK) [0, 1] [0] rfl hK pq5 (pqo2 rfl rfl rfl rfl) rfl
theorem qb (m : Nat) (d : List ac) (p q : Int) (p1 : ac) (p2 : List ai) (r0 : GDatum) (r1 : Int) (a : List ac) (i j : Int) (h : ∃ r, p1.kids[0]? = some r ∧ ∃ s c k l n, S_eval_runner_value d p (q + 1) r p2 s c k l n ∧ ((c ≠ 0) → (GDatum.mk 0 0 [] []) = r0 ∧ c = r1 ∧ k = a ∧ l = i ∧ n = j) ∧ ((c = 0) → ∃ t, p1.kids[1]? = some t ∧ ∃ b o e f g, S_eval_runner_value k l n t (ai.mk p1.text s :: p2) b o e f g ∧ b = r0 ∧ o = r1 ∧ e = a ∧ f = i ∧ g = j)) : lv (m + 1) d p q p1 p2 r0 r1 a i j := by
 intro K hK
 refine gR 7 rfl ?_
 obtain ⟨r, hxx11_1, h⟩ := h
 refine gY (ay (ac.vget hxx11_1) ab rfl rfl rfl rfl) rfl rfl <| gR 1 rfl ?_
 obtain ⟨s, c, k, l, n, hs25, h⟩ := h
 refine gC hs25 [0] (by kernel_rfl) rfl rfl .rfl ⟨⟨_, rfl, ⟨rfl, av.rfl⟩⟩, trivial⟩ rfl ?_
 rintro _ _ ⟨rfl, rfl⟩
 refine gR 15 rfl <| qBh 114 rfl rfl rfl h bN bn (fun h => ?_) fun h => ?_
 refine gR 13 rfl ?_
 obtain ⟨rfl, rfl, rfl, rfl, rfl⟩ := h
 exact go_sub (F' := (mkF 167 0 [(6, .ptr 1 0), (7, .int .i64 c)])) (H' := ⟨2, [(1, .var 24 [.int .i64 ((GDatum.mk 0 0 [] []).Kind), .int .i64 ((GDatum.mk 0 0 [] []).N), .str ((GDatum.mk 0 0 [] []).S), .row 4 (GDatum.vs ((GDatum.mk 0 0 [] []).L))]), (0, .var 69 [.row 6 (ac.vs k), .int .i64 l, .int .i64 n])]⟩) [0, 1] [0] rfl hK pq2 ⟨⟨_, rfl, rfl, (.cons .rfl (.cons .rfl (.cons .rfl (.cons (.nil 4) .nil))))⟩, (pqo1 rfl rfl)⟩ rfl <| go_endD [1] ab (rs := [.cell 6 24, .tmp 7]) rfl rfl ⟨rfl, rfl⟩
 refine gR 4 rfl <| gDs [4] 17 19 rfl (by kernel_rfl) (by kernel_rfl) <| gDr [(0, 2), (1, 2), (2, 2), (3, 2), (4, 2)] (by kernel_rfl) rfl rfl ?_
 obtain ⟨t, hxx11_7, h⟩ := h
 refine gYd 5 rfl (by kernel_rfl) (ay (ac.vget hxx11_7) ab rfl rfl rfl rfl) rfl rfl <| gDr [(6, 2), (7, 2), (8, 2), (9, 2), (10, 3), (11, 0), (12, 0), (13, 0)] (by kernel_rfl) rfl rfl <| gFP 5 rfl rfl rfl rfl ?_
 obtain ⟨b, o, e, f, g, hs26, h⟩ := h
 refine gDC 14 hs26 [0] (by kernel_rfl) rfl (by kernel_rfl) rfl rfl (.cons .rfl (.cons .rfl (.cons (lkC rfl) .nil))) ⟨⟨_, rfl, ⟨rfl, av.rfl⟩⟩, trivial⟩ (by kernel_rfl) rfl ?_
 rintro _ _ ⟨rfl, rfl⟩
 refine gDr [(15, 2), (16, 0), (17, 1), (18, 1)] (by kernel_rfl) rfl rfl <| gDe (by kernel_rfl) <| gR 4 rfl ?_
 obtain ⟨rfl, rfl, rfl, rfl, rfl⟩ := h
 exact go_sub (F' := (mkF 167 0 [(6, .ptr 1 0), (7, .int .i64 o)])) (H' := ⟨2, [(1, .var 24 (GDatum.c b)), (0, .var 69 [.row 6 (ac.vs e), .int .i64 f, .int .i64 g])]⟩) [0, 1] [0] rfl hK pq2 (pqo2 rfl rfl rfl rfl) rfl <| go_endD [1] ab (rs := [.cell 6 24, .tmp 7]) rfl rfl ⟨rfl, rfl⟩
theorem pZ (m : Nat) (a : List ac) (d e : Int) (p1 : ac) (p2 : List ai) (r0 : GDatum) (r1 : Int) (b : List ac) (f g : Int) (h : ((p1.kind = 19) → ∃ c i j k l, mn a d (e + 1) p1 p2 c i j k l ∧ c = r0 ∧ i = r1 ∧ j = b ∧ k = f ∧ l = g) ∧ ((p1.kind ≠ 19) → lC m a d e p1 p2 r0 r1 b f g)) : lA (m + 1) a d e p1 p2 r0 r1 b f g := by
 intro K hK
 refine gR 6 rfl <| qBeZ 134 135 rfl rfl rfl rfl h (fun h => ?_) fun h => ?_
 refine gR 6 rfl ?_
 obtain ⟨c, i, j, k, l, hs27, h⟩ := h
 refine gC hs27 [0] (by kernel_rfl) rfl rfl .rfl ⟨⟨_, rfl, ⟨rfl, av.rfl⟩⟩, trivial⟩ rfl ?_
 rintro _ _ ⟨rfl, rfl⟩
 refine gR 9 rfl ?_
 obtain ⟨rfl, rfl, rfl, rfl, rfl⟩ := h
 exact go_sub (F' := (mkF 167 0 [(6, .ptr 1 0), (7, .int .i64 i)])) (H' := ⟨2, [(1, .var 24 (GDatum.c c)), (0, .var 69 [.row 6 (ac.vs j), .int .i64 k, .int .i64 l])]⟩) [0, 1] [0] rfl hK pq2 (pqo2 rfl rfl rfl rfl) rfl <| go_endD [1] ab (rs := [.cell 6 24, .tmp 7]) rfl rfl ⟨rfl, rfl⟩
 exact gR 1 rfl <| gJ (h K hK) [0, 1] [0] rfl hK pq5 (pqo2 rfl rfl rfl rfl) rfl
theorem pQ (m : Nat) (a : List ac) (d e : Int) (p1 : ac) (p2 : List ai) (r0 : GDatum) (r1 : Int) (b : List ac) (f g : Int) (h : ((p1.kind = 18) → ∃ c i j k l, nS a d (e + 1) p1 p2 c i j k l ∧ c = r0 ∧ i = r1 ∧ j = b ∧ k = f ∧ l = g) ∧ ((p1.kind ≠ 18) → lx m a d e p1 p2 r0 r1 b f g)) : lC (m + 1) a d e p1 p2 r0 r1 b f g := by
 intro K hK
 refine gR 6 rfl <| qBeZ 142 143 rfl rfl rfl rfl h (fun h => ?_) fun h => ?_
 refine gR 6 rfl ?_
 obtain ⟨c, i, j, k, l, hs28, h⟩ := h
 refine gC hs28 [0] (by kernel_rfl) rfl rfl .rfl ⟨⟨_, rfl, ⟨rfl, av.rfl⟩⟩, trivial⟩ rfl ?_
 rintro _ _ ⟨rfl, rfl⟩
 refine gR 9 rfl ?_
 obtain ⟨rfl, rfl, rfl, rfl, rfl⟩ := h
 exact go_sub (F' := (mkF 167 0 [(6, .ptr 1 0), (7, .int .i64 i)])) (H' := ⟨2, [(1, .var 24 (GDatum.c c)), (0, .var 69 [.row 6 (ac.vs j), .int .i64 k, .int .i64 l])]⟩) [0, 1] [0] rfl hK pq2 (pqo2 rfl rfl rfl rfl) rfl <| go_endD [1] ab (rs := [.cell 6 24, .tmp 7]) rfl rfl ⟨rfl, rfl⟩
 exact gR 1 rfl <| gJ (h K hK) [0, 1] [0] rfl hK pq5 (pqo2 rfl rfl rfl rfl) rfl
theorem qa (m : Nat) (a : List ac) (d e : Int) (p1 : ac) (p2 : List ai) (r0 : GDatum) (r1 : Int) (b : List ac) (f g : Int) (h : ((p1.kind = 16) → ∃ c i j k l, nT a d (e + 1) p1 p2 c i j k l ∧ c = r0 ∧ i = r1 ∧ j = b ∧ k = f ∧ l = g) ∧ ((p1.kind ≠ 16) → lu m a d e p1 p2 r0 r1 b f g)) : lx (m + 1) a d e p1 p2 r0 r1 b f g := by
 intro K hK
 refine gR 6 rfl <| qBeZ 150 151 rfl rfl rfl rfl h (fun h => ?_) fun h => ?_
 refine gR 6 rfl ?_
 obtain ⟨c, i, j, k, l, hs29, h⟩ := h
 refine gC hs29 [0] (by kernel_rfl) rfl rfl .rfl ⟨⟨_, rfl, ⟨rfl, av.rfl⟩⟩, trivial⟩ rfl ?_
 rintro _ _ ⟨rfl, rfl⟩
 refine gR 9 rfl ?_
 obtain ⟨rfl, rfl, rfl, rfl, rfl⟩ := h
 exact go_sub (F' := (mkF 167 0 [(6, .ptr 1 0), (7, .int .i64 i)])) (H' := ⟨2, [(1, .var 24 (GDatum.c c)), (0, .var 69 [.row 6 (ac.vs j), .int .i64 k, .int .i64 l])]⟩) [0, 1] [0] rfl hK pq2 (pqo2 rfl rfl rfl rfl) rfl <| go_endD [1] ab (rs := [.cell 6 24, .tmp 7]) rfl rfl ⟨rfl, rfl⟩
 exact gR 1 rfl <| gJ (h K hK) [0, 1] [0] rfl hK pq5 (pqo2 rfl rfl rfl rfl) rfl
theorem pO (m : Nat) (a : List ac) (d e : Int) (p1 : ac) (p2 : List ai) (r0 : GDatum) (r1 : Int) (b : List ac) (f g : Int) (h : ((p1.kind = 21) → ∃ c i j k l, jI a d (e + 1) p1 p2 c i j k l ∧ c = r0 ∧ i = r1 ∧ j = b ∧ k = f ∧ l = g) ∧ ((p1.kind ≠ 21) → (GDatum.mk 0 0 [] []) = r0 ∧ 7 = r1 ∧ a = b ∧ d = f ∧ (e + 1) = g)) : lu (m + 1) a d e p1 p2 r0 r1 b f g := by
 intro K hK
 refine gR 6 rfl <| qBeZ 158 159 rfl rfl rfl rfl h (fun h => ?_) fun h => ?_
 refine gR 6 rfl ?_
 obtain ⟨c, i, j, k, l, hs30, h⟩ := h
 refine gC hs30 [0] (by kernel_rfl) rfl rfl .rfl ⟨⟨_, rfl, ⟨rfl, av.rfl⟩⟩, trivial⟩ rfl ?_
 rintro _ _ ⟨rfl, rfl⟩
 refine gR 9 rfl ?_
 obtain ⟨rfl, rfl, rfl, rfl, rfl⟩ := h
 exact go_sub (F' := (mkF 167 0 [(6, .ptr 1 0), (7, .int .i64 i)])) (H' := ⟨2, [(1, .var 24 (GDatum.c c)), (0, .var 69 [.row 6 (ac.vs j), .int .i64 k, .int .i64 l])]⟩) [0, 1] [0] rfl hK pq2 (pqo2 rfl rfl rfl rfl) rfl <| go_endD [1] ab (rs := [.cell 6 24, .tmp 7]) rfl rfl ⟨rfl, rfl⟩
 refine gR 12 rfl ?_
 obtain ⟨rfl, rfl, rfl, rfl, rfl⟩ := h
 exact go_sub (F' := (mkF 167 0 [(6, .ptr 1 0), (7, .int .i64 7)])) (H' := ⟨2, [(1, .var 24 [.int .i64 ((GDatum.mk 0 0 [] []).Kind), .int .i64 ((GDatum.mk 0 0 [] []).N), .str ((GDatum.mk 0 0 [] []).S), .row 4 (GDatum.vs ((GDatum.mk 0 0 [] []).L))]), (0, .var 69 [.row 6 (ac.vs a), .int .i64 d, .int .i64 (e + 1)])]⟩) [0, 1] [0] rfl hK pq2 ⟨⟨_, rfl, rfl, (.cons .rfl (.cons .rfl (.cons .rfl (.cons (.nil 4) .nil))))⟩, (pqo1 rfl rfl)⟩ rfl <| go_endD [1] ab (rs := [.cell 6 24, .tmp 7]) rfl rfl ⟨rfl, rfl⟩
def fM (m : Nat) (p1 : ac) (p2 : List ai) (e : List ac) (f g : Int) (i : List GDatum) (j : Nat) (r0 : List GDatum) (r1 : Int) (a : List ac) (b d : Int) : Prop := ∀ (K : Ctx) (j1 : Nat), ao K [0] → m ≤ j1 → qLG K Tryz.f152 (fun u G => u = .tup [.row 4 (GDatum.vs r0), .int .i64 r1] ∧ G = ⟨1, [(0, .var 69 [.row 6 (ac.vs a), .int .i64 b, .int .i64 d])]⟩) (xI (ae Tryz.f152)) [.loop (xI (ae Tryz.f152)) j1, .blk 0, .seq (xH (ae Tryz.f152))] 53 (mkF 53 0 [(0, .ptr 0 0), (1, .box (ac.c p1) 0), (2, .lk (List.map ai.c p2)), (8, .sl 1), (17, .int .i64 (p1.kids.length : Int)), (18, .int .i64 (j : Int))]) ⟨2, [(1, .row 24 4 (GDatum.vs i)), (0, .var 69 [.row 6 (ac.vs e), .int .i64 f, .int .i64 g])]⟩
def fU (m : Nat) (p1 : ac) (p2 : List ai) (e : ac) (f : List ac) (g i : Int) (j : List GDatum) (k : Nat) (r0 : List GDatum) (r1 : Int) (a : List ac) (b d : Int) : Prop := ∀ (K : Ctx) (j1 : Nat), ao K [0] → m ≤ j1 → qLG K Tryz.f152 (fun u G => u = .tup [.row 4 (GDatum.vs r0), .int .i64 r1] ∧ G = ⟨1, [(0, .var 69 [.row 6 (ac.vs a), .int .i64 b, .int .i64 d])]⟩) (xH (cK (cA (xA (xI (ae Tryz.f152)))))) [.blk 1, .seq (xH (xI (ae Tryz.f152))), .loop (xI (ae Tryz.f152)) j1, .blk 0, .seq (xH (ae Tryz.f152))] 53 (mkF 53 0 [(0, .ptr 0 0), (1, .box (ac.c p1) 0), (2, .lk (List.map ai.c p2)), (8, .sl 1), (10, .box (ac.c e) 0), (17, .int .i64 (p1.kids.length : Int)), (18, .int .i64 (k : Int))]) ⟨2, [(1, .row 24 4 (GDatum.vs j)), (0, .var 69 [.row 6 (ac.vs f), .int .i64 g, .int .i64 i])]⟩
theorem sJ (m : Nat) (a : List ac) (c d : Int) (p1 : ac) (p2 : List ai) (r0 : List GDatum) (r1 : Int) (b : List ac) (e f : Int) (h : fM m p1 p2 a c d ([] : List GDatum) 0 r0 r1 b e f) : S_eval_runner_all a c d p1 p2 r0 r1 b e f := by
 refine aj 53 [0] Tryz.func152 rfl rfl rfl (ax rfl) fun K hK => ?_
 exact gR 19 rfl <| gV 17 (.int .i64 (p1.kids.length : Int)) rfl (aL (ac.vlen _)) rfl <| gLB 16 rfl (ac.vlen _) fun hl9 => gR 4 rfl <| go_loop m <| gNS 8 24 4 rfl rfl rfl rfl <| gJ (h K _ hK (by omega)) [0, 1] [0] rfl hK pq6 ⟨⟨_, rfl, rfl, rfl, rfl⟩, (pqo1 rfl rfl)⟩ rfl
theorem mT (m : Nat) (p1 : ac) (p2 : List ai) (g : List ac) (i k : Int) (d : List GDatum) (e : Nat) (r0 : List GDatum) (r1 : Int) (a : List ac) (b c : Int) (h : ((e < p1.kids.length) → ∃ f, p1.kids[e]? = some f ∧ ((f.kind = 17) → ∃ l, f.kids[0]? = some l ∧ fU m p1 p2 l g i k d e r0 r1 a b c) ∧ ((f.kind ≠ 17) → fU m p1 p2 f g i k d e r0 r1 a b c)) ∧ ((¬ e < p1.kids.length) → d = r0 ∧ 0 = r1 ∧ g = a ∧ i = b ∧ k = c)) : fM (m + 1) p1 p2 g i k d e r0 r1 a b c := by
 intro K j1 hK hj1
 obtain ⟨j1, rfl⟩ : ∃ j, j1 = j + 1 := ⟨j1 - 1, by omega⟩
 refine gR 6 rfl <| gB 19 rfl rfl rfl ?_ ?_ <;> intro hd
 replace hd := (bZ hd)
 replace h := h.1 hd
 refine gR 18 rfl ?_
 obtain ⟨f, hxx1_1, h⟩ := h
 refine gY (ay (ac.vget hxx1_1) ab rfl rfl rfl rfl) rfl rfl <| gR 13 rfl <| gB 31 rfl rfl rfl ?_ ?_ <;> intro hd
 replace hd := (eq_of_beq hd)
 replace h := h.1 hd
 refine gR 6 rfl ?_
 obtain ⟨l, hxx1_2, h⟩ := h
 exact gY (ay (ac.vget hxx1_2) ab rfl rfl rfl rfl) rfl rfl <| gR 3 rfl <| gJ (h K _ hK (by omega)) [0, 1] [0] rfl hK pq7 ⟨⟨_, rfl, rfl, rfl, (GDatum.vren _ d).symm⟩, (pqo1 rfl rfl)⟩ rfl
 replace hd := (ne_of_beq_false hd)
 replace h := h.2 hd
 exact gR 3 rfl <| gJ (h K _ hK (by omega)) [0, 1] [0] rfl hK pq7 ⟨⟨_, rfl, rfl, rfl, (GDatum.vren _ d).symm⟩, (pqo1 rfl rfl)⟩ rfl
 replace hd := (bV hd)
 replace h := h.2 hd
 refine gR 3 rfl <| go_xloopE <| gR 10 rfl <| gFR 1 rfl (GDatum.vpure _) rfl rfl ?_
 obtain ⟨rfl, rfl, rfl, rfl, rfl⟩ := h
 exact go_sub (F' := (mkF 53 0 [(6, .row 4 (GDatum.vs d)), (7, .int .i64 0)])) (H' := ⟨1, [(0, .var 69 [.row 6 (ac.vs g), .int .i64 i, .int .i64 k])]⟩) [0] [0] rfl hK pq2 (pqo1 rfl rfl) rfl <| go_endD [] ab (rs := [.tmp 6, .tmp 7]) rfl rfl ⟨rfl, rfl⟩
theorem rO (m : Nat) (p1 : ac) (p2 : List ai) (n : ac) (o : List ac) (p q : Int) (e : List GDatum) (l : Nat) (r0 : List GDatum) (r1 : Int) (a : List ac) (c d : Int) (h : ∃ b f g i k, S_eval_runner_value o p q n p2 b f g i k ∧ ((f ≠ 0) → [] = r0 ∧ f = r1 ∧ g = a ∧ i = c ∧ k = d) ∧ ((f = 0) → (e ++ [b]).length ≤ 1000000000 ∧ l + 1 ≤ 9223372036854775807 ∧ fM m p1 p2 g i k (e ++ [b]) (l + 1) r0 r1 a c d)) : fU (m + 1) p1 p2 n o p q e l r0 r1 a c d := by
 intro K j1 hK hj1
 obtain ⟨j1, rfl⟩ : ∃ j, j1 = j + 1 := ⟨j1 - 1, by omega⟩
 refine gR 5 rfl ?_
 obtain ⟨b, f, g, i, k, hs10, h⟩ := h
 refine gC hs10 [0] (by kernel_rfl) rfl rfl .rfl ⟨⟨_, rfl, ⟨rfl, av.rfl⟩⟩, trivial⟩ rfl ?_
 rintro _ _ ⟨rfl, rfl⟩
 refine gR 15 rfl <| gB 45 rfl rfl rfl ?_ ?_ <;> intro hd
 replace hd := (bN hd)
 replace h := h.1 hd
 refine gR 12 rfl <| go_xloopR <| gR 2 rfl ?_
 obtain ⟨rfl, rfl, rfl, rfl, rfl⟩ := h
 exact go_sub (F' := (mkF 53 0 [(6, .row 4 (GDatum.vs [])), (7, .int .i64 f)])) (H' := ⟨1, [(0, .var 69 [.row 6 (ac.vs g), .int .i64 i, .int .i64 k])]⟩) [0] [0] rfl hK ⟨⟨_, rfl, (.nil 4)⟩, pqq, trivial⟩ (pqo1 rfl rfl) rfl <| go_endD [] ab (rs := [.tmp 6, .tmp 7]) rfl rfl ⟨rfl, rfl⟩
 replace hd := (bn hd)
 replace h := h.2 hd
 refine gR 7 rfl <| gHR 5 (GDatum.vs [b]) rfl (GDatum.vone b) rfl ?_
 obtain ⟨hb, h⟩ := h
 refine gDo (.repl 1 (.row 24 4 (GDatum.vs (e ++ [b])))) (bw ab rfl rfl rfl rfl rfl (GDatum.vapp e [b]).symm (by rw [GDatum.vlen]; exact hb)) (okR rfl) rfl rfl rfl <| gR 5 rfl ?_
 obtain ⟨hb, h⟩ := h
 exact gR 1 rfl <| gV 51 (.int .i64 ((l + 1 : Nat) : Int)) rfl (au (by omega) (by omega)) rfl <| gR 2 rfl <| go_xloop <| gJ (h K _ hK (by omega)) [0, 6] [0] rfl hK pq6 ⟨⟨_, rfl, rfl, rfl, (GDatum.vren _ (e ++ [b])).symm⟩, (pqo1 rfl rfl)⟩ rfl
theorem qj (m : Nat) (e : List ac) (v w : Int) (p1 : ac) (p2 : List ai) (r0 : GDatum) (r1 : Int) (a : List ac) (b c : Int) (h : ∃ z, p1.kids[0]? = some z ∧ ∃ k l f g i, S_eval_runner_value e v w z p2 k l f g i ∧ ((l ≠ 0) → (GDatum.mk 0 0 [] []) = r0 ∧ l = r1 ∧ f = a ∧ g = b ∧ i = c) ∧ ((l = 0) → ((k.Kind ≠ 3) → (GDatum.mk 0 0 [] []) = r0 ∧ 20 = r1 ∧ f = a ∧ g = b ∧ i = c) ∧ ((k.Kind = 3) → ((k.N = 1) → ∃ α, p1.kids[1]? = some α ∧ ∃ j y n o p, S_eval_runner_value f g i α p2 j y n o p ∧ j = r0 ∧ y = r1 ∧ n = a ∧ o = b ∧ p = c) ∧ ((k.N ≠ 1) → ∃ x, p1.kids[2]? = some x ∧ ∃ d q r s t, S_eval_runner_value f g i x p2 d q r s t ∧ d = r0 ∧ q = r1 ∧ r = a ∧ s = b ∧ t = c)))) : mn e v w p1 p2 r0 r1 a b c := by
 refine aj 55 [0] Tryz.func104 rfl rfl rfl (ax rfl) fun K hK => ?_
 refine gR 13 rfl ?_
 obtain ⟨z, hxx0_1, h⟩ := h
 refine gY (ay (ac.vget hxx0_1) ab rfl rfl rfl rfl) rfl rfl <| gR 1 rfl ?_
 obtain ⟨k, l, f, g, i, hs4, h⟩ := h
 refine gC hs4 [0] (by kernel_rfl) rfl rfl .rfl ⟨⟨_, rfl, ⟨rfl, av.rfl⟩⟩, trivial⟩ rfl ?_
 rintro _ _ ⟨rfl, rfl⟩
 refine gR 17 rfl <| qBhZ 21 23 rfl rfl rfl rfl h bN bn (fun h => ?_) fun h => ?_
 refine gR 12 rfl ?_
 obtain ⟨rfl, rfl, rfl, rfl, rfl⟩ := h
 exact go_sub (F' := (mkF 55 0 [(6, .ptr 1 0), (7, .int .i64 l)])) (H' := ⟨2, [(1, .var 24 [.int .i64 ((GDatum.mk 0 0 [] []).Kind), .int .i64 ((GDatum.mk 0 0 [] []).N), .str ((GDatum.mk 0 0 [] []).S), .row 4 (GDatum.vs ((GDatum.mk 0 0 [] []).L))]), (0, .var 69 [.row 6 (ac.vs f), .int .i64 g, .int .i64 i])]⟩) [0, 1] [0] rfl hK pq2 ⟨⟨_, rfl, rfl, (.cons .rfl (.cons .rfl (.cons .rfl (.cons (.nil 4) .nil))))⟩, (pqo1 rfl rfl)⟩ rfl <| go_endD [1] ab (rs := [.cell 6 24, .tmp 7]) rfl rfl ⟨rfl, rfl⟩
 refine gR 9 rfl <| qBhZ 26 29 rfl rfl rfl rfl h bN bn (fun h => ?_) fun h => ?_
 refine gR 11 rfl ?_
 obtain ⟨rfl, rfl, rfl, rfl, rfl⟩ := h
 exact go_sub (F' := (mkF 55 0 [(6, .ptr 1 0), (7, .int .i64 20)])) (H' := ⟨2, [(1, .var 24 [.int .i64 ((GDatum.mk 0 0 [] []).Kind), .int .i64 ((GDatum.mk 0 0 [] []).N), .str ((GDatum.mk 0 0 [] []).S), .row 4 (GDatum.vs ((GDatum.mk 0 0 [] []).L))]), (0, .var 69 [.row 6 (ac.vs f), .int .i64 g, .int .i64 i])]⟩) [0, 1] [0] rfl hK pq2 ⟨⟨_, rfl, rfl, (.cons .rfl (.cons .rfl (.cons .rfl (.cons (.nil 4) .nil))))⟩, (pqo1 rfl rfl)⟩ rfl <| go_endD [1] ab (rs := [.cell 6 24, .tmp 7]) rfl rfl ⟨rfl, rfl⟩
 refine gR 9 rfl <| qBeZ 31 34 rfl rfl rfl rfl h (fun h => ?_) fun h => ?_
 refine gR 8 rfl ?_
 obtain ⟨α, hxx0_7, h⟩ := h
 refine gY (ay (ac.vget hxx0_7) ab rfl rfl rfl rfl) rfl rfl <| gR 1 rfl ?_
 obtain ⟨j, y, n, o, p, hs5, h⟩ := h
 refine gC hs5 [0] (by kernel_rfl) rfl rfl .rfl ⟨⟨_, rfl, ⟨rfl, av.rfl⟩⟩, trivial⟩ rfl ?_
 rintro _ _ ⟨rfl, rfl⟩
 refine gR 9 rfl ?_
 obtain ⟨rfl, rfl, rfl, rfl, rfl⟩ := h
 exact go_sub (F' := (mkF 55 0 [(6, .ptr 1 0), (7, .int .i64 y)])) (H' := ⟨2, [(1, .var 24 (GDatum.c j)), (0, .var 69 [.row 6 (ac.vs n), .int .i64 o, .int .i64 p])]⟩) [0, 1] [0] rfl hK pq2 (pqo2 rfl rfl rfl rfl) rfl <| go_endD [1] ab (rs := [.cell 6 24, .tmp 7]) rfl rfl ⟨rfl, rfl⟩
 refine gR 11 rfl ?_
 obtain ⟨x, hxx0_13, h⟩ := h
 refine gY (ay (ac.vget hxx0_13) ab rfl rfl rfl rfl) rfl rfl <| gR 1 rfl ?_
 obtain ⟨d, q, r, s, t, hs6, h⟩ := h
 refine gC hs6 [0] (by kernel_rfl) rfl rfl .rfl ⟨⟨_, rfl, ⟨rfl, av.rfl⟩⟩, trivial⟩ rfl ?_
 rintro _ _ ⟨rfl, rfl⟩
 refine gR 7 rfl ?_
 obtain ⟨rfl, rfl, rfl, rfl, rfl⟩ := h
 exact go_sub (F' := (mkF 55 0 [(6, .ptr 1 0), (7, .int .i64 q)])) (H' := ⟨2, [(1, .var 24 (GDatum.c d)), (0, .var 69 [.row 6 (ac.vs r), .int .i64 s, .int .i64 t])]⟩) [0, 1] [0] rfl hK pq2 (pqo2 rfl rfl rfl rfl) rfl <| go_endD [1] ab (rs := [.cell 6 24, .tmp 7]) rfl rfl ⟨rfl, rfl⟩
theorem rP (m : Nat) (d : List ac) (k l : Int) (p1 : ac) (p2 : List ai) (r0 : GDatum) (r1 : Int) (a : List ac) (b c : Int) (h : ∃ e j f g i, S_eval_runner_all d k l p1 p2 e j f g i ∧ ((j ≠ 0) → (GDatum.mk 0 0 [] []) = r0 ∧ j = r1 ∧ f = a ∧ g = b ∧ i = c) ∧ ((j = 0) → ∃ n, kU (GDatum.mk 4 0 [] e) n ∧ ((4096 < n) → (GDatum.mk 0 0 [] []) = r0 ∧ 3 = r1 ∧ f = a ∧ g = b ∧ i = c) ∧ ((¬ 4096 < n) → (GDatum.mk 4 0 [] e) = r0 ∧ 0 = r1 ∧ f = a ∧ g = b ∧ i = c))) : nS d k l p1 p2 r0 r1 a b c := by
 refine aj 29 [0] Tryz.func105 rfl rfl rfl (ax rfl) fun K hK => ?_
 refine gR 11 rfl ?_
 obtain ⟨e, j, f, g, i, hs3, h⟩ := h
 refine gC hs3 [0] (by kernel_rfl) rfl rfl .rfl ⟨⟨_, rfl, ⟨rfl, av.rfl⟩⟩, trivial⟩ rfl ?_
 rintro _ _ ⟨rfl, rfl⟩
 refine gR 14 rfl <| qBh 19 rfl rfl rfl h bN bn (fun h => ?_) fun h => ?_
 refine gR 11 rfl ?_
 obtain ⟨rfl, rfl, rfl, rfl, rfl⟩ := h
 exact go_sub (F' := (mkF 29 0 [(6, .ptr 1 0), (7, .int .i64 j)])) (H' := ⟨2, [(1, .var 24 [.int .i64 ((GDatum.mk 0 0 [] []).Kind), .int .i64 ((GDatum.mk 0 0 [] []).N), .str ((GDatum.mk 0 0 [] []).S), .row 4 (GDatum.vs ((GDatum.mk 0 0 [] []).L))]), (0, .var 69 [.row 6 (ac.vs f), .int .i64 g, .int .i64 i])]⟩) [0, 1] [0] rfl hK pq2 ⟨⟨_, rfl, rfl, (.cons .rfl (.cons .rfl (.cons .rfl (.cons (.nil 4) .nil))))⟩, (pqo1 rfl rfl)⟩ rfl <| go_endD [1] ab (rs := [.cell 6 24, .tmp 7]) rfl rfl ⟨rfl, rfl⟩
 refine gR 15 rfl ?_
 obtain ⟨n, hs4, h⟩ := h
 refine gC0 hs4 (by kernel_rfl) rfl rfl .rfl rfl <| gR 3 rfl <| qBd 26 rfl rfl rfl h (fun h => ?_) fun h => ?_
 refine gR 10 rfl ?_
 obtain ⟨rfl, rfl, rfl, rfl, rfl⟩ := h
 exact go_sub (F' := (mkF 29 0 [(6, .ptr 1 0), (7, .int .i64 3)])) (H' := ⟨2, [(1, .var 24 [.int .i64 ((GDatum.mk 0 0 [] []).Kind), .int .i64 ((GDatum.mk 0 0 [] []).N), .str ((GDatum.mk 0 0 [] []).S), .row 4 (GDatum.vs ((GDatum.mk 0 0 [] []).L))]), (0, .var 69 [.row 6 (ac.vs f), .int .i64 g, .int .i64 i])]⟩) [0, 1] [0] rfl hK pq2 ⟨⟨_, rfl, rfl, (.cons .rfl (.cons .rfl (.cons .rfl (.cons (.nil 4) .nil))))⟩, (pqo1 rfl rfl)⟩ rfl <| go_endD [1] ab (rs := [.cell 6 24, .tmp 7]) rfl rfl ⟨rfl, rfl⟩
 refine gR 11 rfl ?_
 obtain ⟨rfl, rfl, rfl, rfl, rfl⟩ := h
 exact go_sub (F' := (mkF 29 0 [(6, .ptr 1 0), (7, .int .i64 0)])) (H' := ⟨2, [(1, .var 24 [.int .i64 ((GDatum.mk 4 0 [] e).Kind), .int .i64 ((GDatum.mk 4 0 [] e).N), .str ((GDatum.mk 4 0 [] e).S), .row 4 (GDatum.vs ((GDatum.mk 4 0 [] e).L))]), (0, .var 69 [.row 6 (ac.vs f), .int .i64 g, .int .i64 i])]⟩) [0, 1] [0] rfl hK pq2 (pqo2 rfl rfl rfl rfl) rfl <| go_endD [1] ab (rs := [.cell 6 24, .tmp 7]) rfl rfl ⟨rfl, rfl⟩
def L0_eval_runner_operation (m : Nat) (p1 : ac) (e : List ac) (f g : Int) (i j r0 : GDatum) (r1 : Int) (a : List ac) (b d : Int) : Prop := ∀ (K : Ctx), ao K [0] → Go Tryz.prog K (bodyPost Tryz.prog Tryz.f107 (SP K (fun u G => u = .tup [.agg (GDatum.c r0), .int .i64 r1] ∧ G = ⟨2, [(0, .var 69 [.row 6 (ac.vs a), .int .i64 b, .int .i64 d])]⟩))) (.ex .normal) [.seq (xK (ae Tryz.f107))] 118 (mkF 118 0 [(1, .box (ac.c p1) 0), (6, .ptr 1 0), (10, .ptr 2 0), (11, .ptr 3 0)]) ⟨4, [(3, .var 24 (GDatum.c j)), (2, .var 24 (GDatum.c i)), (1, .var 24 [.int .i64 0, .int .i64 0, .str [], .nils]), (0, .var 69 [.row 6 (ac.vs e), .int .i64 f, .int .i64 g])]⟩
def L1_eval_runner_operation (m : Nat) (p1 : ac) (e : List ac) (f g : Int) (i j : GDatum) (k : Bool) (r0 : GDatum) (r1 : Int) (a : List ac) (b d : Int) : Prop := ∀ (K : Ctx), ao K [0] → qLG K Tryz.f107 (fun u G => u = .tup [.agg (GDatum.c r0), .int .i64 r1] ∧ G = ⟨2, [(0, .var 69 [.row 6 (ac.vs a), .int .i64 b, .int .i64 d])]⟩) (cB (cA (xN (ae Tryz.f107)))) [.seq (xK (xA (ae Tryz.f107)))] 118 (mkF 118 0 [(1, .box (ac.c p1) 0), (6, .ptr 1 0), (10, .ptr 2 0), (11, .ptr 3 0), (58, .bool k)]) ⟨4, [(3, .var 24 (GDatum.c j)), (2, .var 24 (GDatum.c i)), (1, .var 24 [.int .i64 0, .int .i64 0, .str [], .nils]), (0, .var 69 [.row 6 (ac.vs e), .int .i64 f, .int .i64 g])]⟩
theorem oL (m : Nat) (b : List ac) (f g : Int) (p1 : ac) (p2 : List ai) (r0 : GDatum) (r1 : Int) (a : List ac) (c d : Int) (h : ∃ o e k l n, S_eval_runner_all b f g p1 p2 o e k l n ∧ ((e ≠ 0) → (GDatum.mk 0 0 [] []) = r0 ∧ e = r1 ∧ k = a ∧ l = c ∧ n = d) ∧ ((e = 0) → ∃ p, o[0]? = some p ∧ ∃ q, o[1]? = some q ∧ L0_eval_runner_operation m p1 k l n p q r0 r1 a c d)) : jI b f g p1 p2 r0 r1 a c d := by
 refine aj 118 [0] Tryz.func107 rfl rfl rfl (ax rfl) fun K hK => ?_
 refine gR 11 rfl ?_
 obtain ⟨o, e, k, l, n, hs13, h⟩ := h
 refine gC hs13 [0] (by kernel_rfl) rfl rfl .rfl ⟨⟨_, rfl, ⟨rfl, av.rfl⟩⟩, trivial⟩ rfl ?_
 rintro _ _ ⟨rfl, rfl⟩
 refine gR 14 rfl <| qBh 20 rfl rfl rfl h bN bn (fun h => ?_) fun h => ?_
 refine gR 11 rfl ?_
 obtain ⟨rfl, rfl, rfl, rfl, rfl⟩ := h
 exact go_sub (F' := (mkF 118 0 [(6, .ptr 1 0), (7, .int .i64 e)])) (H' := ⟨2, [(1, .var 24 [.int .i64 ((GDatum.mk 0 0 [] []).Kind), .int .i64 ((GDatum.mk 0 0 [] []).N), .str ((GDatum.mk 0 0 [] []).S), .row 4 (GDatum.vs ((GDatum.mk 0 0 [] []).L))]), (0, .var 69 [.row 6 (ac.vs k), .int .i64 l, .int .i64 n])]⟩) [0, 1] [0] rfl hK pq2 ⟨⟨_, rfl, rfl, (.cons .rfl (.cons .rfl (.cons .rfl (.cons (.nil 4) .nil))))⟩, (pqo1 rfl rfl)⟩ rfl <| go_endD [1] ab (rs := [.cell 6 24, .tmp 7]) rfl rfl ⟨rfl, rfl⟩
 refine gR 4 rfl <| gDs [] 8 10 rfl (by kernel_rfl) (by kernel_rfl) <| gDr [(0, 2)] (by kernel_rfl) rfl rfl ?_
 obtain ⟨p, hxx0_6, h⟩ := h
 refine gYd 1 rfl (by kernel_rfl) (ay (GDatum.vget hxx0_6) ab rfl rfl rfl rfl) rfl rfl <| gDr [(2, 2), (3, 2)] (by kernel_rfl) rfl rfl ?_
 obtain ⟨q, hxx0_7, h⟩ := h
 refine gYd 4 rfl (by kernel_rfl) (ay (GDatum.vget hxx0_7) ab rfl rfl rfl rfl) rfl rfl <| gDr [(5, 2)] (by kernel_rfl) rfl rfl ?_
 apply bf (i := 6) (j := 7) (by kernel_rfl) rfl rfl rfl rfl
 exact (aC ab rfl rfl)
 exact (aC ab rfl rfl)
 exact gDr [(7, 0), (8, 1), (9, 1)] (by kernel_rfl) rfl rfl <| gDe (by kernel_rfl) <| gJ (h K hK) [0, 1, 3, 4] [0] rfl hK pq4 (pqo4 rfl rfl rfl rfl rfl rfl rfl rfl) rfl
 exact gDr [(6, 0), (8, 1), (9, 1)] (by kernel_rfl) rfl rfl <| gDe (by kernel_rfl) <| gJ (h K hK) [0, 1, 4, 3] [0] rfl hK pq4 (pqo4 rfl rfl rfl rfl rfl rfl rfl rfl) rfl
theorem ov (m : Nat) (p1 : ac) (e : List ac) (f g : Int) (d i r0 : GDatum) (r1 : Int) (a : List ac) (b c : Int) (h : ((p1.text = [61, 61]) → ((d.Kind ≠ i.Kind) → (GDatum.mk 0 0 [] []) = r0 ∧ 20 = r1 ∧ e = a ∧ f = b ∧ g = c) ∧ ((d.Kind = i.Kind) → ∃ k, kD d i k ∧ ∃ j, eY k j ∧ j = r0 ∧ 0 = r1 ∧ e = a ∧ f = b ∧ g = c)) ∧ ((p1.text ≠ [61, 61]) → ((p1.text = [43]) → ((d.Kind = 2) → L1_eval_runner_operation m p1 e f g d i (i.Kind == 2) r0 r1 a b c) ∧ ((d.Kind ≠ 2) → L1_eval_runner_operation m p1 e f g d i false r0 r1 a b c)) ∧ ((p1.text ≠ [43]) → L1_eval_runner_operation m p1 e f g d i false r0 r1 a b c))) : L0_eval_runner_operation (m + 1) p1 e f g d i r0 r1 a b c := by
 intro K hK
 refine gR 11 rfl <| qBe 33 rfl rfl rfl h (fun h => ?_) fun h => ?_
 refine gR 11 rfl <| qBh 38 rfl rfl rfl h bN bn (fun h => ?_) fun h => ?_
 refine gR 11 rfl ?_
 obtain ⟨rfl, rfl, rfl, rfl, rfl⟩ := h
 exact go_sub (F' := (mkF 118 0 [(6, .ptr 1 0), (7, .int .i64 20)])) (H' := ⟨2, [(1, .var 24 [.int .i64 ((GDatum.mk 0 0 [] []).Kind), .int .i64 ((GDatum.mk 0 0 [] []).N), .str ((GDatum.mk 0 0 [] []).S), .row 4 (GDatum.vs ((GDatum.mk 0 0 [] []).L))]), (0, .var 69 [.row 6 (ac.vs e), .int .i64 f, .int .i64 g])]⟩) [0, 1] [0] rfl hK pq2 ⟨⟨_, rfl, rfl, (.cons .rfl (.cons .rfl (.cons .rfl (.cons (.nil 4) .nil))))⟩, (pqo1 rfl rfl)⟩ rfl <| go_endD [1] ab (rs := [.cell 6 24, .tmp 7]) rfl rfl ⟨rfl, rfl⟩
 refine gR 7 rfl ?_
 obtain ⟨k, hs14, h⟩ := h
 refine gC0 hs14 (by kernel_rfl) rfl rfl .rfl rfl ?_
 obtain ⟨j, hs15, h⟩ := h
 refine gC0 hs15 (by kernel_rfl) rfl rfl .rfl rfl <| gR 6 rfl ?_
 obtain ⟨rfl, rfl, rfl, rfl, rfl⟩ := h
 exact go_sub (F' := (mkF 118 0 [(6, .ptr 1 0), (7, .int .i64 0)])) (H' := ⟨2, [(1, .var 24 (GDatum.c j)), (0, .var 69 [.row 6 (ac.vs e), .int .i64 f, .int .i64 g])]⟩) [0, 1] [0] rfl hK pq2 (pqo2 rfl rfl rfl rfl) rfl <| go_endD [1] ab (rs := [.cell 6 24, .tmp 7]) rfl rfl ⟨rfl, rfl⟩
 refine gR 12 rfl <| qBeZ 49 48 rfl rfl rfl rfl h (fun h => ?_) fun h => ?_
 refine gR 5 rfl <| qBeZ 54 53 rfl rfl rfl rfl h (fun h => ?_) fun h => ?_
 exact gR 6 rfl <| gJ (h K hK) [0, 1, 2, 3] [0] rfl hK pq5 (pqo4 rfl rfl rfl rfl rfl rfl rfl rfl) rfl
 exact gR 6 rfl <| gJ (h K hK) [0, 1, 2, 3] [0] rfl hK pq5 (pqo4 rfl rfl rfl rfl rfl rfl rfl rfl) rfl
 exact gR 11 rfl <| gJ (h K hK) [0, 1, 2, 3] [0] rfl hK pq5 (pqo4 rfl rfl rfl rfl rfl rfl rfl rfl) rfl
theorem oy (m : Nat) (p1 : ac) (f : List ac) (g i : Int) (a b : GDatum) (k : Bool) (r0 : GDatum) (r1 : Int) (c : List ac) (d e : Int) (h : ((k = true) → ((4096 < (IntKind.i64.wrap ((IntKind.i64.wrap ((a.S.length : Int) + (b.S.length : Int))) + 1))) → (GDatum.mk 0 0 [] []) = r0 ∧ 3 = r1 ∧ f = c ∧ g = d ∧ i = e) ∧ ((¬ 4096 < (IntKind.i64.wrap ((IntKind.i64.wrap ((a.S.length : Int) + (b.S.length : Int))) + 1))) → a.S.length + b.S.length ≤ 9223372036854775807 ∧ (GDatum.mk 2 0 (a.S ++ b.S) []) = r0 ∧ 0 = r1 ∧ f = c ∧ g = d ∧ i = e)) ∧ ((k = false) → ((a.Kind ≠ 1) → (GDatum.mk 0 0 [] []) = r0 ∧ 20 = r1 ∧ f = c ∧ g = d ∧ i = e) ∧ ((a.Kind = 1) → ((b.Kind ≠ 1) → (GDatum.mk 0 0 [] []) = r0 ∧ 20 = r1 ∧ f = c ∧ g = d ∧ i = e) ∧ ((b.Kind = 1) → ((p1.text = [43]) → (GDatum.mk 1 (IntKind.i64.wrap (a.N + b.N)) [] []) = r0 ∧ 0 = r1 ∧ f = c ∧ g = d ∧ i = e) ∧ ((p1.text ≠ [43]) → ((p1.text = [45]) → (GDatum.mk 1 (IntKind.i64.wrap (a.N - b.N)) [] []) = r0 ∧ 0 = r1 ∧ f = c ∧ g = d ∧ i = e) ∧ ((p1.text ≠ [45]) → ((p1.text = [42]) → (GDatum.mk 1 (IntKind.i64.wrap (a.N * b.N)) [] []) = r0 ∧ 0 = r1 ∧ f = c ∧ g = d ∧ i = e) ∧ ((p1.text ≠ [42]) → ∃ j, eY (decide (a.N < b.N)) j ∧ j = r0 ∧ 0 = r1 ∧ f = c ∧ g = d ∧ i = e))))))) : L1_eval_runner_operation (m + 1) p1 f g i a b k r0 r1 c d e := by
 intro K hK
 refine qBi 58 rfl rfl rfl h (fun h => ?_) fun h => ?_
 refine gR 11 rfl <| gV 65 (.int .i64 (IntKind.i64.wrap ((a.S.length : Int) + (b.S.length : Int)))) rfl (rfl) rfl <| gR 1 rfl <| gV 66 (.int .i64 (IntKind.i64.wrap ((IntKind.i64.wrap ((a.S.length : Int) + (b.S.length : Int))) + 1))) rfl (rfl) rfl <| gR 3 rfl <| qBd 67 rfl rfl rfl h (fun h => ?_) fun h => ?_
 refine gR 11 rfl ?_
 obtain ⟨rfl, rfl, rfl, rfl, rfl⟩ := h
 exact go_sub (F' := (mkF 118 0 [(6, .ptr 1 0), (7, .int .i64 3)])) (H' := ⟨2, [(1, .var 24 [.int .i64 ((GDatum.mk 0 0 [] []).Kind), .int .i64 ((GDatum.mk 0 0 [] []).N), .str ((GDatum.mk 0 0 [] []).S), .row 4 (GDatum.vs ((GDatum.mk 0 0 [] []).L))]), (0, .var 69 [.row 6 (ac.vs f), .int .i64 g, .int .i64 i])]⟩) [0, 1] [0] rfl hK pq2 ⟨⟨_, rfl, rfl, (.cons .rfl (.cons .rfl (.cons .rfl (.cons (.nil 4) .nil))))⟩, (pqo1 rfl rfl)⟩ rfl <| go_endD [1] ab (rs := [.cell 6 24, .tmp 7]) rfl rfl ⟨rfl, rfl⟩
 refine gR 9 rfl ?_
 obtain ⟨hb, h⟩ := h
 refine gY (oO rfl rfl hb) rfl rfl <| gR 7 rfl ?_
 obtain ⟨rfl, rfl, rfl, rfl, rfl⟩ := h
 exact go_sub (F' := (mkF 118 0 [(6, .ptr 1 0), (7, .int .i64 0)])) (H' := ⟨2, [(1, .var 24 [.int .i64 ((GDatum.mk 2 0 (a.S ++ b.S) []).Kind), .int .i64 ((GDatum.mk 2 0 (a.S ++ b.S) []).N), .str ((GDatum.mk 2 0 (a.S ++ b.S) []).S), .row 4 (GDatum.vs ((GDatum.mk 2 0 (a.S ++ b.S) []).L))]), (0, .var 69 [.row 6 (ac.vs f), .int .i64 g, .int .i64 i])]⟩) [0, 1] [0] rfl hK pq2 ⟨⟨_, rfl, rfl, (.cons .rfl (.cons .rfl (.cons .rfl (.cons (.nil 4) .nil))))⟩, (pqo1 rfl rfl)⟩ rfl <| go_endD [1] ab (rs := [.cell 6 24, .tmp 7]) rfl rfl ⟨rfl, rfl⟩
 refine gR 10 rfl <| qBhZ 78 77 rfl rfl rfl rfl h bN bn (fun h => ?_) fun h => ?_
 refine gR 16 rfl ?_
 obtain ⟨rfl, rfl, rfl, rfl, rfl⟩ := h
 exact go_sub (F' := (mkF 118 0 [(6, .ptr 1 0), (7, .int .i64 20)])) (H' := ⟨2, [(1, .var 24 [.int .i64 ((GDatum.mk 0 0 [] []).Kind), .int .i64 ((GDatum.mk 0 0 [] []).N), .str ((GDatum.mk 0 0 [] []).S), .row 4 (GDatum.vs ((GDatum.mk 0 0 [] []).L))]), (0, .var 69 [.row 6 (ac.vs f), .int .i64 g, .int .i64 i])]⟩) [0, 1] [0] rfl hK pq2 ⟨⟨_, rfl, rfl, (.cons .rfl (.cons .rfl (.cons .rfl (.cons (.nil 4) .nil))))⟩, (pqo1 rfl rfl)⟩ rfl <| go_endD [1] ab (rs := [.cell 6 24, .tmp 7]) rfl rfl ⟨rfl, rfl⟩
 refine gR 6 rfl <| qBh 82 rfl rfl rfl h bN bn (fun h => ?_) fun h => ?_
 refine gR 10 rfl ?_
 obtain ⟨rfl, rfl, rfl, rfl, rfl⟩ := h
 exact go_sub (F' := (mkF 118 0 [(6, .ptr 1 0), (7, .int .i64 20)])) (H' := ⟨2, [(1, .var 24 [.int .i64 ((GDatum.mk 0 0 [] []).Kind), .int .i64 ((GDatum.mk 0 0 [] []).N), .str ((GDatum.mk 0 0 [] []).S), .row 4 (GDatum.vs ((GDatum.mk 0 0 [] []).L))]), (0, .var 69 [.row 6 (ac.vs f), .int .i64 g, .int .i64 i])]⟩) [0, 1] [0] rfl hK pq2 ⟨⟨_, rfl, rfl, (.cons .rfl (.cons .rfl (.cons .rfl (.cons (.nil 4) .nil))))⟩, (pqo1 rfl rfl)⟩ rfl <| go_endD [1] ab (rs := [.cell 6 24, .tmp 7]) rfl rfl ⟨rfl, rfl⟩
 refine gR 19 rfl <| qBeZ 88 89 rfl rfl rfl rfl h (fun h => ?_) fun h => ?_
 refine gR 8 rfl <| gV 94 (.int .i64 (IntKind.i64.wrap (a.N + b.N))) rfl (rfl) rfl <| gR 8 rfl ?_
 obtain ⟨rfl, rfl, rfl, rfl, rfl⟩ := h
 exact go_sub (F' := (mkF 118 0 [(6, .ptr 1 0), (7, .int .i64 0)])) (H' := ⟨2, [(1, .var 24 [.int .i64 ((GDatum.mk 1 (IntKind.i64.wrap (a.N + b.N)) [] []).Kind), .int .i64 ((GDatum.mk 1 (IntKind.i64.wrap (a.N + b.N)) [] []).N), .str ((GDatum.mk 1 (IntKind.i64.wrap (a.N + b.N)) [] []).S), .row 4 (GDatum.vs ((GDatum.mk 1 (IntKind.i64.wrap (a.N + b.N)) [] []).L))]), (0, .var 69 [.row 6 (ac.vs f), .int .i64 g, .int .i64 i])]⟩) [0, 1] [0] rfl hK pq2 ⟨⟨_, rfl, rfl, (.cons .rfl (.cons .rfl (.cons .rfl (.cons (.nil 4) .nil))))⟩, (pqo1 rfl rfl)⟩ rfl <| go_endD [1] ab (rs := [.cell 6 24, .tmp 7]) rfl rfl ⟨rfl, rfl⟩
 refine gR 7 rfl <| qBeZ 96 97 rfl rfl rfl rfl h (fun h => ?_) fun h => ?_
 refine gR 8 rfl <| gV 102 (.int .i64 (IntKind.i64.wrap (a.N - b.N))) rfl (rfl) rfl <| gR 8 rfl ?_
 obtain ⟨rfl, rfl, rfl, rfl, rfl⟩ := h
 exact go_sub (F' := (mkF 118 0 [(6, .ptr 1 0), (7, .int .i64 0)])) (H' := ⟨2, [(1, .var 24 [.int .i64 ((GDatum.mk 1 (IntKind.i64.wrap (a.N - b.N)) [] []).Kind), .int .i64 ((GDatum.mk 1 (IntKind.i64.wrap (a.N - b.N)) [] []).N), .str ((GDatum.mk 1 (IntKind.i64.wrap (a.N - b.N)) [] []).S), .row 4 (GDatum.vs ((GDatum.mk 1 (IntKind.i64.wrap (a.N - b.N)) [] []).L))]), (0, .var 69 [.row 6 (ac.vs f), .int .i64 g, .int .i64 i])]⟩) [0, 1] [0] rfl hK pq2 ⟨⟨_, rfl, rfl, (.cons .rfl (.cons .rfl (.cons .rfl (.cons (.nil 4) .nil))))⟩, (pqo1 rfl rfl)⟩ rfl <| go_endD [1] ab (rs := [.cell 6 24, .tmp 7]) rfl rfl ⟨rfl, rfl⟩
 refine gR 7 rfl <| qBeZ 104 105 rfl rfl rfl rfl h (fun h => ?_) fun h => ?_
 refine gR 7 rfl <| gY (El rfl rfl) rfl rfl <| gR 8 rfl ?_
 obtain ⟨rfl, rfl, rfl, rfl, rfl⟩ := h
 exact go_sub (F' := (mkF 118 0 [(6, .ptr 1 0), (7, .int .i64 0)])) (H' := ⟨2, [(1, .var 24 [.int .i64 ((GDatum.mk 1 (IntKind.i64.wrap (a.N * b.N)) [] []).Kind), .int .i64 ((GDatum.mk 1 (IntKind.i64.wrap (a.N * b.N)) [] []).N), .str ((GDatum.mk 1 (IntKind.i64.wrap (a.N * b.N)) [] []).S), .row 4 (GDatum.vs ((GDatum.mk 1 (IntKind.i64.wrap (a.N * b.N)) [] []).L))]), (0, .var 69 [.row 6 (ac.vs f), .int .i64 g, .int .i64 i])]⟩) [0, 1] [0] rfl hK pq2 ⟨⟨_, rfl, rfl, (.cons .rfl (.cons .rfl (.cons .rfl (.cons (.nil 4) .nil))))⟩, (pqo1 rfl rfl)⟩ rfl <| go_endD [1] ab (rs := [.cell 6 24, .tmp 7]) rfl rfl ⟨rfl, rfl⟩
 refine gR 11 rfl ?_
 obtain ⟨j, hs16, h⟩ := h
 refine gC0 hs16 (by kernel_rfl) rfl rfl .rfl rfl <| gR 5 rfl ?_
 obtain ⟨rfl, rfl, rfl, rfl, rfl⟩ := h
 exact go_sub (F' := (mkF 118 0 [(6, .ptr 1 0), (7, .int .i64 0)])) (H' := ⟨2, [(1, .var 24 (GDatum.c j)), (0, .var 69 [.row 6 (ac.vs f), .int .i64 g, .int .i64 i])]⟩) [0, 1] [0] rfl hK pq2 (pqo2 rfl rfl rfl rfl) rfl <| go_endD [1] ab (rs := [.cell 6 24, .tmp 7]) rfl rfl ⟨rfl, rfl⟩
def eK (m : Nat) (a : List ac) (d e : Int) (p1 : ac) (p2 : List GDatum) (i : List ai) (j : Int) (r0 : GDatum) (r1 : Int) (b : List ac) (f g : Int) : Prop := ∀ (K : Ctx) (j1 : Nat), ao K [0] → m ≤ j1 → qLG K Tryz.f45 (fun u G => u = .tup [.agg (GDatum.c r0), .int .i64 r1] ∧ G = ⟨2, [(0, .var 69 [.row 6 (ac.vs b), .int .i64 f, .int .i64 g])]⟩) (xI (ae Tryz.f45)) [.loop (xI (ae Tryz.f45)) j1, .blk 0, .seq (xH (ae Tryz.f45))] 45 (mkF 45 0 [(0, .ptr 0 0), (1, .box (ac.c p1) 0), (2, .row 4 (GDatum.vs p2)), (6, .ptr 1 0), (8, .lk (List.map ai.c i)), (9, .int .i64 j)]) ⟨2, [(1, .var 24 [.int .i64 0, .int .i64 0, .str [], .nils]), (0, .var 69 [.row 6 (ac.vs a), .int .i64 d, .int .i64 e])]⟩
theorem ri (m : Nat) (a : List ac) (c d : Int) (p1 : ac) (p2 : List GDatum) (r0 : GDatum) (r1 : Int) (b : List ac) (e f : Int) (h : eK m a c d p1 p2 [] ((p2.length : Int) - 1) r0 r1 b e f) : S_eval_runner_enter a c d p1 p2 r0 r1 b e f := by
 refine aj 45 [0] Tryz.func45 rfl rfl rfl (ax rfl) fun K hK => ?_
 exact gR 16 rfl <| gV 11 (.int .i64 (p2.length : Int)) rfl (aL (GDatum.vlen _)) rfl <| gLB 10 rfl (GDatum.vlen _) fun hl7 => gR 1 rfl <| gV 12 (.int .i64 ((p2.length : Int) - 1)) rfl (au (by have := hl7; omega) rfl) rfl <| gR 4 rfl <| go_loop m <| gJ (h K _ hK (by omega)) [0, 1] [0] rfl hK ⟨pqq, pqq, pqq, pqq, ⟨_, rfl, lkN⟩, pqq, trivial⟩ (pqo2 rfl rfl rfl rfl) rfl
theorem lr (m : Nat) (a : List ac) (d e : Int) (p1 : ac) (p2 : List GDatum) (r : List ai) (c : Int) (r0 : GDatum) (r1 : Int) (b : List ac) (f g : Int) (h : ((0 ≤ c) → ∃ l, c = ((l : Nat) : Int) ∧ ∃ s, p1.kids[l]? = some s ∧ ∃ n, c = ((n : Nat) : Int) ∧ ∃ t, p2[n]? = some t ∧ InI (c - 1) ∧ eK m a d e p1 p2 (ai.mk s.text t :: r) (c - 1) r0 r1 b f g) ∧ ((¬ 0 ≤ c) → p2.length + 1 ≤ 9223372036854775807 ∧ ∃ v, p1.kids[p2.length + 1]? = some v ∧ ∃ i o p q k, S_eval_runner_value a d e v r i o p q k ∧ i = r0 ∧ o = r1 ∧ p = b ∧ q = f ∧ k = g)) : eK (m + 1) a d e p1 p2 r c r0 r1 b f g := by
 intro K j1 hK hj1
 obtain ⟨j1, rfl⟩ : ∃ j, j1 = j + 1 := ⟨j1 - 1, by omega⟩
 refine gR 7 rfl <| gB 14 rfl rfl rfl ?_ ?_ <;> intro hd
 replace hd := (of_decide_eq_true hd)
 replace h := h.1 hd
 refine gR 5 rfl <| gDs [] 16 16 rfl (by kernel_rfl) (by kernel_rfl) <| gDr [(0, 2), (1, 2), (2, 2), (3, 2), (4, 2)] (by kernel_rfl) rfl rfl ?_
 obtain ⟨l, w, h⟩ := h
 refine gV 21 (.int .i64 ((l : Nat) : Int)) rfl (bo w) rfl ?_
 obtain ⟨s, hxx1_2, h⟩ := h
 refine gYd 5 rfl (by kernel_rfl) (ay (ac.vget hxx1_2) ab rfl rfl rfl rfl) rfl rfl <| gDr [(6, 2), (7, 2), (8, 2), (9, 2)] (by kernel_rfl) rfl rfl ?_
 obtain ⟨n, x, h⟩ := h
 refine gV 26 (.int .i64 ((n : Nat) : Int)) rfl (bo x) rfl ?_
 obtain ⟨t, hxx1_4, h⟩ := h
 refine gYd 10 rfl (by kernel_rfl) (ay (GDatum.vget hxx1_4) ab rfl rfl rfl rfl) rfl rfl <| gDr [(11, 2), (12, 0), (13, 0), (14, 0), (15, 0)] (by kernel_rfl) rfl rfl <| gDe (by kernel_rfl) <| gR 4 rfl ?_
 obtain ⟨hb, h⟩ := h
 exact gR 1 rfl <| gV 16 (.int .i64 (c - 1)) rfl (au hb rfl) rfl <| gR 2 rfl <| go_xloop <| gFP 2 rfl rfl rfl rfl <| gJ (h K _ hK (by omega)) [0, 1] [0] rfl hK ⟨pqq, pqq, pqq, pqq, ⟨_, rfl, (lkC rfl)⟩, pqq, trivial⟩ (pqo2 rfl rfl rfl rfl) rfl
 replace hd := (of_decide_eq_false hd)
 replace h := h.2 hd
 refine gR 3 rfl <| go_xloopE <| gR 11 rfl <| gV 38 (.int .i64 (p2.length : Int)) rfl (aL (GDatum.vlen _)) rfl <| gLB 37 rfl (GDatum.vlen _) fun hl8 => ?_
 obtain ⟨hb, h⟩ := h
 refine gR 1 rfl <| gV 39 (.int .i64 ((p2.length + 1 : Nat) : Int)) rfl (au (by omega) (by omega)) rfl ?_
 obtain ⟨v, hxx1_5, h⟩ := h
 refine gY (ay (ac.vget hxx1_5) ab rfl rfl rfl rfl) rfl rfl <| gR 1 rfl ?_
 obtain ⟨i, o, p, q, k, hs9, h⟩ := h
 refine gC hs9 [0] (by kernel_rfl) rfl rfl .rfl ⟨⟨_, rfl, ⟨rfl, av.rfl⟩⟩, trivial⟩ rfl ?_
 rintro _ _ ⟨rfl, rfl⟩
 refine gR 7 rfl ?_
 obtain ⟨rfl, rfl, rfl, rfl, rfl⟩ := h
 exact go_sub (F' := (mkF 45 0 [(6, .ptr 1 0), (7, .int .i64 o)])) (H' := ⟨2, [(1, .var 24 (GDatum.c i)), (0, .var 69 [.row 6 (ac.vs p), .int .i64 q, .int .i64 k])]⟩) [0, 1] [0] rfl hK pq2 (pqo2 rfl rfl rfl rfl) rfl <| go_endD [1] ab (rs := [.cell 6 24, .tmp 7]) rfl rfl ⟨rfl, rfl⟩
theorem rU (m : Nat) (k : List ac) (s t : Int) (p1 : ac) (p2 : List ai) (r0 : GDatum) (r1 : Int) (a : List ac) (d e : Int) (h : ∃ j n b f g, S_eval_runner_all k s t p1 p2 j n b f g ∧ ((n ≠ 0) → (GDatum.mk 0 0 [] []) = r0 ∧ n = r1 ∧ b = a ∧ f = d ∧ g = e) ∧ ((n = 0) → ((p1.free = true) → (GDatum.mk 0 0 [] []) = r0 ∧ 7 = r1 ∧ b = a ∧ f = d ∧ g = e) ∧ ((p1.free = false) → ∃ v, p1.module = ((v : Nat) : Int) ∧ ∃ x, b[v]? = some x ∧ ∃ w, p1.def_ = ((w : Nat) : Int) ∧ ∃ l, x.kids[w]? = some l ∧ j.length + 2 ≤ 9223372036854775807 ∧ ((l.kids.length ≠ (j.length + 2)) → (GDatum.mk 0 0 [] []) = r0 ∧ 5 = r1 ∧ b = a ∧ f = d ∧ g = e) ∧ ((l.kids.length = (j.length + 2)) → ∃ i o p q r, S_eval_runner_enter b f g l j i o p q r ∧ i = r0 ∧ o = r1 ∧ p = a ∧ q = d ∧ r = e)))) : nT k s t p1 p2 r0 r1 a d e := by
 refine aj 59 [0] Tryz.func106 rfl rfl rfl (ax rfl) fun K hK => ?_
 refine gR 11 rfl ?_
 obtain ⟨j, n, b, f, g, hs5, h⟩ := h
 refine gC hs5 [0] (by kernel_rfl) rfl rfl .rfl ⟨⟨_, rfl, ⟨rfl, av.rfl⟩⟩, trivial⟩ rfl ?_
 rintro _ _ ⟨rfl, rfl⟩
 refine gR 14 rfl <| gB 19 rfl rfl rfl ?_ ?_ <;> intro hd
 replace hd := (bN hd)
 replace h := h.1 hd
 refine gR 11 rfl ?_
 obtain ⟨rfl, rfl, rfl, rfl, rfl⟩ := h
 exact go_sub (F' := (mkF 59 0 [(6, .ptr 1 0), (7, .int .i64 n)])) (H' := ⟨2, [(1, .var 24 [.int .i64 ((GDatum.mk 0 0 [] []).Kind), .int .i64 ((GDatum.mk 0 0 [] []).N), .str ((GDatum.mk 0 0 [] []).S), .row 4 (GDatum.vs ((GDatum.mk 0 0 [] []).L))]), (0, .var 69 [.row 6 (ac.vs b), .int .i64 f, .int .i64 g])]⟩) [0, 1] [0] rfl hK pq2 ⟨⟨_, rfl, rfl, (.cons .rfl (.cons .rfl (.cons .rfl (.cons (.nil 4) .nil))))⟩, (pqo1 rfl rfl)⟩ rfl <| go_endD [1] ab (rs := [.cell 6 24, .tmp 7]) rfl rfl ⟨rfl, rfl⟩
 replace hd := (bn hd)
 replace h := h.2 hd
 refine gR 12 rfl <| gB 25 rfl rfl rfl ?_ ?_ <;> intro hd
 replace h := h.1 hd
 refine gR 10 rfl ?_
 obtain ⟨rfl, rfl, rfl, rfl, rfl⟩ := h
 exact go_sub (F' := (mkF 59 0 [(6, .ptr 1 0), (7, .int .i64 7)])) (H' := ⟨2, [(1, .var 24 [.int .i64 ((GDatum.mk 0 0 [] []).Kind), .int .i64 ((GDatum.mk 0 0 [] []).N), .str ((GDatum.mk 0 0 [] []).S), .row 4 (GDatum.vs ((GDatum.mk 0 0 [] []).L))]), (0, .var 69 [.row 6 (ac.vs b), .int .i64 f, .int .i64 g])]⟩) [0, 1] [0] rfl hK pq2 ⟨⟨_, rfl, rfl, (.cons .rfl (.cons .rfl (.cons .rfl (.cons (.nil 4) .nil))))⟩, (pqo1 rfl rfl)⟩ rfl <| go_endD [1] ab (rs := [.cell 6 24, .tmp 7]) rfl rfl ⟨rfl, rfl⟩
 replace h := h.2 hd
 refine gR 4 rfl <| gDs [0] 8 17 rfl (by kernel_rfl) (by kernel_rfl) <| gDr [(0, 2), (1, 2), (2, 2), (3, 3), (4, 2), (5, 2), (6, 2), (7, 2), (11, 2), (12, 2), (13, 2), (14, 2)] (by kernel_rfl) rfl rfl ?_
 obtain ⟨v, y, h⟩ := h
 refine gV 34 (.int .i64 ((v : Nat) : Int)) rfl (bo y) rfl ?_
 obtain ⟨x, hxx0_7, h⟩ := h
 refine eh 8 rfl (by kernel_rfl) (ay (ac.vget hxx0_7) ab rfl rfl rfl rfl) rfl rfl ?_
 refine gDr [(9, 1), (10, 1)] (by kernel_rfl) rfl rfl ?_
 obtain ⟨w, z, h⟩ := h
 refine gV 41 (.int .i64 ((w : Nat) : Int)) rfl (bo z) rfl ?_
 obtain ⟨l, hxx0_9, h⟩ := h
 refine eh 15 rfl (by kernel_rfl) (ay (ac.vget hxx0_9) ab rfl rfl rfl rfl) rfl rfl ?_
 refine gDr [(16, 1)] (by kernel_rfl) rfl rfl <| gDe (by kernel_rfl) <| gR 9 rfl <| gV 47 (.int .i64 (l.kids.length : Int)) rfl (aL (ac.vlen _)) rfl <| gLB 46 rfl (ac.vlen _) fun hl6 => gR 2 rfl <| gV 49 (.int .i64 (j.length : Int)) rfl (aL (GDatum.vlen _)) rfl <| gLB 48 rfl (GDatum.vlen _) fun hl7 => ?_
 obtain ⟨hb, h⟩ := h
 refine gR 1 rfl <| gV 50 (.int .i64 ((j.length + 2 : Nat) : Int)) rfl (au (by omega) (by omega)) rfl <| gR 3 rfl <| gB 51 rfl rfl rfl ?_ ?_ <;> intro hd
 replace hd := (DF hd)
 replace h := h.1 hd
 refine gR 1 rfl <| go_sub (F' := (mkF 59 0 [(6, .ptr 1 0)])) (H' := ⟨2, [(1, .var 24 [.int .i64 0, .int .i64 0, .str [], .nils]), (0, .var 69 [.row 6 (ac.vs b), .int .i64 f, .int .i64 g])]⟩) [0, 1] [0] rfl hK pq1 (pqo2 rfl rfl rfl rfl) rfl <| gR 9 rfl ?_
 obtain ⟨rfl, rfl, rfl, rfl, rfl⟩ := h
 exact go_sub (F' := (mkF 59 0 [(6, .ptr 1 0), (7, .int .i64 5)])) (H' := ⟨2, [(1, .var 24 [.int .i64 ((GDatum.mk 0 0 [] []).Kind), .int .i64 ((GDatum.mk 0 0 [] []).N), .str ((GDatum.mk 0 0 [] []).S), .row 4 (GDatum.vs ((GDatum.mk 0 0 [] []).L))]), (0, .var 69 [.row 6 (ac.vs b), .int .i64 f, .int .i64 g])]⟩) [0, 1] [0] rfl hK pq2 ⟨⟨_, rfl, rfl, (.cons .rfl (.cons .rfl (.cons .rfl (.cons (.nil 4) .nil))))⟩, (pqo1 rfl rfl)⟩ rfl <| go_endD [1] ab (rs := [.cell 6 24, .tmp 7]) rfl rfl ⟨rfl, rfl⟩
 replace hd := (DL hd)
 replace h := h.2 hd
 refine gR 3 rfl <| go_sub (F' := (mkF 59 0 [(0, .ptr 0 0), (6, .ptr 1 0), (8, .row 4 (GDatum.vs j)), (10, .box (ac.c l) 0)])) (H' := ⟨2, [(1, .var 24 [.int .i64 0, .int .i64 0, .str [], .nils]), (0, .var 69 [.row 6 (ac.vs b), .int .i64 f, .int .i64 g])]⟩) [0, 1] [0] rfl hK pq4 (pqo2 rfl rfl rfl rfl) rfl <| gR 5 rfl ?_
 obtain ⟨i, o, p, q, r, hs8, h⟩ := h
 refine gC hs8 [0] (by kernel_rfl) rfl rfl .rfl ⟨⟨_, rfl, ⟨rfl, av.rfl⟩⟩, trivial⟩ rfl ?_
 rintro _ _ ⟨rfl, rfl⟩
 refine gR 7 rfl ?_
 obtain ⟨rfl, rfl, rfl, rfl, rfl⟩ := h
 exact go_sub (F' := (mkF 59 0 [(6, .ptr 1 0), (7, .int .i64 o)])) (H' := ⟨2, [(1, .var 24 (GDatum.c i)), (0, .var 69 [.row 6 (ac.vs p), .int .i64 q, .int .i64 r])]⟩) [0, 1] [0] rfl hK pq2 (pqo2 rfl rfl rfl rfl) rfl <| go_endD [1] ab (rs := [.cell 6 24, .tmp 7]) rfl rfl ⟨rfl, rfl⟩
def km (m : Nat) (p0 : List Tree) (p1 p2 : Int) (p3 : List GDatum) (p4 : Int) (a : Nat) (r0 : GDatum) (r1 r2 : Int) : Prop := ∀ (K : Ctx) (j1 : Nat), ao K [] → m ≤ j1 → qLG K Tryz.f22 (fun u _ => u = .tup [.agg (GDatum.c r0), .int .i64 r1, .int .i64 r2]) (xI (ae Tryz.f22)) [.loop (xI (ae Tryz.f22)) j1, .blk 0, .seq (xH (ae Tryz.f22))] 102 (mkF 102 0 [(0, .row 4 (kidsV p0)), (1, .int .i64 p1), (2, .int .i64 p2), (3, .row 4 (GDatum.vs p3)), (4, .int .i64 p4), (10, .ptr 0 0), (37, .row 4 (GDatum.vs p3)), (38, .int .i64 (p3.length : Int)), (39, .int .i64 (a : Int))]) ⟨1, [(0, .var 24 [.int .i64 0, .int .i64 0, .str [], .nils])]⟩
def kA (m : Nat) (p0 : List Tree) (p1 p2 : Int) (p3 : List GDatum) (p4 : Int) (a : List GTarget) (b : List ac) (d : Nat) (r0 : GDatum) (r1 r2 : Int) : Prop := ∀ (K : Ctx) (j1 : Nat), ao K [] → m ≤ j1 → qLG K Tryz.f22 (fun u _ => u = .tup [.agg (GDatum.c r0), .int .i64 r1, .int .i64 r2]) (xI (xH (ae Tryz.f22))) [.loop (xI (xH (ae Tryz.f22))) j1, .blk 2, .seq (xK (xA (ae Tryz.f22)))] 102 (mkF 102 0 [(1, .int .i64 p1), (2, .int .i64 p2), (3, .row 4 (GDatum.vs p3)), (10, .ptr 0 0), (15, .ptr 1 0), (16, .ptr 2 0), (53, .row 4 (kidsV p0)), (54, .int .i64 (p0.length : Int)), (55, .int .i64 (d : Int))]) ⟨4, [(3, .row 71 6 (ac.vs b)), (2, .var 69 [.sl 3, .int .i64 p4, .int .i64 0]), (1, .var 64 [.row 5 (List.map GTarget.w a)]), (0, .var 24 [.int .i64 0, .int .i64 0, .str [], .nils])]⟩
def ti (m : Nat) (p0 : List Tree) (p1 p2 : Int) (p3 : List GDatum) (p4 : Int) (a : List GTarget) (b : List ac) (d : Nat) (r0 : GDatum) (r1 r2 : Int) : Prop := ∀ (K : Ctx) (j1 : Nat), ao K [] → m ≤ j1 → Go Tryz.prog K (bodyPost Tryz.prog Tryz.f22 (SP K (fun u _ => u = .tup [.agg (GDatum.c r0), .int .i64 r1, .int .i64 r2]))) (.ex .normal) [.blk 3, .seq (xH (xI (xH (ae Tryz.f22)))), .loop (xI (xH (ae Tryz.f22))) j1, .blk 2, .seq (xK (xA (ae Tryz.f22)))] 102 (mkF 102 0 [(1, .int .i64 p1), (2, .int .i64 p2), (3, .row 4 (GDatum.vs p3)), (10, .ptr 0 0), (15, .ptr 1 0), (16, .ptr 2 0), (53, .row 4 (kidsV p0)), (54, .int .i64 (p0.length : Int)), (55, .int .i64 (d : Int))]) ⟨4, [(3, .row 71 6 (ac.vs b)), (2, .var 69 [.sl 3, .int .i64 p4, .int .i64 0]), (1, .var 64 [.row 5 (List.map GTarget.w a)]), (0, .var 24 [.int .i64 0, .int .i64 0, .str [], .nils])]⟩
theorem tk (m : Nat) (p0 : List Tree) (p1 p2 : Int) (p3 : List GDatum) (p4 : Int) (r0 : GDatum) (r1 r2 : Int) (h : ∃ a, lM p0 p1 p2 (p3.length : Int) a ∧ ((a = false) → (GDatum.mk 0 0 [] []) = r0 ∧ 0 = r1 ∧ 5 = r2) ∧ ((a = true) → ((p4 < 0) → (GDatum.mk 0 0 [] []) = r0 ∧ 0 = r1 ∧ 5 = r2) ∧ ((¬ p4 < 0) → ((16384 < p4) → (GDatum.mk 0 0 [] []) = r0 ∧ 0 = r1 ∧ 5 = r2) ∧ ((¬ 16384 < p4) → km m p0 p1 p2 p3 p4 0 r0 r1 r2)))) : lF p0 p1 p2 p3 p4 r0 r1 r2 := by
 refine ⟨rfl, rfl, ?_⟩
 refine aj 102 [] Tryz.func22 rfl rfl rfl (ax rfl) fun K hK => ?_
 refine gR 15 rfl <| gV 25 (.int .i64 (p3.length : Int)) rfl (aL (GDatum.vlen _)) rfl <| gLB 24 rfl (GDatum.vlen _) fun hl33 => ?_
 obtain ⟨a, hs34, h⟩ := h
 refine gC0 hs34 (by kernel_rfl) rfl rfl .rfl rfl <| gR 2 rfl <| gB 28 rfl rfl rfl ?_ ?_ <;> intro hd
 refine gT 27 rfl hd rfl ?_
 replace hd := (cb hd)
 replace h := h.1 hd
 refine gR 20 rfl ?_
 obtain ⟨rfl, rfl, rfl⟩ := h
 exact go_sub (F' := (mkF 102 0 [(10, .ptr 0 0), (11, .int .i64 0), (12, .int .i64 5)])) (H' := ⟨1, [(0, .var 24 [.int .i64 ((GDatum.mk 0 0 [] []).Kind), .int .i64 ((GDatum.mk 0 0 [] []).N), .str ((GDatum.mk 0 0 [] []).S), .row 4 (GDatum.vs ((GDatum.mk 0 0 [] []).L))])]⟩) [0] [] rfl hK pq3 ⟨⟨_, rfl, rfl, (.cons .rfl (.cons .rfl (.cons .rfl (.cons (.nil 4) .nil))))⟩, trivial⟩ rfl <| go_end ab (rs := [.cell 10 24, .tmp 11, .tmp 12]) rfl rfl rfl
 refine gF 27 rfl hd rfl ?_
 replace hd := (cc hd)
 replace h := h.2 hd
 refine gR 4 rfl <| gB 32 rfl rfl rfl ?_ ?_ <;> intro hd
 refine gT 31 rfl hd rfl ?_
 replace hd := (of_decide_eq_true hd)
 replace h := h.1 hd
 refine gR 16 rfl ?_
 obtain ⟨rfl, rfl, rfl⟩ := h
 exact go_sub (F' := (mkF 102 0 [(10, .ptr 0 0), (11, .int .i64 0), (12, .int .i64 5)])) (H' := ⟨1, [(0, .var 24 [.int .i64 ((GDatum.mk 0 0 [] []).Kind), .int .i64 ((GDatum.mk 0 0 [] []).N), .str ((GDatum.mk 0 0 [] []).S), .row 4 (GDatum.vs ((GDatum.mk 0 0 [] []).L))])]⟩) [0] [] rfl hK pq3 ⟨⟨_, rfl, rfl, (.cons .rfl (.cons .rfl (.cons .rfl (.cons (.nil 4) .nil))))⟩, trivial⟩ rfl <| go_end ab (rs := [.cell 10 24, .tmp 11, .tmp 12]) rfl rfl rfl
 refine gF 31 rfl hd rfl ?_
 replace hd := (of_decide_eq_false hd)
 replace h := h.2 hd
 refine gR 5 rfl <| gB 35 rfl rfl rfl ?_ ?_ <;> intro hd
 replace hd := (of_decide_eq_true hd)
 replace h := h.1 hd
 refine gR 11 rfl ?_
 obtain ⟨rfl, rfl, rfl⟩ := h
 exact go_sub (F' := (mkF 102 0 [(10, .ptr 0 0), (11, .int .i64 0), (12, .int .i64 5)])) (H' := ⟨1, [(0, .var 24 [.int .i64 ((GDatum.mk 0 0 [] []).Kind), .int .i64 ((GDatum.mk 0 0 [] []).N), .str ((GDatum.mk 0 0 [] []).S), .row 4 (GDatum.vs ((GDatum.mk 0 0 [] []).L))])]⟩) [0] [] rfl hK pq3 ⟨⟨_, rfl, rfl, (.cons .rfl (.cons .rfl (.cons .rfl (.cons (.nil 4) .nil))))⟩, trivial⟩ rfl <| go_end ab (rs := [.cell 10 24, .tmp 11, .tmp 12]) rfl rfl rfl
 replace hd := (of_decide_eq_false hd)
 replace h := h.2 hd
 exact gR 8 rfl <| gV 38 (.int .i64 (p3.length : Int)) rfl (aL (GDatum.vlen _)) rfl <| gR 4 rfl <| go_loop m <| gJ (h K _ hK (by omega)) [0] [] rfl hK pq9 (pqo1 rfl rfl) rfl
theorem sf (m : Nat) (p0 : List Tree) (p1 p2 : Int) (p3 : List GDatum) (p4 : Int) (a : Nat) (r0 : GDatum) (r1 r2 : Int) (h : ((a < p3.length) → ∃ c, p3[a]? = some c ∧ ∃ b, mw c b ∧ ((b = false) → (GDatum.mk 0 0 [] []) = r0 ∧ 0 = r1 ∧ 5 = r2) ∧ ((b = true) → a + 1 ≤ 9223372036854775807 ∧ km m p0 p1 p2 p3 p4 (a + 1) r0 r1 r2)) ∧ ((¬ a < p3.length) → ∃ d, nB p0 d ∧ kA m p0 p1 p2 p3 p4 d ([] : List ac) 0 r0 r1 r2)) : km (m + 1) p0 p1 p2 p3 p4 a r0 r1 r2 := by
 intro K j1 hK hj1
 obtain ⟨j1, rfl⟩ : ∃ j, j1 = j + 1 := ⟨j1 - 1, by omega⟩
 refine gR 6 rfl <| gB 40 rfl rfl rfl ?_ ?_ <;> intro hd
 replace hd := (bZ hd)
 replace h := h.1 hd
 refine gR 7 rfl ?_
 obtain ⟨c, hxx1_1, h⟩ := h
 refine gY (ay (GDatum.vget hxx1_1) ab rfl rfl rfl rfl) rfl rfl <| gR 8 rfl ?_
 obtain ⟨b, hs35, h⟩ := h
 refine gC0 hs35 (by kernel_rfl) rfl rfl .rfl rfl <| gR 3 rfl <| gB 45 rfl rfl rfl ?_ ?_ <;> intro hd
 replace hd := (cb hd)
 replace h := h.1 hd
 refine gR 12 rfl <| go_xloopR <| gR 2 rfl ?_
 obtain ⟨rfl, rfl, rfl⟩ := h
 exact go_sub (F' := (mkF 102 0 [(10, .ptr 0 0), (11, .int .i64 0), (12, .int .i64 5)])) (H' := ⟨1, [(0, .var 24 [.int .i64 ((GDatum.mk 0 0 [] []).Kind), .int .i64 ((GDatum.mk 0 0 [] []).N), .str ((GDatum.mk 0 0 [] []).S), .row 4 (GDatum.vs ((GDatum.mk 0 0 [] []).L))])]⟩) [0] [] rfl hK pq3 ⟨⟨_, rfl, rfl, (.cons .rfl (.cons .rfl (.cons .rfl (.cons (.nil 4) .nil))))⟩, trivial⟩ rfl <| go_end ab (rs := [.cell 10 24, .tmp 11, .tmp 12]) rfl rfl rfl
 replace hd := (cc hd)
 replace h := h.2 hd
 refine gR 5 rfl ?_
 obtain ⟨hb, h⟩ := h
 exact gR 1 rfl <| gV 47 (.int .i64 ((a + 1 : Nat) : Int)) rfl (au (by omega) (by omega)) rfl <| gR 2 rfl <| go_xloop <| gJ (h K _ hK (by omega)) [0] [] rfl hK pq9 (pqo1 rfl rfl) rfl
 replace hd := (bV hd)
 replace h := h.2 hd
 refine gR 3 rfl <| go_xloopE <| gR 5 rfl ?_
 obtain ⟨d, hs36, h⟩ := h
 exact gC0 hs36 (by kernel_rfl) rfl rfl .rfl rfl <| gR 17 rfl <| gV 54 (.int .i64 (p0.length : Int)) rfl (aL (aG _)) rfl <| gLB 53 rfl (aG _) fun hl37 => gR 4 rfl <| go_loop m <| gNC 2 0 71 6 rfl rfl rfl rfl <| gJ (h K _ hK (by omega)) [0, 1, 2, 3] [] rfl hK pq9 ⟨⟨_, rfl, rfl, rfl, rfl⟩, (pqo3 rfl rfl rfl rfl rfl rfl)⟩ rfl
theorem sm (m : Nat) (p0 : List Tree) (p1 p2 : Int) (p3 : List GDatum) (p4 : Int) (n : List GTarget) (a : List ac) (f : Nat) (r0 : GDatum) (r1 r2 : Int) (h : ((f < p0.length) → ∃ g, p0[f]? = some g ∧ ∃ b o, jc g n b o ∧ (a ++ [(ac.mk 0 0 0 false [] [])]).length ≤ 1000000000 ∧ ∃ p, (a ++ [(ac.mk 0 0 0 false [] [])])[a.length]? = some p ∧ ti m p0 p1 p2 p3 p4 o ((a ++ [(ac.mk 0 0 0 false [] [])]).set a.length b) f r0 r1 r2) ∧ ((¬ f < p0.length) → ∃ k, p1 = ((k : Nat) : Int) ∧ ∃ q, a[k]? = some q ∧ ∃ l, p2 = ((l : Nat) : Int) ∧ ∃ r, q.kids[l]? = some r ∧ ∃ s d t v e, S_eval_runner_enter a p4 0 r p3 s d t v e ∧ ((d ≠ 0) → (GDatum.mk 0 0 [] []) = r0 ∧ e = r1 ∧ d = r2) ∧ ((d = 0) → ∃ c, kQ s c ∧ c = r0 ∧ e = r1 ∧ 0 = r2))) : kA (m + 1) p0 p1 p2 p3 p4 n a f r0 r1 r2 := by
 intro K j1 hK hj1
 obtain ⟨j1, rfl⟩ : ∃ j, j1 = j + 1 := ⟨j1 - 1, by omega⟩
 refine gR 6 rfl <| gB 56 rfl rfl rfl ?_ ?_ <;> intro hd
 replace hd := (bZ hd)
 replace h := h.1 hd
 refine gR 7 rfl ?_
 obtain ⟨g, hxt2_1, h⟩ := h
 refine gY (ay (aq hxt2_1) ab rfl rfl rfl rfl) rfl rfl <| gR 5 rfl <| gDs [2, 4] 8 14 rfl (by kernel_rfl) (by kernel_rfl) <| gDr [(0, 2), (1, 2), (2, 2), (3, 3), (4, 3), (6, 2)] (by kernel_rfl) rfl rfl <| gV 65 (.int .i64 (a.length : Int)) rfl (aL (ac.vlen _)) rfl <| gLO 3 rfl (ac.vlen _) fun hl41 => ?_
 obtain ⟨b, o, hs42, h⟩ := h
 apply bf (i := 5) (j := 7) (by kernel_rfl) rfl rfl rfl rfl
 exact (bO (L' := [2, 4]) (by kernel_rfl) rfl rfl (sp (H := ⟨5, [(4, .var 35 (an g)), (3, .row 71 6 (ac.vs a)), (2, .var 69 [.sl 3, .int .i64 p4, .int .i64 0]), (1, .var 64 [.row 5 (List.map GTarget.w n)]), (0, .var 24 [.int .i64 0, .int .i64 0, .str [], .nils])]⟩) hs42 [1] .rfl ⟨⟨_, rfl, ⟨rfl, av.rfl⟩⟩, trivial⟩ rfl [2, 4] rfl) (.inl rfl))
 exact (aC ab rfl rfl)
 refine gDr [(7, 0)] (by kernel_rfl) rfl rfl <| gHX 7 [.agg [.int .i64 0, .int .i64 0, .int .i64 0, .bool false, .str [], .row 6 (ac.vs [])]] rfl (.cons (.agg (.cons .rfl (.cons .rfl (.cons .rfl (.cons .rfl (.cons .rfl (.cons (.nil 6) .nil))))))) .nil) rfl <| gHR 7 (ac.vs [(ac.mk 0 0 0 false [] [])]) rfl (ac.vone (ac.mk 0 0 0 false [] [])) rfl ?_
 obtain ⟨hb, h⟩ := h
 refine cf 8 (.repl 3 (.row 71 6 (ac.vs (a ++ [(ac.mk 0 0 0 false [] [])])))) rfl (by kernel_rfl) (bw ab rfl rfl rfl rfl rfl (ac.vapp a [(ac.mk 0 0 0 false [] [])]).symm (by rw [ac.vlen]; exact hb)) (okR rfl) rfl (by kernel_rfl) rfl rfl ?_
 obtain ⟨p, hxx2_4, h⟩ := h
 refine gYd 9 rfl (by kernel_rfl) (yIO ab rfl rfl rfl rfl (by have := (ac.vget hxx2_4); exact (List.getElem?_eq_some_iff.1 this).1)) rfl rfl ?_
 refine gDr [(11, 2), (12, 2)] (by kernel_rfl) rfl rfl ?_
 apply bf (i := 10) (j := 13) (by kernel_rfl) rfl rfl rfl rfl
 exact (vK (.set 8 (.row 71 6 (ac.vs ((a ++ [(ac.mk 0 0 0 false [] [])]).set a.length b)))) (dSe ab rfl rfl rfl rfl (ac.vget hxx2_4) rfl (ac.vset (a ++ [(ac.mk 0 0 0 false [] [])]) a.length b)) (okS rfl) (by kernel_rfl))
 exact (aC ab rfl rfl)
 exact gDr [(13, 1)] (by kernel_rfl) rfl rfl <| gDe (by kernel_rfl) <| gJ (h K _ hK (by omega)) [0, 1, 2, 8] [] rfl hK pq9 ⟨⟨_, rfl, rfl, rfl, (ac.vren _ ((a ++ [(ac.mk 0 0 0 false [] [])]).set a.length b)).symm⟩, (pqo3 rfl rfl rfl rfl rfl rfl)⟩ rfl
 refine cf 10 (.set 8 (.row 71 6 (ac.vs ((a ++ [(ac.mk 0 0 0 false [] [])]).set a.length b)))) rfl (by kernel_rfl) (dSe ab rfl rfl rfl rfl (ac.vget hxx2_4) rfl (ac.vset (a ++ [(ac.mk 0 0 0 false [] [])]) a.length b)) (okS rfl) rfl (by kernel_rfl) rfl rfl ?_
 exact gDe (by kernel_rfl) <| gJ (h K _ hK (by omega)) [0, 1, 2, 8] [] rfl hK pq9 ⟨⟨_, rfl, rfl, rfl, (ac.vren _ ((a ++ [(ac.mk 0 0 0 false [] [])]).set a.length b)).symm⟩, (pqo3 rfl rfl rfl rfl rfl rfl)⟩ rfl
 refine gHX 5 [.agg [.int .i64 0, .int .i64 0, .int .i64 0, .bool false, .str [], .row 6 (ac.vs [])]] rfl (.cons (.agg (.cons .rfl (.cons .rfl (.cons .rfl (.cons .rfl (.cons .rfl (.cons (.nil 6) .nil))))))) .nil) rfl ?_
 refine gHR 5 (ac.vs [(ac.mk 0 0 0 false [] [])]) rfl (ac.vone (ac.mk 0 0 0 false [] [])) rfl <| gDC 5 hs42 [1] (by kernel_rfl) rfl (by kernel_rfl) rfl rfl .rfl ⟨⟨_, rfl, ⟨rfl, av.rfl⟩⟩, trivial⟩ (by kernel_rfl) rfl ?_
 rintro _ _ ⟨rfl, rfl⟩
 obtain ⟨hb, h⟩ := h
 refine cf 8 (.repl 3 (.row 71 6 (ac.vs (a ++ [(ac.mk 0 0 0 false [] [])])))) rfl (by kernel_rfl) (bw ab rfl rfl rfl rfl rfl (ac.vapp a [(ac.mk 0 0 0 false [] [])]).symm (by rw [ac.vlen]; exact hb)) (okR rfl) rfl (by kernel_rfl) rfl rfl ?_
 obtain ⟨p, hxx2_4, h⟩ := h
 refine gYd 9 rfl (by kernel_rfl) (yIO ab rfl rfl rfl rfl (by have := (ac.vget hxx2_4); exact (List.getElem?_eq_some_iff.1 this).1)) rfl rfl ?_
 refine gDr [(11, 2), (12, 2)] (by kernel_rfl) rfl rfl ?_
 apply bf (i := 10) (j := 13) (by kernel_rfl) rfl rfl rfl rfl
 exact (vK (.set 8 (.row 71 6 (ac.vs ((a ++ [(ac.mk 0 0 0 false [] [])]).set a.length b)))) (dSe ab rfl rfl rfl rfl (ac.vget hxx2_4) rfl (ac.vset (a ++ [(ac.mk 0 0 0 false [] [])]) a.length b)) (okS rfl) (by kernel_rfl))
 exact (aC ab rfl rfl)
 exact gDr [(13, 1)] (by kernel_rfl) rfl rfl <| gDe (by kernel_rfl) <| gJ (h K _ hK (by omega)) [0, 1, 2, 8] [] rfl hK pq9 ⟨⟨_, rfl, rfl, rfl, (ac.vren _ ((a ++ [(ac.mk 0 0 0 false [] [])]).set a.length b)).symm⟩, (pqo3 rfl rfl rfl rfl rfl rfl)⟩ rfl
 refine cf 10 (.set 8 (.row 71 6 (ac.vs ((a ++ [(ac.mk 0 0 0 false [] [])]).set a.length b)))) rfl (by kernel_rfl) (dSe ab rfl rfl rfl rfl (ac.vget hxx2_4) rfl (ac.vset (a ++ [(ac.mk 0 0 0 false [] [])]) a.length b)) (okS rfl) rfl (by kernel_rfl) rfl rfl ?_
 exact gDe (by kernel_rfl) <| gJ (h K _ hK (by omega)) [0, 1, 2, 8] [] rfl hK pq9 ⟨⟨_, rfl, rfl, rfl, (ac.vren _ ((a ++ [(ac.mk 0 0 0 false [] [])]).set a.length b)).symm⟩, (pqo3 rfl rfl rfl rfl rfl rfl)⟩ rfl
 replace hd := (bV hd)
 replace h := h.2 hd
 refine gR 3 rfl <| go_xloopE <| gR 10 rfl ?_
 obtain ⟨k, x, h⟩ := h
 refine gV 78 (.int .i64 ((k : Nat) : Int)) rfl (bo x) rfl ?_
 obtain ⟨q, hxx2_6, h⟩ := h
 refine gY (yIO ab rfl rfl rfl rfl (by have := (ac.vget hxx2_6); exact (List.getElem?_eq_some_iff.1 this).1)) rfl rfl ?_
 refine gR 1 rfl <| gDo (.nop) (dLe ab rfl rfl rfl (ac.vget hxx2_6) rfl) trivial rfl rfl rfl <| gR 1 rfl ?_
 obtain ⟨l, y, h⟩ := h
 refine gV 82 (.int .i64 ((l : Nat) : Int)) rfl (bo y) rfl ?_
 obtain ⟨r, hxx2_8, h⟩ := h
 refine gY (ay (ac.vget hxx2_8) ab rfl rfl rfl rfl) rfl rfl <| gR 1 rfl <| gFR 3 rfl (ac.vpure _) rfl rfl ?_
 obtain ⟨s, d, t, v, e, hs43, h⟩ := h
 refine gC hs43 [2] (by kernel_rfl) rfl rfl .rfl ⟨⟨_, rfl, ⟨rfl, av.rfl⟩⟩, trivial⟩ rfl ?_
 rintro _ _ ⟨rfl, rfl⟩
 refine gR 15 rfl <| gB 89 rfl rfl rfl ?_ ?_ <;> intro hd
 replace hd := (bN hd)
 replace h := h.1 hd
 refine gR 2 rfl <| gDs [2] 7 9 rfl (by kernel_rfl) (by kernel_rfl) <| gDr [(0, 2), (1, 2), (2, 2), (3, 2), (4, 3), (5, 2), (6, 0), (7, 1), (8, 1)] (by kernel_rfl) rfl rfl <| gDe (by kernel_rfl) <| gR 3 rfl ?_
 obtain ⟨rfl, rfl, rfl⟩ := h
 exact go_sub (F' := (mkF 102 0 [(10, .ptr 0 0), (11, .int .i64 e), (12, .int .i64 d)])) (H' := ⟨1, [(0, .var 24 [.int .i64 ((GDatum.mk 0 0 [] []).Kind), .int .i64 ((GDatum.mk 0 0 [] []).N), .str ((GDatum.mk 0 0 [] []).S), .row 4 (GDatum.vs ((GDatum.mk 0 0 [] []).L))])]⟩) [0] [] rfl hK pq3 ⟨⟨_, rfl, rfl, (.cons .rfl (.cons .rfl (.cons .rfl (.cons (.nil 4) .nil))))⟩, trivial⟩ rfl <| go_end ab (rs := [.cell 10 24, .tmp 11, .tmp 12]) rfl rfl rfl
 replace hd := (bn hd)
 replace h := h.2 hd
 refine gR 4 rfl <| gDs [6, 2] 7 9 rfl (by kernel_rfl) (by kernel_rfl) <| gDr [(0, 3), (2, 2), (3, 2), (4, 2), (5, 3)] (by kernel_rfl) rfl rfl ?_
 obtain ⟨c, hs44, h⟩ := h
 refine aO 1 hs44 (by kernel_rfl) rfl (by kernel_rfl) rfl rfl .rfl rfl rfl ?_
 refine gDr [(6, 0), (7, 1), (8, 1)] (by kernel_rfl) rfl rfl <| gDe (by kernel_rfl) <| gR 2 rfl ?_
 obtain ⟨rfl, rfl, rfl⟩ := h
 exact go_sub (F' := (mkF 102 0 [(10, .ptr 0 0), (11, .int .i64 e), (12, .int .i64 0)])) (H' := ⟨1, [(0, .var 24 (GDatum.c c))]⟩) [0] [] rfl hK pq3 (pqo1 rfl rfl) rfl <| go_end ab (rs := [.cell 10 24, .tmp 11, .tmp 12]) rfl rfl rfl
theorem yt (m : Nat) (p0 : List Tree) (p1 p2 : Int) (p3 : List GDatum) (p4 : Int) (c : List GTarget) (b : List ac) (a : Nat) (r0 : GDatum) (r1 r2 : Int) (h : a + 1 ≤ 9223372036854775807 ∧ kA m p0 p1 p2 p3 p4 c b (a + 1) r0 r1 r2) : ti (m + 1) p0 p1 p2 p3 p4 c b a r0 r1 r2 := by
 intro K j1 hK hj1
 obtain ⟨j1, rfl⟩ : ∃ j, j1 = j + 1 := ⟨j1 - 1, by omega⟩
 refine gR 3 rfl ?_
 obtain ⟨hb, h⟩ := h
 exact gR 1 rfl <| gV 71 (.int .i64 ((a + 1 : Nat) : Int)) rfl (au (by omega) (by omega)) rfl <| gR 2 rfl <| go_xloop <| gJ (h K _ hK (by omega)) [0, 1, 2, 3] [] rfl hK pq9 ⟨⟨_, rfl, rfl, rfl, (ac.vren _ b).symm⟩, (pqo3 rfl rfl rfl rfl rfl rfl)⟩ rfl
end Go.Proofs.YthnohcipianijaaGreatDoor
