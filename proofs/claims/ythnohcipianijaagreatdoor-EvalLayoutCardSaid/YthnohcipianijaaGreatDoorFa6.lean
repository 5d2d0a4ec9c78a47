/- Contracts of the functions that the law reaches, part 6. -/
import Derived.Test.YthnohcipianijaaGreatDoorFa5
set_option linter.unusedVariables false
set_option linter.unusedSimpArgs false
namespace Go.Proofs.YthnohcipianijaaGreatDoor
open Go.RowKit Lx Sx
section
variable {S : Nat → Prop} {w : World} {ρ : Nat → Option Value}
theorem vT : ∀ ls : List (List UInt8), CRel S w ρ 1 (ls.map .str) (ls.map mA)
 | [] => by simp [CRel]
 | s :: r => by
  simp only [List.map_cons, CRel]
  exact ⟨mA s, r.map mA, by simp [Value.cells, mA], ⟨rfl, rfl⟩, by unfold VRel; rfl, vT r⟩
theorem vu : ∀ ls : List Int, CRel S w ρ 1 (ls.map (V.int .i64)) (ls.map fun z => .int .i64 z)
 | [] => by simp [CRel]
 | s :: r => by
  simp only [List.map_cons, CRel]
  exact ⟨.int .i64 s, _, by simp [Value.cells], ⟨rfl, rfl⟩, by unfold VRel; rfl, vu r⟩
mutual
theorem TreeIs.vrel : ∀ {ρ : Nat → Option Value} {t : Tree} {c : List Value}, TreeIs S w t c → LRel S w ρ (an t) c
 | ρ, .node k s ls ks, c, h => by
  simp only [TreeIs] at h
  obtain ⟨A, m, B, n, rfl, h1, h2, h3, h4, h5, cs, h6, h7⟩ := h
  simp only [an, Tree.kind, Tree.text, Tree.leads, Tree.kids, LRel, VRel]
  exact ⟨_, _, rfl, rfl, _, _, rfl, rfl, _, _, rfl, ⟨A, m, _, by simp, by simpa using h1, h2, vT ls, by simpa using h5⟩, _, _, rfl, ⟨B, n, cs, by simp [mw], by simpa [mw] using h3, h4, KidsAre.crel h6, by simpa [mw] using h7⟩, rfl⟩
theorem KidsAre.crel : ∀ {ρ : Nat → Option Value} {ts : List Tree} {cs : List Value}, KidsAre S w ts cs → CRel S w ρ 4 (kidsV ts) cs
 | ρ, [], cs, h => by simp only [KidsAre] at h; simp only [kidsV, CRel]; exact h
 | ρ, t :: r, cs, h => by
  simp only [KidsAre] at h
  obtain ⟨c, d, rfl, h1, h2⟩ := h
  simp only [kidsV, CRel, iy]
  exact ⟨.agg c.toArray, d, by simp [Value.cells], ⟨by simp [Value.cells, h1.four], by simpa [Value.cells] using h1.one⟩, by simp only [VRel]; exact ⟨c, rfl, h1.vrel⟩, KidsAre.crel h2⟩
end
end
theorem Dk {k : Nat} {l : List UInt8} {t : Tree} (h : rr t (vS yn k 27 [.str l]) = true) : om Tryz.prog 27 [.str l] (.tup [.agg (an t), .int .i64 0, .int .i64 0]) := by
 refine ⟨rfl, rfl, fun S w ρ xs hr hx => ?_⟩
 simp only [LRel, VRel] at hx
 obtain ⟨x, ys, rfl, rfl, rfl⟩ := hx
 refine (Bb h (w := w)).mono ?_
 rintro e w' ⟨c0, c1, c2, c3, rfl, hT, hc⟩
 have hT' := hT.bound
 have g := hr.chg0 hc
 refine ⟨_, fun b => S b ∨ (w.heap.size ≤ b ∧ b < w'.heap.size), ρ, _, ⟨0, []⟩, rfl, rfl, ⟨fun i => ?_, fun i b hb => ?_, fun i j b hb _ => ?_, fun b hb => hb.elim (g.slt b) (·.2)⟩, ⟨ChgP.of0 hc, fun _ h => .inl h, fun b hb => hb.elim .inl fun h => .inr (.inr h.1), fun id b hb => .inl ⟨id, hb⟩, fun id x h => ?_⟩, ?_⟩
 ·have := g.ob i; rw [oq] at this ⊢; exact this
 ·rw [oq] at hb; exact hb.elim
 ·rw [oq] at hb; exact hb.elim
 ·simp only [sr] at h
  split at h
  ·exact h
  ·cases h
 ·have hk := TreeIs.vrel (ρ := ρ) (TreeIs.keep (S' := fun b => S b ∨ (w.heap.size ≤ b ∧ b < w'.heap.size)) (fun b hb => .inr hb) (fun _ _ _ => rfl) hT')
  simp only [VRel]
  exact ⟨[.agg #[c0, c1, c2, c3], .int .i64 0, .int .i64 0], rfl, .agg #[c0, c1, c2, c3], _, rfl, by simp only [VRel]; exact ⟨_, rfl, hk⟩, _, _, rfl, by simp only [VRel], _, _, rfl, by simp only [VRel], rfl⟩
end Go.Proofs.YthnohcipianijaaGreatDoor
namespace Go.Proofs.YthnohcipianijaaGreatDoor
open Go.RowKit Lx Sx
set_option maxRecDepth 100000
set_option maxHeartbeats 1100000
def CE : List UInt8 := [109, 111, 100, 117, 108, 101, 32, 77, 32, 100, 101, 102, 32, 102, 40, 110, 58, 32, 73, 110, 116, 41, 58, 32, 73, 110, 116, 32, 61, 32, 105, 102, 32, 110, 32, 60, 32, 49, 32, 116, 104, 101, 110, 32, 48, 32, 101, 108, 115, 101, 32, 110, 32, 43, 32, 102, 40, 110, 32, 45, 32, 49, 41]
def mc : Tree := (FG CE).1
end Go.Proofs.YthnohcipianijaaGreatDoor
