/- Contracts of the functions that the law reaches, part 7. -/
import Derived.Test.YtaoiaeohojfdgaaGreatBb6
set_option linter.unusedVariables false
set_option linter.unusedSimpArgs false
namespace Go.Proofs.YtaoiaeohojfdgaaGreat
open Go.RowKit Lx Sx
set_option maxRecDepth 100000
set_option maxHeartbeats 1000000
theorem BF : ∀ t : Tree, cntK t ≤ 1000000000 → kz t (limK t) := bV fun t ih ht => by
 have hl := sr t.kids
 have hc := mE t
 have kids : ∀ k i, t.kids.length - i ≤ k → cY (k + 1) t i (limKs (t.kids.drop i)) := fun k => by
  have fin : ∀ m i, ¬ i < t.kids.length → cY (m + 1) t i (limKs (t.kids.drop i)) := fun m i hi => ml m _ _ _ ⟨fun h => absurd h hi, fun _ => by rw [List.drop_of_length_le (by omega)]; rfl⟩
  induction k with
  | zero => intro i hi; exact fin 0 i (by omega)
  | succ k ihk =>
   intro i hi
   obtain ⟨u, hu, hul⟩ | h' := aN t.kids i
   ·have := oK hu
    have hb := ih i u hu (by omega)
    rw [cV hu, limKs]
    cases h : limK u with
    | false => rw [h] at hb; exact ml (k + 1) _ _ _ ⟨fun _ => ⟨u, hu, _, hb, fun _ => rfl, fun h => (by cases h)⟩, fun h => absurd hul h⟩
    | true => rw [h] at hb; exact ml (k + 1) _ _ _ ⟨fun _ => ⟨u, hu, _, hb, fun h => (by cases h), fun _ => ⟨by omega, ihk (i + 1) (by omega)⟩⟩, fun h => absurd hul h⟩
   ·exact fin _ i h'
 have hk := kids t.kids.length 0 (by omega)
 rw [List.drop_zero] at hk
 rw [sA]
 by_cases hall : (t.kind = 1 → t.kids.length ≤ 40) ∧ (t.kind = 2 → t.kids.length ≤ 10) ∧ (t.kind = 16 → t.kids.length ≤ 8) ∧ (t.kind = 18 → t.kids.length ≤ 16)
 ·rw [decide_eq_true hall, Bool.true_and]
  refine pA (t.kids.length + 1) _ _ ?_
  repeat' (refine And.intro (fun _ => ?_) (fun _ => ?_))
  all_goals first | exact hk | (exfalso; omega)
 ·rw [decide_eq_false hall, Bool.false_and]
  refine pA (t.kids.length + 1) _ _ ?_
  repeat' (refine And.intro (fun _ => ?_) (fun _ => ?_))
  all_goals first | rfl | (exfalso; omega)
theorem Bt {t : Tree} (ht : tbulk t ≤ 2000000) (v : Vld t) : nF t true := by
 have hc := cnt_bulk t
 have h1 := xV t (by omega)
 have h2 := vZ t (by omega) v.shape
 have h3 := BF t (by omega)
 have h4 := xt t (by omega)
 have hd := v.dep
 have hz := v.size
 rw [v.shape] at h1
 rw [v.lead] at h2
 rw [v.lim] at h3
 exact uC 0 _ _ ⟨_, h1, fun h => (by cases h), fun _ => ⟨_, h2, fun h => (by cases h), fun _ => ⟨_, h3, fun h => (by cases h), fun _ => ⟨_, h4, fun h => (by omega), fun _ => ⟨_, Bl t (by omega) v.shape v.lead, decide_eq_true (by omega)⟩⟩⟩⟩⟩
theorem wX (l : List Int) : jY l (decide (((l.length : Nat) : Int) ≤ 120)) := rK 0 _ _ rfl
theorem Bz (l : List Int) : jk l true := by
 by_cases hl : ((l.length : Nat) : Int) ≤ 120
 rotate_left
 ·exact iD 0 _ _ ⟨_, wX l, fun _ => ⟨_, mf, rfl⟩, fun h => absurd (of_decide_eq_true h) hl⟩
 obtain ⟨p, hp, hb, hm⟩ := zV l (by omega)
 have hpl := rZ p
 have loop : ∀ k i, p.length - i ≤ k → ∃ M, cv M p i true := fun k => by
  have last : ∀ i, ¬ i < p.length → ∃ M, cv M p i true := fun i hi => ⟨1, hV 0 _ _ _ ⟨fun h => absurd h hi, fun _ => ⟨_, mf, rfl⟩⟩⟩
  induction k with
  | zero => intro i hi; exact last i (by omega)
  | succ k ih =>
   intro i hi
   obtain ⟨t, ht, hlt⟩ | hge := aN p i
   ·have htb := ot ht
    obtain ⟨hk, v⟩ := hm t (List.mem_of_getElem? ht)
    obtain ⟨M, hM⟩ := ih (i + 1) (by omega)
    have e1 := tw (t := t) (by omega) v
    have e4 := xQ (spT t []) (by have := DB t v.shape v.lead []; omega)
    rw [xa t v.shape [], v.shape, Bi t v.shape v.lead [], DP hk v.shape] at e4
    exact ⟨M + 1, hV M _ _ _ ⟨fun _ => ⟨t, ht, _, e1, _, _, _, pX hk (by omega) v, t, ht, true, Bt (by omega) v, fun h => (by cases h), fun _ => ⟨fun h => absurd rfl h, fun _ => ⟨t, ht, _, wI hk (by omega) v.shape v.lead, _, yX _, fun h => (by cases h), fun _ => ⟨t, ht, _, e4, _, e1, fun h => absurd rfl h, fun _ => hM⟩⟩⟩⟩, fun h => absurd hlt h⟩⟩
   ·exact last i hge
 obtain ⟨M, hM⟩ := loop p.length 0 (by omega)
 exact iD M _ _ ⟨_, wX l, fun _ => ⟨_, mf, rfl⟩, fun _ => ⟨p, hp, hM⟩⟩
end Go.Proofs.YtaoiaeohojfdgaaGreat
