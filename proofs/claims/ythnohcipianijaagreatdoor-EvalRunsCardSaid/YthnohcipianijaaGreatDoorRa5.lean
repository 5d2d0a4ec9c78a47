/- Contracts of the functions that the law reaches, part 5. -/
import Derived.Test.YthnohcipianijaaGreatDoorRa4
set_option linter.unusedVariables false
set_option linter.unusedSimpArgs false
namespace Go.Proofs.YthnohcipianijaaGreatDoor
open Go.RowKit Lx Sx
set_option maxRecDepth 100000
mutual
def nD : GDatum → Nat
 | .mk _ _ _ l => 1 + nDs l
def nDs : List GDatum → Nat
 | [] => 0
 | d :: r => nD d + nDs r
end
theorem uJ (d : GDatum) : nD d = 1 + nDs d.L := by cases d; simp [nD]
theorem Gg (d : GDatum) : 1 ≤ nD d := by rw [uJ]; omega
theorem BX : ∀ {l : List GDatum} {x : GDatum}, x ∈ l → nD x ≤ nDs l
 | a :: r, x, h => by
  simp only [nDs]
  rcases List.mem_cons.1 h with rfl | h
  ·omega
  ·have := BX h; omega
theorem zh : ∀ l : List GDatum, l.length ≤ nDs l
 | [] => Nat.le_refl _
 | a :: r => by have := zh r; have := Gg a; simp only [nDs, List.length_cons]; omega
theorem CI : ∀ l : List GDatum, (∀ x ∈ l, nD x ≤ wD x) → nDs l ≤ wDs l
 | [], _ => by simp [nDs, wDs]
 | a :: r, h => by
  have h1 := h a (by simp)
  have h2 := CI r fun x hx => h x (by simp [hx])
  simp only [nDs, wDs]; omega
theorem uo : ∀ d, nD d ≤ wD d := mt fun d ih => by
 rw [uJ, py]
 have := CI d.L ih
 omega
theorem xw (d : GDatum) : d.L.length < nD d := by have := zh d.L; rw [uJ]; omega
theorem xn {d x : GDatum} {i : Nat} (h : d.L[i]? = some x) : nD x < nD d := by have := BX (List.mem_of_getElem? h); rw [uJ d]; omega
theorem EM : ∀ (d : GDatum) (lim : Nat), 1 ≤ lim → lim ≤ 1000000 → lY d lim (min lim (wD d) : Nat) := mt fun d ih lim h1 h2 => by
 have loop : ∀ m i (z : Nat), d.L.length - i ≤ m → i < z → z ≤ lim → kS (m + 1) d lim z i (min lim (z + wDs (d.L.drop i)) : Nat) := fun m => by
  induction m with
  | zero =>
   intro i z hi hiz hz
   refine qH 0 _ _ _ _ _ ⟨fun h => by omega, fun h => ?_⟩
   rw [List.drop_of_length_le (by omega), wDs]; omega
  | succ m ihm =>
   intro i z hi hiz hz
   refine qH (m + 1) _ _ _ _ _ ⟨fun h => ?_, fun h => ?_⟩
   ·obtain ⟨u, hu, hl⟩ | h' := az d.L i
    ·rw [aQ hu, wDs]
     refine ⟨u, hu, fun hle => by omega, fun hlt => ⟨by constructor <;> omega, ((min (lim - z) (wD u) : Nat) : Int), ?_, ?_, by omega, ?_⟩⟩
     ·rw [show ((lim : Int) - (z : Int)) = ((lim - z : Nat) : Int) by omega]
      exact ih u (List.mem_of_getElem? hu) (lim - z) (by omega) (by omega)
     ·constructor <;> omega
     ·have hwu := CD u
      have := ihm (i + 1) (z + min (lim - z) (wD u)) (by omega) (by omega) (by omega)
      rw [show ((z : Int) + ((min (lim - z) (wD u) : Nat) : Int)) = ((z + min (lim - z) (wD u) : Nat) : Int) by omega, show min lim (z + (wD u + wDs (d.L.drop (i + 1)))) = min lim (z + min (lim - z) (wD u) + wDs (d.L.drop (i + 1))) by omega]
      exact this
    ·exact absurd h h'
   ·rw [List.drop_of_length_le (by omega), wDs]; omega
 refine wi (d.L.length + 1) _ _ _ ⟨by constructor <;> omega, fun h => ?_, fun h => ⟨by omega, ?_⟩⟩
 ·rw [py]; omega
 ·have := loop d.L.length 0 (1 + d.S.length) (by omega) (by omega) (by omega)
  rw [List.drop_zero, ← py] at this
  exact this
theorem wP (d : GDatum) : kU d (min 4097 (wD d) : Nat) := uW 0 _ _ ⟨_, EM d 4097 (by omega) (by omega), rfl⟩
theorem Cv {B : Nat} (hB : B ≤ 1000000000000000) : ∀ (d : GDatum) (most : Nat), mD d ≤ B → 1 ≤ most → most ≤ 1000000 → eN d most (min most (wD d) : Nat) := mt fun d ih most hd h1 h2 => by
 rw [AN] at hd
 have loop : ∀ m i (z : Nat), d.L.length - i ≤ m → z ≤ B + 1 + 1000000 → eu (m + 1) d most z i (min most (z + wDs (d.L.drop i)) : Nat) := fun m => by
  induction m with
  | zero =>
   intro i z hi hz
   refine kE 0 _ _ _ _ _ ⟨fun h => by omega, fun h => ?_⟩
   rw [List.drop_of_length_le (by omega), wDs]; omega
  | succ m ihm =>
   intro i z hi hz
   refine kE (m + 1) _ _ _ _ _ ⟨fun h => ⟨fun hlt => ?_, fun hge => by omega⟩, fun h => ?_⟩
   ·obtain ⟨u, hu, hl⟩ | h' := az d.L i
    ·rw [aQ hu, wDs]
     have hm := xZ (List.mem_of_getElem? hu)
     refine ⟨u, hu, by constructor <;> omega, ((min (most - z) (wD u) : Nat) : Int), ?_, ?_, ?_⟩
     ·rw [show ((most : Int) - (z : Int)) = ((most - z : Nat) : Int) by omega]
      exact ih u (List.mem_of_getElem? hu) (most - z) (by omega) (by omega) (by omega)
     ·constructor <;> omega
     ·have := ihm (i + 1) (z + min (most - z) (wD u)) (by omega) (by omega)
      rw [show ((z : Int) + ((min (most - z) (wD u) : Nat) : Int)) = ((z + min (most - z) (wD u) : Nat) : Int) by omega, show min most (z + (wD u + wDs (d.L.drop (i + 1)))) = min most (z + min (most - z) (wD u) + wDs (d.L.drop (i + 1))) by omega]
      exact this
    ·exact absurd h h'
   ·rw [List.drop_of_length_le (by omega), wDs]; omega
 refine qA (d.L.length + 1) _ _ _ ⟨by omega, ?_⟩
 have := loop d.L.length 0 (1 + d.S.length) (by omega) (by omega)
 rw [List.drop_zero, ← py] at this
 exact this
theorem sh (d : GDatum) (hd : mD d ≤ 1000000000000000) : dp d (min 4097 (wD d) : Nat) := qG 0 _ _ ⟨_, Cv (Nat.le_refl _) d 4097 hd (by omega) (by omega), rfl⟩
theorem CT : ∀ d : GDatum, nD d ≤ 1000000000 → kR d (formD d) := mt fun d ih hn => by
 have hlen := xw d
 have loop : ∀ m i, d.L.length - i ≤ m → jD (m + 1) d i (formDs (d.L.drop i) && d.S == [] && d.N == 0) := fun m => by
  induction m with
  | zero =>
   intro i hi
   refine pC 0 _ _ _ ⟨fun h => by omega, fun h => ?_⟩
   rw [List.drop_of_length_le (by omega), formDs]
   exact ⟨fun e => by simp [e], fun e => by simp [e]⟩
  | succ m ihm =>
   intro i hi
   refine pC (m + 1) _ _ _ ⟨fun h => ?_, fun h => ?_⟩
   ·obtain ⟨u, hu, hl⟩ | h' := az d.L i
    ·rw [aQ hu, formDs]
     have := xn hu
     refine ⟨u, hu, _, ih u (List.mem_of_getElem? hu) (by omega), fun e => by simp [e], fun e => ⟨by omega, ?_⟩⟩
     rw [e, Bool.true_and]
     exact ihm (i + 1) (by omega)
    ·exact absurd h h'
   ·rw [List.drop_of_length_le (by omega), formDs]
    exact ⟨fun e => by simp [e], fun e => by simp [e]⟩
 refine vt (d.L.length + 1) _ _ ⟨fun h => ?_, fun h => ⟨fun h2 => ?_, fun h2 => ⟨fun h3 => ?_, fun h3 => ⟨fun h4 => ?_, fun h4 => ?_⟩⟩⟩⟩
 ·rw [gq, if_pos h]; exact ⟨fun e => by simp [e], fun e => by simp [e]⟩
 ·rw [gq, if_neg h, if_pos h2]; exact ⟨fun e => by simp [e], fun e => by simp [e]⟩
 ·rw [gq, if_neg h, if_neg h2, if_pos h3]
  exact ⟨fun e => ⟨fun e1 => ⟨fun e2 => by simp [e, e1, e2], fun e2 => by simp [e, e1, e2]⟩, fun e1 => by simp [e]; exact fun q => absurd (by rw [q]; rfl) e1⟩, fun e => by simp [e]⟩
 ·rw [gq, if_neg h, if_neg h2, if_neg h3, if_pos h4]
  exact loop d.L.length 0 (by omega)
 ·rw [gq, if_neg h, if_neg h2, if_neg h3, if_neg h4]
theorem FB : ∀ d : GDatum, fO d (formD d) := mt fun d ih => by
 have loop : ∀ m i, d.L.length - i ≤ m → fi (m + 1) d i (formDs (d.L.drop i) && d.S == [] && d.N == 0) := fun m => by
  induction m with
  | zero =>
   intro i hi
   refine mj 0 _ _ _ ⟨fun h => by omega, fun h => ?_⟩
   rw [List.drop_of_length_le (by omega), formDs]
   exact ⟨fun e => by simp [e], fun e => by simp [e]⟩
  | succ m ihm =>
   intro i hi
   refine mj (m + 1) _ _ _ ⟨fun h => ?_, fun h => ?_⟩
   ·obtain ⟨u, hu, hl⟩ | h' := az d.L i
    ·rw [aQ hu, formDs]
     refine ⟨u, hu, _, ih u (List.mem_of_getElem? hu), fun e => by simp [e], fun e => ?_⟩
     rw [e, Bool.true_and]
     exact ihm (i + 1) (by omega)
    ·exact absurd h h'
   ·rw [List.drop_of_length_le (by omega), formDs]
    exact ⟨fun e => by simp [e], fun e => by simp [e]⟩
 refine rV (d.L.length + 1) _ _ ⟨fun h => ?_, fun h => ⟨fun h2 => ?_, fun h2 => ⟨fun h3 => ?_, fun h3 => ⟨fun h4 => ?_, fun h4 => ?_⟩⟩⟩⟩
 ·rw [gq, if_pos h]; exact ⟨fun e => by simp [e], fun e => by simp [e]⟩
 ·rw [gq, if_neg h, if_pos h2]; exact ⟨fun e => by simp [e], fun e => by simp [e]⟩
 ·rw [gq, if_neg h, if_neg h2, if_pos h3]
  exact ⟨fun e => ⟨fun e1 => by simp [e, e1], fun e1 => by simp [e1]⟩, fun e => ⟨fun e1 => ⟨fun e2 => by simp [e1, e2], fun e2 => by simp [e2]⟩, fun e1 => by simp [e, e1]⟩⟩
 ·rw [gq, if_neg h, if_neg h2, if_neg h3, if_pos h4]
  exact loop d.L.length 0 (by omega)
 ·rw [gq, if_neg h, if_neg h2, if_neg h3, if_neg h4]
def dL (d : GDatum) : Bool := decide (wD d ≤ 4096) && formD d
theorem zp (d : GDatum) : mw d (dL d) := wj 0 _ _ ⟨_, wP d, fun h => ⟨_, CT d (by have := uo d; omega), by unfold dL; rw [decide_eq_true (by omega), Bool.true_and]⟩, fun h => by unfold dL; rw [decide_eq_false (by omega), Bool.false_and]⟩
theorem Df (d : GDatum) (hd : mD d ≤ 1000000000000000) : iY d (dL d) := rp 0 _ _ ⟨_, sh d hd, fun h => ⟨_, FB d, by unfold dL; rw [decide_eq_true (by omega), Bool.true_and]⟩, fun h => by unfold dL; rw [decide_eq_false (by omega), Bool.false_and]⟩
theorem BI : ∀ a : GDatum, nD a ≤ 1000000000 → ∀ b, kD a b (sameD a b) := mt fun a ih hn b => by
 have hlen := xw a
 rw [tB]
 refine xt (a.L.length + 1) _ _ _ ⟨fun h => by simp [h], fun h => ⟨fun h2 => by simp [h2], fun h2 => ⟨fun h3 => by simp [h3], fun h3 => ⟨fun h4 => by simp [h4], fun h4 => ?_⟩⟩⟩⟩
 rw [show (a.Kind == b.Kind && a.N == b.N && a.S == b.S && a.L.length == b.L.length) = true by simp [h, h2, h3, h4], Bool.true_and]
 have loop : ∀ m i, a.L.length - i ≤ m → ma (m + 1) a b i (sameDs (a.L.drop i) (b.L.drop i)) := fun m => by
  induction m with
  | zero =>
   intro i hi
   refine rJ 0 _ _ _ _ ⟨fun h => by omega, fun h => ?_⟩
   rw [List.drop_of_length_le (by omega), sameDs]
  | succ m ihm =>
   intro i hi
   refine rJ (m + 1) _ _ _ _ ⟨fun h => ?_, fun h => ?_⟩
   ·obtain ⟨u, hu, hl⟩ | h' := az a.L i
    ·obtain ⟨v, hv, _⟩ | h'' := az b.L i
     ·rw [aQ hu, aQ hv, sameDs]
      have := xn hu
      refine ⟨u, hu, v, hv, _, ih u (List.mem_of_getElem? hu) (by omega) v, fun e => by simp [e], fun e => ⟨by omega, ?_⟩⟩
      rw [e, Bool.true_and]
      exact ihm (i + 1) (by omega)
     ·omega
    ·exact absurd h h'
   ·rw [List.drop_of_length_le (by omega), sameDs]
 exact loop a.L.length 0 (by omega)
theorem zj : ∀ a : GDatum, nD a ≤ 1000000000 → ∀ b, eb a b (sameD a b) := mt fun a ih hn b => by
 have hlen := xw a
 rw [tB]
 refine rT (a.L.length + 1) _ _ _ ⟨fun h => by simp [h], fun h => ⟨fun h2 => by simp [h2], fun h2 => ⟨fun h3 => by simp [h3], fun h3 => ⟨fun h4 => by simp [h4], fun h4 => ?_⟩⟩⟩⟩
 rw [show (a.Kind == b.Kind && a.N == b.N && a.S == b.S && a.L.length == b.L.length) = true by simp [h, h2, h3, h4], Bool.true_and]
 have loop : ∀ m i, a.L.length - i ≤ m → fj (m + 1) a b i (sameDs (a.L.drop i) (b.L.drop i)) := fun m => by
  induction m with
  | zero =>
   intro i hi
   refine mb 0 _ _ _ _ ⟨fun h => by omega, fun h => ?_⟩
   rw [List.drop_of_length_le (by omega), sameDs]
  | succ m ihm =>
   intro i hi
   refine mb (m + 1) _ _ _ _ ⟨fun h => ?_, fun h => ?_⟩
   ·obtain ⟨u, hu, hl⟩ | h' := az a.L i
    ·obtain ⟨v, hv, _⟩ | h'' := az b.L i
     ·rw [aQ hu, aQ hv, sameDs]
      have := xn hu
      refine ⟨u, hu, v, hv, _, ih u (List.mem_of_getElem? hu) (by omega) v, fun e => by simp [e], fun e => ?_⟩
      rw [e, Bool.true_and]
      exact ihm (i + 1) (by omega)
     ·omega
    ·exact absurd h h'
   ·rw [List.drop_of_length_le (by omega), sameDs]
 exact loop a.L.length 0 (by omega)
theorem GF (d : GDatum) : GDatum.mk d.Kind d.N d.S d.L = d := by cases d; rfl
theorem DP : ∀ d : GDatum, wD d ≤ 1000000000 → kQ d d := mt fun d ih hd => by
 rw [py] at hd
 have hlen := zM d.L
 have loop : ∀ m i l, d.L.length - i ≤ m → i ≤ d.L.length → l = d.L.take i → jF (m + 1) d l i d := fun m => by
  induction m with
  | zero =>
   intro i l hi hle hl
   refine pu 0 _ _ _ _ ⟨fun h => by omega, fun h => ?_⟩
   rw [hl, List.take_of_length_le (by omega)]; exact GF d
  | succ m ihm =>
   intro i l hi hle hl
   refine pu (m + 1) _ _ _ _ ⟨fun h => ?_, fun h => ?_⟩
   ·obtain ⟨u, hu, hlt⟩ | h' := az d.L i
    ·have := Co (List.mem_of_getElem? hu)
     have hl2 : l ++ [u] = d.L.take (i + 1) := by rw [hl, List.take_add_one, hu]; rfl
     refine ⟨u, hu, u, ih u (List.mem_of_getElem? hu) (by omega), ?_, by omega, ihm (i + 1) _ (by omega) (by omega) hl2⟩
     rw [hl2, List.length_take]; omega
    ·exact absurd h h'
   ·rw [hl, List.take_of_length_le (by omega)]; exact GF d
 exact vj _ _ _ (loop d.L.length 0 [] (by omega) (by omega) (by simp))
theorem Di : ∀ (d : GDatum) (lim : Nat), 1 ≤ lim → lim ≤ 1000000 → fp d lim (min lim (nD d) : Nat) := mt fun d ih lim h1 h2 => by
 have loop : ∀ m i (z : Nat), d.L.length - i ≤ m → 1 ≤ z → z ≤ lim → eO (m + 1) d lim z i (min lim (z + nDs (d.L.drop i)) : Nat) := fun m => by
  induction m with
  | zero =>
   intro i z hi h0 hz
   refine ln 0 _ _ _ _ _ ⟨fun h => by omega, fun h => ?_⟩
   rw [List.drop_of_length_le (by omega), nDs]; omega
  | succ m ihm =>
   intro i z hi h0 hz
   refine ln (m + 1) _ _ _ _ _ ⟨fun h => ⟨fun hlt => ?_, fun hge => by omega⟩, fun h => ?_⟩
   ·obtain ⟨u, hu, hl⟩ | h' := az d.L i
    ·rw [aQ hu, nDs]
     refine ⟨u, hu, by constructor <;> omega, ((min (lim - z) (nD u) : Nat) : Int), ?_, ?_, ?_⟩
     ·rw [show ((lim : Int) - (z : Int)) = ((lim - z : Nat) : Int) by omega]
      exact ih u (List.mem_of_getElem? hu) (lim - z) (by omega) (by omega)
     ·constructor <;> omega
     ·have := ihm (i + 1) (z + min (lim - z) (nD u)) (by omega) (by omega) (by omega)
      rw [show ((z : Int) + ((min (lim - z) (nD u) : Nat) : Int)) = ((z + min (lim - z) (nD u) : Nat) : Int) by omega, show min lim (z + (nD u + nDs (d.L.drop (i + 1)))) = min lim (z + min (lim - z) (nD u) + nDs (d.L.drop (i + 1))) by omega]
      exact this
    ·exact absurd h h'
   ·rw [List.drop_of_length_le (by omega), nDs]; omega
 refine qY (d.L.length + 1) _ _ _ ?_
 have := loop d.L.length 0 1 (by omega) (by omega) (by omega)
 rw [List.drop_zero, ← uJ] at this
 exact this
theorem FC (d : GDatum) : iN d (decide (nD d < 3000)) := rk 0 _ _ ⟨_, Di d 3000 (by omega) (by omega), by
 by_cases h : nD d < 3000
 ·rw [decide_eq_true h, decide_eq_true (by omega)]
 ·rw [decide_eq_false h, decide_eq_false (by omega)]⟩
theorem tN (n : Int) : dq n (dI n) := qK 0 _ _ rfl
end Go.Proofs.YthnohcipianijaaGreatDoor
namespace Go.Proofs.YthnohcipianijaaGreatDoor
open Go.RowKit Lx Sx
set_option maxRecDepth 100000
section
variable {p : List Tree} {g : Nat} {m : Int} {t : Tree} {env : List Bnd} {r : Nat}
theorem An : evG p (g + 1) m t env 0 = (GD0, 21, 0) := by rw [evG]
theorem ws (h : t.kind = 10) : evG p (g + 1) m t env (r + 1) = (dI (oK t.text 0), 0, r) := by simp [evG, h]
theorem wn (h : t.kind = 11) : evG p (g + 1) m t env (r + 1) = (⟨2, 0, (t.text.drop 1).take (t.text.length - 1 - 1), []⟩, 0, r) := by simp [evG, h]
theorem wv (h : t.kind = 13) : evG p (g + 1) m t env (r + 1) = (dB true, 0, r) := by simp [evG, h]
theorem wz (h : t.kind = 14) : evG p (g + 1) m t env (r + 1) = (dB false, 0, r) := by simp [evG, h]
theorem wI (h : t.kind = 22) : evG p (g + 1) m t env (r + 1) = evG p g m (aF t 0) env r := by simp [evG, h]
theorem wm (h : t.kind = 12) : evG p (g + 1) m t env (r + 1) = (match iP env t.text with | some d => (d, 0, r) | none => (GD0, 7, r)) := by simp only [evG, h]; rfl
theorem wq (h : t.kind = 20) : evG p (g + 1) m t env (r + 1) = (match evG p g m (aF t 0) env r with | (d, e, r') => if e = 0 then evG p g m (aF t 1) ((t.text, d) :: env) r' else (GD0, e, r')) := by simp only [evG, h]; rfl
theorem wt (h : t.kind = 19) : evG p (g + 1) m t env (r + 1) = (match evG p g m (aF t 0) env r with | (d, e, r') => if e = 0 then (if d.Kind = 3 then (if d.N = 1 then evG p g m (aF t 1) env r' else evG p g m (aF t 2) env r') else (GD0, 20, r')) else (GD0, e, r')) := by simp only [evG, h]; rfl
theorem wu (h : t.kind = 18) : evG p (g + 1) m t env (r + 1) = (match evL (fun k r => evG p g m k env r) t.kids r with | (l, e, r') => if e = 0 then (if 4096 < 1 + wDs l then (GD0, 3, r') else (⟨4, 0, [], l⟩, 0, r')) else (GD0, e, r')) := by simp only [evG, h]; rfl
theorem wH (h : t.kind = 16) : evG p (g + 1) m t env (r + 1) = (match evL (fun k r => evG p g m k env r) t.kids r with | (l, e, r') => if e = 0 then (if (aP p m t.text).2.2 = true then (if (ew p (aP p m t.text).1 (aP p m t.text).2.1).kids.length = l.length + 2 then evG p g (aP p m t.text).1 (aF (ew p (aP p m t.text).1 (aP p m t.text).2.1) (l.length + 1)) (cn (ew p (aP p m t.text).1 (aP p m t.text).2.1).kids l) r' else (GD0, 5, r')) else (GD0, 7, r')) else (GD0, e, r')) := by simp only [evG, h]; rfl
theorem wF (h : t.kind = 21) : evG p (g + 1) m t env (r + 1) = (match evL (fun k r => evG p g m k env r) t.kids r with | (l, e, r') => if e = 0 then ((bY t.text (l.getD 0 GD0) (l.getD 1 GD0)).1, (bY t.text (l.getD 0 GD0) (l.getD 1 GD0)).2, r') else (GD0, e, r')) := by simp only [evG, h]; rfl
theorem Er (h : ¬ (10 ≤ t.kind ∧ t.kind ≤ 22 ∧ t.kind ≠ 17 ∧ t.kind ≠ 15)) : evG p (g + 1) m t env (r + 1) = (GD0, 7, r) := by
 rw [evG]
 repeat rw [if_neg (by omega)]
theorem wA (h : t.kind = 15) : evG p (g + 1) m t env (r + 1) = (GD0, 7, r) := by simp [evG, h]
end
theorem kinds (k : Int) : k = 10 ∨ k = 11 ∨ k = 12 ∨ k = 13 ∨ k = 14 ∨ k = 15 ∨ k = 16 ∨ k = 18 ∨ k = 19 ∨ k = 20 ∨ k = 21 ∨ k = 22 ∨ ¬ (10 ≤ k ∧ k ≤ 22 ∧ k ≠ 17 ∧ k ≠ 15) := by omega
theorem Gd (t : Tree) : 1 ≤ tbulk t := by rw [bx]; omega
theorem eX (t : Tree) (i : Nat) : tbulk (aF t i) ≤ tbulk t := by
 rcases Nat.lt_or_ge i t.kids.length with h | h
 ·exact Nat.le_of_lt (by have := bh (dA h); omega)
 ·have e : aF t i = .node 0 [] [] [] := by simp only [aF, List.getD_eq_getElem?_getD]; rw [List.getElem?_eq_none h]; rfl
  rw [e]; exact Gd t
theorem vE {p : List Tree} {B : Nat} (hb : kbulk p ≤ B) (hB : 1 ≤ B) (m d : Int) : tbulk (ew p m d) ≤ B := by
 refine Nat.le_trans (eX _ _) ?_
 rcases az p m.toNat with ⟨t, ht, _⟩ | h
 ·rw [eW ht]; exact Nat.le_trans (cd ht) hb
 ·rw [List.getD_eq_getElem?_getD, List.getElem?_eq_none (Nat.le_of_not_lt h)]; exact hB
theorem nQ (t : Tree) : tbulk (cv t) ≤ tbulk t := by
 unfold cv
 split
 ·exact eX t 0
 ·exact Nat.le_refl _
def EOk (env : List Bnd) : Prop := ∀ b, b ∈ env → wD b.2 ≤ 2000000
theorem zG : ∀ {env : List Bnd} {s : List UInt8} {d : GDatum}, EOk env → iP env s = some d → wD d ≤ 2000000
 | [], s, d, _, h => by simp [iP] at h
 | b :: r, s, d, he, h => by
  unfold iP at h
  split at h
  ·simp only [Option.some.injEq] at h; subst h; exact he b (by simp)
  ·exact zG (fun x hx => he x (by simp [hx])) h
theorem ql {l : List GDatum} (hl : ∀ d, d ∈ l → wD d ≤ 2000000) : ∀ ks : List Tree, EOk (cn ks l) := by
 induction l with
 | nil => intro ks b hb; simp [cn] at hb
 | cons d r ih =>
  intro ks b hb
  cases ks with
  | nil => simp [cn] at hb
  | cons k ks =>
   simp only [cn, List.zipWith_cons_cons, List.mem_cons] at hb
   rcases hb with rfl | hb
   ·exact hl d (by simp)
   ·exact ih (fun x hx => hl x (by simp [hx])) ks b hb
theorem oC {f : Tree → Nat → GDatum × Int × Nat} {B : Nat} : ∀ (ts : List Tree) (r : Nat), (∀ t, t ∈ ts → ∀ r, wD (f (cv t) r).1 ≤ B ∧ (f (cv t) r).2.2 ≤ r) → (∀ d, d ∈ (evL f ts r).1 → wD d ≤ B) ∧ (evL f ts r).2.2 ≤ r ∧ ((evL f ts r).2.1 = 0 → (evL f ts r).1.length = ts.length) ∧ (¬ (evL f ts r).2.1 = 0 → (evL f ts r).1 = [])
 | [], r, _ => by simp [evL]
 | t :: ts, r, h => by
  have h1 := h t (by simp) r
  simp only [evL]
  revert h1
  generalize f (cv t) r = x
  obtain ⟨d, e, r'⟩ := x
  intro h1
  have h2 := oC ts r' fun t ht => h t (by simp [ht])
  simp only at h1 ⊢
  by_cases he : e = 0
  ·rw [if_pos he]
   revert h2
   generalize evL f ts r' = y
   obtain ⟨l, e', r''⟩ := y
   intro h2
   simp only at h2 ⊢
   by_cases he' : e' = 0
   ·rw [if_pos he']
    refine ⟨fun x hx => ?_, by simp only; omega, fun _ => by simp [h2.2.2.1 he'], fun hh => absurd rfl hh⟩
    rcases List.mem_cons.1 hx with rfl | hx
    ·exact h1.1
    ·exact h2.1 x hx
   ·rw [if_neg he']
    exact ⟨by simp, by simp only; omega, fun hh => absurd hh he', fun _ => rfl⟩
  ·rw [if_neg he]
   exact ⟨by simp, h1.2, fun hh => absurd hh he, fun _ => rfl⟩
theorem dx : wD GD0 ≤ 2000000 := by decide
theorem BL (n : Int) : wD (dI n) ≤ 2000000 := by simp [dI, wD, wDs]
theorem vn (b : Bool) : wD (dB b) ≤ 2000000 := by simp [dB, wD, wDs]
theorem EL (op : List UInt8) (a b : GDatum) : wD (bY op a b).1 ≤ 2000000 := by
 unfold bY
 repeat' split
 all_goals first | exact dx | exact BL _ | exact vn _ | (simp only [wD, wDs, List.length_append]; omega)
theorem iM {p : List Tree} (hb : kbulk p ≤ 1100000) : ∀ (g r : Nat) (m : Int) (t : Tree) (env : List Bnd), tbulk t ≤ 1100000 → EOk env → wD (evG p g m t env r).1 ≤ 2000000 ∧ (evG p g m t env r).2.2 ≤ r := fun g => by
 induction g with
 | zero => intro r m t env _ _; rw [evG]; exact ⟨dx, Nat.zero_le _⟩
 | succ g ih =>
  intro r m t env ht he
  cases r with
  | zero => rw [An]; exact ⟨dx, Nat.le_refl _⟩
  | succ r =>
   have hk : ∀ i, tbulk (aF t i) ≤ 1100000 := fun i => Nat.le_trans (eX t i) ht
   have hL := oC (f := fun k r => evG p g m k env r) (B := 2000000) t.kids r fun k hk' r => ih r m (cv k) env (by
    obtain ⟨i, hi⟩ := List.getElem?_of_mem hk'
    have := bh hi
    have := nQ k
    omega) he
   rcases kinds t.kind with h | h | h | h | h | h | h | h | h | h | h | h | h
   ·rw [ws h]; exact ⟨BL _, by simp only; omega⟩
   ·rw [wn h]
    have := bX t
    exact ⟨by simp only [wD, wDs, List.length_take, List.length_drop]; omega, by simp only; omega⟩
   ·rw [wm h]
    cases hl : iP env t.text with
    | none => exact ⟨dx, by simp only; omega⟩
    | some d => exact ⟨zG he hl, by simp only; omega⟩
   ·rw [wv h]; exact ⟨vn _, by simp only; omega⟩
   ·rw [wz h]; exact ⟨vn _, by simp only; omega⟩
   ·rw [wA h]; exact ⟨dx, by simp only; omega⟩
   ·rw [wH h]
    revert hL
    generalize evL (fun k r => evG p g m k env r) t.kids r = x
    obtain ⟨l, e, r'⟩ := x
    intro hL
    simp only at hL ⊢
    split
    ·split
     ·split
      ·have h1 := ih r' (aP p m t.text).1 (aF (ew p (aP p m t.text).1 (aP p m t.text).2.1) (l.length + 1)) (cn (ew p (aP p m t.text).1 (aP p m t.text).2.1).kids l) (Nat.le_trans (eX _ _) (vE hb (by omega) _ _)) (ql hL.1 _)
       exact ⟨h1.1, by omega⟩
      ·exact ⟨dx, by simp only; omega⟩
     ·exact ⟨dx, by simp only; omega⟩
    ·exact ⟨dx, by simp only; omega⟩
   ·rw [wu h]
    revert hL
    generalize evL (fun k r => evG p g m k env r) t.kids r = x
    obtain ⟨l, e, r'⟩ := x
    intro hL
    simp only at hL ⊢
    split
    ·split
     ·exact ⟨dx, by simp only; omega⟩
     ·exact ⟨by simp only [wD, List.length_nil]; omega, by simp only; omega⟩
    ·exact ⟨dx, by simp only; omega⟩
   ·rw [wt h]
    have h1 := ih r m (aF t 0) env (hk 0) he
    revert h1
    generalize evG p g m (aF t 0) env r = x
    obtain ⟨d, e, r'⟩ := x
    intro h1
    simp only at h1 ⊢
    split
    ·split
     ·split
      ·have h2 := ih r' m (aF t 1) env (hk 1) he
       exact ⟨h2.1, by omega⟩
      ·have h2 := ih r' m (aF t 2) env (hk 2) he
       exact ⟨h2.1, by omega⟩
     ·exact ⟨dx, by simp only; omega⟩
    ·exact ⟨dx, by simp only; omega⟩
   ·rw [wq h]
    have h1 := ih r m (aF t 0) env (hk 0) he
    revert h1
    generalize evG p g m (aF t 0) env r = x
    obtain ⟨d, e, r'⟩ := x
    intro h1
    simp only at h1 ⊢
    split
    ·have h2 := ih r' m (aF t 1) ((t.text, d) :: env) (hk 1) (fun b hb => by
      rcases List.mem_cons.1 hb with rfl | hb
      ·exact h1.1
      ·exact he b hb)
     exact ⟨h2.1, by omega⟩
    ·exact ⟨dx, by simp only; omega⟩
   ·rw [wF h]
    revert hL
    generalize evL (fun k r => evG p g m k env r) t.kids r = x
    obtain ⟨l, e, r'⟩ := x
    intro hL
    simp only at hL ⊢
    split
    ·exact ⟨EL _ _ _, by simp only; omega⟩
    ·exact ⟨dx, by simp only; omega⟩
   ·rw [wI h]
    have h1 := ih r m (aF t 0) env (hk 0) he
    exact ⟨h1.1, by omega⟩
   ·rw [Er h]; exact ⟨dx, by simp only; omega⟩
end Go.Proofs.YthnohcipianijaaGreatDoor
namespace Go.Proofs.YthnohcipianijaaGreatDoor
open Go.RowKit Lx Sx
set_option maxRecDepth 100000
set_option maxHeartbeats 1100000
mutual
def prepN (p : List Tree) (m : Int) : Tree → ac
 | .node k s _ ks => ⟨k, if (k == 16 || k == 9) = true then (aP p m s).1 else 0, if (k == 16 || k == 9) = true then (aP p m s).2.1 else 0, if (k == 16 || k == 9) = true then !(aP p m s).2.2 else false, s, prepNs p m ks⟩
def prepNs (p : List Tree) (m : Int) : List Tree → List ac
 | [] => []
 | t :: r => prepN p m t :: prepNs p m r
end
theorem uk (p : List Tree) (m : Int) : ∀ l, prepNs p m l = l.map (prepN p m)
 | [] => by simp [prepNs]
 | t :: r => by simp [prepNs, uk p m r]
section
variable {p : List Tree} {m : Int}
theorem nk (t : Tree) : prepN p m t = ⟨t.kind, if li t = true then (aP p m t.text).1 else 0, if li t = true then (aP p m t.text).2.1 else 0, if li t = true then !(aP p m t.text).2.2 else false, t.text, t.kids.map (prepN p m)⟩ := by
 cases t; simp only [prepN, uk]; rfl
theorem ch (t : Tree) : (prepN p m t).kind = t.kind := by rw [nk]
theorem jG (t : Tree) : (prepN p m t).text = t.text := by rw [nk]
theorem ug (t : Tree) : (prepN p m t).kids = t.kids.map (prepN p m) := by rw [nk]
theorem jj {t u : Tree} {i : Nat} (h : t.kids[i]? = some u) : (prepN p m t).kids[i]? = some (prepN p m u) := by rw [ug, List.getElem?_map, h]; rfl
theorem nV (t : Tree) : (prepN p m t).kids.length = t.kids.length := by rw [ug, List.length_map]
theorem Bt {t : Tree} (h : t.kind = 16) : (prepN p m t).module = (aP p m t.text).1 ∧ (prepN p m t).def_ = (aP p m t.text).2.1 ∧ (prepN p m t).free = !(aP p m t.text).2.2 := by
 have : li t = true := by simp [li, h]
 rw [nk]; simp only [if_pos this, true_and]
theorem Bg : ∀ t : Tree, tbulk t ≤ 1000000000 → ∀ (q : List Int) (rest : List GTarget), jc t (fF p m (nodK t q) ++ rest) (prepN p m t) rest := go fun t ih hb q rest => by
 have hk := bM t
 have loop : ∀ j i l, t.kids.length - i ≤ j → i ≤ t.kids.length → l = (t.kids.take i).map (prepN p m) → ∀ (z1 z2 : Int) (b : Bool), fa (j + 1) t (fF p m (nodKs (t.kids.drop i) q i) ++ rest) z1 z2 b l i ⟨t.kind, z1, z2, b, t.text, t.kids.map (prepN p m)⟩ rest := fun j => by
  induction j with
  | zero =>
   intro i l hi hle hl z1 z2 b
   refine oo 0 _ _ _ _ _ _ _ _ _ ⟨fun h => by omega, fun h => ?_⟩
   rw [List.drop_of_length_le (by omega), hl, List.take_of_length_le (by omega)]
   exact ⟨rfl, by simp [nodKs, fF]⟩
  | succ j ihj =>
   intro i l hi hle hl z1 z2 b
   refine oo (j + 1) _ _ _ _ _ _ _ _ _ ⟨fun h => ?_, fun h => ?_⟩
   ·obtain ⟨u, hu, hlt⟩ | h' := az t.kids i
    ·have hbu := bh hu
     rw [aQ hu, nodKs, tU, List.append_assoc]
     have hl2 : l ++ [prepN p m u] = (t.kids.take (i + 1)).map (prepN p m) := by rw [hl, List.take_add_one, hu]; simp
     refine ⟨u, hu, prepN p m u, _, ih i u hu (by omega) (q ++ [(i : Int)]) _, ?_, by omega, ihj (i + 1) _ (by omega) (by omega) hl2 z1 z2 b⟩
     rw [hl2, List.length_map, List.length_take]; omega
    ·exact absurd h h'
   ·rw [List.drop_of_length_le (by omega), hl, List.take_of_length_le (by omega)]
    exact ⟨rfl, by simp [nodKs, fF]⟩
 have l0 : iF (t.kids.length + 2) t (fF p m (nodK t q) ++ rest) (li t) (prepN p m t) rest := by
  refine tc (t.kids.length + 1) _ _ _ _ _ ⟨fun h => ?_, fun h => ?_⟩
  ·rw [va, fF, if_pos h]
   refine ⟨tgK p m q t, rfl, by simp, ?_⟩
   have := loop t.kids.length 0 [] (by omega) (by omega) (by simp) (aP p m t.text).1 (aP p m t.text).2.1 (!(aP p m t.text).2.2)
   rw [nk, if_pos h, if_pos h, if_pos h]
   exact this
  ·have h' : ¬ li t = true := by rw [h]; decide
   rw [va, fF, if_neg h']
   have := loop t.kids.length 0 [] (by omega) (by omega) (by simp) 0 0 false
   rw [nk, if_neg h', if_neg h', if_neg h']
   exact this
 refine ud (t.kids.length + 2) _ _ _ _ ⟨fun h => ?_, fun h => ?_⟩
 ·have : li t = true := by simp [li, h]
  rw [this] at l0; exact l0
 ·have : li t = (t.kind == 9) := by simp [li, h]
  rw [this] at l0; exact l0
end
def qT (p : List Tree) : Nat → List Tree → List ac
 | _, [] => []
 | i, t :: r => prepN p i t :: qT p (i + 1) r
def dc (p : List Tree) : List ac := qT p 0 p
theorem vC (p : List Tree) : ∀ (l : List Tree) (i k : Nat) (t : Tree), l[k]? = some t → (qT p i l)[k]? = some (prepN p ((i + k : Nat) : Int) t)
 | [], i, k, t, h => by simp at h
 | u :: r, i, 0, t, h => by simp at h; subst h; simp [qT]
 | u :: r, i, k + 1, t, h => by
  have := vC p r (i + 1) k t (by simpa using h)
  rw [show i + 1 + k = i + (k + 1) by omega] at this
  simpa [qT] using this
theorem qR {p : List Tree} {k : Nat} {t : Tree} (h : p[k]? = some t) : (dc p)[k]? = some (prepN p (k : Int) t) := by
 have := vC p p 0 k t h
 simpa [dc] using this
def pb (b : Bnd) : ai := ⟨b.1, b.2⟩
def VOk (p : List Tree) (g : Nat) : Prop := ∀ (r m : Nat) (t : Tree) (env : List Bnd) (fuel : Nat), r < g → r ≤ fuel → fuel ≤ 16384 → m < p.length → exT t → tbulk t ≤ 1100000 → EOk env →
 S_eval_runner_value (dc p) fuel ((fuel : Int) - (r : Int)) (prepN p m t) (env.map pb) (evG p g m t env r).1 (evG p g m t env r).2.1 (dc p) fuel ((fuel : Int) - ((evG p g m t env r).2.2 : Int))
section
variable {p : List Tree} (hb : kbulk p ≤ 1100000)
theorem If {g : Nat} (hb : kbulk p ≤ 1100000) (H : VOk p g) (m : Nat) (t : Tree) (env : List Bnd) (fuel : Nat) (hf : fuel ≤ 16384) (hm : m < p.length) (hx : exT t) (ht : tbulk t ≤ 1100000) (he : EOk env) (r : Nat) (hr : r < g) (hrf : r ≤ fuel) :
  S_eval_runner_all (dc p) fuel ((fuel : Int) - (r : Int)) (prepN p m t) (env.map pb) (evL (fun k r => evG p g m k env r) t.kids r).1 (evL (fun k r => evG p g m k env r) t.kids r).2.1 (dc p) fuel ((fuel : Int) - ((evL (fun k r => evG p g m k env r) t.kids r).2.2 : Int)) := by
 have hk := bM t
 have loop : ∀ j i (r : Nat) acc, t.kids.length - i ≤ j → i ≤ t.kids.length → acc.length = i → r < g → r ≤ fuel → fM (2 * j + 1) (prepN p m t) (env.map pb) (dc p) fuel ((fuel : Int) - (r : Int)) acc i
   (if (evL (fun k r => evG p g m k env r) (t.kids.drop i) r).2.1 = 0 then acc ++ (evL (fun k r => evG p g m k env r) (t.kids.drop i) r).1 else []) (evL (fun k r => evG p g m k env r) (t.kids.drop i) r).2.1 (dc p) fuel ((fuel : Int) - ((evL (fun k r => evG p g m k env r) (t.kids.drop i) r).2.2 : Int)) := fun j => by
  induction j with
  | zero =>
   intro i r acc hi hle hacc hr hrf
   refine mT 0 _ _ _ _ _ _ _ _ _ _ _ _ ⟨fun h => by rw [nV] at h; omega, fun h => ?_⟩
   rw [List.drop_of_length_le (by omega), evL]
   exact ⟨by simp, rfl, rfl, rfl, rfl⟩
  | succ j ihj =>
   intro i r acc hi hle hacc hr hrf
   refine mT (2 * j + 2) _ _ _ _ _ _ _ _ _ _ _ _ ⟨fun h => ?_, fun h => ?_⟩
   ·rw [nV] at h
    obtain ⟨u, hu, hlt⟩ | h' := az t.kids i
    ·obtain ⟨a1, a2, a3, a4⟩ := xr hx hu
     have hbu := bh hu
     have hv := H r m (cv u) env fuel hr hrf hf hm a1 (by omega) he
     have hin := iM hb g r m (cv u) env (by omega) he
     rw [aQ hu, evL]
     revert hv hin
     generalize evG p g m (cv u) env r = y
     obtain ⟨d, e, r'⟩ := y
     intro hv hin
     simp only at hv hin ⊢
     have l1 : fU (2 * j + 2) (prepN p m t) (env.map pb) (prepN p m (cv u)) (dc p) fuel ((fuel : Int) - (r : Int)) acc i
       (if (if e = 0 then (match evL (fun k r => evG p g m k env r) (t.kids.drop (i + 1)) r' with | (l, e', r'') => if e' = 0 then (d :: l, (0 : Int), r'') else ([], e', r'')) else ([], e, r')).2.1 = 0 then acc ++ (if e = 0 then (match evL (fun k r => evG p g m k env r) (t.kids.drop (i + 1)) r' with | (l, e', r'') => if e' = 0 then (d :: l, (0 : Int), r'') else ([], e', r'')) else ([], e, r')).1 else [])
       (if e = 0 then (match evL (fun k r => evG p g m k env r) (t.kids.drop (i + 1)) r' with | (l, e', r'') => if e' = 0 then (d :: l, (0 : Int), r'') else ([], e', r'')) else ([], e, r')).2.1 (dc p) fuel ((fuel : Int) - ((if e = 0 then (match evL (fun k r => evG p g m k env r) (t.kids.drop (i + 1)) r' with | (l, e', r'') => if e' = 0 then (d :: l, (0 : Int), r'') else ([], e', r'')) else ([], e, r')).2.2 : Int)) := by
      refine rO (2 * j + 1) _ _ _ _ _ _ _ _ _ _ _ _ _ ⟨d, e, _, _, _, hv, fun h0 => ?_, fun h0 => ?_⟩
      ·exact ⟨by simp [h0], by simp [h0], rfl, rfl, by simp [h0]⟩
      ·have hrec := ihj (i + 1) r' (acc ++ [d]) (by omega) (by omega) (by simp [hacc]) (by omega) (by omega)
       refine ⟨by simp [hacc]; omega, by omega, ?_⟩
       simp only [if_pos h0]
       revert hrec
       generalize evL (fun k r => evG p g m k env r) (t.kids.drop (i + 1)) r' = x
       obtain ⟨l, e', r''⟩ := x
       intro hrec
       simp only at hrec ⊢
       by_cases he' : e' = 0
       ·simp only [if_pos he'] at hrec ⊢
        subst he'
        simpa using hrec
       ·simp only [if_neg he'] at hrec ⊢
        exact hrec
     refine ⟨prepN p m u, jj hu, fun h17 => ?_, fun h17 => ?_⟩
     ·rw [ch] at h17
      obtain ⟨b1, b2, b3⟩ := uZ hx hu (a4.1 h17)
      have e : cv u = aF u 0 := by rw [cv, if_pos h17]
      rw [e] at l1
      exact ⟨_, jj (dA (by omega)), l1⟩
     ·rw [ch] at h17
      have e : cv u = u := by rw [cv, if_neg h17]
      rw [e] at l1
      exact l1
    ·exact absurd h h'
   ·rw [nV] at h
    rw [List.drop_of_length_le (by omega), evL]
    exact ⟨by simp, rfl, rfl, rfl, rfl⟩
 refine sJ (2 * t.kids.length + 1) _ _ _ _ _ _ _ _ _ _ ?_
 have := loop t.kids.length 0 r [] (by omega) (by omega) rfl hr hrf
 rw [List.drop_zero] at this
 have e : (if (evL (fun k r => evG p g m k env r) t.kids r).2.1 = 0 then [] ++ (evL (fun k r => evG p g m k env r) t.kids r).1 else []) = (evL (fun k r => evG p g m k env r) t.kids r).1 := by
  split
  ·rfl
  ·rename_i hne
   refine ((oC (B := 2000000) t.kids r fun k hk' r => ?_).2.2.2 hne).symm
   obtain ⟨i, hi⟩ := List.getElem?_of_mem hk'
   have := bh hi
   have := nQ k
   exact iM hb g r m (cv k) env (by omega) he
 rw [e] at this
 exact this
theorem ze {g : Nat} (H : VOk p g) (i : Nat) (a : Tree) (l : List GDatum) (fuel : Nat) (hf : fuel ≤ 16384) (hi : i < p.length) (ha : a.kids.length = l.length + 2) (hx : exT (aF a (l.length + 1))) (hab : tbulk a ≤ 1100000) (hl : ∀ d, d ∈ l → wD d ≤ 2000000) (r : Nat) (hr : r < g) (hrf : r ≤ fuel) :
  S_eval_runner_enter (dc p) fuel ((fuel : Int) - (r : Int)) (prepN p i a) l (evG p g i (aF a (l.length + 1)) (cn a.kids l) r).1 (evG p g i (aF a (l.length + 1)) (cn a.kids l) r).2.1 (dc p) fuel ((fuel : Int) - ((evG p g i (aF a (l.length + 1)) (cn a.kids l) r).2.2 : Int)) := by
 have hlen := bM a
 have loop : ∀ j, j ≤ l.length → eK (j + 1) (dc p) fuel ((fuel : Int) - (r : Int)) (prepN p i a) l ((cn (a.kids.drop j) (l.drop j)).map pb) ((j : Int) - 1) (evG p g i (aF a (l.length + 1)) (cn a.kids l) r).1 (evG p g i (aF a (l.length + 1)) (cn a.kids l) r).2.1 (dc p) fuel ((fuel : Int) - ((evG p g i (aF a (l.length + 1)) (cn a.kids l) r).2.2 : Int)) := fun j => by
  induction j with
  | zero =>
   intro _
   refine lr 0 _ _ _ _ _ _ _ _ _ _ _ _ ⟨fun h => by omega, fun h => ⟨by omega, _, jj (dA (by omega)), _, _, _, _, _, H r i _ _ fuel hr hrf hf hi hx (Nat.le_trans (eX _ _) hab) (ql hl a.kids), rfl, rfl, rfl, rfl, rfl⟩⟩
  | succ j ihj =>
   intro hj
   obtain ⟨u, hu, _⟩ | h' := az a.kids j
   ·obtain ⟨d, hd, _⟩ | h'' := az l j
    ·refine lr (j + 1) _ _ _ _ _ _ _ _ _ _ _ _ ⟨fun h => ⟨j, by omega, _, jj hu, j, by omega, d, hd, by constructor <;> omega, ?_⟩, fun h => by omega⟩
     have := ihj (by omega)
     rw [aQ hu, aQ hd] at this
     rw [show (((j + 1 : Nat) : Int) - 1 - 1) = (j : Int) - 1 by omega, jG]
     simpa [cn, pb] using this
    ·omega
   ·omega
 have := loop l.length (Nat.le_refl _)
 rw [List.drop_of_length_le (Nat.le_refl l.length)] at this
 refine ri (l.length + 1) _ _ _ _ _ _ _ _ _ _ ?_
 simpa [cn] using this
end
end Go.Proofs.YthnohcipianijaaGreatDoor
namespace Go.Proofs.YthnohcipianijaaGreatDoor
open Go.RowKit Lx Sx
set_option maxRecDepth 100000
set_option maxHeartbeats 1100000
theorem pw (b : Bool) : eY b (dB b) := ue 0 _ _ ⟨fun h => by rw [h]; rfl, fun h => by rw [h]; rfl⟩
theorem Al {d : GDatum} {B : Nat} (h : wD d ≤ B) : d.S.length ≤ B := by rw [py] at h; omega
theorem vi {P : List ac} {F U : Int} {N : ac} {x y : GDatum} (b : Bool) (hx : wD x ≤ 2000000) (hy : wD y ≤ 2000000) (h61 : ¬ N.text = [61, 61]) (hb : b = true ↔ (N.text = [43] ∧ x.Kind = 2 ∧ y.Kind = 2)) :
  L1_eval_runner_operation 1 N P F U x y b (bY N.text x y).1 (bY N.text x y).2 P F U := by
 have h1 := Al hx
 have h2 := Al hy
 have e1 : IntKind.i64.wrap (((x.S.length : Nat) : Int) + ((y.S.length : Nat) : Int)) = ((x.S.length : Nat) : Int) + ((y.S.length : Nat) : Int) := IntWalk.i64_in _ (by omega)
 have e2 : IntKind.i64.wrap (((x.S.length : Nat) : Int) + ((y.S.length : Nat) : Int) + 1) = ((x.S.length : Nat) : Int) + ((y.S.length : Nat) : Int) + 1 := IntWalk.i64_in _ (by omega)
 refine oy 0 _ _ _ _ _ _ _ _ _ _ _ _ ⟨fun ht => ⟨fun h => ?_, fun h => ⟨by omega, ?_⟩⟩, fun hf => ?_⟩
 ·rw [e1, e2] at h
  have e : bY N.text x y = (GD0, 3) := by rw [bY, if_neg h61, if_pos (hb.1 ht), if_pos (by omega)]
  rw [e]; exact ⟨rfl, rfl, rfl, rfl, rfl⟩
 ·rw [e1, e2] at h
  have e : bY N.text x y = (⟨2, 0, x.S ++ y.S, []⟩, 0) := by rw [bY, if_neg h61, if_pos (hb.1 ht), if_neg (by omega)]
  rw [e]; exact ⟨rfl, rfl, rfl, rfl, rfl⟩
 ·have hn : ¬ (N.text = [43] ∧ x.Kind = 2 ∧ y.Kind = 2) := fun h => by rw [hb.2 h] at hf; cases hf
  have e : bY N.text x y = (if ¬ (x.Kind = 1 ∧ y.Kind = 1) then (GD0, 20) else if N.text = [43] then (dI (IntKind.i64.wrap (x.N + y.N)), 0) else if N.text = [45] then (dI (IntKind.i64.wrap (x.N - y.N)), 0) else if N.text = [42] then (dI (IntKind.i64.wrap (x.N * y.N)), 0) else (dB (decide (x.N < y.N)), 0)) := by rw [bY, if_neg h61, if_neg hn]
  rw [e]
  refine ⟨fun k => ?_, fun k => ⟨fun k2 => ?_, fun k2 => ?_⟩⟩
  ·rw [if_pos (fun h => k h.1)]; exact ⟨rfl, rfl, rfl, rfl, rfl⟩
  ·rw [if_pos (fun h => k2 h.2)]; exact ⟨rfl, rfl, rfl, rfl, rfl⟩
  ·rw [if_neg (fun h => h ⟨k, k2⟩)]
   refine ⟨fun q => ?_, fun q => ⟨fun q2 => ?_, fun q2 => ⟨fun q3 => ?_, fun q3 => ?_⟩⟩⟩
   ·rw [if_pos q]; exact ⟨rfl, rfl, rfl, rfl, rfl⟩
   ·rw [if_neg q, if_pos q2]; exact ⟨rfl, rfl, rfl, rfl, rfl⟩
   ·rw [if_neg q, if_neg q2, if_pos q3]; exact ⟨rfl, rfl, rfl, rfl, rfl⟩
   ·rw [if_neg q, if_neg q2, if_neg q3]; exact ⟨_, pw _, rfl, rfl, rfl, rfl, rfl⟩
theorem Gw {P : List ac} {F U : Int} {N : ac} {x y : GDatum} (hx : wD x ≤ 2000000) (hy : wD y ≤ 2000000) :
  L0_eval_runner_operation 2 N P F U x y (bY N.text x y).1 (bY N.text x y).2 P F U := by
 refine ov 1 _ _ _ _ _ _ _ _ _ _ _ ⟨fun h => ⟨fun k => ?_, fun k => ?_⟩, fun h => ⟨fun k => ⟨fun q => ?_, fun q => ?_⟩, fun k => ?_⟩⟩
 ·have e : bY N.text x y = (GD0, 20) := by rw [bY, if_pos h, if_neg k]
  rw [e]; exact ⟨rfl, rfl, rfl, rfl, rfl⟩
 ·have e : bY N.text x y = (dB (sameD x y), 0) := by rw [bY, if_pos h, if_pos k]
  rw [e]; exact ⟨_, BI x (by have := uo x; omega) y, _, pw _, rfl, rfl, rfl, rfl, rfl⟩
 ·exact vi _ hx hy h (by simp [k, q])
 ·exact vi _ hx hy h (by simp [q])
 ·exact vi _ hx hy h (by simp [k])
theorem vW {P : List ac} {F U : Int} {N : ac} (k : Nat) : ∀ (env : List Bnd), eQ (env.length + k + 1) P F U N (env.map pb) ((iP env N.text).getD GD0) (if (iP env N.text).isSome = true then 0 else 7) P F (U + 1)
 | [] => lp _ _ _ _ _ _ _ _ _ _ _ ⟨fun _ => ⟨rfl, rfl, rfl, rfl, rfl⟩, fun x l h => by cases h⟩
 | b :: r => by
  rw [show (b :: r).length + k + 1 = (r.length + k + 1) + 1 by simp only [List.length_cons]; omega]
  refine lp (r.length + k + 1) _ _ _ _ _ _ _ _ _ _ ⟨fun h => (by cases h), fun x l h => ?_⟩
  simp only [List.map_cons, List.cons.injEq] at h
  obtain ⟨rfl, rfl⟩ := h
  refine ⟨fun h => ?_, fun h => ?_⟩
  ·have h' : b.1 = N.text := h
   rw [iP, if_pos h']; exact ⟨rfl, rfl, rfl, rfl, rfl⟩
  ·have h' : ¬ b.1 = N.text := h
   rw [iP, if_neg h']; exact vW k r
theorem Fw {p : List Tree} (hp : cU p = true) (hb : kbulk p ≤ 1100000) : ∀ g, VOk p g := fun g => by
 induction g with
 | zero => intro r m t env fuel hr; omega
 | succ g ih =>
  intro r m t env fuel hr hrf hf hm hx ht he
  have hkb : ∀ i, tbulk (aF t i) ≤ 1100000 := fun i => Nat.le_trans (eX t i) ht
  cases r with
  | zero =>
   rw [An]
   exact mi 20 _ _ _ _ _ _ _ _ _ _ ⟨fun _ => ⟨rfl, rfl, rfl, rfl, rfl⟩, fun h => absurd (by omega) h⟩
  | succ r =>
   have e1 : (fuel : Int) - ((r + 1 : Nat) : Int) + 1 = (fuel : Int) - (r : Int) := by omega
   obtain ⟨hl22, hl20, hl19, hl21⟩ := yY hx
   obtain ⟨hw10, hw11, hw16, hw21⟩ := yu hx
   have kid : ∀ i, i < t.kids.length → t.kind ≠ 16 → exT (aF t i) ∧ (prepN p m t).kids[i]? = some (prepN p m (aF t i)) := fun i hi h16 => ⟨(vg hx (dA hi) h16).1, jj (dA hi)⟩
   have hall := If hb ih m t env fuel hf hm hx ht he r (by omega) (by omega)
   have hinv : (∀ d, d ∈ (evL (fun k r => evG p g m k env r) t.kids r).1 → wD d ≤ 2000000) ∧ (evL (fun k r => evG p g m k env r) t.kids r).2.2 ≤ r ∧ ((evL (fun k r => evG p g m k env r) t.kids r).2.1 = 0 → (evL (fun k r => evG p g m k env r) t.kids r).1.length = t.kids.length) := by
    have := oC (f := fun k r => evG p g m k env r) (B := 2000000) t.kids r fun k hk' r => by
     obtain ⟨i, hi⟩ := List.getElem?_of_mem hk'
     have := bh hi
     have := nQ k
     exact iM hb g r m (cv k) env (by omega) he
    exact ⟨this.1, this.2.1, this.2.2.1⟩
   have htl := bX t
   have hkl := bM t
   have c15 : t.kind ≠ 10 → t.kind ≠ 11 → t.kind ≠ 13 → t.kind ≠ 14 → t.kind ≠ 12 → t.kind ≠ 22 → t.kind ≠ 20 → t.kind ≠ 19 → t.kind ≠ 18 → t.kind ≠ 16 → t.kind ≠ 21 → t.kind = 15 := by
    have h : 10 ≤ t.kind ∧ t.kind ≤ 22 ∧ t.kind ≠ 17 := by simpa [fx] using hx.2
    omega
   refine mi (env.length + 30) _ _ _ _ _ _ _ _ _ _ ⟨fun h => by omega, fun _ => ⟨by constructor <;> omega, fun h10 => ?_, fun n10 => qM (env.length + 29) _ _ _ _ _ _ _ _ _ _ ⟨fun h11 => ?_, fun n11 => qE (env.length + 28) _ _ _ _ _ _ _ _ _ _ ⟨fun h13 => ?_, fun n13 => qP (env.length + 27) _ _ _ _ _ _ _ _ _ _ ⟨fun h14 => ?_, fun n14 => qv (env.length + 26) _ _ _ _ _ _ _ _ _ _ ⟨fun h12 => ?_, fun n12 => qy (env.length + 25) _ _ _ _ _ _ _ _ _ _ ⟨fun h22 => ?_, fun n22 => qf (env.length + 24) _ _ _ _ _ _ _ _ _ _ ⟨fun h20 => ?_, fun n20 => pZ (env.length + 23) _ _ _ _ _ _ _ _ _ _ ⟨fun h19 => ?_, fun n19 => pQ (env.length + 22) _ _ _ _ _ _ _ _ _ _ ⟨fun h18 => ?_, fun n18 => qa (env.length + 21) _ _ _ _ _ _ _ _ _ _ ⟨fun h16 => ?_, fun n16 => pO (env.length + 20) _ _ _ _ _ _ _ _ _ _ ⟨fun h21 => ?_, fun n21 => ?_⟩⟩⟩⟩⟩⟩⟩⟩⟩⟩⟩⟩
   ·rw [ch] at h10
    rw [ws h10]
    refine qO _ _ _ _ _ _ _ _ _ _ ⟨_, (), ?_, rfl, rfl, rfl, rfl, e1⟩
    rw [jG]; exact Ae (hw10 h10)
   ·rw [ch] at h11
    have h2 := GM (hw11 h11)
    rw [wn h11]
    refine qB _ _ _ _ _ _ _ _ _ _ ?_
    rw [jG]
    exact ⟨by constructor <;> omega, t.text.length - 1, by omega, by omega, by omega, rfl, rfl, rfl, rfl, e1⟩
   ·rw [ch] at h13
    rw [wv h13]
    exact ⟨_, pw _, rfl, rfl, rfl, rfl, e1⟩
   ·rw [ch] at h14
    rw [wz h14]
    exact ⟨_, pw _, rfl, rfl, rfl, rfl, e1⟩
   ·rw [ch] at h12
    have h6 := vW (P := dc p) (F := fuel) (U := (fuel : Int) - ((r + 1 : Nat) : Int)) (N := prepN p m t) 25 env
    rw [wm h12]
    rw [jG, e1] at h6
    cases hE : iP env t.text with
    | none => rw [hE] at h6; exact h6
    | some d => rw [hE] at h6; exact h6
   ·rw [ch] at h22
    rw [wI h22]
    obtain ⟨k1, k2⟩ := kid 0 (by have := hl22 h22; omega) (by omega)
    have hv := ih r m (aF t 0) env fuel (by omega) (by omega) hf hm k1 (hkb 0) he
    exact qo _ _ _ _ _ _ _ _ _ _ _ ⟨_, k2, _, _, _, _, _, by rw [e1]; exact hv, rfl, rfl, rfl, rfl, rfl⟩
   ·rw [ch] at h20
    rw [wq h20]
    have hl := hl20 h20
    obtain ⟨k1, k2⟩ := kid 0 (by omega) (by omega)
    obtain ⟨k3, k4⟩ := kid 1 (by omega) (by omega)
    have hv := ih r m (aF t 0) env fuel (by omega) (by omega) hf hm k1 (hkb 0) he
    have hi := iM hb g r m (aF t 0) env (hkb 0) he
    revert hv hi
    generalize evG p g m (aF t 0) env r = x
    obtain ⟨d, e, r'⟩ := x
    intro hv hi
    simp only at hv hi ⊢
    refine qb _ _ _ _ _ _ _ _ _ _ _ ⟨_, k2, d, e, _, _, _, by rw [e1]; exact hv, fun hne => ?_, fun h0 => ?_⟩
    ·rw [if_neg hne]; exact ⟨rfl, rfl, rfl, rfl, rfl⟩
    ·rw [if_pos h0]
     have hv1 := ih r' m (aF t 1) ((t.text, d) :: env) fuel (by omega) (by omega) hf hm k3 (hkb 1) (fun b hb => by
      rcases List.mem_cons.1 hb with rfl | hb
      ·exact hi.1
      ·exact he b hb)
     exact ⟨_, k4, _, _, _, _, _, by rw [jG]; exact hv1, rfl, rfl, rfl, rfl, rfl⟩
   ·rw [ch] at h19
    rw [wt h19]
    have hl := hl19 h19
    obtain ⟨k1, k2⟩ := kid 0 (by omega) (by omega)
    obtain ⟨k3, k4⟩ := kid 1 (by omega) (by omega)
    obtain ⟨k5, k6⟩ := kid 2 (by omega) (by omega)
    have hv := ih r m (aF t 0) env fuel (by omega) (by omega) hf hm k1 (hkb 0) he
    have hi := iM hb g r m (aF t 0) env (hkb 0) he
    revert hv hi
    generalize evG p g m (aF t 0) env r = x
    obtain ⟨d, e, r'⟩ := x
    intro hv hi
    simp only at hv hi ⊢
    refine ⟨_, _, _, _, _, ?_, rfl, rfl, rfl, rfl, rfl⟩
    rw [e1]
    refine qj 0 _ _ _ _ _ _ _ _ _ _ ⟨_, k2, d, e, _, _, _, hv, fun hne => ?_, fun h0 => ⟨fun q => ?_, fun q => ⟨fun q1 => ?_, fun q1 => ?_⟩⟩⟩
    ·rw [if_neg hne]; exact ⟨rfl, rfl, rfl, rfl, rfl⟩
    ·rw [if_pos h0, if_neg q]; exact ⟨rfl, rfl, rfl, rfl, rfl⟩
    ·rw [if_pos h0, if_pos q, if_pos q1]
     have hv1 := ih r' m (aF t 1) env fuel (by omega) (by omega) hf hm k3 (hkb 1) he
     exact ⟨_, k4, _, _, _, _, _, hv1, rfl, rfl, rfl, rfl, rfl⟩
    ·rw [if_pos h0, if_pos q, if_neg q1]
     have hv1 := ih r' m (aF t 2) env fuel (by omega) (by omega) hf hm k5 (hkb 2) he
     exact ⟨_, k6, _, _, _, _, _, hv1, rfl, rfl, rfl, rfl, rfl⟩
   ·rw [ch] at h18
    rw [wu h18]
    revert hall hinv
    generalize evL (fun k r => evG p g m k env r) t.kids r = x
    obtain ⟨l, e, r'⟩ := x
    intro hall hinv
    simp only at hall hinv ⊢
    refine ⟨_, _, _, _, _, ?_, rfl, rfl, rfl, rfl, rfl⟩
    rw [e1]
    have hw : wD ⟨4, 0, [], l⟩ = 1 + wDs l := by simp [wD]
    refine rP 0 _ _ _ _ _ _ _ _ _ _ ⟨l, e, _, _, _, hall, fun hne => ?_, fun h0 => ⟨_, wP _, fun q => ?_, fun q => ?_⟩⟩
    ·rw [if_neg hne]; exact ⟨rfl, rfl, rfl, rfl, rfl⟩
    ·rw [if_pos h0, if_pos (by omega)]; exact ⟨rfl, rfl, rfl, rfl, rfl⟩
    ·rw [if_pos h0, if_neg (by omega)]; exact ⟨rfl, rfl, rfl, rfl, rfl⟩
   ·rw [ch] at h16
    rw [wH h16]
    obtain ⟨u1, u2, u3⟩ := Bt (p := p) (m := m) h16
    revert hall hinv
    generalize evL (fun k r => evG p g m k env r) t.kids r = x
    obtain ⟨l, e, r'⟩ := x
    intro hall hinv
    simp only at hall hinv ⊢
    refine ⟨_, _, _, _, _, ?_, rfl, rfl, rfl, rfl, rfl⟩
    rw [e1]
    refine rU 0 _ _ _ _ _ _ _ _ _ _ ⟨l, e, _, _, _, hall, fun hne => ?_, fun h0 => ⟨fun q => ?_, fun q => ?_⟩⟩
    ·rw [if_neg hne]; exact ⟨rfl, rfl, rfl, rfl, rfl⟩
    ·rw [u3] at q
     have q' : ¬ (aP p m t.text).2.2 = true := by intro h; rw [h] at q; cases q
     rw [if_pos h0, if_neg q']; exact ⟨rfl, rfl, rfl, rfl, rfl⟩
    ·rw [u3] at q
     have q' : (aP p m t.text).2.2 = true := by
      cases h : (aP p m t.text).2.2
      ·rw [h] at q; cases q
      ·rfl
     obtain ⟨i, dd, tt, a, g1, g2, g3, g4⟩ := zD q'
     have hd : ew p (aP p m t.text).1 (aP p m t.text).2.1 = a := by
      rw [g1, g2]
      unfold ew aF
      rw [Int.toNat_natCast, eW g3, Int.toNat_natCast, eW g4]
     rw [if_pos h0, if_pos q', hd, u1, u2, g1, g2]
     have hpos : i < p.length := (List.getElem?_eq_some_iff.1 g3).1
     have hab : tbulk a ≤ 1100000 := Nat.le_trans (Nat.le_of_lt (by have := bh g4; omega)) (Nat.le_trans (cd g3) hb)
     have hlen := hinv.2.2 h0
     refine ⟨i, rfl, _, qR g3, dd, rfl, _, jj g4, by omega, fun z => ?_, fun z => ?_⟩
     ·rw [nV] at z
      rw [if_neg z]; exact ⟨rfl, rfl, rfl, rfl, rfl⟩
     ·rw [nV] at z
      rw [if_pos z]
      obtain ⟨_, hbx⟩ := rG hp g3 g4 z
      exact ⟨_, _, _, _, _, ze ih i a l fuel hf hpos z hbx hab hinv.1 r' (by omega) (by omega), rfl, rfl, rfl, rfl, rfl⟩
   ·rw [ch] at h21
    rw [wF h21]
    have hl := hl21 h21
    revert hall hinv
    generalize evL (fun k r => evG p g m k env r) t.kids r = x
    obtain ⟨l, e, r'⟩ := x
    intro hall hinv
    simp only at hall hinv ⊢
    refine ⟨_, _, _, _, _, ?_, rfl, rfl, rfl, rfl, rfl⟩
    rw [e1]
    refine oL 2 _ _ _ _ _ _ _ _ _ _ ⟨l, e, _, _, _, hall, fun hne => ?_, fun h0 => ?_⟩
    ·rw [if_neg hne]; exact ⟨rfl, rfl, rfl, rfl, rfl⟩
    ·rw [if_pos h0]
     have hlen := hinv.2.2 h0
     obtain ⟨x, y, rfl⟩ : ∃ x y, l = [x, y] := by
      match l, hlen.trans hl with
      | [x, y], _ => exact ⟨x, y, rfl⟩
     have := Gw (P := dc p) (F := fuel) (U := (fuel : Int) - (r' : Int)) (N := prepN p m t) (hinv.1 x (by simp)) (hinv.1 y (by simp))
     rw [jG] at this
     exact ⟨x, rfl, y, rfl, this⟩
   ·rw [ch] at n10 n11 n13 n14 n12 n22 n20 n19 n18 n16 n21
    rw [wA (c15 n10 n11 n13 n14 n12 n22 n20 n19 n18 n16 n21)]
    exact ⟨rfl, rfl, rfl, rfl, e1⟩
end Go.Proofs.YthnohcipianijaaGreatDoor
namespace Go.Proofs.YthnohcipianijaaGreatDoor
open Go.RowKit Lx Sx
set_option maxRecDepth 100000
set_option maxHeartbeats 1100000
def rb (b : Bnd) : ah := ⟨b.1, b.2⟩
def ROk (p : List Tree) (g : Nat) : Prop := ∀ (r m : Nat) (t : Tree) (env : List Bnd) (fuel : Nat), r < g → r ≤ fuel → fuel ≤ 16384 → m < p.length → exT t → tbulk t ≤ 1100000 → EOk env →
 S_semvcsref09_machine_eval p fuel ((fuel : Int) - (r : Int)) m t (env.map rb) (evG p g m t env r).1 (evG p g m t env r).2.1 p fuel ((fuel : Int) - ((evG p g m t env r).2.2 : Int))
section
variable {p : List Tree}
theorem Hn {g : Nat} (hb : kbulk p ≤ 1100000) (H : ROk p g) (m : Nat) (t : Tree) (env : List Bnd) (fuel : Nat) (hf : fuel ≤ 16384) (hm : m < p.length) (hx : exT t) (ht : tbulk t ≤ 1100000) (he : EOk env) (r : Nat) (hr : r < g) (hrf : r ≤ fuel) :
  S_semvcsref09_machine_all p fuel ((fuel : Int) - (r : Int)) m t (env.map rb) (evL (fun k r => evG p g m k env r) t.kids r).1 (evL (fun k r => evG p g m k env r) t.kids r).2.1 p fuel ((fuel : Int) - ((evL (fun k r => evG p g m k env r) t.kids r).2.2 : Int)) := by
 have hk := bM t
 have loop : ∀ j i (r : Nat) acc, t.kids.length - i ≤ j → i ≤ t.kids.length → acc.length = i → r < g → r ≤ fuel → cV (j + 1) m t (env.map rb) p fuel ((fuel : Int) - (r : Int)) acc i
   (if (evL (fun k r => evG p g m k env r) (t.kids.drop i) r).2.1 = 0 then acc ++ (evL (fun k r => evG p g m k env r) (t.kids.drop i) r).1 else []) (evL (fun k r => evG p g m k env r) (t.kids.drop i) r).2.1 p fuel ((fuel : Int) - ((evL (fun k r => evG p g m k env r) (t.kids.drop i) r).2.2 : Int)) := fun j => by
  induction j with
  | zero =>
   intro i r acc hi hle hacc hr hrf
   refine ik 0 _ _ _ _ _ _ _ _ _ _ _ _ _ ⟨fun h => by omega, fun h => ?_⟩
   rw [List.drop_of_length_le (by omega), evL]
   exact ⟨by simp, rfl, rfl, rfl, rfl⟩
  | succ j ihj =>
   intro i r acc hi hle hacc hr hrf
   refine ik (j + 1) _ _ _ _ _ _ _ _ _ _ _ _ _ ⟨fun h => ?_, fun h => ?_⟩
   ·obtain ⟨u, hu, hlt⟩ | h' := az t.kids i
    ·obtain ⟨a1, a2, a3, a4⟩ := xr hx hu
     have hbu := bh hu
     have hv := H r m (cv u) env fuel hr hrf hf hm a1 (by omega) he
     have hin := iM hb g r m (cv u) env (by omega) he
     have hv' : S_semvcsref09_machine_eval p fuel ((fuel : Int) - (r : Int)) m u (env.map rb) (evG p g m (cv u) env r).1 (evG p g m (cv u) env r).2.1 p fuel ((fuel : Int) - ((evG p g m (cv u) env r).2.2 : Int)) := by
      by_cases h17 : u.kind = 17
      ·obtain ⟨b1, b2, b3⟩ := uZ hx hu (a4.1 h17)
       have e : cv u = aF u 0 := by rw [cv, if_pos h17]
       rw [e] at hv ⊢
       exact dW 1 _ _ _ _ _ _ _ _ _ _ _ ⟨fun _ => nz 0 _ _ _ _ _ _ _ _ _ _ _ ⟨_, dA (by omega), _, _, _, _, _, hv, rfl, rfl, rfl, rfl, rfl⟩, fun h => absurd h17 h⟩
      ·have e : cv u = u := by rw [cv, if_neg h17]
       rw [e] at hv ⊢
       exact hv
     rw [aQ hu, evL]
     revert hv' hin
     generalize evG p g m (cv u) env r = y
     obtain ⟨d, e, r'⟩ := y
     intro hin hv'
     simp only at hv' hin ⊢
     refine ⟨u, hu, d, e, _, _, _, hv', fun h0 => ?_, fun h0 => ?_⟩
     ·exact ⟨by simp [h0], by simp [h0], rfl, rfl, by simp [h0]⟩
     ·have hrec := ihj (i + 1) r' (acc ++ [d]) (by omega) (by omega) (by simp [hacc]) (by omega) (by omega)
      refine ⟨by simp [hacc]; omega, ?_⟩
      simp only [if_pos h0]
      revert hrec
      generalize evL (fun k r => evG p g m k env r) (t.kids.drop (i + 1)) r' = x
      obtain ⟨l, e', r''⟩ := x
      intro hrec
      simp only at hrec ⊢
      by_cases he' : e' = 0
      ·simp only [if_pos he'] at hrec ⊢
       subst he'
       simpa using hrec
      ·simp only [if_neg he'] at hrec ⊢
       exact hrec
    ·exact absurd h h'
   ·rw [List.drop_of_length_le (by omega), evL]
    exact ⟨by simp, rfl, rfl, rfl, rfl⟩
 refine oe (t.kids.length + 1) _ _ _ _ _ _ _ _ _ _ _ ?_
 have := loop t.kids.length 0 r [] (by omega) (by omega) rfl hr hrf
 rw [List.drop_zero] at this
 have e : (if (evL (fun k r => evG p g m k env r) t.kids r).2.1 = 0 then [] ++ (evL (fun k r => evG p g m k env r) t.kids r).1 else []) = (evL (fun k r => evG p g m k env r) t.kids r).1 := by
  split
  ·rfl
  ·rename_i hne
   refine ((oC (B := 2000000) t.kids r fun k hk' r => ?_).2.2.2 hne).symm
   obtain ⟨i, hi⟩ := List.getElem?_of_mem hk'
   have := bh hi
   have := nQ k
   exact iM hb g r m (cv k) env (by omega) he
 rw [e] at this
 exact this
theorem zF {g : Nat} (H : ROk p g) (i : Nat) (a : Tree) (l : List GDatum) (fuel : Nat) (hf : fuel ≤ 16384) (hi : i < p.length) (ha : a.kids.length = l.length + 2) (hx : exT (aF a (l.length + 1))) (hab : tbulk a ≤ 1100000) (hl : ∀ d, d ∈ l → wD d ≤ 2000000) (r : Nat) (hr : r < g) (hrf : r ≤ fuel) :
  S_semvcsref09_machine_call p fuel ((fuel : Int) - (r : Int)) i a l (evG p g i (aF a (l.length + 1)) (cn a.kids l) r).1 (evG p g i (aF a (l.length + 1)) (cn a.kids l) r).2.1 p fuel ((fuel : Int) - ((evG p g i (aF a (l.length + 1)) (cn a.kids l) r).2.2 : Int)) := by
 have hlen := bM a
 have loop : ∀ j, j ≤ l.length → cH (j + 1) p fuel ((fuel : Int) - (r : Int)) i a l ((cn (a.kids.drop j) (l.drop j)).map rb) ((j : Int) - 1) (evG p g i (aF a (l.length + 1)) (cn a.kids l) r).1 (evG p g i (aF a (l.length + 1)) (cn a.kids l) r).2.1 p fuel ((fuel : Int) - ((evG p g i (aF a (l.length + 1)) (cn a.kids l) r).2.2 : Int)) := fun j => by
  induction j with
  | zero =>
   intro _
   refine ib 0 _ _ _ _ _ _ _ _ _ _ _ _ _ ⟨fun h => by omega, fun h => ⟨by constructor <;> omega, l.length + 1, by omega, _, dA (by omega), _, _, _, _, _, H r i _ _ fuel hr hrf hf hi hx (Nat.le_trans (eX _ _) hab) (ql hl a.kids), rfl, rfl, rfl, rfl, rfl⟩⟩
  | succ j ihj =>
   intro hj
   obtain ⟨u, hu, _⟩ | h' := az a.kids j
   ·obtain ⟨d, hd, _⟩ | h'' := az l j
    ·refine ib (j + 1) _ _ _ _ _ _ _ _ _ _ _ _ _ ⟨fun h => ⟨j, by omega, u, hu, j, by omega, d, hd, by constructor <;> omega, ?_⟩, fun h => by omega⟩
     have := ihj (by omega)
     rw [aQ hu, aQ hd] at this
     rw [show (((j + 1 : Nat) : Int) - 1 - 1) = (j : Int) - 1 by omega]
     simpa [cn, rb] using this
    ·omega
   ·omega
 have := loop l.length (Nat.le_refl _)
 rw [List.drop_of_length_le (Nat.le_refl l.length)] at this
 refine ir (l.length + 1) _ _ _ _ _ _ _ _ _ _ _ ⟨fun h => by omega, fun h => ⟨by constructor <;> omega, ?_⟩⟩
 rw [show ((a.kids.length : Int) - 2 - 1) = (l.length : Int) - 1 by omega]
 simpa [cn] using this
end
theorem uR (b : Bool) : eg b (dB b) := rR 0 _ _ ⟨fun h => by rw [h]; rfl, fun h => by rw [h]; rfl⟩
theorem vp {op : List UInt8} {x y : GDatum} (b1 b2 : Bool) (hx : wD x ≤ 2000000) (hy : wD y ≤ 2000000) (h61 : ¬ op = [61, 61]) (hop : op = [43] ∨ op = [45] ∨ op = [42] ∨ op = [60] ∨ op = [61, 61]) (hb : b2 = true ↔ (op = [43] ∧ x.Kind = 2 ∧ y.Kind = 2)) (hc : b1 = true ↔ (x.Kind = 1 ∧ y.Kind = 1)) :
  L1_semvcsref09_bin 1 op x y b1 b2 (bY op x y).1 (bY op x y).2 := by
 have h1 := Al hx
 have h2 := Al hy
 have hw : wD ⟨2, 0, x.S ++ y.S, []⟩ = 1 + (x.S.length + y.S.length) := by simp [wD, wDs]
 have hm : mD ⟨2, 0, x.S ++ y.S, []⟩ = x.S.length + y.S.length := by simp [mD, mDs]
 refine rY 0 _ _ _ _ _ _ _ ⟨fun ht => ⟨by omega, _, sh _ (by omega), fun h => ?_, fun h => ?_⟩, fun hf => ?_⟩
 ·have e : bY op x y = (GD0, 3) := by rw [bY, if_neg h61, if_pos (hb.1 ht), if_pos (by omega)]
  rw [e]; exact ⟨rfl, rfl⟩
 ·have e : bY op x y = (⟨2, 0, x.S ++ y.S, []⟩, 0) := by rw [bY, if_neg h61, if_pos (hb.1 ht), if_neg (by omega)]
  rw [e]; exact ⟨rfl, rfl⟩
 ·have hn : ¬ (op = [43] ∧ x.Kind = 2 ∧ y.Kind = 2) := fun h => by rw [hb.2 h] at hf; cases hf
  have e : bY op x y = (if ¬ (x.Kind = 1 ∧ y.Kind = 1) then (GD0, 20) else if op = [43] then (dI (IntKind.i64.wrap (x.N + y.N)), 0) else if op = [45] then (dI (IntKind.i64.wrap (x.N - y.N)), 0) else if op = [42] then (dI (IntKind.i64.wrap (x.N * y.N)), 0) else (dB (decide (x.N < y.N)), 0)) := by rw [bY, if_neg h61, if_neg hn]
  rw [e]
  refine ⟨fun k => ?_, fun k => ⟨fun q => ?_, fun q => ⟨fun q2 => ?_, fun q2 => ⟨fun q3 => ?_, fun q3 => ?_⟩⟩⟩⟩
  ·rw [if_pos (fun h => by rw [hc.2 h] at k; cases k)]; exact ⟨rfl, rfl⟩
  ·subst q
   rw [if_neg (fun h => h (hc.1 k)), if_neg (by decide), if_neg (by decide), if_neg (by decide)]; exact ⟨_, uR _, rfl, rfl⟩
  ·rw [if_neg (fun h => h (hc.1 k)), if_pos q2]; exact ⟨rfl, rfl⟩
  ·rw [if_neg (fun h => h (hc.1 k)), if_neg q2, if_pos q3]; exact ⟨rfl, rfl⟩
  ·have q4 : op = [42] := by
    rcases hop with h | h | h | h | h
    ·exact absurd h q2
    ·exact absurd h q3
    ·exact h
    ·exact absurd h q
    ·exact absurd h h61
   rw [if_neg (fun h => h (hc.1 k)), if_neg q2, if_neg q3, if_pos q4]; exact ⟨rfl, rfl⟩
theorem Hs {op : List UInt8} {x y : GDatum} (hx : wD x ≤ 2000000) (hy : wD y ≤ 2000000) (hop : op = [43] ∨ op = [45] ∨ op = [42] ∨ op = [60] ∨ op = [61, 61]) : ke op x y (bY op x y).1 (bY op x y).2 := by
 have l0 : ∀ b1 : Bool, (b1 = true ↔ (x.Kind = 1 ∧ y.Kind = 1)) → fY 2 op x y b1 (bY op x y).1 (bY op x y).2 := fun b1 hc => by
  refine rQ 1 _ _ _ _ _ _ ⟨fun h => ⟨fun k => ?_, fun k => ?_⟩, fun h => ⟨fun k => ⟨fun q => ?_, fun q => ?_⟩, fun k => ?_⟩⟩
  ·have e : bY op x y = (GD0, 20) := by rw [bY, if_pos h, if_neg k]
   rw [e]; exact ⟨rfl, rfl⟩
  ·have e : bY op x y = (dB (sameD x y), 0) := by rw [bY, if_pos h, if_pos k]
   rw [e]; exact ⟨_, zj x (by have := uo x; omega) y, _, uR _, rfl, rfl⟩
  ·exact vp _ _ hx hy h hop (by simp [k, q]) hc
  ·exact vp _ _ hx hy h hop (by simp [q]) hc
  ·exact vp _ _ hx hy h hop (by simp [k]) hc
 exact se 2 _ _ _ _ _ ⟨fun h => l0 _ (by simp [h]), fun h => l0 _ (by simp [h])⟩
theorem uB {P : List Tree} {F U : Int} {N : Tree} (k : Nat) : ∀ (env : List Bnd), cG (env.length + k + 1) P F U N (env.map rb) ((iP env N.text).getD GD0) (if (iP env N.text).isSome = true then 0 else 7) P F (U + 1)
 | [] => hU _ _ _ _ _ _ _ _ _ _ _ ⟨fun _ => ⟨rfl, rfl, rfl, rfl, rfl⟩, fun x l h => by cases h⟩
 | b :: r => by
  rw [show (b :: r).length + k + 1 = (r.length + k + 1) + 1 by simp only [List.length_cons]; omega]
  refine hU (r.length + k + 1) _ _ _ _ _ _ _ _ _ _ ⟨fun h => (by cases h), fun x l h => ?_⟩
  simp only [List.map_cons, List.cons.injEq] at h
  obtain ⟨rfl, rfl⟩ := h
  refine ⟨fun h => ?_, fun h => ?_⟩
  ·have h' : b.1 = N.text := h
   rw [iP, if_pos h']; exact ⟨rfl, rfl, rfl, rfl, rfl⟩
  ·have h' : ¬ b.1 = N.text := h
   rw [iP, if_neg h']; exact uB k r
theorem Ft {p : List Tree} (hp : cU p = true) (hb : kbulk p ≤ 1100000) : ∀ g, ROk p g := fun g => by
 induction g with
 | zero => intro r m t env fuel hr; omega
 | succ g ih =>
  intro r m t env fuel hr hrf hf hm hx ht he
  have hkb : ∀ i, tbulk (aF t i) ≤ 1100000 := fun i => Nat.le_trans (eX t i) ht
  have h10 : 10 ≤ t.kind ∧ t.kind ≤ 22 ∧ t.kind ≠ 17 := by simpa [fx] using hx.2
  cases r with
  | zero =>
   rw [An]
   exact dW 20 _ _ _ _ _ _ _ _ _ _ _ ⟨fun h => absurd h h10.2.2, fun _ => ⟨fun _ => ⟨rfl, rfl, rfl, rfl, rfl⟩, fun h => absurd (by omega) h⟩⟩
  | succ r =>
   have e1 : (fuel : Int) - ((r + 1 : Nat) : Int) + 1 = (fuel : Int) - (r : Int) := by omega
   obtain ⟨hl22, hl20, hl19, hl21⟩ := yY hx
   obtain ⟨hw10, hw11, hw16, hw21⟩ := yu hx
   have kid : ∀ i, i < t.kids.length → t.kind ≠ 16 → exT (aF t i) ∧ t.kids[i]? = some (aF t i) := fun i hi h16 => ⟨(vg hx (dA hi) h16).1, dA hi⟩
   have hall := Hn hb ih m t env fuel hf hm hx ht he r (by omega) (by omega)
   have hinv : (∀ d, d ∈ (evL (fun k r => evG p g m k env r) t.kids r).1 → wD d ≤ 2000000) ∧ (evL (fun k r => evG p g m k env r) t.kids r).2.2 ≤ r ∧ ((evL (fun k r => evG p g m k env r) t.kids r).2.1 = 0 → (evL (fun k r => evG p g m k env r) t.kids r).1.length = t.kids.length) := by
    have := oC (f := fun k r => evG p g m k env r) (B := 2000000) t.kids r fun k hk' r => by
     obtain ⟨i, hi⟩ := List.getElem?_of_mem hk'
     have := bh hi
     have := nQ k
     exact iM hb g r m (cv k) env (by omega) he
    exact ⟨this.1, this.2.1, this.2.2.1⟩
   have htl := bX t
   have hkl := bM t
   refine dW (env.length + 30) _ _ _ _ _ _ _ _ _ _ _ ⟨fun h => absurd h h10.2.2, fun _ => ⟨fun h => by omega, fun _ => ⟨by constructor <;> omega, fun h10 => ?_, fun n10 => nd (env.length + 29) _ _ _ _ _ _ _ _ _ _ _ ⟨fun h11 => ?_, fun n11 => nq (env.length + 28) _ _ _ _ _ _ _ _ _ _ _ ⟨fun h13 => gE (env.length + 27) _ _ _ _ _ _ _ _ _ _ _ _ ⟨fun _ => ?_, fun h => by cases h⟩, fun n13 => gE (env.length + 27) _ _ _ _ _ _ _ _ _ _ _ _ ⟨fun h14 => ?_, fun n14 => nl (env.length + 26) _ _ _ _ _ _ _ _ _ _ _ ⟨fun h22 => ?_, fun n22 => np (env.length + 25) _ _ _ _ _ _ _ _ _ _ _ ⟨fun h12 => ?_, fun n12 => nC (env.length + 24) _ _ _ _ _ _ _ _ _ _ _ ⟨fun h20 => ?_, fun n20 => mL (env.length + 23) _ _ _ _ _ _ _ _ _ _ _ ⟨fun h19 => ?_, fun n19 => mP (env.length + 22) _ _ _ _ _ _ _ _ _ _ _ ⟨fun h18 => ?_, fun n18 => mI (env.length + 21) _ _ _ _ _ _ _ _ _ _ _ ⟨fun h16 => ?_, fun n16 => mN (env.length + 20) _ _ _ _ _ _ _ _ _ _ _ ⟨fun h21 => ?_, fun n21 => ?_⟩⟩⟩⟩⟩⟩⟩⟩⟩⟩⟩⟩⟩
   ·rw [ws h10]
    exact ⟨_, BU (hw10 h10), rfl, rfl, rfl, rfl, e1⟩
   ·have h2 := GM (hw11 h11)
    rw [wn h11]
    exact ⟨by constructor <;> omega, t.text.length - 1, by omega, by omega, by omega, rfl, rfl, rfl, rfl, e1⟩
   ·rw [wv h13]
    have e : (t.kind == 13) = true := by simp [h13]
    exact ⟨_, uR _, by rw [e], rfl, rfl, rfl, e1⟩
   ·have h14' : t.kind = 14 := by simpa using h14
    rw [wz h14']
    have e : (t.kind == 13) = false := by simp [h14']
    exact ⟨_, uR _, by rw [e], rfl, rfl, rfl, e1⟩
   ·rw [wI h22]
    obtain ⟨k1, k2⟩ := kid 0 (by have := hl22 h22; omega) (by omega)
    have hv := ih r m (aF t 0) env fuel (by omega) (by omega) hf hm k1 (hkb 0) he
    exact nu _ _ _ _ _ _ _ _ _ _ _ _ ⟨_, k2, _, _, _, _, _, by rw [e1]; exact hv, rfl, rfl, rfl, rfl, rfl⟩
   ·have h6 := uB (P := p) (F := fuel) (U := (fuel : Int) - ((r + 1 : Nat) : Int)) (N := t) 24 env
    rw [wm h12]
    rw [e1] at h6
    cases hE : iP env t.text with
    | none => rw [hE] at h6; exact h6
    | some d => rw [hE] at h6; exact h6
   ·rw [wq h20]
    have hl := hl20 h20
    obtain ⟨k1, k2⟩ := kid 0 (by omega) (by omega)
    obtain ⟨k3, k4⟩ := kid 1 (by omega) (by omega)
    have hv := ih r m (aF t 0) env fuel (by omega) (by omega) hf hm k1 (hkb 0) he
    have hi := iM hb g r m (aF t 0) env (hkb 0) he
    revert hv hi
    generalize evG p g m (aF t 0) env r = x
    obtain ⟨d, e, r'⟩ := x
    intro hv hi
    simp only at hv hi ⊢
    refine nc _ _ _ _ _ _ _ _ _ _ _ _ ⟨_, k2, d, e, _, _, _, by rw [e1]; exact hv, fun hne => ?_, fun h0 => ?_⟩
    ·rw [if_neg hne]; exact ⟨rfl, rfl, rfl, rfl, rfl⟩
    ·rw [if_pos h0]
     have hv1 := ih r' m (aF t 1) ((t.text, d) :: env) fuel (by omega) (by omega) hf hm k3 (hkb 1) (fun b hb => by
      rcases List.mem_cons.1 hb with rfl | hb
      ·exact hi.1
      ·exact he b hb)
     exact ⟨_, k4, _, _, _, _, _, hv1, rfl, rfl, rfl, rfl, rfl⟩
   ·rw [wt h19]
    have hl := hl19 h19
    obtain ⟨k1, k2⟩ := kid 0 (by omega) (by omega)
    obtain ⟨k3, k4⟩ := kid 1 (by omega) (by omega)
    obtain ⟨k5, k6⟩ := kid 2 (by omega) (by omega)
    have hv := ih r m (aF t 0) env fuel (by omega) (by omega) hf hm k1 (hkb 0) he
    have hi := iM hb g r m (aF t 0) env (hkb 0) he
    revert hv hi
    generalize evG p g m (aF t 0) env r = x
    obtain ⟨d, e, r'⟩ := x
    intro hv hi
    simp only at hv hi ⊢
    refine mO (env.length + 22) _ _ _ _ _ _ _ _ _ _ _ ⟨_, k2, d, e, _, _, _, by rw [e1]; exact hv, fun hne => ?_, fun h0 => mJ (env.length + 21) _ _ _ _ _ _ _ _ _ _ _ _ ⟨fun q => ?_, fun q => mM (env.length + 20) _ _ _ _ _ _ _ _ _ _ _ _ ⟨fun q1 => mH (env.length + 19) _ _ _ _ _ _ _ _ _ _ _ ?_, fun q1 => ?_⟩⟩⟩
    ·rw [if_neg hne]; exact ⟨rfl, rfl, rfl, rfl, rfl⟩
    ·rw [if_pos h0, if_neg q]; exact ⟨rfl, rfl, rfl, rfl, rfl⟩
    ·rw [if_pos h0, if_pos q, if_pos q1]
     have hv1 := ih r' m (aF t 1) env fuel (by omega) (by omega) hf hm k3 (hkb 1) he
     exact ⟨_, k4, _, _, _, _, _, hv1, rfl, rfl, rfl, rfl, rfl⟩
    ·rw [if_pos h0, if_pos q, if_neg q1]
     have hv1 := ih r' m (aF t 2) env fuel (by omega) (by omega) hf hm k5 (hkb 2) he
     exact ⟨_, k6, _, _, _, _, _, hv1, rfl, rfl, rfl, rfl, rfl⟩
   ·rw [wu h18]
    revert hall hinv
    generalize evL (fun k r => evG p g m k env r) t.kids r = x
    obtain ⟨l, e, r'⟩ := x
    intro hall hinv
    simp only at hall hinv ⊢
    have hw : wD ⟨4, 0, [], l⟩ = 1 + wDs l := by simp [wD]
    refine mG _ _ _ _ _ _ _ _ _ _ _ _ ⟨l, e, _, _, _, by rw [e1]; exact hall, fun hne => ?_, fun h0 => ?_⟩
    ·rw [if_neg hne]; exact ⟨rfl, rfl, rfl, rfl, rfl⟩
    ·have hlen := hinv.2.2 h0
     have hbd := zo l hinv.1
     have hmul : l.length * 2000000 ≤ 1100000 * 2000000 := Nat.mul_le_mul_right _ (by omega)
     have hmd := Is ⟨4, 0, [], l⟩
     refine ⟨_, sh _ (by omega), fun q => ?_, fun q => ?_⟩
     ·rw [if_pos h0, if_pos (by omega)]; exact ⟨rfl, rfl, rfl, rfl, rfl⟩
     ·rw [if_pos h0, if_neg (by omega)]; exact ⟨rfl, rfl, rfl, rfl, rfl⟩
   ·rw [wH h16]
    revert hall hinv
    generalize evL (fun k r => evG p g m k env r) t.kids r = x
    obtain ⟨l, e, r'⟩ := x
    intro hall hinv
    simp only at hall hinv ⊢
    refine mQ _ _ _ _ _ _ _ _ _ _ _ _ ⟨l, e, _, _, _, by rw [e1]; exact hall, fun hne => ?_, fun h0 => ⟨_, _, _, Gs (by omega) (by omega) (by omega) (by omega), fun q => ?_, fun q => ?_⟩⟩
    ·rw [if_neg hne]; exact ⟨rfl, rfl, rfl, rfl, rfl⟩
    ·have q' : ¬ (aP p m t.text).2.2 = true := by rw [q]; decide
     rw [if_pos h0, if_neg q']; exact ⟨rfl, rfl, rfl, rfl, rfl⟩
    ·obtain ⟨i, dd, tt, a, g1, g2, g3, g4⟩ := zD q
     have hd : ew p (aP p m t.text).1 (aP p m t.text).2.1 = a := by
      rw [g1, g2]
      unfold ew aF
      rw [Int.toNat_natCast, eW g3, Int.toNat_natCast, eW g4]
     rw [if_pos h0, if_pos q, hd, g1, g2]
     have hpos : i < p.length := (List.getElem?_eq_some_iff.1 g3).1
     have hab : tbulk a ≤ 1100000 := Nat.le_trans (Nat.le_of_lt (by have := bh g4; omega)) (Nat.le_trans (cd g3) hb)
     have hlen := hinv.2.2 h0
     refine ⟨i, rfl, tt, g3, dd, rfl, a, g4, ?_⟩
     by_cases z : a.kids.length = l.length + 2
     ·rw [if_pos z]
      obtain ⟨_, hbx⟩ := rG hp g3 g4 z
      exact ⟨_, _, _, _, _, zF ih i a l fuel hf hpos z hbx hab hinv.1 r' (by omega) (by omega), rfl, rfl, rfl, rfl, rfl⟩
     ·rw [if_neg z]
      exact ⟨_, _, _, _, _, ir 1 _ _ _ _ _ _ _ _ _ _ _ ⟨fun _ => ⟨rfl, rfl, rfl, rfl, rfl⟩, fun h => absurd h (by omega)⟩, rfl, rfl, rfl, rfl, rfl⟩
   ·rw [wF h21]
    have hl := hl21 h21
    revert hall hinv
    generalize evL (fun k r => evG p g m k env r) t.kids r = x
    obtain ⟨l, e, r'⟩ := x
    intro hall hinv
    simp only at hall hinv ⊢
    refine mK _ _ _ _ _ _ _ _ _ _ _ _ ⟨l, e, _, _, _, by rw [e1]; exact hall, fun hne => ?_, fun h0 => ?_⟩
    ·rw [if_neg hne]; exact ⟨rfl, rfl, rfl, rfl, rfl⟩
    ·rw [if_pos h0]
     have hlen := hinv.2.2 h0
     obtain ⟨x, y, rfl⟩ : ∃ x y, l = [x, y] := by
      match l, hlen.trans hl with
      | [x, y], _ => exact ⟨x, y, rfl⟩
     exact ⟨x, rfl, y, rfl, _, _, Hs (hinv.1 x (by simp)) (hinv.1 y (by simp)) (hw21 h21), rfl, rfl, rfl, rfl, rfl⟩
   ·have n14' : ¬ t.kind = 14 := by simpa using n14
    rw [wA (by omega)]
    exact ⟨rfl, rfl, rfl, rfl, e1⟩
end Go.Proofs.YthnohcipianijaaGreatDoor
namespace Go.Proofs.YthnohcipianijaaGreatDoor
open Go.RowKit Lx Sx
set_option maxRecDepth 100000
set_option maxHeartbeats 1100000
theorem CM (op : List UInt8) (a b : GDatum) : ¬ (bY op a b).2 = 0 → (bY op a b).1 = GD0 := by
 unfold bY
 repeat' split
 all_goals intro h
 all_goals first | rfl | exact absurd rfl h
theorem Hm {p : List Tree} : ∀ (g r : Nat) (m : Int) (t : Tree) (env : List Bnd), ¬ (evG p g m t env r).2.1 = 0 → (evG p g m t env r).1 = GD0 := fun g => by
 induction g with
 | zero => intro r m t env _; rw [evG]
 | succ g ih =>
  intro r m t env
  cases r with
  | zero => rw [An]; intro _; rfl
  | succ r =>
   rcases kinds t.kind with h | h | h | h | h | h | h | h | h | h | h | h | h
   ·rw [ws h]; exact fun h => absurd rfl h
   ·rw [wn h]; exact fun h => absurd rfl h
   ·rw [wm h]
    cases iP env t.text with
    | none => intro _; rfl
    | some d => exact fun h => absurd rfl h
   ·rw [wv h]; exact fun h => absurd rfl h
   ·rw [wz h]; exact fun h => absurd rfl h
   ·rw [wA h]; intro _; rfl
   ·rw [wH h]
    generalize evL (fun k r => evG p g m k env r) t.kids r = x
    obtain ⟨l, e, r'⟩ := x
    simp only
    split
    ·split
     ·split
      ·exact ih _ _ _ _
      ·intro _; rfl
     ·intro _; rfl
    ·intro _; rfl
   ·rw [wu h]
    generalize evL (fun k r => evG p g m k env r) t.kids r = x
    obtain ⟨l, e, r'⟩ := x
    simp only
    split
    ·split
     ·intro _; rfl
     ·exact fun h => absurd rfl h
    ·intro _; rfl
   ·rw [wt h]
    generalize evG p g m (aF t 0) env r = x
    obtain ⟨d, e, r'⟩ := x
    simp only
    split
    ·split
     ·split
      ·exact ih _ _ _ _
      ·exact ih _ _ _ _
     ·intro _; rfl
    ·intro _; rfl
   ·rw [wq h]
    generalize evG p g m (aF t 0) env r = x
    obtain ⟨d, e, r'⟩ := x
    simp only
    split
    ·exact ih _ _ _ _
    ·intro _; rfl
   ·rw [wF h]
    generalize evL (fun k r => evG p g m k env r) t.kids r = x
    obtain ⟨l, e, r'⟩ := x
    simp only
    split
    ·exact CM _ _ _
    ·intro _; rfl
   ·rw [wI h]; exact ih _ _ _ _
   ·rw [Er h]; intro _; rfl
def rF (p : List Tree) (m d : Int) (n : Nat) : Bool := decide (0 ≤ m ∧ m < p.length ∧ 0 ≤ d ∧ d < (p.getD m.toNat (.node 0 [] [] [])).kids.length) && (ew p m d).kind == 2 && decide ((ew p m d).kids.length = n + 2)
def lR (p : List Tree) (m d : Int) (n : Nat) : Bool := cU p && rF p m d n
theorem tJ {p : List Tree} {i k : Nat} {t a : Tree} (hi : p[i]? = some t) (hk : t.kids[k]? = some a) (n : Nat) : rF p i k n = (a.kind == 2 && decide (a.kids.length = n + 2)) ∧ ew p i k = a := by
 have h1 := (List.getElem?_eq_some_iff.1 hi).1
 have h2 := (List.getElem?_eq_some_iff.1 hk).1
 have hd : ew p i k = a := by
  unfold ew aF
  rw [Int.toNat_natCast, eW hi, Int.toNat_natCast, eW hk]
 refine ⟨?_, hd⟩
 rw [rF, hd, Int.toNat_natCast, eW hi, decide_eq_true (show 0 ≤ (i : Int) ∧ (i : Int) < p.length ∧ 0 ≤ (k : Int) ∧ (k : Int) < t.kids.length by omega), Bool.true_and]
theorem oN {p : List Tree} {m d : Int} {n : Nat} (h : ¬ (0 ≤ m ∧ m < p.length ∧ 0 ≤ d ∧ d < (p.getD m.toNat (.node 0 [] [] [])).kids.length)) : rF p m d n = false := by rw [rF, decide_eq_false h, Bool.false_and, Bool.false_and]
theorem lK {m : Int} (h : ¬ m < 0) : ∃ i : Nat, m = i := ⟨m.toNat, by omega⟩
theorem uF (p : List Tree) (hb : kbulk p ≤ 1000000000) (m d : Int) (n : Nat) (hn : n ≤ 1000000000) : lM p m d n (lR p m d n) := by
 have hl := dZ p
 have fin : ∀ i j, ¬ i < p.length → fb (j + 1) p m d n i (rF p m d n) := fun i j hi => by
  refine ot j _ _ _ _ _ _ ⟨fun h => absurd h hi, fun _ => ⟨fun h => ?_, fun h => ⟨fun h1 => ?_, fun h1 => ⟨fun h2 => ?_, fun h2 => ?_⟩⟩⟩⟩
  ·rw [oN (by omega)]
  ·rw [oN (by omega)]
  ·rw [oN (by omega)]
  ·obtain ⟨a, rfl⟩ := lK h
   obtain ⟨b, rfl⟩ := lK h2
   obtain ⟨t, ht, _⟩ | h' := az p a
   ·refine ⟨a, rfl, t, ht, fun h3 => ?_, fun h3 => ?_⟩
    ·rw [oN (by rw [Int.toNat_natCast, eW ht]; omega)]
    ·obtain ⟨u, hu, _⟩ | h'' := az t.kids b
     ·obtain ⟨e, _⟩ := tJ ht hu n
      refine ⟨a, rfl, t, ht, b, rfl, u, hu, fun hk => ⟨by constructor <;> omega, ?_⟩, fun hk => ?_⟩
      ·rw [e, hk]
       by_cases hz : u.kids.length = n + 2
       ·rw [decide_eq_true hz]; simp [hz]
       ·rw [decide_eq_false hz]; simp; omega
      ·rw [e]; simp [hk]
     ·omega
   ·omega
 have loop : ∀ j i, p.length - i ≤ j → fb (j + 1) p m d n i (cU (p.drop i) && rF p m d n) := fun j => by
  induction j with
  | zero =>
   intro i hi
   rw [List.drop_of_length_le (by omega), cU, Bool.true_and]
   exact fin i 0 (by omega)
  | succ j ihj =>
   intro i hi
   obtain ⟨t, ht, hlt⟩ | h' := az p i
   ·have hbt := cd ht
    rw [aQ ht, cU]
    refine ot (j + 1) _ _ _ _ _ _ ⟨fun _ => ⟨t, ht, fun hk => by simp [hk], fun hk => ⟨_, wZ t (by omega), fun hs => by simp [hs], fun hs => ⟨by omega, ?_⟩⟩⟩, fun h => absurd hlt h⟩
    have := ihj (i + 1) (by omega)
    simpa [hk, hs] using this
   ·rw [List.drop_of_length_le (by omega), cU, Bool.true_and]
    exact fin i (j + 1) h'
 exact tY _ _ _ _ _ _ (loop p.length 0 (by omega))
def bL (p : List Tree) (m d : Int) (l : List GDatum) (fuel : Int) : GDatum × Int × Int :=
 if lR p m d l.length = true ∧ 0 ≤ fuel ∧ fuel ≤ 16384 ∧ l.all dL = true then
  ((evG p 16385 m (aF (ew p m d) (l.length + 1)) (cn (ew p m d).kids l) fuel.toNat).1, fuel - ((evG p 16385 m (aF (ew p m d) (l.length + 1)) (cn (ew p m d).kids l) fuel.toNat).2.2 : Int), (evG p 16385 m (aF (ew p m d) (l.length + 1)) (cn (ew p m d).kids l) fuel.toNat).2.1)
 else (GD0, 0, 5)
theorem sO {p : List Tree} {m d : Int} {l : List GDatum} {fuel : Int} (h : ¬ (lR p m d l.length = true ∧ 0 ≤ fuel ∧ fuel ≤ 16384 ∧ l.all dL = true)) : bL p m d l fuel = (GD0, 0, 5) := by rw [bL, if_neg h]
theorem no {p : List Tree} {m d : Int} {n : Nat} (h : lR p m d n = true) : cU p = true ∧ ∃ (i k : Nat) (t a : Tree), m = i ∧ d = k ∧ p[i]? = some t ∧ t.kids[k]? = some a ∧ a.kind = 2 ∧ a.kids.length = n + 2 ∧ ew p m d = a := by
 simp only [lR, Bool.and_eq_true] at h
 refine ⟨h.1, ?_⟩
 have hr := h.2
 by_cases hc : 0 ≤ m ∧ m < p.length ∧ 0 ≤ d ∧ d < (p.getD m.toNat (.node 0 [] [] [])).kids.length
 ·obtain ⟨i, rfl⟩ := lK (m := m) (by omega)
  obtain ⟨k, rfl⟩ := lK (m := d) (by omega)
  obtain ⟨t, ht, _⟩ | h' := az p i
  ·rw [Int.toNat_natCast, eW ht] at hc
   obtain ⟨a, ha, _⟩ | h'' := az t.kids k
   ·obtain ⟨e, e2⟩ := tJ ht ha n
    rw [e] at hr
    simp only [Bool.and_eq_true, beq_iff_eq, decide_eq_true_eq] at hr
    exact ⟨i, k, t, a, rfl, rfl, ht, ha, hr.1, hr.2, e2⟩
   ·omega
  ·omega
 ·rw [oN hc] at hr; cases hr
theorem uy {l : List GDatum} (h : l.all dL = true) : ∀ d, d ∈ l → wD d ≤ 2000000 := fun d hd => by
 have := List.all_eq_true.1 h d hd
 simp only [dL, Bool.and_eq_true, decide_eq_true_eq] at this
 omega
theorem zK {p : List Tree} (hb : kbulk p ≤ 1100000) (m d : Int) (l : List GDatum) (fuel : Int) : wD (bL p m d l fuel).1 ≤ 2000000 := by
 by_cases h : lR p m d l.length = true ∧ 0 ≤ fuel ∧ fuel ≤ 16384 ∧ l.all dL = true
 ·rw [bL, if_pos h]
  exact (iM hb 16385 fuel.toNat m _ _ (Nat.le_trans (eX _ _) (vE hb (by omega) _ _)) (ql (uy h.2.2.2) _)).1
 ·rw [sO h]; exact dx
theorem vO (p : List Tree) : ∀ (l : List Tree) (i : Nat), (qT p i l).length = l.length
 | [], i => rfl
 | t :: r, i => by simp [qT, vO p r (i + 1)]
theorem rh (p : List Tree) : (dc p).length = p.length := vO p p 0
theorem zW {p : List Tree} (hb : kbulk p ≤ 1100000) (m d : Int) (l : List GDatum) (hl : l.length ≤ 1000000000) (fuel : Int) : lF p m d l fuel (bL p m d l fuel).1 (bL p m d l fuel).2.1 (bL p m d l fuel).2.2 := by
 have hlp := dZ p
 by_cases hc : lR p m d l.length = true ∧ 0 ≤ fuel ∧ fuel ≤ 16384
 ·obtain ⟨hp, i, k, t, a, rfl, rfl, ht, ha, ha2, han, hd⟩ := no hc.1
  obtain ⟨F, rfl⟩ := lK (m := fuel) (by omega)
  have hF : F ≤ 16384 := by omega
  have hpos := (List.getElem?_eq_some_iff.1 ht).1
  have hab : tbulk a ≤ 1100000 := Nat.le_trans (Nat.le_of_lt (by have := bh ha; omega)) (Nat.le_trans (cd ht) hb)
  -- the end
  have fin : l.all dL = true → ∀ j s acc q, p.length - s ≤ j → s ≤ p.length → q = ou p s (p.drop s) → acc = (dc p).take s → kA (2 * j + 1) p i k l F q acc s (bL p i k l F).1 (bL p i k l F).2.1 (bL p i k l F).2.2 := fun hall j => by
   have last : ∀ (j' s : Nat) (acc : List ac) (q : List GTarget), ¬ s < p.length → acc = dc p → kA (j' + 1) p i k l F q acc s (bL p i k l F).1 (bL p i k l F).2.1 (bL p i k l F).2.2 := fun j' s acc q hs hacc => by
    subst hacc
    have hrun : bL p i k l F = ((evG p 16385 i (aF a (l.length + 1)) (cn a.kids l) F).1, (F : Int) - ((evG p 16385 i (aF a (l.length + 1)) (cn a.kids l) F).2.2 : Int), (evG p 16385 i (aF a (l.length + 1)) (cn a.kids l) F).2.1) := by
     rw [bL, if_pos ⟨hc.1, hc.2.1, hc.2.2, hall⟩, hd, Int.toNat_natCast]
    rw [hrun]
    obtain ⟨_, hbx⟩ := rG hp ht ha han
    have hen := ze (Fw hp hb 16385) i a l F hF hpos han hbx hab (uy hall) F (by omega) (Nat.le_refl _)
    rw [show ((F : Int) - (F : Int)) = 0 by omega] at hen
    have hinv := iM hb 16385 F i (aF a (l.length + 1)) (cn a.kids l) (Nat.le_trans (eX _ _) hab) (ql (uy hall) _)
    refine sm j' _ _ _ _ _ _ _ _ _ _ _ ⟨fun h => absurd h hs, fun _ => ⟨i, rfl, _, qR ht, k, rfl, _, jj ha, _, _, _, _, _, hen, fun hne => ⟨(Hm 16385 F i _ _ hne).symm, rfl, rfl⟩, fun h0 => ⟨_, DP _ (by omega), rfl, rfl, h0.symm⟩⟩⟩
   induction j with
   | zero =>
    intro s acc q hj hs hq hacc
    exact last 0 s acc q (by omega) (by rw [hacc, List.take_of_length_le (by rw [rh]; omega)])
   | succ j ihj =>
    intro s acc q hj hs hq hacc
    obtain ⟨u, hu, hlt⟩ | h' := az p s
    ·have hbu := cd hu
     have hu2 := qR hu
     have hal : acc.length = s := by rw [hacc, List.length_take, rh]; omega
     rw [hq, aQ hu, ou]
     have hset : ((acc ++ [ac.mk 0 0 0 false [] []]).set acc.length (prepN p s u)) = (dc p).take (s + 1) := by
      rw [List.take_add_one, hu2, ← hacc]; simp
     refine sm (2 * j + 2) _ _ _ _ _ _ _ _ _ _ _ ⟨fun _ => ⟨u, hu, _, _, Bg u (by omega) [] _, by simp [hal]; omega, _, by simp; rfl, yt (2 * j + 1) _ _ _ _ _ _ _ _ _ _ _ ⟨by omega, ?_⟩⟩, fun h => absurd hlt h⟩
     rw [hset]
     exact ihj (s + 1) _ _ (by omega) (by omega) rfl rfl
    ·exact last _ s acc q h' (by rw [hacc, List.take_of_length_le (by rw [rh]; omega)])
  have loop : ∀ j s, l.length - s ≤ j → ((l.take s).all dL = true) → km (j + 2 * p.length + 2) p i k l F s (bL p i k l F).1 (bL p i k l F).2.1 (bL p i k l F).2.2 := fun j => by
   have last : ∀ (j' s : Nat), ¬ s < l.length → l.all dL = true → km (j' + 2 * p.length + 2) p i k l F s (bL p i k l F).1 (bL p i k l F).2.1 (bL p i k l F).2.2 := fun j' s hs hall => by
    refine sf (j' + 2 * p.length + 1) _ _ _ _ _ _ _ _ _ ⟨fun h => absurd h hs, fun _ => ⟨_, Cr p (by omega), ?_⟩⟩
    have htk : na p = ou p 0 (p.drop 0) := by rw [na, if_pos hp, List.drop_zero]
    have := fin hall (p.length) 0 [] (na p) (by omega) (by omega) htk (by simp)
    rw [show j' + 2 * p.length + 1 = (2 * p.length + 1) + j' by omega]
    exact fun K j1 hK h1 => this K j1 hK (by omega)
   induction j with
   | zero =>
    intro s hj hv
    rw [List.take_of_length_le (by omega)] at hv
    exact last 0 s (by omega) hv
   | succ j ihj =>
    intro s hj hv
    obtain ⟨x, hx, hlt⟩ | h' := az l s
    ·rw [show j + 1 + 2 * p.length + 2 = (j + 2 * p.length + 2) + 1 by omega]
     refine sf (j + 2 * p.length + 2) _ _ _ _ _ _ _ _ _ ⟨fun _ => ⟨x, hx, _, zp x, fun hf => ?_, fun hv2 => ⟨by omega, ihj (s + 1) (by omega) ?_⟩⟩, fun h => absurd hlt h⟩
     ·rw [sO (fun hh => by
       have := List.all_eq_true.1 hh.2.2.2 x (List.mem_of_getElem? hx)
       rw [this] at hf; cases hf)]
      exact ⟨rfl, rfl, rfl⟩
     ·rw [List.take_add_one, hx, List.all_append, hv]; simp [hv2]
    ·rw [List.take_of_length_le (by omega)] at hv
     exact last _ s h' hv
  refine tk (l.length + 2 * p.length + 2) _ _ _ _ _ _ _ _ ⟨_, uF p (by omega) _ _ _ hl, fun h => ?_, fun _ => ⟨fun h => by omega, fun _ => ⟨fun h => by omega, fun _ => loop l.length 0 (by omega) (by simp)⟩⟩⟩
  rw [hc.1] at h; cases h
 ·have e : bL p m d l fuel = (GD0, 0, 5) := sO fun h => hc ⟨h.1, h.2.1, h.2.2.1⟩
  rw [e]
  exact tk 0 _ _ _ _ _ _ _ _ ⟨_, uF p (by omega) m d _ hl, fun h => ⟨rfl, rfl, rfl⟩, fun h => ⟨fun _ => ⟨rfl, rfl, rfl⟩, fun h1 => ⟨fun _ => ⟨rfl, rfl, rfl⟩, fun h2 => absurd ⟨h, by omega, by omega⟩ hc⟩⟩⟩
end Go.Proofs.YthnohcipianijaaGreatDoor
namespace Go.Proofs.YthnohcipianijaaGreatDoor
open Go.RowKit Lx Sx
set_option maxRecDepth 100000
set_option maxHeartbeats 1100000
theorem Gl {p : List Tree} (hb : kbulk p ≤ 1100000) (m d : Int) (l : List GDatum) (hl : l.length ≤ 1000000000) (hm : ∀ x, x ∈ l → mD x ≤ 1000000000000000) (fuel : Int) : kc p m d l fuel (bL p m d l fuel).1 (bL p m d l fuel).2.1 (bL p m d l fuel).2.2 := by
 have hlp := dZ p
 have fail : ¬ (lR p m d l.length = true ∧ 0 ≤ fuel ∧ fuel ≤ 16384 ∧ l.all dL = true) → GDatum.mk 0 0 [] [] = (bL p m d l fuel).1 ∧ 0 = (bL p m d l fuel).2.1 ∧ 5 = (bL p m d l fuel).2.2 := fun h => by rw [sO h]; exact ⟨rfl, rfl, rfl⟩
 refine sq (l.length + 1) _ _ _ _ _ _ _ _ ⟨_, AF p (by omega), fun h => fail fun hh => ?_, fun hp => ⟨fun h => fail fun hh => ?_, fun h1 => ⟨fun h => fail fun hh => ?_, fun h2 => ⟨fun h => fail fun hh => ?_, fun h3 => ?_⟩⟩⟩⟩
 ·rw [(no hh.1).1] at h; cases h
 ·obtain ⟨_, i, k, t, a, e1, e2, g1, g2, _⟩ := no hh.1; omega
 ·obtain ⟨_, i, k, t, a, e1, e2, g1, g2, _⟩ := no hh.1
  have := (List.getElem?_eq_some_iff.1 g1).1
  omega
 ·obtain ⟨_, i, k, t, a, e1, e2, g1, g2, _⟩ := no hh.1; omega
 obtain ⟨i, rfl⟩ := lK h1
 obtain ⟨k, rfl⟩ := lK h3
 obtain ⟨t, ht, hpos⟩ | h' := az p i
 ·refine ⟨i, rfl, t, ht, fun h => fail fun hh => ?_, fun h4 => ?_⟩
  ·obtain ⟨_, i', k', t', a', e1, e2, g1, g2, _⟩ := no hh.1
   obtain rfl : i = i' := by omega
   rw [ht] at g1; cases g1
   have := (List.getElem?_eq_some_iff.1 g2).1
   omega
  obtain ⟨a, ha, _⟩ | h'' := az t.kids k
  ·obtain ⟨cr, hd⟩ := tJ ht ha l.length
   have hab : tbulk a ≤ 1100000 := Nat.le_trans (Nat.le_of_lt (by have := bh ha; omega)) (Nat.le_trans (cd ht) hb)
   have hka := bM a
   have hck : lR p i k l.length = (a.kind == 2 && decide (a.kids.length = l.length + 2)) := by rw [lR, hp, Bool.true_and, cr]
   refine ⟨i, rfl, t, ht, k, rfl, a, ha, fun h => fail fun hh => ?_, fun h5 => ⟨i, rfl, t, ht, k, rfl, a, ha, fun h => fail fun hh => ?_, fun h6 => ⟨fun h => fail fun hh => by omega, fun h7 => ⟨fun h => fail fun hh => by omega, fun h8 => ?_⟩⟩⟩⟩
   ·have := hh.1; rw [hck] at this; simp at this; exact h this.1
   ·have := hh.1; rw [hck] at this; simp at this; omega
   obtain ⟨F, rfl⟩ := lK h7
   have hF : F ≤ 16384 := by omega
   have han : a.kids.length = l.length + 2 := by omega
   have hck2 : lR p i k l.length = true := by rw [hck]; simp [h5, han]
   have loop : ∀ j s, l.length - s ≤ j → ((l.take s).all dL = true) → dY (j + 1) p i k l F s (bL p i k l F).1 (bL p i k l F).2.1 (bL p i k l F).2.2 := fun j => by
    have last : ∀ (j' s : Nat), ¬ s < l.length → l.all dL = true → dY (j' + 1) p i k l F s (bL p i k l F).1 (bL p i k l F).2.1 (bL p i k l F).2.2 := fun j' s hs hall => by
     have hrun : bL p i k l F = ((evG p 16385 i (aF a (l.length + 1)) (cn a.kids l) F).1, (F : Int) - ((evG p 16385 i (aF a (l.length + 1)) (cn a.kids l) F).2.2 : Int), (evG p 16385 i (aF a (l.length + 1)) (cn a.kids l) F).2.1) := by
      rw [bL, if_pos ⟨hck2, by omega, by omega, hall⟩, hd, Int.toNat_natCast]
     rw [hrun]
     obtain ⟨_, hbx⟩ := rG hp ht ha han
     have hen := zF (Ft hp hb 16385) i a l F hF hpos han hbx hab (uy hall) F (by omega) (Nat.le_refl _)
     rw [show ((F : Int) - (F : Int)) = 0 by omega] at hen
     exact mZ j' _ _ _ _ _ _ _ _ _ ⟨fun h => absurd h hs, fun _ => ⟨i, rfl, t, ht, k, rfl, a, ha, _, _, _, _, _, hen, rfl, rfl, rfl⟩⟩
    induction j with
    | zero =>
     intro s hj hv
     rw [List.take_of_length_le (by omega)] at hv
     exact last 0 s (by omega) hv
    | succ j ihj =>
     intro s hj hv
     obtain ⟨x, hx, hlt⟩ | h' := az l s
     ·refine mZ (j + 1) _ _ _ _ _ _ _ _ _ ⟨fun _ => ⟨x, hx, _, Df x (hm x (List.mem_of_getElem? hx)), fun hf => fail fun hh => ?_, fun hv2 => ihj (s + 1) (by omega) ?_⟩, fun h => absurd hlt h⟩
      ·have := List.all_eq_true.1 hh.2.2.2 x (List.mem_of_getElem? hx)
       rw [this] at hf; cases hf
      ·rw [List.take_add_one, hx, List.all_append, hv]; simp [hv2]
     ·rw [List.take_of_length_le (by omega)] at hv
      exact last _ s h' hv
   exact loop l.length 0 (by omega) (by simp)
  ·omega
 ·omega
theorem wS {B : Nat} {l : List GDatum} (h : mDs l ≤ B) : ∀ x, x ∈ l → mD x ≤ B := fun x hx => Nat.le_trans (xZ hx) h
end Go.Proofs.YthnohcipianijaaGreatDoor
