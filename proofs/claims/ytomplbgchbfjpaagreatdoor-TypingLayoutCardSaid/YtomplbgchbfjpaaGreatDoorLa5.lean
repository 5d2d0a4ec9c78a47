/- Contracts of the functions that the law reaches, part 5. -/
import Derived.Test.YtomplbgchbfjpaaGreatDoorLa4
set_option linter.unusedVariables false
set_option linter.unusedSimpArgs false
namespace Go.Proofs.YtomplbgchbfjpaaGreatDoor
open Go.RowKit Lx Sx
set_option maxRecDepth 100000
set_option maxHeartbeats 1000000
def noG : aj := ⟨[], ⟨0, 0⟩⟩
theorem tj {l : List Tree} {i : Nat} {u : Tree} (h : l[i]? = some u) : kbulk (l.drop i) = tbulk u + kbulk (l.drop (i + 1)) := by rw [bk h, kbulk]
theorem uM {l : List Tree} {i : Nat} {u : Tree} (h : l[i]? = some u) : uNs (l.drop i) = uN u + uNs (l.drop (i + 1)) := by rw [bk h, uNs]
mutual
theorem tgs_uN (p : List Tree) (m : Int) : ∀ (t : Tree) (q : List Int), (eS p m (nodK t q)).length = uN t
 | .node k w ls ks, q => by
  simp only [nodK, eS, List.length_append, uN, tgs_uNs p m ks q 0, ny, Tree.kind]
  by_cases h : k = 16 ∨ k = 9
  ·have h' : (k == 16 || k == 9) = true := by simpa using h
   simp only [h', if_pos h, if_true, List.length_cons, List.length_nil, Nat.zero_add]
  ·have h' : (k == 16 || k == 9) = false := by simpa using h
   simp only [h', if_neg h, Bool.false_eq_true, if_false, List.length_nil]
theorem tgs_uNs (p : List Tree) (m : Int) : ∀ (l : List Tree) (q : List Int) (i : Nat), (eS p m (nodKs l q i)).length = uNs l
 | [], q, i => by simp [nodKs, eS, uNs]
 | t :: r, q, i => by simp only [nodKs, tw, List.length_append, uNs, tgs_uN p m t, tgs_uNs p m r]
end
theorem Br (p : List Tree) : ∀ (l : List Tree) (i : Nat), (jm p i l).length = uNs l
 | [], i => rfl
 | t :: r, i => by simp only [jm, List.length_append, uNs, tgs_uN, Br p r]
theorem Kp {t : Tree} (ht : tyK t) (hb : tbulk t ≤ 1000000000) : jL t (leafK t) (lisK t : Nat) := by
 have loop : ∀ t, tyK t → ∀ i, i + tbulk t ≤ 2000000000 → iA (lisK t + 1) t i (leafK t) ((i + lisK t : Nat) : Int) := cy fun t ih h i hi => by
  rcases pd h with ⟨h8, _, u, hu, hty⟩ | ⟨h8, hk, _⟩
  ·obtain ⟨e1, e2⟩ := oY h8 hu
   have h0 : t.kids[0]? = some u := by rw [hu]; rfl
   have := aK h0
   rw [e1, e2]
   refine ku (lisK u + 1) _ _ _ _ (⟨fun _ => ⟨u, h0, by omega, ?_⟩, fun h => absurd h8 h⟩)
   rw [show i + (lisK u + 1) = i + 1 + lisK u by omega]
   exact ih 0 u h0 hty (i + 1) (by omega)
  ·obtain ⟨e1, e2⟩ := ir h8
   rw [e1, e2]
   exact ku 0 _ _ _ _ (⟨fun h => absurd h h8, fun _ => ⟨rfl, rfl⟩⟩)
 have := loop t ht 0 (by omega)
 rw [Nat.zero_add] at this
 exact rY (lisK t + 1) _ _ _ (this)
theorem vi (n : Nat) (t : Tree) : (eW (n + 1) t).kind = 8 ∧ (eW (n + 1) t).kids = [eW n t] := ⟨rfl, rfl⟩
theorem xY {k : Int} (h8 : k ≠ 8) : ∀ n, leafK (eW n (.node k [] [] [])) = .node k [] [] [] ∧ lisK (eW n (.node k [] [] [])) = n
 | 0 => ir h8
 | n + 1 => by
  obtain ⟨e1, e2⟩ := oY (vi n (.node k [] [] [])).1 (vi n (.node k [] [] [])).2
  obtain ⟨g1, g2⟩ := xY h8 n
  rw [e1, e2, g1, g2]; exact ⟨rfl, rfl⟩
theorem IJ {k : Int} (h8 : k ≠ 8) (n : Nat) (hn : n ≤ 1000000000) : jL (eW n (.node k [] [] [])) (.node k [] [] []) (n : Nat) := by
 have loop : ∀ j i, i + j ≤ 1000000000 → iA (j + 1) (eW j (.node k [] [] [])) i (.node k [] [] []) ((i + j : Nat) : Int) := fun j => by
  induction j with
  | zero => intro i hi; exact ku 0 _ _ _ _ (⟨fun h => absurd h h8, fun _ => ⟨rfl, rfl⟩⟩)
  | succ j ih =>
   intro i hi
   refine ku (j + 1) _ _ _ _ (⟨fun _ => ⟨eW j (.node k [] [] []), rfl, by omega, ?_⟩, fun h => absurd (vi j (.node k [] [] [])).1 h⟩)
   rw [show i + (j + 1) = i + 1 + j by omega]
   exact ih (i + 1) (by omega)
 have := loop n 0 (by omega)
 rw [Nat.zero_add] at this
 exact rY (n + 1) _ _ _ (this)
def knK (t : Tree) : Kn := ⟨(leafK t).kind, (lisK t : Nat)⟩
def nmK (p : List Tree) (m : Int) (w : List UInt8) : Kn := if (lr p m (.node 9 w [] [])).2 = 0 then knK (lr p m (.node 9 w [] [])).1 else ⟨0, 0⟩
def tyN (p : List Tree) (m : Int) (t : Tree) : Kn := if (leafK t).kind = 9 then (if (nmK p m (leafK t).text).simple = 0 then nmK p m (leafK t).text else ⟨(nmK p m (leafK t).text).simple, (nmK p m (leafK t).text).lists + (lisK t : Nat)⟩) else knK t
theorem Hu {p : List Tree} {m : Int} {u : Tree} (hu : tyK u) (h9 : u.kind = 9) : lr p m u = lr p m (.node 9 u.text [] []) := by
 obtain ⟨k, w, ls, ks⟩ := u
 simp only [Tree.kind] at h9
 subst h9
 have hk : ks = [] := by
  rcases pd hu with ⟨h8, _⟩ | ⟨_, hk, _⟩
  ·simp [Tree.kind] at h8
  ·exact hk
 subst hk
 unfold lr
 have e1 : leafK (.node 9 w ls []) = .node 9 w ls [] := (ir (by simp [Tree.kind])).1
 have e2 : leafK (.node 9 w [] []) = .node 9 w [] [] := (ir (by simp [Tree.kind])).1
 have e3 : lisK (.node 9 w ls []) = 0 := (ir (by simp [Tree.kind])).2
 have e4 : lisK (.node 9 w [] []) = 0 := (ir (by simp [Tree.kind])).2
 simp only [Tree.text, e1, e2, e3, e4, Tree.kind, shapeK, gM]
theorem Ds (p : List Tree) (m : Int) (w : List UInt8) : 0 ≤ (nmK p m w).lists ∧ (nmK p m w).lists ≤ ((w.length + 1 + kbulk p : Nat) : Int) ∧ ((lr p m (.node 9 w [] [])).2 = 0 → ∃ (n : Nat) (k : Int), (lr p m (.node 9 w [] [])).1 = eW n (.node k [] [] []) ∧ 5 ≤ k ∧ k ≤ 7 ∧ nmK p m w = ⟨k, (n : Int)⟩ ∧ n ≤ w.length + 1 + kbulk p) := by
 obtain ⟨n, k, h1, h2, h3, h4, h5⟩ := IF p m (.node 9 w [] [])
 have hb : tbulk (.node 9 w [] []) = w.length + 1 := by simp [tbulk, kbulk, lsum]
 rw [hb] at h5
 unfold nmK
 by_cases h0 : (lr p m (.node 9 w [] [])).2 = 0
 ·obtain ⟨g1, g2⟩ := xY h2 n
  rw [if_pos h0, h1]
  have e : knK (eW n (.node k [] [] [])) = ⟨k, (n : Int)⟩ := by unfold knK; rw [g1, g2]; rfl
  rw [e]
  exact ⟨by simp, by simp only; omega, fun _ => ⟨n, k, rfl, (h4 h0).1, (h4 h0).2, rfl, by omega⟩⟩
 ·rw [if_neg h0]
  exact ⟨Int.le_refl _, by simp only; omega, fun h => absurd h h0⟩
def mC (p : List Tree) (nm : List ((Int × List UInt8) × ac)) : Prop := ∀ m w k, mlook (m, w) nm = some k → k = nmK p m w
theorem mC.put {p : List Tree} {nm : List ((Int × List UInt8) × ac)} (h : mC p nm) (m : Int) (w : List UInt8) : mC p (mput (m, w) (nmK p m w) nm) := fun m' w' k hk => by
 rw [fY] at hk
 split at hk
 ·rename_i e
  simp only [Prod.mk.injEq] at e
  obtain ⟨rfl, rfl⟩ := e
  injection hk with hk; exact hk.symm
 ·exact h m' w' k hk
theorem Bm {p : List Tree} {c : CKr} (hc : c.p = p) (hb : kbulk p ≤ 10000000) (hn : mC p c.names) (m : Int) {t : Tree} (ht : tyK t) (hbt : tbulk t ≤ 10000000) : ∃ nm, mC p nm ∧ eY c m t (tyN p m t) { c with names := nm } := by
 obtain ⟨l1, l2, _⟩ := pj t ht
 obtain ⟨b1, b2⟩ := oe t
 have hs := Kp ht (by omega)
 by_cases h9 : (leafK t).kind = 9
 ·obtain ⟨f1, f2, f3⟩ := Ds p m (leafK t).text
  have hw := cv (leafK t)
  have hx := Hu (p := p) (m := m) l1 h9
  cases hl : mlook (m, (leafK t).text) c.names with
  | some k =>
   have hk := hn _ _ _ hl
   subst hk
   refine ⟨c.names, hn, gW 1 _ _ _ _ _ (⟨_, _, hs, fun h => absurd h9 h, fun _ => ⟨fun h => (by rw [hl] at h; cases h), fun d h => ?_⟩⟩)⟩
   rw [hl] at h
   injection h with h; subst h
   refine lg 0 _ _ _ _ _ _ _ _ _ (⟨fun h => (by cases h), fun _ => ⟨fun hz => ⟨⟨by omega, by omega⟩, ?_, rfl⟩, fun hz => ⟨?_, rfl⟩⟩⟩)
   ·unfold tyN; rw [if_pos h9, if_neg hz]
   ·unfold tyN; rw [if_pos h9, if_pos hz]
  | none =>
   have he := In hb m (t := leafK t) (by omega)
   rw [hx] at he
   refine ⟨mput (m, (leafK t).text) (nmK p m (leafK t).text) c.names, hn.put m _, gW 2 _ _ _ _ _ (⟨_, _, hs, fun h => absurd h9 h, fun _ => ⟨fun _ => ?_, fun d h => (by rw [hl] at h; cases h)⟩⟩)⟩
   refine lg 1 _ _ _ _ _ _ _ _ _ (⟨fun _ => ⟨_, _, by rw [hc]; exact he, ?_⟩, fun h => (by cases h)⟩)
   refine qu 0 _ _ _ _ _ _ _ _ _ _ (⟨fun h0 => ?_, fun h0 => ⟨fun h => absurd rfl h, fun _ => ?_⟩⟩)
   ·obtain ⟨n, k, g1, g2, g3, g4, g5⟩ := f3 h0
    rw [g1]
    refine ⟨_, _, IJ (by omega) n (by omega), fun hz => ⟨⟨by omega, by omega⟩, ?_, ?_⟩, fun hz => absurd hz (by simp only [Tree.kind]; omega)⟩
    ·unfold tyN; rw [if_pos h9, g4, if_neg (by simp only; omega)]; rfl
    ·rw [g4]; rfl
   ·have e : nmK p m (leafK t).text = ⟨0, 0⟩ := by unfold nmK; rw [if_neg h0]
    rw [e]
    refine ⟨?_, rfl⟩
    unfold tyN; rw [if_pos h9, e, if_pos rfl]
 ·exact ⟨c.names, hn, gW 0 _ _ _ _ _ (⟨_, _, hs, fun _ => ⟨by unfold tyN; rw [if_neg h9]; rfl, rfl⟩, fun h => absurd h h9⟩)⟩
def mz (p : List Tree) (m : Int) (f : Tree) : aj := ⟨(f.kids.take (f.kids.length - 2)).map fun k => tyN p m (cp k 0), tyN p m (cp f (f.kids.length - 2))⟩
theorem KQ {p : List Tree} {c : CKr} (hc : c.p = p) (hb : kbulk p ≤ 10000000) (hn : mC p c.names) (m : Int) {f : Tree} (hs : shapeK f = true) (h2 : f.kind = 2) (hbf : tbulk f ≤ 10000000) : ∃ nm, mC p nm ∧ jt c m f (mz p m f) { c with names := nm } := by
 obtain ⟨s1, s2, s3, _⟩ := vl hs h2
 have hkl := bM f
 obtain ⟨n, hnn⟩ : ∃ n, n + 2 = f.kids.length := ⟨f.kids.length - 2, by omega⟩
 have hlt : (f.kids.take n).length = n := by rw [List.length_take]; omega
 obtain ⟨r, hr⟩ : ∃ r, f.kids[n]? = some r := ⟨_, List.getElem?_eq_getElem (by omega)⟩
 have hrt := s3 r (by rw [show f.kids.length - 2 = n by omega]; exact hr)
 have hkr : cp f (f.kids.length - 2) = r := by rw [show f.kids.length - 2 = n by omega]; exact nI hr
 have hbr := aK hr
 have loop : ∀ (k i : Nat) (c : CKr), c.p = p → mC p c.names → k + i = n → ∃ nm, mC p nm ∧ fv (k + 1) m f n c ((f.kids.take i).map fun k => tyN p m (cp k 0)) i ⟨(f.kids.take n).map fun k => tyN p m (cp k 0), tyN p m r⟩ { c with names := nm } := fun k => by
  induction k with
  | zero =>
   intro i c hc hn hi
   have e : i = n := by omega
   subst e
   obtain ⟨nm, g1, g2⟩ := Bm hc hb hn m hrt (by omega)
   exact ⟨nm, g1, mi 0 _ _ _ _ _ _ _ _ (⟨fun h => absurd h (by rw [hlt]; omega), fun _ => ⟨i, by omega, r, hr, _, _, g2, rfl, rfl⟩⟩)⟩
  | succ k ih =>
   intro i c hc hn hi
   obtain ⟨u, hu⟩ : ∃ u, f.kids[i]? = some u := ⟨_, List.getElem?_eq_getElem (by omega)⟩
   obtain ⟨v, hv4, hv, hvt⟩ := s2 i u hu (by omega)
   have hv0 : u.kids[0]? = some v := by rw [hv]; rfl
   have hb1 := aK hu
   have hb2 := aK hv0
   obtain ⟨nm, g1, g2⟩ := Bm hc hb hn m hvt (by omega)
   obtain ⟨nm', g3, g4⟩ := ih (i + 1) { c with names := nm } hc g1 (by omega)
   have e : ((f.kids.take i).map fun k => tyN p m (cp k 0)) ++ [tyN p m v] = (f.kids.take (i + 1)).map fun k => tyN p m (cp k 0) := by
    rw [List.take_add_one, hu, List.map_append]
    simp [nI hv0]
   exact ⟨nm', g3, mi (k + 1) _ _ _ _ _ _ _ _ (⟨fun _ => ⟨u, by rw [List.getElem?_take, if_pos (by omega)]; exact hu, v, hv0, _, _, g2, by rw [e]; simp; omega, by omega, by rw [e]; exact g4⟩, fun h => absurd (by rw [hlt]; omega) h⟩)⟩
 obtain ⟨nm, g1, g2⟩ := loop n 0 c hc hn (by omega)
 refine ⟨nm, g1, sm (n + 1) _ _ _ _ _ (⟨n, by omega, by omega, ?_⟩)⟩
 unfold mz
 rw [hkr, show f.kids.length - 2 = n by omega]
 simpa using g2
def sgD (p : List Tree) (m : Int) : List Tree → Nat → List ((Int × Int) × aj) → List ((Int × Int) × aj)
 | [], _, l => l
 | f :: r, d, l => sgD p m r (d + 1) (if f.kind = 2 then mput (m, (d : Int)) (mz p m f) l else l)
def sgM (p : List Tree) : List Tree → Nat → List ((Int × Int) × aj) → List ((Int × Int) × aj)
 | [], _, l => l
 | t :: r, m, l => sgM p r (m + 1) (sgD p (m : Int) t.kids 0 l)
theorem AH {p : List Tree} {t : Tree} {m : Nat} (hm : m ≤ 1000000000) (hb : kbulk p ≤ 10000000) (hok : ∀ (d : Nat) (f : Tree), t.kids[d]? = some f → shapeK f = true) (hbt : tbulk t ≤ 10000000) : ∀ (k d : Nat) (c : CKr), c.p = p → mC p c.names → k + d = t.kids.length → ∃ nm, mC p nm ∧ ∀ M r, eE M p (m + 1) { c with names := nm, signatures := sgD p (m : Int) (t.kids.drop d) d c.signatures } r → ∃ M', eC M' p t d c m m r
 | 0, d, c, hc, hn, hk => by
  have hd : t.kids.drop d = [] := List.drop_of_length_le (by omega)
  rw [hd]
  exact ⟨c.names, hn, fun M r h => ⟨M + 1, jy M _ _ _ _ _ _ _ (⟨fun h => absurd h (by omega), fun _ => ⟨by omega, h⟩⟩)⟩⟩
 | k + 1, d, c, hc, hn, hk => by
  have hlt : d < t.kids.length := by omega
  have hkl := bM t
  obtain ⟨f, hf⟩ : ∃ f, t.kids[d]? = some f := ⟨_, lp hlt⟩
  have hbf := aK hf
  rw [bk hf, sgD]
  by_cases h2 : f.kind = 2
  ·obtain ⟨nm, g1, g2⟩ := KQ hc hb hn (m : Int) (hok d f hf) h2 (by omega)
   obtain ⟨nm', g3, g4⟩ := AH (m := m) hm hb hok hbt k (d + 1) { c with names := nm, signatures := mput ((m : Int), (d : Int)) (mz p m f) c.signatures } hc g1 (by omega)
   rw [if_pos h2]
   refine ⟨nm', g3, fun M r h => ?_⟩
   obtain ⟨M', hM⟩ := g4 M r h
   exact ⟨M' + 2, jy (M' + 1) _ _ _ _ _ _ _ (⟨fun _ => ⟨f, hf, fun _ => ⟨_, _, g2, th M' _ _ _ _ _ _ _ (⟨by omega, hM⟩)⟩, fun h => absurd h2 h⟩, fun h => absurd hlt h⟩)⟩
  ·obtain ⟨nm', g3, g4⟩ := AH (m := m) hm hb hok hbt k (d + 1) c hc hn (by omega)
   rw [if_neg h2]
   refine ⟨nm', g3, fun M r h => ?_⟩
   obtain ⟨M', hM⟩ := g4 M r h
   exact ⟨M' + 1, jy M' _ _ _ _ _ _ _ (⟨fun _ => ⟨f, hf, fun h => absurd h h2, fun _ => ⟨by omega, hM⟩⟩, fun h => absurd hlt h⟩)⟩
theorem Gp {p : List Tree} (hok : ∀ (m : Nat) (t : Tree) (d : Nat) (f : Tree), p[m]? = some t → t.kids[d]? = some f → shapeK f = true) (hb : kbulk p ≤ 10000000) : ∀ (k m : Nat) (c : CKr), c.p = p → mC p c.names → k + m = p.length → ∃ nm, mC p nm ∧ ∃ M, eE M p m c { c with names := nm, signatures := sgM p (p.drop m) m c.signatures }
 | 0, m, c, hc, hn, hk => by
  have hd : p.drop m = [] := List.drop_of_length_le (by omega)
  rw [hd]
  exact ⟨c.names, hn, 1, nC 0 _ _ _ _ (⟨fun h => absurd h (by omega), fun _ => rfl⟩)⟩
 | k + 1, m, c, hc, hn, hk => by
  have hlt : m < p.length := by omega
  obtain ⟨t, ht⟩ : ∃ t, p[m]? = some t := ⟨_, List.getElem?_eq_getElem hlt⟩
  have hbt := ct ht
  have hl := gI p
  rw [bk ht, sgM]
  obtain ⟨nm, g1, g2⟩ := AH (p := p) (t := t) (m := m) (by omega) hb (fun d f hf => hok m t d f ht hf) (by omega) t.kids.length 0 c hc hn (by omega)
  obtain ⟨nm', g3, M, g4⟩ := Gp hok hb k (m + 1) { c with names := nm, signatures := sgD p (m : Int) t.kids 0 c.signatures } hc g1 (by omega)
  obtain ⟨M', hM⟩ := g2 M _ (by simpa using g4)
  exact ⟨nm', g3, M' + 1, nC M' _ _ _ _ (⟨fun _ => ⟨t, ht, hM⟩, fun h => absurd hlt h⟩)⟩
theorem zj {p : List Tree} (hp : bg p = true) : ∀ (m : Nat) (t : Tree) (d : Nat) (f : Tree), p[m]? = some t → t.kids[d]? = some f → shapeK f = true := fun m t d f h1 h2 => by
 have h3 := (iv hp h1).2
 rw [bG, Bool.and_eq_true] at h3
 exact (dH h3.2 h2).2
def cxN (p : List Tree) (nm : List ((Int × List UInt8) × ac)) (wm : Int) (wp : List Int) : Cx := ⟨p, nm, sgM p p 0 [], 0, [], wm, wp⟩
theorem uE {p : List Tree} (hp : bg p = true) (hb : kbulk p ≤ 10000000) : ∃ nm, mC p nm ∧ ib p (mkC (cxN p nm 0 []) ⟨bv p, [], 0, 0⟩) := by
 obtain ⟨nm, h1, M, h2⟩ := Gp (zj hp) hb p.length 0 (CKr.mk p (bv p) [] [] 0 [] [] 0 [] 0 0) rfl (fun m w k h => by cases h) (by omega)
 exact ⟨nm, h1, tL M _ _ (⟨_, zo p (by omega), h2⟩)⟩
theorem tp (p : List Tree) (m : Nat) (key : Int × Int) : ∀ (ks : List Tree) (d : Nat) (l : List ((Int × Int) × aj)), mlook key (sgD p (m : Int) ks d l) = (if key.1 = (m : Int) ∧ (d : Int) ≤ key.2 ∧ key.2 < ((d + ks.length : Nat) : Int) then (match ks[(key.2 - (d : Int)).toNat]? with | some f => if f.kind = 2 then some (mz p m f) else mlook key l | none => mlook key l) else mlook key l)
 | [], d, l => by
  rw [sgD, if_neg]
  rintro ⟨_, h1, h2⟩
  simp only [List.length_nil] at h2
  omega
 | f :: r, d, l => by
  obtain ⟨k1, k2⟩ := key
  rw [sgD, tp p m (k1, k2) r (d + 1) _]
  by_cases h1 : k1 = (m : Int)
  ·by_cases h2 : k2 = (d : Int)
   ·subst h1 h2
    obtain ⟨l', hl'⟩ : ∃ l', l' = (if f.kind = 2 then mput ((m : Int), (d : Int)) (mz p m f) l else l) := ⟨_, rfl⟩
    rw [← hl', if_neg (by simp only; omega)]
    have hc : ((m : Int) = (m : Int) ∧ (d : Int) ≤ (d : Int) ∧ (d : Int) < ((d + (f :: r).length : Nat) : Int)) := ⟨rfl, Int.le_refl _, by simp; omega⟩
    have hg : (f :: r)[((d : Int) - (d : Int)).toNat]? = some f := by simp
    by_cases hf : f.kind = 2
    ·rw [if_pos hf] at hl'
     simp only [hg, if_pos hf]
     rw [if_pos ⟨trivial, hc.2⟩, hl', fY, if_pos rfl]
    ·rw [if_neg hf] at hl'
     simp only [hg, if_neg hf]
     rw [if_pos ⟨trivial, hc.2⟩, hl']
   ·have hne : mlook (k1, k2) (if f.kind = 2 then mput ((m : Int), (d : Int)) (mz p m f) l else l) = mlook (k1, k2) l := by
     split
     ·rw [fY, if_neg (fun e => h2 (by simpa using (Prod.mk.inj e).2))]
     ·rfl
    rw [hne]
    by_cases h3 : (d : Int) < k2 ∧ k2 < ((d + 1 + r.length : Nat) : Int)
    ·rw [if_pos ⟨h1, by simp only; omega, h3.2⟩, if_pos ⟨h1, by simp only; omega, by simp; omega⟩]
     simp only
     rw [show (k2 - (d : Int)).toNat = (k2 - ((d + 1 : Nat) : Int)).toNat + 1 by omega, List.getElem?_cons_succ]
    ·rw [if_neg (fun h => h3 ⟨by have := h.2.1; simp only at this; omega, h.2.2⟩), if_neg (fun h => h3 ⟨by have := h.2.1; simp only at this; omega, by have := h.2.2; simp at this; omega⟩)]
  ·have hne : mlook (k1, k2) (if f.kind = 2 then mput ((m : Int), (d : Int)) (mz p m f) l else l) = mlook (k1, k2) l := by
    split
    ·rw [fY, if_neg (fun e => h1 (by simpa using (Prod.mk.inj e).1))]
    ·rfl
   rw [hne, if_neg (fun h => h1 h.1), if_neg (fun h => h1 h.1)]
theorem AI {P : List Tree} (key : Int × Int) : ∀ (p : List Tree) (m : Nat) (l : List ((Int × Int) × aj)) (q : aj), mlook key (sgM P p m l) = some q → (∃ (i : Nat) (t : Tree) (d : Nat) (f : Tree), p[i]? = some t ∧ t.kids[d]? = some f ∧ f.kind = 2 ∧ key = (((m + i : Nat) : Int), (d : Int)) ∧ q = mz P ((m + i : Nat) : Int) f) ∨ mlook key l = some q
 | [], m, l, q, h => .inr h
 | t :: r, m, l, q, h => by
  rw [sgM] at h
  rcases AI key r (m + 1) _ q h with ⟨i, t', d, f, h1, h2, h0, h3, h4⟩ | h
  ·exact .inl ⟨i + 1, t', d, f, h1, h2, h0, by rw [h3, show m + 1 + i = m + (i + 1) by omega], by rw [h4, show m + 1 + i = m + (i + 1) by omega]⟩
  ·rw [tp] at h
   split at h
   ·rename_i hc
    split at h
    ·rename_i f hf
     split at h
     ·rename_i h0
      injection h with h; subst h
      obtain ⟨k1, k2⟩ := key
      simp only at hc hf
      exact .inl ⟨0, t, (k2 - ((0 : Nat) : Int)).toNat, f, rfl, hf, h0, by simp only [Prod.mk.injEq]; omega, rfl⟩
     ·exact .inr h
    ·exact .inr h
   ·exact .inr h
theorem AG {P : List Tree} {key : Int × Int} : ∀ (r : List Tree) (m : Nat) (l : List ((Int × Int) × aj)), key.1 < (m : Int) → mlook key (sgM P r m l) = mlook key l
 | [], _, _, _ => rfl
 | t :: r, m, l, h => by rw [sgM, AG r (m + 1) _ (by omega), tp, if_neg (fun h' => by have := h'.1; omega)]
theorem Cz {P : List Tree} {key : Int × Int} : ∀ (p : List Tree) (m i d : Nat) (l : List ((Int × Int) × aj)) (t f : Tree), p[i]? = some t → t.kids[d]? = some f → f.kind = 2 → key = (((m + i : Nat) : Int), (d : Int)) → mlook key (sgM P p m l) = some (mz P ((m + i : Nat) : Int) f)
 | [], m, i, d, l, t, f, h, _, _, _ => by simp at h
 | t0 :: r, m, 0, d, l, t, f, h1, h2, h0, h3 => by
  simp only [List.getElem?_cons_zero, Option.some.injEq] at h1
  subst h1
  have hd := (List.getElem?_eq_some_iff.1 h2).1
  rw [sgM, AG r (m + 1) _ (by rw [h3]; simp only; omega), tp, if_pos (by rw [h3]; simp only; omega), h3]
  simp only
  rw [show ((d : Int) - ((0 : Nat) : Int)).toNat = d by omega, h2]
  simp only [h0, if_true]; rfl
 | t0 :: r, m, i + 1, d, l, t, f, h1, h2, h0, h3 => by
  rw [sgM]
  have := Cz (P := P) (key := key) r (m + 1) i d (sgD P (m : Int) t0.kids 0 l) t f (by simpa using h1) h2 h0 (by rw [h3, show m + 1 + i = m + (i + 1) by omega])
  rw [this, show m + 1 + i = m + (i + 1) by omega]
theorem Jg {p : List Tree} {m : Int} {t : Tree} {B : Nat} (hb : tbulk t ≤ B) : KOk (2 * B + kbulk p + 2) (tyN p m t) := by
 obtain ⟨b1, b2⟩ := oe t
 have hw := cv (leafK t)
 obtain ⟨f1, f2, _⟩ := Ds p m (leafK t).text
 unfold tyN
 split
 ·split
  ·exact ⟨f1, by omega⟩
  ·exact ⟨by simp only; omega, by simp only; omega⟩
 ·exact ⟨by simp [knK], by simp only [knK]; omega⟩
theorem ly (t : Tree) (i : Nat) : tbulk (cp t i) ≤ tbulk t := by
 by_cases h : i < t.kids.length
 ·have := aK (lp h); omega
 ·have h0 : cp t i = .node 0 [] [] [] := by simp only [cp, List.getD_eq_getElem?_getD, List.getElem?_eq_none (Nat.le_of_not_lt h)]; rfl
  have h1 := bM t
  rw [h0]; simp [tbulk, kbulk, lsum]; omega
theorem Ge {p : List Tree} {m : Int} {f : Tree} {B : Nat} (hb : tbulk f ≤ B) : KOk (2 * B + kbulk p + 2) (mz p m f).result ∧ ∀ q ∈ (mz p m f).params, KOk (2 * B + kbulk p + 2) q := by
 refine ⟨Jg (Nat.le_trans (ly f _) hb), fun q hq => ?_⟩
 obtain ⟨k, hk, rfl⟩ := List.mem_map.1 hq
 have hk' := List.mem_of_mem_take hk
 obtain ⟨i, hi⟩ := List.getElem?_of_mem hk'
 have := aK hi
 exact Jg (by have := ly k 0; omega)
def Cx.md (x : Cx) (m : Int) : Cx := { x with mo := m }
def yq (x : Cx) (d : Nat) (f : Tree) (s : Sv) : Sv := eu (tbulk f) (x.go ((0 : Nat) : Int)) (cp f 0) (if ox x.p x.mo (d : Int) = true then faP x 5 [] s else s)
def nW (x : Cx) (d : Nat) (f : Tree) (s : Sv) : Sv := if f.kind = 2 then so (x.go (d : Int)) f ((mlook (x.mo, (d : Int)) x.sg).getD noG) s else yq (x.go (d : Int)) d f s
def lm (x : Cx) : List Tree → Nat → Sv → Sv
 | [], _, s => s
 | f :: r, d, s => lm x r (d + 1) (nW x d f s)
def ld (x : Cx) : List Tree → Nat → Sv → Sv
 | [], _, s => s
 | t :: r, m, s => ld x r (m + 1) (lm (x.md (m : Int)) t.kids 0 s)
def moF (z : Int) : List Tree → Nat → Int
 | [], _ => z
 | _ :: r, m => moF (m : Int) r (m + 1)
structure DefOk (sg : List ((Int × Int) × aj)) (L : Nat) (m d : Nat) (f : Tree) : Prop where
 s : shapeK f = true
 k : f.kind = 2 → ∃ g, mlook ((m : Int), (d : Int)) sg = some g ∧ f.kids.length = g.params.length + 2 ∧ ∀ q ∈ g.params, KOk L q
 a : f.kind ≠ 2 → ∃ b, f.kids = [b] ∧ tyK b
theorem Fh {x : Cx} {P0 : CKr} {t : Tree} {m L : Nat} (hx : x.mo = m) (hpb : kbulk x.p ≤ 10000000) (hm : m ≤ 1000000000) (hok : ∀ (d : Nat) (f : Tree), t.kids[d]? = some f → DefOk x.sg L m d f) (h16 : ∀ (d : Nat) (f : Tree), t.kids[d]? = some f → f.kind = 2 ∨ f.kind = 3) (hsg : ∀ k q, mlook k x.sg = some q → KOk L q.result) (hkl : t.kids.length ≤ 100000000) : ∀ (k d : Nat) (s : Sv), k + d = t.kids.length → x.pa.length + kbulk (t.kids.drop d) + 4 ≤ 100000000 → s.fa.length + 4 * kbulk (t.kids.drop d) + 1 ≤ 900000000 → uNs (t.kids.drop d) ≤ s.tg.length → L + kbulk (t.kids.drop d) ≤ 900000000 →
  Sst (kbulk (t.kids.drop d)) (uNs (t.kids.drop d)) s (lm x (t.kids.drop d) d s) ∧ ∀ (M : Nat) (q : CKr), (∀ s1, s1 = lm x (t.kids.drop d) d s → dQ M P0 (mkC x s1) (m + 1) q) → ∃ M', bP M' P0 t (mkC x s) d m m q
 | 0, d, s, hk, _, _, _, _ => by
  have hd : t.kids.drop d = [] := List.drop_of_length_le (by omega)
  rw [hd]
  exact ⟨⟨by simp [lm, uNs], by simp [lm]⟩, fun M q h => ⟨M + 1, iZ M _ _ _ _ _ _ _ (⟨fun h => absurd h (by omega), fun _ => ⟨by omega, h _ rfl⟩⟩)⟩⟩
 | k + 1, d, s, hk, h1, h2, h3, h4 => by
  have hlt : d < t.kids.length := by omega
  obtain ⟨f, hf⟩ : ∃ f, t.kids[d]? = some f := ⟨_, lp hlt⟩
  obtain ⟨o1, o2, o3⟩ := hok d f hf
  have e1 := tj hf
  have e2 := uM hf
  have hxm : ∀ z, (x.go z).mo = m := fun z => hx
  have eD : lm x (t.kids.drop d) d s = lm x (t.kids.drop (d + 1)) (d + 1) (nW x d f s) := by rw [bk hf, lm]
  rw [eD]
  have key : Sst (tbulk f) (uN f) s (nW x d f s) ∧ ∀ M q, bP M P0 t (mkC x (nW x d f s)) (d + 1) m m q → ∃ M', bP M' P0 t (mkC x s) d m m q := by
   by_cases h2' : f.kind = 2
   ·obtain ⟨g, g1, g2, g3⟩ := o2 h2'
    have eF : nW x d f s = so (x.go (d : Int)) f g s := by unfold nW; rw [if_pos h2', hx, g1]; rfl
    rw [eF]
    obtain ⟨a1, a2⟩ := Et (x := x.go (d : Int)) (s := s) (L := L) (g := g) o1 h2' g2 (by simp [Cx.go]; omega) (by omega) (by omega) (by omega) g3 hsg
    refine ⟨a2, fun M q h => ⟨M + 2, iZ (M + 1) _ _ _ _ _ _ _ (⟨fun _ => ⟨f, hf, _, jB (x := x) (s := s) (d : Int) (by omega), fun _ => ⟨fun h => absurd (h.symm.trans g1) (by simp), fun g' hg' => ?_⟩, fun h => absurd h2' h⟩, fun h => absurd hlt h⟩)⟩⟩
    have hg'' : mlook ((m : Int), (d : Int)) x.sg = some g' := hg'
    rw [g1] at hg''
    injection hg'' with hg''
    subst hg''
    exact ⟨_, a1, sp M _ _ _ _ _ _ _ (⟨_, iq (x := x) (d : Int), by omega, h⟩)⟩
   ·obtain ⟨b, hb, hty⟩ := o3 h2'
    have hb0 : f.kids[0]? = some b := by rw [hb]; rfl
    have hbb := aK hb0
    have hf3 : f.kind ≠ 16 ∧ f.kind ≠ 9 := by rcases h16 d f hf with h | h <;> omega
    have hu : uN f = uN b := by rw [jX, if_neg (by omega), hb]; simp [uNs]
    have hc := Cn hpb (m : Int) (d : Int)
    obtain ⟨sf, hsf⟩ : ∃ sf, sf = (if ox x.p (m : Int) (d : Int) = true then faP (x.go (d : Int)) 5 [] s else s) := ⟨_, rfl⟩
    have hsl : sf.fa.length ≤ s.fa.length + 1 ∧ sf.tg = s.tg := by rw [hsf]; split <;> simp [faP]
    have eA : nW x d f s = eu (tbulk f) ((x.go (d : Int)).go ((0 : Nat) : Int)) b sf := by
     unfold nW yq; rw [if_neg h2', nI hb0, hxm, hsf]; rfl
    rw [eA]
    obtain ⟨a1, a2⟩ := xy (tbulk f) b (by omega) hty f 0 (x.go (d : Int)) sf hb0 (by simp [Cx.go]; omega) (by omega) (by rw [hsl.2]; omega)
    refine ⟨⟨by rw [a2.tg, hsl.2, hu], by have := a2.fa; omega⟩, fun M q h => ⟨M + 1, iZ M _ _ _ _ _ _ _ (⟨fun _ => ⟨f, hf, _, jB (x := x) (s := s) (d : Int) (by omega), fun h => absurd h h2', fun _ => ⟨_, hc, fun hcc => ?_, fun hcc => ?_⟩⟩, fun h => absurd hlt h⟩)⟩⟩
    ·rw [if_pos hcc] at hsf
     subst hsf
     exact ⟨_, dx (x := x.go (d : Int)) (s := s) 5 [] (by simp [Cx.go]; omega) (by omega), _, a1, _, iq (x := x) (d : Int), by omega, h⟩
    ·rw [if_neg (by rw [hcc]; simp)] at hsf
     subst hsf
     exact ⟨_, a1, _, iq (x := x) (d : Int), by omega, h⟩
  obtain ⟨k1, k2⟩ := key
  generalize nW x d f s = s1 at k1 k2
  have q1 := k1.fa
  have q2 := k1.tg
  obtain ⟨b1, b2⟩ := Fh (P0 := P0) hx hpb hm hok h16 hsg hkl k (d + 1) s1 (by omega) (by omega) (by omega) (by rw [q2, List.length_drop]; omega) (by omega)
  refine ⟨⟨by rw [b1.tg, q2, List.drop_drop, e2], by have := b1.fa; omega⟩, fun M q h => ?_⟩
  obtain ⟨M', hM⟩ := b2 M q h
  exact k2 M' q hM
theorem Gi {x : Cx} {P0 : CKr} {L : Nat} (hP0 : P0.p = x.p) (hpb : kbulk x.p ≤ 10000000) (hok : ∀ (m : Nat) (t : Tree) (d : Nat) (f : Tree), x.p[m]? = some t → t.kids[d]? = some f → DefOk x.sg L m d f ∧ (f.kind = 2 ∨ f.kind = 3)) (hsg : ∀ k q, mlook k x.sg = some q → KOk L q.result) : ∀ (k m : Nat) (z : Int) (s : Sv), k + m = x.p.length → x.pa.length + kbulk (x.p.drop m) + 4 ≤ 100000000 → s.fa.length + 4 * kbulk (x.p.drop m) + 1 ≤ 900000000 → (∀ (m : Nat) (t : Tree), x.p[m]? = some t → t.kind = 1) → uNs (x.p.drop m) ≤ s.tg.length → L + kbulk (x.p.drop m) ≤ 900000000 →
  Sst (kbulk (x.p.drop m)) (uNs (x.p.drop m)) s (ld x (x.p.drop m) m s) ∧ ∃ M, dQ M P0 (mkC (x.md z) s) m (mkC (x.md (moF z (x.p.drop m) m)) (ld x (x.p.drop m) m s))
 | 0, m, z, s, hk, _, _, _, _, _ => by
  have hd : x.p.drop m = [] := List.drop_of_length_le (by omega)
  rw [hd]
  exact ⟨⟨by simp [ld, uNs], by simp [ld]⟩, 1, mT 0 _ _ _ _ (⟨fun h => absurd h (by rw [hP0]; omega), fun _ => rfl⟩)⟩
 | k + 1, m, z, s, hk, h1, h2, hk1, h3, h4 => by
  have hlt : m < x.p.length := by omega
  obtain ⟨t, ht⟩ : ∃ t, x.p[m]? = some t := ⟨_, List.getElem?_eq_getElem hlt⟩
  have e1 := tj ht
  have e2 := uM ht
  have hB := aW t
  have hU : uN t = uNs t.kids := by rw [jX, hk1 m t ht]; simp
  have hkl := bM t
  have hbt := ct ht
  have hlp := gI x.p
  obtain ⟨a1, a2⟩ := Fh (x := x.md (m : Int)) (P0 := P0) (t := t) (m := m) (L := L) rfl hpb (by omega) (fun d f hf => (hok m t d f ht hf).1) (fun d f hf => (hok m t d f ht hf).2) hsg (by omega) t.kids.length 0 s (by omega) (by simp [Cx.md]; omega) (by simp; omega) (by simp; omega) (by simp; omega)
  simp only [List.drop_zero] at a1 a2
  have q1 := a1.fa
  have q2 := a1.tg
  obtain ⟨s1, hs1⟩ : ∃ s1, s1 = lm (x.md (m : Int)) t.kids 0 s := ⟨_, rfl⟩
  rw [← hs1] at a1 q1 q2
  obtain ⟨b1, M, hM⟩ := Gi hP0 hpb hok hsg k (m + 1) (m : Int) s1 (by omega) (by omega) (by omega) hk1 (by rw [q2, List.length_drop]; omega) (by omega)
  have e : ld x (x.p.drop m) m s = ld x (x.p.drop (m + 1)) (m + 1) s1 := by rw [bk ht, ld, ← hs1]
  have e' : moF z (x.p.drop m) m = moF (m : Int) (x.p.drop (m + 1)) (m + 1) := by rw [bk ht, moF]
  rw [e, e']
  obtain ⟨M', hM'⟩ := a2 M (mkC (x.md (moF (m : Int) (x.p.drop (m + 1)) (m + 1))) (ld x (x.p.drop (m + 1)) (m + 1) s1)) fun s2 hs2 => by
   rw [← hs1] at hs2; subst hs2; exact hM
  refine ⟨⟨by rw [b1.tg, q2, List.drop_drop, e2, hU], by have := b1.fa; omega⟩, M' + 1, mT M' _ _ _ _ (⟨fun _ => ⟨t, by rw [hP0]; exact ht, hM'⟩, fun h => absurd (by rw [hP0]; exact hlt) h⟩)⟩
def ke (p : List Tree) (nm : List ((Int × List UInt8) × ac)) (wm : Int) (wp : List Int) : Sv := ld (cxN p nm wm wp) p 0 ⟨bv p, [], 0, 0⟩
theorem JC {p : List Tree} (hp : bg p = true) : ∀ (m : Nat) (t : Tree) (d : Nat) (f : Tree), p[m]? = some t → t.kids[d]? = some f → DefOk (sgM p p 0 []) (3 * kbulk p + 2) m d f ∧ (f.kind = 2 ∨ f.kind = 3) := fun m t d f h1 h2 => by
 have hs := zj hp m t d f h1 h2
 obtain ⟨k1, k2⟩ := iv hp h1
 have hw := ud k1 k2 h2
 have hb1 := ct h1
 have hb2 := aK h2
 have h23 : f.kind = 2 ∨ f.kind = 3 := by rcases hw with h | h; exact .inl h.1; exact .inr h.1
 refine ⟨⟨hs, fun hk => ?_, fun hk => tK hp h1 h2 (by rcases h23 with h | h; exact absurd h hk; exact h)⟩, h23⟩
 obtain ⟨q1, _⟩ := vl hs hk
 have hg := Cz (P := p) (key := ((m : Int), (d : Int))) p 0 m d [] t f h1 h2 hk (by simp)
 rw [Nat.zero_add] at hg
 refine ⟨_, hg, by simp [mz]; omega, fun q hq => ?_⟩
 have := (Ge (p := p) (m := (m : Int)) (f := f) (B := kbulk p) (by omega)).2 q hq
 exact this.mono (by omega)
theorem Dv {p : List Tree} (hp : bg p = true) (hb : kbulk p ≤ 10000000) (nm : List ((Int × List UInt8) × ac)) (wm : Int) (wp : List Int) : Sst (kbulk p) (uNs p) ⟨bv p, [], 0, 0⟩ (ke p nm wm wp) ∧ ∃ z, gq (mkC (cxN p nm wm wp) ⟨bv p, [], 0, 0⟩) (mkC ((cxN p nm wm wp).md z) (ke p nm wm wp)) := by
 have ht : (bv p).length = uNs p := by rw [bv, if_pos hp, Br]
 obtain ⟨h0, M, hM⟩ := Gi (x := cxN p nm wm wp) (P0 := mkC (cxN p nm wm wp) ⟨bv p, [], 0, 0⟩) (L := 3 * kbulk p + 2) rfl hb (JC hp) (fun k q hq => by
  rcases AI k p 0 [] q hq with ⟨i, t, d, f, h1, h2, h0, _, rfl⟩ | h
  ·have hb1 := ct h1
   have hb2 := aK h2
   exact (Ge (B := kbulk p) (by omega)).1.mono (by omega)
  ·cases h) p.length 0 0 ⟨bv p, [], 0, 0⟩ (by simp [cxN]) (by simp [cxN]; omega) (by simp [cxN]; omega) (fun m t h => (iv hp h).1) (by simp [cxN]; omega) (by simp [cxN]; omega)
 exact ⟨h0, _, sJ M _ _ (hM)⟩
theorem xv (p : List Tree) (hb : kbulk p ≤ 1000000000) : kq p (bg p) := by
 have hl := gI p
 have loop : ∀ k i, k + i = p.length → ji (k + 1) p i (bg (p.drop i)) := fun k => by
  induction k with
  | zero =>
   intro i hi
   have hd : p.drop i = [] := List.drop_of_length_le (by omega)
   rw [hd]
   exact pT 0 _ _ _ (⟨fun h => absurd h (by omega), fun _ => rfl⟩)
  | succ k ih =>
   intro i hi
   obtain ⟨t, ht⟩ : ∃ t, p[i]? = some t := ⟨_, List.getElem?_eq_getElem (by omega)⟩
   have := ct ht
   rw [bk ht, bg]
   refine pT (k + 1) _ _ _ (⟨fun _ => ⟨t, ht, fun h => by simp [h], fun h => ⟨_, po t (by omega), fun h' => by simp [h'], fun h' => ⟨by omega, ?_⟩⟩⟩, fun h => absurd (by omega) h⟩)
   have := ih (i + 1) (by omega)
   simpa [h, h'] using this
 have := loop p.length 0 (by omega)
 exact vX (p.length + 1) _ _ (by simpa using this)
theorem wR {p : List Tree} (hb : kbulk p ≤ 10000000) : (bg p = false → cS p []) ∧ (bg p = true → ∃ nm, mC p nm ∧ ∀ r, dl (ke p nm 0 []).fa r → cS p r) := by
 have h0 := xv p (by omega)
 refine ⟨fun hp => rm 0 _ _ (⟨_, h0, fun _ => rfl, fun h => (by rw [hp] at h; cases h)⟩), fun hp => ?_⟩
 obtain ⟨nm, h1, h2⟩ := uE hp hb
 obtain ⟨_, z, h3⟩ := Dv hp hb nm 0 []
 exact ⟨nm, h1, fun r hs => rm 0 _ _ (⟨_, h0, fun h => (by rw [hp] at h; cases h), fun _ => ⟨_, h2, _, h3, _, hs, rfl⟩⟩)⟩
set_option maxHeartbeats 4000000
def kU (r0 : Bool) : Prop := qS 9 [] (.bool r0)
def wH (p0 : List UInt8) (r0 : Tree) (r1 r2 : Int) : Prop := qS 20 [.str p0] (.tup [.agg (ak r0), .int .i64 r1, .int .i64 r2])
def nJ (r0 : Bool) : Prop := qS 9 [] (.bool r0)
theorem sh (m : Nat) (r0 : Bool) (h : ∃ b s j, wH [109, 111, 100, 117, 108, 101, 32, 77, 32, 100, 101, 102, 32, 102, 40, 41, 58, 32, 73, 110, 116, 32, 61, 32, 49, 32, 43, 32, 34, 97, 34, 32, 100, 101, 102, 32, 103, 40, 120, 58, 32, 66, 111, 111, 108, 41, 58, 32, 73, 110, 116, 32, 61, 32, 105, 102, 32, 120, 32, 116, 104, 101, 110, 32, 49, 32, 101, 108, 115, 101, 32, 103, 40, 41] b s j ∧ ∃ a, cS [b] a ∧ ∃ k l, sj [b] (GPlace.mk 0 [0, 1]) k l ∧ ((j = 0) → ((l = 0) → ((k.kind = 5) → (((a.length : Int) = 2) → ∃ n, a[0]? = some n ∧ ((n.Kind = 6) → ∃ r, a[0]? = some r ∧ ∃ o, dD r.At.Path [0, 1, 1] o ∧ ((o = true) → ∃ c, a[1]? = some c ∧ ((c.Kind = 3) → ∃ g, a[1]? = some g ∧ ∃ i, dD g.At.Path [1, 2, 2] i ∧ i = r0) ∧ ((c.Kind ≠ 3) → false = r0)) ∧ ((o = false) → false = r0)) ∧ ((n.Kind ≠ 6) → false = r0)) ∧ (((a.length : Int) ≠ 2) → false = r0)) ∧ ((k.kind ≠ 5) → false = r0)) ∧ ((l ≠ 0) → false = r0)) ∧ ((j ≠ 0) → false = r0)) : nJ r0 := by
 refine ⟨rfl, rfl, ?_⟩
 refine qA 71 [] Tryz.func9 fun K hK => ?_
 refine gR 7 rfl ?_
 obtain ⟨b, s, j, x, h⟩ := h
 refine qC0 x rfl <| gR 14 rfl <| gHR 1 (kidsV [b]) rfl (kL b) rfl <| gFR 1 rfl (cq _) rfl rfl ?_
 obtain ⟨a, y, h⟩ := h
 refine qC y [] ?_
 refine gHR 2 (List.map ae.w a) rfl (vF _ a) rfl <| gR 7 rfl <| gHR 3 (kidsV [b]) rfl (kL b) rfl <| gR 2 rfl <| gFR 3 rfl (cq _) rfl rfl <| gFR 4 rfl rfl rfl rfl ?_
 obtain ⟨k, l, z, h⟩ := h
 refine qC0 z rfl <| gR 13 rfl <| qBeZ 25 24 rfl rfl rfl rfl h ?_ ?_ <;> intro h
 refine gR 4 rfl <| qBeZ 29 28 rfl rfl rfl rfl h ?_ ?_ <;> intro h
 refine gR 5 rfl <| qBeZ 34 33 rfl rfl rfl rfl h ?_ ?_ <;> intro h
 refine gR 2 rfl <| gV 36 (.int .i64 (a.length : Int)) rfl (aP (az ae.w _)) rfl <| gLO 2 rfl (az ae.w _) fun α => gR 3 rfl <| qBeZ 39 38 rfl rfl rfl rfl h ?_ ?_ <;> intro h
 refine gR 1 rfl ?_
 obtain ⟨n, p, h⟩ := h
 refine gY (yIO ai rfl rfl rfl rfl (qG (mapget (f := ae.w) p))) rfl rfl ?_
 refine gR 1 rfl <| gDo (.nop) (dLe ai rfl rfl rfl (mapget (f := ae.w) p) rfl) trivial rfl rfl rfl <| gR 3 rfl <| qBeZ 46 45 rfl rfl rfl rfl h ?_ ?_ <;> intro h
 refine gR 1 rfl ?_
 obtain ⟨r, q, h⟩ := h
 refine gY (yIO ai rfl rfl rfl rfl (qG (mapget (f := ae.w) q))) rfl rfl ?_
 refine gR 2 rfl <| gDo (.nop) (dLe ai rfl rfl rfl (mapget (f := ae.w) q) rfl) trivial rfl rfl rfl <| gR 1 rfl <| gFR 6 rfl rfl rfl rfl ?_
 obtain ⟨o, t, h⟩ := h
 refine qC0 t rfl <| gR 2 rfl <| qBiZ 55 54 rfl rfl rfl rfl h ?_ ?_ <;> intro h
 refine gR 1 rfl ?_
 obtain ⟨c, d, h⟩ := h
 refine gY (yIO ai rfl rfl rfl rfl (qG (mapget (f := ae.w) d))) rfl rfl ?_
 refine gR 1 rfl <| gDo (.nop) (dLe ai rfl rfl rfl (mapget (f := ae.w) d) rfl) trivial rfl rfl rfl <| gR 3 rfl <| qBeZ 62 61 rfl rfl rfl rfl h ?_ ?_ <;> intro h
 refine gR 1 rfl ?_
 obtain ⟨g, e, h⟩ := h
 refine gY (yIO ai rfl rfl rfl rfl (qG (mapget (f := ae.w) e))) rfl rfl ?_
 refine gR 2 rfl <| gDo (.nop) (dLe ai rfl rfl rfl (mapget (f := ae.w) e) rfl) trivial rfl rfl rfl <| gR 1 rfl <| gFR 7 rfl rfl rfl rfl ?_
 obtain ⟨i, v, h⟩ := h
 refine qC0 v rfl <| gR 5 rfl ?_
 subst h
 exact qN [.tmp 0]
 refine gR 12 rfl ?_
 subst h
 exact qN [.tmp 0]
 refine gR 19 rfl ?_
 subst h
 exact qN [.tmp 0]
 refine gR 28 rfl ?_
 subst h
 exact qN [.tmp 0]
 refine gR 35 rfl ?_
 subst h
 exact qN [.tmp 0]
 refine gR 40 rfl ?_
 subst h
 exact qN [.tmp 0]
 refine gR 45 rfl ?_
 subst h
 exact qN [.tmp 0]
 refine gR 49 rfl ?_
 subst h
 exact qN [.tmp 0]
open Go.RowKit
def dR (R : List Nat) (l : List (Nat × Ob)) : List (Nat × Ob) := l.filter fun p => ko p.1 R
def ung : Ob → Ob
 | .free => .gone
 | o => o
def fe (nx : Nat) (R : List Nat) (l : List (Nat × Ob)) : List (Nat × Ob) := (l.filter fun p => !ko p.1 R && Nat.blt p.1 nx).map fun p => (p.1, ung p.2)
theorem tZ {α : Type} {R : List Nat} : ∀ (l : List (Nat × Ob)) (c : List (Nat × Ob) → α), vQ R l c = c (dR R l)
 | [], c => rfl
 | (i, o) :: r, c => by
  simp only [vQ]
  cases h : ko i R
  ·simp only; rw [tZ r]; simp [dR, h]
  ·simp only; rw [tZ r]; simp [dR, h]
theorem tW {α : Type} {nx : Nat} {R : List Nat} : ∀ (l : List (Nat × Ob)) (c : List (Nat × Ob) → α), ub nx R l c = c (fe nx R l)
 | [], c => rfl
 | (i, o) :: r, c => by
  simp only [ub]
  cases h : (!ko i R && Nat.blt i nx)
  ·simp only; rw [tW r]; simp only [fe, List.filter_cons, h]; rfl
  ·cases o <;> (simp only; rw [tW r]; simp only [fe, List.filter_cons, h]; rfl)
theorem rX {R : List Nat} {i : Nat} : ∀ {l : List (Nat × Ob)}, ax (dR R l) i = ax l i ∨ (ko i R = false ∧ ax (dR R l) i = .gone)
 | [] => .inl rfl
 | (j, o) :: r => by
  by_cases hj : j = i
  ·subst hj
   cases h : ko j R
   ·right
    refine ⟨rfl, ?_⟩
    have ih := rX (R := R) (i := j) (l := r)
    simp only [dR, List.filter_cons, h] at ih ⊢
    simp only [Bool.false_eq_true, if_false]
    clear ih
    have key : ∀ (l : List (Nat × Ob)), ax (l.filter fun p => ko p.1 R) j = .gone := by
     intro l
     induction l with
     | nil => rfl
     | cons q t ih =>
      obtain ⟨k, o'⟩ := q
      simp only [List.filter_cons]
      split
      ·rename_i hk
       have : k ≠ j := fun e => by subst e; simp [h] at hk
       simp only [ax, nbF this]; exact ih
      ·exact ih
    exact key r
   ·left
    simp only [dR, List.filter_cons, h, if_true, ax, nbT]
  ·have ih := rX (R := R) (i := i) (l := r)
   simp only [dR, List.filter_cons]
   split
   ·simp only [ax, nbF hj]; exact ih
   ·simp only [ax, nbF hj]; exact ih
theorem zB {R : List Nat} {i : Nat} (h : ko i R = false) (l : List (Nat × Ob)) : ax (dR R l) i = .gone := by
 induction l with
 | nil => rfl
 | cons q t ih =>
  obtain ⟨k, o'⟩ := q
  simp only [dR, List.filter_cons]
  split
  ·rename_i hk
   have : k ≠ i := fun e => by subst e; simp [h] at hk
   simp only [ax, nbF this]; exact ih
  ·exact ih
theorem GR {nx : Nat} {R : List Nat} {i : Nat} (l : List (Nat × Ob)) : ax (fe nx R l) i = if (!ko i R && Nat.blt i nx) = true then ung (ax l i) else .gone := by
 induction l with
 | nil => simp [fe, ax, ung]
 | cons q t ih =>
  obtain ⟨k, o⟩ := q
  by_cases hk : k = i
  ·subst hk
   cases h : (!ko k R && Nat.blt k nx)
   ·rw [h] at ih
    simp only [fe, List.filter_cons, h, Bool.false_eq_true, if_false] at ih ⊢
    exact ih
   ·simp only [fe, List.filter_cons, h, if_true, List.map_cons, ax, nbT]
  ·have e : ax ((k, o) :: t) i = ax t i := by simp only [ax, nbF hk]
   rw [e, ← ih]
   simp only [fe, List.filter_cons]
   split
   ·simp only [List.map_cons, ax, nbF hk]
   ·rfl
section
variable {P : Program} {T : Tab} {K : Ctx} {Q : Exit → Act → World → Prop} {s : List EI} {n : Nat} {F : Fm} {H : Hp}
theorem Dn (lo : Nat) (H : Hp) (v : V) : ∃ v' H', (∀ (α : Type) (c : V → Hp → α), DG lo H v c = c v' H') ∧ H'.nx = H.nx ∧ (∀ K S w ρ x, HRel S w ρ H.get → Inv K S w ρ H.get → VRel S w ρ v x → ∃ S', HRel S' w ρ H'.get ∧ Inv K S' w ρ H'.get ∧ Up S S' w w ρ ρ ∧ VRel S' w ρ v' x) := by
 have triv : ∃ v' H', (∀ (α : Type) (c : V → Hp → α), c v H = c v' H') ∧ H'.nx = H.nx ∧ (∀ K S w ρ x, HRel S w ρ H.get → Inv K S w ρ H.get → VRel S w ρ v x → ∃ S', HRel S' w ρ H'.get ∧ Inv K S' w ρ H'.get ∧ Up S S' w w ρ ρ ∧ VRel S' w ρ v' x) := ⟨v, H, fun _ _ => rfl, rfl, fun K S w ρ x h1 h2 h3 => ⟨S, h1, h2, Up.refl, h3⟩⟩
 cases v with
 | sl id =>
  simp only [DG]
  split
  ·split
   ·rename_i e sz els ho
    split
    ·rename_i hpu
     refine ⟨.row sz els, ⟨H.nx, pF id H.es⟩, fun α c => by rw [vt], rfl, fun K S w ρ x hr hi hx => ?_⟩
     have hg : (⟨H.nx, pF id H.es⟩ : Hp).get = bF H.get id .gone := by
      funext i
      unfold Hp.get
      by_cases hii : i = id
      ·subst hii
       rw [bq]
       simp only []
       have hlt : Nat.blt i H.nx = true := by
        unfold Hp.get at ho
        split at ho
        ·assumption
        ·cases ho
       rw [hlt]
       simp only [oT, if_true]
      ·rw [ce _ _ hii]
       simp only [oT, if_neg hii]
     refine ⟨_, by rw [hg]; exact (eQ hr).1, by rw [hg]; exact hi.frz hr id, (eQ hr).2, qy hr ho hpu hx⟩
    ·exact triv
   ·exact triv
  ·exact triv
 | _ => exact triv
theorem CU (lo : Nat) : ∀ (vs : List V) (H : Hp), ∃ vs' H', (∀ (α : Type) (c : List V → Hp → α), DK lo H vs c = c vs' H') ∧ H'.nx = H.nx ∧ (∀ K S w ρ xs, HRel S w ρ H.get → Inv K S w ρ H.get → LRel S w ρ vs xs → ∃ S', HRel S' w ρ H'.get ∧ Inv K S' w ρ H'.get ∧ Up S S' w w ρ ρ ∧ LRel S' w ρ vs' xs)
 | [], H => ⟨[], H, fun _ _ => rfl, rfl, fun K S w ρ x h1 h2 h3 => ⟨S, h1, h2, Up.refl, h3⟩⟩
 | v :: r, H => by
  obtain ⟨v', H1, e1, n1, k1⟩ := Dn lo H v
  obtain ⟨r', H2, e2, n2, k2⟩ := CU lo r H1
  refine ⟨v' :: r', H2, fun α c => by simp only [DK, e1, e2], n2.trans n1, fun K S w ρ xs hr hi hx => ?_⟩
  simp only [LRel] at hx
  obtain ⟨x, ys, rfl, h1, h2⟩ := hx
  obtain ⟨S1, a1, a2, a3, a4⟩ := k1 K S w ρ x hr hi h1
  obtain ⟨S2, b1, b2, b3, b4⟩ := k2 K S1 w ρ ys a1 a2 (h2.up a3)
  exact ⟨S2, b1, b2, ⟨fun b hb => b3.s b (a3.s b hb), fun _ _ _ => rfl, fun _ _ h => h⟩, x, ys, rfl, a4.up b3, b4⟩
theorem JI (lo : Nat) (H : Hp) (v : V) : ∃ v' H', (∀ (α : Type) (c : V → Hp → α), Iz lo H v c = c v' H') ∧ H'.nx = H.nx ∧ (∀ K S w ρ x, HRel S w ρ H.get → Inv K S w ρ H.get → VRel S w ρ v x → ∃ S', HRel S' w ρ H'.get ∧ Inv K S' w ρ H'.get ∧ Up S S' w w ρ ρ ∧ VRel S' w ρ v' x) := by
 have h0 := Dn lo H v
 cases v
 case agg cs =>
  obtain ⟨vs', H', e, hn, k⟩ := CU lo cs H
  refine ⟨.agg vs', H', fun α c => by simp only [Iz, e], hn, fun K S w ρ x hr hi hx => ?_⟩
  simp only [VRel] at hx
  obtain ⟨xs, rfl, h1⟩ := hx
  obtain ⟨S', a1, a2, a3, a4⟩ := k K S w ρ xs hr hi h1
  exact ⟨S', a1, a2, a3, by simp only [VRel]; exact ⟨xs, rfl, a4⟩⟩
 all_goals exact h0
theorem yn (lo : Nat) : ∀ (vs : List V) (H : Hp), ∃ vs' H', (∀ (α : Type) (c : List V → Hp → α), AB lo H vs c = c vs' H') ∧ H'.nx = H.nx ∧ (∀ K S w ρ xs, HRel S w ρ H.get → Inv K S w ρ H.get → LRel S w ρ vs xs → ∃ S', HRel S' w ρ H'.get ∧ Inv K S' w ρ H'.get ∧ Up S S' w w ρ ρ ∧ LRel S' w ρ vs' xs)
 | [], H => ⟨[], H, fun _ _ => rfl, rfl, fun K S w ρ x h1 h2 h3 => ⟨S, h1, h2, Up.refl, h3⟩⟩
 | v :: r, H => by
  obtain ⟨v', H1, e1, n1, k1⟩ := JI lo H v
  obtain ⟨r', H2, e2, n2, k2⟩ := yn lo r H1
  refine ⟨v' :: r', H2, fun α c => by simp only [AB, e1, e2], n2.trans n1, fun K S w ρ xs hr hi hx => ?_⟩
  simp only [LRel] at hx
  obtain ⟨x, ys, rfl, h1, h2⟩ := hx
  obtain ⟨S1, a1, a2, a3, a4⟩ := k1 K S w ρ x hr hi h1
  obtain ⟨S2, b1, b2, b3, b4⟩ := k2 K S1 w ρ ys a1 a2 (h2.up a3)
  exact ⟨S2, b1, b2, ⟨fun b hb => b3.s b (a3.s b hb), fun _ _ _ => rfl, fun _ _ h => h⟩, x, ys, rfl, a4.up b3, b4⟩
variable {all : Array Oper} {rest : List Oper} {o : Oper} {u : V} {H' : Hp}
theorem LF {ok : Bool} (hw : bh F all o.guard = some true) (hx : qv P K o [] ok n F H u H') (k : Go P K Q (.ops all rest) s n (F.seto o.dst (some u)) H') : Go P K Q (.ops all (o :: rest)) s n F H := fun S w ρ a hr hi hF => by
 show wpList P all (dz P Q s) (o :: rest) a w
 unfold wpList
 rw [if_pos (co hF hw)]
 exact .inl (hx S w ρ a hr hi hF _ _ fun x S' w' ρ' hr' hi' hu _ _ hv => k S' w' ρ' _ hr' hi' (cJ (hF.up hu) o.dst hv))
variable {L : List Nat} {m left i : Nat} {listed : Array Bool}
theorem LC (hrd : Region.ready .any all listed = [i]) (hi : all[i]? = some o) (hw : bh F all o.guard = some true) (hx : qv P K o L ((listed.setIfInBounds i true).getD m false) n F H u H') (k : Go P K Q (.drw all L m left (listed.setIfInBounds i true)) s n (F.seto o.dst (some u)) H') : Go P K Q (.drw all L m (left + 1) listed) s n F H := fun S w ρ a hr hiv hF hs => by
 refine nK (S := S) hrd ?_
 unfold wpOp
 simp only [hi]
 rw [if_pos (co hF hw)]
 exact .inl (hx S w ρ a hr hiv hF _ _ fun x S' w' ρ' hr' hi' hu hA hL hv => mZ hu hA hL (k S' w' ρ' _ hr' hi' (cJ (hF.up hu) o.dst hv) hs))
def kW (P : Program) (K : Ctx) (Q : Exit → Act → World → Prop) (n : Nat) : Rs → Prop
 | .ok e F H => ∀ S w ρ a, HRel S w ρ H.get → Inv K S w ρ H.get → FRel S w ρ a n F → Q (match e with | true => .ret | false => .normal) a w
 | .pt p s F H => Go P K Q p s n F H
 | .er _ _ => False
variable {ih : EP → List EI → Fm → Hp → Rs}
theorem CY {S : Nat → Prop} {w : World} {ρ : Nat → Option Value} {x : Value} : ∀ {rs : List V}, VRel S w ρ (kv rs) x → ∃ ys, LRel S w ρ rs ys ∧ x = vm ys
 | [], hvx => by simp only [kv, VRel] at hvx; obtain ⟨ys, rfl, h1⟩ := hvx; exact ⟨ys, h1, by simp only [LRel] at h1; subst h1; rfl⟩
 | [v], hvx => ⟨[x], ⟨x, [], rfl, hvx, rfl⟩, rfl⟩
 | v :: u :: r, hvx => by
  simp only [kv, VRel] at hvx; obtain ⟨ys, rfl, h1⟩ := hvx
  refine ⟨ys, h1, ?_⟩
  simp only [LRel] at h1
  obtain ⟨_, _, rfl, _, _, _, rfl, _⟩ := h1
  rfl
theorem Ig (hT : TabOk P T) (IH : ∀ p s F H K Q n, kW P K Q n (ih p s F H) → Go P K Q p s n F H) {X : Rs → Prop} (hX : ∀ n m, ¬ X (.er n m)) {keep ok : Bool} {vs : List V} {fid : FuncId} {fn : Func} {b : Code} {c : V → Hp → Rs} (hf : P.funcs[fid]? = some fn) (hb : fn.body = some b) (hl : Nat.ble vs.length fn.ntmps = true)
  (h : X (DD T ih keep vs fn b H L ok c)) : ∃ u H' L', (L' = L ∨ ok = true) ∧ CallR P K fid vs H L' (fun u' H'' => u' = u ∧ H'' = H') ∧ X (c u H') := by
 unfold DD at h
 simp only [] at h
 generalize hR : pZ H 40 (tG vs []) [] = R at h
 split at h
 ·rename_i hok
  rw [tZ] at h
  split at h
  ·rename_i e F1 H1 hrun
   split at h
   ·rename_i rs hres
    split at h
    ·rename_i hnx
     have hnx' : H.nx ≤ H1.nx := Nat.le_of_ble_eq_true hnx
     -- the objects that the call gets
     have hin : ∀ i, (⟨H.nx, dR R H.es⟩ : Hp).get i = H.get i ∨ (⟨H.nx, dR R H.es⟩ : Hp).get i = .gone := fun i => by
      unfold Hp.get
      simp only []
      split
      ·rcases rX (R := R) (i := i) (l := H.es) with e | ⟨_, e⟩
       ·exact .inl e
       ·exact .inr e
      ·exact .inl rfl
     have hout : ∀ i, ko i R = false → Nat.blt i H.nx = true → (⟨H.nx, dR R H.es⟩ : Hp).get i = .gone := fun i hi hlt => by
      unfold Hp.get
      simp only [hlt]
      exact zB hi _
     -- the objects behind the call
     have key : ∀ (H2 : Hp) (es3 : List (Nat × Ob)), H2.nx = H1.nx → (∀ i, ax es3 i = ax H2.es i ∨ ax es3 i = .gone) → ∀ i, ((⟨H2.nx, es3 ++ fe H.nx R H.es⟩ : Hp).get i = H2.get i ∨ (⟨H2.nx, es3 ++ fe H.nx R H.es⟩ : Hp).get i = .gone) ∨ ((⟨H2.nx, es3 ++ fe H.nx R H.es⟩ : Hp).get i = H.get i ∧ (⟨H.nx, dR R H.es⟩ : Hp).get i = .gone ∧ H.get i ≠ .free) := fun H2 es3 hn h3 i => by
      by_cases hlt2 : Nat.blt i H2.nx = true
      ·have e0 : (⟨H2.nx, es3 ++ fe H.nx R H.es⟩ : Hp).get i = ax (es3 ++ fe H.nx R H.es) i := by unfold Hp.get; simp only [hlt2]
       have e2 : H2.get i = ax H2.es i := by unfold Hp.get; rw [hlt2]
       rw [e0, e2]
       rcases BK es3 (fe H.nx R H.es) i with e | ⟨e', e⟩
       ·rw [e]
        rcases h3 i with h3 | h3
        ·exact .inl (.inl h3)
        ·exact .inl (.inr h3)
       ·rw [e]
        rw [GR]
        cases hm : (!ko i R && Nat.blt i H.nx)
        ·exact .inl (.inr (by simp))
        ·have hm' := hm
         simp only [Bool.and_eq_true, Bool.not_eq_true'] at hm'
         have eH : H.get i = ax H.es i := by unfold Hp.get; rw [hm'.2]
         rw [if_pos rfl]
         cases hf : ax H.es i
         case free => exact .inl (.inr rfl)
         all_goals exact .inr ⟨by rw [eH, hf]; rfl, hout i hm'.1 hm'.2, by rw [eH, hf]; simp⟩
      ·have e0 : (⟨H2.nx, es3 ++ fe H.nx R H.es⟩ : Hp).get i = .free := by
        unfold Hp.get; simp only [Bool.not_eq_true] at hlt2; simp only [hlt2]
       have e2 : H2.get i = .free := by unfold Hp.get; simp only [Bool.not_eq_true] at hlt2; rw [hlt2]
       exact .inl (.inl (by rw [e0, e2]))
     -- what holds behind the call
     have fin : ∀ (H2 : Hp) (es3 : List (Nat × Ob)) (rs2 : List V), H2.nx = H1.nx → (∀ i, ax es3 i = ax H2.es i ∨ ax es3 i = .gone) →
       (∀ K S w ρ xs, HRel S w ρ H1.get → Inv K S w ρ H1.get → LRel S w ρ rs xs → ∃ S', HRel S' w ρ H2.get ∧ Inv K S' w ρ H2.get ∧ Up S S' w w ρ ρ ∧ LRel S' w ρ rs2 xs) →
       ∃ L', (L' = L ∨ ok = true) ∧ CallR P K fid vs H L' (fun u' H'' => u' = kv rs2 ∧ H'' = ⟨H2.nx, es3 ++ fe H.nx R H.es⟩) := fun H2 es3 rs2 hn h3 hfz => by
      have main : ∀ L', (∀ (S : Nat → Prop) (w : World) (ρ : Nat → Option Value), HRel S w ρ H.get → L' = [] ∨ (cw H.get L' = true ∧ ∀ id, id ∈ L' → (⟨H.nx, dR R H.es⟩ : Hp).get id = .gone)) → CallR P K fid vs H L' (fun u' H'' => u' = kv rs2 ∧ H'' = ⟨H2.nx, es3 ++ fe H.nx R H.es⟩) := fun L' hL' S w ρ xs hr hi hx => by
       have hr1 := hr.drop (h' := (⟨H.nx, dR R H.es⟩ : Hp).get) hin
       have hi1 : Inv ⟨w, S, fun b => ∃ id, own ρ id ((⟨H.nx, dR R H.es⟩ : Hp).get id) b, ρ⟩ S w ρ (⟨H.nx, dR R H.es⟩ : Hp).get := ⟨ChgP.refl _ _, fun _ h => h, fun _ h => .inl h, fun id b hb => .inl ⟨id, hb⟩, fun _ _ h => h⟩
       refine wU hf hb hl hr1 hi1 hx (IH _ _ _ _ _ _ _ ?_)
       rw [hrun]
       intro S' w' ρ' a' hr' hi' hF'
       obtain ⟨rl, hrl⟩ : ∃ l : List ResultVar, fn.results = l.toArray := ⟨fn.results.toList, by simp⟩
       rw [hrl] at hres
       refine ret_go hT (rs := rl) (by cases e <;> simp) hrl hr' hF' (by simpa using hres) fun x hvx => ?_
       have hLR := CY hvx
       obtain ⟨ys, hys, rfl⟩ := hLR
       obtain ⟨S2, a1, a2, a3, a4⟩ := hfz _ S' w' ρ' ys hr' hi' hys
       obtain ⟨m1, m2, m3, m4⟩ := BQ (h1 := (⟨H.nx, dR R H.es⟩ : Hp).get) (h2 := (⟨H2.nx, es3 ++ fe H.nx R H.es⟩ : Hp).get) hr hi hin a1 a2 (key H2 es3 hn h3)
       refine ⟨_, S2, ρ', _, _, rfl, ⟨rfl, rfl⟩, m1, m2, m3, yk a4, ?_⟩
       rcases hL' S w ρ hr with rfl | ⟨g1, g2⟩
       ·intro id hid; simp at hid
       ·exact m4 L' g1 g2
      rcases vJ hok with hok | hok
      ·simp only [Bool.and_eq_true] at hok
       refine ⟨L, .inl rfl, main L fun S w ρ hr => .inr ⟨hok.1, fun id hid => ?_⟩⟩
       have hmem := List.all_eq_true.1 hok.2 id hid
       simp only [Bool.not_eq_true'] at hmem
       by_cases hlt : Nat.blt id H.nx = true
       ·exact hout id hmem hlt
       ·exfalso
        have hfree : H.get id = .free := by unfold Hp.get; simp only [Bool.not_eq_true] at hlt; rw [hlt]
        have hnl : ∀ (l : List Nat), id ∈ l → cw H.get l = true → False := by
         intro l
         induction l with
         | nil => intro h; simp at h
         | cons j t ih =>
          intro hm hl
          simp only [cw] at hl
          rcases List.mem_cons.1 hm with e | e
          ·subst e; rw [hfree] at hl; cases hl
          ·split at hl
           ·exact ih e hl
           ·exact ih e hl
           ·cases hl
        exact hnl L hid hok.1
      ·exact ⟨[], .inr hok, main [] fun _ _ _ _ => .inl rfl⟩
     split at h
     ·rw [tW] at h
      obtain ⟨L', g1, g2⟩ := fin H1 H1.es rs rfl (fun i => .inl rfl) (fun K S w ρ xs h1 h2 h3 => ⟨S, h1, h2, Up.refl, h3⟩)
      exact ⟨_, _, L', g1, g2, h⟩
     ·obtain ⟨rs2, H2, e1, e2, e3⟩ := yn H.nx rs H1
      rw [e1] at h
      rw [tZ, tW] at h
      obtain ⟨L', g1, g2⟩ := fin H2 (dR _ H2.es) rs2 e2 (fun i => by
       rcases rX (R := pZ H2 60 (tG rs2 R) []) (i := i) (l := H2.es) with e | ⟨_, e⟩
       ·exact .inl e
       ·exact .inr e) e3
      exact ⟨_, _, L', g1, g2, h⟩
    ·exact absurd h (hX _ _)
   ·exact absurd h (hX _ _)
  ·exact absurd h (hX _ _)
  ·exact absurd h (hX _ _)
 ·exact absurd h (hX _ _)
theorem qO (hT : TabOk P T) (IH : ∀ p s F H K Q n, kW P K Q n (ih p s F H) → Go P K Q p s n F H) {X : Rs → Prop} (hX : ∀ n m, ¬ X (.er n m)) {ok : Bool} {c : Option V → Hp → Rs} (h : X (uf T ih F H L ok o c)) : ∃ u H', qv P K o L ok n F H u H' ∧ X (c (some u) H') := by
 unfold uf at h
 split at h
 ·rename_i v hv
  exact ⟨v, H, GH hT hv, h⟩
 ·rw [du] at h
  split at h
  ·rename_i v ed hv
   split at h
   ·rename_i hc
    rw [Hp.ap_eq] at h
    refine ⟨_, _, de hT hv hc, ?_⟩
    cases v with
    | none => exact h
    | some v => exact h
   ·exact absurd h (hX _ _)
  ·split at h
   ·rename_i fid args tys hop
    split at h
    ·rename_i vs hvs
     split at h
     ·rename_i v hn
      obtain ⟨he, hnat⟩ := hT.nat _ _ _ hn
      refine ⟨v, H, gG (L' := L) he (by rw [hop]) hvs (fun S w ρ xs hr hi hx => ?_) (.inl rfl), h⟩
      obtain ⟨x, h1, h2⟩ := hnat S w ρ xs hx
      refine h2.mono fun e w' hR => ?_
      obtain ⟨rfl, rfl⟩ := hR
      exact ⟨x, S, ρ, v, H, rfl, ⟨rfl, rfl⟩, hr, hi, Up.refl, h1, ph⟩
     ·split at h
      ·rename_i fn hfn
       obtain ⟨hf, he⟩ := hT.fn _ _ hfn
       split at h
       ·rename_i b hb
        split at h
        ·rename_i hl
         obtain ⟨u, H', L', g1, g2, g3⟩ := Ig (K := K) hT IH hX hf hb hl h
         exact ⟨u, H', gG he (by rw [hop]) hvs g2 g1, g3⟩
        ·exact absurd h (hX _ _)
       ·exact absurd h (hX _ _)
      ·exact absurd h (hX _ _)
    ·exact absurd h (hX _ _)
   ·exact absurd h (hX _ _)
theorem FN {l : List Nat} {j : Nat} (h : AF l j = true) : l = [j] := by
 unfold AF at h
 split at h
 ·rw [Nat.eq_of_beq_eq_true h]
 ·cases h
theorem AE (hT : TabOk P T) (IH : ∀ p s F H K Q n, kW P K Q n (ih p s F H) → Go P K Q p s n F H) {i : Nat} {ps : List (Nat × Operand)} {vs : List (Nat × V)} {v : V} (hp : rQ T all i vs = some (o, ps, v)) : ∀ (left : Nat) (listed : Array Bool) (F : Fm) (H : Hp), kW P K Q n (zC T ih all L m i o ps v s left listed F H) → GoP P K Q all L m left listed s n F H i o ps vs v
 | left, listed, F, H, h => by
  unfold zC at h
  split at h
  ·rename_i hl
   split at h
   ·rename_i x hrd
    split at h
    ·rename_i hb
     have := Nat.eq_of_beq_eq_true hb
     subst this
     rw [Fm.puto_eq] at h
     exact JW hT hp hrd hl (IH _ _ _ _ _ _ _ h)
    ·exact h.elim
   ·rename_i x y hrd
    cases left with
    | zero => exact h.elim
    | succ left =>
     simp only [du] at h
     generalize hj : ET x y i = j at h
     unfold ET at hj
     split at h
     ·exact h.elim
     ·rename_i hji
      have hne : j ≠ i := Nat.ne_of_beq_eq_false hji
      split at h
      ·rename_i oj hoj
       split at h
       ·rename_i hc
        simp only [Bool.and_eq_true] at hc
        obtain ⟨⟨⟨hc1, hc2⟩, hc3⟩, hc4⟩ := hc
        split at h
        ·rename_i hw
         obtain ⟨u, H', hx, hk⟩ := qO (K := K) (n := n) hT IH (X := kW P K Q n) (fun _ _ h => h) h
         rw [Fm.puto_eq] at hk
         have ih2 := AE hT IH hp left _ _ _ hk
         have hpair : (match Region.ready .any all listed with | [x, y] => (Nat.beq x i && Nat.beq y j) || (Nat.beq x j && Nat.beq y i) | _ => false) = true := by
          rw [hrd]
          simp only []
          cases hx1 : Nat.beq x i
          ·rw [hx1] at hj
           cases hy1 : Nat.beq y i
           ·rw [hy1] at hj; exact absurd hj.symm hne
           ·rw [hy1] at hj; simp only at hj; subst hj; simp
          ·rw [hx1] at hj; simp only at hj; subst hj; simp
         refine Iw hT hp hoj hpair (FN hc1) hl (fun t ht => ?_) hc2 hc3 (Array.setIfInBounds_comm _ _ (Ne.symm hne)) (Post := fun u' H'' => u' = u ∧ H'' = H') (fun S w ρ a hr hi hF K2 hK2 => ?_) (fun u' H'' hP => by obtain ⟨rfl, rfl⟩ := hP; exact ih2)
         ·rw [ht] at hc4
          simp only [Option.isNone_iff_eq_none] at hc4
          exact hc4
         ·unfold wpOp
          simp only [hoj]
          rw [if_pos (co hF hw)]
          refine .inl (hx S w ρ a hr hi hF _ _ fun x S' w' ρ' hr' hi' hu hA hL hv => hK2 x S' w' ρ' u H' ⟨rfl, rfl⟩ hr' hi' hu hA (hL.imp id fun h => ?_) hv)
          simpa only [Bool.and_eq_true] using h
        ·exact h.elim
       ·exact h.elim
      ·exact h.elim
   ·exact h.elim
  ·exact h.elim
theorem Kr (hT : TabOk P T) (IH : ∀ p s F H K Q n, kW P K Q n (ih p s F H) → Go P K Q p s n F H) {i j : Nat} {left : Nat} {listed : Array Bool} (hrd : Region.ready .any all listed = [i, j]) (h : kW P K Q n (Hq T ih all L m left i j listed s F H)) : Go P K Q (.drw all L m (left + 1) listed) s n F H := by
 unfold Hq at h
 split at h
 ·rename_i oi hoi
  split at h
  ·rename_i oj hoj
   split at h
   ·rename_i hwi
    split at h
    ·rename_i hwj
     obtain ⟨ui, Hi, xi, hk⟩ := qO (K := K) (n := n) hT IH (X := kW P K Q n) (fun _ _ h => h) h
     rw [Fm.puto_eq] at hk
     split at hk
     ·rename_i F1 H1 e1
      obtain ⟨uj, Hj, xj, hk2⟩ := qO (K := K) (n := n) hT IH (X := kW P K Q n) (fun _ _ h => h) hk
      rw [Fm.puto_eq] at hk2
      split at hk2
      ·rename_i F2 H2 e2
       split at hk2
       ·rename_i hal
        have c : Go P K Q (.ex .normal) s n F1 H1 := IH _ _ _ _ _ _ _ hk2
        intro S w ρ a hr hi hF
        have hpin : ∀ id x, K.pin id = some x → id < H.nx := fun id x hx => Decidable.byContradiction fun hn => by
         have h1 := hi.pin id x hx
         have h2 := hr.ob id
         have h3 : H.get id = .free := by
          unfold Hp.get
          have : Nat.blt id H.nx = false := by
           cases hb : Nat.blt id H.nx
           ·rfl
           ·exact absurd (by simpa [Nat.blt_eq] using hb) hn
          simp only [this]
         rw [h3] at h2
         have h4 : ρ id = none := h2
         rw [h4] at h1; cases h1
        have g1 : Go P K (dz P Q s) (.drw all L m left (listed.setIfInBounds i true)) [] n (F.seto oi.dst (some ui)) Hi := IH _ _ _ _ _ _ _ (by rw [e1]; exact fun S w ρ a hr hi hF => c S w ρ a hr hi hF)
        have g2 : Go P K (dz P Q s) (.drw all L m left (listed.setIfInBounds j true)) [] n (F.seto oj.dst (some uj)) Hj := IH _ _ _ _ _ _ _ (by rw [e2]; exact fun S w ρ a hr hi hF => go_alike hal hpin c S w ρ a hr hi hF)
        exact dK (by rw [hrd]; simp) hoi hoj hwi hwj xi xj g1 g2 S w ρ a hr hi hF
       ·exact hk2.elim
      ·exact hk2.elim
      ·exact hk2.elim
     ·exact hk.elim
     ·exact hk.elim
    ·exact h.elim
   ·exact h.elim
  ·exact h.elim
 ·exact h.elim
theorem rN : ∀ {R : List Nat} {i : Nat} {ps : List (Nat × Operand)} {v : V}, sX T F all R = some (i, o, ps, v) → ∃ vs, mV F ps = some vs ∧ rQ T all i vs = some (o, ps, v)
 | [], _, _, _, h => by cases h
 | j :: r, i, ps, v, h => by
  unfold sX at h
  split at h
  ·rename_i hj
   split at h
   ·rename_i vs hvs
    split at h
    ·rename_i o' ps' v' hpb
     simp only [Option.some.injEq, Prod.mk.injEq] at h
     obtain ⟨rfl, rfl, rfl, rfl⟩ := h
     refine ⟨vs, ?_, hpb⟩
     have := hpb
     unfold rQ at this
     rw [hj] at this
     simp only at this
     repeat' (split at this)
     all_goals first
      | (cases this; done)
      | (simp only [du, Option.some.injEq, Prod.mk.injEq] at this; obtain ⟨_, rfl, _⟩ := this; exact hvs)
    ·exact rN h
   ·exact rN h
  ·exact rN h
theorem Kq (hT : TabOk P T) (hm : P.follows .mixedOrders = true) (IH : ∀ p s F H K Q n, kW P K Q n (ih p s F H) → Go P K Q p s n F H) : ∀ (p : EP) (s : List EI) (F : Fm) (H : Hp), kW P K Q n (FJ T ih p s F H) → Go P K Q p s n F H
 | .code c, s, F, H, h => by
  replace h : kW P K Q n (ER T ih c s F H) := h
  unfold ER at h
  split at h
  ·exact GS (IH _ _ _ _ _ _ _ h)
  ·exact Av (IH _ _ _ _ _ _ _ h)
  ·exact Da (IH _ _ _ _ _ _ _ h)
  ·exact go_ret (IH _ _ _ _ _ _ _ h)
  ·exact CS (IH _ _ _ _ _ _ _ h)
  ·exact Ho (IH _ _ _ _ _ _ _ h)
  ·exact Iq (IH _ _ _ _ _ _ _ h)
  ·exact go_loop 1000000 (IH _ _ _ _ _ _ _ h)
  ·split at h
   ·exact Bh ‹_› (IH _ _ _ _ _ _ _ h)
   ·exact AO ‹_› (IH _ _ _ _ _ _ _ h)
   ·exact h.elim
  ·exact yE (IH _ _ _ _ _ _ _ h)
  ·split at h
   ·rename_i hs
    simp only [cI, du] at h
    exact Dr _ _ _ rfl hm hs (IH _ _ _ _ _ _ _ h)
   ·exact h.elim
  ·exact h.elim
 | .ops all rest, s, F, H, h => by
  replace h : kW P K Q n (As T ih all rest s F H) := h
  unfold As at h
  split at h
  ·exact FD (IH _ _ _ _ _ _ _ h)
  ·split at h
   ·rw [Fm.puto_eq] at h
    exact GA ‹_› (IH _ _ _ _ _ _ _ h)
   ·obtain ⟨u, H', hx, hk⟩ := qO (K := K) (n := n) hT IH (X := kW P K Q n) (fun _ _ h => h) h
    rw [Fm.puto_eq] at hk
    exact LF ‹_› hx (IH _ _ _ _ _ _ _ hk)
   ·exact h.elim
 | .ex e, s, F, H, h => by
  replace h : kW P K Q n (Ea ih e s F H) := h
  unfold Ea at h
  split at h
  ·split at h
   ·exact fun S w ρ a hr hi hF => h S w ρ a hr hi hF
   ·exact fun S w ρ a hr hi hF => h S w ρ a hr hi hF
   ·exact h.elim
  ·split at h
   ·exact CF (IH _ _ _ _ _ _ _ h)
   ·exact Ae (IH _ _ _ _ _ _ _ h)
   ·exact zN (IH _ _ _ _ _ _ _ h)
   ·exact h.elim
  ·split at h
   ·split at h
    ·exact h.elim
    ·exact go_xloop (IH _ _ _ _ _ _ _ h)
   ·exact go_xloopE (IH _ _ _ _ _ _ _ h)
   ·exact go_xloopR (IH _ _ _ _ _ _ _ h)
   ·exact h.elim
  ·split at h
   ·exact Ic (IH _ _ _ _ _ _ _ h)
   ·exact He (IH _ _ _ _ _ _ _ h)
   ·exact Ii (IH _ _ _ _ _ _ _ h)
   ·exact h.elim
  ·split at h
   ·exact Bv (IH _ _ _ _ _ _ _ h)
   ·split at h
    ·exact AD ‹_› (IH _ _ _ _ _ _ _ h)
    ·exact Az ‹_› (IH _ _ _ _ _ _ _ h)
   ·exact BR (IH _ _ _ _ _ _ _ h)
   ·exact h.elim
 | .drw all L m left listed, s, F, H, h => by
  replace h : kW P K Q n (Dy T ih all L m left listed s F H) := h
  unfold Dy at h
  split at h
  ·exact Be ‹_› (IH _ _ _ _ _ _ _ h)
  ·rename_i i R hrd
   cases left with
   | zero => exact h.elim
   | succ left =>
    simp only [] at h
    split at h
    ·split at h
     ·rename_i o ho
      split at h
      ·rw [Fm.puto_eq] at h
       exact go_d1S hrd ho ‹_› (IH _ _ _ _ _ _ _ h)
      ·obtain ⟨u, H', hx, hk⟩ := qO (K := K) (n := n) hT IH (X := kW P K Q n) (fun _ _ h => h) h
       rw [Fm.puto_eq] at hk
       exact LC hrd ho ‹_› hx (IH _ _ _ _ _ _ _ hk)
      ·exact h.elim
     ·exact h.elim
    ·split at h
     ·split at h
      ·rename_i o ho
       split at h
       ·rename_i hc
        simp only [Bool.and_eq_true, Bool.not_eq_true'] at hc
        obtain ⟨⟨hc1, hc2⟩, hc3⟩ := hc
        split at h
        ·rw [Fm.puto_eq] at h
         exact DI hc3 ho hc2 hc1 ‹_› (IH _ _ _ _ _ _ _ h)
        ·rename_i hw
         split at h
         ·rename_i v hv
          rw [Fm.puto_eq] at h
          exact Jl hT hc3 ho hc2 hc1 hw hv (IH _ _ _ _ _ _ _ h)
         ·split at h
          ·rename_i id hid
           split at h
           ·rename_i hL
            simp only [Bool.and_eq_true, Bool.not_eq_true'] at hL
            obtain ⟨⟨hL1, hL2⟩, hL3⟩ := hL
            split at h
            ·rename_i v ed hv
             rw [Fm.puto_eq] at h
             exact EU hT hc3 hL2 hL3 ho hc2 hc1 hw hid hL1 hv (IH _ _ _ _ _ _ _ h)
            ·exact h.elim
           ·exact h.elim
          ·exact h.elim
        ·exact h.elim
       ·exact h.elim
      ·exact h.elim
     ·split at h
      ·rename_i i' o ps v hpo
       rw [Fm.puto_eq] at h
       obtain ⟨vs, g1, g2⟩ := rN hpo
       exact FI g1 (AE hT IH g2 left listed _ _ h)
      ·split at h
       ·exact Kr hT IH hrd h
       ·exact h.elim
theorem FA (hT : TabOk P T) (hm : P.follows .mixedOrders = true) : ∀ (k : Nat) (p : EP) (s : List EI) (F : Fm) (H : Hp) (K : Ctx) (Q : Exit → Act → World → Prop) (n : Nat), kW P K Q n (run T k p s F H) → Go P K Q p s n F H
 | 0, p, s, F, H, K, Q, n, h => h
 | k + 1, p, s, F, H, K, Q, n, h => Kq hT hm (fun p s F H K Q n h => FA hT hm k p s F H K Q n h) p s F H h
def zO (T : Tab) (k : Nat) (fid : FuncId) (vs : List V) (H : Hp) : Option (List V × Hp) := match T.fn fid with
 |some fn => match fn.body with
  |some b => match Nat.ble vs.length fn.ntmps with
   |true => match run T k (.code b) [] (mB fn.ntmps vs) H with
    |.ok _ F1 H1 => match rf T H1.get F1 fn.results.toList with
     | some rs => some (rs, H1)
     | none => none
    | _ => none
   | false => none
  | none => none
 | none => none
theorem CA (hT : TabOk P T) (hm : P.follows .mixedOrders = true) {k : Nat} {fid : FuncId} {vs rs : List V} {H H1 : Hp} (h : zO T k fid vs H = some (rs, H1)) {S : Nat → Prop} {w : World} {ρ : Nat → Option Value} {xs : List Value} (hr : HRel S w ρ H.get) (hx : LRel S w ρ vs xs) : cn P fid = true ∧
  Calls P fid xs.toArray w fun e w' => ∃ S' ρ' ys, e = .returned (vm ys) ∧ HRel S' w' ρ' H1.get ∧ Inv ⟨w, S, fun b => ∃ id, own ρ id (H.get id) b, ρ⟩ S' w' ρ' H1.get ∧ LRel S' w' ρ' rs ys := by
 unfold zO at h
 split at h
 ·rename_i fn hfn
  obtain ⟨hf, he⟩ := hT.fn _ _ hfn
  split at h
  ·rename_i b hb
   split at h
   ·rename_i hl
    split at h
    ·rename_i e F1 H1' hrun
     split at h
     ·rename_i rs' hres
      simp only [Option.some.injEq, Prod.mk.injEq] at h
      obtain ⟨rfl, rfl⟩ := h
      refine ⟨he, ?_⟩
      have hi1 : Inv ⟨w, S, fun b => ∃ id, own ρ id (H.get id) b, ρ⟩ S w ρ H.get := ⟨ChgP.refl _ _, fun _ h => h, fun _ h => .inl h, fun id b hb => .inl ⟨id, hb⟩, fun _ _ h => h⟩
      refine wU hf hb hl hr hi1 hx (FA hT hm k _ _ _ _ _ _ _ ?_)
      rw [hrun]
      intro S' w' ρ' a' hr' hi' hF'
      obtain ⟨rl, hrl⟩ : ∃ l : List ResultVar, fn.results = l.toArray := ⟨fn.results.toList, by simp⟩
      rw [hrl] at hres
      refine ret_go hT (rs := rl) (by cases e <;> simp) hrl hr' hF' (by simpa using hres) fun x hvx => ?_
      have hLR := CY hvx
      obtain ⟨ys, hys, rfl⟩ := hLR
      exact ⟨S', ρ', ys, rfl, hr', hi', hys⟩
     ·cases h
    ·cases h
   ·cases h
  ·cases h
 ·cases h
end
def zH : List (List UInt8) → List V → Bool
 | [], [] => true
 | s :: r, .str l :: q => lEq s l && zH r q
 | _, _ => false
def BM (ls : List (List UInt8)) : V → Bool
 | .nils => ls.isEmpty
 | .row sz els => Nat.beq sz 1 && zH ls els
 | _ => false
mutual
def treeB : Tree → V → Bool
 |.node k s ls ks, v => match v with
  |.agg [.int .i64 k', .str s', l, r] => iEq k k' && lEq s s' && BM ls l && (match r with
   | .nils => ks.isEmpty
   | .row sz els => Nat.beq sz 4 && kidsB ks els
   | _ => false)
  | _ => false
def kidsB : List Tree → List V → Bool
 |[], vs => match vs with
  | [] => true
  | _ => false
 |t :: r, vs => match vs with
  | v :: q => treeB t v && kidsB r q
  | [] => false
end
section
variable {S : Nat → Prop} {w : World}
theorem Ab {ρ : Nat → Option Value} : ∀ {ls : List (List UInt8)} {els : List V} {xs : List Value}, zH ls els = true → CRel S w ρ 1 els xs → els.length = ls.length ∧ xs = ls.map qa
 | [], [], xs, _, hc => by simp only [CRel] at hc; subst hc; exact ⟨rfl, rfl⟩
 | s :: r, v :: q, xs, hb, hc => by
  cases v <;> simp only [zH] at hb <;> first | (cases hb; done) | skip
  rename_i l
  simp only [Bool.and_eq_true] at hb
  have hl := hb.1
  rw [sQ] at hl
  simp only [beq_iff_eq] at hl
  subst hl
  simp only [CRel] at hc
  obtain ⟨x, ys, rfl, _, h3, h4⟩ := hc
  simp only [VRel] at h3
  subst h3
  obtain ⟨h5, h6⟩ := Ab hb.2 h4
  exact ⟨by simp [h5], by simp [h6, Value.cells]⟩
 | [], _ :: _, _, hb, _ => by cases hb
 | _ :: _, [], _, hb, _ => by cases hb
theorem GL {ρ : Nat → Option Value} {ls : List (List UInt8)} {v : V} {x : Value} (hb : BM ls v = true) (hx : VRel S w ρ v x) : ∃ A m, x = .slice A ls.length m ∧ ls.length ≤ m ∧ m ≤ maxLen ∧ RowIn S w 1 A ls.length (ls.map qa) := by
 cases v <;> simp only [BM] at hb <;> first | (cases hb; done) | skip
 ·simp only [List.isEmpty_iff] at hb
  subst hb
  simp only [VRel] at hx; subst hx
  exact ⟨none, 0, rfl, Nat.le_refl _, by decide, RowIn.none_⟩
 ·rename_i sz els
  simp only [Bool.and_eq_true, Nat.beq_eq] at hb
  obtain ⟨rfl, hb⟩ := hb
  simp only [VRel] at hx
  obtain ⟨A, c, xs, rfl, h3, h4, h5, h6⟩ := hx
  obtain ⟨h7, rfl⟩ := Ab hb h5
  rw [h7] at h3 h6 ⊢
  exact ⟨A, c, rfl, h3, h4, h6⟩
mutual
theorem treeB_ok {ρ : Nat → Option Value} : ∀ {t : Tree} {v : V} {x : Value}, treeB t v = true → VRel S w ρ v x → ∃ c, x = .agg c.toArray ∧ TreeIs S w t c
 | .node k s ls ks, v, x, hb, hx => by
  unfold treeB at hb
  split at hb
  ·rename_i k' s' l r
   simp only [Bool.and_eq_true] at hb
   obtain ⟨⟨⟨hb1, hb2⟩, hb3⟩, hb4⟩ := hb
   rw [uZ] at hb1
   rw [sQ] at hb2
   simp only [beq_iff_eq] at hb1 hb2
   subst hb1 hb2
   simp only [VRel] at hx
   obtain ⟨xs, rfl, hl⟩ := hx
   simp only [LRel] at hl
   obtain ⟨x0, _, rfl, h0, x1, _, rfl, h1, x2, _, rfl, h2, x3, _, rfl, h3, rfl⟩ := hl
   simp only [VRel] at h0 h1
   subst h0 h1
   obtain ⟨A, m, rfl, g1, g2, g3⟩ := GL hb3 h2
   have kk : ∃ B n, x3 = .slice B ks.length n ∧ ks.length ≤ n ∧ n ≤ maxLen ∧ ∃ cs, KidsAre S w ks cs ∧ RowIn S w 4 B ks.length cs := by
    split at hb4
    ·simp only [List.isEmpty_iff] at hb4
     subst hb4
     simp only [VRel] at h3; subst h3
     exact ⟨none, 0, rfl, Nat.le_refl _, by decide, [], by simp only [KidsAre], RowIn.none_⟩
    ·rename_i sz els
     simp only [Bool.and_eq_true, Nat.beq_eq] at hb4
     obtain ⟨rfl, hb4⟩ := hb4
     simp only [VRel] at h3
     obtain ⟨B, c, ys, rfl, q3, q4, q5, q6⟩ := h3
     obtain ⟨q7, q8⟩ := kidsB_ok hb4 q5
     rw [q7] at q3 q6 ⊢
     exact ⟨B, c, rfl, q3, q4, ys, q8, q6⟩
    ·cases hb4
   obtain ⟨B, n, rfl, k1, k2, cs, k3, k4⟩ := kk
   exact ⟨_, rfl, JK g1 g2 k1 k2 g3 k3 k4⟩
  ·cases hb
theorem kidsB_ok {ρ : Nat → Option Value} : ∀ {ts : List Tree} {vs : List V} {xs : List Value}, kidsB ts vs = true → CRel S w ρ 4 vs xs → vs.length = ts.length ∧ KidsAre S w ts xs
 | [], vs, xs, hb, hc => by
  unfold kidsB at hb
  split at hb
  ·simp only [CRel] at hc; subst hc; exact ⟨rfl, by simp only [KidsAre]⟩
  ·cases hb
 | t :: r, vs, xs, hb, hc => by
  unfold kidsB at hb
  split at hb
  ·rename_i v q
   simp only [Bool.and_eq_true] at hb
   simp only [CRel] at hc
   obtain ⟨x, ys, rfl, _, h3, h4⟩ := hc
   obtain ⟨c, rfl, hT⟩ := treeB_ok hb.1 h3
   obtain ⟨h5, h6⟩ := kidsB_ok hb.2 h4
   exact ⟨by simp [h5], by simp only [KidsAre]; exact ⟨c, ys, by simp [Value.cells], hT, h6⟩⟩
  ·cases hb
end
end
def BI (T : Tab) (k : Nat) (fid : FuncId) (vs : List V) : Option (List V) := match zO T k fid vs ⟨0, []⟩ with
 | some (rs, H1) => AB 0 H1 rs fun rs' _ => some rs'
 | none => none
theorem uO (i : Nat) : (⟨0, []⟩ : Hp).get i = .free := by
 unfold Hp.get
 have : Nat.blt i 0 = false := by cases i <;> rfl
 simp only [this]
theorem IS {w : World} {S : Nat → Prop} (hg : SOk S w) : HRel S w (fun _ => none) (⟨0, []⟩ : Hp).get :=
 ⟨fun i => by rw [uO]; rfl, fun i b hb => by rw [uO] at hb; exact hb.elim, fun i j b hb _ => by rw [uO] at hb; exact hb.elim, hg⟩
theorem Ks {P : Program} {T : Tab} (hT : TabOk P T) (hm : P.follows .mixedOrders = true) {k : Nat} {fid : FuncId} {vs rs : List V} (h : BI T k fid vs = some rs) {S : Nat → Prop} {w : World} {xs : List Value} (hg : SOk S w) (hx : LRel S w (fun _ => none) vs xs) :
  Calls P fid xs.toArray w fun e w' => ∃ S' ρ' ys, e = .returned (vm ys) ∧ SOk S' w' ∧ (∀ b, S b → S' b) ∧ (∀ b, S' b → S b ∨ w.heap.size ≤ b) ∧ Chg [] w w' ∧ LRel S' w' ρ' rs ys := by
 unfold BI at h
 split at h
 ·rename_i rs1 H1 hrun
  obtain ⟨rs2, H2, e1, _, e3⟩ := yn 0 rs1 H1
  rw [e1] at h
  injection h with h; subst h
  refine (CA hT hm hrun (IS hg) hx).2.mono fun e w' hR => ?_
  obtain ⟨S', ρ', ys, rfl, hr, hi, hl⟩ := hR
  obtain ⟨S2, a1, a2, a3, a4⟩ := e3 _ S' w' ρ' ys hr hi hl
  have hno : ∀ b, ¬ ∃ id, own (fun _ => none) id ((⟨0, []⟩ : Hp).get id) b := fun b ⟨id, hb⟩ => by rw [uO] at hb; exact hb
  refine ⟨S2, ρ', ys, rfl, a1.slt, a2.s0, fun b hb => ?_, ⟨hi.chg.os, hi.chg.tape, hi.chg.output, hi.chg.size, fun b hb _ => hi.chg.block b hb (hno b)⟩, a4⟩
  rcases a2.s1 b hb with h | h | h
  ·exact .inl h
  ·exact absurd h (hno b)
  ·exact .inr h
 ·cases h
def Ei (fid : FuncId) (vs : List V) : Option V := match Nat.beq fid 120 with
 |true => match vs with
  | [.str s, .int .u8 (.ofNat c)] => Ek (Lib.indexByte s c.toUInt8) fun n => some (.int .i64 n)
  | _ => none
 | false => none
noncomputable def DU : Tab := ⟨true, lV tyL, lV fnL, Ei, fun f => Nat.beq f 47⟩
theorem CD : TabOk Tryz.prog DU := by
 refine ⟨BE, Md, fun i vs v hv => ?_⟩
 replace hv : Ei i vs = some v := hv
 unfold Ei at hv
 split at hv
 ·rename_i hb
  have := Nat.eq_of_beq_eq_true hb
  subst this
  split at hv
  ·rename_i s c
   rw [Dh] at hv
   injection hv with hv; subst hv
   refine ⟨by kernel_rfl, fun S w ρ xs hx => ?_⟩
   simp only [LRel] at hx
   obtain ⟨x0, _, rfl, h0, x1, _, rfl, h1, rfl⟩ := hx
   simp only [VRel] at h0 h1
   subst h0 h1
   exact ⟨_, by simp only [VRel]; rfl, DX _ _ _⟩
  ·cases hv
 ·cases hv
def vq (t : Tree) : Option (List V) → Bool
 | some [v, .int .i64 a, .int .i64 e] => treeB t v && iEq a 0 && iEq e 0
 | _ => false
theorem FR {k : Nat} {l : List UInt8} {t : Tree} (h : vq t (BI DU k 20 [.str l]) = true) {S : Nat → Prop} {w : World} (hg : SOk S w) : Calls Tryz.prog 20 [qa l].toArray w fun e w' => ∃ S' c0 c1 c2 c3, e = .returned (.tuple #[.agg #[c0, c1, c2, c3], .int .i64 0, .int .i64 0]) ∧ SOk S' w' ∧ (∀ b, S b → S' b) ∧ (∀ b, S' b → S b ∨ w.heap.size ≤ b) ∧ TreeIs S' w' t [c0, c1, c2, c3] ∧ Chg [] w w' := by
 unfold vq at h
 split at h
 ·rename_i v a e hr
  simp only [Bool.and_eq_true, uZ, beq_iff_eq] at h
  obtain ⟨⟨h1, rfl⟩, rfl⟩ := h
  refine (Ks CD (by kernel_rfl) hr hg (xs := [qa l]) ⟨_, [], rfl, by simp only [VRel], rfl⟩).mono fun e w' hR => ?_
  obtain ⟨S', ρ', ys, rfl, g0, g1, g2, g4, g3⟩ := hR
  simp only [LRel] at g3
  obtain ⟨x0, _, rfl, h0, x1, _, rfl, h2, x2, _, rfl, h3, rfl⟩ := g3
  simp only [VRel] at h2 h3
  subst h2 h3
  obtain ⟨c, rfl, hT⟩ := treeB_ok h1 h0
  have h4 := hT.four
  match c, h4, hT with
  | [c0, c1, c2, c3], _, hT => exact ⟨S', c0, c1, c2, c3, rfl, g0, g1, g2, hT, g4⟩
 ·cases h
section
variable {S : Nat → Prop} {w : World} {ρ : Nat → Option Value}
theorem AR : ∀ ls : List (List UInt8), CRel S w ρ 1 (ls.map .str) (ls.map qa)
 | [] => by simp [CRel]
 | s :: r => by
  simp only [List.map_cons, CRel]
  exact ⟨qa s, r.map qa, by simp [Value.cells, qa], ⟨rfl, rfl⟩, by unfold VRel; rfl, AR r⟩
theorem Bg : ∀ ls : List Int, CRel S w ρ 1 (ls.map (V.int .i64)) (ls.map fun z => .int .i64 z)
 | [] => by simp [CRel]
 | s :: r => by
  simp only [List.map_cons, CRel]
  exact ⟨.int .i64 s, _, by simp [Value.cells], ⟨rfl, rfl⟩, by unfold VRel; rfl, Bg r⟩
mutual
theorem TreeIs.vrel : ∀ {ρ : Nat → Option Value} {t : Tree} {c : List Value}, TreeIs S w t c → LRel S w ρ (ak t) c
 | ρ, .node k s ls ks, c, h => by
  simp only [TreeIs] at h
  obtain ⟨A, m, B, n, rfl, h1, h2, h3, h4, h5, cs, h6, h7⟩ := h
  simp only [ak, Tree.kind, Tree.text, Tree.leads, Tree.kids, LRel, VRel]
  exact ⟨_, _, rfl, rfl, _, _, rfl, rfl, _, _, rfl, ⟨A, m, _, by simp, by simpa using h1, h2, AR ls, by simpa using h5⟩, _, _, rfl, ⟨B, n, cs, by simp [pH], by simpa [pH] using h3, h4, KidsAre.crel h6, by simpa [pH] using h7⟩, rfl⟩
theorem KidsAre.crel : ∀ {ρ : Nat → Option Value} {ts : List Tree} {cs : List Value}, KidsAre S w ts cs → CRel S w ρ 4 (kidsV ts) cs
 | ρ, [], cs, h => by simp only [KidsAre] at h; simp only [kidsV, CRel]; exact h
 | ρ, t :: r, cs, h => by
  simp only [KidsAre] at h
  obtain ⟨c, d, rfl, h1, h2⟩ := h
  simp only [kidsV, CRel, lz]
  exact ⟨.agg c.toArray, d, by simp [Value.cells], ⟨by simp [Value.cells, h1.four], by simpa [Value.cells] using h1.one⟩, by simp only [VRel]; exact ⟨c, rfl, h1.vrel⟩, KidsAre.crel h2⟩
end
end
theorem Ke {k : Nat} {l : List UInt8} {t : Tree} (h : vq t (BI DU k 20 [.str l]) = true) : oX Tryz.prog 20 [.str l] (.tup [.agg (ak t), .int .i64 0, .int .i64 0]) := by
 refine ⟨rfl, rfl, fun S w ρ xs hr hx => ?_⟩
 simp only [LRel, VRel] at hx
 obtain ⟨x, ys, rfl, rfl, rfl⟩ := hx
 refine (FR h hr.slt).mono ?_
 rintro e w' ⟨S', c0, c1, c2, c3, rfl, g0, g1, g2, hT, hc⟩
 have g := hr.chg0 hc
 refine ⟨_, S', ρ, _, ⟨0, []⟩, rfl, rfl, ⟨fun i => ?_, fun i b hb => ?_, fun i j b hb _ => ?_, g0⟩, ⟨ChgP.of0 hc, g1, fun b hb => (g2 b hb).elim .inl fun h => .inr (.inr h), fun id b hb => .inl ⟨id, hb⟩, fun id x h => ?_⟩, ?_⟩
 ·have := g.ob i; rw [uO] at this ⊢; exact this
 ·rw [uO] at hb; exact hb.elim
 ·rw [uO] at hb; exact hb.elim
 ·simp only [sy] at h
  split at h
  ·exact h
  ·cases h
 ·have hk := TreeIs.vrel (ρ := ρ) hT
  simp only [VRel]
  exact ⟨[.agg #[c0, c1, c2, c3], .int .i64 0, .int .i64 0], rfl, .agg #[c0, c1, c2, c3], _, rfl, by simp only [VRel]; exact ⟨_, rfl, hk⟩, _, _, rfl, by simp only [VRel], _, _, rfl, by simp only [VRel], rfl⟩
def lJ (f : V → Option V) : List V → Option (List V)
 | [] => some []
 |v :: r => match f v with
  |some u => match lJ f r with
   | some l => some (u :: l)
   | none => none
  | none => none
def qz (h : Nat → Ob) : Nat → V → Option V
 | 0, _ => none
 |n + 1, v => match v with
  |.sl id => match h id with
   |.row _ sz els => match lJ (qz h n) els with
    | some l => some (.row sz l)
    | none => none
   | _ => none
  |.agg cs => match lJ (qz h n) cs with
   | some l => some (.agg l)
   | none => none
  |v => match v.pure with
   | true => some v
   | false => none
section
variable {S : Nat → Prop} {w : World} {ρ : Nat → Option Value} {h : Nat → Ob}
abbrev un (S : Nat → Prop) (ρ : Nat → Option Value) (h : Nat → Ob) : Nat → Prop := fun b => S b ∨ ∃ id, own ρ id (h id) b
theorem Gf : Up S (un S ρ h) w w ρ0 ρ0 := ⟨fun _ h => .inl h, fun _ _ _ => rfl, fun _ _ h => h⟩
theorem BH {f : V → Option V} : ∀ {l u : List V}, lJ f l = some u → u.length = l.length
 | [], u, e => by simp only [lJ, Option.some.injEq] at e; subst e; rfl
 | v :: r, u, e => by
  simp only [lJ] at e
  split at e
  ·split at e
   ·rename_i l hl
    injection e with e; subst e
    simp [BH hl]
   ·cases e
  ·cases e
theorem yp (hr : HRel S w ρ h) : ∀ (n : Nat) {v u : V} {x : Value}, qz h n v = some u → VRel S w ρ v x → VRel (un S ρ h) w ρ0 u x
 | 0, v, u, x, e, _ => by cases e
 | n + 1, v, u, x, e, hx => by
  have ihL : ∀ {l us : List V} {xs : List Value}, lJ (qz h n) l = some us → LRel S w ρ l xs → LRel (un S ρ h) w ρ0 us xs := fun {l} => by
   induction l with
   | nil => intro us xs e hx; simp only [lJ, Option.some.injEq] at e; subst e; simpa only [LRel] using hx
   | cons v r ih =>
    intro us xs e hx
    simp only [lJ] at e
    split at e
    ·rename_i u hu
     split at e
     ·rename_i l hl
      injection e with e; subst e
      simp only [LRel] at hx ⊢
      obtain ⟨y, ys, rfl, h1, h2⟩ := hx
      exact ⟨y, ys, rfl, yp hr n hu h1, ih hl h2⟩
     ·cases e
    ·cases e
  have ihC : ∀ {sz : Nat} {l us : List V} {xs : List Value}, lJ (qz h n) l = some us → CRel S w ρ sz l xs → CRel (un S ρ h) w ρ0 sz us xs := fun {sz l} => by
   induction l with
   | nil => intro us xs e hx; simp only [lJ, Option.some.injEq] at e; subst e; simpa only [CRel] using hx
   | cons v r ih =>
    intro us xs e hx
    simp only [lJ] at e
    split at e
    ·rename_i u hu
     split at e
     ·rename_i l hl
      injection e with e; subst e
      simp only [CRel] at hx ⊢
      obtain ⟨y, ys, rfl, h0, h1, h2⟩ := hx
      exact ⟨y, ys, rfl, h0, yp hr n hu h1, ih hl h2⟩
     ·cases e
    ·cases e
  have pur : ∀ v : V, v.pure = true → VRel S w ρ v x → VRel (un S ρ h) w ρ0 v x := fun v hp hx => VRel.up Gf (hx.pure (ρ' := ρ0) hp)
  simp only [qz] at e
  split at e
  ·rename_i id
   split at e
   ·rename_i et sz els ho
    split at e
    ·rename_i l hl
     injection e with e; subst e
     simp only [VRel] at hx
     obtain ⟨v, xs, h1, h2, h3⟩ := iw hr ho
     rw [hx.1] at h1
     cases h1
     obtain ⟨A, c, rfl, hc, hcm⟩ := eP h2
     have hlen := BH hl
     simp only [VRel]
     refine ⟨A, c, xs, by rw [hlen], by rw [hlen]; exact hc, hcm, ihC hl h3, by rw [hlen]; exact h3.length, fun hn => ?_⟩
     rw [hlen] at hn ⊢
     obtain ⟨g, cap, hv, _, hlt⟩ := h2.form hn
     injection hv with e1 e2 e3
     subst e1 e3
     exact ⟨g, 0, rfl, .inr ⟨id, by rw [ho]; exact ⟨_, hx.1, rfl⟩⟩, hlt, fun j hj => by rw [Nat.zero_add]; exact rc h2 hj⟩
    ·cases e
   ·cases e
  ·split at e
   ·rename_i l hl
    injection e with e; subst e
    simp only [VRel] at hx ⊢
    obtain ⟨xs, rfl, h1⟩ := hx
    exact ⟨xs, rfl, ihL hl h1⟩
   ·cases e
  ·split at e
   ·rename_i hp
    injection e with e; subst e
    exact pur _ hp hx
   ·cases e
theorem AS (hr : HRel S w ρ h) {n : Nat} : ∀ {l us : List V} {xs : List Value}, lJ (qz h n) l = some us → LRel S w ρ l xs → LRel (un S ρ h) w ρ0 us xs
 | [], us, xs, e, hx => by simp only [lJ, Option.some.injEq] at e; subst e; simpa only [LRel] using hx
 | v :: r, us, xs, e, hx => by
  simp only [lJ] at e
  split at e
  ·rename_i u hu
   split at e
   ·rename_i l hl
    injection e with e; subst e
    simp only [LRel] at hx ⊢
    obtain ⟨y, ys, rfl, h1, h2⟩ := hx
    exact ⟨y, ys, rfl, yp hr n hu h1, AS hr hl h2⟩
   ·cases e
  ·cases e
end
theorem Fu {P : Program} {T : Tab} (hT : TabOk P T) (hm : P.follows .mixedOrders = true) {k n : Nat} {fid : FuncId} {vs rs us0 us : List V} {H1 : Hp} (hp : pureL vs = true) (hq : (kv us).pure = true) (h : zO T k fid vs ⟨0, []⟩ = some (rs, H1)) (hd : lJ (qz H1.get n) rs = some us0) (hc : ∀ {S w ys}, LRel S w ρ0 us0 ys → LRel S w ρ0 us ys) : oX P fid vs (kv us) := ⟨hp, hq, fun S w ρ xs hr hx => by
 refine (CA hT hm h hr hx).2.mono fun e w' hR => ?_
 obtain ⟨S', ρ', ys, rfl, hr', hi, hl⟩ := hR
 have hno : ∀ b, ¬ ∃ id, own ρ id ((⟨0, []⟩ : Hp).get id) b := fun b ⟨id, hb⟩ => by rw [lX] at hb; exact hb
 have hk : ∀ b, un S' ρ' H1.get b → S b ∨ w.heap.size ≤ b := fun b hb => by
  rcases hb with hb | ⟨id, hb⟩
  ·rcases hi.s1 b hb with h | h | h
   ·exact .inl h
   ·exact absurd h (hno b)
   ·exact .inr h
  ·rcases hi.ow id b hb with h | h
   ·exact absurd h (hno b)
   ·exact .inr h
 have hup : Up S' (un S' ρ' H1.get) w' w' ρ0 ρ0 := Gf
 refine ⟨_, un S' ρ' H1.get, ρ, kv us, ⟨0, []⟩, rfl, rfl, ⟨fun i => ?_, fun i b hb => ?_, fun i j b hb _ => ?_, hr'.slt.up hup fun b hb => ?_⟩, ⟨hi.chg, fun b hb => .inl (hi.s0 b hb), fun b hb => (hk b hb).elim .inl fun h => .inr (.inr h), fun id b hb => ?_, fun id x h => ?_⟩, (yk (hc (AS hr' hd hl))).up up0⟩
 ·have := hr.ob i; rw [lX] at this ⊢; exact this
 ·rw [lX] at hb; exact hb.elim
 ·rw [lX] at hb; exact hb.elim
 ·rcases hb with hb | ⟨id, hb⟩
  ·exact hr'.slt b hb
  ·exact fi (hr'.ob id) hb
 ·rw [lX] at hb; exact hb.elim
 ·simp only [sy] at h
  split at h
  ·exact h
  ·cases h⟩
theorem EY (t : Tree) (q : List Int) : pureL [.agg (ak t), .row 1 (q.map (V.int .i64))] = true := rfl
theorem Cr (u : Tree) : (kv [.agg (ak u), .bool true]).pure = true := rfl
noncomputable def fnA : List (Nat × Func) := [(23, Tryz.f23), (50, Tryz.f50), (51, Tryz.f51), (89, Tryz.f89), (90, Tryz.f90)]
theorem Ll : ∀ i f, lV fnA i = some f → Tryz.prog.funcs[i]? = some f ∧ cn Tryz.prog i = true := zQ ⟨⟨Tryz.func23, by kernel_rfl⟩, ⟨Tryz.func50, by kernel_rfl⟩, ⟨Tryz.func51, by kernel_rfl⟩, ⟨Tryz.func89, by kernel_rfl⟩, ⟨Tryz.func90, by kernel_rfl⟩, trivial⟩
noncomputable def KL : Tab := ⟨true, lV tyL, lV fnA, Ei, fun _ => true⟩
theorem Jx : TabOk Tryz.prog KL := ⟨BE, Ll, CD.nat⟩
noncomputable def Ew (k : Nat) (t : Tree) (q : List Int) (u : Tree) : Bool := match zO KL k 23 [.agg (ak t), .row 1 (q.map (V.int .i64))] ⟨0, []⟩ with
 |some (rs, H1) => match lJ (qz H1.get 30) rs with
  | some [v, .bool b] => treeB u v && b
  | _ => false
 | none => false
theorem JT {k : Nat} {t u : Tree} {q : List Int} (h : Ew k t q u = true) : vd t q u true := by
 unfold Ew at h
 split at h
 ·rename_i rs H1 h1
  split at h
  ·rename_i v b h2
   simp only [Bool.and_eq_true] at h
   obtain ⟨h3, rfl⟩ := h
   refine Fu (us := [.agg (ak u), .bool true]) Jx (by kernel_rfl) (EY t q) (Cr u) h1 h2 fun {S w ys} hl => ?_
   simp only [LRel] at hl ⊢
   obtain ⟨x, _, rfl, hv, y, _, rfl, hb, rfl⟩ := hl
   obtain ⟨c, rfl, hT⟩ := treeB_ok h3 hv
   exact ⟨_, _, rfl, by simp only [VRel]; exact ⟨_, rfl, hT.vrel⟩, _, _, rfl, hb, rfl⟩
  ·cases h
 ·cases h
abbrev FE := ae
def nz (a b : Int) : Int := if a < b then -1 else if b < a then 1 else 0
def eg : List Int → List Int → Int
 | [], [] => 0
 | [], _ :: _ => -1
 | _ :: _, [] => 1
 | a :: r, b :: s => if nz a b ≠ 0 then nz a b else eg r s
def jz (a b : FE) : Int := if nz a.At.Module b.At.Module ≠ 0 then nz a.At.Module b.At.Module else if eg a.At.Path b.At.Path ≠ 0 then eg a.At.Path b.At.Path else nz a.Kind b.Kind
theorem ifz {c d : Int} (h : c = 0) : (if c ≠ 0 then c else d) = d := if_neg (by simp [h])
theorem ifn {c d : Int} (h : c ≠ 0) : (if c ≠ 0 then c else d) = c := if_pos h
structure Tot {α : Type} (c : α → α → Int) : Prop where
 eq : ∀ a b, c a b = 0 ↔ a = b
 an : ∀ a b, c a b < 0 ↔ 0 < c b a
 tr : ∀ a b d, c a b < 0 → c b d < 0 → c a d < 0
theorem uk : Tot nz := ⟨fun a b => by unfold nz; split <;> (try split) <;> omega, fun a b => by unfold nz; (repeat' split) <;> omega, fun a b d => by unfold nz; (repeat' split) <;> omega⟩
theorem Dt : ∀ a b : List Int, eg a b = 0 ↔ a = b
 | [], [] => by simp [eg]
 | [], _ :: _ => by simp [eg]
 | _ :: _, [] => by simp [eg]
 | a :: r, b :: s => by
  simp only [eg, List.cons.injEq]
  have h1 := uk.eq a b
  have h2 := Dt r s
  split
  ·rename_i h
   exact ⟨fun e => absurd e h, fun e => absurd (h1.2 e.1) h⟩
  ·rename_i h
   have h' : nz a b = 0 := Decidable.not_not.1 h
   exact ⟨fun e => ⟨h1.1 h', h2.1 e⟩, fun e => h2.2 e.2⟩
theorem CV : ∀ a b : List Int, eg a b < 0 ↔ 0 < eg b a
 | [], [] => by simp [eg]
 | [], _ :: _ => by simp [eg]
 | _ :: _, [] => by simp [eg]
 | a :: r, b :: s => by
  have h1 := uk.an a b
  have h2 := uk.eq a b
  have h3 := uk.eq b a
  have h4 := CV r s
  simp only [eg]
  by_cases h : a = b
  ·subst h
   rw [ifz (h2.2 rfl), ifz (h2.2 rfl)]; exact h4
  ·rw [ifn (fun e => h (h2.1 e)), ifn (fun e => h (h3.1 e).symm)]; exact h1
theorem CK : ∀ a b d : List Int, eg a b < 0 → eg b d < 0 → eg a d < 0
 | [], [], d, h, _ => by simp [eg] at h
 | [], _ :: _, [], _, h => by simp [eg] at h
 | [], _ :: _, _ :: _, _, _ => by simp [eg]
 | _ :: _, [], d, h, _ => by simp [eg] at h
 | _ :: _, _ :: _, [], _, h => by simp [eg] at h
 | a :: r, b :: s, d :: t, h, k => by
  simp only [eg] at h k ⊢
  have h1 := uk.eq a b
  have h2 := uk.eq b d
  have h3 := uk.eq a d
  have h4 := uk.tr a b d
  by_cases e : a = b
  ·subst e
   rw [ifz (h1.2 rfl)] at h
   by_cases e2 : a = d
   ·subst e2
    rw [ifz (h1.2 rfl)] at k ⊢
    exact CK r s t h k
   ·rw [ifn (fun x => e2 (h3.1 x))] at k ⊢
    exact k
  ·rw [ifn (fun x => e (h1.1 x))] at h
   by_cases e2 : b = d
   ·subst e2
    rw [ifn (fun x => e (h1.1 x))]; exact h
   ·rw [ifn (fun x => e2 (h2.1 x))] at k
    have := h4 h k
    rw [ifn (c := nz a d) (by omega)]; exact this
theorem NH : Tot eg := ⟨Dt, CV, CK⟩
theorem qd : Tot jz := by
 have z := uk
 have l := NH
 refine ⟨fun a b => ?_, fun a b => ?_, fun a b d => ?_⟩
 ·obtain ⟨⟨m, p⟩, k⟩ := a
  obtain ⟨⟨m', p'⟩, k'⟩ := b
  simp only [jz, ae.mk.injEq, GPlace.mk.injEq]
  have h1 := z.eq m m'
  have h2 := l.eq p p'
  have h3 := z.eq k k'
  by_cases e1 : nz m m' = 0
  ·rw [ifz e1]
   by_cases e2 : eg p p' = 0
   ·rw [ifz e2]
    exact ⟨fun e => ⟨⟨h1.1 e1, h2.1 e2⟩, h3.1 e⟩, fun e => h3.2 e.2⟩
   ·rw [ifn e2]
    exact ⟨fun e => absurd e e2, fun e => absurd (h2.2 e.1.2) e2⟩
  ·rw [ifn e1]
   exact ⟨fun e => absurd e e1, fun e => absurd (h1.2 e.1.1) e1⟩
 ·simp only [jz]
  have h1 := z.eq a.At.Module b.At.Module
  have h1' := z.eq b.At.Module a.At.Module
  have h2 := l.eq a.At.Path b.At.Path
  have h2' := l.eq b.At.Path a.At.Path
  have g1 := z.an a.At.Module b.At.Module
  have g2 := l.an a.At.Path b.At.Path
  have g3 := z.an a.Kind b.Kind
  by_cases e1 : a.At.Module = b.At.Module
  ·rw [ifz (h1.2 e1), ifz (h1'.2 e1.symm)]
   by_cases e2 : a.At.Path = b.At.Path
   ·rw [ifz (h2.2 e2), ifz (h2'.2 e2.symm)]; exact g3
   ·rw [ifn (fun e => e2 (h2.1 e)), ifn (fun e => e2 (h2'.1 e).symm)]; exact g2
  ·rw [ifn (fun e => e1 (h1.1 e)), ifn (fun e => e1 (h1'.1 e).symm)]; exact g1
 ·simp only [jz]
  have h1 := z.eq a.At.Module b.At.Module
  have h2 := z.eq b.At.Module d.At.Module
  have h3 := z.eq a.At.Module d.At.Module
  have p1 := l.eq a.At.Path b.At.Path
  have p2 := l.eq b.At.Path d.At.Path
  have p3 := l.eq a.At.Path d.At.Path
  have t1 := z.tr a.At.Module b.At.Module d.At.Module
  have t2 := l.tr a.At.Path b.At.Path d.At.Path
  have t3 := z.tr a.Kind b.Kind d.Kind
  intro h k
  by_cases e1 : a.At.Module = b.At.Module
  ·rw [ifz (h1.2 e1)] at h
   by_cases e2 : b.At.Module = d.At.Module
   ·rw [ifz (h2.2 e2)] at k
    rw [ifz (h3.2 (e1.trans e2))]
    by_cases f1 : a.At.Path = b.At.Path
    ·rw [ifz (p1.2 f1)] at h
     by_cases f2 : b.At.Path = d.At.Path
     ·rw [ifz (p2.2 f2)] at k
      rw [ifz (p3.2 (f1.trans f2))]
      exact t3 h k
     ·rw [ifn (fun e => f2 (p2.1 e))] at k
      rw [f1, ifn (fun e => f2 (p2.1 e))]; exact k
    ·rw [ifn (fun e => f1 (p1.1 e))] at h
     by_cases f2 : b.At.Path = d.At.Path
     ·rw [← f2, ifn (fun e => f1 (p1.1 e))]; exact h
     ·rw [ifn (fun e => f2 (p2.1 e))] at k
      have := t2 h k
      rw [ifn (c := eg a.At.Path d.At.Path) (by omega)]; exact this
   ·rw [ifn (fun e => e2 (h2.1 e))] at k
    rw [e1, ifn (fun e => e2 (h2.1 e))]; exact k
  ·rw [ifn (fun e => e1 (h1.1 e))] at h
   by_cases e2 : b.At.Module = d.At.Module
   ·rw [← e2, ifn (fun e => e1 (h1.1 e))]; exact h
   ·rw [ifn (fun e => e2 (h2.1 e))] at k
    have := t1 h k
    rw [ifn (c := nz a.At.Module d.At.Module) (by omega)]; exact this
def leE (a b : FE) : Prop := ¬ jz b a < 0
theorem pL {a b : FE} (h : jz a b < 0) : leE a b := fun k => by have := (qd.an a b).1 h; omega
theorem BV (a : FE) : leE a a := fun h => by have := (qd.eq a a).2 rfl; omega
theorem Ah {a b : FE} (h : leE a b) (k : leE b a) : a = b := by
 have h1 := qd.an a b
 have h2 := qd.an b a
 unfold leE at h k
 exact (qd.eq a b).1 (by omega)
theorem lN {a b d : FE} (h : leE a b) (k : leE b d) : leE a d := by
 by_cases e1 : a = b
 ·rw [e1]; exact k
 by_cases e2 : b = d
 ·rw [← e2]; exact h
 have h1 := qd.an a b
 have h2 := qd.an b a
 have h3 := qd.an b d
 have h4 := qd.an d b
 have g1 := qd.eq a b
 have g2 := qd.eq b d
 unfold leE at h k
 exact pL (qd.tr a b d (by have : jz a b ≠ 0 := fun e => e1 (g1.1 e); omega) (by have : jz b d ≠ 0 := fun e => e2 (g2.1 e); omega))
abbrev cu (l : List FE) : Prop := l.Pairwise leE
theorem ur : ∀ {a b : List FE}, cu a → cu b → a.Perm b → a = b
 | [], b, _, _, h => (List.Perm.nil_eq h)
 | x :: r, [], _, _, h => by have := h.length_eq; simp at this
 | x :: r, y :: s, ha, hb, h => by
  rw [cu, List.pairwise_cons] at ha hb
  have e : x = y := by
   have hx : x ∈ y :: s := h.mem_iff.1 (by simp)
   have hy : y ∈ x :: r := h.mem_iff.2 (by simp)
   rcases List.mem_cons.1 hx with hx | hx
   ·exact hx
   ·rcases List.mem_cons.1 hy with hy | hy
    ·exact hy.symm
    ·exact Ah (ha.1 y hy) (hb.1 x hx)
  subst e
  rw [ur ha.2 hb.2 (List.Perm.cons_inv h)]
theorem zM (a b : Int) : kC a b (nz a b) := by
 have hn : ∀ z, pE z false := fun z => BU 0 _ _ (by simp)
 unfold nz
 refine ye 0 _ _ _ (⟨_, hn a, _, hn b, fun h => (by cases h), fun _ => ⟨fun h => (by cases h), fun _ => ⟨fun h => ?_, fun h => ⟨fun h' => ?_, fun h' => ?_⟩⟩⟩⟩)
 ·rw [if_pos h]
 ·rw [if_neg h, if_pos h']
 ·rw [if_neg h, if_neg h']
theorem qD {α : Type} (l : List α) (i : Nat) : (∃ x r, l.drop i = x :: r ∧ l[i]? = some x ∧ l.drop (i + 1) = r ∧ i < l.length) ∨ (l.drop i = [] ∧ l.length ≤ i) := by
 by_cases h : i < l.length
 ·exact .inl ⟨l[i], l.drop (i + 1), List.drop_eq_getElem_cons h, List.getElem?_eq_getElem h, rfl, h⟩
 ·exact .inr ⟨List.drop_of_length_le (by omega), by omega⟩
theorem Ms (p q : List Int) (hp : p.length ≤ 1000000000) : nl p q (eg p q) := by
 have loop : ∀ k i, p.length - i ≤ k → i ≤ p.length → jo (k + 1) p q i (eg (p.drop i) (q.drop i)) := fun k => by
  induction k with
  | zero =>
   intro i hi hip
   have e : p.drop i = [] := List.drop_of_length_le (by omega)
   rw [e]
   refine lG 0 _ _ _ _ (⟨fun h => absurd h (by omega), fun _ => ⟨fun h => ?_, fun h => ?_⟩⟩)
   ·rcases qD q i with ⟨x, r, e1, _⟩ | ⟨e1, e2⟩
    ·rw [e1]; rfl
    ·omega
   ·rcases qD q i with ⟨x, r, e1, _, _, e2⟩ | ⟨e1, e2⟩
    ·omega
    ·rw [e1]; rfl
  | succ k ih =>
   intro i hi hip
   rcases qD p i with ⟨x, r, e1, e2, e3, e4⟩ | ⟨e1, e2⟩
   ·refine lG (k + 1) _ _ _ _ (⟨fun h => ⟨x, e2, fun h' => ?_, fun h' => ?_⟩, fun h => absurd e4 h⟩)
    ·have : q.drop i = [] := List.drop_of_length_le h'
     rw [e1, this]; rfl
    ·rcases qD q i with ⟨y, s, g1, g2, g3, g4⟩ | ⟨g1, g2⟩
     ·refine ⟨y, g2, _, zM x y, fun hz => ?_, fun hz => ⟨by omega, ?_⟩⟩
      ·rw [e1, g1, eg, ifn hz]
      ·rw [e1, g1, eg, ifz hz, ← e3, ← g3]
       exact ih (i + 1) (by omega) (by omega)
     ·omega
   ·rw [e1]
    refine lG (k + 1) _ _ _ _ (⟨fun h => absurd h (by omega), fun _ => ⟨fun h => ?_, fun h => ?_⟩⟩)
    ·rcases qD q i with ⟨y, s, g1, _⟩ | ⟨g1, g2⟩
     ·rw [g1]; rfl
     ·omega
    ·rcases qD q i with ⟨y, s, g1, _, _, g4⟩ | ⟨g1, g2⟩
     ·omega
     ·rw [g1]; rfl
 have := loop p.length 0 (by omega) (by omega)
 exact vT (p.length + 1) _ _ _ (by simpa using this)
abbrev PbE (a : FE) : Prop := a.At.Path.length ≤ 1000000000
theorem uY {a b : FE} (h : PbE a) : eO a b (jz a b) := by
 unfold jz
 refine vb 0 _ _ _ (⟨_, zM _ _, fun h1 => ?_, fun h1 => ⟨_, Ms _ _ h, fun h2 => ?_, fun h2 => ⟨_, zM _ _, ?_⟩⟩⟩)
 ·rw [ifn h1]
 ·rw [ifz h1, ifn h2]
 ·rw [ifz h1, ifz h2]
theorem fL {α : Type} {pre post : List α} {x : α} {n : Nat} (h : pre.length = n) : (pre ++ x :: post)[n]? = some x := by
 subst h; rw [List.getElem?_append_right (Nat.le_refl _)]; simp
theorem nF {α : Type} {pre post : List α} {x y : α} {n : Nat} (h : pre.length = n) : (pre ++ x :: post).set n y = pre ++ y :: post := by
 subst h; rw [List.set_append_right _ _ (Nat.le_refl _)]; simp
theorem De : ∀ (X Y pre mid post : List FE) (i : Nat) (p1 p2 p3 : Int), X.length = Y.length → p1 + (i : Int) = (pre.length : Nat) → p2 + (i : Int) = (pre.length + X.length + mid.length : Nat) → p3 = ((i + X.length : Nat) : Int) → pre.length + X.length + X.length + mid.length + Y.length + i ≤ 1000000000 →
  L0_slices_swapRangeCmpFunc (X.length + 1) p1 p2 p3 (pre ++ X ++ mid ++ Y ++ post) i (pre ++ Y ++ mid ++ X ++ post)
 | [], [], pre, mid, post, i, p1, p2, p3, _, h1, h2, h3, _ => jR 0 _ _ _ _ _ _ (⟨fun h => absurd h (by simp at h3; omega), fun _ => by simp⟩)
 | [], _ :: _, _, _, _, _, _, _, _, h, _, _, _, _ => by simp at h
 | _ :: _, [], _, _, _, _, _, _, _, h, _, _, _, _ => by simp at h
 | x :: X, y :: Y, pre, mid, post, i, p1, p2, p3, hl, h1, h2, h3, hb => by
  simp only [List.length_cons] at hl h2 h3 hb
  have ih := De X Y (pre ++ [y]) (mid ++ [x]) post (i + 1) p1 p2 p3 (by omega) (by simp; omega) (by simp; omega) (by omega) (by simp; omega)
  have e0 : pre ++ (x :: X) ++ mid ++ (y :: Y) ++ post = (pre ++ x :: X ++ mid) ++ y :: (Y ++ post) := by simp
  have e1 : pre ++ (x :: X) ++ mid ++ (y :: Y) ++ post = pre ++ x :: (X ++ mid ++ y :: Y ++ post) := by simp
  have s1 : (pre ++ (x :: X) ++ mid ++ (y :: Y) ++ post).set pre.length y = (pre ++ y :: X ++ mid) ++ y :: (Y ++ post) := by rw [e1, nF rfl]; simp
  have s2 : ((pre ++ (x :: X) ++ mid ++ (y :: Y) ++ post).set pre.length y).set (pre.length + (X.length + 1) + mid.length) x = pre ++ [y] ++ X ++ (mid ++ [x]) ++ Y ++ post := by
   rw [s1, nF (by simp; omega)]; simp
  have g1 : (pre ++ (x :: X) ++ mid ++ (y :: Y) ++ post)[pre.length + (X.length + 1) + mid.length]? = some y := by rw [e0]; exact fL (by simp; omega)
  have g2 : (pre ++ (x :: X) ++ mid ++ (y :: Y) ++ post)[pre.length]? = some x := by rw [e1]; exact fL rfl
  have g3 : ((pre ++ (x :: X) ++ mid ++ (y :: Y) ++ post).set pre.length y)[pre.length + (X.length + 1) + mid.length]? = some y := by rw [s1]; exact fL (by simp; omega)
  refine jR (X.length + 1) _ _ _ _ _ _ (⟨fun _ => ⟨⟨by omega, by omega⟩, ⟨by omega, by omega⟩, ⟨by omega, by omega⟩, pre.length + (X.length + 1) + mid.length, by omega, y, g1, ⟨by omega, by omega⟩, pre.length, h1, x, g2, pre.length, h1, x, g2, pre.length + (X.length + 1) + mid.length, by omega, y, g3, by omega, ?_⟩, fun h => absurd (by omega) h⟩)
  rw [s2]
  simpa using ih
theorem AX (pre X mid Y post : List FE) (hl : X.length = Y.length) (hb : pre.length + X.length + mid.length + Y.length ≤ 400000000) {p1 p2 p3 : Int} (h1 : p1 = (pre.length : Nat)) (h2 : p2 = (pre.length + X.length + mid.length : Nat)) (h3 : p3 = (X.length : Nat)) : cR (pre ++ X ++ mid ++ Y ++ post) p1 p2 p3 (pre ++ Y ++ mid ++ X ++ post) :=
 rS_slices_swapRangeCmpFunc (X.length + 1) _ _ _ _ _ (De X Y pre mid post 0 p1 p2 p3 hl (by omega) (by omega) (by omega) (by omega))
theorem AN : ∀ (n : Nat) (X Y pre post : List FE) (p2 : Int), X.length + Y.length ≤ n → 0 < X.length → 0 < Y.length → p2 = (pre.length + X.length : Nat) → pre.length + X.length + Y.length ≤ 400000000 →
  ∃ M, dk M p2 (pre ++ X ++ Y ++ post) (X.length : Nat) (Y.length : Nat) (pre ++ Y ++ X ++ post)
 | 0, X, Y, pre, post, p2, hn, hx, hy, _, _ => by omega
 | n + 1, X, Y, pre, post, p2, hn, hx, hy, h2, hb => by
  rcases Nat.lt_trichotomy X.length Y.length with h | h | h
  ·obtain ⟨Y1, Y2, rfl, hl1, hl2⟩ : ∃ Y1 Y2, Y = Y1 ++ Y2 ∧ Y1.length = Y.length - X.length ∧ Y2.length = X.length := ⟨Y.take (Y.length - X.length), Y.drop (Y.length - X.length), by simp, by simp, by simp; omega⟩
   simp only [List.length_append] at hl1 h hn hb hy
   obtain ⟨M, hM⟩ := AN n Y2 Y1 pre (X ++ post) p2 (by omega) (by omega) (by omega) (by omega) (by omega)
   have hs := AX pre X Y1 Y2 post (by omega) (by omega) (p1 := p2 - (X.length : Nat)) (p2 := p2 + ((Y1.length + Y2.length : Nat) : Int) - (X.length : Nat)) (p3 := (X.length : Nat)) (by omega) (by omega) rfl
   refine ⟨M + 1, gZ M _ _ _ _ _ (⟨fun _ => ⟨fun h' => absurd h' (by simp; omega), fun _ => ⟨⟨by omega, by omega⟩, ⟨by simp; omega, by simp; omega⟩, ⟨by simp; omega, by simp; omega⟩, _, by simpa using hs, ⟨by simp; omega, by simp; omega⟩, ?_⟩⟩, fun h' => absurd h' (by simp; omega)⟩)⟩
   have e : ((Y1 ++ Y2).length : Int) - (X.length : Nat) = (Y1.length : Nat) := by simp; omega
   rw [e, show ((X.length : Nat) : Int) = (Y2.length : Nat) by omega]
   simpa using hM
  ·have hs := AX pre X [] Y post h (by simp; omega) (p1 := p2 - (X.length : Nat)) (p2 := p2) (p3 := (X.length : Nat)) (by omega) (by simp; omega) rfl
   exact ⟨1, gZ 0 _ _ _ _ _ (⟨fun h' => absurd (by omega) h', fun _ => ⟨⟨by omega, by omega⟩, _, by simpa using hs, rfl⟩⟩)⟩
  ·obtain ⟨X1, X2, rfl, hl1, hl2⟩ : ∃ X1 X2, X = X1 ++ X2 ∧ X1.length = Y.length ∧ X2.length = X.length - Y.length := ⟨X.take Y.length, X.drop Y.length, by simp, by simp; omega, by simp⟩
   simp only [List.length_append] at hl2 h hn hb hx h2
   obtain ⟨M, hM⟩ := AN n X2 X1 (pre ++ Y) post p2 (by omega) (by omega) (by omega) (by simp; omega) (by simp; omega)
   have hs := AX pre X1 X2 Y post hl1 (by omega) (p1 := p2 - ((X1.length + X2.length : Nat) : Int)) (p2 := p2) (p3 := (Y.length : Nat)) (by omega) (by omega) (by omega)
   refine ⟨M + 1, gZ M _ _ _ _ _ (⟨fun _ => ⟨fun _ => ⟨⟨by simp; omega, by simp; omega⟩, _, by simpa using hs, ⟨by simp; omega, by simp; omega⟩, ?_⟩, fun h' => absurd (by simp; omega) h'⟩, fun h' => absurd h' (by simp; omega)⟩)⟩
   have e : ((X1 ++ X2).length : Int) - (Y.length : Nat) = (X2.length : Nat) := by simp; omega
   rw [e, show ((Y.length : Nat) : Int) = (X1.length : Nat) by omega]
   simpa using hM
theorem MT (pre X Y post : List FE) (hx : 0 < X.length) (hy : 0 < Y.length) (hb : pre.length + X.length + Y.length ≤ 400000000) {p1 p2 p3 : Int} (h1 : p1 = (pre.length : Nat)) (h2 : p2 = (pre.length + X.length : Nat)) (h3 : p3 = (pre.length + X.length + Y.length : Nat)) : jc (pre ++ X ++ Y ++ post) p1 p2 p3 (pre ++ Y ++ X ++ post) := by
 obtain ⟨M, hM⟩ := AN (X.length + Y.length) X Y pre post p2 (Nat.le_refl _) hx hy h2 hb
 refine rn M _ _ _ _ _ (⟨⟨by omega, by omega⟩, ⟨by omega, by omega⟩, ?_⟩)
 rw [show p2 - p1 = (X.length : Nat) by omega, show p3 - p2 = (Y.length : Nat) by omega]
 exact hM
theorem vH {a b : List FE} (ha : cu a) (hb : cu b) (h : ∀ x ∈ a, ∀ y ∈ b, leE x y) : cu (a ++ b) := List.pairwise_append.2 ⟨ha, hb, h⟩
theorem ja {a b : List FE} (h : cu (a ++ b)) : cu a := (List.pairwise_append.1 h).1
theorem iI {a b : List FE} (h : cu (a ++ b)) : cu b := (List.pairwise_append.1 h).2.1
theorem nP {a b : List FE} (h : cu (a ++ b)) : ∀ x ∈ a, ∀ y ∈ b, leE x y := (List.pairwise_append.1 h).2.2
theorem GT {pre post : List FE} {a b i : Int} (ha : a = (pre.length : Nat)) (hi : InI (i + 1)) : ∀ (n : Nat) (P Q : List FE) (x : FE), P.length = n → PbE x → cu (P ++ Q) → (∀ q ∈ Q, leE x q) → pre.length + n + Q.length + 1 ≤ 1000000000 →
  ∃ S : List FE, S.Perm (P ++ x :: Q) ∧ cu S ∧ ∀ M r, bD M a b (i + 1) (pre ++ S ++ post) r → ∃ M', cP M' a b (pre ++ (P ++ x :: Q) ++ post) ((pre.length + n : Nat) : Int) i r
 | 0, P, Q, x, hl, hx, hs, hq, hb => by
  have : P = [] := List.eq_nil_of_length_eq_zero hl
  subst this
  exact ⟨x :: Q, List.Perm.refl _, List.pairwise_cons.2 ⟨hq, hs⟩, fun M r h => ⟨M + 1, ej M _ _ _ _ _ _ (⟨fun h' => absurd h' (by omega), fun _ => ⟨hi, h⟩⟩)⟩⟩
 | n + 1, P, Q, x, hl, hx, hs, hq, hb => by
  obtain ⟨P', p, rfl⟩ : ∃ P' p, P = P' ++ [p] := ⟨P.dropLast, P.getLast (fun h => by subst h; simp at hl), (List.dropLast_concat_getLast _).symm⟩
  simp only [List.length_append, List.length_cons, List.length_nil] at hl
  have hl' : P'.length = n := by omega
  have g1 : (pre ++ (P' ++ [p] ++ x :: Q) ++ post)[pre.length + (n + 1)]? = some x := by
   rw [show pre ++ (P' ++ [p] ++ x :: Q) ++ post = (pre ++ P' ++ [p]) ++ x :: (Q ++ post) by simp]; exact fL (by simp; omega)
  have e2 : pre ++ (P' ++ [p] ++ x :: Q) ++ post = (pre ++ P') ++ p :: (x :: Q ++ post) := by simp
  have g2 : (pre ++ (P' ++ [p] ++ x :: Q) ++ post)[pre.length + n]? = some p := by rw [e2]; exact fL (by simp; omega)
  have i1 : InI (((pre.length + (n + 1) : Nat) : Int) - 1) := ⟨by omega, by omega⟩
  by_cases hc : jz x p < 0
  ·have s1 : (pre ++ (P' ++ [p] ++ x :: Q) ++ post).set (pre.length + (n + 1)) p = (pre ++ P') ++ p :: (p :: Q ++ post) := by
    rw [show pre ++ (P' ++ [p] ++ x :: Q) ++ post = (pre ++ P' ++ [p]) ++ x :: (Q ++ post) by simp, nF (by simp; omega)]; simp
   have s2 : ((pre ++ (P' ++ [p] ++ x :: Q) ++ post).set (pre.length + (n + 1)) p).set (pre.length + n) x = pre ++ (P' ++ x :: (p :: Q)) ++ post := by
    rw [s1, nF (by simp; omega)]; simp
   have g3 : ((pre ++ (P' ++ [p] ++ x :: Q) ++ post).set (pre.length + (n + 1)) p)[pre.length + n]? = some p := by rw [s1]; exact fL (by simp; omega)
   obtain ⟨S, h1, h2, h3⟩ := GT (pre := pre) (post := post) (b := b) ha hi n P' (p :: Q) x hl' hx (by simpa using hs) (fun q hq' => by
    rcases List.mem_cons.1 hq' with rfl | h
    ·exact pL hc
    ·exact hq q h) (by simp; omega)
   refine ⟨S, h1.trans ?_, h2, fun M r h => ?_⟩
   ·rw [List.append_assoc]
    exact List.Perm.append_left _ (List.Perm.swap _ _ _)
   ·obtain ⟨M', hM⟩ := h3 M r h
    refine ⟨M' + 1, ej M' _ _ _ _ _ _ (⟨fun _ => ⟨_, rfl, x, g1, i1, pre.length + n, by omega, p, g2, _, uY hx, fun _ => ⟨i1, i1, pre.length + n, by omega, p, g2, _, rfl, x, g1, _, rfl, x, g1, pre.length + n, by omega, p, g3, i1, ?_⟩, fun h => absurd hc h⟩, fun h => absurd (by omega) h⟩)⟩
    rw [s2, show ((pre.length + (n + 1) : Nat) : Int) - 1 = ((pre.length + n : Nat) : Int) by omega]
    exact hM
  ·refine ⟨P' ++ [p] ++ x :: Q, List.Perm.refl _, ?_, fun M r h => ⟨M + 1, ej M _ _ _ _ _ _ (⟨fun _ => ⟨_, rfl, x, g1, i1, pre.length + n, by omega, p, g2, _, uY hx, fun h => absurd h hc, fun _ => ⟨hi, h⟩⟩, fun h => absurd (by omega) h⟩)⟩⟩
   refine vH (ja hs) (List.pairwise_cons.2 ⟨hq, iI hs⟩) fun u hu v hv => ?_
   have hup : leE u p := by
    rcases List.mem_append.1 hu with h | h
    ·exact nP (ja hs) u h p (by simp)
    ·simp only [List.mem_singleton] at h; rw [h]; exact BV p
   rcases List.mem_cons.1 hv with rfl | h
   ·exact lN hup hc
   ·exact nP hs u hu v h
theorem GM {pre post : List FE} {a b : Int} (ha : a = (pre.length : Nat)) : ∀ (R P : List FE), cu P → (∀ x ∈ R, PbE x) → b = (pre.length + P.length + R.length : Nat) → pre.length + P.length + R.length + 1 ≤ 1000000000 →
  ∃ S : List FE, S.Perm (P ++ R) ∧ cu S ∧ ∃ M, bD M a b ((pre.length + P.length : Nat) : Int) (pre ++ P ++ R ++ post) (pre ++ S ++ post)
 | [], P, hP, _, hb, hl => ⟨P, by simp, hP, 1, eh 0 _ _ _ _ _ (⟨fun h => absurd h (by simp at hb; omega), fun _ => by simp⟩)⟩
 | x :: R, P, hP, hR, hb, hl => by
  simp only [List.length_cons] at hb hl
  obtain ⟨S1, h1, h2, h3⟩ := GT (pre := pre) (post := R ++ post) (a := a) (b := b) (i := ((pre.length + P.length : Nat) : Int)) ha ⟨by omega, by omega⟩ P.length P [] x rfl (hR x (by simp)) (by simpa using hP) (fun q hq => by simp at hq) (by simp; omega)
  have hl1 := h1.length_eq
  simp only [List.length_append, List.length_cons, List.length_nil] at hl1
  obtain ⟨S, g1, g2, M, hM⟩ := GM (post := post) ha R S1 h2 (fun y hy => hR y (by simp [hy])) (b := b) (by omega) (by omega)
  obtain ⟨M', hM'⟩ := h3 M (pre ++ S ++ post) (by
   rw [show ((pre.length + P.length : Nat) : Int) + 1 = ((pre.length + S1.length : Nat) : Int) by omega]
   simpa using hM)
  refine ⟨S, g1.trans ?_, g2, M' + 1, eh M' _ _ _ _ _ (⟨fun _ => by simpa using hM', fun h => absurd (by omega) h⟩)⟩
  have := h1.append_right R
  simpa using this
theorem Eo (pre X post : List FE) (hX : ∀ x ∈ X, PbE x) (hl : pre.length + X.length + 1 ≤ 1000000000) {a b : Int} (ha : a = (pre.length : Nat)) (hb : b = (pre.length + X.length : Nat)) : ∃ S : List FE, S.Perm X ∧ cu S ∧ cY (pre ++ X ++ post) a b (pre ++ S ++ post) := by
 cases X with
 | nil =>
  simp only [List.length_nil] at hb hl
  exact ⟨[], List.Perm.refl _, List.Pairwise.nil, iK 1 _ _ _ _ (⟨⟨by omega, by omega⟩, eh 0 _ _ _ _ _ (⟨fun h => absurd h (by omega), fun _ => rfl⟩)⟩)⟩
 | cons x R =>
  simp only [List.length_cons] at hb hl
  obtain ⟨S, h1, h2, M, hM⟩ := GM (pre := pre) (post := post) (a := a) (b := b) ha R [x] (List.pairwise_singleton _ _) (fun y hy => hX y (by simp [hy])) (by simp; omega) (by simp; omega)
  refine ⟨S, h1, h2, iK M _ _ _ _ (⟨⟨by omega, by omega⟩, ?_⟩)⟩
  rw [show a + 1 = ((pre.length + [x].length : Nat) : Int) by simp; omega]
  simpa using hM
theorem qF {A : List FE} (h : cu A) {i j : Nat} {u v : FE} (hu : A[i]? = some u) (hv : A[j]? = some v) (hij : i ≤ j) : leE u v := by
 obtain ⟨h1, rfl⟩ := List.getElem?_eq_some_iff.1 hu
 obtain ⟨h2, rfl⟩ := List.getElem?_eq_some_iff.1 hv
 rcases Nat.lt_or_ge i j with h3 | h3
 ·exact List.pairwise_iff_getElem.1 h i j h1 h2 h3
 ·have : i = j := by omega
  subst this; exact BV _
theorem sZ {A : List FE} {u : FE} (h : u ∈ A) : ∃ i : Nat, i < A.length ∧ A[i]? = some u := by
 obtain ⟨i, hi, rfl⟩ := List.getElem_of_mem h
 exact ⟨i, hi, List.getElem?_eq_getElem hi⟩
theorem tP {pre A post : List FE} {t : Nat} {u : FE} (h : A[t]? = some u) : (pre ++ (A ++ post))[pre.length + t]? = some u := by
 have ht := (List.getElem?_eq_some_iff.1 h).1
 rw [List.getElem?_append_right (by omega), show pre.length + t - pre.length = t by omega, List.getElem?_append_left ht, h]
theorem Bc {l B : List FE} {x : FE} {a z : Nat} (hx : l[a]? = some x) (hB : ∀ t u, B[t]? = some u → l[z + t]? = some u) (hp : ∀ u ∈ B, PbE u) (hz : z + B.length ≤ 400000000) : ∀ (k i j : Nat), j - i ≤ k → i ≤ j → j ≤ B.length → (∀ u, 0 < i → B[i - 1]? = some u → leE u x) → (∀ u, B[j]? = some u → leE x u) →
  ∃ s, s ≤ B.length ∧ (∀ u, 0 < s → B[s - 1]? = some u → leE u x) ∧ (∀ u, B[s]? = some u → leE x u) ∧ ∀ M r, cU M l (a : Nat) ((z + s : Nat) : Int) r → ∃ M', bp M' l (a : Nat) ((z + i : Nat) : Int) ((z + j : Nat) : Int) r
 | 0, i, j, hk, hij, hj, h1, h2 => by
  have : i = j := by omega
  subst this
  exact ⟨i, hj, h1, h2, fun M r h => ⟨M + 1, fW M _ _ _ _ _ (⟨fun h' => absurd h' (by omega), fun _ => h⟩)⟩⟩
 | k + 1, i, j, hk, hij, hj, h1, h2 => by
  by_cases e : i = j
  ·subst e
   exact ⟨i, hj, h1, h2, fun M r h => ⟨M + 1, fW M _ _ _ _ _ (⟨fun h' => absurd h' (by omega), fun _ => h⟩)⟩⟩
  ·have hq : (z + i + (z + j)) / 2 = z + (i + j) / 2 := by omega
   have hlt : (i + j) / 2 < B.length := by omega
   obtain ⟨u, hu⟩ : ∃ u, B[(i + j) / 2]? = some u := ⟨_, List.getElem?_eq_getElem hlt⟩
   have hlu := hB _ u hu
   have hpu := hp u (List.mem_of_getElem? hu)
   have step : ∀ {M r}, (jz u x < 0 → bp M l (a : Nat) ((z + ((i + j) / 2 + 1) : Nat) : Int) ((z + j : Nat) : Int) r) → (¬ jz u x < 0 → bp M l (a : Nat) ((z + i : Nat) : Int) ((z + (i + j) / 2 : Nat) : Int) r) → bp (M + 1) l (a : Nat) ((z + i : Nat) : Int) ((z + j : Nat) : Int) r := fun {M r} q1 q2 => by
    refine fW M _ _ _ _ _ (⟨fun _ => ⟨⟨by omega, by omega⟩, z + i + (z + j), by omega, by omega, by omega, u, by rw [hq]; exact hlu, a, rfl, x, hx, _, uY hpu, fun h => ⟨by omega, ?_⟩, fun h => ?_⟩, fun h => absurd (by omega) h⟩)
    ·rw [hq]; exact q1 h
    ·rw [hq]; exact q2 h
   by_cases hc : jz u x < 0
   ·obtain ⟨s, g1, g2, g3, g4⟩ := Bc hx hB hp hz k ((i + j) / 2 + 1) j (by omega) (by omega) hj (fun v _ hv => by
     rw [Nat.add_sub_cancel, hu] at hv; cases hv; exact pL hc) h2
    refine ⟨s, g1, g2, g3, fun M r h => ?_⟩
    obtain ⟨M', hM⟩ := g4 M r h
    exact ⟨M' + 1, step (fun _ => hM) (fun h => absurd hc h)⟩
   ·obtain ⟨s, g1, g2, g3, g4⟩ := Bc hx hB hp hz k i ((i + j) / 2) (by omega) (by omega) (by omega) h1 (fun v hv => by
     rw [hu] at hv; cases hv; exact hc)
    refine ⟨s, g1, g2, g3, fun M r h => ?_⟩
    obtain ⟨M', hM⟩ := g4 M r h
    exact ⟨M' + 1, step (fun h => absurd h hc) (fun _ => hM)⟩
theorem Aa {l A : List FE} {x : FE} {a z : Nat} (hx : l[z]? = some x) (hA : ∀ t u, A[t]? = some u → l[a + t]? = some u) (hp : PbE x) (hz : a + A.length ≤ 400000000) : ∀ (k i j : Nat), j - i ≤ k → i ≤ j → j ≤ A.length → (∀ u, 0 < i → A[i - 1]? = some u → leE u x) → (∀ u, A[j]? = some u → leE x u) →
  ∃ s, s ≤ A.length ∧ (∀ u, 0 < s → A[s - 1]? = some u → leE u x) ∧ (∀ u, A[s]? = some u → leE x u) ∧ ∀ M r, cN M l (z : Nat) ((a + s : Nat) : Int) r → ∃ M', br M' l (z : Nat) ((a + i : Nat) : Int) ((a + j : Nat) : Int) r
 | 0, i, j, hk, hij, hj, h1, h2 => by
  have : i = j := by omega
  subst this
  exact ⟨i, hj, h1, h2, fun M r h => ⟨M + 1, fV M _ _ _ _ _ (⟨fun h' => absurd h' (by omega), fun _ => h⟩)⟩⟩
 | k + 1, i, j, hk, hij, hj, h1, h2 => by
  by_cases e : i = j
  ·subst e
   exact ⟨i, hj, h1, h2, fun M r h => ⟨M + 1, fV M _ _ _ _ _ (⟨fun h' => absurd h' (by omega), fun _ => h⟩)⟩⟩
  ·have hq : (a + i + (a + j)) / 2 = a + (i + j) / 2 := by omega
   have hlt : (i + j) / 2 < A.length := by omega
   obtain ⟨u, hu⟩ : ∃ u, A[(i + j) / 2]? = some u := ⟨_, List.getElem?_eq_getElem hlt⟩
   have hlu := hA _ u hu
   have step : ∀ {M r}, (¬ jz x u < 0 → br M l (z : Nat) ((a + ((i + j) / 2 + 1) : Nat) : Int) ((a + j : Nat) : Int) r) → (jz x u < 0 → br M l (z : Nat) ((a + i : Nat) : Int) ((a + (i + j) / 2 : Nat) : Int) r) → br (M + 1) l (z : Nat) ((a + i : Nat) : Int) ((a + j : Nat) : Int) r := fun {M r} q1 q2 => by
    refine fV M _ _ _ _ _ (⟨fun _ => ⟨⟨by omega, by omega⟩, a + i + (a + j), by omega, by omega, by omega, z, rfl, x, hx, u, by rw [hq]; exact hlu, _, uY hp, fun h => ⟨by omega, ?_⟩, fun h => ?_⟩, fun h => absurd (by omega) h⟩)
    ·rw [hq]; exact q1 h
    ·rw [hq]; exact q2 h
   by_cases hc : jz x u < 0
   ·obtain ⟨s, g1, g2, g3, g4⟩ := Aa hx hA hp hz k i ((i + j) / 2) (by omega) (by omega) (by omega) h1 (fun v hv => by
     rw [hu] at hv; cases hv; exact pL hc)
    refine ⟨s, g1, g2, g3, fun M r h => ?_⟩
    obtain ⟨M', hM⟩ := g4 M r h
    exact ⟨M' + 1, step (fun h => absurd hc h) (fun _ => hM)⟩
   ·obtain ⟨s, g1, g2, g3, g4⟩ := Aa hx hA hp hz k ((i + j) / 2 + 1) j (by omega) (by omega) hj (fun v _ hv => by
     rw [Nat.add_sub_cancel, hu] at hv; cases hv; exact hc) h2
    refine ⟨s, g1, g2, g3, fun M r h => ?_⟩
    obtain ⟨M', hM⟩ := g4 M r h
    exact ⟨M' + 1, step (fun _ => hM) (fun h => absurd h hc)⟩
theorem Bx {l : List FE} {p1 p3 : Int} {a m k0 lo hi0 : Nat} (hp : ∀ u ∈ l, PbE u) (hl : l.length ≤ 400000000) (hhi : hi0 ≤ m) (hq : ∀ c, lo ≤ c → c < hi0 → c < l.length ∧ c + 1 ≤ k0 / 2 + m ∧ k0 / 2 + m - 1 - c < l.length) : ∀ (k i j : Nat), j - i ≤ k → i ≤ j → lo ≤ i → j ≤ hi0 → (∀ u v, lo < i → l[i - 1]? = some u → l[k0 / 2 + m - i]? = some v → leE u v) → (∀ u v, j < hi0 → l[j]? = some u → l[k0 / 2 + m - 1 - j]? = some v → leE v u) →
  ∃ s, lo ≤ s ∧ s ≤ hi0 ∧ i ≤ s ∧ s ≤ j ∧ (∀ u v, lo < s → l[s - 1]? = some u → l[k0 / 2 + m - s]? = some v → leE u v) ∧ (∀ u v, s < hi0 → l[s]? = some u → l[k0 / 2 + m - 1 - s]? = some v → leE v u) ∧ ∀ M r, aN M l p1 (m : Nat) p3 k0 (s : Nat) (s : Nat) r → ∃ M', aN M' l p1 (m : Nat) p3 k0 (i : Nat) (j : Nat) r
 | 0, i, j, hk, hij, hi, hj, h1, h2 => by
  have : i = j := by omega
  subst this
  exact ⟨i, hi, hj, Nat.le_refl _, Nat.le_refl _, h1, h2, fun M r h => ⟨M, h⟩⟩
 | k + 1, i, j, hk, hij, hi, hj, h1, h2 => by
  by_cases e : i = j
  ·subst e
   exact ⟨i, hi, hj, Nat.le_refl _, Nat.le_refl _, h1, h2, fun M r h => ⟨M, h⟩⟩
  ·obtain ⟨q1, q2, q3⟩ := hq ((i + j) / 2) (by omega) (by omega)
   obtain ⟨u, hu⟩ : ∃ u, l[(i + j) / 2]? = some u := ⟨_, List.getElem?_eq_getElem q1⟩
   obtain ⟨v, hv⟩ : ∃ v, l[k0 / 2 + m - 1 - (i + j) / 2]? = some v := ⟨_, List.getElem?_eq_getElem q3⟩
   have hpv := hp v (List.mem_of_getElem? hv)
   have step : ∀ {M r}, (¬ jz v u < 0 → aN M l p1 (m : Nat) p3 k0 (((i + j) / 2 + 1 : Nat) : Int) (j : Nat) r) → (jz v u < 0 → aN M l p1 (m : Nat) p3 k0 (i : Nat) (((i + j) / 2 : Nat) : Int) r) → aN (M + 1) l p1 (m : Nat) p3 k0 (i : Nat) (j : Nat) r := fun {M r} w1 w2 =>
    rL2_slices_symMergeCmpFunc M _ _ _ _ _ _ _ _ (⟨fun _ => ⟨⟨by omega, by omega⟩, i + j, by omega, by omega, by omega, ⟨by omega, by omega⟩, k0 / 2 + m - 1 - (i + j) / 2, by omega, v, hv, u, hu, _, uY hpv, fun h => ⟨by omega, w1 h⟩, fun h => w2 h⟩, fun h => absurd (by omega) h⟩)
   by_cases hc : jz v u < 0
   ·obtain ⟨s, g0, g0', gi, gj, g1, g2, g3⟩ := Bx (p1 := p1) (p3 := p3) (a := a) hp hl hhi hq k i ((i + j) / 2) (by omega) (by omega) hi (by omega) h1 (fun u' v' _ hu' hv' => by
     rw [hu] at hu'; rw [hv] at hv'; cases hu'; cases hv'; exact pL hc)
    refine ⟨s, g0, g0', gi, by omega, g1, g2, fun M r h => ?_⟩
    obtain ⟨M', hM⟩ := g3 M r h
    exact ⟨M' + 1, step (fun h => absurd hc h) (fun _ => hM)⟩
   ·obtain ⟨s, g0, g0', gi, gj, g1, g2, g3⟩ := Bx (p1 := p1) (p3 := p3) (a := a) hp hl hhi hq k ((i + j) / 2 + 1) j (by omega) (by omega) (by omega) hj (fun u' v' _ hu' hv' => by
     rw [Nat.add_sub_cancel, hu] at hu'
     rw [show k0 / 2 + m - ((i + j) / 2 + 1) = k0 / 2 + m - 1 - (i + j) / 2 by omega, hv] at hv'
     cases hu'; cases hv'; exact hc) h2
    refine ⟨s, g0, g0', by omega, gj, g1, g2, fun M r h => ?_⟩
    obtain ⟨M', hM⟩ := g3 M r h
    exact ⟨M' + 1, step (fun _ => hM) (fun h => absurd h hc)⟩
theorem GK {post : List FE} : ∀ (B1 B2 pre : List FE) (x : FE) (z e : Int), z = (pre.length : Nat) → e = (pre.length + 1 + B1.length : Nat) → pre.length + B1.length + B2.length + 1 ≤ 400000000 → cU (B1.length + 1) (pre ++ x :: (B1 ++ B2) ++ post) z e (pre ++ (B1 ++ x :: B2) ++ post)
 | [], B2, pre, x, z, e, hz, he, hb => by
  simp only [List.length_nil] at he
  exact ky 0 _ _ _ _ (⟨⟨by omega, by omega⟩, fun h => absurd h (by omega), fun _ => by simp⟩)
 | y :: B1, B2, pre, x, z, e, hz, he, hb => by
  simp only [List.length_cons] at he hb
  have ih := GK (post := post) B1 B2 (pre ++ [y]) x (z + 1) e (by simp; omega) (by simp; omega) (by simp; omega)
  have e0 : pre ++ x :: (y :: B1 ++ B2) ++ post = (pre ++ [x]) ++ y :: (B1 ++ B2 ++ post) := by simp
  have e1 : pre ++ x :: (y :: B1 ++ B2) ++ post = pre ++ x :: (y :: B1 ++ B2 ++ post) := by simp
  have g1 : (pre ++ x :: (y :: B1 ++ B2) ++ post)[pre.length + 1]? = some y := by rw [e0]; exact fL (by simp)
  have g2 : (pre ++ x :: (y :: B1 ++ B2) ++ post)[pre.length]? = some x := by rw [e1]; exact fL rfl
  have s1 : (pre ++ x :: (y :: B1 ++ B2) ++ post).set pre.length y = (pre ++ [y]) ++ y :: (B1 ++ B2 ++ post) := by rw [e1, nF rfl]; simp
  have g3 : ((pre ++ x :: (y :: B1 ++ B2) ++ post).set pre.length y)[pre.length + 1]? = some y := by rw [s1]; exact fL (by simp)
  have s2 : ((pre ++ x :: (y :: B1 ++ B2) ++ post).set pre.length y).set (pre.length + 1) x = pre ++ [y] ++ x :: (B1 ++ B2) ++ post := by rw [s1, nF (by simp)]; simp
  have i1 : InI (z + 1) := ⟨by omega, by omega⟩
  refine ky (B1.length + 1) _ _ _ _ (⟨⟨by omega, by omega⟩, fun _ => ⟨i1, i1, pre.length + 1, by omega, y, g1, pre.length, hz, x, g2, pre.length, hz, x, g2, pre.length + 1, by omega, y, g3, i1, ?_⟩, fun h => absurd (by omega) h⟩)
  rw [s2]
  simpa using ih
theorem GC {post pre : List FE} : ∀ (n : Nat) (A1 A2 B : List FE) (x : FE) (z e : Int), A2.length = n → z = (pre.length + A1.length + n : Nat) → e = (pre.length + A1.length : Nat) → pre.length + A1.length + A2.length + 1 ≤ 400000000 → cN (n + 1) (pre ++ (A1 ++ A2 ++ x :: B) ++ post) z e (pre ++ (A1 ++ x :: (A2 ++ B)) ++ post)
 | 0, A1, A2, B, x, z, e, hn, hz, he, hb => by
  have : A2 = [] := List.eq_nil_of_length_eq_zero hn
  subst this
  exact kB 0 _ _ _ _ (⟨fun h => absurd h (by omega), fun _ => by simp⟩)
 | n + 1, A1, A2, B, x, z, e, hn, hz, he, hb => by
  obtain ⟨A', p, rfl⟩ : ∃ A' p, A2 = A' ++ [p] := ⟨A2.dropLast, A2.getLast (fun h => by subst h; simp at hn), (List.dropLast_concat_getLast _).symm⟩
  simp only [List.length_append, List.length_cons, List.length_nil] at hn hb
  have ih := GC (post := post) (pre := pre) n A1 A' (p :: B) x (z - 1) e (by omega) (by omega) he (by omega)
  have e0 : pre ++ (A1 ++ (A' ++ [p]) ++ x :: B) ++ post = (pre ++ A1 ++ A' ++ [p]) ++ x :: (B ++ post) := by simp
  have e1 : pre ++ (A1 ++ (A' ++ [p]) ++ x :: B) ++ post = (pre ++ A1 ++ A') ++ p :: (x :: B ++ post) := by simp
  have hk : (pre ++ A1 ++ A').length = pre.length + A1.length + n := by simp; omega
  have hk2 : (pre ++ A1 ++ A' ++ [p]).length = pre.length + A1.length + (n + 1) := by simp; omega
  have g1 : (pre ++ (A1 ++ (A' ++ [p]) ++ x :: B) ++ post)[pre.length + A1.length + (n + 1)]? = some x := by rw [e0]; exact fL hk2
  have g2 : (pre ++ (A1 ++ (A' ++ [p]) ++ x :: B) ++ post)[pre.length + A1.length + n]? = some p := by rw [e1]; exact fL hk
  have s1 : (pre ++ (A1 ++ (A' ++ [p]) ++ x :: B) ++ post).set (pre.length + A1.length + (n + 1)) p = (pre ++ A1 ++ A') ++ p :: (p :: B ++ post) := by rw [e0, nF hk2]; simp
  have g3 : ((pre ++ (A1 ++ (A' ++ [p]) ++ x :: B) ++ post).set (pre.length + A1.length + (n + 1)) p)[pre.length + A1.length + n]? = some p := by rw [s1]; exact fL hk
  have s2 : ((pre ++ (A1 ++ (A' ++ [p]) ++ x :: B) ++ post).set (pre.length + A1.length + (n + 1)) p).set (pre.length + A1.length + n) x = pre ++ (A1 ++ A' ++ x :: (p :: B)) ++ post := by rw [s1, nF hk]; simp
  have i1 : InI (z - 1) := ⟨by omega, by omega⟩
  refine kB (n + 1) _ _ _ _ (⟨fun _ => ⟨i1, i1, pre.length + A1.length + n, by omega, p, g2, pre.length + A1.length + (n + 1), hz, x, g1, pre.length + A1.length + (n + 1), hz, x, g1, pre.length + A1.length + n, by omega, p, g3, i1, ?_⟩, fun h => absurd (by omega) h⟩)
  rw [s2]
  simpa using ih
theorem zf {A1 B2 : List FE} (hA : cu A1) (hB : cu B2) (h : ∀ u v, A1[A1.length - 1]? = some u → B2[0]? = some v → leE u v) : ∀ u ∈ A1, ∀ v ∈ B2, leE u v := fun u hu v hv => by
 obtain ⟨i, hi, gi⟩ := sZ hu
 obtain ⟨j, hj, gj⟩ := sZ hv
 obtain ⟨x, hx⟩ : ∃ x, A1[A1.length - 1]? = some x := ⟨_, List.getElem?_eq_getElem (by omega)⟩
 obtain ⟨y, hy⟩ : ∃ y, B2[0]? = some y := ⟨_, List.getElem?_eq_getElem (by omega)⟩
 exact lN (qF hA gi hx (by omega)) (lN (h x y hx hy) (qF hB hy gj (by omega)))
theorem Hl (A1 A2 B1 B2 : List FE) : (A1 ++ B1 ++ (A2 ++ B2)).Perm (A1 ++ A2 ++ (B1 ++ B2)) := by
 rw [List.append_assoc, List.append_assoc]
 refine List.Perm.append_left _ ?_
 rw [← List.append_assoc, ← List.append_assoc]
 exact List.Perm.append_right _ List.perm_append_comm
theorem zE : ∀ (n : Nat) (pre A B post : List FE), A.length + B.length ≤ n → 0 < A.length → 0 < B.length → cu A → cu B → (∀ x ∈ A, PbE x) → (∀ x ∈ B, PbE x) → (∀ x ∈ pre, PbE x) → (∀ x ∈ post, PbE x) → pre.length + A.length + B.length + post.length + 1 ≤ 100000000 →
  ∃ C : List FE, C.Perm (A ++ B) ∧ cu C ∧ cj (pre ++ A ++ B ++ post) (pre.length : Nat) ((pre.length + A.length : Nat) : Int) ((pre.length + A.length + B.length : Nat) : Int) (pre ++ C ++ post)
 | 0, pre, A, B, post, hn, ha, hb, _, _, _, _, _, _, _ => by omega
 | n + 1, pre, A, B, post, hn, ha, hb, hA, hB, pA, pB, pp, pq, hl => by
  have i1 : InI (((pre.length + A.length : Nat) : Int) - ((pre.length : Nat) : Int)) := ⟨by omega, by omega⟩
  by_cases a1 : A.length = 1
  ·obtain ⟨x, rfl⟩ : ∃ x, A = [x] := by
    match A, a1 with
    | [x], _ => exact ⟨x, rfl⟩
   obtain ⟨s, h1, h2, h3, h4⟩ := Bc (l := pre ++ [x] ++ B ++ post) (B := B) (x := x) (a := pre.length) (z := pre.length + 1) (by rw [show pre ++ [x] ++ B ++ post = pre ++ x :: (B ++ post) by simp]; exact fL rfl) (fun t u hu => by
    have := tP (pre := pre ++ [x]) (post := post) hu
    simpa [Nat.add_assoc] using this) pB (by omega) B.length 0 B.length (by omega) (by omega) (Nat.le_refl _) (fun u h => by omega) (fun u h => by rw [List.getElem?_eq_none (Nat.le_refl _)] at h; cases h)
   have h5 := GK (post := post) (B.take s) (B.drop s) pre x ((pre.length : Nat) : Int) ((pre.length + 1 + s : Nat) : Int) rfl (by rw [List.length_take]; congr 1; omega) (by rw [List.length_take, List.length_drop]; omega)
   rw [List.take_append_drop] at h5
   obtain ⟨M, hM⟩ := h4 _ _ (by rw [show pre ++ [x] ++ B ++ post = pre ++ x :: B ++ post by simp]; exact h5)
   refine ⟨B.take s ++ x :: B.drop s, ?_, ?_, ee M _ _ _ _ _ (⟨i1, fun _ => ?_, fun h => absurd (by simp; omega) h⟩)⟩
   ·have := List.perm_middle (a := x) (l₁ := B.take s) (l₂ := B.drop s)
    rw [List.take_append_drop] at this
    exact this
   ·have hs : cu (B.take s ++ B.drop s) := by rw [List.take_append_drop]; exact hB
    have hx1 : ∀ u ∈ B.take s, leE u x := fun u hu => by
     obtain ⟨i, hi, gi⟩ := sZ hu
     rw [List.length_take] at hi
     rw [List.getElem?_take, if_pos (by omega)] at gi
     obtain ⟨y, hy⟩ : ∃ y, B[s - 1]? = some y := ⟨_, List.getElem?_eq_getElem (by omega)⟩
     exact lN (qF hB gi hy (by omega)) (h2 y (by omega) hy)
    have hx2 : ∀ u ∈ B.drop s, leE x u := fun u hu => by
     obtain ⟨i, hi, gi⟩ := sZ hu
     rw [List.length_drop] at hi
     rw [List.getElem?_drop] at gi
     obtain ⟨y, hy⟩ : ∃ y, B[s]? = some y := ⟨_, List.getElem?_eq_getElem (by omega)⟩
     exact lN (h3 y hy) (qF hB hy gi (by omega))
    refine vH (ja hs) (List.pairwise_cons.2 ⟨hx2, iI hs⟩) fun u hu v hv => ?_
    rcases List.mem_cons.1 hv with rfl | h
    ·exact hx1 u hu
    ·exact nP hs u hu v h
   ·simpa using hM
  by_cases b1 : B.length = 1
  ·obtain ⟨x, rfl⟩ : ∃ x, B = [x] := by
    match B, b1 with
    | [x], _ => exact ⟨x, rfl⟩
   obtain ⟨s, h1, h2, h3, h4⟩ := Aa (l := pre ++ A ++ [x] ++ post) (A := A) (x := x) (a := pre.length) (z := pre.length + A.length) (by rw [show pre ++ A ++ [x] ++ post = (pre ++ A) ++ x :: post by simp]; exact fL (by simp)) (fun t u hu => by
    have := tP (pre := pre) (post := [x] ++ post) hu
    simpa using this) (pB x (by simp)) (by omega) A.length 0 A.length (by omega) (by omega) (Nat.le_refl _) (fun u h => by omega) (fun u h => by rw [List.getElem?_eq_none (Nat.le_refl _)] at h; cases h)
   have h5 := GC (post := post) (pre := pre) (A.length - s) (A.take s) (A.drop s) [] x ((pre.length + A.length : Nat) : Int) ((pre.length + s : Nat) : Int) (by rw [List.length_drop]) (by rw [List.length_take]; congr 1; omega) (by rw [List.length_take]; congr 1; omega) (by rw [List.length_take, List.length_drop]; omega)
   rw [List.take_append_drop, List.append_nil] at h5
   obtain ⟨M, hM⟩ := h4 _ _ (by rw [show pre ++ A ++ [x] ++ post = pre ++ (A ++ [x]) ++ post by simp]; exact h5)
   refine ⟨A.take s ++ x :: A.drop s, ?_, ?_, ee M _ _ _ _ _ (⟨i1, fun h => absurd h (by omega), fun _ => ⟨⟨by simp; omega, by simp; omega⟩, fun _ => ?_, fun h => absurd (by simp; omega) h⟩⟩)⟩
   ·have := List.perm_middle (a := x) (l₁ := A.take s) (l₂ := A.drop s)
    rw [List.take_append_drop] at this
    exact this.trans (List.perm_append_comm (l₁ := [x]) (l₂ := A))
   ·have hs : cu (A.take s ++ A.drop s) := by rw [List.take_append_drop]; exact hA
    have hx1 : ∀ u ∈ A.take s, leE u x := fun u hu => by
     obtain ⟨i, hi, gi⟩ := sZ hu
     rw [List.length_take] at hi
     rw [List.getElem?_take, if_pos (by omega)] at gi
     obtain ⟨y, hy⟩ : ∃ y, A[s - 1]? = some y := ⟨_, List.getElem?_eq_getElem (by omega)⟩
     exact lN (qF hA gi hy (by omega)) (h2 y (by omega) hy)
    have hx2 : ∀ u ∈ A.drop s, leE x u := fun u hu => by
     obtain ⟨i, hi, gi⟩ := sZ hu
     rw [List.length_drop] at hi
     rw [List.getElem?_drop] at gi
     obtain ⟨y, hy⟩ : ∃ y, A[s]? = some y := ⟨_, List.getElem?_eq_getElem (by omega)⟩
     exact lN (h3 y hy) (qF hA hy gi (by omega))
    refine vH (ja hs) (List.pairwise_cons.2 ⟨hx2, iI hs⟩) fun u hu v hv => ?_
    rcases List.mem_cons.1 hv with rfl | h
    ·exact hx1 u hu
    ·exact nP hs u hu v h
   ·simpa using hM
  -- both have two or more
  obtain ⟨l, hld⟩ : ∃ l, l = pre ++ A ++ B ++ post := ⟨_, rfl⟩
  have hpl : ∀ u ∈ l, PbE u := fun u hu => by
   rw [hld] at hu
   simp only [List.mem_append] at hu
   rcases hu with ((h | h) | h) | h
   ·exact pp u h
   ·exact pA u h
   ·exact pB u h
   ·exact pq u h
  have hll : l.length = pre.length + A.length + B.length + post.length := by rw [hld]; simp; omega
  have gA : ∀ t u, A[t]? = some u → l[pre.length + t]? = some u := fun t u hu => by
   have := tP (pre := pre) (post := B ++ post) hu
   rw [hld]; simpa using this
  have gB : ∀ t u, B[t]? = some u → l[pre.length + A.length + t]? = some u := fun t u hu => by
   have := tP (pre := pre ++ A) (post := post) hu
   rw [hld]; simpa using this
  obtain ⟨a, had⟩ : ∃ a, a = pre.length := ⟨_, rfl⟩
  obtain ⟨m, hmd⟩ : ∃ m, m = pre.length + A.length := ⟨_, rfl⟩
  obtain ⟨b, hbd⟩ : ∃ b, b = pre.length + A.length + B.length := ⟨_, rfl⟩
  obtain ⟨mid, hmid⟩ : ∃ mid, mid = (a + b) / 2 := ⟨_, rfl⟩
  have hm1 : a + 2 ≤ m := by omega
  have hm2 : m + 2 ≤ b := by omega
  obtain ⟨lo, hlo⟩ : ∃ lo, lo = if mid < m then a else a := ⟨_, rfl⟩
  have key : ∀ lo hi0, (m < mid + 1 → m = hi0 ∨ True) → lo ≤ hi0 → a ≤ lo → hi0 ≤ m → hi0 ≤ mid → (∀ c, lo ≤ c → c < hi0 → m + c + 1 ≤ mid + m ∧ mid + m - c ≤ b) → (lo = a ∨ mid + m - lo = b) → (hi0 = m ∨ hi0 = mid) →
    ∃ C : List FE, C.Perm (A ++ B) ∧ cu C ∧ ∃ M, aN M l (a : Nat) (m : Nat) (b : Nat) (a + b) (lo : Nat) (hi0 : Nat) (pre ++ C ++ post) := fun lo hi0 _ hlh hal hhm hhd hq hlo hhi => by
   obtain ⟨s, g0, g1, _, _, g2, g3, g4⟩ := Bx (l := l) (p1 := (a : Nat)) (p3 := (b : Nat)) (a := a) (m := m) (k0 := a + b) (lo := lo) (hi0 := hi0) hpl (by omega) hhm (fun c h1 h2 => by have := hq c h1 h2; rw [← hmid]; omega) (hi0 - lo) lo hi0 (Nat.le_refl _) hlh (Nat.le_refl _) (Nat.le_refl _) (fun u v h => by omega) (fun u v h => by omega)
   rw [← hmid] at g2 g3
   have hsm : mid + m - s ≤ b := by
    rcases Nat.lt_or_ge s hi0 with h | h
    ·have := hq s g0 h; omega
    ·by_cases e : lo = s
     ·rcases hlo with h | h <;> omega
     ·have := hq (s - 1) (by omega) (by omega); omega
   have hsm2 : m ≤ mid + m - s := by omega
   have hA' : A = A.take (s - a) ++ A.drop (s - a) := (List.take_append_drop _ _).symm
   have hB' : B = B.take (mid - s) ++ B.drop (mid - s) := (List.take_append_drop _ _).symm
   obtain ⟨A1, hA1⟩ : ∃ X, X = A.take (s - a) := ⟨_, rfl⟩
   obtain ⟨A2, hA2⟩ : ∃ X, X = A.drop (s - a) := ⟨_, rfl⟩
   obtain ⟨B1, hB1⟩ : ∃ X, X = B.take (mid - s) := ⟨_, rfl⟩
   obtain ⟨B2, hB2⟩ : ∃ X, X = B.drop (mid - s) := ⟨_, rfl⟩
   rw [← hA1, ← hA2] at hA'
   rw [← hB1, ← hB2] at hB'
   have l1 : A1.length = s - a := by rw [hA1, List.length_take]; omega
   have l2 : A2.length = m - s := by rw [hA2, List.length_drop]; omega
   have l3 : B1.length = mid - s := by rw [hB1, List.length_take]; omega
   have l4 : B2.length = b - (mid + m - s) := by rw [hB2, List.length_drop]; omega
   have sA : cu (A1 ++ A2) := hA' ▸ hA
   have sB : cu (B1 ++ B2) := hB' ▸ hB
   have cross1 : ∀ u ∈ A1, ∀ v ∈ B2, leE u v := zf (ja sA) (iI sB) fun u v hu hv => by
    have h1 : 0 < A1.length := by have := (List.getElem?_eq_some_iff.1 hu).1; omega
    have h2 : 0 < B2.length := (List.getElem?_eq_some_iff.1 hv).1
    have hu' : A[s - a - 1]? = some u := by rw [hA', List.getElem?_append_left (by omega), ← l1]; exact hu
    have hv' : B[mid - s]? = some v := by rw [hB', List.getElem?_append_right (by omega), show mid - s - B1.length = 0 by omega]; exact hv
    have hu2 := gA _ _ hu'
    have hv2 := gB _ _ hv'
    refine g2 u v ?_ ?_ ?_
    ·rcases hlo with h | h
     ·omega
     ·rcases Nat.lt_or_ge lo s with h' | h'
      ·exact h'
      ·omega
    ·rw [show s - 1 = pre.length + (s - a - 1) by omega]; exact hu2
    ·rw [show mid + m - s = pre.length + A.length + (mid - s) by omega]; exact hv2
   have cross2 : ∀ u ∈ B1, ∀ v ∈ A2, leE u v := zf (ja sB) (iI sA) fun u v hu hv => by
    have h1 : 0 < B1.length := by have := (List.getElem?_eq_some_iff.1 hu).1; omega
    have h2 : 0 < A2.length := (List.getElem?_eq_some_iff.1 hv).1
    have hu' : B[mid - s - 1]? = some u := by rw [hB', List.getElem?_append_left (by omega), ← l3]; exact hu
    have hv' : A[s - a]? = some v := by rw [hA', List.getElem?_append_right (by omega), show s - a - A1.length = 0 by omega]; exact hv
    have hu2 := gB _ _ hu'
    have hv2 := gA _ _ hv'
    refine g3 v u (by rcases hhi with h | h <;> omega) ?_ ?_
    ·rw [show s = pre.length + (s - a) by omega]; exact hv2
    ·rw [show mid + m - 1 - s = pre.length + A.length + (mid - s - 1) by omega]; exact hu2
   have pA1 : ∀ x ∈ A1, PbE x := fun x hx => pA x (by rw [hA']; simp [hx])
   have pA2 : ∀ x ∈ A2, PbE x := fun x hx => pA x (by rw [hA']; simp [hx])
   have pB1 : ∀ x ∈ B1, PbE x := fun x hx => pB x (by rw [hB']; simp [hx])
   have pB2 : ∀ x ∈ B2, PbE x := fun x hx => pB x (by rw [hB']; simp [hx])
   -- the two halves
   have half1 : ∃ C1 : List FE, C1.Perm (A1 ++ B1) ∧ cu C1 ∧ ∀ M r, cd M (m : Nat) (b : Nat) (a + b) (s : Nat) (pre ++ C1 ++ (A2 ++ B2 ++ post)) r → cO (M + 1) (a : Nat) (m : Nat) (b : Nat) (a + b) (s : Nat) (pre ++ A1 ++ B1 ++ (A2 ++ B2 ++ post)) r := by
    by_cases h : 0 < A1.length ∧ 0 < B1.length
    ·obtain ⟨C1, c1, c2, c3⟩ := zE n pre A1 B1 (A2 ++ B2 ++ post) (by omega) h.1 h.2 (ja sA) (ja sB) pA1 pB1 pp (fun x hx => by
      simp only [List.mem_append] at hx
      rcases hx with (h | h) | h
      ·exact pA2 x h
      ·exact pB2 x h
      ·exact pq x h) (by simp; omega)
     refine ⟨C1, c1, c2, fun M r hM => kH M _ _ _ _ _ _ _ (⟨fun _ => ⟨fun _ => ⟨_, ?_, hM⟩, fun h' => absurd (by rw [← hmid]; omega) h'⟩, fun h' => absurd (by omega) h'⟩)⟩
     rw [← hmid, had, show s = pre.length + A1.length by omega, show mid = pre.length + A1.length + B1.length by omega]
     exact c3
    ·refine ⟨A1 ++ B1, List.Perm.refl _, ?_, fun M r hM => ?_⟩
     ·rcases (by omega : A1.length = 0 ∨ B1.length = 0) with h' | h'
      ·rw [List.eq_nil_of_length_eq_zero h', List.nil_append]; exact ja sB
      ·rw [List.eq_nil_of_length_eq_zero h', List.append_nil]; exact ja sA
     ·rw [← List.append_assoc pre A1 B1] at hM
      exact kH M _ _ _ _ _ _ _ (⟨fun _ => ⟨fun h' => absurd h' (by rw [← hmid]; omega), fun _ => hM⟩, fun _ => hM⟩)
   obtain ⟨C1, c1, c2, c3⟩ := half1
   have hc1 := c1.length_eq
   rw [List.length_append] at hc1
   have half2 : ∃ C2 : List FE, C2.Perm (A2 ++ B2) ∧ cu C2 ∧ cd 1 (m : Nat) (b : Nat) (a + b) (s : Nat) (pre ++ C1 ++ (A2 ++ B2 ++ post)) (pre ++ C1 ++ C2 ++ post) := by
    have es : (((a + b) / 2 : Nat) : Int) + ((m : Nat) : Int) - ((s : Nat) : Int) = ((mid + m - s : Nat) : Int) := by rw [← hmid]; omega
    by_cases h : 0 < A2.length ∧ 0 < B2.length
    ·obtain ⟨C2, d1, d2, d3⟩ := zE n (pre ++ C1) A2 B2 post (by omega) h.1 h.2 (iI sA) (iI sB) pA2 pB2 (fun x hx => by
      rcases List.mem_append.1 hx with h | h
      ·exact pp x h
      ·rcases List.mem_append.1 (c1.mem_iff.1 h) with h | h
       ·exact pA1 x h
       ·exact pB1 x h) pq (by simp; omega)
     refine ⟨C2, d1, d2, kz 0 _ _ _ _ _ _ (⟨fun _ => ⟨fun _ => ⟨_, ?_, rfl⟩, fun h' => absurd (by rw [es]; omega) h'⟩, fun h' => absurd (by rw [es, ← hmid]; omega) h'⟩)⟩
     rw [es, ← hmid]
     have e1 : (pre ++ C1).length = mid := by simp; omega
     rw [e1, show mid + A2.length = mid + m - s by omega, show mid + m - s + B2.length = b by omega] at d3
     simpa using d3
    ·refine ⟨A2 ++ B2, List.Perm.refl _, ?_, ?_⟩
     ·rcases (by omega : A2.length = 0 ∨ B2.length = 0) with h' | h'
      ·rw [List.eq_nil_of_length_eq_zero h', List.nil_append]; exact iI sB
      ·rw [List.eq_nil_of_length_eq_zero h', List.append_nil]; exact iI sA
     ·rw [show pre ++ C1 ++ (A2 ++ B2 ++ post) = pre ++ C1 ++ (A2 ++ B2) ++ post by simp]
      exact kz 0 _ _ _ _ _ _ (⟨fun _ => ⟨fun h' => absurd h' (by rw [es]; omega), fun _ => rfl⟩, fun _ => rfl⟩)
   obtain ⟨C2, d1, d2, d3⟩ := half2
   have hperm : (C1 ++ C2).Perm (A ++ B) := by
    have := (List.Perm.append c1 d1).trans (Hl A1 A2 B1 B2)
    rw [hA', hB']; exact this
   refine ⟨C1 ++ C2, hperm, vH c2 d2 fun u hu v hv => ?_, ?_⟩
   ·rcases List.mem_append.1 (c1.mem_iff.1 hu) with h | h <;> rcases List.mem_append.1 (d1.mem_iff.1 hv) with h' | h'
    ·exact nP sA u h v h'
    ·exact cross1 u h v h'
    ·exact cross2 u h v h'
    ·exact nP sB u h v h'
   ·have h5 := c3 1 _ d3
    have es : (((a + b) / 2 : Nat) : Int) + ((m : Nat) : Int) - ((s : Nat) : Int) = ((mid + m - s : Nat) : Int) := by rw [← hmid]; omega
    have hrot : aN 3 l (a : Nat) (m : Nat) (b : Nat) (a + b) (s : Nat) (s : Nat) (pre ++ (C1 ++ C2) ++ post) := by
     have e6 : pre ++ (C1 ++ C2) ++ post = pre ++ C1 ++ C2 ++ post := by simp
     rw [e6]
     refine rL2_slices_symMergeCmpFunc 2 _ _ _ _ _ _ _ _ (⟨fun h => absurd h (by omega), fun _ => ⟨⟨by rw [es]; omega, by rw [es]; omega⟩, fun h => ⟨fun h' => ?_, fun h' => ?_⟩, fun h => ?_⟩⟩)
     ·rw [es] at h' ⊢
      have hr := MT (pre ++ A1) A2 B1 (B2 ++ post) (by omega) (by omega) (by simp; omega) (p1 := (s : Nat)) (p2 := (m : Nat)) (p3 := ((mid + m - s : Nat) : Int)) (by simp; omega) (by simp; omega) (by simp; omega)
      refine ⟨pre ++ A1 ++ B1 ++ (A2 ++ B2 ++ post), ?_, h5⟩
      have e7 : l = pre ++ A1 ++ A2 ++ B1 ++ (B2 ++ post) := by rw [hld, hA', hB']; simp
      rw [e7, show pre ++ A1 ++ B1 ++ (A2 ++ B2 ++ post) = pre ++ A1 ++ B1 ++ A2 ++ (B2 ++ post) by simp]
      exact hr
     ·rw [es] at h'
      have : B1 = [] := List.eq_nil_of_length_eq_zero (by omega)
      rw [show l = pre ++ A1 ++ B1 ++ (A2 ++ B2 ++ post) by rw [hld, hA', hB', this]; simp]
      exact h5
     ·have : A2 = [] := List.eq_nil_of_length_eq_zero (by omega)
      rw [show l = pre ++ A1 ++ B1 ++ (A2 ++ B2 ++ post) by rw [hld, hA', hB', this]; simp]
      exact h5
    obtain ⟨M, hM⟩ := g4 3 _ hrot
    exact ⟨M, hM⟩
  rw [← hld, ← hbd, ← hmd, ← had]
  have ek : ((a : Nat) : Int) + ((b : Nat) : Int) = ((a + b : Nat) : Int) := by omega
  by_cases hc : mid < m
  ·obtain ⟨C, k1, k2, M, k3⟩ := key (mid + m - b) mid (fun _ => .inr trivial) (by omega) (by omega) (by omega) (Nat.le_refl _) (fun c h1 h2 => by omega) (.inr (by omega)) (.inr rfl)
   refine ⟨C, k1, k2, ee M _ _ _ _ _ (⟨⟨by omega, by omega⟩, fun h => absurd h (by omega), fun _ => ⟨⟨by omega, by omega⟩, fun h => absurd h (by omega), fun _ => ⟨⟨by omega, by omega⟩, a + b, ek, by omega, by omega, ⟨by rw [← hmid]; omega, by rw [← hmid]; omega⟩, fun _ => ⟨⟨by rw [← hmid]; omega, by rw [← hmid]; omega⟩, ⟨by rw [← hmid]; omega, by rw [← hmid]; omega⟩, ?_⟩, fun h => absurd (by rw [← hmid]; omega) h⟩⟩⟩)⟩
   rw [← hmid, show ((mid : Nat) : Int) + ((m : Nat) : Int) - ((b : Nat) : Int) = ((mid + m - b : Nat) : Int) by omega]
   exact k3
  ·obtain ⟨C, k1, k2, M, k3⟩ := key a m (fun _ => .inr trivial) (by omega) (Nat.le_refl _) (Nat.le_refl _) (by omega) (fun c h1 h2 => by omega) (.inl rfl) (.inl rfl)
   refine ⟨C, k1, k2, ee M _ _ _ _ _ (⟨⟨by omega, by omega⟩, fun h => absurd h (by omega), fun _ => ⟨⟨by omega, by omega⟩, fun h => absurd h (by omega), fun _ => ⟨⟨by omega, by omega⟩, a + b, ek, by omega, by omega, ⟨by rw [← hmid]; omega, by rw [← hmid]; omega⟩, fun h => absurd h (by rw [← hmid]; omega), fun _ => ⟨⟨by rw [← hmid]; omega, by rw [← hmid]; omega⟩, k3⟩⟩⟩⟩)⟩
structure BlkE (s : Nat) (l : List FE) (bs : List (List FE)) (last : List FE) : Prop where
 e : l = bs.flatten ++ last
 b : ∀ x ∈ bs, x.length = s ∧ cu x
 l : last.length < s ∧ cu last
theorem wn {s : Nat} : ∀ {bs : List (List FE)}, (∀ x ∈ bs, x.length = s ∧ cu x) → bs.flatten.length = bs.length * s
 | [], _ => by simp
 | b :: r, h => by
  rw [List.flatten_cons, List.length_append, wn (fun x hx => h x (by simp [hx])), (h b (by simp)).1, List.length_cons, Nat.succ_mul]; omega
theorem JP {n : Nat} (hn : n ≤ 90000000) : ∀ (k : Nat) (pre R : List FE), R.length ≤ k → pre.length + R.length = n → (∀ x ∈ R, PbE x) → (∃ bs : List (List FE), pre = bs.flatten ∧ ∀ x ∈ bs, x.length = 20 ∧ cu x) →
  ∃ l' bs last, l'.Perm (pre ++ R) ∧ BlkE 20 l' bs last ∧ ∀ M r, bU M (n : Nat) l' 20 r → ∃ M', eU M' (n : Nat) (pre ++ R) pre.length (pre.length + 20) r := fun k => by
 induction k with
 | zero =>
  intro pre R hk hpn hR ⟨bs, hb1, hb2⟩
  have : R = [] := List.eq_nil_of_length_eq_zero (by omega)
  subst this
  obtain ⟨S, h1, h2, h3⟩ := Eo pre [] [] (by simp) (by simp at hpn ⊢; omega) (a := (pre.length : Nat)) (b := (n : Nat)) rfl (by simp at hpn ⊢; omega)
  have : S = [] := List.Perm.eq_nil h1
  subst this
  refine ⟨pre ++ [], bs, [], List.Perm.refl _, ⟨by rw [hb1], hb2, by decide, List.Pairwise.nil⟩, fun M r h => ⟨M + 1, gX M _ _ _ _ _ (⟨fun h' => absurd h' (by simp at hpn; omega), fun _ => ⟨_, by simpa using h3, by simpa using h⟩⟩)⟩⟩
 | succ k ih =>
  intro pre R hk hpn hR hbs
  by_cases hc : 20 ≤ R.length
  ·obtain ⟨Ra, Rb, rfl, g1⟩ : ∃ Ra Rb, R = Ra ++ Rb ∧ Ra.length = 20 := ⟨R.take 20, R.drop 20, by simp, by simp; omega⟩
   simp only [List.length_append] at hk hpn hc
   obtain ⟨S, h1, h2, h3⟩ := Eo pre Ra Rb (fun x hx => hR x (by simp [hx])) (by omega) (a := (pre.length : Nat)) (b := ((pre.length + 20 : Nat) : Int)) rfl (by rw [g1])
   have hS := h1.length_eq
   obtain ⟨bs, hb1, hb2⟩ := hbs
   obtain ⟨l', bs', last, f1, f2, f3⟩ := ih (pre ++ S) Rb (by omega) (by simp; omega) (fun x hx => hR x (by simp [hx])) ⟨bs ++ [S], by rw [hb1]; simp, fun x hx => by
    rcases List.mem_append.1 hx with h | h
    ·exact hb2 x h
    ·simp only [List.mem_singleton] at h; subst h; exact ⟨by omega, h2⟩⟩
   refine ⟨l', bs', last, f1.trans ?_, f2, fun M r h => ?_⟩
   ·rw [List.append_assoc]; exact List.Perm.append_left _ (List.Perm.append_right _ h1)
   ·obtain ⟨M', hM⟩ := f3 M r h
    rw [List.length_append, hS, g1] at hM
    exact ⟨M' + 1, gX M' _ _ _ _ _ (⟨fun _ => ⟨_, by simpa using h3, by omega, hM⟩, fun h' => absurd (by omega) h'⟩)⟩
  ·obtain ⟨S, h1, h2, h3⟩ := Eo pre R [] hR (by omega) (a := (pre.length : Nat)) (b := (n : Nat)) rfl (by omega)
   have hS := h1.length_eq
   obtain ⟨bs, hb1, hb2⟩ := hbs
   refine ⟨pre ++ S, bs, S, List.Perm.append_left _ h1, ⟨by rw [hb1], hb2, by omega, h2⟩, fun M r h => ⟨M + 1, gX M _ _ _ _ _ (⟨fun h' => absurd h' (by omega), fun _ => ⟨_, by simpa using h3, by simpa using h⟩⟩)⟩⟩
theorem JZ {n s : Nat} (hn : n ≤ 90000000) (hs : 0 < s) (hsn : s < n) : ∀ (k : Nat) (bs : List (List FE)) (pre last : List FE), bs.length ≤ k → pre.length + bs.flatten.length + last.length = n → (∀ x ∈ pre, PbE x) → (∀ x ∈ bs.flatten, PbE x) → (∀ x ∈ last, PbE x) → (∀ x ∈ bs, x.length = s ∧ cu x) → (last.length < s ∧ cu last) → (∃ ps : List (List FE), pre = ps.flatten ∧ ∀ x ∈ ps, x.length = 2 * s ∧ cu x) →
  ∃ l' bs' last', l'.Perm (pre ++ bs.flatten ++ last) ∧ BlkE (2 * s) l' bs' last' ∧ ∀ M r, bU M (n : Nat) l' ((s : Int) * 2) r → ∃ M', eV M' (n : Nat) (pre ++ bs.flatten ++ last) (pre.length : Nat) ((pre.length + 2 * s : Nat) : Int) (s : Nat) r := fun k => by
 induction k with
 | zero =>
  intro bs pre last hk hpn pp pb pl hb hl ⟨ps, hp1, hp2⟩
  have : bs = [] := List.eq_nil_of_length_eq_zero (by omega)
  subst this
  simp only [List.flatten_nil, List.length_nil, Nat.add_zero, List.append_nil] at hpn ⊢
  exact ⟨pre ++ last, ps, last, List.Perm.refl _, ⟨by rw [hp1], hp2, by omega, hl.2⟩, fun M r h => ⟨M + 1, eo M _ _ _ _ _ _ (⟨fun h' => absurd h' (by omega), fun _ => ⟨⟨by omega, by omega⟩, fun h' => absurd h' (by omega), fun _ => ⟨⟨by omega, by omega⟩, h⟩⟩⟩)⟩⟩
 | succ k ih =>
  intro bs pre last hk hpn pp pb pl hb hl hps
  match bs, hk, hpn, pb, hb with
  | [], hk, hpn, pb, hb => exact ih [] pre last (by simp) hpn pp pb pl hb hl hps
  | [b1], hk, hpn, pb, hb =>
   have h1 := hb b1 (by simp)
   simp only [List.flatten_cons, List.flatten_nil, List.append_nil] at hpn pb ⊢
   obtain ⟨ps, hp1, hp2⟩ := hps
   by_cases hl0 : last = []
   ·subst hl0
    simp only [List.length_nil, Nat.add_zero, List.append_nil] at hpn ⊢
    exact ⟨pre ++ b1, ps, b1, List.Perm.refl _, ⟨by rw [hp1], hp2, by omega, h1.2⟩, fun M r h => ⟨M + 1, eo M _ _ _ _ _ _ (⟨fun h' => absurd h' (by omega), fun _ => ⟨⟨by omega, by omega⟩, fun h' => absurd h' (by omega), fun _ => ⟨⟨by omega, by omega⟩, h⟩⟩⟩)⟩⟩
   ·have hlp : 0 < last.length := List.length_pos_iff.2 hl0
    obtain ⟨C, c1, c2, c3⟩ := zE (b1.length + last.length) pre b1 last [] (Nat.le_refl _) (by omega) hlp h1.2 hl.2 pb pl pp (by simp) (by simp; omega)
    have hC := c1.length_eq
    rw [List.length_append] at hC
    refine ⟨pre ++ C, ps, C, ?_, ⟨by rw [hp1], hp2, by omega, c2⟩, fun M r h => ⟨M + 1, eo M _ _ _ _ _ _ (⟨fun h' => absurd h' (by omega), fun _ => ⟨⟨by omega, by omega⟩, fun h' => ⟨pre ++ C, ?_, ⟨by omega, by omega⟩, h⟩, fun h' => absurd (by omega) h'⟩⟩)⟩⟩
    ·rw [List.append_assoc]; exact List.Perm.append_left _ c1
    ·rw [h1.1, show pre.length + s + last.length = n by omega] at c3
     rw [show ((pre.length : Nat) : Int) + ((s : Nat) : Int) = ((pre.length + s : Nat) : Int) by omega]
     simpa using c3
  | b1 :: b2 :: r0, hk, hpn, pb, hb =>
   have h1 := hb b1 (by simp)
   have h2 := hb b2 (by simp)
   simp only [List.flatten_cons, List.length_append, List.length_cons] at hpn hk
   have pb' : ∀ x, x ∈ b1 ∨ x ∈ b2 ∨ x ∈ r0.flatten → PbE x := fun x hx => pb x (by simpa [List.flatten_cons] using hx)
   obtain ⟨C, c1, c2, c3⟩ := zE (b1.length + b2.length) pre b1 b2 (r0.flatten ++ last) (Nat.le_refl _) (by omega) (by omega) h1.2 h2.2 (fun x hx => pb' x (.inl hx)) (fun x hx => pb' x (.inr (.inl hx))) pp (fun x hx => by
    rcases List.mem_append.1 hx with h | h
    ·exact pb' x (.inr (.inr h))
    ·exact pl x h) (by simp only [List.length_append]; omega)
   have hC := c1.length_eq
   rw [List.length_append] at hC
   obtain ⟨ps, hp1, hp2⟩ := hps
   obtain ⟨l', bs', last', f1, f2, f3⟩ := ih r0 (pre ++ C) last (by omega) (by simp only [List.length_append]; omega) (fun x hx => by
    rcases List.mem_append.1 hx with h | h
    ·exact pp x h
    ·rcases List.mem_append.1 (c1.mem_iff.1 h) with h | h
     ·exact pb' x (.inl h)
     ·exact pb' x (.inr (.inl h))) (fun x hx => pb' x (.inr (.inr hx))) pl (fun x hx => hb x (by simp [hx])) hl ⟨ps ++ [C], by rw [hp1]; simp, fun x hx => by
    rcases List.mem_append.1 hx with h | h
    ·exact hp2 x h
    ·simp only [List.mem_singleton] at h; subst h; exact ⟨by omega, c2⟩⟩
   refine ⟨l', bs', last', f1.trans ?_, f2, fun M r h => ?_⟩
   ·have := List.Perm.append_left pre (List.Perm.append_right (r0.flatten ++ last) c1)
    simpa [List.flatten_cons] using this
   ·obtain ⟨M', hM⟩ := f3 M r h
    rw [h1.1, h2.1] at c3
    rw [List.length_append, show C.length = 2 * s by omega] at hM
    refine ⟨M' + 1, eo M' _ _ _ _ _ _ (⟨fun _ => ⟨⟨by omega, by omega⟩, pre ++ C ++ r0.flatten ++ last, ?_, ⟨by omega, by omega⟩, ⟨by omega, by omega⟩, ?_⟩, fun h' => absurd (by omega) h'⟩)⟩
    ·rw [show ((pre.length : Nat) : Int) + ((s : Nat) : Int) = ((pre.length + s : Nat) : Int) by omega, show pre.length + 2 * s = pre.length + s + s by omega]
     simpa [List.flatten_cons] using c3
    ·rw [show ((pre.length + 2 * s : Nat) : Int) + 2 * ((s : Nat) : Int) = ((pre.length + 2 * s + 2 * s : Nat) : Int) by omega]
     exact hM
theorem Kk {n : Nat} (hn : n ≤ 90000000) : ∀ (k s : Nat) (l : List FE) (bs : List (List FE)) (last : List FE), n - s ≤ k → 0 < s → s ≤ 180000000 → l.length = n → (∀ x ∈ l, PbE x) → BlkE s l bs last → ∃ r, r.Perm l ∧ cu r ∧ ∃ M, bU M (n : Nat) l (s : Nat) r := fun k => by
 induction k using Nat.strongRecOn with
 | ind k ih =>
  intro s l bs last hk hs hs2 hl hp hB
  have hlen := congrArg List.length hB.e
  rw [List.length_append, wn hB.b] at hlen
  by_cases hc : s < n
  ·obtain ⟨l', bs', last', f1, f2, f3⟩ := JZ hn hs hc bs.length bs [] last (Nat.le_refl _) (by rw [wn hB.b, List.length_nil]; omega) (by simp) (fun x hx => hp x (by rw [hB.e]; simp only [List.mem_append]; exact .inl hx)) (fun x hx => hp x (by rw [hB.e]; simp only [List.mem_append]; exact .inr hx)) hB.b hB.l ⟨[], rfl, by simp⟩
   have f1' : l'.Perm l := by rw [hB.e]; simpa using f1
   obtain ⟨r, g1, g2, M, g3⟩ := ih (n - 2 * s) (by omega) (2 * s) l' bs' last' (Nat.le_refl _) (by omega) (by omega) (by rw [f1'.length_eq]; exact hl) (fun x hx => hp x (f1'.mem_iff.1 hx)) f2
   obtain ⟨M', hM⟩ := f3 M r (by rw [show ((s : Nat) : Int) * 2 = ((2 * s : Nat) : Int) by omega]; exact g3)
   refine ⟨r, g1.trans f1', g2, M' + 1, lL M' _ _ _ _ (⟨fun _ => ⟨⟨by omega, by omega⟩, ?_⟩, fun h => absurd (by omega) h⟩)⟩
   rw [show 2 * ((s : Nat) : Int) = (([] : List FE).length + 2 * s : Nat) by simp]
   rw [hB.e]
   simpa using hM
  ·refine ⟨l, List.Perm.refl _, ?_, 1, lL 0 _ _ _ _ (⟨fun h => absurd h (by omega), fun _ => rfl⟩)⟩
   match bs, hB, hlen with
   | [], hB, _ => rw [hB.e]; simpa using hB.l.2
   | [b], hB, hlen =>
    have h1 := hB.b b (by simp)
    simp only [List.length_cons, List.length_nil, Nat.zero_add, Nat.one_mul] at hlen
    have : last = [] := List.eq_nil_of_length_eq_zero (by omega)
    rw [hB.e, this]; simpa using h1.2
   | b :: b' :: r, hB, hlen =>
    simp only [List.length_cons, Nat.succ_mul] at hlen
    omega
theorem Gj (l : List FE) (hl : l.length ≤ 90000000) (hp : ∀ x ∈ l, PbE x) : ∃ r, dl l r ∧ r.Perm l ∧ cu r := by
 obtain ⟨l', bs, last, h1, h2, h3⟩ := JP hl l.length [] l (Nat.le_refl _) (by simp) hp ⟨[], rfl, by simp⟩
 rw [List.nil_append] at h1
 obtain ⟨r, g1, g2, M, g3⟩ := Kk hl l.length 20 l' bs last (by omega) (by decide) (by decide) h1.length_eq (fun x hx => hp x (h1.mem_iff.1 hx)) h2
 obtain ⟨M', hM⟩ := h3 M r g3
 exact ⟨r, qH 0 _ _ (⟨r, ry M' _ _ _ (by simpa using hM), rfl⟩), g1.trans h1, g2⟩
theorem HJ {l r : List FE} (hl : l.length ≤ 90000000) (hp : ∀ x ∈ l, PbE x) (h1 : r.Perm l) (h2 : cu r) : dl l r := by
 obtain ⟨r', g1, g2, g3⟩ := Gj l hl hp
 rw [ur h2 g3 (h1.trans g2.symm)]
 exact g1
theorem IX {c : CKr} {n : Nat} (hn : c.result_lists = (n : Int)) (hb : n ≤ 1000000000) : ∀ (k : Nat) (z : Int) (ks : List Tree) (i : Nat), i + k = n → oH (k + 1) c z ks i (eW k (.node z [] [] ks)) 0
 | 0, z, ks, i, h => ut 0 _ _ _ _ _ _ (⟨fun h' => absurd h' (by rw [hn]; omega), fun _ => ⟨rfl, rfl⟩⟩)
 | k + 1, z, ks, i, h => by
  have := IX hn hb k 8 [.node z [] [] ks] (i + 1) (by omega)
  rw [wE] at this
  exact ut (k + 1) _ _ _ _ _ _ (⟨fun _ => ⟨by omega, this⟩, fun h' => absurd (by rw [hn]; omega) h'⟩)
def ofN (s : Sv) : Tree × Int := if s.rs = 0 then (.node 0 [] [] [], 20) else (eW s.rl.toNat (.node s.rs [] [] []), 0)
theorem NI {p : List Tree} (hp : bg p = true) (hb : kbulk p ≤ 10000000) {m : Nat} {q : List Int} {t u : Tree} (hm : p[m]? = some t) (hat : vd t q u true) (hu : gu u.kind = true) : ∃ nm, mC p nm ∧ ∀ n : Nat, (ke p nm (m : Int) q).rl = (n : Int) → n ≤ 1000000000 → sj p ⟨(m : Int), q⟩ (ofN (ke p nm (m : Int) q)).1 (ofN (ke p nm (m : Int) q)).2 := by
 obtain ⟨nm, h1, h2⟩ := uE hp hb
 obtain ⟨_, z, h3⟩ := Dv hp hb nm (m : Int) q
 have hk : 10 ≤ u.kind ∧ u.kind ≤ 22 ∧ u.kind ≠ 17 := by simpa [gu] using hu
 have hlt : m < p.length := (List.getElem?_eq_some_iff.1 hm).1
 refine ⟨nm, h1, fun n hn hnb => ?_⟩
 refine BF (n + 2) _ _ _ _ (⟨_, xv p (by omega), fun h => (by rw [hp] at h; cases h), fun _ => ⟨fun h => absurd h (by simp), fun _ => ⟨fun h => absurd h (by simp only; omega), fun _ => ⟨m, rfl, t, hm, u, true, hat, ?_⟩⟩⟩⟩)
 refine zu (n + 1) _ _ _ _ _ _ (⟨fun h => (by cases h), fun _ => ⟨fun h => absurd h (by omega), fun _ => ⟨fun h => absurd h (by omega), fun _ => ⟨fun h => absurd h hk.2.2, fun _ => ⟨_, h2, _, h3, fun h => ?_, fun h => ?_⟩⟩⟩⟩⟩)
 ·have h' : (ke p nm (m : Int) q).rs = 0 := h
  unfold ofN; rw [if_pos h']; exact ⟨rfl, rfl⟩
 ·have h' : ¬ (ke p nm (m : Int) q).rs = 0 := h
  unfold ofN; rw [if_neg h', hn]
  exact IX hn hnb n _ [] 0 (by omega)
def KI : List UInt8 := [109, 111, 100, 117, 108, 101, 32, 77, 32, 100, 101, 102, 32, 102, 40, 41, 58, 32, 73, 110, 116, 32, 61, 32, 49, 32, 43, 32, 34, 97, 34, 32, 100, 101, 102, 32, 103, 40, 120, 58, 32, 66, 111, 111, 108, 41, 58, 32, 73, 110, 116, 32, 61, 32, 105, 102, 32, 120, 32, 116, 104, 101, 110, 32, 49, 32, 101, 108, 115, 101, 32, 103, 40, 41]
def pk : Tree := (Lq KI).1
end Go.Proofs.YtomplbgchbfjpaaGreatDoor
