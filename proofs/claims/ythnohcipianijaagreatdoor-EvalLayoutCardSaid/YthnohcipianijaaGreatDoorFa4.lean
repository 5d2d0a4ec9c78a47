/- Contracts of the functions that the law reaches, part 4. -/
import Derived.Test.YthnohcipianijaaGreatDoorFa3
set_option linter.unusedVariables false
set_option linter.unusedSimpArgs false
namespace Go.Proofs.YthnohcipianijaaGreatDoor
open Go.RowKit Lx Sx
set_option maxRecDepth 100000
mutual
def wD : GDatum → Nat
 | .mk _ _ s l => 1 + s.length + wDs l
def wDs : List GDatum → Nat
 | [] => 0
 | d :: r => wD d + wDs r
end
mutual
def mD : GDatum → Nat
 | .mk _ _ s l => max s.length (mDs l)
def mDs : List GDatum → Nat
 | [] => 0
 | d :: r => max (mD d) (mDs r)
end
mutual
def sameD : GDatum → GDatum → Bool
 | .mk k n s l, .mk k' n' s' l' => k == k' && n == n' && s == s' && l.length == l'.length && sameDs l l'
def sameDs : List GDatum → List GDatum → Bool
 | [], _ => true
 | _ :: _, [] => true
 | a :: r, b :: q => sameD a b && sameDs r q
end
mutual
def formD : GDatum → Bool
 | .mk k n s l => if k = 1 then s == [] && ((l.length : Nat) : Int) == 0 else if k = 2 then n == 0 && ((l.length : Nat) : Int) == 0 else if k = 3 then s == [] && ((l.length : Nat) : Int) == 0 && (n == 0 || n == 1) else if k = 4 then formDs l && s == [] && n == 0 else false
def formDs : List GDatum → Bool
 | [] => true
 | d :: r => formD d && formDs r
end
theorem rj (d : GDatum) : wD d = 1 + d.S.length + wDs d.L := by cases d; simp [wD]
theorem FT (d : GDatum) : mD d = max d.S.length (mDs d.L) := by cases d; simp [mD]
theorem mY (d : GDatum) : formD d = (if d.Kind = 1 then d.S == [] && ((d.L.length : Nat) : Int) == 0 else if d.Kind = 2 then d.N == 0 && ((d.L.length : Nat) : Int) == 0 else if d.Kind = 3 then d.S == [] && ((d.L.length : Nat) : Int) == 0 && (d.N == 0 || d.N == 1) else if d.Kind = 4 then formDs d.L && d.S == [] && d.N == 0 else false) := by cases d; simp [formD]
theorem wj (a b : GDatum) : sameD a b = (a.Kind == b.Kind && a.N == b.N && a.S == b.S && a.L.length == b.L.length && sameDs a.L b.L) := by cases a; cases b; simp [sameD]
theorem py {P : GDatum → Prop} (h : ∀ d, (∀ x ∈ d.L, P x) → P d) (d : GDatum) : P d := by
 refine GDatum.rec (motive_1 := P) (motive_2 := fun l => ∀ x ∈ l, P x) ?_ ?_ ?_ d
 ·intro k n s l ih; exact h _ ih
 ·simp
 ·intro a r h1 h2 x hx
  rcases List.mem_cons.1 hx with rfl | hx
  ·exact h1
  ·exact h2 x hx
theorem rL : ∀ l : List GDatum, (∀ x ∈ l, sameD x x = true) → sameDs l l = true
 | [], _ => by simp [sameDs]
 | a :: r, h => by simp [sameDs, h a (by simp), rL r fun x hx => h x (by simp [hx])]
theorem te : ∀ d, sameD d d = true := py fun d ih => by
 rw [wj, rL d.L ih]; simp
theorem zQ : ∀ {l : List GDatum} {x : GDatum}, x ∈ l → wD x ≤ wDs l
 | a :: r, x, h => by
  simp only [wDs]
  rcases List.mem_cons.1 h with rfl | h
  ·omega
  ·have := zQ h; omega
theorem AA (d : GDatum) : 1 ≤ wD d := by rw [rj]; omega
theorem xm : ∀ l : List GDatum, l.length ≤ wDs l
 | [] => Nat.le_refl _
 | a :: r => by have := xm r; have := AA a; simp only [wDs, List.length_cons]; omega
def GD0 : GDatum := ⟨0, 0, [], []⟩
def dI (n : Int) : GDatum := ⟨1, n, [], []⟩
def dB (b : Bool) : GDatum := ⟨3, if b = true then 1 else 0, [], []⟩
abbrev Bnd := List UInt8 × GDatum
def kP : List Bnd → List UInt8 → Option GDatum
 | [], _ => none
 | b :: r, s => if b.1 = s then some b.2 else kP r s
def aK (t : Tree) (i : Nat) : Tree := t.kids.getD i (.node 0 [] [] [])
def dv (t : Tree) : Tree := if t.kind = 17 then aK t 0 else t
def tJ : List UInt8 → Int → Int
 | [], n => n
 | c :: r, n => tJ r (n * 10 + ((c.toNat : Int) - 48))
def di (p : List Tree) (m d : Int) : Tree := aK (p.getD m.toNat (.node 0 [] [] [])) d.toNat
def dh (ks : List Tree) (l : List GDatum) : List Bnd := List.zipWith (fun k d => (k.text, d)) ks l
def ee (op : List UInt8) (a b : GDatum) : GDatum × Int :=
 if op = [61, 61] then (if a.Kind = b.Kind then (dB (sameD a b), 0) else (GD0, 20))
 else if op = [43] ∧ a.Kind = 2 ∧ b.Kind = 2 then (if 4096 < a.S.length + b.S.length + 1 then (GD0, 3) else (⟨2, 0, a.S ++ b.S, []⟩, 0))
 else if ¬ (a.Kind = 1 ∧ b.Kind = 1) then (GD0, 20)
 else if op = [43] then (dI (IntKind.i64.wrap (a.N + b.N)), 0)
 else if op = [45] then (dI (IntKind.i64.wrap (a.N - b.N)), 0)
 else if op = [42] then (dI (IntKind.i64.wrap (a.N * b.N)), 0)
 else (dB (decide (a.N < b.N)), 0)
def evL (f : Tree → Nat → GDatum × Int × Nat) : List Tree → Nat → List GDatum × Int × Nat
 | [], r => ([], 0, r)
 |t :: ts, r => match f (dv t) r with
  | (d, e, r') => if e = 0 then (match evL f ts r' with | (l, e', r'') => if e' = 0 then (d :: l, 0, r'') else ([], e', r'')) else ([], e, r')
def evG (p : List Tree) : Nat → Int → Tree → List Bnd → Nat → GDatum × Int × Nat
 | 0, _, _, _, _ => (GD0, 21, 0)
 | _ + 1, _, _, _, 0 => (GD0, 21, 0)
 | g + 1, m, t, env, r + 1 =>
  if t.kind = 10 then (dI (tJ t.text 0), 0, r)
  else if t.kind = 11 then (⟨2, 0, (t.text.drop 1).take (t.text.length - 1 - 1), []⟩, 0, r)
  else if t.kind = 13 then (dB true, 0, r)
  else if t.kind = 14 then (dB false, 0, r)
  else if t.kind = 22 then evG p g m (aK t 0) env r
  else if t.kind = 12 then (match kP env t.text with | some d => (d, 0, r) | none => (GD0, 7, r))
  else if t.kind = 20 then (match evG p g m (aK t 0) env r with | (d, e, r') => if e = 0 then evG p g m (aK t 1) ((t.text, d) :: env) r' else (GD0, e, r'))
  else if t.kind = 19 then (match evG p g m (aK t 0) env r with | (d, e, r') => if e = 0 then (if d.Kind = 3 then (if d.N = 1 then evG p g m (aK t 1) env r' else evG p g m (aK t 2) env r') else (GD0, 20, r')) else (GD0, e, r'))
  else if t.kind = 18 then (match evL (fun k r => evG p g m k env r) t.kids r with | (l, e, r') => if e = 0 then (if 4096 < 1 + wDs l then (GD0, 3, r') else (⟨4, 0, [], l⟩, 0, r')) else (GD0, e, r'))
  else if t.kind = 16 then (match evL (fun k r => evG p g m k env r) t.kids r with | (l, e, r') => if e = 0 then (if (aP p m t.text).2.2 = true then (if (di p (aP p m t.text).1 (aP p m t.text).2.1).kids.length = l.length + 2 then evG p g (aP p m t.text).1 (aK (di p (aP p m t.text).1 (aP p m t.text).2.1) (l.length + 1)) (dh (di p (aP p m t.text).1 (aP p m t.text).2.1).kids l) r' else (GD0, 5, r')) else (GD0, 7, r')) else (GD0, e, r'))
  else if t.kind = 21 then (match evL (fun k r => evG p g m k env r) t.kids r with | (l, e, r') => if e = 0 then ((ee t.text (l.getD 0 GD0) (l.getD 1 GD0)).1, (ee t.text (l.getD 0 GD0) (l.getD 1 GD0)).2, r') else (GD0, e, r'))
  else (GD0, 7, r)
end Go.Proofs.YthnohcipianijaaGreatDoor
namespace Go.Proofs.YthnohcipianijaaGreatDoor
open Go.RowKit Lx Sx
set_option maxRecDepth 100000
theorem fC {k n : Int} : ∀ {l : List Tree} {i j : Nat} {u : Tree}, shapeKs k n i l = true → l[j]? = some u → iS k n ((i + j : Nat) : Int) u.kind = true ∧ shapeK u = true
 | [], i, j, u, _, h => by simp at h
 | t :: r, i, 0, u, h, hj => by
  simp only [shapeKs, Bool.and_eq_true] at h
  simp only [List.getElem?_cons_zero, Option.some.injEq] at hj
  subst hj
  exact ⟨by simpa using h.1.1, h.1.2⟩
 | t :: r, i, j + 1, u, h, hj => by
  simp only [shapeKs, Bool.and_eq_true] at h
  have := fC (i := i + 1) (j := j) h.2 (by simpa using hj)
  exact ⟨by rw [show i + (j + 1) = i + 1 + j by omega]; exact this.1, this.2⟩
theorem qX : ∀ {p : List Tree} {i : Nat} {t : Tree}, dz p = true → p[i]? = some t → t.kind = 1 ∧ shapeK t = true
 | [], i, t, _, h => by simp at h
 | v :: r, 0, t, h, hi => by
  simp only [dz, Bool.and_eq_true, beq_iff_eq] at h
  simp only [List.getElem?_cons_zero, Option.some.injEq] at hi
  subst hi; exact h.1
 | v :: r, i + 1, t, h, hi => by
  simp only [dz, Bool.and_eq_true] at h
  exact qX h.2 (by simpa using hi)
end Go.Proofs.YthnohcipianijaaGreatDoor
namespace Go.Proofs.YthnohcipianijaaGreatDoor
open Go.RowKit Lx Sx
set_option maxRecDepth 100000
mutual
def bareK : Tree → Tree
 | .node k s _ ks => .node k s [] (baresK ks)
def baresK : List Tree → List Tree
 | [] => []
 | t :: r => bareK t :: baresK r
end
theorem ng (t : Tree) : bareK t = .node t.kind t.text [] (baresK t.kids) := by cases t; simp only [bareK]; rfl
theorem Bw {t u : Tree} {d : Nat} (ht : t.kind = 1) (hs : shapeK t = true) (hu : t.kids[d]? = some u) : (u.kind = 2 ∧ aV u.text = 1) ∨ (u.kind = 3 ∧ aV u.text = 2) := by
 rw [bQ] at hs
 simp only [Bool.and_eq_true] at hs
 obtain ⟨h1, h2⟩ := fC hs.2 hu
 rw [ht] at h1
 simp [iS] at h1
 rw [bQ] at h2
 simp only [Bool.and_eq_true] at h2
 have h3 := h2.1.2
 rcases h1 with e | e
 ·rw [e] at h3
  simp [iQ] at h3
  exact .inl ⟨e, by omega⟩
 ·rw [e] at h3
  simp [iQ] at h3
  exact .inr ⟨e, by omega⟩
end Go.Proofs.YthnohcipianijaaGreatDoor
namespace Go.Proofs.YthnohcipianijaaGreatDoor
open Go.RowKit Lx Sx
set_option maxRecDepth 100000
theorem gK {t : Tree} {i : Nat} (h : i < t.kids.length) : t.kids[i]? = some (aK t i) := by
 simp only [aK, List.getD_eq_getElem?_getD]
 rw [List.getElem?_eq_getElem h]; rfl
theorem gL {l : List Tree} {i : Nat} {u z : Tree} (h : l[i]? = some u) : l.getD i z = u := by rw [List.getD_eq_getElem?_getD, h]; rfl
def exT (t : Tree) : Prop := shapeK t = true ∧ fI t.kind = true
theorem oM {n : Int} {a b c : Nat} {z : Int} (h : 0 ≤ f0 n a b c z) : (a : Int) ≤ n ∧ (0 ≤ z → n ≤ z) := by
 unfold f0 at h
 split at h
 ·omega
 ·split at h
  ·omega
  ·exact ⟨by omega, fun hz => by omega⟩
theorem DI {t : Tree} (h : exT t) : (t.kind = 22 → t.kids.length = 1) ∧ (t.kind = 20 → t.kids.length = 2) ∧ (t.kind = 19 → t.kids.length = 3) ∧ (t.kind = 21 → t.kids.length = 2) := by
 obtain ⟨hs, hk⟩ := h
 rw [bQ] at hs
 simp only [Bool.and_eq_true, decide_eq_true_eq] at hs
 have hl := hs.1.1
 refine ⟨fun e => ?_, fun e => ?_, fun e => ?_, fun e => ?_⟩
 ·rw [e] at hl; have := oM (show 0 ≤ f0 t.kids.length 1 2 0 1 from hl); omega
 ·rw [e] at hl; have := oM (show 0 ≤ f0 t.kids.length 2 4 0 2 from hl); omega
 ·rw [e] at hl; have := oM (show 0 ≤ f0 t.kids.length 3 3 0 3 from hl); omega
 ·rw [e] at hl; have := oM (show 0 ≤ f0 t.kids.length 2 1 0 2 from hl); omega
theorem xa {t u : Tree} {i : Nat} (h : exT t) (hu : t.kids[i]? = some u) (h16 : t.kind ≠ 16) : exT u ∧ u.kind ≠ 17 := by
  obtain ⟨hs, hk⟩ := h
  rw [bQ] at hs
  simp only [Bool.and_eq_true, decide_eq_true_eq] at hs
  obtain ⟨g1, g2⟩ := fC hs.2 hu
  have hk' : 10 ≤ t.kind ∧ t.kind ≤ 22 ∧ t.kind ≠ 17 := by simpa [fI] using hk
  have e : fI u.kind = true := by
    simp only [iS] at g1
    rw [if_neg (by omega), if_neg (by omega), if_neg (by omega), if_neg h16] at g1
    split at g1
    · simp only [Bool.or_eq_true, Bool.and_eq_true, beq_iff_eq, pC] at g1
      rcases g1 with g | ⟨_, g⟩
      · exact g.1
      · rw [g]; rfl
    · exact g1
  exact ⟨⟨g2, e⟩, by have : 10 ≤ u.kind ∧ u.kind ≤ 22 ∧ u.kind ≠ 17 := by simpa [fI   ] using e
                     exact this.2.2⟩
theorem xp {t u : Tree} {i : Nat} (h : exT t) (hu : t.kids[i]? = some u) (h16 : t.kind = 16) : u.kind = 17 ∧ u.kids.length = 1 ∧ exT (aK u 0) := by
 obtain ⟨hs, hk⟩ := h
 rw [bQ] at hs
 simp only [Bool.and_eq_true, decide_eq_true_eq] at hs
 obtain ⟨g1, g2⟩ := fC hs.2 hu
 have e : u.kind = 17 := by
  rw [h16] at g1
  simpa [iS] using g1
 rw [bQ] at g2
 simp only [Bool.and_eq_true, decide_eq_true_eq] at g2
 have hl := g2.1.1
 rw [e] at hl
 have := oM (show 0 ≤ f0 u.kids.length 1 0 0 1 from hl)
 have h1 : u.kids.length = 1 := by omega
 obtain ⟨g3, g4⟩ := fC g2.2 (gK (t := u) (i := 0) (by omega))
 rw [e] at g3
 exact ⟨e, h1, g4, by simpa [iS] using g3⟩
theorem Ch {t u : Tree} {i : Nat} (h : exT t) (hu : t.kids[i]? = some u) : exT (dv u) ∧ (dv u).kind ≠ 17 ∧ tbulk (dv u) ≤ tbulk u ∧ (u.kind = 17 ↔ t.kind = 16) := by
 by_cases h16 : t.kind = 16
 ·obtain ⟨h1, h2, h3⟩ := xp h hu h16
  rw [dv, if_pos h1]
  have h4 : 10 ≤ (aK u 0).kind ∧ (aK u 0).kind ≤ 22 ∧ (aK u 0).kind ≠ 17 := by simpa [fI] using h3.2
  have := bB (gK (t := u) (i := 0) (by omega))
  exact ⟨h3, h4.2.2, by omega, fun _ => h16, fun _ => h1⟩
 ·obtain ⟨h1, h2⟩ := xa h hu h16
  rw [dv, if_neg h2]
  exact ⟨h1, h2, Nat.le_refl _, fun h => absurd h h2, fun h => absurd h h16⟩
theorem Cy {t : Tree} (h : exT t) : (t.kind = 10 → aV t.text = 5) ∧ (t.kind = 11 → aV t.text = 6) ∧ (t.kind = 16 → aV t.text = 1 ∨ aV t.text = 3) ∧ (t.kind = 21 → t.text = [43] ∨ t.text = [45] ∨ t.text = [42] ∨ t.text = [60] ∨ t.text = [61, 61]) := by
 obtain ⟨hs, hk⟩ := h
 rw [bQ] at hs
 simp only [Bool.and_eq_true, decide_eq_true_eq] at hs
 have hw := hs.1.2
 refine ⟨fun e => ?_, fun e => ?_, fun e => ?_, fun e => ?_⟩
 ·rw [e] at hw; simp [iQ] at hw; omega
 ·rw [e] at hw; simp [iQ] at hw; omega
 ·rw [e] at hw; simp [iQ] at hw; omega
 ·rw [e] at hw; simpa [iQ, rm, or_assoc] using hw
theorem Hc {w : List UInt8} (h : aV w = 5) : spanN aR w = w.length ∧ w.length ≤ 15 ∧ w ≠ [] := by
 unfold aV at h
 split at h
 ·omega
 rename_i hne
 split at h
 ·rename_i hc
  unfold tokenT at h hc
  simp only [] at h hc
  by_cases a1 : aL (w.getD 0 0) = false
  ·rw [if_pos a1] at h; simp at h
  rw [if_neg a1] at h hc
  by_cases a2 : aW (w.getD 0 0) = true
  ·rw [if_pos a2] at h
   unfold bw cP bq at h
   repeat' split at h
   all_goals simp at h
  rw [if_neg a2] at h hc
  by_cases a3 : aR (w.getD 0 0) = true
  ·rw [if_pos a3] at hc
   simp only [cY] at hc
   repeat' split at hc
   all_goals simp at hc
   all_goals first | exact ⟨hc, by omega, hne⟩ | omega
  rw [if_neg a3] at h
  repeat' split at h
  all_goals simp at h
 ·omega
theorem sU : ∀ (l : List UInt8) (i : Nat), (quotedT l i).2 = 0 → i + 1 ≤ (quotedT l i).1
 | [], i, h => by simp [quotedT] at h
 | c :: r, i, h => by
  unfold quotedT at h ⊢
  split
  ·rw [if_pos (by assumption)] at h; simp at h
  ·rw [if_neg (by assumption)] at h
   split
   ·exact Nat.le_refl _
   ·rw [if_neg (by assumption)] at h
    split
    ·rw [if_pos (by assumption)] at h; simp at h
    ·rw [if_neg (by assumption)] at h
     have := sU r (i + 1) h
     omega
theorem GX {w : List UInt8} (h : aV w = 6) : 2 ≤ w.length := by
 unfold aV at h
 split at h
 ·omega
 split at h
 ·rename_i hc
  unfold tokenT at h hc
  simp only [] at h hc
  by_cases a1 : aL (w.getD 0 0) = false
  ·rw [if_pos a1] at h; simp at h
  rw [if_neg a1] at h hc
  by_cases a2 : aW (w.getD 0 0) = true
  ·rw [if_pos a2] at h
   unfold bw cP bq at h
   repeat' split at h
   all_goals simp at h
  rw [if_neg a2] at h hc
  by_cases a3 : aR (w.getD 0 0) = true
  ·rw [if_pos a3] at h
   simp at h
  rw [if_neg a3] at h hc
  by_cases a4 : (w.getD 0 0).toNat = 34
  ·rw [if_pos a4] at hc
   have := sU w.tail 1 hc.1
   have h2 : (quotedT w.tail 1).1 = w.length := hc.2
   omega
  rw [if_neg a4] at h
  repeat' split at h
  all_goals simp at h
 ·omega
theorem Dq {p : List Tree} {m : Int} {w : List UInt8} (h : (aP p m w).2.2 = true) : ∃ (i d : Nat) (t a : Tree), (aP p m w).1 = (i : Int) ∧ (aP p m w).2.1 = (d : Int) ∧ p[i]? = some t ∧ t.kids[d]? = some a := by
 have key : ∀ (m : Int) (w : List UInt8), (inK p m w).2.2 = true → ∃ (i d : Nat) (t a : Tree), (inK p m w).1 = (i : Int) ∧ (inK p m w).2.1 = (d : Int) ∧ p[i]? = some t ∧ t.kids[d]? = some a := fun m w h => by
  unfold inK at h ⊢
  split at h
  ·cases h
  ·rename_i hm
   rw [if_neg hm]
   cases hp : p[m.toNat]? with
   | none => rw [hp] at h; cases h
   | some t =>
    rw [hp] at h
    simp only at h ⊢
    split at h
    ·cases h
    ·rename_i hn
     rw [if_neg hn]
     rcases na w t.kids 0 with g | ⟨k, a, g1, g2, _⟩
     ·omega
     ·exact ⟨m.toNat, k, t, a, by simp; omega, by simp [g1], hp, g2⟩
 unfold aP at h ⊢
 split at h
 ·rw [if_pos (by assumption)]; exact key _ _ h
 ·rw [if_neg (by assumption)]; exact key _ _ h
theorem CV {p : List Tree} (hp : dz p = true) {i d : Nat} {t a : Tree} (ht : p[i]? = some t) (ha : t.kids[d]? = some a) : a.kind = 2 ∨ a.kids.length = 1 := by
 obtain ⟨t1, t2⟩ := qX hp ht
 rcases Bw t1 t2 ha with ⟨k2, _⟩ | ⟨k3, _⟩
 ·exact .inl k2
 ·right
  rw [bQ] at t2
  simp only [Bool.and_eq_true] at t2
  obtain ⟨_, g2⟩ := fC t2.2 ha
  rw [bQ, k3] at g2
  simp only [Bool.and_eq_true, decide_eq_true_eq] at g2
  have := oM (show 0 ≤ f0 a.kids.length 1 3 0 1 from g2.1.1)
  omega
theorem ww {p : List Tree} (hp : dz p = true) {i d n : Nat} {t a : Tree} (ht : p[i]? = some t) (ha : t.kids[d]? = some a) (hn : a.kids.length = n + 2) : a.kind = 2 ∧ exT (aK a (n + 1)) := by
 have h2 : a.kind = 2 := by rcases CV hp ht ha with h | h <;> omega
 obtain ⟨t1, t2⟩ := qX hp ht
 rw [bQ] at t2
 simp only [Bool.and_eq_true] at t2
 obtain ⟨_, g2⟩ := fC t2.2 ha
 rw [bQ, h2] at g2
 simp only [Bool.and_eq_true] at g2
 obtain ⟨g3, g4⟩ := fC g2.2 (gK (t := a) (i := n + 1) (by omega))
 refine ⟨h2, g4, ?_⟩
 simp only [iS] at g3
 rw [if_neg (by decide), if_pos (by decide), if_pos (by omega)] at g3
 exact g3
end Go.Proofs.YthnohcipianijaaGreatDoor
namespace Go.Proofs.YthnohcipianijaaGreatDoor
open Go.RowKit Go.Shelf Lx Sx
set_option maxRecDepth 100000
def FR : Go.Shelf.Ren := ⟨fun | 174 => 102 | 247 => 150 | 245 => 151 | 287 => 180 | 279 => 181 | 280 => 182 | 281 => 183 | 282 => 184 | 321 => 204 | 322 => 205 | 316 => 206 | 171 => 208 | 205 => 207 | 243 => 217 | 246 => 220 | 283 => 221 | 284 => 222 | 285 => 223 | 286 => 224 | 129 => 226 | 317 => 225 | 318 => 227 | 319 => 228 | 320 => 229 | 337 => 230 | 338 => 231 | n => n, fun | 9 => 9 | 3 => 3 | 2 => 2 | 75 => 161 | 85 => 162 | 4 => 4 | 167 => 221 | 5 => 5 | 53 => 222 | 175 => 223 | 46 => 212 | 168 => 225 | 37 => 231 | 0 => 0 | 210 => 233 | 21 => 21 | 127 => 239 | 145 => 242 | 143 => 240 | 171 => 247 | 173 => 250 | 212 => 253 | 51 => 243 | 20 => 20 | 213 => 254 | 232 => 257 | 233 => 258 | 80 => 259 | n => n, fun | 15 => 3 | 16 => 4 | 17 => 6 | 18 => 7 | 19 => 8 | n => n⟩
theorem FE : Go.Proofs.LaysC.n174 Tryz.prog FR := {
 mixed := by kernel_rfl
 f129 := Tryz.func226.trans (congrArg some (by kernel_rfl))
 f171 := Tryz.func208.trans (congrArg some (by kernel_rfl))
 f174 := Tryz.func102.trans (congrArg some (by kernel_rfl))
 f205 := Tryz.func207.trans (congrArg some (by kernel_rfl))
 f243 := Tryz.func217.trans (congrArg some (by kernel_rfl))
 f245 := Tryz.func151.trans (congrArg some (by kernel_rfl))
 f246 := Tryz.func220.trans (congrArg some (by kernel_rfl))
 f247 := Tryz.func150.trans (congrArg some (by kernel_rfl))
 f279 := Tryz.func181.trans (congrArg some (by kernel_rfl))
 f280 := Tryz.func182.trans (congrArg some (by kernel_rfl))
 f281 := Tryz.func183.trans (congrArg some (by kernel_rfl))
 f282 := Tryz.func184.trans (congrArg some (by kernel_rfl))
 f283 := Tryz.func221.trans (congrArg some (by kernel_rfl))
 f284 := Tryz.func222.trans (congrArg some (by kernel_rfl))
 f285 := Tryz.func223.trans (congrArg some (by kernel_rfl))
 f286 := Tryz.func224.trans (congrArg some (by kernel_rfl))
 f287 := Tryz.func180.trans (congrArg some (by kernel_rfl))
 f316 := Tryz.func206.trans (congrArg some (by kernel_rfl))
 f317 := Tryz.func225.trans (congrArg some (by kernel_rfl))
 f318 := Tryz.func227.trans (congrArg some (by kernel_rfl))
 f319 := Tryz.func228.trans (congrArg some (by kernel_rfl))
 f320 := Tryz.func229.trans (congrArg some (by kernel_rfl))
 f321 := Tryz.func204.trans (congrArg some (by kernel_rfl))
 f322 := Tryz.func205.trans (congrArg some (by kernel_rfl))
 f337 := Tryz.func230.trans (congrArg some (by kernel_rfl))
 f338 := Tryz.func231.trans (congrArg some (by kernel_rfl))
 t0 := Tryz.underlying0
 a0 := Tryz.isAgg0
 z0 := Tryz.sizeOf0
 v0 := Tryz.zeroValue0
 t2 := Tryz.underlying2
 a2 := Tryz.isAgg2
 z2 := Tryz.sizeOf2
 v2 := Tryz.zeroValue2
 t3 := Tryz.underlying3
 a3 := Tryz.isAgg3
 z3 := Tryz.sizeOf3
 v3 := Tryz.zeroValue3
 t4 := Tryz.underlying4
 a4 := Tryz.isAgg4
 z4 := Tryz.sizeOf4
 v4 := Tryz.zeroValue4
 t5 := Tryz.underlying5
 a5 := Tryz.isAgg5
 z5 := Tryz.sizeOf5
 v5 := Tryz.zeroValue5
 t9 := Tryz.underlying9
 a9 := Tryz.isAgg9
 z9 := Tryz.sizeOf9
 v9 := Tryz.zeroValue9
 t20 := Tryz.underlying20
 a20 := Tryz.isAgg20
 z20 := Tryz.sizeOf20
 v20 := Tryz.zeroValue20
 t21 := Tryz.underlying21
 a21 := Tryz.isAgg21
 z21 := Tryz.sizeOf21
 v21 := Tryz.zeroValue21
 t37 := Tryz.underlying231
 a37 := Tryz.isAgg231
 z37 := Tryz.sizeOf231
 v37 := Tryz.zeroValue231
 t46 := Tryz.underlying212
 a46 := Tryz.isAgg212
 z46 := Tryz.sizeOf212
 v46 := Tryz.zeroValue212
 t51 := Tryz.underlying243
 a51 := Tryz.isAgg243
 z51 := Tryz.sizeOf243
 v51 := Tryz.zeroValue243
 t53 := Tryz.underlying222
 a53 := Tryz.isAgg222
 z53 := Tryz.sizeOf222
 v53 := Tryz.zeroValue222
 t75 := Tryz.underlying161
 a75 := Tryz.isAgg161
 z75 := Tryz.sizeOf161
 v75 := Tryz.zeroValue161
 t85 := Tryz.underlying162
 a85 := Tryz.isAgg162
 z85 := Tryz.sizeOf162
 v85 := Tryz.zeroValue162
 t127 := Tryz.underlying239
 a127 := Tryz.isAgg239
 z127 := Tryz.sizeOf239
 v127 := Tryz.zeroValue239
 t143 := Tryz.underlying240
 a143 := Tryz.isAgg240
 z143 := Tryz.sizeOf240
 v143 := Tryz.zeroValue240
 t145 := Tryz.underlying242
 a145 := Tryz.isAgg242
 z145 := Tryz.sizeOf242
 v145 := Tryz.zeroValue242
 t167 := Tryz.underlying221
 a167 := Tryz.isAgg221
 z167 := Tryz.sizeOf221
 v167 := Tryz.zeroValue221
 t168 := Tryz.underlying225
 a168 := Tryz.isAgg225
 z168 := Tryz.sizeOf225
 v168 := Tryz.zeroValue225
 t171 := Tryz.underlying247
 a171 := Tryz.isAgg247
 z171 := Tryz.sizeOf247
 v171 := Tryz.zeroValue247
 t173 := Tryz.underlying250
 a173 := Tryz.isAgg250
 z173 := Tryz.sizeOf250
 v173 := Tryz.zeroValue250
 t175 := Tryz.underlying223
 a175 := Tryz.isAgg223
 z175 := Tryz.sizeOf223
 v175 := Tryz.zeroValue223
 t210 := Tryz.underlying233
 a210 := Tryz.isAgg233
 z210 := Tryz.sizeOf233
 v210 := Tryz.zeroValue233
 t212 := Tryz.underlying253
 a212 := Tryz.isAgg253
 z212 := Tryz.sizeOf253
 v212 := Tryz.zeroValue253
 t213 := Tryz.underlying254
 a213 := Tryz.isAgg254
 z213 := Tryz.sizeOf254
 t232 := Tryz.underlying257
 a232 := Tryz.isAgg257
 z232 := Tryz.sizeOf257
 v232 := Tryz.zeroValue257
 t233 := Tryz.underlying258
 a233 := Tryz.isAgg258
 z233 := Tryz.sizeOf258
 v233 := Tryz.zeroValue258
 g15 := by kernel_rfl
 g16 := by kernel_rfl
 g17 := by kernel_rfl
 g18 := by kernel_rfl
 g19 := by kernel_rfl
 t80 := Tryz.underlying259
 a80 := Tryz.isAgg259
 z80 := Tryz.sizeOf259
 v80 := Tryz.zeroValue259
 i0 := by kernel_rfl
 i2 := by kernel_rfl
 i3 := by kernel_rfl
 i4 := by kernel_rfl
 i5 := by kernel_rfl
 i9 := by kernel_rfl
 i20 := by kernel_rfl
 i21 := by kernel_rfl
 i37 := by kernel_rfl
 i46 := by kernel_rfl
 i51 := by kernel_rfl
 i53 := by kernel_rfl
 i75 := by kernel_rfl
 i80 := by kernel_rfl
 i85 := by kernel_rfl
 i127 := by kernel_rfl
 i143 := by kernel_rfl
 i145 := by kernel_rfl
 i167 := by kernel_rfl
 i168 := by kernel_rfl
 i171 := by kernel_rfl
 i173 := by kernel_rfl
 i175 := by kernel_rfl
 i210 := by kernel_rfl
 i212 := by kernel_rfl
 i232 := by kernel_rfl
 i233 := by kernel_rfl
 m15 := by kernel_rfl
 m16 := by kernel_rfl
 m17 := by kernel_rfl
 m18 := by kernel_rfl
 m19 := by kernel_rfl
 c0 := by kernel_rfl
 c2 := by kernel_rfl
 c3 := by kernel_rfl
 c4 := by kernel_rfl
 c5 := by kernel_rfl
 c9 := by kernel_rfl
 c20 := by kernel_rfl
 c21 := by kernel_rfl
 c37 := by kernel_rfl
 c46 := by kernel_rfl
 c51 := by kernel_rfl
 c53 := by kernel_rfl
 c75 := by kernel_rfl
 c80 := by kernel_rfl
 c85 := by kernel_rfl
 c127 := by kernel_rfl
 c143 := by kernel_rfl
 c145 := by kernel_rfl
 c167 := by kernel_rfl
 c168 := by kernel_rfl
 c171 := by kernel_rfl
 c173 := by kernel_rfl
 c175 := by kernel_rfl
 c210 := by kernel_rfl
 c212 := by kernel_rfl
 c213 := by kernel_rfl
 c232 := by kernel_rfl
 c233 := by kernel_rfl }
theorem wG {l : List UInt8} {v : Int} (h : Lib.parseIntB 64 l = .ok v) (hl : l.length ≤ 1000000000) : iA l 10 64 v () := sum0_calls rfl rfl fun S w ρ xs hx => by
 simp only [LRel] at hx
 obtain ⟨x, ys, rfl, h1, y, zs, rfl, h2, z, us, rfl, h3, rfl⟩ := hx
 simp only [VRel] at h1 h2 h3; subst h1 h2 h3
 refine (Any.strconv_ParseInt_10_at64_ok FE ⟨l.toArray⟩ (by show l.toArray.size ≤ _; simp; omega) v (by simpa using h) w).mono fun e w' ⟨he, hw⟩ => ⟨_, he, ?_, ?_⟩
 ·simp only [VRel, LRel]
  exact ⟨_, rfl, _, _, rfl, rfl, _, _, rfl, ⟨rfl, rfl⟩, rfl⟩
 ·rcases hw with rfl | ⟨t, rfl⟩
  ·exact Chg.refl _ _
  ·exact tP (Lib.bytesWorld_below _ _ _)
theorem uF {p : UInt8 → Bool} {c : UInt8} {r : List UInt8} (h : spanN p (c :: r) = (c :: r).length) : p c = true ∧ spanN p r = r.length := by
 simp only [spanN, List.takeWhile_cons, List.length_cons] at h ⊢
 cases hc : p c with
 | false => rw [hc] at h; simp at h
 | true => rw [hc] at h; simp at h; exact ⟨rfl, h⟩
theorem digits : ∀ (l : List UInt8) (a : Nat), spanN aR l = l.length → (a + 1) * 10 ^ l.length ≤ 1000000000000000 → ∃ n : Nat, n < (a + 1) * 10 ^ l.length ∧ tJ l a = n ∧ Lib.parseUintM (2 ^ 64 - 1) a l = .ok n
 | [], a, _, hb => ⟨a, by simp, rfl, rfl⟩
 | c :: r, a, h, hb => by
  have hc : aR c = true ∧ spanN aR r = r.length := uF h
  have hd : 48 ≤ c.toNat ∧ c.toNat ≤ 57 := by simpa [aR] using hc.1
  have hp : 1 ≤ 10 ^ r.length := Nat.one_le_pow _ _ (by omega)
  rw [List.length_cons, Nat.pow_succ] at hb
  have h1 : (a * 10 + (c.toNat - 48) + 1) * 10 ^ r.length ≤ (a + 1) * (10 ^ r.length * 10) := by
   rw [Nat.mul_comm (10 ^ r.length) 10, ← Nat.mul_assoc]
   exact Nat.mul_le_mul_right _ (by omega)
  have h2 : (a + 1) * 1 ≤ (a + 1) * (10 ^ r.length * 10) := Nat.mul_le_mul_left _ (by omega)
  obtain ⟨n, n1, n2, n3⟩ := digits r (a * 10 + (c.toNat - 48)) hc.2 (by omega)
  refine ⟨n, ?_, ?_, ?_⟩
  ·rw [List.length_cons, Nat.pow_succ]; omega
  ·rw [tJ, ← n2]; congr 1; omega
  ·rw [Lib.parseUintM, if_pos hd, if_neg (by omega), if_neg (by
    have h3 : (a * 10 + (c.toNat - 48) + 1) * 1 ≤ (a * 10 + (c.toNat - 48) + 1) * 10 ^ r.length := Nat.mul_le_mul_left _ hp
    omega)]
   exact n3
theorem yQ {w : List UInt8} (h : aV w = 5) : iA w 10 64 (tJ w 0) () := by
 obtain ⟨h1, h2, h3⟩ := Hc h
 have hp : 10 ^ w.length ≤ 10 ^ 15 := Nat.pow_le_pow_right (by omega) h2
 obtain ⟨n, n1, n2, n3⟩ := digits w 0 h1 (by omega)
 refine wG ?_ (by omega)
 cases w with
 | nil => exact absurd rfl h3
 | cons c r =>
  have hc : aR c = true := (uF h1).1
  have hd : 48 ≤ c.toNat ∧ c.toNat ≤ 57 := by simpa [aR] using hc
  have e1 : ¬ (c.toNat = 43 ∨ c.toNat = 45) := by omega
  have e2 : ¬ c.toNat = 45 := by omega
  have hn : n < 10 ^ 15 := by omega
  simp only [Lib.parseIntB, if_neg e1, Lib.parseUintB, if_neg (List.cons_ne_nil c r)]
  have n3' : Lib.parseUintM (2 ^ 64 - 1) 0 (c :: r) = .ok n := n3
  rw [n3']
  simp only [e2, not_false_eq_true, true_and, false_and, if_false]
  rw [if_neg (by omega)]
  exact congrArg _ n2.symm
end Go.Proofs.YthnohcipianijaaGreatDoor
namespace Go.Proofs.YthnohcipianijaaGreatDoor
open Go.RowKit Lx Sx
set_option maxRecDepth 100000
mutual
def nD : GDatum → Nat
 | .mk _ _ _ l => 1 + nDs l
def nDs : List GDatum → Nat
 | [] => 0
 | d :: r => nD d + nDs r
end
theorem tk (d : GDatum) : nD d = 1 + nDs d.L := by cases d; simp [nD]
theorem FL (d : GDatum) : 1 ≤ nD d := by rw [tk]; omega
theorem AM : ∀ {l : List GDatum} {x : GDatum}, x ∈ l → nD x ≤ nDs l
 | a :: r, x, h => by
  simp only [nDs]
  rcases List.mem_cons.1 h with rfl | h
  ·omega
  ·have := AM h; omega
theorem yc : ∀ l : List GDatum, l.length ≤ nDs l
 | [] => Nat.le_refl _
 | a :: r => by have := yc r; have := FL a; simp only [nDs, List.length_cons]; omega
theorem zO : ∀ l : List GDatum, (∀ x ∈ l, nD x ≤ wD x) → nDs l ≤ wDs l
 | [], _ => by simp [nDs, wDs]
 | a :: r, h => by
  have h1 := h a (by simp)
  have h2 := zO r fun x hx => h x (by simp [hx])
  simp only [nDs, wDs]; omega
theorem uR : ∀ d, nD d ≤ wD d := py fun d ih => by
 rw [tk, rj]
 have := zO d.L ih
 omega
theorem zR (d : GDatum) : d.L.length < nD d := by have := yc d.L; rw [tk]; omega
theorem AD {d x : GDatum} {i : Nat} (h : d.L[i]? = some x) : nD x < nD d := by have := AM (List.mem_of_getElem? h); rw [tk d]; omega
theorem DR : ∀ (d : GDatum) (lim : Nat), 1 ≤ lim → lim ≤ 1000000 → lw d lim (min lim (wD d) : Nat) := py fun d ih lim h1 h2 => by
 have loop : ∀ m i (z : Nat), d.L.length - i ≤ m → i < z → z ≤ lim → jO (m + 1) d lim z i (min lim (z + wDs (d.L.drop i)) : Nat) := fun m => by
  induction m with
  | zero =>
   intro i z hi hiz hz
   refine pd 0 _ _ _ _ _ ⟨fun h => by omega, fun h => ?_⟩
   rw [List.drop_of_length_le (by omega), wDs]; omega
  | succ m ihm =>
   intro i z hi hiz hz
   refine pd (m + 1) _ _ _ _ _ ⟨fun h => ?_, fun h => ?_⟩
   ·obtain ⟨u, hu, hl⟩ | h' := aB d.L i
    ·rw [bz hu, wDs]
     refine ⟨u, hu, fun hle => by omega, fun hlt => ⟨by constructor <;> omega, ((min (lim - z) (wD u) : Nat) : Int), ?_, ?_, by omega, ?_⟩⟩
     ·rw [show ((lim : Int) - (z : Int)) = ((lim - z : Nat) : Int) by omega]
      exact ih u (List.mem_of_getElem? hu) (lim - z) (by omega) (by omega)
     ·constructor <;> omega
     ·have hwu := AA u
      have := ihm (i + 1) (z + min (lim - z) (wD u)) (by omega) (by omega) (by omega)
      rw [show ((z : Int) + ((min (lim - z) (wD u) : Nat) : Int)) = ((z + min (lim - z) (wD u) : Nat) : Int) by omega, show min lim (z + (wD u + wDs (d.L.drop (i + 1)))) = min lim (z + min (lim - z) (wD u) + wDs (d.L.drop (i + 1))) by omega]
      exact this
    ·exact absurd h h'
   ·rw [List.drop_of_length_le (by omega), wDs]; omega
 refine uP (d.L.length + 1) _ _ _ ⟨by constructor <;> omega, fun h => ?_, fun h => ⟨by omega, ?_⟩⟩
 ·rw [rj]; omega
 ·have := loop d.L.length 0 (1 + d.S.length) (by omega) (by omega) (by omega)
  rw [List.drop_zero, ← rj] at this
  exact this
theorem wi (d : GDatum) : jM d (min 4097 (wD d) : Nat) := tK 0 _ _ ⟨_, DR d 4097 (by omega) (by omega), rfl⟩
theorem By : ∀ d : GDatum, nD d ≤ 1000000000 → jL d (formD d) := py fun d ih hn => by
 have hlen := zR d
 have loop : ∀ m i, d.L.length - i ≤ m → iR (m + 1) d i (formDs (d.L.drop i) && d.S == [] && d.N == 0) := fun m => by
  induction m with
  | zero =>
   intro i hi
   refine nI 0 _ _ _ ⟨fun h => by omega, fun h => ?_⟩
   rw [List.drop_of_length_le (by omega), formDs]
   exact ⟨fun e => by simp [e], fun e => by simp [e]⟩
  | succ m ihm =>
   intro i hi
   refine nI (m + 1) _ _ _ ⟨fun h => ?_, fun h => ?_⟩
   ·obtain ⟨u, hu, hl⟩ | h' := aB d.L i
    ·rw [bz hu, formDs]
     have := AD hu
     refine ⟨u, hu, _, ih u (List.mem_of_getElem? hu) (by omega), fun e => by simp [e], fun e => ⟨by omega, ?_⟩⟩
     rw [e, Bool.true_and]
     exact ihm (i + 1) (by omega)
    ·exact absurd h h'
   ·rw [List.drop_of_length_le (by omega), formDs]
    exact ⟨fun e => by simp [e], fun e => by simp [e]⟩
 refine tC (d.L.length + 1) _ _ ⟨fun h => ?_, fun h => ⟨fun h2 => ?_, fun h2 => ⟨fun h3 => ?_, fun h3 => ⟨fun h4 => ?_, fun h4 => ?_⟩⟩⟩⟩
 ·rw [mY, if_pos h]; exact ⟨fun e => by simp [e], fun e => by simp [e]⟩
 ·rw [mY, if_neg h, if_pos h2]; exact ⟨fun e => by simp [e], fun e => by simp [e]⟩
 ·rw [mY, if_neg h, if_neg h2, if_pos h3]
  exact ⟨fun e => ⟨fun e1 => ⟨fun e2 => by simp [e, e1, e2], fun e2 => by simp [e, e1, e2]⟩, fun e1 => by simp [e]; exact fun q => absurd (by rw [q]; rfl) e1⟩, fun e => by simp [e]⟩
 ·rw [mY, if_neg h, if_neg h2, if_neg h3, if_pos h4]
  exact loop d.L.length 0 (by omega)
 ·rw [mY, if_neg h, if_neg h2, if_neg h3, if_neg h4]
def gA (d : GDatum) : Bool := decide (wD d ≤ 4096) && formD d
theorem xS (d : GDatum) : kK d (gA d) := uN 0 _ _ ⟨_, wi d, fun h => ⟨_, By d (by have := uR d; omega), by unfold gA; rw [decide_eq_true (by omega), Bool.true_and]⟩, fun h => by unfold gA; rw [decide_eq_false (by omega), Bool.false_and]⟩
theorem tp : ∀ a : GDatum, nD a ≤ 1000000000 → ∀ b, dN a b (sameD a b) := py fun a ih hn b => by
 have hlen := zR a
 rw [wj]
 refine wt (a.L.length + 1) _ _ _ ⟨fun h => by simp [h], fun h => ⟨fun h2 => by simp [h2], fun h2 => ⟨fun h3 => by simp [h3], fun h3 => ⟨fun h4 => by simp [h4], fun h4 => ?_⟩⟩⟩⟩
 rw [show (a.Kind == b.Kind && a.N == b.N && a.S == b.S && a.L.length == b.L.length) = true by simp [h, h2, h3, h4], Bool.true_and]
 have loop : ∀ m i, a.L.length - i ≤ m → lh (m + 1) a b i (sameDs (a.L.drop i) (b.L.drop i)) := fun m => by
  induction m with
  | zero =>
   intro i hi
   refine qm 0 _ _ _ _ ⟨fun h => by omega, fun h => ?_⟩
   rw [List.drop_of_length_le (by omega), sameDs]
  | succ m ihm =>
   intro i hi
   refine qm (m + 1) _ _ _ _ ⟨fun h => ?_, fun h => ?_⟩
   ·obtain ⟨u, hu, hl⟩ | h' := aB a.L i
    ·obtain ⟨v, hv, _⟩ | h'' := aB b.L i
     ·rw [bz hu, bz hv, sameDs]
      have := AD hu
      refine ⟨u, hu, v, hv, _, ih u (List.mem_of_getElem? hu) (by omega) v, fun e => by simp [e], fun e => ⟨by omega, ?_⟩⟩
      rw [e, Bool.true_and]
      exact ihm (i + 1) (by omega)
     ·omega
    ·exact absurd h h'
   ·rw [List.drop_of_length_le (by omega), sameDs]
 exact loop a.L.length 0 (by omega)
theorem EF (d : GDatum) : GDatum.mk d.Kind d.N d.S d.L = d := by cases d; rfl
theorem Cl : ∀ d : GDatum, wD d ≤ 1000000000 → jK d d := py fun d ih hd => by
 rw [rj] at hd
 have hlen := xm d.L
 have loop : ∀ m i l, d.L.length - i ≤ m → i ≤ d.L.length → l = d.L.take i → iP (m + 1) d l i d := fun m => by
  induction m with
  | zero =>
   intro i l hi hle hl
   refine nV 0 _ _ _ _ ⟨fun h => by omega, fun h => ?_⟩
   rw [hl, List.take_of_length_le (by omega)]; exact EF d
  | succ m ihm =>
   intro i l hi hle hl
   refine nV (m + 1) _ _ _ _ ⟨fun h => ?_, fun h => ?_⟩
   ·obtain ⟨u, hu, hlt⟩ | h' := aB d.L i
    ·have := zQ (List.mem_of_getElem? hu)
     have hl2 : l ++ [u] = d.L.take (i + 1) := by rw [hl, List.take_add_one, hu]; rfl
     refine ⟨u, hu, u, ih u (List.mem_of_getElem? hu) (by omega), ?_, by omega, ihm (i + 1) _ (by omega) (by omega) hl2⟩
     rw [hl2, List.length_take]; omega
    ·exact absurd h h'
   ·rw [hl, List.take_of_length_le (by omega)]; exact EF d
 exact tV _ _ _ (loop d.L.length 0 [] (by omega) (by omega) (by simp))
theorem Br : ∀ (d : GDatum) (lim : Nat), 1 ≤ lim → lim ≤ 1000000 → fc d lim (min lim (nD d) : Nat) := py fun d ih lim h1 h2 => by
 have loop : ∀ m i (z : Nat), d.L.length - i ≤ m → 1 ≤ z → z ≤ lim → ek (m + 1) d lim z i (min lim (z + nDs (d.L.drop i)) : Nat) := fun m => by
  induction m with
  | zero =>
   intro i z hi h0 hz
   refine kp 0 _ _ _ _ _ ⟨fun h => by omega, fun h => ?_⟩
   rw [List.drop_of_length_le (by omega), nDs]; omega
  | succ m ihm =>
   intro i z hi h0 hz
   refine kp (m + 1) _ _ _ _ _ ⟨fun h => ⟨fun hlt => ?_, fun hge => by omega⟩, fun h => ?_⟩
   ·obtain ⟨u, hu, hl⟩ | h' := aB d.L i
    ·rw [bz hu, nDs]
     refine ⟨u, hu, by constructor <;> omega, ((min (lim - z) (nD u) : Nat) : Int), ?_, ?_, ?_⟩
     ·rw [show ((lim : Int) - (z : Int)) = ((lim - z : Nat) : Int) by omega]
      exact ih u (List.mem_of_getElem? hu) (lim - z) (by omega) (by omega)
     ·constructor <;> omega
     ·have := ihm (i + 1) (z + min (lim - z) (nD u)) (by omega) (by omega) (by omega)
      rw [show ((z : Int) + ((min (lim - z) (nD u) : Nat) : Int)) = ((z + min (lim - z) (nD u) : Nat) : Int) by omega, show min lim (z + (nD u + nDs (d.L.drop (i + 1)))) = min lim (z + min (lim - z) (nD u) + nDs (d.L.drop (i + 1))) by omega]
      exact this
    ·exact absurd h h'
   ·rw [List.drop_of_length_le (by omega), nDs]; omega
 refine pX (d.L.length + 1) _ _ _ ?_
 have := loop d.L.length 0 1 (by omega) (by omega) (by omega)
 rw [List.drop_zero, ← tk] at this
 exact this
theorem xW (d : GDatum) : eW d (decide (nD d < 3000)) := pJ 0 _ _ ⟨_, Br d 3000 (by omega) (by omega), by
 by_cases h : nD d < 3000
 ·rw [decide_eq_true h, decide_eq_true (by omega)]
 ·rw [decide_eq_false h, decide_eq_false (by omega)]⟩
theorem rR (n : Int) : dm n (dI n) := oX 0 _ _ rfl
end Go.Proofs.YthnohcipianijaaGreatDoor
namespace Go.Proofs.YthnohcipianijaaGreatDoor
open Go.RowKit Lx Sx
set_option maxRecDepth 100000
section
variable {p : List Tree} {g : Nat} {m : Int} {t : Tree} {env : List Bnd} {r : Nat}
theorem tS : evG p (g + 1) m t env 0 = (GD0, 21, 0) := by rw [evG]
theorem qf (h : t.kind = 10) : evG p (g + 1) m t env (r + 1) = (dI (tJ t.text 0), 0, r) := by simp [evG, h]
theorem pQ (h : t.kind = 11) : evG p (g + 1) m t env (r + 1) = (⟨2, 0, (t.text.drop 1).take (t.text.length - 1 - 1), []⟩, 0, r) := by simp [evG, h]
theorem pi (h : t.kind = 13) : evG p (g + 1) m t env (r + 1) = (dB true, 0, r) := by simp [evG, h]
theorem pE (h : t.kind = 14) : evG p (g + 1) m t env (r + 1) = (dB false, 0, r) := by simp [evG, h]
theorem pV (h : t.kind = 22) : evG p (g + 1) m t env (r + 1) = evG p g m (aK t 0) env r := by simp [evG, h]
theorem pM (h : t.kind = 12) : evG p (g + 1) m t env (r + 1) = (match kP env t.text with | some d => (d, 0, r) | none => (GD0, 7, r)) := by simp only [evG, h]; rfl
theorem pZ (h : t.kind = 20) : evG p (g + 1) m t env (r + 1) = (match evG p g m (aK t 0) env r with | (d, e, r') => if e = 0 then evG p g m (aK t 1) ((t.text, d) :: env) r' else (GD0, e, r')) := by simp only [evG, h]; rfl
theorem pP (h : t.kind = 19) : evG p (g + 1) m t env (r + 1) = (match evG p g m (aK t 0) env r with | (d, e, r') => if e = 0 then (if d.Kind = 3 then (if d.N = 1 then evG p g m (aK t 1) env r' else evG p g m (aK t 2) env r') else (GD0, 20, r')) else (GD0, e, r')) := by simp only [evG, h]; rfl
theorem pz (h : t.kind = 18) : evG p (g + 1) m t env (r + 1) = (match evL (fun k r => evG p g m k env r) t.kids r with | (l, e, r') => if e = 0 then (if 4096 < 1 + wDs l then (GD0, 3, r') else (⟨4, 0, [], l⟩, 0, r')) else (GD0, e, r')) := by simp only [evG, h]; rfl
theorem pm (h : t.kind = 16) : evG p (g + 1) m t env (r + 1) = (match evL (fun k r => evG p g m k env r) t.kids r with | (l, e, r') => if e = 0 then (if (aP p m t.text).2.2 = true then (if (di p (aP p m t.text).1 (aP p m t.text).2.1).kids.length = l.length + 2 then evG p g (aP p m t.text).1 (aK (di p (aP p m t.text).1 (aP p m t.text).2.1) (l.length + 1)) (dh (di p (aP p m t.text).1 (aP p m t.text).2.1).kids l) r' else (GD0, 5, r')) else (GD0, 7, r')) else (GD0, e, r')) := by simp only [evG, h]; rfl
theorem px (h : t.kind = 21) : evG p (g + 1) m t env (r + 1) = (match evL (fun k r => evG p g m k env r) t.kids r with | (l, e, r') => if e = 0 then ((ee t.text (l.getD 0 GD0) (l.getD 1 GD0)).1, (ee t.text (l.getD 0 GD0) (l.getD 1 GD0)).2, r') else (GD0, e, r')) := by simp only [evG, h]; rfl
theorem rB (h : ¬ (10 ≤ t.kind ∧ t.kind ≤ 22 ∧ t.kind ≠ 17 ∧ t.kind ≠ 15)) : evG p (g + 1) m t env (r + 1) = (GD0, 7, r) := by
 rw [evG]
 repeat rw [if_neg (by omega)]
theorem pr (h : t.kind = 15) : evG p (g + 1) m t env (r + 1) = (GD0, 7, r) := by simp [evG, h]
end
theorem kinds (k : Int) : k = 10 ∨ k = 11 ∨ k = 12 ∨ k = 13 ∨ k = 14 ∨ k = 15 ∨ k = 16 ∨ k = 18 ∨ k = 19 ∨ k = 20 ∨ k = 21 ∨ k = 22 ∨ ¬ (10 ≤ k ∧ k ≤ 22 ∧ k ≠ 17 ∧ k ≠ 15) := by omega
theorem EE (t : Tree) : 1 ≤ tbulk t := by rw [bk]; omega
theorem fO (t : Tree) (i : Nat) : tbulk (aK t i) ≤ tbulk t := by
 rcases Nat.lt_or_ge i t.kids.length with h | h
 ·exact Nat.le_of_lt (by have := bB (gK h); omega)
 ·have e : aK t i = .node 0 [] [] [] := by simp only [aK, List.getD_eq_getElem?_getD]; rw [List.getElem?_eq_none h]; rfl
  rw [e]; exact EE t
theorem qE {p : List Tree} {B : Nat} (hb : kbulk p ≤ B) (hB : 1 ≤ B) (m d : Int) : tbulk (di p m d) ≤ B := by
 refine Nat.le_trans (fO _ _) ?_
 rcases aB p m.toNat with ⟨t, ht, _⟩ | h
 ·rw [gL ht]; exact Nat.le_trans (db ht) hb
 ·rw [List.getD_eq_getElem?_getD, List.getElem?_eq_none (Nat.le_of_not_lt h)]; exact hB
theorem qO (t : Tree) : tbulk (dv t) ≤ tbulk t := by
 unfold dv
 split
 ·exact fO t 0
 ·exact Nat.le_refl _
def EOk (env : List Bnd) : Prop := ∀ b, b ∈ env → wD b.2 ≤ 2000000
theorem xc : ∀ {env : List Bnd} {s : List UInt8} {d : GDatum}, EOk env → kP env s = some d → wD d ≤ 2000000
 | [], s, d, _, h => by simp [kP] at h
 | b :: r, s, d, he, h => by
  unfold kP at h
  split at h
  ·simp only [Option.some.injEq] at h; subst h; exact he b (by simp)
  ·exact xc (fun x hx => he x (by simp [hx])) h
theorem pg {l : List GDatum} (hl : ∀ d, d ∈ l → wD d ≤ 2000000) : ∀ ks : List Tree, EOk (dh ks l) := by
 induction l with
 | nil => intro ks b hb; simp [dh] at hb
 | cons d r ih =>
  intro ks b hb
  cases ks with
  | nil => simp [dh] at hb
  | cons k ks =>
   simp only [dh, List.zipWith_cons_cons, List.mem_cons] at hb
   rcases hb with rfl | hb
   ·exact hl d (by simp)
   ·exact ih (fun x hx => hl x (by simp [hx])) ks b hb
theorem ri {f : Tree → Nat → GDatum × Int × Nat} {B : Nat} : ∀ (ts : List Tree) (r : Nat), (∀ t, t ∈ ts → ∀ r, wD (f (dv t) r).1 ≤ B ∧ (f (dv t) r).2.2 ≤ r) → (∀ d, d ∈ (evL f ts r).1 → wD d ≤ B) ∧ (evL f ts r).2.2 ≤ r ∧ ((evL f ts r).2.1 = 0 → (evL f ts r).1.length = ts.length) ∧ (¬ (evL f ts r).2.1 = 0 → (evL f ts r).1 = [])
 | [], r, _ => by simp [evL]
 | t :: ts, r, h => by
  have h1 := h t (by simp) r
  simp only [evL]
  revert h1
  generalize f (dv t) r = x
  obtain ⟨d, e, r'⟩ := x
  intro h1
  have h2 := ri ts r' fun t ht => h t (by simp [ht])
  simp only at h1 ⊢
  by_cases he : e = 0
  ·rw [if_pos he]
   revert h2
   generalize evL f ts r' = y
   obtain ⟨l, e', r''⟩ := y
   intro h2
   simp only at h2 ⊢
   by_cases he' : e' = 0
   ·rw [if_pos he']
    refine ⟨fun x hx => ?_, by simp only; omega, fun _ => by simp [h2.2.2.1 he'], fun hh => absurd rfl hh⟩
    rcases List.mem_cons.1 hx with rfl | hx
    ·exact h1.1
    ·exact h2.1 x hx
   ·rw [if_neg he']
    exact ⟨by simp, by simp only; omega, fun hh => absurd hh he', fun _ => rfl⟩
  ·rw [if_neg he]
   exact ⟨by simp, h1.2, fun hh => absurd hh he, fun _ => rfl⟩
theorem dt : wD GD0 ≤ 2000000 := by decide
theorem zL (n : Int) : wD (dI n) ≤ 2000000 := by simp [dI, wD, wDs]
theorem tv (b : Bool) : wD (dB b) ≤ 2000000 := by simp [dB, wD, wDs]
theorem DF (op : List UInt8) (a b : GDatum) : wD (ee op a b).1 ≤ 2000000 := by
 unfold ee
 repeat' split
 all_goals first | exact dt | exact zL _ | exact tv _ | (simp only [wD, wDs, List.length_append]; omega)
theorem mn {p : List Tree} (hb : kbulk p ≤ 1100000) : ∀ (g r : Nat) (m : Int) (t : Tree) (env : List Bnd), tbulk t ≤ 1100000 → EOk env → wD (evG p g m t env r).1 ≤ 2000000 ∧ (evG p g m t env r).2.2 ≤ r := fun g => by
 induction g with
 | zero => intro r m t env _ _; rw [evG]; exact ⟨dt, Nat.zero_le _⟩
 | succ g ih =>
  intro r m t env ht he
  cases r with
  | zero => rw [tS]; exact ⟨dt, Nat.le_refl _⟩
  | succ r =>
   have hk : ∀ i, tbulk (aK t i) ≤ 1100000 := fun i => Nat.le_trans (fO t i) ht
   have hL := ri (f := fun k r => evG p g m k env r) (B := 2000000) t.kids r fun k hk' r => ih r m (dv k) env (by
    obtain ⟨i, hi⟩ := List.getElem?_of_mem hk'
    have := bB hi
    have := qO k
    omega) he
   rcases kinds t.kind with h | h | h | h | h | h | h | h | h | h | h | h | h
   ·rw [qf h]; exact ⟨zL _, by simp only; omega⟩
   ·rw [pQ h]
    have := bY t
    exact ⟨by simp only [wD, wDs, List.length_take, List.length_drop]; omega, by simp only; omega⟩
   ·rw [pM h]
    cases hl : kP env t.text with
    | none => exact ⟨dt, by simp only; omega⟩
    | some d => exact ⟨xc he hl, by simp only; omega⟩
   ·rw [pi h]; exact ⟨tv _, by simp only; omega⟩
   ·rw [pE h]; exact ⟨tv _, by simp only; omega⟩
   ·rw [pr h]; exact ⟨dt, by simp only; omega⟩
   ·rw [pm h]
    revert hL
    generalize evL (fun k r => evG p g m k env r) t.kids r = x
    obtain ⟨l, e, r'⟩ := x
    intro hL
    simp only at hL ⊢
    split
    ·split
     ·split
      ·have h1 := ih r' (aP p m t.text).1 (aK (di p (aP p m t.text).1 (aP p m t.text).2.1) (l.length + 1)) (dh (di p (aP p m t.text).1 (aP p m t.text).2.1).kids l) (Nat.le_trans (fO _ _) (qE hb (by omega) _ _)) (pg hL.1 _)
       exact ⟨h1.1, by omega⟩
      ·exact ⟨dt, by simp only; omega⟩
     ·exact ⟨dt, by simp only; omega⟩
    ·exact ⟨dt, by simp only; omega⟩
   ·rw [pz h]
    revert hL
    generalize evL (fun k r => evG p g m k env r) t.kids r = x
    obtain ⟨l, e, r'⟩ := x
    intro hL
    simp only at hL ⊢
    split
    ·split
     ·exact ⟨dt, by simp only; omega⟩
     ·exact ⟨by simp only [wD, List.length_nil]; omega, by simp only; omega⟩
    ·exact ⟨dt, by simp only; omega⟩
   ·rw [pP h]
    have h1 := ih r m (aK t 0) env (hk 0) he
    revert h1
    generalize evG p g m (aK t 0) env r = x
    obtain ⟨d, e, r'⟩ := x
    intro h1
    simp only at h1 ⊢
    split
    ·split
     ·split
      ·have h2 := ih r' m (aK t 1) env (hk 1) he
       exact ⟨h2.1, by omega⟩
      ·have h2 := ih r' m (aK t 2) env (hk 2) he
       exact ⟨h2.1, by omega⟩
     ·exact ⟨dt, by simp only; omega⟩
    ·exact ⟨dt, by simp only; omega⟩
   ·rw [pZ h]
    have h1 := ih r m (aK t 0) env (hk 0) he
    revert h1
    generalize evG p g m (aK t 0) env r = x
    obtain ⟨d, e, r'⟩ := x
    intro h1
    simp only at h1 ⊢
    split
    ·have h2 := ih r' m (aK t 1) ((t.text, d) :: env) (hk 1) (fun b hb => by
      rcases List.mem_cons.1 hb with rfl | hb
      ·exact h1.1
      ·exact he b hb)
     exact ⟨h2.1, by omega⟩
    ·exact ⟨dt, by simp only; omega⟩
   ·rw [px h]
    revert hL
    generalize evL (fun k r => evG p g m k env r) t.kids r = x
    obtain ⟨l, e, r'⟩ := x
    intro hL
    simp only at hL ⊢
    split
    ·exact ⟨DF _ _ _, by simp only; omega⟩
    ·exact ⟨dt, by simp only; omega⟩
   ·rw [pV h]
    have h1 := ih r m (aK t 0) env (hk 0) he
    exact ⟨h1.1, by omega⟩
   ·rw [rB h]; exact ⟨dt, by simp only; omega⟩
end Go.Proofs.YthnohcipianijaaGreatDoor
namespace Go.Proofs.YthnohcipianijaaGreatDoor
open Go.RowKit Lx Sx
set_option maxRecDepth 100000
set_option maxHeartbeats 1100000
mutual
def prepN (p : List Tree) (m : Int) : Tree → ab
 | .node k s _ ks => ⟨k, if (k == 16 || k == 9) = true then (aP p m s).1 else 0, if (k == 16 || k == 9) = true then (aP p m s).2.1 else 0, if (k == 16 || k == 9) = true then !(aP p m s).2.2 else false, s, prepNs p m ks⟩
def prepNs (p : List Tree) (m : Int) : List Tree → List ab
 | [] => []
 | t :: r => prepN p m t :: prepNs p m r
end
theorem sN (p : List Tree) (m : Int) : ∀ l, prepNs p m l = l.map (prepN p m)
 | [] => by simp [prepNs]
 | t :: r => by simp [prepNs, sN p m r]
section
variable {p : List Tree} {m : Int}
theorem lQ (t : Tree) : prepN p m t = ⟨t.kind, if kc t = true then (aP p m t.text).1 else 0, if kc t = true then (aP p m t.text).2.1 else 0, if kc t = true then !(aP p m t.text).2.2 else false, t.text, t.kids.map (prepN p m)⟩ := by
 cases t; simp only [prepN, sN]; rfl
theorem cb (t : Tree) : (prepN p m t).kind = t.kind := by rw [lQ]
theorem iN (t : Tree) : (prepN p m t).text = t.text := by rw [lQ]
theorem tg (t : Tree) : (prepN p m t).kids = t.kids.map (prepN p m) := by rw [lQ]
theorem ix {t u : Tree} {i : Nat} (h : t.kids[i]? = some u) : (prepN p m t).kids[i]? = some (prepN p m u) := by rw [tg, List.getElem?_map, h]; rfl
theorem mt (t : Tree) : (prepN p m t).kids.length = t.kids.length := by rw [tg, List.length_map]
theorem zW {t : Tree} (h : t.kind = 16) : (prepN p m t).module = (aP p m t.text).1 ∧ (prepN p m t).def_ = (aP p m t.text).2.1 ∧ (prepN p m t).free = !(aP p m t.text).2.2 := by
 have : kc t = true := by simp [kc, h]
 rw [lQ]; simp only [if_pos this, true_and]
theorem yR : ∀ t : Tree, tbulk t ≤ 1000000000 → ∀ (q : List Int) (rest : List GTarget), im t (ft p m (nodK t q) ++ rest) (prepN p m t) rest := dJ fun t ih hb q rest => by
 have hk := cj t
 have loop : ∀ j i l, t.kids.length - i ≤ j → i ≤ t.kids.length → l = (t.kids.take i).map (prepN p m) → ∀ (z1 z2 : Int) (b : Bool), eT (j + 1) t (ft p m (nodKs (t.kids.drop i) q i) ++ rest) z1 z2 b l i ⟨t.kind, z1, z2, b, t.text, t.kids.map (prepN p m)⟩ rest := fun j => by
  induction j with
  | zero =>
   intro i l hi hle hl z1 z2 b
   refine mJ 0 _ _ _ _ _ _ _ _ _ ⟨fun h => by omega, fun h => ?_⟩
   rw [List.drop_of_length_le (by omega), hl, List.take_of_length_le (by omega)]
   exact ⟨rfl, by simp [nodKs, ft]⟩
  | succ j ihj =>
   intro i l hi hle hl z1 z2 b
   refine mJ (j + 1) _ _ _ _ _ _ _ _ _ ⟨fun h => ?_, fun h => ?_⟩
   ·obtain ⟨u, hu, hlt⟩ | h' := aB t.kids i
    ·have hbu := bB hu
     rw [bz hu, nodKs, rY, List.append_assoc]
     have hl2 : l ++ [prepN p m u] = (t.kids.take (i + 1)).map (prepN p m) := by rw [hl, List.take_add_one, hu]; simp
     refine ⟨u, hu, prepN p m u, _, ih i u hu (by omega) (q ++ [(i : Int)]) _, ?_, by omega, ihj (i + 1) _ (by omega) (by omega) hl2 z1 z2 b⟩
     rw [hl2, List.length_map, List.length_take]; omega
    ·exact absurd h h'
   ·rw [List.drop_of_length_le (by omega), hl, List.take_of_length_le (by omega)]
    exact ⟨rfl, by simp [nodKs, ft]⟩
 have l0 : gZ (t.kids.length + 2) t (ft p m (nodK t q) ++ rest) (kc t) (prepN p m t) rest := by
  refine rE (t.kids.length + 1) _ _ _ _ _ ⟨fun h => ?_, fun h => ?_⟩
  ·rw [tG, ft, if_pos h]
   refine ⟨tgK p m q t, rfl, by simp, ?_⟩
   have := loop t.kids.length 0 [] (by omega) (by omega) (by simp) (aP p m t.text).1 (aP p m t.text).2.1 (!(aP p m t.text).2.2)
   rw [lQ, if_pos h, if_pos h, if_pos h]
   exact this
  ·have h' : ¬ kc t = true := by rw [h]; decide
   rw [tG, ft, if_neg h']
   have := loop t.kids.length 0 [] (by omega) (by omega) (by simp) 0 0 false
   rw [lQ, if_neg h', if_neg h', if_neg h']
   exact this
 refine rV (t.kids.length + 2) _ _ _ _ ⟨fun h => ?_, fun h => ?_⟩
 ·have : kc t = true := by simp [kc, h]
  rw [this] at l0; exact l0
 ·have : kc t = (t.kind == 9) := by simp [kc, h]
  rw [this] at l0; exact l0
end
def pS (p : List Tree) : Nat → List Tree → List ab
 | _, [] => []
 | i, t :: r => prepN p i t :: pS p (i + 1) r
def cX (p : List Tree) : List ab := pS p 0 p
theorem uD (p : List Tree) : ∀ (l : List Tree) (i k : Nat) (t : Tree), l[k]? = some t → (pS p i l)[k]? = some (prepN p ((i + k : Nat) : Int) t)
 | [], i, k, t, h => by simp at h
 | u :: r, i, 0, t, h => by simp at h; subst h; simp [pS]
 | u :: r, i, k + 1, t, h => by
  have := uD p r (i + 1) k t (by simpa using h)
  rw [show i + 1 + k = i + (k + 1) by omega] at this
  simpa [pS] using this
theorem qi {p : List Tree} {k : Nat} {t : Tree} (h : p[k]? = some t) : (cX p)[k]? = some (prepN p (k : Int) t) := by
 have := uD p p 0 k t h
 simpa [cX] using this
def pb (b : Bnd) : ah := ⟨b.1, b.2⟩
def VOk (p : List Tree) (g : Nat) : Prop := ∀ (r m : Nat) (t : Tree) (env : List Bnd) (fuel : Nat), r < g → r ≤ fuel → fuel ≤ 16384 → m < p.length → exT t → tbulk t ≤ 1100000 → EOk env →
 S_eval_runner_value (cX p) fuel ((fuel : Int) - (r : Int)) (prepN p m t) (env.map pb) (evG p g m t env r).1 (evG p g m t env r).2.1 (cX p) fuel ((fuel : Int) - ((evG p g m t env r).2.2 : Int))
section
variable {p : List Tree} (hb : kbulk p ≤ 1100000)
theorem Gn {g : Nat} (hb : kbulk p ≤ 1100000) (H : VOk p g) (m : Nat) (t : Tree) (env : List Bnd) (fuel : Nat) (hf : fuel ≤ 16384) (hm : m < p.length) (hx : exT t) (ht : tbulk t ≤ 1100000) (he : EOk env) (r : Nat) (hr : r < g) (hrf : r ≤ fuel) :
  S_eval_runner_all (cX p) fuel ((fuel : Int) - (r : Int)) (prepN p m t) (env.map pb) (evL (fun k r => evG p g m k env r) t.kids r).1 (evL (fun k r => evG p g m k env r) t.kids r).2.1 (cX p) fuel ((fuel : Int) - ((evL (fun k r => evG p g m k env r) t.kids r).2.2 : Int)) := by
 have hk := cj t
 have loop : ∀ j i (r : Nat) acc, t.kids.length - i ≤ j → i ≤ t.kids.length → acc.length = i → r < g → r ≤ fuel → fy (2 * j + 1) (prepN p m t) (env.map pb) (cX p) fuel ((fuel : Int) - (r : Int)) acc i
   (if (evL (fun k r => evG p g m k env r) (t.kids.drop i) r).2.1 = 0 then acc ++ (evL (fun k r => evG p g m k env r) (t.kids.drop i) r).1 else []) (evL (fun k r => evG p g m k env r) (t.kids.drop i) r).2.1 (cX p) fuel ((fuel : Int) - ((evL (fun k r => evG p g m k env r) (t.kids.drop i) r).2.2 : Int)) := fun j => by
  induction j with
  | zero =>
   intro i r acc hi hle hacc hr hrf
   refine lG 0 _ _ _ _ _ _ _ _ _ _ _ _ ⟨fun h => by rw [mt] at h; omega, fun h => ?_⟩
   rw [List.drop_of_length_le (by omega), evL]
   exact ⟨by simp, rfl, rfl, rfl, rfl⟩
  | succ j ihj =>
   intro i r acc hi hle hacc hr hrf
   refine lG (2 * j + 2) _ _ _ _ _ _ _ _ _ _ _ _ ⟨fun h => ?_, fun h => ?_⟩
   ·rw [mt] at h
    obtain ⟨u, hu, hlt⟩ | h' := aB t.kids i
    ·obtain ⟨a1, a2, a3, a4⟩ := Ch hx hu
     have hbu := bB hu
     have hv := H r m (dv u) env fuel hr hrf hf hm a1 (by omega) he
     have hin := mn hb g r m (dv u) env (by omega) he
     rw [bz hu, evL]
     revert hv hin
     generalize evG p g m (dv u) env r = y
     obtain ⟨d, e, r'⟩ := y
     intro hv hin
     simp only at hv hin ⊢
     have l1 : fE (2 * j + 2) (prepN p m t) (env.map pb) (prepN p m (dv u)) (cX p) fuel ((fuel : Int) - (r : Int)) acc i
       (if (if e = 0 then (match evL (fun k r => evG p g m k env r) (t.kids.drop (i + 1)) r' with | (l, e', r'') => if e' = 0 then (d :: l, (0 : Int), r'') else ([], e', r'')) else ([], e, r')).2.1 = 0 then acc ++ (if e = 0 then (match evL (fun k r => evG p g m k env r) (t.kids.drop (i + 1)) r' with | (l, e', r'') => if e' = 0 then (d :: l, (0 : Int), r'') else ([], e', r'')) else ([], e, r')).1 else [])
       (if e = 0 then (match evL (fun k r => evG p g m k env r) (t.kids.drop (i + 1)) r' with | (l, e', r'') => if e' = 0 then (d :: l, (0 : Int), r'') else ([], e', r'')) else ([], e, r')).2.1 (cX p) fuel ((fuel : Int) - ((if e = 0 then (match evL (fun k r => evG p g m k env r) (t.kids.drop (i + 1)) r' with | (l, e', r'') => if e' = 0 then (d :: l, (0 : Int), r'') else ([], e', r'')) else ([], e, r')).2.2 : Int)) := by
      refine qw (2 * j + 1) _ _ _ _ _ _ _ _ _ _ _ _ _ ⟨d, e, _, _, _, hv, fun h0 => ?_, fun h0 => ?_⟩
      ·exact ⟨by simp [h0], by simp [h0], rfl, rfl, by simp [h0]⟩
      ·have hrec := ihj (i + 1) r' (acc ++ [d]) (by omega) (by omega) (by simp [hacc]) (by omega) (by omega)
       refine ⟨by simp [hacc]; omega, by omega, ?_⟩
       simp only [if_pos h0]
       revert hrec
       generalize evL (fun k r => evG p g m k env r) (t.kids.drop (i + 1)) r' = x
       obtain ⟨l, e', r''⟩ := x
       intro hrec
       simp only at hrec ⊢
       by_cases he' : e' = 0
       ·simp only [if_pos he'] at hrec ⊢
        subst he'
        simpa using hrec
       ·simp only [if_neg he'] at hrec ⊢
        exact hrec
     refine ⟨prepN p m u, ix hu, fun h17 => ?_, fun h17 => ?_⟩
     ·rw [cb] at h17
      obtain ⟨b1, b2, b3⟩ := xp hx hu (a4.1 h17)
      have e : dv u = aK u 0 := by rw [dv, if_pos h17]
      rw [e] at l1
      exact ⟨_, ix (gK (by omega)), l1⟩
     ·rw [cb] at h17
      have e : dv u = u := by rw [dv, if_neg h17]
      rw [e] at l1
      exact l1
    ·exact absurd h h'
   ·rw [mt] at h
    rw [List.drop_of_length_le (by omega), evL]
    exact ⟨by simp, rfl, rfl, rfl, rfl⟩
 refine qU (2 * t.kids.length + 1) _ _ _ _ _ _ _ _ _ _ ?_
 have := loop t.kids.length 0 r [] (by omega) (by omega) rfl hr hrf
 rw [List.drop_zero] at this
 have e : (if (evL (fun k r => evG p g m k env r) t.kids r).2.1 = 0 then [] ++ (evL (fun k r => evG p g m k env r) t.kids r).1 else []) = (evL (fun k r => evG p g m k env r) t.kids r).1 := by
  split
  ·rfl
  ·rename_i hne
   refine ((ri (B := 2000000) t.kids r fun k hk' r => ?_).2.2.2 hne).symm
   obtain ⟨i, hi⟩ := List.getElem?_of_mem hk'
   have := bB hi
   have := qO k
   exact mn hb g r m (dv k) env (by omega) he
 rw [e] at this
 exact this
theorem xr {g : Nat} (H : VOk p g) (i : Nat) (a : Tree) (l : List GDatum) (fuel : Nat) (hf : fuel ≤ 16384) (hi : i < p.length) (ha : a.kids.length = l.length + 2) (hx : exT (aK a (l.length + 1))) (hab : tbulk a ≤ 1100000) (hl : ∀ d, d ∈ l → wD d ≤ 2000000) (r : Nat) (hr : r < g) (hrf : r ≤ fuel) :
  S_eval_runner_enter (cX p) fuel ((fuel : Int) - (r : Int)) (prepN p i a) l (evG p g i (aK a (l.length + 1)) (dh a.kids l) r).1 (evG p g i (aK a (l.length + 1)) (dh a.kids l) r).2.1 (cX p) fuel ((fuel : Int) - ((evG p g i (aK a (l.length + 1)) (dh a.kids l) r).2.2 : Int)) := by
 have hlen := cj a
 have loop : ∀ j, j ≤ l.length → ei (j + 1) (cX p) fuel ((fuel : Int) - (r : Int)) (prepN p i a) l ((dh (a.kids.drop j) (l.drop j)).map pb) ((j : Int) - 1) (evG p g i (aK a (l.length + 1)) (dh a.kids l) r).1 (evG p g i (aK a (l.length + 1)) (dh a.kids l) r).2.1 (cX p) fuel ((fuel : Int) - ((evG p g i (aK a (l.length + 1)) (dh a.kids l) r).2.2 : Int)) := fun j => by
  induction j with
  | zero =>
   intro _
   refine ke 0 _ _ _ _ _ _ _ _ _ _ _ _ ⟨fun h => by omega, fun h => ⟨by omega, _, ix (gK (by omega)), _, _, _, _, _, H r i _ _ fuel hr hrf hf hi hx (Nat.le_trans (fO _ _) hab) (pg hl a.kids), rfl, rfl, rfl, rfl, rfl⟩⟩
  | succ j ihj =>
   intro hj
   obtain ⟨u, hu, _⟩ | h' := aB a.kids j
   ·obtain ⟨d, hd, _⟩ | h'' := aB l j
    ·refine ke (j + 1) _ _ _ _ _ _ _ _ _ _ _ _ ⟨fun h => ⟨j, by omega, _, ix hu, j, by omega, d, hd, by constructor <;> omega, ?_⟩, fun h => by omega⟩
     have := ihj (by omega)
     rw [bz hu, bz hd] at this
     rw [show (((j + 1 : Nat) : Int) - 1 - 1) = (j : Int) - 1 by omega, iN]
     simpa [dh, pb] using this
    ·omega
   ·omega
 have := loop l.length (Nat.le_refl _)
 rw [List.drop_of_length_le (Nat.le_refl l.length)] at this
 refine qc (l.length + 1) _ _ _ _ _ _ _ _ _ _ ?_
 simpa [dh] using this
end
end Go.Proofs.YthnohcipianijaaGreatDoor
namespace Go.Proofs.YthnohcipianijaaGreatDoor
open Go.RowKit Lx Sx
set_option maxRecDepth 100000
set_option maxHeartbeats 1100000
theorem nH (b : Bool) : eP b (dB b) := sS 0 _ _ ⟨fun h => by rw [h]; rfl, fun h => by rw [h]; rfl⟩
theorem FD {d : GDatum} {B : Nat} (h : wD d ≤ B) : d.S.length ≤ B := by rw [rj] at h; omega
theorem tu {P : List ab} {F U : Int} {N : ab} {x y : GDatum} (b : Bool) (hx : wD x ≤ 2000000) (hy : wD y ≤ 2000000) (h61 : ¬ N.text = [61, 61]) (hb : b = true ↔ (N.text = [43] ∧ x.Kind = 2 ∧ y.Kind = 2)) :
  L1_eval_runner_operation 1 N P F U x y b (ee N.text x y).1 (ee N.text x y).2 P F U := by
 have h1 := FD hx
 have h2 := FD hy
 have e1 : IntKind.i64.wrap (((x.S.length : Nat) : Int) + ((y.S.length : Nat) : Int)) = ((x.S.length : Nat) : Int) + ((y.S.length : Nat) : Int) := IntWalk.i64_in _ (by omega)
 have e2 : IntKind.i64.wrap (((x.S.length : Nat) : Int) + ((y.S.length : Nat) : Int) + 1) = ((x.S.length : Nat) : Int) + ((y.S.length : Nat) : Int) + 1 := IntWalk.i64_in _ (by omega)
 refine mM 0 _ _ _ _ _ _ _ _ _ _ _ _ ⟨fun ht => ⟨fun h => ?_, fun h => ⟨by omega, ?_⟩⟩, fun hf => ?_⟩
 ·rw [e1, e2] at h
  have e : ee N.text x y = (GD0, 3) := by rw [ee, if_neg h61, if_pos (hb.1 ht), if_pos (by omega)]
  rw [e]; exact ⟨rfl, rfl, rfl, rfl, rfl⟩
 ·rw [e1, e2] at h
  have e : ee N.text x y = (⟨2, 0, x.S ++ y.S, []⟩, 0) := by rw [ee, if_neg h61, if_pos (hb.1 ht), if_neg (by omega)]
  rw [e]; exact ⟨rfl, rfl, rfl, rfl, rfl⟩
 ·have hn : ¬ (N.text = [43] ∧ x.Kind = 2 ∧ y.Kind = 2) := fun h => by rw [hb.2 h] at hf; cases hf
  have e : ee N.text x y = (if ¬ (x.Kind = 1 ∧ y.Kind = 1) then (GD0, 20) else if N.text = [43] then (dI (IntKind.i64.wrap (x.N + y.N)), 0) else if N.text = [45] then (dI (IntKind.i64.wrap (x.N - y.N)), 0) else if N.text = [42] then (dI (IntKind.i64.wrap (x.N * y.N)), 0) else (dB (decide (x.N < y.N)), 0)) := by rw [ee, if_neg h61, if_neg hn]
  rw [e]
  refine ⟨fun k => ?_, fun k => ⟨fun k2 => ?_, fun k2 => ?_⟩⟩
  ·rw [if_pos (fun h => k h.1)]; exact ⟨rfl, rfl, rfl, rfl, rfl⟩
  ·rw [if_pos (fun h => k2 h.2)]; exact ⟨rfl, rfl, rfl, rfl, rfl⟩
  ·rw [if_neg (fun h => h ⟨k, k2⟩)]
   refine ⟨fun q => ?_, fun q => ⟨fun q2 => ?_, fun q2 => ⟨fun q3 => ?_, fun q3 => ?_⟩⟩⟩
   ·rw [if_pos q]; exact ⟨rfl, rfl, rfl, rfl, rfl⟩
   ·rw [if_neg q, if_pos q2]; exact ⟨rfl, rfl, rfl, rfl, rfl⟩
   ·rw [if_neg q, if_neg q2, if_pos q3]; exact ⟨rfl, rfl, rfl, rfl, rfl⟩
   ·rw [if_neg q, if_neg q2, if_neg q3]; exact ⟨_, nH _, rfl, rfl, rfl, rfl, rfl⟩
theorem EL {P : List ab} {F U : Int} {N : ab} {x y : GDatum} (hx : wD x ≤ 2000000) (hy : wD y ≤ 2000000) :
  L0_eval_runner_operation 2 N P F U x y (ee N.text x y).1 (ee N.text x y).2 P F U := by
 refine mN 1 _ _ _ _ _ _ _ _ _ _ _ ⟨fun h => ⟨fun k => ?_, fun k => ?_⟩, fun h => ⟨fun k => ⟨fun q => ?_, fun q => ?_⟩, fun k => ?_⟩⟩
 ·have e : ee N.text x y = (GD0, 20) := by rw [ee, if_pos h, if_neg k]
  rw [e]; exact ⟨rfl, rfl, rfl, rfl, rfl⟩
 ·have e : ee N.text x y = (dB (sameD x y), 0) := by rw [ee, if_pos h, if_pos k]
  rw [e]; exact ⟨_, tp x (by have := uR x; omega) y, _, nH _, rfl, rfl, rfl, rfl, rfl⟩
 ·exact tu _ hx hy h (by simp [k, q])
 ·exact tu _ hx hy h (by simp [q])
 ·exact tu _ hx hy h (by simp [k])
theorem uk {P : List ab} {F U : Int} {N : ab} (k : Nat) : ∀ (env : List Bnd), eC (env.length + k + 1) P F U N (env.map pb) ((kP env N.text).getD GD0) (if (kP env N.text).isSome = true then 0 else 7) P F (U + 1)
 | [] => kh _ _ _ _ _ _ _ _ _ _ _ ⟨fun _ => ⟨rfl, rfl, rfl, rfl, rfl⟩, fun x l h => by cases h⟩
 | b :: r => by
  rw [show (b :: r).length + k + 1 = (r.length + k + 1) + 1 by simp only [List.length_cons]; omega]
  refine kh (r.length + k + 1) _ _ _ _ _ _ _ _ _ _ ⟨fun h => (by cases h), fun x l h => ?_⟩
  simp only [List.map_cons, List.cons.injEq] at h
  obtain ⟨rfl, rfl⟩ := h
  refine ⟨fun h => ?_, fun h => ?_⟩
  ·have h' : b.1 = N.text := h
   rw [kP, if_pos h']; exact ⟨rfl, rfl, rfl, rfl, rfl⟩
  ·have h' : ¬ b.1 = N.text := h
   rw [kP, if_neg h']; exact uk k r
theorem Dn {p : List Tree} (hp : dz p = true) (hb : kbulk p ≤ 1100000) : ∀ g, VOk p g := fun g => by
 induction g with
 | zero => intro r m t env fuel hr; omega
 | succ g ih =>
  intro r m t env fuel hr hrf hf hm hx ht he
  have hkb : ∀ i, tbulk (aK t i) ≤ 1100000 := fun i => Nat.le_trans (fO t i) ht
  cases r with
  | zero =>
   rw [tS]
   exact la 20 _ _ _ _ _ _ _ _ _ _ ⟨fun _ => ⟨rfl, rfl, rfl, rfl, rfl⟩, fun h => absurd (by omega) h⟩
  | succ r =>
   have e1 : (fuel : Int) - ((r + 1 : Nat) : Int) + 1 = (fuel : Int) - (r : Int) := by omega
   obtain ⟨hl22, hl20, hl19, hl21⟩ := DI hx
   obtain ⟨hw10, hw11, hw16, hw21⟩ := Cy hx
   have kid : ∀ i, i < t.kids.length → t.kind ≠ 16 → exT (aK t i) ∧ (prepN p m t).kids[i]? = some (prepN p m (aK t i)) := fun i hi h16 => ⟨(xa hx (gK hi) h16).1, ix (gK hi)⟩
   have hall := Gn hb ih m t env fuel hf hm hx ht he r (by omega) (by omega)
   have hinv : (∀ d, d ∈ (evL (fun k r => evG p g m k env r) t.kids r).1 → wD d ≤ 2000000) ∧ (evL (fun k r => evG p g m k env r) t.kids r).2.2 ≤ r ∧ ((evL (fun k r => evG p g m k env r) t.kids r).2.1 = 0 → (evL (fun k r => evG p g m k env r) t.kids r).1.length = t.kids.length) := by
    have := ri (f := fun k r => evG p g m k env r) (B := 2000000) t.kids r fun k hk' r => by
     obtain ⟨i, hi⟩ := List.getElem?_of_mem hk'
     have := bB hi
     have := qO k
     exact mn hb g r m (dv k) env (by omega) he
    exact ⟨this.1, this.2.1, this.2.2.1⟩
   have htl := bY t
   have hkl := cj t
   have c15 : t.kind ≠ 10 → t.kind ≠ 11 → t.kind ≠ 13 → t.kind ≠ 14 → t.kind ≠ 12 → t.kind ≠ 22 → t.kind ≠ 20 → t.kind ≠ 19 → t.kind ≠ 18 → t.kind ≠ 16 → t.kind ≠ 21 → t.kind = 15 := by
    have h : 10 ≤ t.kind ∧ t.kind ≤ 22 ∧ t.kind ≠ 17 := by simpa [fI] using hx.2
    omega
   refine la (env.length + 30) _ _ _ _ _ _ _ _ _ _ ⟨fun h => by omega, fun _ => ⟨by constructor <;> omega, fun h10 => ?_, fun n10 => pa (env.length + 29) _ _ _ _ _ _ _ _ _ _ ⟨fun h11 => ?_, fun n11 => oR (env.length + 28) _ _ _ _ _ _ _ _ _ _ ⟨fun h13 => ?_, fun n13 => oC (env.length + 27) _ _ _ _ _ _ _ _ _ _ ⟨fun h14 => ?_, fun n14 => oL (env.length + 26) _ _ _ _ _ _ _ _ _ _ ⟨fun h12 => ?_, fun n12 => oP (env.length + 25) _ _ _ _ _ _ _ _ _ _ ⟨fun h22 => ?_, fun n22 => oW (env.length + 24) _ _ _ _ _ _ _ _ _ _ ⟨fun h20 => ?_, fun n20 => og (env.length + 23) _ _ _ _ _ _ _ _ _ _ ⟨fun h19 => ?_, fun n19 => oe (env.length + 22) _ _ _ _ _ _ _ _ _ _ ⟨fun h18 => ?_, fun n18 => ov (env.length + 21) _ _ _ _ _ _ _ _ _ _ ⟨fun h16 => ?_, fun n16 => od (env.length + 20) _ _ _ _ _ _ _ _ _ _ ⟨fun h21 => ?_, fun n21 => ?_⟩⟩⟩⟩⟩⟩⟩⟩⟩⟩⟩⟩
   ·rw [cb] at h10
    rw [qf h10]
    refine oU _ _ _ _ _ _ _ _ _ _ ⟨_, (), ?_, rfl, rfl, rfl, rfl, e1⟩
    rw [iN]; exact yQ (hw10 h10)
   ·rw [cb] at h11
    have h2 := GX (hw11 h11)
    rw [pQ h11]
    refine oz _ _ _ _ _ _ _ _ _ _ ?_
    rw [iN]
    exact ⟨by constructor <;> omega, t.text.length - 1, by omega, by omega, by omega, rfl, rfl, rfl, rfl, e1⟩
   ·rw [cb] at h13
    rw [pi h13]
    exact ⟨_, nH _, rfl, rfl, rfl, rfl, e1⟩
   ·rw [cb] at h14
    rw [pE h14]
    exact ⟨_, nH _, rfl, rfl, rfl, rfl, e1⟩
   ·rw [cb] at h12
    have h6 := uk (P := cX p) (F := fuel) (U := (fuel : Int) - ((r + 1 : Nat) : Int)) (N := prepN p m t) 25 env
    rw [pM h12]
    rw [iN, e1] at h6
    cases hE : kP env t.text with
    | none => rw [hE] at h6; exact h6
    | some d => rw [hE] at h6; exact h6
   ·rw [cb] at h22
    rw [pV h22]
    obtain ⟨k1, k2⟩ := kid 0 (by have := hl22 h22; omega) (by omega)
    have hv := ih r m (aK t 0) env fuel (by omega) (by omega) hf hm k1 (hkb 0) he
    exact oV _ _ _ _ _ _ _ _ _ _ _ ⟨_, k2, _, _, _, _, _, by rw [e1]; exact hv, rfl, rfl, rfl, rfl, rfl⟩
   ·rw [cb] at h20
    rw [pZ h20]
    have hl := hl20 h20
    obtain ⟨k1, k2⟩ := kid 0 (by omega) (by omega)
    obtain ⟨k3, k4⟩ := kid 1 (by omega) (by omega)
    have hv := ih r m (aK t 0) env fuel (by omega) (by omega) hf hm k1 (hkb 0) he
    have hi := mn hb g r m (aK t 0) env (hkb 0) he
    revert hv hi
    generalize evG p g m (aK t 0) env r = x
    obtain ⟨d, e, r'⟩ := x
    intro hv hi
    simp only at hv hi ⊢
    refine ou _ _ _ _ _ _ _ _ _ _ _ ⟨_, k2, d, e, _, _, _, by rw [e1]; exact hv, fun hne => ?_, fun h0 => ?_⟩
    ·rw [if_neg hne]; exact ⟨rfl, rfl, rfl, rfl, rfl⟩
    ·rw [if_pos h0]
     have hv1 := ih r' m (aK t 1) ((t.text, d) :: env) fuel (by omega) (by omega) hf hm k3 (hkb 1) (fun b hb => by
      rcases List.mem_cons.1 hb with rfl | hb
      ·exact hi.1
      ·exact he b hb)
     exact ⟨_, k4, _, _, _, _, _, by rw [iN]; exact hv1, rfl, rfl, rfl, rfl, rfl⟩
   ·rw [cb] at h19
    rw [pP h19]
    have hl := hl19 h19
    obtain ⟨k1, k2⟩ := kid 0 (by omega) (by omega)
    obtain ⟨k3, k4⟩ := kid 1 (by omega) (by omega)
    obtain ⟨k5, k6⟩ := kid 2 (by omega) (by omega)
    have hv := ih r m (aK t 0) env fuel (by omega) (by omega) hf hm k1 (hkb 0) he
    have hi := mn hb g r m (aK t 0) env (hkb 0) he
    revert hv hi
    generalize evG p g m (aK t 0) env r = x
    obtain ⟨d, e, r'⟩ := x
    intro hv hi
    simp only at hv hi ⊢
    refine ⟨_, _, _, _, _, ?_, rfl, rfl, rfl, rfl, rfl⟩
    rw [e1]
    refine oH 0 _ _ _ _ _ _ _ _ _ _ ⟨_, k2, d, e, _, _, _, hv, fun hne => ?_, fun h0 => ⟨fun q => ?_, fun q => ⟨fun q1 => ?_, fun q1 => ?_⟩⟩⟩
    ·rw [if_neg hne]; exact ⟨rfl, rfl, rfl, rfl, rfl⟩
    ·rw [if_pos h0, if_neg q]; exact ⟨rfl, rfl, rfl, rfl, rfl⟩
    ·rw [if_pos h0, if_pos q, if_pos q1]
     have hv1 := ih r' m (aK t 1) env fuel (by omega) (by omega) hf hm k3 (hkb 1) he
     exact ⟨_, k4, _, _, _, _, _, hv1, rfl, rfl, rfl, rfl, rfl⟩
    ·rw [if_pos h0, if_pos q, if_neg q1]
     have hv1 := ih r' m (aK t 2) env fuel (by omega) (by omega) hf hm k5 (hkb 2) he
     exact ⟨_, k6, _, _, _, _, _, hv1, rfl, rfl, rfl, rfl, rfl⟩
   ·rw [cb] at h18
    rw [pz h18]
    revert hall hinv
    generalize evL (fun k r => evG p g m k env r) t.kids r = x
    obtain ⟨l, e, r'⟩ := x
    intro hall hinv
    simp only at hall hinv ⊢
    refine ⟨_, _, _, _, _, ?_, rfl, rfl, rfl, rfl, rfl⟩
    rw [e1]
    have hw : wD ⟨4, 0, [], l⟩ = 1 + wDs l := by simp [wD]
    refine qx 0 _ _ _ _ _ _ _ _ _ _ ⟨l, e, _, _, _, hall, fun hne => ?_, fun h0 => ⟨_, wi _, fun q => ?_, fun q => ?_⟩⟩
    ·rw [if_neg hne]; exact ⟨rfl, rfl, rfl, rfl, rfl⟩
    ·rw [if_pos h0, if_pos (by omega)]; exact ⟨rfl, rfl, rfl, rfl, rfl⟩
    ·rw [if_pos h0, if_neg (by omega)]; exact ⟨rfl, rfl, rfl, rfl, rfl⟩
   ·rw [cb] at h16
    rw [pm h16]
    obtain ⟨u1, u2, u3⟩ := zW (p := p) (m := m) h16
    revert hall hinv
    generalize evL (fun k r => evG p g m k env r) t.kids r = x
    obtain ⟨l, e, r'⟩ := x
    intro hall hinv
    simp only at hall hinv ⊢
    refine ⟨_, _, _, _, _, ?_, rfl, rfl, rfl, rfl, rfl⟩
    rw [e1]
    refine qv 0 _ _ _ _ _ _ _ _ _ _ ⟨l, e, _, _, _, hall, fun hne => ?_, fun h0 => ⟨fun q => ?_, fun q => ?_⟩⟩
    ·rw [if_neg hne]; exact ⟨rfl, rfl, rfl, rfl, rfl⟩
    ·rw [u3] at q
     have q' : ¬ (aP p m t.text).2.2 = true := by intro h; rw [h] at q; cases q
     rw [if_pos h0, if_neg q']; exact ⟨rfl, rfl, rfl, rfl, rfl⟩
    ·rw [u3] at q
     have q' : (aP p m t.text).2.2 = true := by
      cases h : (aP p m t.text).2.2
      ·rw [h] at q; cases q
      ·rfl
     obtain ⟨i, dd, tt, a, g1, g2, g3, g4⟩ := Dq q'
     have hd : di p (aP p m t.text).1 (aP p m t.text).2.1 = a := by
      rw [g1, g2]
      unfold di aK
      rw [Int.toNat_natCast, gL g3, Int.toNat_natCast, gL g4]
     rw [if_pos h0, if_pos q', hd, u1, u2, g1, g2]
     have hpos : i < p.length := (List.getElem?_eq_some_iff.1 g3).1
     have hab : tbulk a ≤ 1100000 := Nat.le_trans (Nat.le_of_lt (by have := bB g4; omega)) (Nat.le_trans (db g3) hb)
     have hlen := hinv.2.2 h0
     refine ⟨i, rfl, _, qi g3, dd, rfl, _, ix g4, by omega, fun z => ?_, fun z => ?_⟩
     ·rw [mt] at z
      rw [if_neg z]; exact ⟨rfl, rfl, rfl, rfl, rfl⟩
     ·rw [mt] at z
      rw [if_pos z]
      obtain ⟨_, hbx⟩ := ww hp g3 g4 z
      exact ⟨_, _, _, _, _, xr ih i a l fuel hf hpos z hbx hab hinv.1 r' (by omega) (by omega), rfl, rfl, rfl, rfl, rfl⟩
   ·rw [cb] at h21
    rw [px h21]
    have hl := hl21 h21
    revert hall hinv
    generalize evL (fun k r => evG p g m k env r) t.kids r = x
    obtain ⟨l, e, r'⟩ := x
    intro hall hinv
    simp only at hall hinv ⊢
    refine ⟨_, _, _, _, _, ?_, rfl, rfl, rfl, rfl, rfl⟩
    rw [e1]
    refine mV 2 _ _ _ _ _ _ _ _ _ _ ⟨l, e, _, _, _, hall, fun hne => ?_, fun h0 => ?_⟩
    ·rw [if_neg hne]; exact ⟨rfl, rfl, rfl, rfl, rfl⟩
    ·rw [if_pos h0]
     have hlen := hinv.2.2 h0
     obtain ⟨x, y, rfl⟩ : ∃ x y, l = [x, y] := by
      match l, hlen.trans hl with
      | [x, y], _ => exact ⟨x, y, rfl⟩
     have := EL (P := cX p) (F := fuel) (U := (fuel : Int) - (r' : Int)) (N := prepN p m t) (hinv.1 x (by simp)) (hinv.1 y (by simp))
     rw [iN] at this
     exact ⟨x, rfl, y, rfl, this⟩
   ·rw [cb] at n10 n11 n13 n14 n12 n22 n20 n19 n18 n16 n21
    rw [pr (c15 n10 n11 n13 n14 n12 n22 n20 n19 n18 n16 n21)]
    exact ⟨rfl, rfl, rfl, rfl, e1⟩
end Go.Proofs.YthnohcipianijaaGreatDoor
namespace Go.Proofs.YthnohcipianijaaGreatDoor
open Go.RowKit Lx Sx
set_option maxRecDepth 100000
def kC {α : Type} (k : Nat) (x y : α × Int × Nat) : Prop := (x.2.1 = 21 → x.2.2 = 0) ∧ (¬ x.2.1 = 21 → y = (x.1, x.2.1, x.2.2 + k))
theorem wz {f : Tree → Nat → GDatum × Int × Nat} {k : Nat} : ∀ (ts : List Tree) (r : Nat), (∀ t r, kC k (f t r) (f t (r + k))) → kC k (evL f ts r) (evL f ts (r + k))
 | [], r, _ => ⟨fun h => by simp [evL] at h, fun _ => rfl⟩
 | t :: ts, r, h => by
  have h1 := h (dv t) r
  simp only [evL]
  revert h1
  generalize f (dv t) r = x
  generalize f (dv t) (r + k) = y
  obtain ⟨d, e, r'⟩ := x
  intro h1
  simp only [kC] at h1
  by_cases h21 : e = 21
  ·subst h21
   refine ⟨fun _ => h1.1 rfl, fun hh => absurd ?_ hh⟩
   rfl
  ·have hy := h1.2 h21
   subst hy
   simp only
   by_cases he : e = 0
   ·rw [if_pos he, if_pos he]
    have h2 := wz ts r' h
    revert h2
    generalize evL f ts r' = x
    generalize evL f ts (r' + k) = y
    obtain ⟨l, e', r''⟩ := x
    intro h2
    simp only [kC] at h2
    by_cases h21' : e' = 21
    ·subst h21'
     exact ⟨fun _ => h2.1 rfl, fun hh => absurd rfl hh⟩
    ·have hy := h2.2 h21'
     subst hy
     simp only
     by_cases he' : e' = 0
     ·rw [if_pos he', if_pos he']
      exact ⟨fun hh => by simp at hh, fun _ => rfl⟩
     ·rw [if_neg he', if_neg he']
      exact ⟨fun hh => absurd hh h21', fun _ => rfl⟩
   ·rw [if_neg he, if_neg he]
    exact ⟨fun hh => absurd hh h21, fun _ => rfl⟩
theorem co {α : Type} {k : Nat} (d : α) {e : Int} {r : Nat} (h : ¬ e = 21) : kC k (d, e, r) (d, e, r + k) := ⟨fun hh => absurd hh h, fun _ => rfl⟩
theorem CR (op : List UInt8) (a b : GDatum) : ¬ (ee op a b).2 = 21 := by
 unfold ee
 repeat' split
 all_goals simp
theorem Dv {p : List Tree} : ∀ (g r k : Nat) (m : Int) (t : Tree) (env : List Bnd), kC k (evG p g m t env r) (evG p g m t env (r + k)) := fun g => by
 induction g with
 | zero => intro r k m t env; rw [evG, evG]; exact ⟨fun _ => rfl, fun h => absurd rfl h⟩
 | succ g ih =>
  intro r k m t env
  cases r with
  | zero => rw [tS]; exact ⟨fun _ => rfl, fun h => absurd rfl h⟩
  | succ r =>
   rw [show r + 1 + k = (r + k) + 1 by omega]
   have hL := wz (f := fun k r => evG p g m k env r) (k := k) t.kids r fun t r => ih r k m t env
   rcases kinds t.kind with h | h | h | h | h | h | h | h | h | h | h | h | h
   ·rw [qf h, qf h]; exact co _ (by decide)
   ·rw [pQ h, pQ h]; exact co _ (by decide)
   ·rw [pM h, pM h]
    cases kP env t.text with
    | none => exact co _ (by decide)
    | some d => exact co _ (by decide)
   ·rw [pi h, pi h]; exact co _ (by decide)
   ·rw [pE h, pE h]; exact co _ (by decide)
   ·rw [pr h, pr h]; exact co _ (by decide)
   ·rw [pm h, pm h]
    revert hL
    generalize evL (fun k r => evG p g m k env r) t.kids r = x
    generalize evL (fun k r => evG p g m k env r) t.kids (r + k) = y
    obtain ⟨l, e, r'⟩ := x
    intro hL
    simp only [kC] at hL
    by_cases h21 : e = 21
    ·subst h21; exact ⟨fun _ => hL.1 rfl, fun hh => absurd rfl hh⟩
    ·have hy := hL.2 h21
     subst hy
     simp only
     by_cases he : e = 0
     ·rw [if_pos he, if_pos he]
      split
      ·split
       ·exact ih _ _ _ _ _
       ·exact co _ (by decide)
      ·exact co _ (by decide)
     ·rw [if_neg he, if_neg he]; exact co _ h21
   ·rw [pz h, pz h]
    revert hL
    generalize evL (fun k r => evG p g m k env r) t.kids r = x
    generalize evL (fun k r => evG p g m k env r) t.kids (r + k) = y
    obtain ⟨l, e, r'⟩ := x
    intro hL
    simp only [kC] at hL
    by_cases h21 : e = 21
    ·subst h21; exact ⟨fun _ => hL.1 rfl, fun hh => absurd rfl hh⟩
    ·have hy := hL.2 h21
     subst hy
     simp only
     by_cases he : e = 0
     ·rw [if_pos he, if_pos he]
      split
      ·exact co _ (by decide)
      ·exact co _ (by decide)
     ·rw [if_neg he, if_neg he]; exact co _ h21
   ·rw [pP h, pP h]
    have h1 := ih r k m (aK t 0) env
    revert h1
    generalize evG p g m (aK t 0) env r = x
    generalize evG p g m (aK t 0) env (r + k) = y
    obtain ⟨d, e, r'⟩ := x
    intro hL
    simp only [kC] at hL
    by_cases h21 : e = 21
    ·subst h21; exact ⟨fun _ => hL.1 rfl, fun hh => absurd rfl hh⟩
    ·have hy := hL.2 h21
     subst hy
     simp only
     by_cases he : e = 0
     ·rw [if_pos he, if_pos he]
      split
      ·split
       ·exact ih _ _ _ _ _
       ·exact ih _ _ _ _ _
      ·exact co _ (by decide)
     ·rw [if_neg he, if_neg he]; exact co _ h21
   ·rw [pZ h, pZ h]
    have h1 := ih r k m (aK t 0) env
    revert h1
    generalize evG p g m (aK t 0) env r = x
    generalize evG p g m (aK t 0) env (r + k) = y
    obtain ⟨d, e, r'⟩ := x
    intro hL
    simp only [kC] at hL
    by_cases h21 : e = 21
    ·subst h21; exact ⟨fun _ => hL.1 rfl, fun hh => absurd rfl hh⟩
    ·have hy := hL.2 h21
     subst hy
     simp only
     by_cases he : e = 0
     ·rw [if_pos he, if_pos he]; exact ih _ _ _ _ _
     ·rw [if_neg he, if_neg he]; exact co _ h21
   ·rw [px h, px h]
    revert hL
    generalize evL (fun k r => evG p g m k env r) t.kids r = x
    generalize evL (fun k r => evG p g m k env r) t.kids (r + k) = y
    obtain ⟨l, e, r'⟩ := x
    intro hL
    simp only [kC] at hL
    by_cases h21 : e = 21
    ·subst h21; exact ⟨fun _ => hL.1 rfl, fun hh => absurd rfl hh⟩
    ·have hy := hL.2 h21
     subst hy
     simp only
     by_cases he : e = 0
     ·rw [if_pos he, if_pos he]; exact co _ (CR _ _ _)
     ·rw [if_neg he, if_neg he]; exact co _ h21
   ·rw [pV h, pV h]; exact ih _ _ _ _ _
   ·rw [rB h, rB h]; exact co _ (by decide)
theorem ti : ∀ l : List Tree, baresK l = l.map bareK
 | [] => by simp [baresK]
 | t :: r => by simp [baresK, ti r]
theorem bM (t : Tree) : (bareK t).kind = t.kind := by rw [ng]; rfl
theorem eM (t : Tree) : (bareK t).text = t.text := by rw [ng]; rfl
theorem fx (t : Tree) : (bareK t).kids = t.kids.map bareK := by rw [ng, ti]; rfl
theorem qB (l : List Tree) (i : Nat) : (l.map bareK).getD i (.node 0 [] [] []) = bareK (l.getD i (.node 0 [] [] [])) := by
 rw [List.getD_eq_getElem?_getD, List.getD_eq_getElem?_getD, List.getElem?_map]
 cases l[i]? with
 | none => simp [bareK, baresK]
 | some t => rfl
theorem eK (t : Tree) (i : Nat) : aK (bareK t) i = bareK (aK t i) := by unfold aK; rw [fx]; exact qB _ _
theorem qJ (p : List Tree) (m d : Int) : di (p.map bareK) m d = bareK (di p m d) := by unfold di; rw [qB, eK]
theorem Av (t : Tree) : dv (bareK t) = bareK (dv t) := by
 unfold dv
 rw [bM]
 split
 ·exact eK t 0
 ·rfl
theorem pB (s : List UInt8) : ∀ (l : List Tree) (i : Nat), ef s (l.map bareK) i = ef s l i
 | [], i => rfl
 | t :: r, i => by simp only [List.map_cons, ef, eM, pB s r]
theorem xd (p : List Tree) (m : Int) (w : List UInt8) : inK (p.map bareK) m w = inK p m w := by
 unfold inK
 rw [List.getElem?_map]
 cases p[m.toNat]? with
 | none => rfl
 | some t => simp only [Option.map_some, fx, pB]
theorem Ak (p : List Tree) (m : Int) (w : List UInt8) : aP (p.map bareK) m w = aP p m w := by
 unfold aP
 rw [pB, xd, xd]
theorem uu (l : List GDatum) : ∀ ks : List Tree, dh (ks.map bareK) l = dh ks l := by
 induction l with
 | nil => intro ks; simp [dh]
 | cons d r ih =>
  intro ks
  cases ks with
  | nil => rfl
  | cons k ks =>
   have := ih ks
   simp only [dh] at this
   simp only [dh, List.map_cons, List.zipWith_cons_cons, eM, this]
theorem vW {f f' : Tree → Nat → GDatum × Int × Nat} (h : ∀ t r, f' (bareK t) r = f t r) : ∀ (ts : List Tree) (r : Nat), evL f' (ts.map bareK) r = evL f ts r
 | [], r => rfl
 | t :: ts, r => by simp only [List.map_cons, evL, Av, h, vW h ts]
theorem DC {p : List Tree} : ∀ (g r : Nat) (m : Int) (t : Tree) (env : List Bnd), evG (p.map bareK) g m (bareK t) env r = evG p g m t env r := fun g => by
 induction g with
 | zero => intro r m t env; rw [evG, evG]
 | succ g ih =>
  intro r m t env
  cases r with
  | zero => rw [tS, tS]
  | succ r =>
   have hL : evL (fun k r => evG (p.map bareK) g m k env r) (bareK t).kids r = evL (fun k r => evG p g m k env r) t.kids r := by
    rw [fx]; exact vW (fun t r => ih r m t env) _ _
   rcases kinds t.kind with h | h | h | h | h | h | h | h | h | h | h | h | h
   ·rw [qf h, qf ((bM t).trans h), eM]
   ·rw [pQ h, pQ ((bM t).trans h), eM]
   ·rw [pM h, pM ((bM t).trans h), eM]
   ·rw [pi h, pi ((bM t).trans h)]
   ·rw [pE h, pE ((bM t).trans h)]
   ·rw [pr h, pr ((bM t).trans h)]
   ·rw [pm h, pm ((bM t).trans h), hL, eM, Ak, qJ, fx]
    simp only [List.length_map, uu, eK, ih]
   ·rw [pz h, pz ((bM t).trans h), hL]
   ·rw [pP h, pP ((bM t).trans h), eK, eK, eK]; simp only [ih]
   ·rw [pZ h, pZ ((bM t).trans h), eK, eK, eM]; simp only [ih]
   ·rw [px h, px ((bM t).trans h), hL, eM]
   ·rw [pV h, pV ((bM t).trans h), eK]; simp only [ih]
   ·rw [rB h, rB (by rw [bM]; exact h)]
theorem rI (k n : Int) : ∀ (l : List Tree) (i : Nat), (∀ t, t ∈ l → shapeK (bareK t) = shapeK t) → shapeKs k n i (l.map bareK) = shapeKs k n i l
 | [], i, _ => rfl
 | t :: r, i, h => by simp only [List.map_cons, shapeKs, bM, h t (by simp), rI k n r (i + 1) fun x hx => h x (by simp [hx])]
theorem yv : ∀ t, shapeK (bareK t) = shapeK t := dJ fun t ih => by
 rw [bQ, bQ t, bM, eM, fx, List.length_map, rI _ _ t.kids 0 fun x hx => by
  obtain ⟨i, hi⟩ := List.getElem?_of_mem hx
  exact ih i x hi]
theorem uA : ∀ p, dz (p.map bareK) = dz p
 | [] => rfl
 | t :: r => by simp only [List.map_cons, dz, bM, yv, uA r]
end Go.Proofs.YthnohcipianijaaGreatDoor
namespace Go.Proofs.YthnohcipianijaaGreatDoor
open Go.RowKit Lx Sx
set_option maxRecDepth 100000
set_option maxHeartbeats 1100000
theorem BM (op : List UInt8) (a b : GDatum) : ¬ (ee op a b).2 = 0 → (ee op a b).1 = GD0 := by
 unfold ee
 repeat' split
 all_goals intro h
 all_goals first | rfl | exact absurd rfl h
theorem Ef {p : List Tree} : ∀ (g r : Nat) (m : Int) (t : Tree) (env : List Bnd), ¬ (evG p g m t env r).2.1 = 0 → (evG p g m t env r).1 = GD0 := fun g => by
 induction g with
 | zero => intro r m t env _; rw [evG]
 | succ g ih =>
  intro r m t env
  cases r with
  | zero => rw [tS]; intro _; rfl
  | succ r =>
   rcases kinds t.kind with h | h | h | h | h | h | h | h | h | h | h | h | h
   ·rw [qf h]; exact fun h => absurd rfl h
   ·rw [pQ h]; exact fun h => absurd rfl h
   ·rw [pM h]
    cases kP env t.text with
    | none => intro _; rfl
    | some d => exact fun h => absurd rfl h
   ·rw [pi h]; exact fun h => absurd rfl h
   ·rw [pE h]; exact fun h => absurd rfl h
   ·rw [pr h]; intro _; rfl
   ·rw [pm h]
    generalize evL (fun k r => evG p g m k env r) t.kids r = x
    obtain ⟨l, e, r'⟩ := x
    simp only
    split
    ·split
     ·split
      ·exact ih _ _ _ _
      ·intro _; rfl
     ·intro _; rfl
    ·intro _; rfl
   ·rw [pz h]
    generalize evL (fun k r => evG p g m k env r) t.kids r = x
    obtain ⟨l, e, r'⟩ := x
    simp only
    split
    ·split
     ·intro _; rfl
     ·exact fun h => absurd rfl h
    ·intro _; rfl
   ·rw [pP h]
    generalize evG p g m (aK t 0) env r = x
    obtain ⟨d, e, r'⟩ := x
    simp only
    split
    ·split
     ·split
      ·exact ih _ _ _ _
      ·exact ih _ _ _ _
     ·intro _; rfl
    ·intro _; rfl
   ·rw [pZ h]
    generalize evG p g m (aK t 0) env r = x
    obtain ⟨d, e, r'⟩ := x
    simp only
    split
    ·exact ih _ _ _ _
    ·intro _; rfl
   ·rw [px h]
    generalize evL (fun k r => evG p g m k env r) t.kids r = x
    obtain ⟨l, e, r'⟩ := x
    simp only
    split
    ·exact BM _ _ _
    ·intro _; rfl
   ·rw [pV h]; exact ih _ _ _ _
   ·rw [rB h]; intro _; rfl
def ml (p : List Tree) (m d : Int) (n : Nat) : Bool := decide (0 ≤ m ∧ m < p.length ∧ 0 ≤ d ∧ d < (p.getD m.toNat (.node 0 [] [] [])).kids.length) && (di p m d).kind == 2 && decide ((di p m d).kids.length = n + 2)
def mL (p : List Tree) (m d : Int) (n : Nat) : Bool := dz p && ml p m d n
theorem wy {p : List Tree} {i k : Nat} {t a : Tree} (hi : p[i]? = some t) (hk : t.kids[k]? = some a) (n : Nat) : ml p i k n = (a.kind == 2 && decide (a.kids.length = n + 2)) ∧ di p i k = a := by
 have h1 := (List.getElem?_eq_some_iff.1 hi).1
 have h2 := (List.getElem?_eq_some_iff.1 hk).1
 have hd : di p i k = a := by
  unfold di aK
  rw [Int.toNat_natCast, gL hi, Int.toNat_natCast, gL hk]
 refine ⟨?_, hd⟩
 rw [ml, hd, Int.toNat_natCast, gL hi, decide_eq_true (show 0 ≤ (i : Int) ∧ (i : Int) < p.length ∧ 0 ≤ (k : Int) ∧ (k : Int) < t.kids.length by omega), Bool.true_and]
theorem nl {p : List Tree} {m d : Int} {n : Nat} (h : ¬ (0 ≤ m ∧ m < p.length ∧ 0 ≤ d ∧ d < (p.getD m.toNat (.node 0 [] [] [])).kids.length)) : ml p m d n = false := by rw [ml, decide_eq_false h, Bool.false_and, Bool.false_and]
theorem nb {m : Int} (h : ¬ m < 0) : ∃ i : Nat, m = i := ⟨m.toNat, by omega⟩
theorem sM (p : List Tree) (hb : kbulk p ≤ 1000000000) (m d : Int) (n : Nat) (hn : n ≤ 1000000000) : kE p m d n (mL p m d n) := by
 have hl := eL p
 have fin : ∀ i j, ¬ i < p.length → eS (j + 1) p m d n i (ml p m d n) := fun i j hi => by
  refine mF j _ _ _ _ _ _ ⟨fun h => absurd h hi, fun _ => ⟨fun h => ?_, fun h => ⟨fun h1 => ?_, fun h1 => ⟨fun h2 => ?_, fun h2 => ?_⟩⟩⟩⟩
  ·rw [nl (by omega)]
  ·rw [nl (by omega)]
  ·rw [nl (by omega)]
  ·obtain ⟨a, rfl⟩ := nb h
   obtain ⟨b, rfl⟩ := nb h2
   obtain ⟨t, ht, _⟩ | h' := aB p a
   ·refine ⟨a, rfl, t, ht, fun h3 => ?_, fun h3 => ?_⟩
    ·rw [nl (by rw [Int.toNat_natCast, gL ht]; omega)]
    ·obtain ⟨u, hu, _⟩ | h'' := aB t.kids b
     ·obtain ⟨e, _⟩ := wy ht hu n
      refine ⟨a, rfl, t, ht, b, rfl, u, hu, fun hk => ⟨by constructor <;> omega, ?_⟩, fun hk => ?_⟩
      ·rw [e, hk]
       by_cases hz : u.kids.length = n + 2
       ·rw [decide_eq_true hz]; simp [hz]
       ·rw [decide_eq_false hz]; simp; omega
      ·rw [e]; simp [hk]
     ·omega
   ·omega
 have loop : ∀ j i, p.length - i ≤ j → eS (j + 1) p m d n i (dz (p.drop i) && ml p m d n) := fun j => by
  induction j with
  | zero =>
   intro i hi
   rw [List.drop_of_length_le (by omega), dz, Bool.true_and]
   exact fin i 0 (by omega)
  | succ j ihj =>
   intro i hi
   obtain ⟨t, ht, hlt⟩ | h' := aB p i
   ·have hbt := db ht
    rw [bz ht, dz]
    refine mF (j + 1) _ _ _ _ _ _ ⟨fun _ => ⟨t, ht, fun hk => by simp [hk], fun hk => ⟨_, vB t (by omega), fun hs => by simp [hs], fun hs => ⟨by omega, ?_⟩⟩⟩, fun h => absurd hlt h⟩
    have := ihj (i + 1) (by omega)
    simpa [hk, hs] using this
   ·rw [List.drop_of_length_le (by omega), dz, Bool.true_and]
    exact fin i (j + 1) h'
 exact rS _ _ _ _ _ _ (loop p.length 0 (by omega))
def bn (p : List Tree) (m d : Int) (l : List GDatum) (fuel : Int) : GDatum × Int × Int :=
 if mL p m d l.length = true ∧ 0 ≤ fuel ∧ fuel ≤ 16384 ∧ l.all gA = true then
  ((evG p 16385 m (aK (di p m d) (l.length + 1)) (dh (di p m d).kids l) fuel.toNat).1, fuel - ((evG p 16385 m (aK (di p m d) (l.length + 1)) (dh (di p m d).kids l) fuel.toNat).2.2 : Int), (evG p 16385 m (aK (di p m d) (l.length + 1)) (dh (di p m d).kids l) fuel.toNat).2.1)
 else (GD0, 0, 5)
theorem rz {p : List Tree} {m d : Int} {l : List GDatum} {fuel : Int} (h : ¬ (mL p m d l.length = true ∧ 0 ≤ fuel ∧ fuel ≤ 16384 ∧ l.all gA = true)) : bn p m d l fuel = (GD0, 0, 5) := by rw [bn, if_neg h]
theorem Cp {p : List Tree} {m d : Int} {n : Nat} (h : mL p m d n = true) : dz p = true ∧ ∃ (i k : Nat) (t a : Tree), m = i ∧ d = k ∧ p[i]? = some t ∧ t.kids[k]? = some a ∧ a.kind = 2 ∧ a.kids.length = n + 2 ∧ di p m d = a := by
 simp only [mL, Bool.and_eq_true] at h
 refine ⟨h.1, ?_⟩
 have hr := h.2
 by_cases hc : 0 ≤ m ∧ m < p.length ∧ 0 ≤ d ∧ d < (p.getD m.toNat (.node 0 [] [] [])).kids.length
 ·obtain ⟨i, rfl⟩ := nb (m := m) (by omega)
  obtain ⟨k, rfl⟩ := nb (m := d) (by omega)
  obtain ⟨t, ht, _⟩ | h' := aB p i
  ·rw [Int.toNat_natCast, gL ht] at hc
   obtain ⟨a, ha, _⟩ | h'' := aB t.kids k
   ·obtain ⟨e, e2⟩ := wy ht ha n
    rw [e] at hr
    simp only [Bool.and_eq_true, beq_iff_eq, decide_eq_true_eq] at hr
    exact ⟨i, k, t, a, rfl, rfl, ht, ha, hr.1, hr.2, e2⟩
   ·omega
  ·omega
 ·rw [nl hc] at hr; cases hr
theorem th {l : List GDatum} (h : l.all gA = true) : ∀ d, d ∈ l → wD d ≤ 2000000 := fun d hd => by
 have := List.all_eq_true.1 h d hd
 simp only [gA, Bool.and_eq_true, decide_eq_true_eq] at this
 omega
theorem tL {p : List Tree} (hb : kbulk p ≤ 1100000) (m d : Int) (l : List GDatum) (fuel : Int) : wD (bn p m d l fuel).1 ≤ 2000000 := by
 by_cases h : mL p m d l.length = true ∧ 0 ≤ fuel ∧ fuel ≤ 16384 ∧ l.all gA = true
 ·rw [bn, if_pos h]
  exact (mn hb 16385 fuel.toNat m _ _ (Nat.le_trans (fO _ _) (qE hb (by omega) _ _)) (pg (th h.2.2.2) _)).1
 ·rw [rz h]; exact dt
theorem uC (p : List Tree) : ∀ (l : List Tree) (i : Nat), (pS p i l).length = l.length
 | [], i => rfl
 | t :: r, i => by simp [pS, uC p r (i + 1)]
theorem qd (p : List Tree) : (cX p).length = p.length := uC p p 0
theorem rA {p : List Tree} (hb : kbulk p ≤ 1100000) (m d : Int) (l : List GDatum) (hl : l.length ≤ 1000000000) (fuel : Int) : fL p m d l fuel (bn p m d l fuel).1 (bn p m d l fuel).2.1 (bn p m d l fuel).2.2 := by
 have hlp := eL p
 by_cases hc : mL p m d l.length = true ∧ 0 ≤ fuel ∧ fuel ≤ 16384
 ·obtain ⟨hp, i, k, t, a, rfl, rfl, ht, ha, ha2, han, hd⟩ := Cp hc.1
  obtain ⟨F, rfl⟩ := nb (m := fuel) (by omega)
  have hF : F ≤ 16384 := by omega
  have hpos := (List.getElem?_eq_some_iff.1 ht).1
  have hab : tbulk a ≤ 1100000 := Nat.le_trans (Nat.le_of_lt (by have := bB ha; omega)) (Nat.le_trans (db ht) hb)
  -- the end
  have fin : l.all gA = true → ∀ j s acc q, p.length - s ≤ j → s ≤ p.length → q = mO p s (p.drop s) → acc = (cX p).take s → jt (2 * j + 1) p i k l F q acc s (bn p i k l F).1 (bn p i k l F).2.1 (bn p i k l F).2.2 := fun hall j => by
   have last : ∀ (j' s : Nat) (acc : List ab) (q : List GTarget), ¬ s < p.length → acc = cX p → jt (j' + 1) p i k l F q acc s (bn p i k l F).1 (bn p i k l F).2.1 (bn p i k l F).2.2 := fun j' s acc q hs hacc => by
    subst hacc
    have hrun : bn p i k l F = ((evG p 16385 i (aK a (l.length + 1)) (dh a.kids l) F).1, (F : Int) - ((evG p 16385 i (aK a (l.length + 1)) (dh a.kids l) F).2.2 : Int), (evG p 16385 i (aK a (l.length + 1)) (dh a.kids l) F).2.1) := by
     rw [bn, if_pos ⟨hc.1, hc.2.1, hc.2.2, hall⟩, hd, Int.toNat_natCast]
    rw [hrun]
    obtain ⟨_, hbx⟩ := ww hp ht ha han
    have hen := xr (Dn hp hb 16385) i a l F hF hpos han hbx hab (th hall) F (by omega) (Nat.le_refl _)
    rw [show ((F : Int) - (F : Int)) = 0 by omega] at hen
    have hinv := mn hb 16385 F i (aK a (l.length + 1)) (dh a.kids l) (Nat.le_trans (fO _ _) hab) (pg (th hall) _)
    refine qF j' _ _ _ _ _ _ _ _ _ _ _ ⟨fun h => absurd h hs, fun _ => ⟨i, rfl, _, qi ht, k, rfl, _, ix ha, _, _, _, _, _, hen, fun hne => ⟨(Ef 16385 F i _ _ hne).symm, rfl, rfl⟩, fun h0 => ⟨_, Cl _ (by omega), rfl, rfl, h0.symm⟩⟩⟩
   induction j with
   | zero =>
    intro s acc q hj hs hq hacc
    exact last 0 s acc q (by omega) (by rw [hacc, List.take_of_length_le (by rw [qd]; omega)])
   | succ j ihj =>
    intro s acc q hj hs hq hacc
    obtain ⟨u, hu, hlt⟩ | h' := aB p s
    ·have hbu := db hu
     have hu2 := qi hu
     have hal : acc.length = s := by rw [hacc, List.length_take, qd]; omega
     rw [hq, bz hu, mO]
     have hset : ((acc ++ [ab.mk 0 0 0 false [] []]).set acc.length (prepN p s u)) = (cX p).take (s + 1) := by
      rw [List.take_add_one, hu2, ← hacc]; simp
     refine qF (2 * j + 2) _ _ _ _ _ _ _ _ _ _ _ ⟨fun _ => ⟨u, hu, _, _, yR u (by omega) [] _, by simp [hal]; omega, _, by simp; rfl, vG (2 * j + 1) _ _ _ _ _ _ _ _ _ _ _ ⟨by omega, ?_⟩⟩, fun h => absurd hlt h⟩
     rw [hset]
     exact ihj (s + 1) _ _ (by omega) (by omega) rfl rfl
    ·exact last _ s acc q h' (by rw [hacc, List.take_of_length_le (by rw [qd]; omega)])
  have loop : ∀ j s, l.length - s ≤ j → ((l.take s).all gA = true) → jI (j + 2 * p.length + 2) p i k l F s (bn p i k l F).1 (bn p i k l F).2.1 (bn p i k l F).2.2 := fun j => by
   have last : ∀ (j' s : Nat), ¬ s < l.length → l.all gA = true → jI (j' + 2 * p.length + 2) p i k l F s (bn p i k l F).1 (bn p i k l F).2.1 (bn p i k l F).2.2 := fun j' s hs hall => by
    refine qL (j' + 2 * p.length + 1) _ _ _ _ _ _ _ _ _ ⟨fun h => absurd h hs, fun _ => ⟨_, zH p (by omega), ?_⟩⟩
    have htk : lI p = mO p 0 (p.drop 0) := by rw [lI, if_pos hp, List.drop_zero]
    have := fin hall (p.length) 0 [] (lI p) (by omega) (by omega) htk (by simp)
    rw [show j' + 2 * p.length + 1 = (2 * p.length + 1) + j' by omega]
    exact fun K j1 hK h1 => this K j1 hK (by omega)
   induction j with
   | zero =>
    intro s hj hv
    rw [List.take_of_length_le (by omega)] at hv
    exact last 0 s (by omega) hv
   | succ j ihj =>
    intro s hj hv
    obtain ⟨x, hx, hlt⟩ | h' := aB l s
    ·rw [show j + 1 + 2 * p.length + 2 = (j + 2 * p.length + 2) + 1 by omega]
     refine qL (j + 2 * p.length + 2) _ _ _ _ _ _ _ _ _ ⟨fun _ => ⟨x, hx, _, xS x, fun hf => ?_, fun hv2 => ⟨by omega, ihj (s + 1) (by omega) ?_⟩⟩, fun h => absurd hlt h⟩
     ·rw [rz (fun hh => by
       have := List.all_eq_true.1 hh.2.2.2 x (List.mem_of_getElem? hx)
       rw [this] at hf; cases hf)]
      exact ⟨rfl, rfl, rfl⟩
     ·rw [List.take_add_one, hx, List.all_append, hv]; simp [hv2]
    ·rw [List.take_of_length_le (by omega)] at hv
     exact last _ s h' hv
  refine rH (l.length + 2 * p.length + 2) _ _ _ _ _ _ _ _ ⟨_, sM p (by omega) _ _ _ hl, fun h => ?_, fun _ => ⟨fun h => by omega, fun _ => ⟨fun h => by omega, fun _ => loop l.length 0 (by omega) (by simp)⟩⟩⟩
  rw [hc.1] at h; cases h
 ·have e : bn p m d l fuel = (GD0, 0, 5) := rz fun h => hc ⟨h.1, h.2.1, h.2.2.1⟩
  rw [e]
  exact rH 0 _ _ _ _ _ _ _ _ ⟨_, sM p (by omega) m d _ hl, fun h => ⟨rfl, rfl, rfl⟩, fun h => ⟨fun _ => ⟨rfl, rfl, rfl⟩, fun h1 => ⟨fun _ => ⟨rfl, rfl, rfl⟩, fun h2 => absurd ⟨h, by omega, by omega⟩ hc⟩⟩⟩
end Go.Proofs.YthnohcipianijaaGreatDoor
