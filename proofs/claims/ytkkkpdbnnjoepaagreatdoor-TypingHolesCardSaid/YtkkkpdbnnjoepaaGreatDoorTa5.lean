/- Contracts of the functions that the law reaches, part 5. -/
import Derived.Test.YtkkkpdbnnjoepaaGreatDoorTa4
set_option linter.unusedVariables false
set_option linter.unusedSimpArgs false
namespace Go.Proofs.YtkkkpdbnnjoepaaGreatDoor
open Go.RowKit Lx Sx
set_option maxRecDepth 100000
set_option maxHeartbeats 1000000
def fL : Nat → Cx → Tree → Sv → Sv
 | 0, _, _, s => s
 | n + 1, x, u, s => if u.kind = 9 then (if (s.tg.headD noT).Free then faP x 1 [] (cg s) else cg s) else if u.kind = 8 then fL n (x.go ((0 : Nat) : Int)) (cV u 0) s else s
abbrev ckT (x : Cx) (s : Sv) (t : Tree) (i : Int) (s' : Sv) : Prop := ba x.p s.tg x.nm x.sg x.mo x.pa s.fa x.wm x.wp s.rs s.rl t i x.p s'.tg x.nm x.sg x.mo x.pa s'.fa x.wm x.wp s'.rs s'.rl
structure Sst (B u : Nat) (s s' : Sv) : Prop where
 tg : s'.tg = s.tg.drop u
 fa : s'.fa.length ≤ s.fa.length + 4 * B
theorem rF : ∀ (n : Nat) (u : Tree), tbulk u ≤ n → tyK u → ∀ (t : Tree) (i : Nat) (x : Cx) (s : Sv), t.kids[i]? = some u → x.pa.length + tbulk u + 1 ≤ 100000000 → s.fa.length + 1 ≤ 900000000 → uN u ≤ s.tg.length → ckT x s t i (fL n (x.go i) u s) ∧ Sst (tbulk u) (uN u) s (fL n (x.go i) u s)
 | 0, u, hb, _, _, _, _, _, _, _, _, _ => by have := cF u; omega
 | n + 1, u, hb, hu, t, i, x, s, ht, h1, h2, h3 => by
  have hbu := cH u
  have hlen : x.pa.length + 1 ≤ 1000000000 := by omega
  rcases qW hu with ⟨h8, _, v, hv, hvt⟩ | ⟨h8, hk, _⟩
  ·rw [hv] at hbu
   simp only [kbulk] at hbu
   have hU : uN u = uN v := by rw [ef, hv, h8]; simp [uNs]
   have hv0 : u.kids[0]? = some v := by rw [hv]; rfl
   have e : fL (n + 1) (x.go i) u s = fL n ((x.go i).go ((0 : Nat) : Int)) v s := by simp [fL, h8, fT hv0]
   obtain ⟨a1, a2⟩ := rF n v (by omega) hvt u 0 (x.go i) s hv0 (by simp [Cx.go]; omega) h2 (by omega)
   rw [e]
   refine ⟨cC 0 _ _ _ _ _ _ _ _ _ _ _ _ _ _ _ _ _ _ _ _ _ _ _ _ (⟨_, _, _, _, _, _, _, _, _, _, _, dV (x := x) (s := s) (i : Int) hlen, i, rfl, u, ht, fun h => absurd h (by omega), fun _ => ⟨fun _ => ⟨_, _, _, _, _, _, _, _, _, _, _, a1, _, _, _, _, _, _, _, _, _, _, _, dW (x := x) (i : Int), rfl, rfl, rfl, rfl, rfl, rfl, rfl, rfl, rfl, rfl, rfl⟩, fun h => absurd h8 h⟩⟩), ?_⟩
   exact ⟨by rw [a2.tg, hU], by have := a2.fa; omega⟩
  ·by_cases h9 : u.kind = 9
   ·have hU : uN u = 1 := by rw [ef, hk, h9]; simp [uNs]
    have huse := vG (x := x.go i) (s := s) (by omega)
    have e : fL (n + 1) (x.go i) u s = if (s.tg.headD noT).Free then faP (x.go i) 1 [] (cg s) else cg s := by simp [fL, h9]
    rw [e]
    by_cases hf : (s.tg.headD noT).Free = true
    ·rw [if_pos hf]
     refine ⟨cC 0 _ _ _ _ _ _ _ _ _ _ _ _ _ _ _ _ _ _ _ _ _ _ _ _ (⟨_, _, _, _, _, _, _, _, _, _, _, dV (x := x) (s := s) (i : Int) hlen, i, rfl, u, ht, fun _ => ⟨_, _, _, _, _, _, _, _, _, _, _, _, huse, fun _ => ⟨_, _, _, _, _, _, _, _, _, _, _, bI (x := x.go i) (s := cg s) 1 [] (by simp [Cx.go]; omega) (by simp [cg]; omega), _, _, _, _, _, _, _, _, _, _, _, dW (x := x) (s := faP (x.go i) 1 [] (cg s)) (i : Int), rfl, rfl, rfl, rfl, rfl, rfl, rfl, rfl, rfl, rfl, rfl⟩, fun h => absurd hf (by rw [h]; decide)⟩, fun h => absurd h9 h⟩), ?_⟩
     exact ⟨by rw [hU]; rfl, by rw [bx]; simp [cg]; omega⟩
    ·rw [if_neg hf]
     refine ⟨cC 0 _ _ _ _ _ _ _ _ _ _ _ _ _ _ _ _ _ _ _ _ _ _ _ _ (⟨_, _, _, _, _, _, _, _, _, _, _, dV (x := x) (s := s) (i : Int) hlen, i, rfl, u, ht, fun _ => ⟨_, _, _, _, _, _, _, _, _, _, _, _, huse, fun h => absurd h hf, fun _ => ⟨_, _, _, _, _, _, _, _, _, _, _, dW (x := x) (s := cg s) (i : Int), rfl, rfl, rfl, rfl, rfl, rfl, rfl, rfl, rfl, rfl, rfl⟩⟩, fun h => absurd h9 h⟩), ?_⟩
     exact ⟨by rw [hU]; rfl, by simp [cg]⟩
   ·have hU : uN u = 0 := by rw [ef, hk, if_neg]; simp [uNs]; have := hu.2; simp [jD] at this; omega
    have e : fL (n + 1) (x.go i) u s = s := by simp [fL, h9, h8]
    rw [e]
    exact ⟨cC 0 _ _ _ _ _ _ _ _ _ _ _ _ _ _ _ _ _ _ _ _ _ _ _ _ (⟨_, _, _, _, _, _, _, _, _, _, _, dV (x := x) (s := s) (i : Int) hlen, i, rfl, u, ht, fun h => absurd h h9, fun _ => ⟨fun h => absurd h h8, fun _ => ⟨_, _, _, _, _, _, _, _, _, _, _, dW (x := x) (s := s) (i : Int), rfl, rfl, rfl, rfl, rfl, rfl, rfl, rfl, rfl, rfl, rfl⟩⟩⟩), by rw [hU]; rfl, by omega⟩
def jP (x : Cx) : List Tree → Nat → Sv → Sv
 | [], _, s => s
 | k :: r, i, s => jP x r (i + 1) (fL (tbulk (cV k 0)) ((x.go i).go ((0 : Nat) : Int)) (cV k 0) s)
def gM : List Tree → List Kn → Env
 | k :: r, q :: l => ⟨k.text, q⟩ :: gM r l
 | _, _ => []
def funQ (x : Cx) (i : Nat) (r : Kn) : Kn × Sv → Sv
 | (k, s) => if aP k r then faP x 4 [(i : Int)] s else s
def mB (x : Cx) (f : Tree) (g : aa) (s : Sv) : Sv :=
 funQ x (f.kids.length - 1) g.result (aW (mR (tbulk f)) x f (f.kids.length - 1) (gM (f.kids.take (f.kids.length - 2)) g.params) (fL (tbulk f) (x.go ((f.kids.length - 2 : Nat) : Int)) (cV f (f.kids.length - 2)) (jP x (f.kids.take (f.kids.length - 2)) 0 s)))
abbrev ckU (x : Cx) (s : Sv) (f : Tree) (g : aa) (s' : Sv) : Prop := bR x.p s.tg x.nm x.sg x.mo x.pa s.fa x.wm x.wp s.rs s.rl f g x.p s'.tg x.nm x.sg x.mo x.pa s'.fa x.wm x.wp s'.rs s'.rl
theorem kZ {f : Tree} (hs : shapeK f = true) (h2 : f.kind = 2) : 2 ≤ f.kids.length ∧ (∀ (i : Nat) (u : Tree), f.kids[i]? = some u → i + 2 < f.kids.length → ∃ v, u.kind = 4 ∧ u.kids = [v] ∧ tyK v) ∧ (∀ u, f.kids[f.kids.length - 2]? = some u → tyK u) ∧ (∀ u, f.kids[f.kids.length - 1]? = some u → exT u) := by
 rw [dl] at hs
 simp only [Bool.and_eq_true, decide_eq_true_eq] at hs
 have hl := hs.1.1
 rw [h2] at hl
 have h1 := (ip (show 0 ≤ f0 f.kids.length 2 6 2 (-1) from hl)).1
 refine ⟨by omega, fun i u hu hi => ?_, fun u hu => ?_, fun u hu => ?_⟩
 ·obtain ⟨g1, g2⟩ := di hs.2 hu
  rw [h2] at g1
  simp only [fx] at g1
  rw [if_neg (by omega), if_pos trivial, if_neg (by omega), if_neg (by omega)] at g1
  have h4 : u.kind = 4 := by simpa using g1
  rw [dl] at g2
  simp only [Bool.and_eq_true, decide_eq_true_eq] at g2
  have hl2 := g2.1.1
  rw [h4] at hl2
  have := ip (show 0 ≤ f0 u.kids.length 1 2 0 1 from hl2)
  obtain ⟨v, ev⟩ := rV (t := u) (by omega)
  have hv : u.kids[0]? = some v := by rw [ev]; rfl
  obtain ⟨g3, g4⟩ := di g2.2 hv
  rw [h4] at g3
  exact ⟨v, h4, ev, g4, by simpa [fx] using g3⟩
 ·obtain ⟨g1, g2⟩ := di hs.2 hu
  rw [h2] at g1
  simp only [fx] at g1
  rw [if_neg (by omega), if_pos trivial, if_neg (by omega), if_pos (by omega)] at g1
  exact ⟨g2, g1⟩
 ·obtain ⟨g1, g2⟩ := di hs.2 hu
  rw [h2] at g1
  simp only [fx] at g1
  rw [if_neg (by omega), if_pos trivial, if_pos (by omega)] at g1
  exact ⟨g2, g1⟩
theorem tu {f : Tree} {g : aa} {x : Cx} {n : Nat} (hn : n ≤ f.kids.length) (hf : ∀ (i : Nat) (u : Tree), (f.kids.take n)[i]? = some u → ∃ v, u.kind = 4 ∧ u.kids = [v] ∧ tyK v) (hl : f.kids.length ≤ 100000000) : ∀ (k i : Nat) (s : Sv), k + i = n → x.pa.length + kbulk ((f.kids.take n).drop i) + 2 ≤ 100000000 → s.fa.length + 4 * kbulk ((f.kids.take n).drop i) + 1 ≤ 900000000 → uNs ((f.kids.take n).drop i) ≤ s.tg.length →
  Sst (kbulk ((f.kids.take n).drop i)) (uNs ((f.kids.take n).drop i)) s (jP x ((f.kids.take n).drop i) i s) ∧ ∀ (m : Nat) (s' : Sv), (∀ s1, s1 = jP x ((f.kids.take n).drop i) i s → bd m f g n x.sg x.nm x.p s1.tg x.mo x.pa s1.fa x.wm x.wp s1.rs s1.rl n x.p s'.tg x.nm x.sg x.mo x.pa s'.fa x.wm x.wp s'.rs s'.rl) → ∃ m', bd m' f g n x.sg x.nm x.p s.tg x.mo x.pa s.fa x.wm x.wp s.rs s.rl i x.p s'.tg x.nm x.sg x.mo x.pa s'.fa x.wm x.wp s'.rs s'.rl
 | 0, i, s, hk, _, _, _ => by
  have hd : (f.kids.take n).drop i = [] := List.drop_of_length_le (by simp; omega)
  have hi : i = n := by omega
  subst hi
  rw [hd]
  exact ⟨⟨by simp [jP, uNs], by simp [jP]⟩, fun m s' h => ⟨m, h _ rfl⟩⟩
 | k + 1, i, s, hk, h1, h2, h3 => by
  have hlt : i < (f.kids.take n).length := by simp; omega
  obtain ⟨u, hu⟩ : ∃ u, (f.kids.take n)[i]? = some u := ⟨_, List.getElem?_eq_getElem hlt⟩
  obtain ⟨v, hv4, hv, hvt⟩ := hf i u hu
  have hd := bb hu
  have hbu := cH u
  rw [hv] at hbu
  rw [hd] at h1 h2 h3 ⊢
  simp only [kbulk, uNs] at h1 h2 h3 hbu ⊢
  have hv0 : u.kids[0]? = some v := by rw [hv]; rfl
  have hU : uN u = uN v := by rw [ef, hv, hv4]; simp [uNs]
  obtain ⟨a1, a2⟩ := rF (tbulk v) v (Nat.le_refl _) hvt u 0 (x.go i) s hv0 (by simp [Cx.go]; omega) (by omega) (by omega)
  have e : jP x (u :: (f.kids.take n).drop (i + 1)) i s = jP x ((f.kids.take n).drop (i + 1)) (i + 1) (fL (tbulk v) ((x.go i).go ((0 : Nat) : Int)) v s) := by
   rw [jP, fT hv0]
  rw [e]
  generalize fL (tbulk v) ((x.go i).go ((0 : Nat) : Int)) v s = s1 at a1 a2
  have q1 := a2.fa
  have q2 := a2.tg
  obtain ⟨b1, b2⟩ := tu (g := g) (x := x) hn hf hl k (i + 1) s1 (by omega) (by omega) (by omega) (by rw [q2, List.length_drop]; omega)
  refine ⟨⟨by rw [b1.tg, q2, List.drop_drop, hU], by have := b1.fa; omega⟩, fun m s' h => ?_⟩
  obtain ⟨m', hm⟩ := b2 m s' h
  exact ⟨m' + 1, dK m' _ _ _ _ _ _ _ _ _ _ _ _ _ _ _ _ _ _ _ _ _ _ _ _ _ _ (⟨fun _ => ⟨u, hu, _, _, _, _, _, _, _, _, _, _, _, dV (x := x) (s := s) (i : Int) (by omega), _, _, _, _, _, _, _, _, _, _, _, a1, _, _, _, _, _, _, _, _, _, _, _, dW (x := x) (s := s1) (i : Int), by omega, hm⟩, fun h => absurd hlt h⟩)⟩
theorem vx {f : Tree} {g : aa} {x : Cx} {s s' : Sv} {n : Nat} (hn : n + 2 = f.kids.length) (hg : n ≤ g.params.length) (hl : f.kids.length ≤ 100000000) {m0 : Nat} (fin : aS m0 f g x.p s.tg x.nm x.sg x.mo x.pa s.fa x.wm x.wp s.rs s.rl (gM (f.kids.take n) g.params) (-1) x.p s'.tg x.nm x.sg x.mo x.pa s'.fa x.wm x.wp s'.rs s'.rl) : ∀ k, k ≤ n → aS (m0 + k) f g x.p s.tg x.nm x.sg x.mo x.pa s.fa x.wm x.wp s.rs s.rl (gM ((f.kids.take n).drop k) (g.params.drop k)) ((k : Int) - 1) x.p s'.tg x.nm x.sg x.mo x.pa s'.fa x.wm x.wp s'.rs s'.rl
 | 0, _ => by simpa using fin
 | k + 1, hk => by
  have ih := vx hn hg hl fin k (by omega)
  obtain ⟨u, hu⟩ : ∃ u, f.kids[k]? = some u := ⟨_, List.getElem?_eq_getElem (by omega)⟩
  obtain ⟨q, hq⟩ : ∃ q, g.params[k]? = some q := ⟨_, List.getElem?_eq_getElem (by omega)⟩
  have hu' : (f.kids.take n)[k]? = some u := by rw [List.getElem?_take, if_pos (by omega)]; exact hu
  rw [bb hu', bb hq] at ih
  have e : (((k + 1 : Nat) : Int) - 1) = (k : Int) := by omega
  rw [e]
  exact dJ (m0 + k) _ _ _ _ _ _ _ _ _ _ _ _ _ _ _ _ _ _ _ _ _ _ _ _ _ _ (⟨fun _ => ⟨k, rfl, u, hu, k, rfl, q, hq, ⟨by omega, by omega⟩, ih⟩, fun h => absurd (by omega) h⟩)
theorem rR {f : Tree} {g : aa} {x : Cx} {s : Sv} {L : Nat} (hs : shapeK f = true) (h2 : f.kind = 2) (hg : f.kids.length = g.params.length + 2) (hp : x.pa.length + tbulk f + 2 ≤ 100000000) (hf : s.fa.length + 4 * tbulk f + 1 ≤ 900000000) (ht : uN f ≤ s.tg.length) (hL : L + tbulk f ≤ 900000000) (hgp : ∀ q ∈ g.params, KOk L q) (hsg : ∀ k q, mlook k x.sg = some q → KOk L q.result) :
  ckU x s f g (mB x f g s) ∧ Sst (tbulk f) (uN f) s (mB x f g s) := by
 obtain ⟨s1, s2, s3, s4⟩ := kZ hs h2
 have hkl := cF f
 have hB := cH f
 obtain ⟨n, hn⟩ : ∃ n, n + 2 = f.kids.length := ⟨f.kids.length - 2, by omega⟩
 obtain ⟨r, hr⟩ : ∃ r, f.kids[n]? = some r := ⟨_, List.getElem?_eq_getElem (by omega)⟩
 obtain ⟨b, hb⟩ : ∃ b, f.kids[n + 1]? = some b := ⟨_, List.getElem?_eq_getElem (by omega)⟩
 have hrt := s3 r (by rw [show f.kids.length - 2 = n by omega]; exact hr)
 have hbx := s4 b (by rw [show f.kids.length - 1 = n + 1 by omega]; exact hb)
 have hsplit : f.kids = f.kids.take n ++ [r, b] := by
  have e1 : f.kids.drop n = [r, b] := by
   rw [bb hr, bb hb, List.drop_of_length_le (by omega)]
  rw [← e1, List.take_append_drop]
 have hKB : kbulk f.kids = kbulk (f.kids.take n) + tbulk r + tbulk b := by
  have : ∀ a c : List Tree, kbulk (a ++ c) = kbulk a + kbulk c := fun a c => by induction a with
   | nil => simp [kbulk]
   | cons y l ih => simp only [List.cons_append, kbulk, ih]; omega
  conv => lhs; rw [hsplit, this]
  simp [kbulk]; omega
 have hUU : uN f = uNs (f.kids.take n) + uN r + uN b := by
  have : ∀ a c : List Tree, uNs (a ++ c) = uNs a + uNs c := fun a c => by induction a with
   | nil => simp [uNs]
   | cons y l ih => simp only [List.cons_append, uNs, ih]; omega
  rw [ef, h2]
  conv => lhs; rw [hsplit, this]
  simp [uNs]; omega
 have hpar : ∀ (i : Nat) (u : Tree), (f.kids.take n)[i]? = some u → ∃ v, u.kind = 4 ∧ u.kids = [v] ∧ tyK v := fun i u hu => by
  rw [List.getElem?_take] at hu
  split at hu
  ·exact s2 i u hu (by omega)
  ·cases hu
 obtain ⟨A1, A2⟩ := tu (f := f) (g := g) (x := x) (n := n) (by omega) hpar (by omega) n 0 s (by omega) (by simp; omega) (by simp; omega) (by simp; omega)
 simp only [List.drop_zero] at A1 A2
 obtain ⟨sA, hsA⟩ : ∃ sA, sA = jP x (f.kids.take n) 0 s := ⟨_, rfl⟩
 rw [← hsA] at A1
 have qA := A1.fa
 have qT := A1.tg
 obtain ⟨B1, B2⟩ := rF (tbulk f) r (by omega) hrt f n x sA hr (by omega) (by omega) (by rw [qT, List.length_drop]; omega)
 obtain ⟨sB, hsB⟩ : ∃ sB, sB = fL (tbulk f) (x.go (n : Int)) r sA := ⟨_, rfl⟩
 rw [← hsB] at B1 B2
 have rA := B2.fa
 have rT := B2.tg
 obtain ⟨C1, C2⟩ := cZ (pH (tbulk f)) (x := x) (env := gM (f.kids.take n) g.params) (s := sB) (L := L) hb (by omega) hbx ⟨by omega, by omega, by rw [rT, qT, List.drop_drop, List.length_drop]; omega, by omega, fun c hc => by
  have : ∀ (ks : List Tree) (ps : List Kn), (∀ q ∈ ps, KOk L q) → ∀ c ∈ gM ks ps, KOk L c.typ := fun ks => by
   induction ks with
   | nil => intro ps _ c hc; simp [gM] at hc
   | cons k r ih =>
    intro ps hps c hc
    cases ps with
    | nil => simp [gM] at hc
    | cons q l =>
     simp only [gM, List.mem_cons] at hc
     rcases hc with rfl | hc
     ·exact hps q List.mem_cons_self
     ·exact ih l (fun q hq => hps q (List.mem_cons_of_mem _ hq)) c hc
  exact this _ _ hgp c hc, hsg⟩
 have e0 : mB x f g s = funQ x (n + 1) g.result (aW (mR (tbulk f)) x f (n + 1) (gM (f.kids.take n) g.params) sB) := by
  unfold mB
  rw [show f.kids.length - 1 = n + 1 by omega, show f.kids.length - 2 = n by omega, fT hr, ← hsA, ← hsB]
 rw [e0]
 generalize aW (mR (tbulk f)) x f (n + 1) (gM (f.kids.take n) g.params) sB = w at C1 C2 ⊢
 obtain ⟨k, sC⟩ := w
 have cA := C2.fa
 have cT := C2.tg
 simp only at cA cT
 have ei : (((f.kids.length : Nat) : Int) - 2 + 1) = ((n + 1 : Nat) : Int) := by omega
 have fin : ∀ s', s' = funQ x (n + 1) g.result (k, sC) → aS 1 f g x.p sB.tg x.nm x.sg x.mo x.pa sB.fa x.wm x.wp sB.rs sB.rl (gM (f.kids.take n) g.params) (-1) x.p s'.tg x.nm x.sg x.mo x.pa s'.fa x.wm x.wp s'.rs s'.rl := fun s' hs' => by
  refine dJ 0 _ _ _ _ _ _ _ _ _ _ _ _ _ _ _ _ _ _ _ _ _ _ _ _ _ _ (⟨fun h => absurd h (by omega), fun _ => ⟨⟨by omega, by omega⟩, _, _, _, _, _, _, _, _, _, _, _, _, by rw [ei]; exact C1, _, dr k g.result, fun h => ⟨⟨by omega, by omega⟩, ?_⟩, fun h => ?_⟩⟩)
  ·have : s' = faP x 4 [((n + 1 : Nat) : Int)] sC := by rw [hs']; unfold funQ; simp only [if_pos h]
   subst this
   exact ⟨_, _, _, _, _, _, _, _, _, _, _, by rw [ei]; exact bI (x := x) (s := sC) 4 [((n + 1 : Nat) : Int)] (by simp; omega) (by omega), rfl, rfl, rfl, rfl, rfl, rfl, rfl, rfl, rfl, rfl, rfl⟩
  ·have : s' = sC := by rw [hs']; unfold funQ; simp only [h]; simp
   subst this
   exact ⟨rfl, rfl, rfl, rfl, rfl, rfl, rfl, rfl, rfl, rfl, rfl⟩
 have st : Sst (tbulk f) (uN f) s (funQ x (n + 1) g.result (k, sC)) := by
  have : (funQ x (n + 1) g.result (k, sC)).tg = sC.tg ∧ (funQ x (n + 1) g.result (k, sC)).fa.length ≤ sC.fa.length + 1 := by
   unfold funQ
   simp only []
   split
   ·exact ⟨rfl, by rw [bx]; omega⟩
   ·exact ⟨rfl, by omega⟩
  exact ⟨by rw [this.1, cT, rT, qT, List.drop_drop, List.drop_drop, hUU, Nat.add_assoc], by have := this.2; omega⟩
 refine ⟨?_, st⟩
 obtain ⟨m', hm⟩ := A2 (1 + n + 1) (funQ x (n + 1) g.result (k, sC)) fun s1 hs1 => by
  rw [← hsA] at hs1
  subst hs1
  refine dK (1 + n) _ _ _ _ _ _ _ _ _ _ _ _ _ _ _ _ _ _ _ _ _ _ _ _ _ _ (⟨fun h => absurd h (by rw [List.length_take]; omega), fun _ => ⟨_, _, _, _, _, _, _, _, _, _, _, by rw [show ((f.kids.length : Nat) : Int) - 2 = (n : Int) by omega]; exact B1, ⟨by omega, by omega⟩, ?_⟩⟩)
  have := vx (x := x) (s := sB) (g := g) hn (by omega) (by omega) (fin _ rfl) n (Nat.le_refl _)
  rw [List.drop_of_length_le (by simp; omega)] at this
  rw [show ((f.kids.length : Nat) : Int) - 2 - 1 = (n : Int) - 1 by omega]
  simpa [gM] using this
 exact it m' _ _ _ _ _ _ _ _ _ _ _ _ _ _ _ _ _ _ _ _ _ _ _ _ (⟨n, by omega, by omega, hm⟩)
set_option maxHeartbeats 4000000
def jq (p0 : Tree) (p1 : List Int) (r0 : Tree) (r1 : Bool) : Prop := qS 18 [.agg (aq p0), .row 1 (List.map (V.int .i64) p1)] (.tup [.agg (aq r0), .bool r1])
def bj (p0 : List Tree) (r0 : List ae) : Prop := aY [] Tryz.prog 12 [.row 4 (kidsV p0)] ⟨0, []⟩ (fun u G => u = .sl 0 ∧ G = ⟨1, [(0, .row 42 3 (List.map ae.w r0))]⟩)
def hZ (p0 : List Tree) (p1 : GPlace) (r0 : Tree) (r1 : Int) : Prop := qS 11 [.row 4 (kidsV p0), .agg (GPlace.c p1)] (.tup [.agg (aq r0), .int .i64 r1])
theorem mr (m : Nat) (p0 : List Tree) (r0 : List ae) (h : ∃ z, dM p0 z ∧ ((z = false) → ([] : List ae) = r0) ∧ ((z = true) → ∃ α β, ∃ (v : (List ((Int × (List UInt8)) × ac))), ∃ (y : (List ((Int × Int) × aa))), ∃ γ f g δ i j k, dc p0 α β v y γ f g δ i j k ∧ ∃ l n, ∃ (c : (List ((Int × (List UInt8)) × ac))), ∃ (d : (List ((Int × Int) × aa))), ∃ o e b q r s t, cP α β v y γ f g δ i j k l n c d o e b q r s t ∧ ∃ a, aR b a ∧ a = r0)) : bj p0 r0 := by
 refine am 20 [] Tryz.func12 rfl rfl rfl (aA rfl) fun K hK => ?_
 refine gR 9 rfl ?_
 obtain ⟨z, hs5, h⟩ := h
 refine gC0 hs5 (by kernel_rfl) rfl rfl .rfl rfl <| gR 3 rfl <| qBh 6 rfl rfl rfl h ib hW (fun h => ?_) fun h => ?_
 refine gR 8 rfl <| gNS 2 42 3 rfl rfl rfl rfl ?_
 subst h
 exact go_sub (F' := (mkF 20 0 [(2, .sl 0)])) (H' := ⟨1, [(0, .row 42 3 (List.map ae.w ([] : List ae)))]⟩) [0] [] rfl hK pq1 ⟨⟨_, rfl, rfl, rfl, rfl⟩, trivial⟩ rfl <| go_endD [] ah (rs := [.tmp 2]) rfl rfl ⟨rfl, rfl⟩
 refine gR 6 rfl ?_
 obtain ⟨α, β, v, y, γ, f, g, δ, i, j, k, hs6, h⟩ := h
 refine gC hs6 [] (by kernel_rfl) rfl rfl .rfl trivial rfl ?_
 rintro _ _ ⟨rfl, rfl⟩
 refine gHR 3 (List.map (V.int .i64) f) rfl (vD _ f) rfl <| gHR 4 (List.map ae.w g) rfl (vF _ g) rfl <| gHn ⟨5, [(4, .row 42 3 (List.map ae.w g)), (3, .row 3 1 (List.map (V.int .i64) f)), (2, .mp 84 81 (List.map (fun p => (fun x => V.agg [(V.int .i64 x.1), (V.int .i64 x.2)]) p.1) y) (List.map (fun p => aa.w p.2) y)), (1, .mp 137 61 (List.map (fun p => (fun x => V.agg [(V.int .i64 x.1), (V.str x.2)]) p.1) v) (List.map (fun p => ac.w p.2) v)), (0, vA α (.row 5 (List.map GTarget.w β)) γ δ i j k)]⟩ rfl ⟨rfl, rfl, rfl, rfl, rfl, trivial⟩ ?_
 refine gR 6 rfl ?_
 obtain ⟨l, n, c, d, o, e, b, q, r, s, t, hs7, h⟩ := h
 refine gCZ hs7 [0, 1, 2, 3, 4] ⟨⟨_, rfl, ⟨rfl, rfl, (vF _ g).symm⟩⟩, ⟨⟨_, rfl, ⟨rfl, rfl, (vD _ f).symm⟩⟩, ⟨⟨_, rfl, ⟨rfl, rfl, rfl, rfl⟩⟩, ⟨⟨_, rfl, ⟨rfl, rfl, rfl, rfl⟩⟩, ⟨⟨_, rfl, ⟨rfl, an.rfl⟩⟩, trivial⟩⟩⟩⟩⟩ ?_
 refine gHR 8 (List.map (V.int .i64) e) rfl (vD _ e) rfl <| gHR 9 (List.map ae.w b) rfl (vF _ b) rfl <| gHn ⟨10, [(9, .row 42 3 (List.map ae.w b)), (8, .row 3 1 (List.map (V.int .i64) e)), (2, .mp 84 81 (List.map (fun p => (fun x => V.agg [(V.int .i64 x.1), (V.int .i64 x.2)]) p.1) d) (List.map (fun p => aa.w p.2) d)), (1, .mp 137 61 (List.map (fun p => (fun x => V.agg [(V.int .i64 x.1), (V.str x.2)]) p.1) c) (List.map (fun p => ac.w p.2) c)), (0, .var 63 [.row 4 (kidsV l), .row 5 (List.map GTarget.w n), .sl 1, .sl 2, .int .i64 o, .sl 8, .sl 9, .int .i64 q, .row 1 (List.map (V.int .i64) r), .int .i64 s, .int .i64 t])]⟩ rfl ⟨rfl, rfl, rfl, rfl, rfl, trivial⟩ ?_
 refine gR 8 rfl ?_
 obtain ⟨a, hs8, h⟩ := h
 refine gCZ hs8 [9] ⟨⟨_, rfl, ⟨rfl, rfl, (vF _ b).symm⟩⟩, trivial⟩ ?_
 refine gHR 9 (List.map ae.w a) rfl (vF _ a) rfl <| gHn ⟨11, [(9, .row 42 3 (List.map ae.w a)), (8, .row 3 1 (List.map (V.int .i64) e)), (2, .mp 84 81 (List.map (fun p => (fun x => V.agg [(V.int .i64 x.1), (V.int .i64 x.2)]) p.1) d) (List.map (fun p => aa.w p.2) d)), (1, .mp 137 61 (List.map (fun p => (fun x => V.agg [(V.int .i64 x.1), (V.str x.2)]) p.1) c) (List.map (fun p => ac.w p.2) c)), (0, .var 63 [.row 4 (kidsV l), .row 5 (List.map GTarget.w n), .sl 1, .sl 2, .int .i64 o, .sl 8, .sl 9, .int .i64 q, .row 1 (List.map (V.int .i64) r), .int .i64 s, .int .i64 t])]⟩ rfl ⟨rfl, rfl, rfl, rfl, rfl, trivial⟩ ?_
 refine gR 12 rfl ?_
 subst h
 exact go_sub (F' := (mkF 20 0 [(2, .sl 0)])) (H' := ⟨1, [(0, .row 42 3 (List.map ae.w a))]⟩) [9] [] rfl hK pq1 ⟨⟨_, rfl, rfl, rfl, (vF _ a).symm⟩, trivial⟩ rfl <| go_endD [] ah (rs := [.tmp 2]) rfl rfl ⟨rfl, rfl⟩
def lg (m : Nat) (p0 : List Tree) (p1 : GPlace) (a : Tree) (b : Bool) (r0 : Tree) (r1 : Int) : Prop := ∀ (K : Ctx), aG K [] → Go Tryz.prog K (bodyPost Tryz.prog Tryz.f11 (SP K (fun u _ => u = .tup [.agg (aq r0), .int .i64 r1]))) (.ex .normal) [.seq (xF (aj Tryz.f11))] 88 (mkF 88 0 [(0, .row 4 (kidsV p0)), (3, .box (GPlace.c p1) 0), (4, .ptr 0 0), (6, .ptr 1 0), (7, .bool b)]) ⟨2, [(1, .var 29 (aq a)), (0, .var 29 [.int .i64 0, .str [], .nils, .nils])]⟩
def jb (m : Nat) (a b : Int) (c : List Tree) (d : Nat) (r0 : Tree) (r1 : Int) : Prop := ∀ (K : Ctx) (j1 : Nat), aG K [] → m ≤ j1 → qLG K Tryz.f11 (fun u _ => u = .tup [.agg (aq r0), .int .i64 r1]) (xE (xG (xF (aj Tryz.f11)))) [.loop (xE (xG (xF (aj Tryz.f11)))) j1, .blk 0, .seq (xG (xG (xA (aj Tryz.f11))))] 88 (mkF 88 0 [(4, .ptr 0 0), (9, .ptr 1 0), (80, .int .i64 a), (81, .int .i64 (d : Int))]) ⟨3, [(2, .row 29 4 (kidsV c)), (1, .var 29 [.int .i64 b, .str [], .nils, .sl 2]), (0, .var 29 [.int .i64 0, .str [], .nils, .nils])]⟩
theorem oR (m : Nat) (p0 : List Tree) (p1 : GPlace) (r0 : Tree) (r1 : Int) (h : ∃ a, dM p0 a ∧ ((a = false) → (Tree.node 0 [] [] []) = r0 ∧ 5 = r1) ∧ ((a = true) → ((p1.Module < 0) → (Tree.node 0 [] [] []) = r0 ∧ 5 = r1) ∧ ((¬ p1.Module < 0) → (((p0.length : Int) ≤ p1.Module) → (Tree.node 0 [] [] []) = r0 ∧ 5 = r1) ∧ ((¬ (p0.length : Int) ≤ p1.Module) → ∃ b, p1.Module = ((b : Nat) : Int) ∧ ∃ c, p0[b]? = some c ∧ ∃ d e, jq c p1.Path d e ∧ lg m p0 p1 d e r0 r1)))) : hZ p0 p1 r0 r1 := by
 refine ⟨rfl, rfl, ?_⟩
 refine am 88 [] Tryz.func11 rfl rfl rfl (aA rfl) fun K hK => ?_
 refine gR 3 rfl <| gFP 0 rfl rfl rfl rfl <| gR 8 rfl ?_
 obtain ⟨a, hs11, h⟩ := h
 refine gC0 hs11 (by kernel_rfl) rfl rfl .rfl rfl <| gR 2 rfl <| qBhZ 13 12 rfl rfl rfl rfl h ib hW (fun h => ?_) fun h => ?_
 refine gR 23 rfl ?_
 obtain ⟨rfl, rfl⟩ := h
 exact go_sub (F' := (mkF 88 0 [(4, .ptr 0 0), (5, .int .i64 5)])) (H' := ⟨1, [(0, .var 29 [.int .i64 ((Tree.node 0 [] [] []).kind), .str ((Tree.node 0 [] [] []).text), .row 1 (List.map V.str ((Tree.node 0 [] [] []).leads)), .row 4 (kidsV ((Tree.node 0 [] [] []).kids))])]⟩) [1] [] rfl hK pq2 ⟨⟨_, rfl, rfl, (.cons .rfl (.cons .rfl (.cons (.nil 1) (.cons (.nil 4) .nil))))⟩, trivial⟩ rfl <| go_end ah (rs := [.cell 4 29, .tmp 5]) rfl rfl rfl
 refine gR 5 rfl <| qBdZ 18 17 rfl rfl rfl rfl h (fun h => ?_) fun h => ?_
 refine gR 18 rfl ?_
 obtain ⟨rfl, rfl⟩ := h
 exact go_sub (F' := (mkF 88 0 [(4, .ptr 0 0), (5, .int .i64 5)])) (H' := ⟨1, [(0, .var 29 [.int .i64 ((Tree.node 0 [] [] []).kind), .str ((Tree.node 0 [] [] []).text), .row 1 (List.map V.str ((Tree.node 0 [] [] []).leads)), .row 4 (kidsV ((Tree.node 0 [] [] []).kids))])]⟩) [1] [] rfl hK pq2 ⟨⟨_, rfl, rfl, (.cons .rfl (.cons .rfl (.cons (.nil 1) (.cons (.nil 4) .nil))))⟩, trivial⟩ rfl <| go_end ah (rs := [.cell 4 29, .tmp 5]) rfl rfl rfl
 refine gR 4 rfl <| gV 22 (.int .i64 (p0.length : Int)) rfl (aM (aK _)) rfl <| gLB 21 rfl (aK _) fun hl12 => gR 4 rfl <| qBd 24 rfl rfl rfl h (fun h => ?_) fun h => ?_
 refine gR 10 rfl ?_
 obtain ⟨rfl, rfl⟩ := h
 exact go_sub (F' := (mkF 88 0 [(4, .ptr 0 0), (5, .int .i64 5)])) (H' := ⟨1, [(0, .var 29 [.int .i64 ((Tree.node 0 [] [] []).kind), .str ((Tree.node 0 [] [] []).text), .row 1 (List.map V.str ((Tree.node 0 [] [] []).leads)), .row 4 (kidsV ((Tree.node 0 [] [] []).kids))])]⟩) [1] [] rfl hK pq2 ⟨⟨_, rfl, rfl, (.cons .rfl (.cons .rfl (.cons (.nil 1) (.cons (.nil 4) .nil))))⟩, trivial⟩ rfl <| go_end ah (rs := [.cell 4 29, .tmp 5]) rfl rfl rfl
 refine gR 4 rfl <| gDs [] 12 14 rfl (by kernel_rfl) (by kernel_rfl) <| gDr [(0, 2), (1, 2), (2, 2)] (by kernel_rfl) rfl rfl ?_
 obtain ⟨b, f, h⟩ := h
 refine gV 29 (.int .i64 ((b : Nat) : Int)) rfl (cx f) rfl ?_
 obtain ⟨c, hxt0_3, h⟩ := h
 refine gYd 3 rfl (by kernel_rfl) (bC (aI hxt0_3) ah rfl rfl rfl rfl) rfl rfl <| gDr [(4, 2), (5, 2), (6, 2)] (by kernel_rfl) rfl rfl ?_
 obtain ⟨d, e, hs13, h⟩ := h
 apply cD (i := 7) (j := 11) (by kernel_rfl) rfl rfl rfl rfl
 exact (eC (L' := []) (by kernel_rfl) rfl rfl (mU hs13 .rfl [] rfl) (.inl rfl))
 exact (bT ah rfl rfl)
 exact gDr [(8, 2), (9, 2), (10, 2), (11, 0), (12, 1), (13, 1)] (by kernel_rfl) rfl rfl <| gDe (by kernel_rfl) <| gJ (h K hK) [1, 2] [] rfl hK pq5 (pqo2 rfl rfl rfl rfl) rfl
 refine pc 7 hs13 (by kernel_rfl) rfl (by kernel_rfl) rfl rfl .rfl rfl rfl ?_
 exact gDr [(8, 0), (9, 2), (10, 2), (12, 1), (13, 1)] (by kernel_rfl) rfl rfl <| gDe (by kernel_rfl) <| gJ (h K hK) [1, 2] [] rfl hK pq5 (pqo2 rfl rfl rfl rfl) rfl
theorem oy (m : Nat) (p0 : List Tree) (p1 : GPlace) (d : Tree) (β : Bool) (r0 : Tree) (r1 : Int) (h : ((β = false) → (Tree.node 0 [] [] []) = r0 ∧ 5 = r1) ∧ ((β = true) → ((d.kind < 10) → (Tree.node 0 [] [] []) = r0 ∧ 5 = r1) ∧ ((¬ d.kind < 10) → ((22 < d.kind) → (Tree.node 0 [] [] []) = r0 ∧ 5 = r1) ∧ ((¬ 22 < d.kind) → ((d.kind = 17) → (Tree.node 0 [] [] []) = r0 ∧ 5 = r1) ∧ ((d.kind ≠ 17) → ∃ y z, ∃ (t : (List ((Int × (List UInt8)) × ac))), ∃ (v : (List ((Int × Int) × aa))), ∃ α g i γ δ k l, dc p0 y z t v α g i γ δ k l ∧ ∃ n o, ∃ (e : (List ((Int × (List UInt8)) × ac))), ∃ (f : (List ((Int × Int) × aa))), ∃ q b c r s a j, cP y z t v α g i p1.Module p1.Path k l n o e f q b c r s a j ∧ ((a = 0) → (Tree.node 0 [] [] []) = r0 ∧ 20 = r1) ∧ ((a ≠ 0) → jb m j a ([] : List Tree) 0 r0 r1)))))) : lg (m + 1) p0 p1 d β r0 r1 := by
 intro K hK
 refine gR 7 rfl <| gB 39 rfl rfl rfl ?_ ?_ <;> intro hd
 refine gT 38 rfl hd rfl ?_
 replace hd := (ib hd)
 replace h := h.1 hd
 refine gR 26 rfl ?_
 obtain ⟨rfl, rfl⟩ := h
 exact go_sub (F' := (mkF 88 0 [(4, .ptr 0 0), (5, .int .i64 5)])) (H' := ⟨1, [(0, .var 29 [.int .i64 ((Tree.node 0 [] [] []).kind), .str ((Tree.node 0 [] [] []).text), .row 1 (List.map V.str ((Tree.node 0 [] [] []).leads)), .row 4 (kidsV ((Tree.node 0 [] [] []).kids))])]⟩) [0] [] rfl hK pq2 ⟨⟨_, rfl, rfl, (.cons .rfl (.cons .rfl (.cons (.nil 1) (.cons (.nil 4) .nil))))⟩, trivial⟩ rfl <| go_end ah (rs := [.cell 4 29, .tmp 5]) rfl rfl rfl
 refine gF 38 rfl hd rfl ?_
 replace hd := (hW hd)
 replace h := h.2 hd
 refine gR 5 rfl <| gB 44 rfl rfl rfl ?_ ?_ <;> intro hd
 refine gT 43 rfl hd rfl ?_
 replace hd := (of_decide_eq_true hd)
 replace h := h.1 hd
 refine gR 21 rfl ?_
 obtain ⟨rfl, rfl⟩ := h
 exact go_sub (F' := (mkF 88 0 [(4, .ptr 0 0), (5, .int .i64 5)])) (H' := ⟨1, [(0, .var 29 [.int .i64 ((Tree.node 0 [] [] []).kind), .str ((Tree.node 0 [] [] []).text), .row 1 (List.map V.str ((Tree.node 0 [] [] []).leads)), .row 4 (kidsV ((Tree.node 0 [] [] []).kids))])]⟩) [0] [] rfl hK pq2 ⟨⟨_, rfl, rfl, (.cons .rfl (.cons .rfl (.cons (.nil 1) (.cons (.nil 4) .nil))))⟩, trivial⟩ rfl <| go_end ah (rs := [.cell 4 29, .tmp 5]) rfl rfl rfl
 refine gF 43 rfl hd rfl ?_
 replace hd := (of_decide_eq_false hd)
 replace h := h.2 hd
 refine gR 5 rfl <| gB 49 rfl rfl rfl ?_ ?_ <;> intro hd
 refine gT 48 rfl hd rfl ?_
 replace hd := (of_decide_eq_true hd)
 replace h := h.1 hd
 refine gR 16 rfl ?_
 obtain ⟨rfl, rfl⟩ := h
 exact go_sub (F' := (mkF 88 0 [(4, .ptr 0 0), (5, .int .i64 5)])) (H' := ⟨1, [(0, .var 29 [.int .i64 ((Tree.node 0 [] [] []).kind), .str ((Tree.node 0 [] [] []).text), .row 1 (List.map V.str ((Tree.node 0 [] [] []).leads)), .row 4 (kidsV ((Tree.node 0 [] [] []).kids))])]⟩) [0] [] rfl hK pq2 ⟨⟨_, rfl, rfl, (.cons .rfl (.cons .rfl (.cons (.nil 1) (.cons (.nil 4) .nil))))⟩, trivial⟩ rfl <| go_end ah (rs := [.cell 4 29, .tmp 5]) rfl rfl rfl
 refine gF 48 rfl hd rfl ?_
 replace hd := (of_decide_eq_false hd)
 replace h := h.2 hd
 refine gR 6 rfl <| gB 53 rfl rfl rfl ?_ ?_ <;> intro hd
 replace hd := (eq_of_beq hd)
 replace h := h.1 hd
 refine gR 10 rfl ?_
 obtain ⟨rfl, rfl⟩ := h
 exact go_sub (F' := (mkF 88 0 [(4, .ptr 0 0), (5, .int .i64 5)])) (H' := ⟨1, [(0, .var 29 [.int .i64 ((Tree.node 0 [] [] []).kind), .str ((Tree.node 0 [] [] []).text), .row 1 (List.map V.str ((Tree.node 0 [] [] []).leads)), .row 4 (kidsV ((Tree.node 0 [] [] []).kids))])]⟩) [0] [] rfl hK pq2 ⟨⟨_, rfl, rfl, (.cons .rfl (.cons .rfl (.cons (.nil 1) (.cons (.nil 4) .nil))))⟩, trivial⟩ rfl <| go_end ah (rs := [.cell 4 29, .tmp 5]) rfl rfl rfl
 replace hd := (ne_of_beq_false hd)
 replace h := h.2 hd
 refine gR 6 rfl ?_
 obtain ⟨y, z, t, v, α, g, i, γ, δ, k, l, hs14, h⟩ := h
 refine gC hs14 [] (by kernel_rfl) rfl rfl .rfl trivial rfl ?_
 rintro _ _ ⟨rfl, rfl⟩
 refine gHR 5 (List.map (V.int .i64) g) rfl (vD _ g) rfl <| gHR 6 (List.map ae.w i) rfl (vF _ i) rfl <| gHn ⟨7, [(6, .row 42 3 (List.map ae.w i)), (5, .row 3 1 (List.map (V.int .i64) g)), (4, .mp 84 81 (List.map (fun p => (fun x => V.agg [(V.int .i64 x.1), (V.int .i64 x.2)]) p.1) v) (List.map (fun p => aa.w p.2) v)), (3, .mp 137 61 (List.map (fun p => (fun x => V.agg [(V.int .i64 x.1), (V.str x.2)]) p.1) t) (List.map (fun p => ac.w p.2) t)), (2, .var 63 [.row 4 (kidsV y), .row 5 (List.map GTarget.w z), .sl 3, .sl 4, .int .i64 α, .sl 5, .sl 6, .int .i64 γ, .row 1 (List.map (V.int .i64) δ), .int .i64 k, .int .i64 l]), (1, .var 29 (aq d)), (0, .var 29 [.int .i64 0, .str [], .nils, .nils])]⟩ rfl ⟨rfl, rfl, rfl, rfl, rfl, rfl, rfl, trivial⟩ ?_
 refine gR 15 rfl ?_
 obtain ⟨n, o, e, f, q, b, c, r, s, a, j, hs15, h⟩ := h
 refine gCZ hs15 [2, 3, 4, 5, 6] ⟨⟨_, rfl, ⟨rfl, rfl, (vF _ i).symm⟩⟩, ⟨⟨_, rfl, ⟨rfl, rfl, (vD _ g).symm⟩⟩, ⟨⟨_, rfl, ⟨rfl, rfl, rfl, rfl⟩⟩, ⟨⟨_, rfl, ⟨rfl, rfl, rfl, rfl⟩⟩, ⟨⟨_, rfl, ⟨rfl, an.rfl⟩⟩, trivial⟩⟩⟩⟩⟩ ?_
 refine gHR 10 (List.map (V.int .i64) b) rfl (vD _ b) rfl <| gHR 11 (List.map ae.w c) rfl (vF _ c) rfl <| gHn ⟨12, [(11, .row 42 3 (List.map ae.w c)), (10, .row 3 1 (List.map (V.int .i64) b)), (4, .mp 84 81 (List.map (fun p => (fun x => V.agg [(V.int .i64 x.1), (V.int .i64 x.2)]) p.1) f) (List.map (fun p => aa.w p.2) f)), (3, .mp 137 61 (List.map (fun p => (fun x => V.agg [(V.int .i64 x.1), (V.str x.2)]) p.1) e) (List.map (fun p => ac.w p.2) e)), (2, .var 63 [.row 4 (kidsV n), .row 5 (List.map GTarget.w o), .sl 3, .sl 4, .int .i64 q, .sl 10, .sl 11, .int .i64 r, .row 1 (List.map (V.int .i64) s), .int .i64 a, .int .i64 j]), (1, .var 29 (aq d)), (0, .var 29 [.int .i64 0, .str [], .nils, .nils])]⟩ rfl ⟨rfl, rfl, rfl, rfl, rfl, rfl, rfl, trivial⟩ ?_
 refine gR 13 rfl <| gB 68 rfl rfl rfl ?_ ?_ <;> intro hd
 replace hd := (eq_of_beq hd)
 replace h := h.1 hd
 refine gR 10 rfl ?_
 obtain ⟨rfl, rfl⟩ := h
 exact go_sub (F' := (mkF 88 0 [(4, .ptr 0 0), (5, .int .i64 20)])) (H' := ⟨1, [(0, .var 29 [.int .i64 ((Tree.node 0 [] [] []).kind), .str ((Tree.node 0 [] [] []).text), .row 1 (List.map V.str ((Tree.node 0 [] [] []).leads)), .row 4 (kidsV ((Tree.node 0 [] [] []).kids))])]⟩) [0] [] rfl hK pq2 ⟨⟨_, rfl, rfl, (.cons .rfl (.cons .rfl (.cons (.nil 1) (.cons (.nil 4) .nil))))⟩, trivial⟩ rfl <| go_end ah (rs := [.cell 4 29, .tmp 5]) rfl rfl rfl
 replace hd := (ne_of_beq_false hd)
 replace h := h.2 hd
 refine gR 15 rfl <| go_sub (F' := (mkF 88 0 [(4, .ptr 0 0), (8, .ptr 1 0), (9, .ptr 2 0)])) (H' := ⟨7, [(6, .row 42 3 (List.map ae.w c)), (5, .row 3 1 (List.map (V.int .i64) b)), (4, .mp 84 81 (List.map (fun p => (fun x => V.agg [(V.int .i64 x.1), (V.int .i64 x.2)]) p.1) f) (List.map (fun p => aa.w p.2) f)), (3, .mp 137 61 (List.map (fun p => (fun x => V.agg [(V.int .i64 x.1), (V.str x.2)]) p.1) e) (List.map (fun p => ac.w p.2) e)), (2, .var 29 [.int .i64 a, .str [], .nils, .nils]), (1, .var 63 [.row 4 (kidsV n), .row 5 (List.map GTarget.w o), .sl 3, .sl 4, .int .i64 q, .sl 5, .sl 6, .int .i64 r, .row 1 (List.map (V.int .i64) s), .int .i64 a, .int .i64 j]), (0, .var 29 [.int .i64 0, .str [], .nils, .nils])]⟩) [0, 2, 12, 3, 4, 10, 11] [] rfl hK pq3 ⟨⟨_, rfl, rfl, rfl, (vF _ c).symm⟩, ⟨_, rfl, rfl, rfl, (vD _ b).symm⟩, ⟨_, rfl, rfl, rfl, rfl, rfl⟩, ⟨_, rfl, rfl, rfl, rfl, rfl⟩, (pqo3 rfl rfl rfl rfl rfl rfl)⟩ rfl ?_
 exact gR 12 rfl <| go_loop m <| gNC 2 3 29 4 rfl rfl rfl rfl <| gJ (h K _ hK (by omega)) [0, 2, 7] [] rfl hK pq4 ⟨⟨_, rfl, rfl, rfl, rfl⟩, (pqo2 rfl rfl rfl rfl)⟩ rfl
theorem oA (m : Nat) (d a : Int) (b : List Tree) (c : Nat) (r0 : Tree) (r1 : Int) (h : (((c : Int) < d) → c + 1 ≤ 9223372036854775807 ∧ jb m d 8 [(Tree.node a [] [] b)] (c + 1) r0 r1) ∧ ((¬ (c : Int) < d) → (Tree.node a [] [] b) = r0 ∧ 0 = r1)) : jb (m + 1) d a b c r0 r1 := by
 intro K j1 hK hj1
 obtain ⟨j1, rfl⟩ : ∃ j, j1 = j + 1 := ⟨j1 - 1, by omega⟩
 refine gR 6 rfl <| gB 82 rfl rfl rfl ?_ ?_ <;> intro hd
 replace hd := (of_decide_eq_true hd)
 replace h := h.1 hd
 refine gR 7 rfl <| gFR 2 rfl (hO _) rfl rfl <| gS 83 (.agg [.int .i64 a, .str [], .row 1 [], .row 4 (kidsV b)]) rfl (.agg (.cons .rfl (.cons .rfl (.cons (.nil 1) (.cons .rfl .nil))))) rfl <| gR 1 rfl <| gHR 3 (kidsV [(Tree.node a [] [] b)]) rfl (nJ (Tree.node a [] [] b)) rfl <| gR 6 rfl ?_
 obtain ⟨hb, h⟩ := h
 exact gR 1 rfl <| gV 86 (.int .i64 ((c + 1 : Nat) : Int)) rfl (ax (by omega) (by omega)) rfl <| gR 2 rfl <| go_xloop <| gJ (h K _ hK (by omega)) [0, 1, 3] [] rfl hK pq4 ⟨⟨_, rfl, rfl, rfl, (xr _ [(Tree.node a [] [] b)]).symm⟩, (pqo2 rfl rfl rfl rfl)⟩ rfl
 replace hd := (of_decide_eq_false hd)
 replace h := h.2 hd
 refine gR 3 rfl <| go_xloopE <| gR 10 rfl <| gFR 2 rfl (hO _) rfl rfl ?_
 obtain ⟨rfl, rfl⟩ := h
 exact go_sub (F' := (mkF 88 0 [(4, .ptr 0 0), (5, .int .i64 0)])) (H' := ⟨1, [(0, .var 29 [.int .i64 ((Tree.node a [] [] b).kind), .str ((Tree.node a [] [] b).text), .row 1 (List.map V.str ((Tree.node a [] [] b).leads)), .row 4 (kidsV ((Tree.node a [] [] b).kids))])]⟩) [0] [] rfl hK pq2 ⟨⟨_, rfl, rfl, (.cons .rfl (.cons .rfl (.cons (.nil 1) (.cons .rfl .nil))))⟩, trivial⟩ rfl <| go_end ah (rs := [.cell 4 29, .tmp 5]) rfl rfl rfl
def noG : aa := ⟨[], ⟨0, 0⟩⟩
def hV (x : Cx) : List Tree → Nat → Sv → Sv
 | [], _, s => s
 | f :: r, d, s => hV x r (d + 1) (mB (x.go (d : Int)) f ((mlook (x.mo, (d : Int)) x.sg).getD noG) s)
def Cx.md (x : Cx) (m : Int) : Cx := { x with mo := m }
def ie (x : Cx) : List Tree → Nat → Sv → Sv
 | [], _, s => s
 | t :: r, m, s => ie x r (m + 1) (hV (x.md (m : Int)) t.kids 0 s)
def moF (z : Int) : List Tree → Nat → Int
 | [], _ => z
 | _ :: r, m => moF (m : Int) r (m + 1)
theorem ke {l : List Tree} {i : Nat} {u : Tree} (h : l[i]? = some u) : kbulk (l.drop i) = tbulk u + kbulk (l.drop (i + 1)) := by rw [bb h, kbulk]
theorem kS {l : List Tree} {i : Nat} {u : Tree} (h : l[i]? = some u) : uNs (l.drop i) = uN u + uNs (l.drop (i + 1)) := by rw [bb h, uNs]
structure DefOk (sg : List ((Int × Int) × aa)) (L : Nat) (m d : Nat) (f : Tree) : Prop where
 s : shapeK f = true
 k : f.kind = 2
 g : ∃ g, mlook ((m : Int), (d : Int)) sg = some g ∧ f.kids.length = g.params.length + 2 ∧ ∀ q ∈ g.params, KOk L q
theorem tj {x : Cx} {t : Tree} {m L : Nat} (hx : x.mo = m) (hm : m ≤ 1000000000) (hok : ∀ (d : Nat) (f : Tree), t.kids[d]? = some f → DefOk x.sg L m d f) (hsg : ∀ k q, mlook k x.sg = some q → KOk L q.result) (hkl : t.kids.length ≤ 100000000) : ∀ (k d : Nat) (s : Sv), k + d = t.kids.length → x.pa.length + kbulk (t.kids.drop d) + 4 ≤ 100000000 → s.fa.length + 4 * kbulk (t.kids.drop d) + 1 ≤ 900000000 → uNs (t.kids.drop d) ≤ s.tg.length → L + kbulk (t.kids.drop d) ≤ 900000000 →
  Sst (kbulk (t.kids.drop d)) (uNs (t.kids.drop d)) s (hV x (t.kids.drop d) d s) ∧ ∀ (M : Nat) (z : Int) (s' : Sv), (∀ s1, s1 = hV x (t.kids.drop d) d s → bL M x.p x.mo (m + 1) x.sg x.nm x.p s1.tg x.pa s1.fa x.wm x.wp s1.rs s1.rl x.p s'.tg x.nm x.sg z x.pa s'.fa x.wm x.wp s'.rs s'.rl) → ∃ M', bm M' x.p t x.sg x.nm x.p s.tg x.mo x.pa s.fa x.wm x.wp s.rs s.rl d m m x.p s'.tg x.nm x.sg z x.pa s'.fa x.wm x.wp s'.rs s'.rl
 | 0, d, s, hk, _, _, _, _ => by
  have hd : t.kids.drop d = [] := List.drop_of_length_le (by omega)
  rw [hd]
  exact ⟨⟨by simp [hV, uNs], by simp [hV]⟩, fun M z s' h => ⟨M + 1, fo M _ _ _ _ _ _ _ _ _ _ _ _ _ _ _ _ _ _ _ _ _ _ _ _ _ _ _ (⟨fun h => absurd h (by omega), fun _ => ⟨by omega, h _ rfl⟩⟩)⟩⟩
 | k + 1, d, s, hk, h1, h2, h3, h4 => by
  have hlt : d < t.kids.length := by omega
  obtain ⟨f, hf⟩ : ∃ f, t.kids[d]? = some f := ⟨_, fU hlt⟩
  obtain ⟨o1, o2, g, o3, o4, o5⟩ := hok d f hf
  have e1 := ke hf
  have e2 := kS hf
  obtain ⟨a1, a2⟩ := rR (x := x.go (d : Int)) (s := s) (L := L) (g := g) o1 o2 o4 (by simp [Cx.go]; omega) (by omega) (by omega) (by omega) o5 hsg
  have e : hV x (t.kids.drop d) d s = hV x (t.kids.drop (d + 1)) (d + 1) (mB (x.go (d : Int)) f g s) := by
   rw [bb hf, hV, hx, o3]; rfl
  rw [e]
  generalize mB (x.go (d : Int)) f g s = s1 at a1 a2
  have q1 := a2.fa
  have q2 := a2.tg
  obtain ⟨b1, b2⟩ := tj hx hm hok hsg hkl k (d + 1) s1 (by omega) (by omega) (by omega) (by rw [q2, List.length_drop]; omega) (by omega)
  refine ⟨⟨by rw [b1.tg, q2, List.drop_drop, e2], by have := b1.fa; omega⟩, fun M z s' h => ?_⟩
  obtain ⟨M', hM⟩ := b2 M z s' h
  refine ⟨M' + 2, fo (M' + 1) _ _ _ _ _ _ _ _ _ _ _ _ _ _ _ _ _ _ _ _ _ _ _ _ _ _ _ (⟨fun _ => ⟨f, hf, _, _, _, _, _, _, _, _, _, _, _, dV (x := x) (s := s) (d : Int) (by omega), fun _ => ⟨fun h => absurd (h.symm.trans o3) (by simp), fun g' hg' => ?_⟩, fun h => absurd o2 h⟩, fun h => absurd hlt h⟩)⟩
  rw [o3] at hg'
  injection hg' with hg'
  subst hg'
  exact ⟨_, _, _, _, _, _, _, _, _, _, _, a1, jO M' _ _ _ _ _ _ _ _ _ _ _ _ _ _ _ _ _ _ _ _ _ _ _ _ _ _ _ (⟨_, _, _, _, _, _, _, _, _, _, _, dW (x := x) (s := s1) (d : Int), by omega, hM⟩)⟩
theorem tN {x : Cx} {L : Nat} (hpl : x.p.length ≤ 100000000) (hok : ∀ (m : Nat) (t : Tree) (d : Nat) (f : Tree), x.p[m]? = some t → t.kids[d]? = some f → DefOk x.sg L m d f) (hsg : ∀ k q, mlook k x.sg = some q → KOk L q.result) : ∀ (k m : Nat) (z : Int) (s : Sv), k + m = x.p.length → x.pa.length + kbulk (x.p.drop m) + 4 ≤ 100000000 → s.fa.length + 4 * kbulk (x.p.drop m) + 1 ≤ 900000000 → (∀ (m : Nat) (t : Tree), x.p[m]? = some t → t.kind = 1) → uNs (x.p.drop m) ≤ s.tg.length → L + kbulk (x.p.drop m) ≤ 900000000 →
  ∃ M, bL M x.p z m x.sg x.nm x.p s.tg x.pa s.fa x.wm x.wp s.rs s.rl x.p (ie x (x.p.drop m) m s).tg x.nm x.sg (moF z (x.p.drop m) m) x.pa (ie x (x.p.drop m) m s).fa x.wm x.wp (ie x (x.p.drop m) m s).rs (ie x (x.p.drop m) m s).rl
 | 0, m, z, s, hk, _, _, _, _, _ => by
  have hd : x.p.drop m = [] := List.drop_of_length_le (by omega)
  rw [hd]
  exact ⟨1, fp 0 _ _ _ _ _ _ _ _ _ _ _ _ _ _ _ _ _ _ _ _ _ _ _ _ (⟨fun h => absurd h (by omega), fun _ => ⟨rfl, rfl, rfl, rfl, rfl, rfl, rfl, rfl, rfl, rfl, rfl⟩⟩)⟩
 | k + 1, m, z, s, hk, h1, h2, hk1, h3, h4 => by
  have hlt : m < x.p.length := by omega
  obtain ⟨t, ht⟩ : ∃ t, x.p[m]? = some t := ⟨_, List.getElem?_eq_getElem hlt⟩
  have e1 := ke ht
  have e2 := kS ht
  have hB := cH t
  have hU : uN t = uNs t.kids := by rw [ef, hk1 m t ht]; simp
  have hkl := cF t
  obtain ⟨a1, a2⟩ := tj (x := x.md (m : Int)) (t := t) (m := m) (L := L) rfl (by omega) (fun d f hf => hok m t d f ht hf) hsg (by omega) t.kids.length 0 s (by omega) (by simp [Cx.md]; omega) (by simp; omega) (by simp; omega) (by simp; omega)
  simp only [List.drop_zero] at a1 a2
  have q1 := a1.fa
  have q2 := a1.tg
  obtain ⟨s1, hs1⟩ : ∃ s1, s1 = hV (x.md (m : Int)) t.kids 0 s := ⟨_, rfl⟩
  rw [← hs1] at a1 q1 q2
  obtain ⟨M, hM⟩ := tN hpl hok hsg k (m + 1) (m : Int) s1 (by omega) (by omega) (by omega) hk1 (by rw [q2, List.length_drop]; omega) (by omega)
  have e : ie x (x.p.drop m) m s = ie x (x.p.drop (m + 1)) (m + 1) s1 := by rw [bb ht, ie, ← hs1]
  have e' : moF z (x.p.drop m) m = moF (m : Int) (x.p.drop (m + 1)) (m + 1) := by rw [bb ht, moF]
  rw [e, e']
  obtain ⟨M', hM'⟩ := a2 M (moF (m : Int) (x.p.drop (m + 1)) (m + 1)) (ie x (x.p.drop (m + 1)) (m + 1) s1) fun s2 hs2 => by
   rw [← hs1] at hs2; subst hs2; exact hM
  exact ⟨M' + 1, fp M' _ _ _ _ _ _ _ _ _ _ _ _ _ _ _ _ _ _ _ _ _ _ _ _ (⟨fun _ => ⟨t, ht, hM'⟩, fun h => absurd hlt h⟩)⟩
def knK (t : Tree) : Kn := ⟨(leafK t).kind, (lisK t : Nat)⟩
def iZ (f : Tree) : aa := ⟨(f.kids.take (f.kids.length - 2)).map fun k => knK (cV k 0), knK (cV f (f.kids.length - 2))⟩
def sgD (m : Int) : List Tree → Nat → List ((Int × Int) × aa) → List ((Int × Int) × aa)
 | [], _, l => l
 | f :: r, d, l => sgD m r (d + 1) (mput (m, (d : Int)) (iZ f) l)
def sgM : List Tree → Nat → List ((Int × Int) × aa) → List ((Int × Int) × aa)
 | [], _, l => l
 | t :: r, m, l => sgM r (m + 1) (sgD (m : Int) t.kids 0 l)
theorem wz {t : Tree} (ht : tyK t) (hb : tbulk t ≤ 1000000000) : gx t (leafK t) (lisK t : Nat) := by
 have loop : ∀ t, tyK t → ∀ i, i + tbulk t ≤ 2000000000 → ee (lisK t + 1) t i (leafK t) ((i + lisK t : Nat) : Int) := kE fun t ih h i hi => by
  rcases qW h with ⟨h8, _, u, hu, hty⟩ | ⟨h8, hk, _⟩
  ·obtain ⟨e1, e2⟩ := rm h8 hu
   have h0 : t.kids[0]? = some u := by rw [hu]; rfl
   have := bg h0
   rw [e1, e2]
   refine iY (lisK u + 1) _ _ _ _ (⟨fun _ => ⟨u, h0, by omega, ?_⟩, fun h => absurd h8 h⟩)
   rw [show i + (lisK u + 1) = i + 1 + lisK u by omega]
   exact ih 0 u h0 hty (i + 1) (by omega)
  ·obtain ⟨e1, e2⟩ := qL h8
   rw [e1, e2]
   exact iY 0 _ _ _ _ (⟨fun h => absurd h h8, fun _ => ⟨rfl, rfl⟩⟩)
 have := loop t ht 0 (by omega)
 rw [Nat.zero_add] at this
 exact nh (lisK t + 1) _ _ _ (this)
abbrev ckX (p : List Tree) (tg : List GTarget) (nm : List ((Int × List UInt8) × ac)) (sg : List ((Int × Int) × aa)) (m : Int) (t : Tree) (k : Kn) : Prop := cc p tg nm sg 0 [] [] 0 [] 0 0 m t k p tg nm sg 0 [] [] 0 [] 0 0
theorem qg {p : List Tree} {tg : List GTarget} {nm : List ((Int × List UInt8) × ac)} {sg : List ((Int × Int) × aa)} (m : Int) {t : Tree} (ht : tyK t) (hb : tbulk t ≤ 1000000000) (h9 : (leafK t).kind ≠ 9) : ckX p tg nm sg m t (knK t) :=
 rS_typing_checker_expand 0 _ _ _ _ _ _ _ _ _ _ _ _ _ _ _ _ _ _ _ _ _ _ _ _ _ (⟨_, _, wz ht hb, fun _ => ⟨rfl, rfl, rfl, rfl, rfl, rfl, rfl, rfl, rfl, rfl, rfl, rfl⟩, fun h => absurd h h9⟩)
structure FunOk (f : Tree) : Prop where
 s : shapeK f = true
 k : f.kind = 2
 p : ∀ (i : Nat) (u : Tree), f.kids[i]? = some u → i + 2 < f.kids.length → (leafK (cV u 0)).kind ≠ 9
 r : (leafK (cV f (f.kids.length - 2))).kind ≠ 9
theorem wG {p : List Tree} {tg : List GTarget} {nm : List ((Int × List UInt8) × ac)} {sg : List ((Int × Int) × aa)} (m : Int) {f : Tree} (hf : FunOk f) (hb : tbulk f ≤ 100000000) : dy p tg nm sg 0 [] [] 0 [] 0 0 m f (iZ f) p tg nm sg 0 [] [] 0 [] 0 0 := by
 obtain ⟨s1, s2, s3, _⟩ := kZ hf.s hf.k
 have hkl := cF f
 obtain ⟨n, hn⟩ : ∃ n, n + 2 = f.kids.length := ⟨f.kids.length - 2, by omega⟩
 have hlt : (f.kids.take n).length = n := by rw [List.length_take]; omega
 obtain ⟨r, hr⟩ : ∃ r, f.kids[n]? = some r := ⟨_, List.getElem?_eq_getElem (by omega)⟩
 have hrt := s3 r (by rw [show f.kids.length - 2 = n by omega]; exact hr)
 have hr9 := hf.r
 have hkr : cV f (f.kids.length - 2) = r := by rw [show f.kids.length - 2 = n by omega]; exact fT hr
 rw [hkr] at hr9
 have hbr := bg hr
 have loop : ∀ (k i : Nat), k + i = n → cm (k + 1) m f n sg nm p tg 0 [] [] 0 [] 0 0 ((f.kids.take i).map fun k => knK (cV k 0)) i ⟨(f.kids.take n).map fun k => knK (cV k 0), knK r⟩ p tg nm sg 0 [] [] 0 [] 0 0 := fun k => by
  induction k with
  | zero =>
   intro i hi
   have e : i = n := by omega
   subst e
   exact eZ 0 _ _ _ _ _ _ _ _ _ _ _ _ _ _ _ _ _ _ _ _ _ _ _ _ _ _ _ _ (⟨fun h => absurd h (by rw [hlt]; omega), fun _ => ⟨i, by omega, r, hr, _, _, _, _, _, _, _, _, _, _, _, _, qg m hrt (by omega) hr9, rfl, rfl, rfl, rfl, rfl, rfl, rfl, rfl, rfl, rfl, rfl, rfl⟩⟩)
  | succ k ih =>
   intro i hi
   obtain ⟨u, hu⟩ : ∃ u, f.kids[i]? = some u := ⟨_, List.getElem?_eq_getElem (by omega)⟩
   obtain ⟨v, hv4, hv, hvt⟩ := s2 i u hu (by omega)
   have hv0 : u.kids[0]? = some v := by rw [hv]; rfl
   have h9 := hf.p i u hu (by omega)
   rw [fT hv0] at h9
   have hb1 := bg hu
   have hb2 := bg hv0
   have e : ((f.kids.take i).map fun k => knK (cV k 0)) ++ [knK v] = (f.kids.take (i + 1)).map fun k => knK (cV k 0) := by
    rw [List.take_add_one, hu, List.map_append]
    simp [fT hv0]
   refine eZ (k + 1) _ _ _ _ _ _ _ _ _ _ _ _ _ _ _ _ _ _ _ _ _ _ _ _ _ _ _ _ (⟨fun _ => ⟨u, by rw [List.getElem?_take, if_pos (by omega)]; exact hu, v, hv0, _, _, _, _, _, _, _, _, _, _, _, _, qg m hvt (by omega) h9, by rw [e]; simp; omega, by omega, by rw [e]; exact ih (i + 1) (by omega)⟩, fun h => absurd (by rw [hlt]; omega) h⟩)
 have := loop n 0 (by omega)
 refine jN (n + 1) _ _ _ _ _ _ _ _ _ _ _ _ _ _ _ _ _ _ _ _ _ _ _ _ _ (⟨n, by omega, by omega, ?_⟩)
 unfold iZ
 rw [hkr, show f.kids.length - 2 = n by omega]
 simpa using this
theorem tc {p : List Tree} {tg : List GTarget} {t : Tree} {m : Nat} {R : List ((Int × Int) × aa)} (hm : m ≤ 1000000000) (hok : ∀ (d : Nat) (f : Tree), t.kids[d]? = some f → FunOk f) (hb : tbulk t ≤ 100000000) : ∀ (k d : Nat) (sg : List ((Int × Int) × aa)), k + d = t.kids.length → ∀ M, bS M p (m + 1) p tg [] (sgD (m : Int) (t.kids.drop d) d sg) 0 [] [] 0 [] 0 0 p tg [] R 0 [] [] 0 [] 0 0 → ∃ M', bU M' p t d p tg [] sg 0 [] [] 0 [] 0 0 m m p tg [] R 0 [] [] 0 [] 0 0
 | 0, d, sg, hk, M, h => by
  have hd : t.kids.drop d = [] := List.drop_of_length_le (by omega)
  rw [hd] at h
  exact ⟨M + 1, fQ M _ _ _ _ _ _ _ _ _ _ _ _ _ _ _ _ _ _ _ _ _ _ _ _ _ _ _ (⟨fun h => absurd h (by omega), fun _ => ⟨by omega, h⟩⟩)⟩
 | k + 1, d, sg, hk, M, h => by
  have hlt : d < t.kids.length := by omega
  have hkl := cF t
  obtain ⟨f, hf⟩ : ∃ f, t.kids[d]? = some f := ⟨_, fU hlt⟩
  have hbf := bg hf
  rw [bb hf, sgD] at h
  obtain ⟨M', hM⟩ := tc hm hok hb k (d + 1) (mput ((m : Int), (d : Int)) (iZ f) sg) (by omega) M h
  refine ⟨M' + 2, fQ (M' + 1) _ _ _ _ _ _ _ _ _ _ _ _ _ _ _ _ _ _ _ _ _ _ _ _ _ _ _ (⟨fun _ => ⟨f, hf, fun _ => ⟨_, _, _, _, _, _, _, _, _, _, _, _, wG (m : Int) (hok d f hf) (by omega), ?_⟩, fun h => absurd (hok d f hf).k h⟩, fun h => absurd hlt h⟩)⟩
  exact jV M' _ _ _ _ _ _ _ _ _ _ _ _ _ _ _ _ _ _ _ _ _ _ _ _ _ _ _ (⟨by omega, hM⟩)
theorem tU {p : List Tree} {tg : List GTarget} {R : List ((Int × Int) × aa)} (hok : ∀ (m : Nat) (t : Tree) (d : Nat) (f : Tree), p[m]? = some t → t.kids[d]? = some f → FunOk f) (hb : kbulk p ≤ 100000000) : ∀ (k m : Nat) (sg : List ((Int × Int) × aa)), k + m = p.length → R = sgM (p.drop m) m sg → ∃ M, bS M p m p tg [] sg 0 [] [] 0 [] 0 0 p tg [] R 0 [] [] 0 [] 0 0
 | 0, m, sg, hk, hR => by
  have hd : p.drop m = [] := List.drop_of_length_le (by omega)
  rw [hd] at hR
  have hR' : R = sg := hR
  exact ⟨1, fR 0 _ _ _ _ _ _ _ _ _ _ _ _ _ _ _ _ _ _ _ _ _ _ _ _ (⟨fun h => absurd h (by omega), fun _ => ⟨rfl, rfl, rfl, hR'.symm, rfl, rfl, rfl, rfl, rfl, rfl, rfl⟩⟩)⟩
 | k + 1, m, sg, hk, hR => by
  have hlt : m < p.length := by omega
  obtain ⟨t, ht⟩ : ∃ t, p[m]? = some t := ⟨_, List.getElem?_eq_getElem hlt⟩
  have hbt := cX ht
  have hl := dI p
  rw [bb ht, sgM] at hR
  obtain ⟨M, hM⟩ := tU (tg := tg) hok hb k (m + 1) (sgD (m : Int) t.kids 0 sg) (by omega) hR
  obtain ⟨M', hM'⟩ := tc (p := p) (tg := tg) (t := t) (m := m) (R := R) (by omega) (fun d f hf => hok m t d f ht hf) (by omega) t.kids.length 0 sg (by omega) M (by simpa using hM)
  exact ⟨M' + 1, fR M' _ _ _ _ _ _ _ _ _ _ _ _ _ _ _ _ _ _ _ _ _ _ _ _ (⟨fun _ => ⟨t, ht, hM'⟩, fun h => absurd hlt h⟩)⟩
theorem lh {p : List Tree} (hok : ∀ (m : Nat) (t : Tree) (d : Nat) (f : Tree), p[m]? = some t → t.kids[d]? = some f → FunOk f) (hb : kbulk p ≤ 100000000) : dc p p (cG p) [] (sgM p 0 []) 0 [] [] 0 [] 0 0 := by
 obtain ⟨M, hM⟩ := tU (tg := cG p) (R := sgM p 0 []) hok hb p.length 0 [] (by omega) rfl
 exact kw M _ _ _ _ _ _ _ _ _ _ _ _ (⟨_, tp p hb, hM⟩)
theorem kC (m : Nat) (key : Int × Int) : ∀ (ks : List Tree) (d : Nat) (l : List ((Int × Int) × aa)), mlook key (sgD (m : Int) ks d l) = (if key.1 = (m : Int) ∧ (d : Int) ≤ key.2 ∧ key.2 < ((d + ks.length : Nat) : Int) then (ks[(key.2 - (d : Int)).toNat]?).map iZ else mlook key l)
 | [], d, l => by
  rw [sgD, if_neg]
  rintro ⟨_, h1, h2⟩
  simp only [List.length_nil] at h2
  omega
 | f :: r, d, l => by
  rw [sgD, kC m key r (d + 1) _, nw]
  obtain ⟨k1, k2⟩ := key
  simp only [Prod.mk.injEq]
  by_cases h1 : k1 = (m : Int)
  ·by_cases h2 : k2 = (d : Int)
   ·subst h1 h2
    rw [if_neg (by omega), if_pos ⟨rfl, rfl⟩, if_pos ⟨rfl, by omega, by simp; omega⟩]
    simp
   ·by_cases h3 : (d : Int) < k2 ∧ k2 < ((d + 1 + r.length : Nat) : Int)
    ·rw [if_pos ⟨h1, by omega, h3.2⟩, if_pos ⟨h1, by omega, by simp; omega⟩]
     rw [show (k2 - (d : Int)).toNat = (k2 - ((d + 1 : Nat) : Int)).toNat + 1 by omega]
     rfl
    ·rw [if_neg (fun h => h3 ⟨by omega, h.2.2⟩), if_neg (fun h => h2 h.2), if_neg (fun h => h3 ⟨by omega, by have := h.2.2; simp at this; omega⟩)]
  ·rw [if_neg (fun h => h1 h.1), if_neg (fun h => h1 h.1), if_neg (fun h => h1 h.1)]
theorem pm (key : Int × Int) : ∀ (p : List Tree) (m : Nat) (l : List ((Int × Int) × aa)) (q : aa), mlook key (sgM p m l) = some q → (∃ (i : Nat) (t : Tree) (d : Nat) (f : Tree), p[i]? = some t ∧ t.kids[d]? = some f ∧ key = (((m + i : Nat) : Int), (d : Int)) ∧ q = iZ f) ∨ mlook key l = some q
 | [], m, l, q, h => .inr h
 | t :: r, m, l, q, h => by
  rw [sgM] at h
  rcases pm key r (m + 1) _ q h with ⟨i, t', d, f, h1, h2, h3, h4⟩ | h
  ·exact .inl ⟨i + 1, t', d, f, h1, h2, by rw [h3, show m + 1 + i = m + (i + 1) by omega], h4⟩
  ·rw [kC] at h
   split at h
   ·rename_i hc
    obtain ⟨f, hf, rfl⟩ := Option.map_eq_some_iff.1 h
    obtain ⟨k1, k2⟩ := key
    simp only at hc hf
    exact .inl ⟨0, t, (k2 - ((0 : Nat) : Int)).toNat, f, rfl, hf, by simp only [Prod.mk.injEq]; omega, rfl⟩
   ·exact .inr h
theorem qJ {key : Int × Int} : ∀ (p : List Tree) (m i d : Nat) (l : List ((Int × Int) × aa)) (t f : Tree), p[i]? = some t → t.kids[d]? = some f → key = (((m + i : Nat) : Int), (d : Int)) → mlook key (sgM p m l) = some (iZ f)
 | [], m, i, d, l, t, f, h, _, _ => by simp at h
 | t0 :: r, m, 0, d, l, t, f, h1, h2, h3 => by
  simp only [List.getElem?_cons_zero, Option.some.injEq] at h1
  subst h1
  have hd := (List.getElem?_eq_some_iff.1 h2).1
  rw [sgM]
  have keep : ∀ (r : List Tree) (m' : Nat) (l : List ((Int × Int) × aa)), m < m' → mlook key (sgM r m' l) = mlook key l := fun r => by
   induction r with
   | nil => intros; rfl
   | cons t r ih =>
    intro m' l hm
    rw [sgM, ih (m' + 1) _ (by omega), kC, if_neg]
    rw [h3]; simp only; omega
  rw [keep r (m + 1) _ (by omega), kC, if_pos (by rw [h3]; simp only; omega), h3]
  simp only
  rw [show ((d : Int) - ((0 : Nat) : Int)).toNat = d by omega, h2]; rfl
 | t0 :: r, m, i + 1, d, l, t, f, h1, h2, h3 => by
  rw [sgM]
  exact qJ r (m + 1) i d _ t f (by simpa using h1) h2 (by rw [h3, show m + 1 + i = m + (i + 1) by omega])
theorem tS {f : Tree} {L : Nat} (hb : tbulk f ≤ L) : KOk L (iZ f).result ∧ ∀ q ∈ (iZ f).params, KOk L q := by
 have kd : ∀ (t : Tree) (i : Nat), tbulk (cV t i) ≤ tbulk t := fun t i => by
  by_cases h : i < t.kids.length
  ·have := bg (fU h); omega
  ·have h0 : cV t i = .node 0 [] [] [] := by simp only [cV, List.getD_eq_getElem?_getD, List.getElem?_eq_none (Nat.le_of_not_lt h)]; rfl
   have h1 := cF t
   rw [h0]; simp [tbulk, kbulk, lsum]; omega
 have ok : ∀ t, tbulk t ≤ L → KOk L (knK t) := fun t ht => by
  have := (rH t).2
  exact ⟨by simp [knK], by simp only [knK]; omega⟩
 refine ⟨ok _ (Nat.le_trans (kd f _) hb), fun q hq => ?_⟩
 obtain ⟨k, hk, rfl⟩ := List.mem_map.1 hq
 have hk' := List.mem_of_mem_take hk
 obtain ⟨i, hi⟩ := List.getElem?_of_mem hk'
 have := bg hi
 exact ok _ (by have := kd k 0; omega)
structure ProgOk (p : List Tree) : Prop where
 m : ∀ (m : Nat) (t : Tree), p[m]? = some t → t.kind = 1 ∧ shapeK t = true
 f : ∀ (m : Nat) (t : Tree) (d : Nat) (f : Tree), p[m]? = some t → t.kids[d]? = some f → FunOk f
def cx0 (p : List Tree) (wm : Int) (wp : List Int) : Cx := ⟨p, [], sgM p 0 [], 0, [], wm, wp⟩
def dP (p : List Tree) (wm : Int) (wp : List Int) : Sv := ie (cx0 p wm wp) p 0 ⟨cG p, [], 0, 0⟩
theorem vo {p : List Tree} (hp : ProgOk p) (hb : kbulk p ≤ 10000000) (ht : uNs p ≤ (cG p).length) (wm : Int) (wp : List Int) : ∃ z, cP p (cG p) [] (sgM p 0 []) 0 [] [] wm wp 0 0 p (dP p wm wp).tg [] (sgM p 0 []) z [] (dP p wm wp).fa wm wp (dP p wm wp).rs (dP p wm wp).rl := by
 have hl := dI p
 obtain ⟨M, hM⟩ := tN (x := cx0 p wm wp) (L := kbulk p) (by simp [cx0]; omega) (fun m t d f h1 h2 => by
  have ho := hp.f m t d f h1 h2
  obtain ⟨q1, _⟩ := kZ ho.s ho.k
  have hbt := cX (show p[m]? = some t from h1)
  have hbf := bg h2
  exact ⟨ho.s, ho.k, iZ f, qJ p 0 m d [] t f h1 h2 (by simp), by simp [iZ]; omega, (tS (by omega)).2⟩) (fun k q hq => by
  rcases pm k p 0 [] q hq with ⟨i, t, d, f, h1, h2, _, rfl⟩ | h
  ·have hbt := cX h1
   have hbf := bg h2
   exact (tS (by omega)).1
  ·cases h) p.length 0 0 ⟨cG p, [], 0, 0⟩ (by simp [cx0]) (by simp [cx0]; omega) (by simp [cx0]; omega) (fun m t h => (hp.m m t h).1) (by simpa [cx0] using ht) (by simp [cx0]; omega)
 exact ⟨_, kf M _ _ _ _ _ _ _ _ _ _ _ _ _ _ _ _ _ _ _ _ _ _ (hM)⟩
theorem mY {p : List Tree} (hp : ProgOk p) (hb : kbulk p ≤ 10000000) : dM p true := by
 have hl := dI p
 have loop : ∀ k i, k + i = p.length → dt (k + 1) p i true := fun k => by
  induction k with
  | zero => intro i hi; exact ii 0 _ _ _ (⟨fun h => absurd h (by omega), fun _ => rfl⟩)
  | succ k ih =>
   intro i hi
   obtain ⟨t, ht⟩ : ∃ t, p[i]? = some t := ⟨_, List.getElem?_eq_getElem (by omega)⟩
   obtain ⟨h1, h2⟩ := hp.m i t ht
   have := cX ht
   exact ii (k + 1) _ _ _ (⟨fun _ => ⟨t, ht, fun h => absurd h1 h, fun _ => ⟨_, oQ t (by omega), fun h => (by rw [h2] at h; cases h), fun _ => ⟨by omega, ih (i + 1) (by omega)⟩⟩⟩, fun h => absurd (by omega) h⟩)
 exact lX (p.length + 1) _ _ (loop p.length 0 (by omega))
theorem uv {p : List Tree} (hp : ProgOk p) (hb : kbulk p ≤ 10000000) (ht : uNs p ≤ (cG p).length) {r : List ae} (hs : aR (dP p 0 []).fa r) : bj p r := by
 obtain ⟨z, hz⟩ := vo hp hb ht 0 []
 exact mr 0 _ _ (⟨_, mY hp hb, fun h => (by cases h), fun _ => ⟨_, _, _, _, _, _, _, _, _, _, _, lh hp.f (by omega), _, _, _, _, _, _, _, _, _, _, _, hz, _, hs, rfl⟩⟩)
def ofK (p : List Tree) (m : Int) (q : List Int) : Tree × Int := if (dP p m q).rs = 0 then (.node 0 [] [] [], 20) else (vi (dP p m q).rl.toNat (.node (dP p m q).rs [] [] []), 0)
theorem xp {p : List Tree} (hp : ProgOk p) (hb : kbulk p ≤ 10000000) (ht : uNs p ≤ (cG p).length) {m : Nat} {q : List Int} {t u : Tree} (hm : p[m]? = some t) (hat : jq t q u true) (hu : dL u.kind = true) (hz : (dP p m q).rl = 0) : hZ p ⟨(m : Int), q⟩ (ofK p m q).1 (ofK p m q).2 := by
 obtain ⟨z, hz'⟩ := vo hp hb ht m q
 have hk : 10 ≤ u.kind ∧ u.kind ≤ 22 ∧ u.kind ≠ 17 := by simpa [dL] using hu
 have hlt : m < p.length := (List.getElem?_eq_some_iff.1 hm).1
 refine oR 2 _ _ _ _ (⟨_, mY hp hb, fun h => (by cases h), fun _ => ⟨fun h => absurd h (by simp), fun _ => ⟨fun h => absurd h (by simp only; omega), fun _ => ⟨m, rfl, t, hm, u, true, hat, ?_⟩⟩⟩⟩)
 refine oy 1 _ _ _ _ _ _ (⟨fun h => (by cases h), fun _ => ⟨fun h => absurd h (by omega), fun _ => ⟨fun h => absurd h (by omega), fun _ => ⟨fun h => absurd h hk.2.2, fun _ => ⟨_, _, _, _, _, _, _, _, _, _, _, lh hp.f (by omega), _, _, _, _, _, _, _, _, _, _, _, hz', fun h => ?_, fun h => ?_⟩⟩⟩⟩⟩)
 ·unfold ofK; rw [if_pos h]; exact ⟨rfl, rfl⟩
 ·unfold ofK; rw [if_neg h, hz]
  exact oA 0 _ _ _ _ _ _ (⟨fun h => absurd h (by simp), fun _ => ⟨rfl, rfl⟩⟩)
def gw (r0 : Bool) : Prop := qS 6 [] (.bool r0)
def mF (p0 : List UInt8) (r0 : Tree) (r1 r2 : Int) : Prop := qS 14 [.str p0] (.tup [.agg (aq r0), .int .i64 r1, .int .i64 r2])
def fO (r0 : Bool) : Prop := qS 6 [] (.bool r0)
def cu (p0 : Int) (p1 : Tree) (r0 : List Tree) : Prop := qS 10 [.int .i64 p0, .agg (aq p1)] (.row 4 (kidsV r0))
def dZ (p0 : Int) (r0 : Bool) : Prop := qS 4 [.int .i64 p0] (.bool r0)
def fH (p0 p1 r0 : Int) : Prop := qS 7 [.int .i64 p0, .int .i64 p1] (.int .i64 r0)
theorem jT (m : Nat) (r0 : Bool) (h : ∃ b o g, mF [109, 111, 100, 117, 108, 101, 32, 77, 32, 100, 101, 102, 32, 102, 40, 41, 58, 32, 73, 110, 116, 32, 61, 32, 49, 32, 43, 32, 34, 97, 34, 32, 100, 101, 102, 32, 103, 40, 120, 58, 32, 66, 111, 111, 108, 41, 58, 32, 73, 110, 116, 32, 61, 32, 105, 102, 32, 120, 32, 116, 104, 101, 110, 32, 49, 32, 101, 108, 115, 101, 32, 103, 40, 41] b o g ∧ ∃ a, bj [b] a ∧ ∃ i j, hZ [b] (GPlace.mk 0 [0, 1]) i j ∧ ((g = 0) → ((j = 0) → ((i.kind = 5) → (((a.length : Int) = 2) → ∃ k, a[0]? = some k ∧ ((k.Kind = 6) → ∃ n, a[0]? = some n ∧ ∃ l, cj n.At.Path [0, 1, 1] l ∧ ((l = true) → ∃ c, a[1]? = some c ∧ ((c.Kind = 3) → ∃ d, a[1]? = some d ∧ ∃ e, cj d.At.Path [1, 2, 2] e ∧ e = r0) ∧ ((c.Kind ≠ 3) → false = r0)) ∧ ((l = false) → false = r0)) ∧ ((k.Kind ≠ 6) → false = r0)) ∧ (((a.length : Int) ≠ 2) → false = r0)) ∧ ((i.kind ≠ 5) → false = r0)) ∧ ((j ≠ 0) → false = r0)) ∧ ((g ≠ 0) → false = r0)) : fO r0 := by
 refine ⟨rfl, rfl, ?_⟩
 refine am 71 [] Tryz.func6 rfl rfl rfl (aA rfl) fun K hK => ?_
 refine gR 7 rfl ?_
 obtain ⟨b, o, g, hs7, h⟩ := h
 refine gC0 hs7 (by kernel_rfl) rfl rfl .rfl rfl <| gR 14 rfl <| gHR 1 (kidsV [b]) rfl (nJ b) rfl <| gFR 1 rfl (hO _) rfl rfl ?_
 obtain ⟨a, hs8, h⟩ := h
 refine gC hs8 [] (by kernel_rfl) rfl rfl .rfl trivial rfl ?_
 rintro _ _ ⟨rfl, rfl⟩
 refine gHR 2 (List.map ae.w a) rfl (vF _ a) rfl <| gR 7 rfl <| gHR 3 (kidsV [b]) rfl (nJ b) rfl <| gR 2 rfl <| gFR 3 rfl (hO _) rfl rfl <| gFR 4 rfl rfl rfl rfl ?_
 obtain ⟨i, j, hs9, h⟩ := h
 refine gC0 hs9 (by kernel_rfl) rfl rfl .rfl rfl <| gR 13 rfl <| qBeZ 25 24 rfl rfl rfl rfl h (fun h => ?_) fun h => ?_
 refine gR 4 rfl <| qBeZ 29 28 rfl rfl rfl rfl h (fun h => ?_) fun h => ?_
 refine gR 5 rfl <| qBeZ 34 33 rfl rfl rfl rfl h (fun h => ?_) fun h => ?_
 refine gR 2 rfl <| gV 36 (.int .i64 (a.length : Int)) rfl (aM (aJ ae.w _)) rfl <| gLO 2 rfl (aJ ae.w _) fun hl10 => gR 3 rfl <| qBeZ 39 38 rfl rfl rfl rfl h (fun h => ?_) fun h => ?_
 refine gR 1 rfl ?_
 obtain ⟨k, hxx0_7, h⟩ := h
 refine gY (yIO ah rfl rfl rfl rfl (by have := (mapget (f := ae.w) hxx0_7); exact (List.getElem?_eq_some_iff.1 this).1)) rfl rfl ?_
 refine gR 1 rfl <| gDo (.nop) (dLe ah rfl rfl rfl (mapget (f := ae.w) hxx0_7) rfl) trivial rfl rfl rfl <| gR 3 rfl <| qBeZ 46 45 rfl rfl rfl rfl h (fun h => ?_) fun h => ?_
 refine gR 1 rfl ?_
 obtain ⟨n, hxx0_8, h⟩ := h
 refine gY (yIO ah rfl rfl rfl rfl (by have := (mapget (f := ae.w) hxx0_8); exact (List.getElem?_eq_some_iff.1 this).1)) rfl rfl ?_
 refine gR 2 rfl <| gDo (.nop) (dLe ah rfl rfl rfl (mapget (f := ae.w) hxx0_8) rfl) trivial rfl rfl rfl <| gR 1 rfl <| gFR 6 rfl rfl rfl rfl ?_
 obtain ⟨l, hs11, h⟩ := h
 refine gC0 hs11 (by kernel_rfl) rfl rfl .rfl rfl <| gR 2 rfl <| qBiZ 55 54 rfl rfl rfl rfl h (fun h => ?_) fun h => ?_
 refine gR 1 rfl ?_
 obtain ⟨c, hxx0_10, h⟩ := h
 refine gY (yIO ah rfl rfl rfl rfl (by have := (mapget (f := ae.w) hxx0_10); exact (List.getElem?_eq_some_iff.1 this).1)) rfl rfl ?_
 refine gR 1 rfl <| gDo (.nop) (dLe ah rfl rfl rfl (mapget (f := ae.w) hxx0_10) rfl) trivial rfl rfl rfl <| gR 3 rfl <| qBeZ 62 61 rfl rfl rfl rfl h (fun h => ?_) fun h => ?_
 refine gR 1 rfl ?_
 obtain ⟨d, hxx0_11, h⟩ := h
 refine gY (yIO ah rfl rfl rfl rfl (by have := (mapget (f := ae.w) hxx0_11); exact (List.getElem?_eq_some_iff.1 this).1)) rfl rfl ?_
 refine gR 2 rfl <| gDo (.nop) (dLe ah rfl rfl rfl (mapget (f := ae.w) hxx0_11) rfl) trivial rfl rfl rfl <| gR 1 rfl <| gFR 7 rfl rfl rfl rfl ?_
 obtain ⟨e, hs12, h⟩ := h
 refine gC0 hs12 (by kernel_rfl) rfl rfl .rfl rfl <| gR 5 rfl ?_
 subst h
 exact go_end ah (rs := [.tmp 0]) rfl rfl rfl
 refine gR 12 rfl ?_
 subst h
 exact go_end ah (rs := [.tmp 0]) rfl rfl rfl
 refine gR 19 rfl ?_
 subst h
 exact go_end ah (rs := [.tmp 0]) rfl rfl rfl
 refine gR 28 rfl ?_
 subst h
 exact go_end ah (rs := [.tmp 0]) rfl rfl rfl
 refine gR 35 rfl ?_
 subst h
 exact go_end ah (rs := [.tmp 0]) rfl rfl rfl
 refine gR 40 rfl ?_
 subst h
 exact go_end ah (rs := [.tmp 0]) rfl rfl rfl
 refine gR 45 rfl ?_
 subst h
 exact go_end ah (rs := [.tmp 0]) rfl rfl rfl
 refine gR 49 rfl ?_
 subst h
 exact go_end ah (rs := [.tmp 0]) rfl rfl rfl
theorem jQ (m : Nat) (p0 : Int) (p1 : Tree) (r0 : List Tree) (h : [(Tree.node 1 [77] [] [(Tree.node 2 [102] [] [(Tree.node 4 [120] [] [(Tree.node 5 [] [] [])]), (Tree.node 5 [] [] []), (Tree.node 12 [120] [] [])]), (Tree.node 2 [103] [] [(Tree.node 4 [120] [] [(Tree.node 5 [] [] [])]), (Tree.node p0 [] [] []), p1])])] = r0) : cu p0 p1 r0 := by
 refine ⟨rfl, rfl, ?_⟩
 refine am 27 [] Tryz.func10 rfl rfl rfl (aA rfl) fun K hK => ?_
 refine gR 3 rfl <| gFP 0 rfl rfl rfl rfl <| gR 6 rfl <| gS 7 (.agg [.int .i64 5, .str [], .row 1 [], .row 4 (kidsV [])]) rfl (.agg (.cons .rfl (.cons .rfl (.cons (.nil 1) (.cons (.nil 4) .nil))))) rfl <| gR 1 rfl <| gHR 1 (kidsV [(Tree.node 5 [] [] [])]) rfl (nJ (Tree.node 5 [] [] [])) rfl <| gR 3 rfl <| gFR 1 rfl (hO _) rfl rfl <| gS 9 (.agg [.int .i64 4, .str [120], .row 1 [], .row 4 (kidsV [(Tree.node 5 [] [] [])])]) rfl (.agg (.cons .rfl (.cons .rfl (.cons (.nil 1) (.cons .rfl .nil))))) rfl <| gS 10 (.agg [.int .i64 5, .str [], .row 1 [], .row 4 (kidsV [])]) rfl (.agg (.cons .rfl (.cons .rfl (.cons (.nil 1) (.cons (.nil 4) .nil))))) rfl <| gS 11 (.agg [.int .i64 12, .str [120], .row 1 [], .row 4 (kidsV [])]) rfl (.agg (.cons .rfl (.cons .rfl (.cons (.nil 1) (.cons (.nil 4) .nil))))) rfl ?_
 refine gR 1 rfl <| gHR 2 (kidsV [(Tree.node 4 [120] [] [(Tree.node 5 [] [] [])]), (Tree.node 5 [] [] []), (Tree.node 12 [120] [] [])]) rfl (uZ [(Tree.node 4 [120] [] [(Tree.node 5 [] [] [])]), (Tree.node 5 [] [] []), (Tree.node 12 [120] [] [])]) rfl <| gR 8 rfl <| gS 14 (.agg [.int .i64 5, .str [], .row 1 [], .row 4 (kidsV [])]) rfl (.agg (.cons .rfl (.cons .rfl (.cons (.nil 1) (.cons (.nil 4) .nil))))) rfl <| gR 1 rfl <| gHR 4 (kidsV [(Tree.node 5 [] [] [])]) rfl (nJ (Tree.node 5 [] [] [])) rfl <| gR 4 rfl <| gFR 4 rfl (hO _) rfl rfl <| gS 16 (.agg [.int .i64 4, .str [120], .row 1 [], .row 4 (kidsV [(Tree.node 5 [] [] [])])]) rfl (.agg (.cons .rfl (.cons .rfl (.cons (.nil 1) (.cons .rfl .nil))))) rfl ?_
 refine gS 18 (.agg [.int .i64 p0, .str [], .row 1 [], .row 4 (kidsV [])]) rfl (.agg (.cons .rfl (.cons .rfl (.cons (.nil 1) (.cons (.nil 4) .nil))))) rfl <| gR 1 rfl <| gHR 5 (kidsV [(Tree.node 4 [120] [] [(Tree.node 5 [] [] [])]), (Tree.node p0 [] [] []), p1]) rfl (uZ [(Tree.node 4 [120] [] [(Tree.node 5 [] [] [])]), (Tree.node p0 [] [] []), p1]) rfl <| gR 9 rfl <| gFR 2 rfl (hO _) rfl rfl <| gS 22 (.agg [.int .i64 2, .str [102], .row 1 [], .row 4 (kidsV [(Tree.node 4 [120] [] [(Tree.node 5 [] [] [])]), (Tree.node 5 [] [] []), (Tree.node 12 [120] [] [])])]) rfl (.agg (.cons .rfl (.cons .rfl (.cons (.nil 1) (.cons .rfl .nil))))) rfl <| gFR 5 rfl (hO _) rfl rfl <| gS 23 (.agg [.int .i64 2, .str [103], .row 1 [], .row 4 (kidsV [(Tree.node 4 [120] [] [(Tree.node 5 [] [] [])]), (Tree.node p0 [] [] []), p1])]) rfl (.agg (.cons .rfl (.cons .rfl (.cons (.nil 1) (.cons .rfl .nil))))) rfl ?_
 refine gR 1 rfl <| gHR 7 (kidsV [(Tree.node 2 [102] [] [(Tree.node 4 [120] [] [(Tree.node 5 [] [] [])]), (Tree.node 5 [] [] []), (Tree.node 12 [120] [] [])]), (Tree.node 2 [103] [] [(Tree.node 4 [120] [] [(Tree.node 5 [] [] [])]), (Tree.node p0 [] [] []), p1])]) rfl (uZ [(Tree.node 2 [102] [] [(Tree.node 4 [120] [] [(Tree.node 5 [] [] [])]), (Tree.node 5 [] [] []), (Tree.node 12 [120] [] [])]), (Tree.node 2 [103] [] [(Tree.node 4 [120] [] [(Tree.node 5 [] [] [])]), (Tree.node p0 [] [] []), p1])]) rfl <| gR 1 rfl <| gFR 7 rfl (hO _) rfl rfl <| gS 25 (.agg [.int .i64 1, .str [77], .row 1 [], .row 4 (kidsV [(Tree.node 2 [102] [] [(Tree.node 4 [120] [] [(Tree.node 5 [] [] [])]), (Tree.node 5 [] [] []), (Tree.node 12 [120] [] [])]), (Tree.node 2 [103] [] [(Tree.node 4 [120] [] [(Tree.node 5 [] [] [])]), (Tree.node p0 [] [] []), p1])])]) rfl (.agg (.cons .rfl (.cons .rfl (.cons (.nil 1) (.cons .rfl .nil))))) rfl ?_
 refine gR 1 rfl <| gHR 8 (kidsV [(Tree.node 1 [77] [] [(Tree.node 2 [102] [] [(Tree.node 4 [120] [] [(Tree.node 5 [] [] [])]), (Tree.node 5 [] [] []), (Tree.node 12 [120] [] [])]), (Tree.node 2 [103] [] [(Tree.node 4 [120] [] [(Tree.node 5 [] [] [])]), (Tree.node p0 [] [] []), p1])])]) rfl (nJ (Tree.node 1 [77] [] [(Tree.node 2 [102] [] [(Tree.node 4 [120] [] [(Tree.node 5 [] [] [])]), (Tree.node 5 [] [] []), (Tree.node 12 [120] [] [])]), (Tree.node 2 [103] [] [(Tree.node 4 [120] [] [(Tree.node 5 [] [] [])]), (Tree.node p0 [] [] []), p1])])) rfl <| gR 4 rfl <| gFR 8 rfl (hO _) rfl rfl ?_
 subst h
 exact go_end ah (rs := [.tmp 4]) rfl rfl rfl
theorem ix (m : Nat) (p0 : Int) (r0 : Bool) (h : ∃ c, fH p0 3 c ∧ InI (5 + c) ∧ ∃ d, cu (5 + c) (Tree.node 15 [] [] []) d ∧ ∃ i, cu (5 + c) (Tree.node 16 [110, 111, 116, 104, 105, 110, 103] [] []) i ∧ ∃ k e, hZ d (GPlace.mk 0 [1, 2]) k e ∧ ∃ a, bj i a ∧ ∃ g, gw g ∧ ((g = true) → ((e = 20) → ∃ b, bj d b ∧ (((b.length : Int) = 0) → (((a.length : Int) = 1) → ∃ j, a[0]? = some j ∧ (j.Kind == 1) = r0) ∧ (((a.length : Int) ≠ 1) → false = r0)) ∧ (((b.length : Int) ≠ 0) → false = r0)) ∧ ((e ≠ 20) → false = r0)) ∧ ((g = false) → false = r0)) : dZ p0 r0 := by
 refine ⟨rfl, rfl, ?_⟩
 refine am 49 [] Tryz.func4 rfl rfl rfl (aA rfl) fun K hK => ?_
 refine gR 8 rfl ?_
 obtain ⟨c, hs10, h⟩ := h
 refine gC0 hs10 (by kernel_rfl) rfl rfl .rfl rfl ?_
 obtain ⟨hb, h⟩ := h
 refine gR 1 rfl <| gV 10 (.int .i64 (5 + c)) rfl (ax hb rfl) rfl <| gR 7 rfl ?_
 obtain ⟨d, hs11, h⟩ := h
 refine gC0 hs11 (by kernel_rfl) rfl rfl (.cons .rfl (.cons (.agg (.cons .rfl (.cons .rfl (.cons (.nil 1) (.cons (.nil 4) .nil))))) .nil)) rfl <| gR 7 rfl ?_
 obtain ⟨i, hs12, h⟩ := h
 refine gC0 hs12 (by kernel_rfl) rfl rfl (.cons .rfl (.cons (.agg (.cons .rfl (.cons .rfl (.cons (.nil 1) (.cons (.nil 4) .nil))))) .nil)) rfl <| gR 8 rfl <| gFR 0 rfl rfl rfl rfl ?_
 obtain ⟨k, e, hs13, h⟩ := h
 refine gC0 hs13 (by kernel_rfl) rfl rfl .rfl rfl <| gR 11 rfl ?_
 obtain ⟨a, hs14, h⟩ := h
 refine gC hs14 [] (by kernel_rfl) rfl rfl .rfl trivial rfl ?_
 rintro _ _ ⟨rfl, rfl⟩
 refine gHR 2 (List.map ae.w a) rfl (vF _ a) rfl <| gR 5 rfl ?_
 obtain ⟨g, hs15, h⟩ := h
 refine gC0 hs15 (by kernel_rfl) rfl rfl .rfl rfl <| gR 1 rfl <| qBiZ 27 26 rfl rfl rfl rfl h (fun h => ?_) fun h => ?_
 refine gR 4 rfl <| qBeZ 31 30 rfl rfl rfl rfl h (fun h => ?_) fun h => ?_
 refine gR 1 rfl ?_
 obtain ⟨b, hs16, h⟩ := h
 refine gC hs16 [] (by kernel_rfl) rfl rfl .rfl trivial rfl ?_
 rintro _ _ ⟨rfl, rfl⟩
 refine gHR 3 (List.map ae.w b) rfl (vF _ b) rfl <| gR 1 rfl <| gV 34 (.int .i64 (b.length : Int)) rfl (aM (aJ ae.w _)) rfl <| gLO 3 rfl (aJ ae.w _) fun hl17 => gR 3 rfl <| qBeZ 37 36 rfl rfl rfl rfl h (fun h => ?_) fun h => ?_
 refine gR 2 rfl <| gV 39 (.int .i64 (a.length : Int)) rfl (aM (aJ ae.w _)) rfl <| gLO 2 rfl (aJ ae.w _) fun hl18 => gR 3 rfl <| qBeZ 42 41 rfl rfl rfl rfl h (fun h => ?_) fun h => ?_
 refine gR 1 rfl ?_
 obtain ⟨j, hxx0_9, h⟩ := h
 refine gY (yIO ah rfl rfl rfl rfl (by have := (mapget (f := ae.w) hxx0_9); exact (List.getElem?_eq_some_iff.1 this).1)) rfl rfl ?_
 refine gR 1 rfl <| gDo (.nop) (dLe ah rfl rfl rfl (mapget (f := ae.w) hxx0_9) rfl) trivial rfl rfl rfl <| gR 6 rfl ?_
 subst h
 exact go_end ah (rs := [.tmp 2]) rfl rfl rfl
 refine gR 10 rfl ?_
 subst h
 exact go_end ah (rs := [.tmp 2]) rfl rfl rfl
 refine gR 15 rfl ?_
 subst h
 exact go_end ah (rs := [.tmp 2]) rfl rfl rfl
 refine gR 21 rfl ?_
 subst h
 exact go_end ah (rs := [.tmp 2]) rfl rfl rfl
 refine gR 25 rfl ?_
 subst h
 exact go_end ah (rs := [.tmp 2]) rfl rfl rfl
theorem iA (m : Nat) (p0 p1 r0 : Int) (h : p1 ≠ 0 ∧ (((Int.tmod p0 p1) < 0) → InI ((Int.tmod p0 p1) + p1) ∧ ((Int.tmod p0 p1) + p1) = r0) ∧ ((¬ (Int.tmod p0 p1) < 0) → (Int.tmod p0 p1) = r0)) : fH p0 p1 r0 := by
 refine ⟨rfl, rfl, ?_⟩
 refine am 14 [] Tryz.func7 rfl rfl rfl (aA rfl) fun K hK => ?_
 refine gR 9 rfl ?_
 obtain ⟨hb, h⟩ := h
 refine gY (zo rfl rfl hb) rfl rfl <| gR 10 rfl <| qBd 9 rfl rfl rfl h (fun h => ?_) fun h => ?_
 refine gR 4 rfl ?_
 obtain ⟨hb, h⟩ := h
 refine gR 1 rfl <| gV 12 (.int .i64 ((Int.tmod p0 p1) + p1)) rfl (ax hb rfl) rfl <| gR 10 rfl ?_
 subst h
 exact go_end ah (rs := [.tmp 4]) rfl rfl rfl
 refine gR 10 rfl ?_
 subst h
 exact go_end ah (rs := [.tmp 4]) rfl rfl rfl
open Go.RowKit
def bM (R : List Nat) (l : List (Nat × Ob)) : List (Nat × Ob) := l.filter fun p => dN p.1 R
def ung : Ob → Ob
 | .free => .gone
 | o => o
def cf (nx : Nat) (R : List Nat) (l : List (Nat × Ob)) : List (Nat × Ob) := (l.filter fun p => !dN p.1 R && Nat.blt p.1 nx).map fun p => (p.1, ung p.2)
theorem kp {α : Type} {R : List Nat} : ∀ (l : List (Nat × Ob)) (c : List (Nat × Ob) → α), lN R l c = c (bM R l)
 | [], c => rfl
 | (i, o) :: r, c => by
  simp only [lN]
  cases h : dN i R
  ·simp only; rw [kp r]; simp [bM, h]
  ·simp only; rw [kp r]; simp [bM, h]
theorem kx {α : Type} {nx : Nat} {R : List Nat} : ∀ (l : List (Nat × Ob)) (c : List (Nat × Ob) → α), kq nx R l c = c (cf nx R l)
 | [], c => rfl
 | (i, o) :: r, c => by
  simp only [kq]
  cases h : (!dN i R && Nat.blt i nx)
  ·simp only; rw [kx r]; simp only [cf, List.filter_cons, h]; rfl
  ·cases o <;> (simp only; rw [kx r]; simp only [cf, List.filter_cons, h]; rfl)
theorem jt {R : List Nat} {i : Nat} : ∀ {l : List (Nat × Ob)}, al (bM R l) i = al l i ∨ (dN i R = false ∧ al (bM R l) i = .gone)
 | [] => .inl rfl
 | (j, o) :: r => by
  by_cases hj : j = i
  ·subst hj
   cases h : dN j R
   ·right
    refine ⟨rfl, ?_⟩
    have ih := jt (R := R) (i := j) (l := r)
    simp only [bM, List.filter_cons, h] at ih ⊢
    simp only [Bool.false_eq_true, if_false]
    clear ih
    have key : ∀ (l : List (Nat × Ob)), al (l.filter fun p => dN p.1 R) j = .gone := by
     intro l
     induction l with
     | nil => rfl
     | cons q t ih =>
      obtain ⟨k, o'⟩ := q
      simp only [List.filter_cons]
      split
      ·rename_i hk
       have : k ≠ j := fun e => by subst e; simp [h] at hk
       simp only [al, nbF this]; exact ih
      ·exact ih
    exact key r
   ·left
    simp only [bM, List.filter_cons, h, if_true, al, nbT]
  ·have ih := jt (R := R) (i := i) (l := r)
   simp only [bM, List.filter_cons]
   split
   ·simp only [al, nbF hj]; exact ih
   ·simp only [al, nbF hj]; exact ih
theorem ou {R : List Nat} {i : Nat} (h : dN i R = false) (l : List (Nat × Ob)) : al (bM R l) i = .gone := by
 induction l with
 | nil => rfl
 | cons q t ih =>
  obtain ⟨k, o'⟩ := q
  simp only [bM, List.filter_cons]
  split
  ·rename_i hk
   have : k ≠ i := fun e => by subst e; simp [h] at hk
   simp only [al, nbF this]; exact ih
  ·exact ih
theorem tL {nx : Nat} {R : List Nat} {i : Nat} (l : List (Nat × Ob)) : al (cf nx R l) i = if (!dN i R && Nat.blt i nx) = true then ung (al l i) else .gone := by
 induction l with
 | nil => simp [cf, al, ung]
 | cons q t ih =>
  obtain ⟨k, o⟩ := q
  by_cases hk : k = i
  ·subst hk
   cases h : (!dN k R && Nat.blt k nx)
   ·rw [h] at ih
    simp only [cf, List.filter_cons, h, Bool.false_eq_true, if_false] at ih ⊢
    exact ih
   ·simp only [cf, List.filter_cons, h, if_true, List.map_cons, al, nbT]
  ·have e : al ((k, o) :: t) i = al t i := by simp only [al, nbF hk]
   rw [e, ← ih]
   simp only [cf, List.filter_cons]
   split
   ·simp only [List.map_cons, al, nbF hk]
   ·rfl
section
variable {P : Program} {T : Tab} {K : Ctx} {Q : Exit → Act → World → Prop} {s : List EI} {n : Nat} {F : Fm} {H : Hp}
theorem rh (lo : Nat) (H : Hp) (v : V) : ∃ v' H', (∀ (α : Type) (c : V → Hp → α), sx lo H v c = c v' H') ∧ H'.nx = H.nx ∧ (∀ K S w ρ x, HRel S w ρ H.get → Inv K S w ρ H.get → VRel S w ρ v x → ∃ S', HRel S' w ρ H'.get ∧ Inv K S' w ρ H'.get ∧ Up S S' w w ρ ρ ∧ VRel S' w ρ v' x) := by
 have triv : ∃ v' H', (∀ (α : Type) (c : V → Hp → α), c v H = c v' H') ∧ H'.nx = H.nx ∧ (∀ K S w ρ x, HRel S w ρ H.get → Inv K S w ρ H.get → VRel S w ρ v x → ∃ S', HRel S' w ρ H'.get ∧ Inv K S' w ρ H'.get ∧ Up S S' w w ρ ρ ∧ VRel S' w ρ v' x) := ⟨v, H, fun _ _ => rfl, rfl, fun K S w ρ x h1 h2 h3 => ⟨S, h1, h2, Up.refl, h3⟩⟩
 cases v with
 | sl id =>
  simp only [sx]
  split
  ·split
   ·rename_i e sz els ho
    split
    ·rename_i hpu
     refine ⟨.row sz els, ⟨H.nx, hI id H.es⟩, fun α c => by rw [lz], rfl, fun K S w ρ x hr hi hx => ?_⟩
     have hg : (⟨H.nx, hI id H.es⟩ : Hp).get = aN H.get id .gone := by
      funext i
      unfold Hp.get
      by_cases hii : i = id
      ·subst hii
       rw [aL]
       simp only []
       have hlt : Nat.blt i H.nx = true := by
        unfold Hp.get at ho
        split at ho
        ·assumption
        ·cases ho
       rw [hlt]
       simp only [gH, if_true]
      ·rw [aZ _ _ hii]
       simp only [gH, if_neg hii]
     refine ⟨_, by rw [hg]; exact (bY hr).1, by rw [hg]; exact hi.frz hr id, (bY hr).2, iE hr ho hpu hx⟩
    ·exact triv
   ·exact triv
  ·exact triv
 | _ => exact triv
theorem qZ (lo : Nat) : ∀ (vs : List V) (H : Hp), ∃ vs' H', (∀ (α : Type) (c : List V → Hp → α), sm lo H vs c = c vs' H') ∧ H'.nx = H.nx ∧ (∀ K S w ρ xs, HRel S w ρ H.get → Inv K S w ρ H.get → LRel S w ρ vs xs → ∃ S', HRel S' w ρ H'.get ∧ Inv K S' w ρ H'.get ∧ Up S S' w w ρ ρ ∧ LRel S' w ρ vs' xs)
 | [], H => ⟨[], H, fun _ _ => rfl, rfl, fun K S w ρ x h1 h2 h3 => ⟨S, h1, h2, Up.refl, h3⟩⟩
 | v :: r, H => by
  obtain ⟨v', H1, e1, n1, k1⟩ := rh lo H v
  obtain ⟨r', H2, e2, n2, k2⟩ := qZ lo r H1
  refine ⟨v' :: r', H2, fun α c => by simp only [sm, e1, e2], n2.trans n1, fun K S w ρ xs hr hi hx => ?_⟩
  simp only [LRel] at hx
  obtain ⟨x, ys, rfl, h1, h2⟩ := hx
  obtain ⟨S1, a1, a2, a3, a4⟩ := k1 K S w ρ x hr hi h1
  obtain ⟨S2, b1, b2, b3, b4⟩ := k2 K S1 w ρ ys a1 a2 (h2.up a3)
  exact ⟨S2, b1, b2, ⟨fun b hb => b3.s b (a3.s b hb), fun _ _ _ => rfl, fun _ _ h => h⟩, x, ys, rfl, a4.up b3, b4⟩
theorem wC (lo : Nat) (H : Hp) (v : V) : ∃ v' H', (∀ (α : Type) (c : V → Hp → α), ve lo H v c = c v' H') ∧ H'.nx = H.nx ∧ (∀ K S w ρ x, HRel S w ρ H.get → Inv K S w ρ H.get → VRel S w ρ v x → ∃ S', HRel S' w ρ H'.get ∧ Inv K S' w ρ H'.get ∧ Up S S' w w ρ ρ ∧ VRel S' w ρ v' x) := by
 have h0 := rh lo H v
 cases v
 case agg cs =>
  obtain ⟨vs', H', e, hn, k⟩ := qZ lo cs H
  refine ⟨.agg vs', H', fun α c => by simp only [ve, e], hn, fun K S w ρ x hr hi hx => ?_⟩
  simp only [VRel] at hx
  obtain ⟨xs, rfl, h1⟩ := hx
  obtain ⟨S', a1, a2, a3, a4⟩ := k K S w ρ xs hr hi h1
  exact ⟨S', a1, a2, a3, by simp only [VRel]; exact ⟨xs, rfl, a4⟩⟩
 all_goals exact h0
theorem nB (lo : Nat) : ∀ (vs : List V) (H : Hp), ∃ vs' H', (∀ (α : Type) (c : List V → Hp → α), oV lo H vs c = c vs' H') ∧ H'.nx = H.nx ∧ (∀ K S w ρ xs, HRel S w ρ H.get → Inv K S w ρ H.get → LRel S w ρ vs xs → ∃ S', HRel S' w ρ H'.get ∧ Inv K S' w ρ H'.get ∧ Up S S' w w ρ ρ ∧ LRel S' w ρ vs' xs)
 | [], H => ⟨[], H, fun _ _ => rfl, rfl, fun K S w ρ x h1 h2 h3 => ⟨S, h1, h2, Up.refl, h3⟩⟩
 | v :: r, H => by
  obtain ⟨v', H1, e1, n1, k1⟩ := wC lo H v
  obtain ⟨r', H2, e2, n2, k2⟩ := nB lo r H1
  refine ⟨v' :: r', H2, fun α c => by simp only [oV, e1, e2], n2.trans n1, fun K S w ρ xs hr hi hx => ?_⟩
  simp only [LRel] at hx
  obtain ⟨x, ys, rfl, h1, h2⟩ := hx
  obtain ⟨S1, a1, a2, a3, a4⟩ := k1 K S w ρ x hr hi h1
  obtain ⟨S2, b1, b2, b3, b4⟩ := k2 K S1 w ρ ys a1 a2 (h2.up a3)
  exact ⟨S2, b1, b2, ⟨fun b hb => b3.s b (a3.s b hb), fun _ _ _ => rfl, fun _ _ h => h⟩, x, ys, rfl, a4.up b3, b4⟩
variable {all : Array Oper} {rest : List Oper} {o : Oper} {u : V} {H' : Hp}
theorem xu {ok : Bool} (hw : aE F all o.guard = some true) (hx : iF P K o [] ok n F H u H') (k : Go P K Q (.ops all rest) s n (F.seto o.dst (some u)) H') : Go P K Q (.ops all (o :: rest)) s n F H := fun S w ρ a hr hi hF => by
 show wpList P all (bB P Q s) (o :: rest) a w
 unfold wpList
 rw [if_pos (aX hF hw)]
 exact .inl (hx S w ρ a hr hi hF _ _ fun x S' w' ρ' hr' hi' hu _ _ hv => k S' w' ρ' _ hr' hi' (bh (hF.up hu) o.dst hv))
variable {L : List Nat} {m left i : Nat} {listed : Array Bool}
theorem wK (hrd : Region.ready .any all listed = [i]) (hi : all[i]? = some o) (hw : aE F all o.guard = some true) (hx : iF P K o L ((listed.setIfInBounds i true).getD m false) n F H u H') (k : Go P K Q (.drw all L m left (listed.setIfInBounds i true)) s n (F.seto o.dst (some u)) H') : Go P K Q (.drw all L m (left + 1) listed) s n F H := fun S w ρ a hr hiv hF hs => by
 refine fS (S := S) hrd ?_
 unfold wpOp
 simp only [hi]
 rw [if_pos (aX hF hw)]
 exact .inl (hx S w ρ a hr hiv hF _ _ fun x S' w' ρ' hr' hi' hu hA hL hv => fq hu hA hL (k S' w' ρ' _ hr' hi' (bh (hF.up hu) o.dst hv) hs))
def dY (P : Program) (K : Ctx) (Q : Exit → Act → World → Prop) (n : Nat) : Rs → Prop
 | .ok e F H => ∀ S w ρ a, HRel S w ρ H.get → Inv K S w ρ H.get → FRel S w ρ a n F → Q (match e with | true => .ret | false => .normal) a w
 | .pt p s F H => Go P K Q p s n F H
 | .er _ _ => False
variable {ih : EP → List EI → Fm → Hp → Rs}
theorem qK {S : Nat → Prop} {w : World} {ρ : Nat → Option Value} {x : Value} : ∀ {rs : List V}, VRel S w ρ (eu rs) x → ∃ ys, LRel S w ρ rs ys ∧ x = ld ys
 | [], hvx => by simp only [eu, VRel] at hvx; obtain ⟨ys, rfl, h1⟩ := hvx; exact ⟨ys, h1, by simp only [LRel] at h1; subst h1; rfl⟩
 | [v], hvx => ⟨[x], ⟨x, [], rfl, hvx, rfl⟩, rfl⟩
 | v :: u :: r, hvx => by
  simp only [eu, VRel] at hvx; obtain ⟨ys, rfl, h1⟩ := hvx
  refine ⟨ys, h1, ?_⟩
  simp only [LRel] at h1
  obtain ⟨_, _, rfl, _, _, _, rfl, _⟩ := h1
  rfl
theorem va (hT : TabOk P T) (IH : ∀ p s F H K Q n, dY P K Q n (ih p s F H) → Go P K Q p s n F H) {X : Rs → Prop} (hX : ∀ n m, ¬ X (.er n m)) {keep ok : Bool} {vs : List V} {fid : FuncId} {fn : Func} {b : Code} {c : V → Hp → Rs} (hf : P.funcs[fid]? = some fn) (hb : fn.body = some b) (hl : Nat.ble vs.length fn.ntmps = true)
  (h : X (rK T ih keep vs fn b H L ok c)) : ∃ u H' L', (L' = L ∨ ok = true) ∧ CallR P K fid vs H L' (fun u' H'' => u' = u ∧ H'' = H') ∧ X (c u H') := by
 unfold rK at h
 simp only [] at h
 generalize hR : io H 40 (kA vs []) [] = R at h
 split at h
 ·rename_i hok
  rw [kp] at h
  split at h
  ·rename_i e F1 H1 hrun
   split at h
   ·rename_i rs hres
    split at h
    ·rename_i hnx
     have hnx' : H.nx ≤ H1.nx := Nat.le_of_ble_eq_true hnx
     -- the objects that the call gets
     have hin : ∀ i, (⟨H.nx, bM R H.es⟩ : Hp).get i = H.get i ∨ (⟨H.nx, bM R H.es⟩ : Hp).get i = .gone := fun i => by
      unfold Hp.get
      simp only []
      split
      ·rcases jt (R := R) (i := i) (l := H.es) with e | ⟨_, e⟩
       ·exact .inl e
       ·exact .inr e
      ·exact .inl rfl
     have hout : ∀ i, dN i R = false → Nat.blt i H.nx = true → (⟨H.nx, bM R H.es⟩ : Hp).get i = .gone := fun i hi hlt => by
      unfold Hp.get
      simp only [hlt]
      exact ou hi _
     -- the objects behind the call
     have key : ∀ (H2 : Hp) (es3 : List (Nat × Ob)), H2.nx = H1.nx → (∀ i, al es3 i = al H2.es i ∨ al es3 i = .gone) → ∀ i, ((⟨H2.nx, es3 ++ cf H.nx R H.es⟩ : Hp).get i = H2.get i ∨ (⟨H2.nx, es3 ++ cf H.nx R H.es⟩ : Hp).get i = .gone) ∨ ((⟨H2.nx, es3 ++ cf H.nx R H.es⟩ : Hp).get i = H.get i ∧ (⟨H.nx, bM R H.es⟩ : Hp).get i = .gone ∧ H.get i ≠ .free) := fun H2 es3 hn h3 i => by
      by_cases hlt2 : Nat.blt i H2.nx = true
      ·have e0 : (⟨H2.nx, es3 ++ cf H.nx R H.es⟩ : Hp).get i = al (es3 ++ cf H.nx R H.es) i := by unfold Hp.get; simp only [hlt2]
       have e2 : H2.get i = al H2.es i := by unfold Hp.get; rw [hlt2]
       rw [e0, e2]
       rcases qt es3 (cf H.nx R H.es) i with e | ⟨e', e⟩
       ·rw [e]
        rcases h3 i with h3 | h3
        ·exact .inl (.inl h3)
        ·exact .inl (.inr h3)
       ·rw [e]
        rw [tL]
        cases hm : (!dN i R && Nat.blt i H.nx)
        ·exact .inl (.inr (by simp))
        ·have hm' := hm
         simp only [Bool.and_eq_true, Bool.not_eq_true'] at hm'
         have eH : H.get i = al H.es i := by unfold Hp.get; rw [hm'.2]
         rw [if_pos rfl]
         cases hf : al H.es i
         case free => exact .inl (.inr rfl)
         all_goals exact .inr ⟨by rw [eH, hf]; rfl, hout i hm'.1 hm'.2, by rw [eH, hf]; simp⟩
      ·have e0 : (⟨H2.nx, es3 ++ cf H.nx R H.es⟩ : Hp).get i = .free := by
        unfold Hp.get; simp only [Bool.not_eq_true] at hlt2; simp only [hlt2]
       have e2 : H2.get i = .free := by unfold Hp.get; simp only [Bool.not_eq_true] at hlt2; rw [hlt2]
       exact .inl (.inl (by rw [e0, e2]))
     -- what holds behind the call
     have fin : ∀ (H2 : Hp) (es3 : List (Nat × Ob)) (rs2 : List V), H2.nx = H1.nx → (∀ i, al es3 i = al H2.es i ∨ al es3 i = .gone) →
       (∀ K S w ρ xs, HRel S w ρ H1.get → Inv K S w ρ H1.get → LRel S w ρ rs xs → ∃ S', HRel S' w ρ H2.get ∧ Inv K S' w ρ H2.get ∧ Up S S' w w ρ ρ ∧ LRel S' w ρ rs2 xs) →
       ∃ L', (L' = L ∨ ok = true) ∧ CallR P K fid vs H L' (fun u' H'' => u' = eu rs2 ∧ H'' = ⟨H2.nx, es3 ++ cf H.nx R H.es⟩) := fun H2 es3 rs2 hn h3 hfz => by
      have main : ∀ L', (∀ (S : Nat → Prop) (w : World) (ρ : Nat → Option Value), HRel S w ρ H.get → L' = [] ∨ (be H.get L' = true ∧ ∀ id, id ∈ L' → (⟨H.nx, bM R H.es⟩ : Hp).get id = .gone)) → CallR P K fid vs H L' (fun u' H'' => u' = eu rs2 ∧ H'' = ⟨H2.nx, es3 ++ cf H.nx R H.es⟩) := fun L' hL' S w ρ xs hr hi hx => by
       have hr1 := hr.drop (h' := (⟨H.nx, bM R H.es⟩ : Hp).get) hin
       have hi1 : Inv ⟨w, S, fun b => ∃ id, own ρ id ((⟨H.nx, bM R H.es⟩ : Hp).get id) b, ρ⟩ S w ρ (⟨H.nx, bM R H.es⟩ : Hp).get := ⟨ChgP.refl _ _, fun _ h => h, fun _ h => .inl h, fun id b hb => .inl ⟨id, hb⟩, fun _ _ h => h⟩
       refine mt hf hb hl hr1 hi1 hx (IH _ _ _ _ _ _ _ ?_)
       rw [hrun]
       intro S' w' ρ' a' hr' hi' hF'
       obtain ⟨rl, hrl⟩ : ∃ l : List ResultVar, fn.results = l.toArray := ⟨fn.results.toList, by simp⟩
       rw [hrl] at hres
       refine ret_go hT (rs := rl) (by cases e <;> simp) hrl hr' hF' (by simpa using hres) fun x hvx => ?_
       have hLR := qK hvx
       obtain ⟨ys, hys, rfl⟩ := hLR
       obtain ⟨S2, a1, a2, a3, a4⟩ := hfz _ S' w' ρ' ys hr' hi' hys
       obtain ⟨m1, m2, m3, m4⟩ := pj (h1 := (⟨H.nx, bM R H.es⟩ : Hp).get) (h2 := (⟨H2.nx, es3 ++ cf H.nx R H.es⟩ : Hp).get) hr hi hin a1 a2 (key H2 es3 hn h3)
       refine ⟨_, S2, ρ', _, _, rfl, ⟨rfl, rfl⟩, m1, m2, m3, nD a4, ?_⟩
       rcases hL' S w ρ hr with rfl | ⟨g1, g2⟩
       ·intro id hid; simp at hid
       ·exact m4 L' g1 g2
      rcases lA hok with hok | hok
      ·simp only [Bool.and_eq_true] at hok
       refine ⟨L, .inl rfl, main L fun S w ρ hr => .inr ⟨hok.1, fun id hid => ?_⟩⟩
       have hmem := List.all_eq_true.1 hok.2 id hid
       simp only [Bool.not_eq_true'] at hmem
       by_cases hlt : Nat.blt id H.nx = true
       ·exact hout id hmem hlt
       ·exfalso
        have hfree : H.get id = .free := by unfold Hp.get; simp only [Bool.not_eq_true] at hlt; rw [hlt]
        have hnl : ∀ (l : List Nat), id ∈ l → be H.get l = true → False := by
         intro l
         induction l with
         | nil => intro h; simp at h
         | cons j t ih =>
          intro hm hl
          simp only [be] at hl
          rcases List.mem_cons.1 hm with e | e
          ·subst e; rw [hfree] at hl; cases hl
          ·split at hl
           ·exact ih e hl
           ·exact ih e hl
           ·cases hl
        exact hnl L hid hok.1
      ·exact ⟨[], .inr hok, main [] fun _ _ _ _ => .inl rfl⟩
     split at h
     ·rw [kx] at h
      obtain ⟨L', g1, g2⟩ := fin H1 H1.es rs rfl (fun i => .inl rfl) (fun K S w ρ xs h1 h2 h3 => ⟨S, h1, h2, Up.refl, h3⟩)
      exact ⟨_, _, L', g1, g2, h⟩
     ·obtain ⟨rs2, H2, e1, e2, e3⟩ := nB H.nx rs H1
      rw [e1] at h
      rw [kp, kx] at h
      obtain ⟨L', g1, g2⟩ := fin H2 (bM _ H2.es) rs2 e2 (fun i => by
       rcases jt (R := io H2 60 (kA rs2 R) []) (i := i) (l := H2.es) with e | ⟨_, e⟩
       ·exact .inl e
       ·exact .inr e) e3
      exact ⟨_, _, L', g1, g2, h⟩
    ·exact absurd h (hX _ _)
   ·exact absurd h (hX _ _)
  ·exact absurd h (hX _ _)
  ·exact absurd h (hX _ _)
 ·exact absurd h (hX _ _)
theorem jd (hT : TabOk P T) (IH : ∀ p s F H K Q n, dY P K Q n (ih p s F H) → Go P K Q p s n F H) {X : Rs → Prop} (hX : ∀ n m, ¬ X (.er n m)) {ok : Bool} {c : Option V → Hp → Rs} (h : X (kK T ih F H L ok o c)) : ∃ u H', iF P K o L ok n F H u H' ∧ X (c (some u) H') := by
 unfold kK at h
 split at h
 ·rename_i v hv
  exact ⟨v, H, tO hT hv, h⟩
 ·rw [bz] at h
  split at h
  ·rename_i v ed hv
   split at h
   ·rename_i hc
    rw [Hp.ap_eq] at h
    refine ⟨_, _, bT hT hv hc, ?_⟩
    cases v with
    | none => exact h
    | some v => exact h
   ·exact absurd h (hX _ _)
  ·split at h
   ·rename_i fid args tys hop
    split at h
    ·rename_i vs hvs
     split at h
     ·rename_i v hn
      obtain ⟨he, hnat⟩ := hT.nat _ _ _ hn
      refine ⟨v, H, eC (L' := L) he (by rw [hop]) hvs (fun S w ρ xs hr hi hx => ?_) (.inl rfl), h⟩
      obtain ⟨x, h1, h2⟩ := hnat S w ρ xs hx
      refine h2.mono fun e w' hR => ?_
      obtain ⟨rfl, rfl⟩ := hR
      exact ⟨x, S, ρ, v, H, rfl, ⟨rfl, rfl⟩, hr, hi, Up.refl, h1, gA⟩
     ·split at h
      ·rename_i fn hfn
       obtain ⟨hf, he⟩ := hT.fn _ _ hfn
       split at h
       ·rename_i b hb
        split at h
        ·rename_i hl
         obtain ⟨u, H', L', g1, g2, g3⟩ := va (K := K) hT IH hX hf hb hl h
         exact ⟨u, H', eC he (by rw [hop]) hvs g2 g1, g3⟩
        ·exact absurd h (hX _ _)
       ·exact absurd h (hX _ _)
      ·exact absurd h (hX _ _)
    ·exact absurd h (hX _ _)
   ·exact absurd h (hX _ _)
theorem tf {l : List Nat} {j : Nat} (h : qj l j = true) : l = [j] := by
 unfold qj at h
 split at h
 ·rw [Nat.eq_of_beq_eq_true h]
 ·cases h
theorem qp (hT : TabOk P T) (IH : ∀ p s F H K Q n, dY P K Q n (ih p s F H) → Go P K Q p s n F H) {i : Nat} {ps : List (Nat × Operand)} {vs : List (Nat × V)} {v : V} (hp : jp T all i vs = some (o, ps, v)) : ∀ (left : Nat) (listed : Array Bool) (F : Fm) (H : Hp), dY P K Q n (oF T ih all L m i o ps v s left listed F H) → GoP P K Q all L m left listed s n F H i o ps vs v
 | left, listed, F, H, h => by
  unfold oF at h
  split at h
  ·rename_i hl
   split at h
   ·rename_i x hrd
    split at h
    ·rename_i hb
     have := Nat.eq_of_beq_eq_true hb
     subst this
     rw [Fm.puto_eq] at h
     exact wn hT hp hrd hl (IH _ _ _ _ _ _ _ h)
    ·exact h.elim
   ·rename_i x y hrd
    cases left with
    | zero => exact h.elim
    | succ left =>
     simp only [bz] at h
     generalize hj : sr x y i = j at h
     unfold sr at hj
     split at h
     ·exact h.elim
     ·rename_i hji
      have hne : j ≠ i := Nat.ne_of_beq_eq_false hji
      split at h
      ·rename_i oj hoj
       split at h
       ·rename_i hc
        simp only [Bool.and_eq_true] at hc
        obtain ⟨⟨⟨hc1, hc2⟩, hc3⟩, hc4⟩ := hc
        split at h
        ·rename_i hw
         obtain ⟨u, H', hx, hk⟩ := jd (K := K) (n := n) hT IH (X := dY P K Q n) (fun _ _ h => h) h
         rw [Fm.puto_eq] at hk
         have ih2 := qp hT IH hp left _ _ _ hk
         have hpair : (match Region.ready .any all listed with | [x, y] => (Nat.beq x i && Nat.beq y j) || (Nat.beq x j && Nat.beq y i) | _ => false) = true := by
          rw [hrd]
          simp only []
          cases hx1 : Nat.beq x i
          ·rw [hx1] at hj
           cases hy1 : Nat.beq y i
           ·rw [hy1] at hj; exact absurd hj.symm hne
           ·rw [hy1] at hj; simp only at hj; subst hj; simp
          ·rw [hx1] at hj; simp only at hj; subst hj; simp
         refine un hT hp hoj hpair (tf hc1) hl (fun t ht => ?_) hc2 hc3 (Array.setIfInBounds_comm _ _ (Ne.symm hne)) (Post := fun u' H'' => u' = u ∧ H'' = H') (fun S w ρ a hr hi hF K2 hK2 => ?_) (fun u' H'' hP => by obtain ⟨rfl, rfl⟩ := hP; exact ih2)
         ·rw [ht] at hc4
          simp only [Option.isNone_iff_eq_none] at hc4
          exact hc4
         ·unfold wpOp
          simp only [hoj]
          rw [if_pos (aX hF hw)]
          refine .inl (hx S w ρ a hr hi hF _ _ fun x S' w' ρ' hr' hi' hu hA hL hv => hK2 x S' w' ρ' u H' ⟨rfl, rfl⟩ hr' hi' hu hA (hL.imp id fun h => ?_) hv)
          simpa only [Bool.and_eq_true] using h
        ·exact h.elim
       ·exact h.elim
      ·exact h.elim
   ·exact h.elim
  ·exact h.elim
theorem wc (hT : TabOk P T) (IH : ∀ p s F H K Q n, dY P K Q n (ih p s F H) → Go P K Q p s n F H) {i j : Nat} {left : Nat} {listed : Array Bool} (hrd : Region.ready .any all listed = [i, j]) (h : dY P K Q n (uV T ih all L m left i j listed s F H)) : Go P K Q (.drw all L m (left + 1) listed) s n F H := by
 unfold uV at h
 split at h
 ·rename_i oi hoi
  split at h
  ·rename_i oj hoj
   split at h
   ·rename_i hwi
    split at h
    ·rename_i hwj
     obtain ⟨ui, Hi, xi, hk⟩ := jd (K := K) (n := n) hT IH (X := dY P K Q n) (fun _ _ h => h) h
     rw [Fm.puto_eq] at hk
     split at hk
     ·rename_i F1 H1 e1
      obtain ⟨uj, Hj, xj, hk2⟩ := jd (K := K) (n := n) hT IH (X := dY P K Q n) (fun _ _ h => h) hk
      rw [Fm.puto_eq] at hk2
      split at hk2
      ·rename_i F2 H2 e2
       split at hk2
       ·rename_i hal
        have c : Go P K Q (.ex .normal) s n F1 H1 := IH _ _ _ _ _ _ _ hk2
        intro S w ρ a hr hi hF
        have hpin : ∀ id x, K.pin id = some x → id < H.nx := fun id x hx => Decidable.byContradiction fun hn => by
         have h1 := hi.pin id x hx
         have h2 := hr.ob id
         have h3 : H.get id = .free := by
          unfold Hp.get
          have : Nat.blt id H.nx = false := by
           cases hb : Nat.blt id H.nx
           ·rfl
           ·exact absurd (by simpa [Nat.blt_eq] using hb) hn
          simp only [this]
         rw [h3] at h2
         have h4 : ρ id = none := h2
         rw [h4] at h1; cases h1
        have g1 : Go P K (bB P Q s) (.drw all L m left (listed.setIfInBounds i true)) [] n (F.seto oi.dst (some ui)) Hi := IH _ _ _ _ _ _ _ (by rw [e1]; exact fun S w ρ a hr hi hF => c S w ρ a hr hi hF)
        have g2 : Go P K (bB P Q s) (.drw all L m left (listed.setIfInBounds j true)) [] n (F.seto oj.dst (some uj)) Hj := IH _ _ _ _ _ _ _ (by rw [e2]; exact fun S w ρ a hr hi hF => go_alike hal hpin c S w ρ a hr hi hF)
        exact cD (by rw [hrd]; simp) hoi hoj hwi hwj xi xj g1 g2 S w ρ a hr hi hF
       ·exact hk2.elim
      ·exact hk2.elim
      ·exact hk2.elim
     ·exact hk.elim
     ·exact hk.elim
    ·exact h.elim
   ·exact h.elim
  ·exact h.elim
 ·exact h.elim
theorem jr : ∀ {R : List Nat} {i : Nat} {ps : List (Nat × Operand)} {v : V}, jY T F all R = some (i, o, ps, v) → ∃ vs, ft F ps = some vs ∧ jp T all i vs = some (o, ps, v)
 | [], _, _, _, h => by cases h
 | j :: r, i, ps, v, h => by
  unfold jY at h
  split at h
  ·rename_i hj
   split at h
   ·rename_i vs hvs
    split at h
    ·rename_i o' ps' v' hpb
     simp only [Option.some.injEq, Prod.mk.injEq] at h
     obtain ⟨rfl, rfl, rfl, rfl⟩ := h
     refine ⟨vs, ?_, hpb⟩
     have := hpb
     unfold jp at this
     rw [hj] at this
     simp only at this
     repeat' (split at this)
     all_goals first
      | (cases this; done)
      | (simp only [bz, Option.some.injEq, Prod.mk.injEq] at this; obtain ⟨_, rfl, _⟩ := this; exact hvs)
    ·exact jr h
   ·exact jr h
  ·exact jr h
theorem vQ (hT : TabOk P T) (hm : P.follows .mixedOrders = true) (IH : ∀ p s F H K Q n, dY P K Q n (ih p s F H) → Go P K Q p s n F H) : ∀ (p : EP) (s : List EI) (F : Fm) (H : Hp), dY P K Q n (tk T ih p s F H) → Go P K Q p s n F H
 | .code c, s, F, H, h => by
  replace h : dY P K Q n (sj T ih c s F H) := h
  unfold sj at h
  split at h
  ·exact sS (IH _ _ _ _ _ _ _ h)
  ·exact pN (IH _ _ _ _ _ _ _ h)
  ·exact rj (IH _ _ _ _ _ _ _ h)
  ·exact go_ret (IH _ _ _ _ _ _ _ h)
  ·exact ro (IH _ _ _ _ _ _ _ h)
  ·exact vg (IH _ _ _ _ _ _ _ h)
  ·exact uR (IH _ _ _ _ _ _ _ h)
  ·exact go_loop 1000000 (IH _ _ _ _ _ _ _ h)
  ·split at h
   ·exact oZ ‹_› (IH _ _ _ _ _ _ _ h)
   ·exact pG ‹_› (IH _ _ _ _ _ _ _ h)
   ·exact h.elim
  ·exact nZ (IH _ _ _ _ _ _ _ h)
  ·split at h
   ·rename_i hs
    simp only [bi, bz] at h
    exact qR _ _ _ rfl hm hs (IH _ _ _ _ _ _ _ h)
   ·exact h.elim
  ·exact h.elim
 | .ops all rest, s, F, H, h => by
  replace h : dY P K Q n (pw T ih all rest s F H) := h
  unfold pw at h
  split at h
  ·exact tE (IH _ _ _ _ _ _ _ h)
  ·split at h
   ·rw [Fm.puto_eq] at h
    exact tq ‹_› (IH _ _ _ _ _ _ _ h)
   ·obtain ⟨u, H', hx, hk⟩ := jd (K := K) (n := n) hT IH (X := dY P K Q n) (fun _ _ h => h) h
    rw [Fm.puto_eq] at hk
    exact xu ‹_› hx (IH _ _ _ _ _ _ _ hk)
   ·exact h.elim
 | .ex e, s, F, H, h => by
  replace h : dY P K Q n (so ih e s F H) := h
  unfold so at h
  split at h
  ·split at h
   ·exact fun S w ρ a hr hi hF => h S w ρ a hr hi hF
   ·exact fun S w ρ a hr hi hF => h S w ρ a hr hi hF
   ·exact h.elim
  ·split at h
   ·exact qY (IH _ _ _ _ _ _ _ h)
   ·exact oU (IH _ _ _ _ _ _ _ h)
   ·exact pB (IH _ _ _ _ _ _ _ h)
   ·exact h.elim
  ·split at h
   ·split at h
    ·exact h.elim
    ·exact go_xloop (IH _ _ _ _ _ _ _ h)
   ·exact go_xloopE (IH _ _ _ _ _ _ _ h)
   ·exact go_xloopR (IH _ _ _ _ _ _ _ h)
   ·exact h.elim
  ·split at h
   ·exact uL (IH _ _ _ _ _ _ _ h)
   ·exact vc (IH _ _ _ _ _ _ _ h)
   ·exact uk (IH _ _ _ _ _ _ _ h)
   ·exact h.elim
  ·split at h
   ·exact pM (IH _ _ _ _ _ _ _ h)
   ·split at h
    ·exact pT ‹_› (IH _ _ _ _ _ _ _ h)
    ·exact pD ‹_› (IH _ _ _ _ _ _ _ h)
   ·exact pC (IH _ _ _ _ _ _ _ h)
   ·exact h.elim
 | .drw all L m left listed, s, F, H, h => by
  replace h : dY P K Q n (rC T ih all L m left listed s F H) := h
  unfold rC at h
  split at h
  ·exact qr ‹_› (IH _ _ _ _ _ _ _ h)
  ·rename_i i R hrd
   cases left with
   | zero => exact h.elim
   | succ left =>
    simp only [] at h
    split at h
    ·split at h
     ·rename_i o ho
      split at h
      ·rw [Fm.puto_eq] at h
       exact go_d1S hrd ho ‹_› (IH _ _ _ _ _ _ _ h)
      ·obtain ⟨u, H', hx, hk⟩ := jd (K := K) (n := n) hT IH (X := dY P K Q n) (fun _ _ h => h) h
       rw [Fm.puto_eq] at hk
       exact wK hrd ho ‹_› hx (IH _ _ _ _ _ _ _ hk)
      ·exact h.elim
     ·exact h.elim
    ·split at h
     ·split at h
      ·rename_i o ho
       split at h
       ·rename_i hc
        simp only [Bool.and_eq_true, Bool.not_eq_true'] at hc
        obtain ⟨⟨hc1, hc2⟩, hc3⟩ := hc
        split at h
        ·rw [Fm.puto_eq] at h
         exact sK hc3 ho hc2 hc1 ‹_› (IH _ _ _ _ _ _ _ h)
        ·rename_i hw
         split at h
         ·rename_i v hv
          rw [Fm.puto_eq] at h
          exact vw hT hc3 ho hc2 hc1 hw hv (IH _ _ _ _ _ _ _ h)
         ·split at h
          ·rename_i id hid
           split at h
           ·rename_i hL
            simp only [Bool.and_eq_true, Bool.not_eq_true'] at hL
            obtain ⟨⟨hL1, hL2⟩, hL3⟩ := hL
            split at h
            ·rename_i v ed hv
             rw [Fm.puto_eq] at h
             exact sw hT hc3 hL2 hL3 ho hc2 hc1 hw hid hL1 hv (IH _ _ _ _ _ _ _ h)
            ·exact h.elim
           ·exact h.elim
          ·exact h.elim
        ·exact h.elim
       ·exact h.elim
      ·exact h.elim
     ·split at h
      ·rename_i i' o ps v hpo
       rw [Fm.puto_eq] at h
       obtain ⟨vs, g1, g2⟩ := jr hpo
       exact tP g1 (qp hT IH g2 left listed _ _ h)
      ·split at h
       ·exact wc hT IH hrd h
       ·exact h.elim
theorem sY (hT : TabOk P T) (hm : P.follows .mixedOrders = true) : ∀ (k : Nat) (p : EP) (s : List EI) (F : Fm) (H : Hp) (K : Ctx) (Q : Exit → Act → World → Prop) (n : Nat), dY P K Q n (run T k p s F H) → Go P K Q p s n F H
 | 0, p, s, F, H, K, Q, n, h => h
 | k + 1, p, s, F, H, K, Q, n, h => vQ hT hm (fun p s F H K Q n h => sY hT hm k p s F H K Q n h) p s F H h
def qo (T : Tab) (k : Nat) (fid : FuncId) (vs : List V) (H : Hp) : Option (List V × Hp) := match T.fn fid with
 |some fn => match fn.body with
  |some b => match Nat.ble vs.length fn.ntmps with
   |true => match run T k (.code b) [] (fM fn.ntmps vs) H with
    |.ok _ F1 H1 => match kB T H1.get F1 fn.results.toList with
     | some rs => some (rs, H1)
     | none => none
    | _ => none
   | false => none
  | none => none
 | none => none
theorem rb (hT : TabOk P T) (hm : P.follows .mixedOrders = true) {k : Nat} {fid : FuncId} {vs rs : List V} {H H1 : Hp} (h : qo T k fid vs H = some (rs, H1)) {S : Nat → Prop} {w : World} {ρ : Nat → Option Value} {xs : List Value} (hr : HRel S w ρ H.get) (hx : LRel S w ρ vs xs) : bf P fid = true ∧
  Calls P fid xs.toArray w fun e w' => ∃ S' ρ' ys, e = .returned (ld ys) ∧ HRel S' w' ρ' H1.get ∧ Inv ⟨w, S, fun b => ∃ id, own ρ id (H.get id) b, ρ⟩ S' w' ρ' H1.get ∧ LRel S' w' ρ' rs ys := by
 unfold qo at h
 split at h
 ·rename_i fn hfn
  obtain ⟨hf, he⟩ := hT.fn _ _ hfn
  split at h
  ·rename_i b hb
   split at h
   ·rename_i hl
    split at h
    ·rename_i e F1 H1' hrun
     split at h
     ·rename_i rs' hres
      simp only [Option.some.injEq, Prod.mk.injEq] at h
      obtain ⟨rfl, rfl⟩ := h
      refine ⟨he, ?_⟩
      have hi1 : Inv ⟨w, S, fun b => ∃ id, own ρ id (H.get id) b, ρ⟩ S w ρ H.get := ⟨ChgP.refl _ _, fun _ h => h, fun _ h => .inl h, fun id b hb => .inl ⟨id, hb⟩, fun _ _ h => h⟩
      refine mt hf hb hl hr hi1 hx (sY hT hm k _ _ _ _ _ _ _ ?_)
      rw [hrun]
      intro S' w' ρ' a' hr' hi' hF'
      obtain ⟨rl, hrl⟩ : ∃ l : List ResultVar, fn.results = l.toArray := ⟨fn.results.toList, by simp⟩
      rw [hrl] at hres
      refine ret_go hT (rs := rl) (by cases e <;> simp) hrl hr' hF' (by simpa using hres) fun x hvx => ?_
      have hLR := qK hvx
      obtain ⟨ys, hys, rfl⟩ := hLR
      exact ⟨S', ρ', ys, rfl, hr', hi', hys⟩
     ·cases h
    ·cases h
   ·cases h
  ·cases h
 ·cases h
end
def oH : List (List UInt8) → List V → Bool
 | [], [] => true
 | s :: r, .str l :: q => lEq s l && oH r q
 | _, _ => false
def qh (ls : List (List UInt8)) : V → Bool
 | .nils => ls.isEmpty
 | .row sz els => Nat.beq sz 1 && oH ls els
 | _ => false
mutual
def treeB : Tree → V → Bool
 |.node k s ls ks, v => match v with
  |.agg [.int .i64 k', .str s', l, r] => iEq k k' && lEq s s' && qh ls l && (match r with
   | .nils => ks.isEmpty
   | .row sz els => Nat.beq sz 4 && kidsB ks els
   | _ => false)
  | _ => false
def kidsB : List Tree → List V → Bool
 |[], vs => match vs with
  | [] => true
  | _ => false
 |t :: r, vs => match vs with
  | v :: q => treeB t v && kidsB r q
  | [] => false
end
section
variable {S : Nat → Prop} {w : World}
theorem pi {ρ : Nat → Option Value} : ∀ {ls : List (List UInt8)} {els : List V} {xs : List Value}, oH ls els = true → CRel S w ρ 1 els xs → els.length = ls.length ∧ xs = ls.map iv
 | [], [], xs, _, hc => by simp only [CRel] at hc; subst hc; exact ⟨rfl, rfl⟩
 | s :: r, v :: q, xs, hb, hc => by
  cases v <;> simp only [oH] at hb <;> first | (cases hb; done) | skip
  rename_i l
  simp only [Bool.and_eq_true] at hb
  have hl := hb.1
  rw [jZ] at hl
  simp only [beq_iff_eq] at hl
  subst hl
  simp only [CRel] at hc
  obtain ⟨x, ys, rfl, _, h3, h4⟩ := hc
  simp only [VRel] at h3
  subst h3
  obtain ⟨h5, h6⟩ := pi hb.2 h4
  exact ⟨by simp [h5], by simp [h6, Value.cells]⟩
 | [], _ :: _, _, hb, _ => by cases hb
 | _ :: _, [], _, hb, _ => by cases hb
theorem tn {ρ : Nat → Option Value} {ls : List (List UInt8)} {v : V} {x : Value} (hb : qh ls v = true) (hx : VRel S w ρ v x) : ∃ A m, x = .slice A ls.length m ∧ ls.length ≤ m ∧ m ≤ maxLen ∧ RowIn S w 1 A ls.length (ls.map iv) := by
 cases v <;> simp only [qh] at hb <;> first | (cases hb; done) | skip
 ·simp only [List.isEmpty_iff] at hb
  subst hb
  simp only [VRel] at hx; subst hx
  exact ⟨none, 0, rfl, Nat.le_refl _, by decide, RowIn.none_⟩
 ·rename_i sz els
  simp only [Bool.and_eq_true, Nat.beq_eq] at hb
  obtain ⟨rfl, hb⟩ := hb
  simp only [VRel] at hx
  obtain ⟨A, c, xs, rfl, h3, h4, h5, h6⟩ := hx
  obtain ⟨h7, rfl⟩ := pi hb h5
  rw [h7] at h3 h6 ⊢
  exact ⟨A, c, rfl, h3, h4, h6⟩
mutual
theorem treeB_ok {ρ : Nat → Option Value} : ∀ {t : Tree} {v : V} {x : Value}, treeB t v = true → VRel S w ρ v x → ∃ c, x = .agg c.toArray ∧ TreeIs S w t c
 | .node k s ls ks, v, x, hb, hx => by
  unfold treeB at hb
  split at hb
  ·rename_i k' s' l r
   simp only [Bool.and_eq_true] at hb
   obtain ⟨⟨⟨hb1, hb2⟩, hb3⟩, hb4⟩ := hb
   rw [kU] at hb1
   rw [jZ] at hb2
   simp only [beq_iff_eq] at hb1 hb2
   subst hb1 hb2
   simp only [VRel] at hx
   obtain ⟨xs, rfl, hl⟩ := hx
   simp only [LRel] at hl
   obtain ⟨x0, _, rfl, h0, x1, _, rfl, h1, x2, _, rfl, h2, x3, _, rfl, h3, rfl⟩ := hl
   simp only [VRel] at h0 h1
   subst h0 h1
   obtain ⟨A, m, rfl, g1, g2, g3⟩ := tn hb3 h2
   have kk : ∃ B n, x3 = .slice B ks.length n ∧ ks.length ≤ n ∧ n ≤ maxLen ∧ ∃ cs, KidsAre S w ks cs ∧ RowIn S w 4 B ks.length cs := by
    split at hb4
    ·simp only [List.isEmpty_iff] at hb4
     subst hb4
     simp only [VRel] at h3; subst h3
     exact ⟨none, 0, rfl, Nat.le_refl _, by decide, [], by simp only [KidsAre], RowIn.none_⟩
    ·rename_i sz els
     simp only [Bool.and_eq_true, Nat.beq_eq] at hb4
     obtain ⟨rfl, hb4⟩ := hb4
     simp only [VRel] at h3
     obtain ⟨B, c, ys, rfl, q3, q4, q5, q6⟩ := h3
     obtain ⟨q7, q8⟩ := kidsB_ok hb4 q5
     rw [q7] at q3 q6 ⊢
     exact ⟨B, c, rfl, q3, q4, ys, q8, q6⟩
    ·cases hb4
   obtain ⟨B, n, rfl, k1, k2, cs, k3, k4⟩ := kk
   exact ⟨_, rfl, wk g1 g2 k1 k2 g3 k3 k4⟩
  ·cases hb
theorem kidsB_ok {ρ : Nat → Option Value} : ∀ {ts : List Tree} {vs : List V} {xs : List Value}, kidsB ts vs = true → CRel S w ρ 4 vs xs → vs.length = ts.length ∧ KidsAre S w ts xs
 | [], vs, xs, hb, hc => by
  unfold kidsB at hb
  split at hb
  ·simp only [CRel] at hc; subst hc; exact ⟨rfl, by simp only [KidsAre]⟩
  ·cases hb
 | t :: r, vs, xs, hb, hc => by
  unfold kidsB at hb
  split at hb
  ·rename_i v q
   simp only [Bool.and_eq_true] at hb
   simp only [CRel] at hc
   obtain ⟨x, ys, rfl, _, h3, h4⟩ := hc
   obtain ⟨c, rfl, hT⟩ := treeB_ok hb.1 h3
   obtain ⟨h5, h6⟩ := kidsB_ok hb.2 h4
   exact ⟨by simp [h5], by simp only [KidsAre]; exact ⟨c, ys, by simp [Value.cells], hT, h6⟩⟩
  ·cases hb
end
end
def pf (T : Tab) (k : Nat) (fid : FuncId) (vs : List V) : Option (List V) := match qo T k fid vs ⟨0, []⟩ with
 | some (rs, H1) => oV 0 H1 rs fun rs' _ => some rs'
 | none => none
theorem lx (i : Nat) : (⟨0, []⟩ : Hp).get i = .free := by
 unfold Hp.get
 have : Nat.blt i 0 = false := by cases i <;> rfl
 simp only [this]
theorem vm {w : World} {S : Nat → Prop} (hg : SOk S w) : HRel S w (fun _ => none) (⟨0, []⟩ : Hp).get :=
 ⟨fun i => by rw [lx]; rfl, fun i b hb => by rw [lx] at hb; exact hb.elim, fun i j b hb _ => by rw [lx] at hb; exact hb.elim, hg⟩
theorem wv {P : Program} {T : Tab} (hT : TabOk P T) (hm : P.follows .mixedOrders = true) {k : Nat} {fid : FuncId} {vs rs : List V} (h : pf T k fid vs = some rs) {S : Nat → Prop} {w : World} {xs : List Value} (hg : SOk S w) (hx : LRel S w (fun _ => none) vs xs) :
  Calls P fid xs.toArray w fun e w' => ∃ S' ρ' ys, e = .returned (ld ys) ∧ SOk S' w' ∧ (∀ b, S b → S' b) ∧ (∀ b, S' b → S b ∨ w.heap.size ≤ b) ∧ Chg [] w w' ∧ LRel S' w' ρ' rs ys := by
 unfold pf at h
 split at h
 ·rename_i rs1 H1 hrun
  obtain ⟨rs2, H2, e1, _, e3⟩ := nB 0 rs1 H1
  rw [e1] at h
  injection h with h; subst h
  refine (rb hT hm hrun (vm hg) hx).2.mono fun e w' hR => ?_
  obtain ⟨S', ρ', ys, rfl, hr, hi, hl⟩ := hR
  obtain ⟨S2, a1, a2, a3, a4⟩ := e3 _ S' w' ρ' ys hr hi hl
  have hno : ∀ b, ¬ ∃ id, own (fun _ => none) id ((⟨0, []⟩ : Hp).get id) b := fun b ⟨id, hb⟩ => by rw [lx] at hb; exact hb
  refine ⟨S2, ρ', ys, rfl, a1.slt, a2.s0, fun b hb => ?_, ⟨hi.chg.os, hi.chg.tape, hi.chg.output, hi.chg.size, fun b hb _ => hi.chg.block b hb (hno b)⟩, a4⟩
  rcases a2.s1 b hb with h | h | h
  ·exact .inl h
  ·exact absurd h (hno b)
  ·exact .inr h
 ·cases h
def ss (fid : FuncId) (vs : List V) : Option V := match Nat.beq fid 71 with
 |true => match vs with
  | [.str s, .int .u8 (.ofNat c)] => rU (Lib.indexByte s c.toUInt8) fun n => some (.int .i64 n)
  | _ => none
 | false => none
noncomputable def sI : Tab := ⟨true, eV tyL, eV fnL, ss, fun f => Nat.beq f 26⟩
theorem ru : TabOk Tryz.prog sI := by
 refine ⟨qe, yu, fun i vs v hv => ?_⟩
 replace hv : ss i vs = some v := hv
 unfold ss at hv
 split at hv
 ·rename_i hb
  have := Nat.eq_of_beq_eq_true hb
  subst this
  split at hv
  ·rename_i s c
   rw [rp] at hv
   injection hv with hv; subst hv
   refine ⟨by kernel_rfl, fun S w ρ xs hx => ?_⟩
   simp only [LRel] at hx
   obtain ⟨x0, _, rfl, h0, x1, _, rfl, h1, rfl⟩ := hx
   simp only [VRel] at h0 h1
   subst h0 h1
   exact ⟨_, by simp only [VRel]; rfl, rI _ _ _⟩
  ·cases hv
 ·cases hv
def lT (t : Tree) : Option (List V) → Bool
 | some [v, .int .i64 a, .int .i64 e] => treeB t v && iEq a 0 && iEq e 0
 | _ => false
theorem tM {k : Nat} {l : List UInt8} {t : Tree} (h : lT t (pf sI k 14 [.str l]) = true) {S : Nat → Prop} {w : World} (hg : SOk S w) : Calls Tryz.prog 14 [iv l].toArray w fun e w' => ∃ S' c0 c1 c2 c3, e = .returned (.tuple #[.agg #[c0, c1, c2, c3], .int .i64 0, .int .i64 0]) ∧ SOk S' w' ∧ (∀ b, S b → S' b) ∧ (∀ b, S' b → S b ∨ w.heap.size ≤ b) ∧ TreeIs S' w' t [c0, c1, c2, c3] ∧ Chg [] w w' := by
 unfold lT at h
 split at h
 ·rename_i v a e hr
  simp only [Bool.and_eq_true, kU, beq_iff_eq] at h
  obtain ⟨⟨h1, rfl⟩, rfl⟩ := h
  refine (wv ru (by kernel_rfl) hr hg (xs := [iv l]) ⟨_, [], rfl, by simp only [VRel], rfl⟩).mono fun e w' hR => ?_
  obtain ⟨S', ρ', ys, rfl, g0, g1, g2, g4, g3⟩ := hR
  simp only [LRel] at g3
  obtain ⟨x0, _, rfl, h0, x1, _, rfl, h2, x2, _, rfl, h3, rfl⟩ := g3
  simp only [VRel] at h2 h3
  subst h2 h3
  obtain ⟨c, rfl, hT⟩ := treeB_ok h1 h0
  have h4 := hT.four
  match c, h4, hT with
  | [c0, c1, c2, c3], _, hT => exact ⟨S', c0, c1, c2, c3, rfl, g0, g1, g2, hT, g4⟩
 ·cases h
section
variable {S : Nat → Prop} {w : World} {ρ : Nat → Option Value}
theorem pk : ∀ ls : List (List UInt8), CRel S w ρ 1 (ls.map .str) (ls.map iv)
 | [] => by simp [CRel]
 | s :: r => by
  simp only [List.map_cons, CRel]
  exact ⟨iv s, r.map iv, by simp [Value.cells, iv], ⟨rfl, rfl⟩, by unfold VRel; rfl, pk r⟩
mutual
theorem TreeIs.vrel : ∀ {ρ : Nat → Option Value} {t : Tree} {c : List Value}, TreeIs S w t c → LRel S w ρ (aq t) c
 | ρ, .node k s ls ks, c, h => by
  simp only [TreeIs] at h
  obtain ⟨A, m, B, n, rfl, h1, h2, h3, h4, h5, cs, h6, h7⟩ := h
  simp only [aq, Tree.kind, Tree.text, Tree.leads, Tree.kids, LRel, VRel]
  exact ⟨_, _, rfl, rfl, _, _, rfl, rfl, _, _, rfl, ⟨A, m, _, by simp, by simpa using h1, h2, pk ls, by simpa using h5⟩, _, _, rfl, ⟨B, n, cs, by simp [ig], by simpa [ig] using h3, h4, KidsAre.crel h6, by simpa [ig] using h7⟩, rfl⟩
theorem KidsAre.crel : ∀ {ρ : Nat → Option Value} {ts : List Tree} {cs : List Value}, KidsAre S w ts cs → CRel S w ρ 4 (kidsV ts) cs
 | ρ, [], cs, h => by simp only [KidsAre] at h; simp only [kidsV, CRel]; exact h
 | ρ, t :: r, cs, h => by
  simp only [KidsAre] at h
  obtain ⟨c, d, rfl, h1, h2⟩ := h
  simp only [kidsV, CRel, fC]
  exact ⟨.agg c.toArray, d, by simp [Value.cells], ⟨by simp [Value.cells, h1.four], by simpa [Value.cells] using h1.one⟩, by simp only [VRel]; exact ⟨c, rfl, h1.vrel⟩, KidsAre.crel h2⟩
end
end
theorem wg {k : Nat} {l : List UInt8} {t : Tree} (h : lT t (pf sI k 14 [.str l]) = true) : jf Tryz.prog 14 [.str l] (.tup [.agg (aq t), .int .i64 0, .int .i64 0]) := by
 refine ⟨rfl, rfl, fun S w ρ xs hr hx => ?_⟩
 simp only [LRel, VRel] at hx
 obtain ⟨x, ys, rfl, rfl, rfl⟩ := hx
 refine (tM h hr.slt).mono ?_
 rintro e w' ⟨S', c0, c1, c2, c3, rfl, g0, g1, g2, hT, hc⟩
 have g := hr.chg0 hc
 refine ⟨_, S', ρ, _, ⟨0, []⟩, rfl, rfl, ⟨fun i => ?_, fun i b hb => ?_, fun i j b hb _ => ?_, g0⟩, ⟨ChgP.of0 hc, g1, fun b hb => (g2 b hb).elim .inl fun h => .inr (.inr h), fun id b hb => .inl ⟨id, hb⟩, fun id x h => ?_⟩, ?_⟩
 ·have := g.ob i; rw [lx] at this ⊢; exact this
 ·rw [lx] at hb; exact hb.elim
 ·rw [lx] at hb; exact hb.elim
 ·simp only [jF] at h
  split at h
  ·exact h
  ·cases h
 ·have hk := TreeIs.vrel (ρ := ρ) hT
  simp only [VRel]
  exact ⟨[.agg #[c0, c1, c2, c3], .int .i64 0, .int .i64 0], rfl, .agg #[c0, c1, c2, c3], _, rfl, by simp only [VRel]; exact ⟨_, rfl, hk⟩, _, _, rfl, by simp only [VRel], _, _, rfl, by simp only [VRel], rfl⟩
def eB (f : V → Option V) : List V → Option (List V)
 | [] => some []
 |v :: r => match f v with
  |some u => match eB f r with
   | some l => some (u :: l)
   | none => none
  | none => none
def iH (h : Nat → Ob) : Nat → V → Option V
 | 0, _ => none
 |n + 1, v => match v with
  |.sl id => match h id with
   |.row _ sz els => match eB (iH h n) els with
    | some l => some (.row sz l)
    | none => none
   | _ => none
  |.agg cs => match eB (iH h n) cs with
   | some l => some (.agg l)
   | none => none
  |v => match v.pure with
   | true => some v
   | false => none
section
variable {S : Nat → Prop} {w : World} {ρ : Nat → Option Value} {h : Nat → Ob}
abbrev ky (S : Nat → Prop) (ρ : Nat → Option Value) (h : Nat → Ob) : Nat → Prop := fun b => S b ∨ ∃ id, own ρ id (h id) b
theorem ta : Up S (ky S ρ h) w w ρ0 ρ0 := ⟨fun _ h => .inl h, fun _ _ _ => rfl, fun _ _ h => h⟩
theorem pF {f : V → Option V} : ∀ {l u : List V}, eB f l = some u → u.length = l.length
 | [], u, e => by simp only [eB, Option.some.injEq] at e; subst e; rfl
 | v :: r, u, e => by
  simp only [eB] at e
  split at e
  ·split at e
   ·rename_i l hl
    injection e with e; subst e
    simp [pF hl]
   ·cases e
  ·cases e
theorem nK (hr : HRel S w ρ h) : ∀ (n : Nat) {v u : V} {x : Value}, iH h n v = some u → VRel S w ρ v x → VRel (ky S ρ h) w ρ0 u x
 | 0, v, u, x, e, _ => by cases e
 | n + 1, v, u, x, e, hx => by
  have ihL : ∀ {l us : List V} {xs : List Value}, eB (iH h n) l = some us → LRel S w ρ l xs → LRel (ky S ρ h) w ρ0 us xs := fun {l} => by
   induction l with
   | nil => intro us xs e hx; simp only [eB, Option.some.injEq] at e; subst e; simpa only [LRel] using hx
   | cons v r ih =>
    intro us xs e hx
    simp only [eB] at e
    split at e
    ·rename_i u hu
     split at e
     ·rename_i l hl
      injection e with e; subst e
      simp only [LRel] at hx ⊢
      obtain ⟨y, ys, rfl, h1, h2⟩ := hx
      exact ⟨y, ys, rfl, nK hr n hu h1, ih hl h2⟩
     ·cases e
    ·cases e
  have ihC : ∀ {sz : Nat} {l us : List V} {xs : List Value}, eB (iH h n) l = some us → CRel S w ρ sz l xs → CRel (ky S ρ h) w ρ0 sz us xs := fun {sz l} => by
   induction l with
   | nil => intro us xs e hx; simp only [eB, Option.some.injEq] at e; subst e; simpa only [CRel] using hx
   | cons v r ih =>
    intro us xs e hx
    simp only [eB] at e
    split at e
    ·rename_i u hu
     split at e
     ·rename_i l hl
      injection e with e; subst e
      simp only [CRel] at hx ⊢
      obtain ⟨y, ys, rfl, h0, h1, h2⟩ := hx
      exact ⟨y, ys, rfl, h0, nK hr n hu h1, ih hl h2⟩
     ·cases e
    ·cases e
  have pur : ∀ v : V, v.pure = true → VRel S w ρ v x → VRel (ky S ρ h) w ρ0 v x := fun v hp hx => VRel.up ta (hx.pure (ρ' := ρ0) hp)
  simp only [iH] at e
  split at e
  ·rename_i id
   split at e
   ·rename_i et sz els ho
    split at e
    ·rename_i l hl
     injection e with e; subst e
     simp only [VRel] at hx
     obtain ⟨v, xs, h1, h2, h3⟩ := dB hr ho
     rw [hx.1] at h1
     cases h1
     obtain ⟨A, c, rfl, hc, hcm⟩ := bZ h2
     have hlen := pF hl
     simp only [VRel]
     refine ⟨A, c, xs, by rw [hlen], by rw [hlen]; exact hc, hcm, ihC hl h3, by rw [hlen]; exact h3.length, fun hn => ?_⟩
     rw [hlen] at hn ⊢
     obtain ⟨g, cap, hv, _, hlt⟩ := h2.form hn
     injection hv with e1 e2 e3
     subst e1 e3
     exact ⟨g, 0, rfl, .inr ⟨id, by rw [ho]; exact ⟨_, hx.1, rfl⟩⟩, hlt, fun j hj => by rw [Nat.zero_add]; exact iK h2 hj⟩
    ·cases e
   ·cases e
  ·split at e
   ·rename_i l hl
    injection e with e; subst e
    simp only [VRel] at hx ⊢
    obtain ⟨xs, rfl, h1⟩ := hx
    exact ⟨xs, rfl, ihL hl h1⟩
   ·cases e
  ·split at e
   ·rename_i hp
    injection e with e; subst e
    exact pur _ hp hx
   ·cases e
theorem oJ (hr : HRel S w ρ h) {n : Nat} : ∀ {l us : List V} {xs : List Value}, eB (iH h n) l = some us → LRel S w ρ l xs → LRel (ky S ρ h) w ρ0 us xs
 | [], us, xs, e, hx => by simp only [eB, Option.some.injEq] at e; subst e; simpa only [LRel] using hx
 | v :: r, us, xs, e, hx => by
  simp only [eB] at e
  split at e
  ·rename_i u hu
   split at e
   ·rename_i l hl
    injection e with e; subst e
    simp only [LRel] at hx ⊢
    obtain ⟨y, ys, rfl, h1, h2⟩ := hx
    exact ⟨y, ys, rfl, nK hr n hu h1, oJ hr hl h2⟩
   ·cases e
  ·cases e
end
theorem tC {P : Program} {T : Tab} (hT : TabOk P T) (hm : P.follows .mixedOrders = true) {k n : Nat} {fid : FuncId} {vs rs us0 us : List V} {H1 : Hp} (hp : pureL vs = true) (hq : (eu us).pure = true) (h : qo T k fid vs ⟨0, []⟩ = some (rs, H1)) (hd : eB (iH H1.get n) rs = some us0) (hc : ∀ {S w ys}, LRel S w ρ0 us0 ys → LRel S w ρ0 us ys) : jf P fid vs (eu us) := ⟨hp, hq, fun S w ρ xs hr hx => by
 refine (rb hT hm h hr hx).2.mono fun e w' hR => ?_
 obtain ⟨S', ρ', ys, rfl, hr', hi, hl⟩ := hR
 have hno : ∀ b, ¬ ∃ id, own ρ id ((⟨0, []⟩ : Hp).get id) b := fun b ⟨id, hb⟩ => by rw [eT] at hb; exact hb
 have hk : ∀ b, ky S' ρ' H1.get b → S b ∨ w.heap.size ≤ b := fun b hb => by
  rcases hb with hb | ⟨id, hb⟩
  ·rcases hi.s1 b hb with h | h | h
   ·exact .inl h
   ·exact absurd h (hno b)
   ·exact .inr h
  ·rcases hi.ow id b hb with h | h
   ·exact absurd h (hno b)
   ·exact .inr h
 have hup : Up S' (ky S' ρ' H1.get) w' w' ρ0 ρ0 := ta
 refine ⟨_, ky S' ρ' H1.get, ρ, eu us, ⟨0, []⟩, rfl, rfl, ⟨fun i => ?_, fun i b hb => ?_, fun i j b hb _ => ?_, hr'.slt.up hup fun b hb => ?_⟩, ⟨hi.chg, fun b hb => .inl (hi.s0 b hb), fun b hb => (hk b hb).elim .inl fun h => .inr (.inr h), fun id b hb => ?_, fun id x h => ?_⟩, (nD (hc (oJ hr' hd hl))).up up0⟩
 ·have := hr.ob i; rw [eT] at this ⊢; exact this
 ·rw [eT] at hb; exact hb.elim
 ·rw [eT] at hb; exact hb.elim
 ·rcases hb with hb | ⟨id, hb⟩
  ·exact hr'.slt b hb
  ·exact cd (hr'.ob id) hb
 ·rw [eT] at hb; exact hb.elim
 ·simp only [jF] at h
  split at h
  ·exact h
  ·cases h⟩
theorem sF (t : Tree) (q : List Int) : pureL [.agg (aq t), .row 1 (q.map (V.int .i64))] = true := rfl
theorem qG (u : Tree) : (eu [.agg (aq u), .bool true]).pure = true := rfl
noncomputable def fnA : List (Nat × Func) := [(18, Tryz.f18), (29, Tryz.f29), (30, Tryz.f30), (53, Tryz.f53), (54, Tryz.f54)]
theorem yt : ∀ i f, eV fnA i = some f → Tryz.prog.funcs[i]? = some f ∧ bf Tryz.prog i = true := qa ⟨⟨Tryz.func18, by kernel_rfl⟩, ⟨Tryz.func29, by kernel_rfl⟩, ⟨Tryz.func30, by kernel_rfl⟩, ⟨Tryz.func53, by kernel_rfl⟩, ⟨Tryz.func54, by kernel_rfl⟩, trivial⟩
noncomputable def xU : Tab := ⟨true, eV tyL, eV fnA, ss, fun _ => true⟩
theorem wh : TabOk Tryz.prog xU := ⟨qe, yt, ru.nat⟩
noncomputable def rE (k : Nat) (t : Tree) (q : List Int) (u : Tree) : Bool := match qo xU k 18 [.agg (aq t), .row 1 (q.map (V.int .i64))] ⟨0, []⟩ with
 |some (rs, H1) => match eB (iH H1.get 30) rs with
  | some [v, .bool b] => treeB u v && b
  | _ => false
 | none => false
theorem lS {k : Nat} {t u : Tree} {q : List Int} (h : rE k t q u = true) : jq t q u true := by
 unfold rE at h
 split at h
 ·rename_i rs H1 h1
  split at h
  ·rename_i v b h2
   simp only [Bool.and_eq_true] at h
   obtain ⟨h3, rfl⟩ := h
   refine tC (us := [.agg (aq u), .bool true]) wh (by kernel_rfl) (sF t q) (qG u) h1 h2 fun {S w ys} hl => ?_
   simp only [LRel] at hl ⊢
   obtain ⟨x, _, rfl, hv, y, _, rfl, hb, rfl⟩ := hl
   obtain ⟨c, rfl, hT⟩ := treeB_ok h3 hv
   exact ⟨_, _, rfl, by simp only [VRel]; exact ⟨_, rfl, hT.vrel⟩, _, _, rfl, hb, rfl⟩
  ·cases h
 ·cases h
theorem tR {l : List ae} (hl : l.length ≤ 19) (hs : ∀ (i : Nat) (a b : ae), l[i]? = some a → l[i + 1]? = some b → ∃ n, cM b a n ∧ ¬ n < 0) : bn l 0 (l.length : Nat) l := by
 have loop : ∀ k i, 1 ≤ i → (k + i = l.length ∨ (k = 0 ∧ l.length ≤ i)) → i ≤ 21 → aT (2 * k + 1) 0 (l.length : Nat) (i : Nat) l l := fun k => by
  induction k with
  | zero => intro i h1 h2 h3; exact df 0 _ _ _ _ _ (⟨fun h => absurd h (by omega), fun _ => rfl⟩)
  | succ k ih =>
   intro i h1 h2 h3
   obtain ⟨j, rfl⟩ : ∃ j, i = j + 1 := ⟨i - 1, by omega⟩
   obtain ⟨a, ha⟩ : ∃ a, l[j]? = some a := ⟨_, List.getElem?_eq_getElem (by omega)⟩
   obtain ⟨b, hb⟩ : ∃ b, l[j + 1]? = some b := ⟨_, List.getElem?_eq_getElem (by omega)⟩
   obtain ⟨n, hn, hn0⟩ := hs j a b ha hb
   refine df (2 * k + 2) _ _ _ _ _ (⟨fun _ => ?_, fun h => absurd (by omega) h⟩)
   refine fW (2 * k + 1) _ _ _ _ _ _ (⟨fun _ => ⟨j + 1, rfl, b, hb, ⟨by omega, by omega⟩, j, by omega, a, ha, n, hn, fun h => absurd h hn0, fun _ => ⟨⟨by omega, by omega⟩, ?_⟩⟩, fun h => absurd (by omega) h⟩)
   have := ih (j + 2) (by omega) (by omega) (by omega)
   rw [show (((j + 1 : Nat) : Int) + 1) = ((j + 2 : Nat) : Int) by omega]
   exact this
 refine gu (2 * (l.length - 1) + 1) _ _ _ _ (⟨⟨by omega, by omega⟩, ?_⟩)
 have := loop (l.length - 1) 1 (by omega) (by omega) (by omega)
 simpa using this
theorem mc {l : List ae} (hl : l.length ≤ 19) (hs : ∀ (i : Nat) (a b : ae), l[i]? = some a → l[i + 1]? = some b → ∃ n, cM b a n ∧ ¬ n < 0) : aR l l := by
 refine iP 0 _ _ (⟨l, ?_, rfl⟩)
 refine jj 2 _ _ _ (?_)
 exact iN 1 _ _ _ _ _ (⟨fun h => absurd h (by omega), fun _ => ⟨l, tR hl hs, iV 0 _ _ _ _ (⟨fun h => absurd h (by omega), fun _ => rfl⟩)⟩⟩)
theorem sN : aR [] [] := mc (by simp) fun i a b h => (by simp at h)
theorem ti (a : ae) : aR [a] [a] := mc (by simp) fun i x b _ h => (by simp at h)
theorem vt (a b : Int) : dT a b (if a < b then -1 else if b < a then 1 else 0) := by
 have hn : ∀ z, ic z false := fun z => pn 0 _ _ (by simp)
 refine nI 0 _ _ _ (⟨_, hn a, _, hn b, fun h => (by cases h), fun _ => ⟨fun h => (by cases h), fun _ => ⟨fun h => ?_, fun h => ⟨fun h' => ?_, fun h' => ?_⟩⟩⟩⟩)
 ·rw [if_pos h]
 ·rw [if_neg h, if_pos h']
 ·rw [if_neg h, if_neg h']
theorem sV {a b : ae} {x y : Int} {p q : List Int} (hm : a.At.Module = b.At.Module) (ha : a.At.Path = x :: p) (hb : b.At.Path = y :: q) (hxy : y < x) : cM a b 1 := by
 have h0 := vt a.At.Module b.At.Module
 rw [hm, if_neg (by omega), if_neg (by omega)] at h0
 have h1 := vt x y
 rw [if_neg (by omega), if_pos hxy] at h1
 refine lw 0 _ _ _ (⟨0, by rw [hm]; exact h0, fun h => absurd rfl h, fun _ => ⟨1, ?_, fun _ => rfl, fun h => absurd h (by decide)⟩⟩)
 rw [ha, hb]
 exact lY 1 _ _ _ (la 0 _ _ _ _ (⟨fun _ => ⟨x, rfl, fun h => absurd h (by simp), fun _ => ⟨y, rfl, 1, h1, fun _ => rfl, fun h => absurd h (by decide)⟩⟩, fun h => absurd (by simp) h⟩))
def pg (f : Tree) : Bool := shapeK f && (f.kind == 2) && ((f.kids.take (f.kids.length - 2)).all fun u => (leafK (cV u 0)).kind != 9) && ((leafK (cV f (f.kids.length - 2))).kind != 9)
def nP (p : List Tree) : Bool := p.all fun t => (t.kind == 1) && shapeK t && t.kids.all pg
theorem vf {f : Tree} (h : pg f = true) : FunOk f := by
 simp only [pg, Bool.and_eq_true, beq_iff_eq, List.all_eq_true, bne_iff_ne, ne_eq] at h
 obtain ⟨⟨⟨h1, h2⟩, h3⟩, h4⟩ := h
 refine ⟨h1, h2, fun i u hu hi => h3 u ?_, h4⟩
 have : (f.kids.take (f.kids.length - 2))[i]? = some u := by rw [List.getElem?_take, if_pos (by omega)]; exact hu
 exact List.mem_of_getElem? this
theorem li {p : List Tree} (h : nP p = true) : ProgOk p := by
 simp only [nP, List.all_eq_true, Bool.and_eq_true, beq_iff_eq] at h
 exact ⟨fun m t ht => (h t (List.mem_of_getElem? ht)).1, fun m t d f ht hf => vf ((h t (List.mem_of_getElem? ht)).2 f (List.mem_of_getElem? hf))⟩
structure Known (p : List Tree) : Prop where
 ok : nP p = true
 b : kbulk p ≤ 10000000
 u : uNs p ≤ (cG p).length
theorem Known.errs {p : List Tree} (k : Known p) {r : List ae} (hs : aR (dP p 0 []).fa r) : bj p r := uv (li k.ok) k.b k.u hs
def yd : List UInt8 := [109, 111, 100, 117, 108, 101, 32, 77, 32, 100, 101, 102, 32, 102, 40, 41, 58, 32, 73, 110, 116, 32, 61, 32, 49, 32, 43, 32, 34, 97, 34, 32, 100, 101, 102, 32, 103, 40, 120, 58, 32, 66, 111, 111, 108, 41, 58, 32, 73, 110, 116, 32, 61, 32, 105, 102, 32, 120, 32, 116, 104, 101, 110, 32, 49, 32, 101, 108, 115, 101, 32, 103, 40, 41]
def iy : Tree := (xt yd).1
end Go.Proofs.YtkkkpdbnnjoepaaGreatDoor
