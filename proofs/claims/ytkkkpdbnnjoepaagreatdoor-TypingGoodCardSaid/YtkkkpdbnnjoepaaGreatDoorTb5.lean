/- Contracts of the functions that the law reaches, part 5. -/
import Derived.Test.YtkkkpdbnnjoepaaGreatDoorTb4
set_option linter.unusedVariables false
set_option linter.unusedSimpArgs false
namespace Go.Proofs.YtkkkpdbnnjoepaaGreatDoor
open Go.RowKit Lx Sx
set_option maxRecDepth 100000
set_option maxHeartbeats 1000000
def hD : Nat → Cx → Tree → Sv → Sv
 | 0, _, _, s => s
 | n + 1, x, u, s => if u.kind = 9 then (if (s.tg.headD noT).Free then faP x 1 [] (cr s) else cr s) else if u.kind = 8 then hD n (x.go ((0 : Nat) : Int)) (dp u 0) s else s
abbrev ckT (x : Cx) (s : Sv) (t : Tree) (i : Int) (s' : Sv) : Prop := bh x.p s.tg x.nm x.sg x.mo x.pa s.fa x.wm x.wp s.rs s.rl t i x.p s'.tg x.nm x.sg x.mo x.pa s'.fa x.wm x.wp s'.rs s'.rl
structure Sst (B u : Nat) (s s' : Sv) : Prop where
 tg : s'.tg = s.tg.drop u
 fa : s'.fa.length ≤ s.fa.length + 4 * B
theorem uT : ∀ (n : Nat) (u : Tree), tbulk u ≤ n → tyK u → ∀ (t : Tree) (i : Nat) (x : Cx) (s : Sv), t.kids[i]? = some u → x.pa.length + tbulk u + 1 ≤ 100000000 → s.fa.length + 1 ≤ 900000000 → uN u ≤ s.tg.length → ckT x s t i (hD n (x.go i) u s) ∧ Sst (tbulk u) (uN u) s (hD n (x.go i) u s)
 | 0, u, hb, _, _, _, _, _, _, _, _, _ => by have := dg u; omega
 | n + 1, u, hb, hu, t, i, x, s, ht, h1, h2, h3 => by
  have hbu := df u
  have hlen : x.pa.length + 1 ≤ 1000000000 := by omega
  rcases tT hu with ⟨h8, _, v, hv, hvt⟩ | ⟨h8, hk, _⟩
  ·rw [hv] at hbu
   simp only [kbulk] at hbu
   have hU : uN u = uN v := by rw [fo, hv, h8]; simp [uNs]
   have hv0 : u.kids[0]? = some v := by rw [hv]; rfl
   have e : hD (n + 1) (x.go i) u s = hD n ((x.go i).go ((0 : Nat) : Int)) v s := by simp [hD, h8, fZ hv0]
   obtain ⟨a1, a2⟩ := uT n v (by omega) hvt u 0 (x.go i) s hv0 (by simp [Cx.go]; omega) h2 (by omega)
   rw [e]
   refine ⟨cW 0 _ _ _ _ _ _ _ _ _ _ _ _ _ _ _ _ _ _ _ _ _ _ _ _ (⟨_, _, _, _, _, _, _, _, _, _, _, fi (x := x) (s := s) (i : Int) hlen, i, rfl, u, ht, fun h => absurd h (by omega), fun _ => ⟨fun _ => ⟨_, _, _, _, _, _, _, _, _, _, _, a1, _, _, _, _, _, _, _, _, _, _, _, fh (x := x) (i : Int), rfl, rfl, rfl, rfl, rfl, rfl, rfl, rfl, rfl, rfl, rfl⟩, fun h => absurd h8 h⟩⟩), ?_⟩
   exact ⟨by rw [a2.tg, hU], by have := a2.fa; omega⟩
  ·by_cases h9 : u.kind = 9
   ·have hU : uN u = 1 := by rw [fo, hk, h9]; simp [uNs]
    have huse := yV (x := x.go i) (s := s) (by omega)
    have e : hD (n + 1) (x.go i) u s = if (s.tg.headD noT).Free then faP (x.go i) 1 [] (cr s) else cr s := by simp [hD, h9]
    rw [e]
    by_cases hf : (s.tg.headD noT).Free = true
    ·rw [if_pos hf]
     refine ⟨cW 0 _ _ _ _ _ _ _ _ _ _ _ _ _ _ _ _ _ _ _ _ _ _ _ _ (⟨_, _, _, _, _, _, _, _, _, _, _, fi (x := x) (s := s) (i : Int) hlen, i, rfl, u, ht, fun _ => ⟨_, _, _, _, _, _, _, _, _, _, _, _, huse, fun _ => ⟨_, _, _, _, _, _, _, _, _, _, _, bX (x := x.go i) (s := cr s) 1 [] (by simp [Cx.go]; omega) (by simp [cr]; omega), _, _, _, _, _, _, _, _, _, _, _, fh (x := x) (s := faP (x.go i) 1 [] (cr s)) (i : Int), rfl, rfl, rfl, rfl, rfl, rfl, rfl, rfl, rfl, rfl, rfl⟩, fun h => absurd hf (by rw [h]; decide)⟩, fun h => absurd h9 h⟩), ?_⟩
     exact ⟨by rw [hU]; rfl, by rw [bI]; simp [cr]; omega⟩
    ·rw [if_neg hf]
     refine ⟨cW 0 _ _ _ _ _ _ _ _ _ _ _ _ _ _ _ _ _ _ _ _ _ _ _ _ (⟨_, _, _, _, _, _, _, _, _, _, _, fi (x := x) (s := s) (i : Int) hlen, i, rfl, u, ht, fun _ => ⟨_, _, _, _, _, _, _, _, _, _, _, _, huse, fun h => absurd h hf, fun _ => ⟨_, _, _, _, _, _, _, _, _, _, _, fh (x := x) (s := cr s) (i : Int), rfl, rfl, rfl, rfl, rfl, rfl, rfl, rfl, rfl, rfl, rfl⟩⟩, fun h => absurd h9 h⟩), ?_⟩
     exact ⟨by rw [hU]; rfl, by simp [cr]⟩
   ·have hU : uN u = 0 := by rw [fo, hk, if_neg]; simp [uNs]; have := hu.2; simp [kQ] at this; omega
    have e : hD (n + 1) (x.go i) u s = s := by simp [hD, h9, h8]
    rw [e]
    exact ⟨cW 0 _ _ _ _ _ _ _ _ _ _ _ _ _ _ _ _ _ _ _ _ _ _ _ _ (⟨_, _, _, _, _, _, _, _, _, _, _, fi (x := x) (s := s) (i : Int) hlen, i, rfl, u, ht, fun h => absurd h h9, fun _ => ⟨fun h => absurd h h8, fun _ => ⟨_, _, _, _, _, _, _, _, _, _, _, fh (x := x) (s := s) (i : Int), rfl, rfl, rfl, rfl, rfl, rfl, rfl, rfl, rfl, rfl, rfl⟩⟩⟩), by rw [hU]; rfl, by omega⟩
def ly (x : Cx) : List Tree → Nat → Sv → Sv
 | [], _, s => s
 | k :: r, i, s => ly x r (i + 1) (hD (tbulk (dp k 0)) ((x.go i).go ((0 : Nat) : Int)) (dp k 0) s)
def iP : List Tree → List Kn → Env
 | k :: r, q :: l => ⟨k.text, q⟩ :: iP r l
 | _, _ => []
def funQ (x : Cx) (i : Nat) (r : Kn) : Kn × Sv → Sv
 | (k, s) => if aP k r then faP x 4 [(i : Int)] s else s
def iH (x : Cx) (f : Tree) (g : aa) (s : Sv) : Sv :=
 funQ x (f.kids.length - 1) g.result (aR (dS (tbulk f)) x f (f.kids.length - 1) (iP (f.kids.take (f.kids.length - 2)) g.params) (hD (tbulk f) (x.go ((f.kids.length - 2 : Nat) : Int)) (dp f (f.kids.length - 2)) (ly x (f.kids.take (f.kids.length - 2)) 0 s)))
abbrev ckU (x : Cx) (s : Sv) (f : Tree) (g : aa) (s' : Sv) : Prop := cc x.p s.tg x.nm x.sg x.mo x.pa s.fa x.wm x.wp s.rs s.rl f g x.p s'.tg x.nm x.sg x.mo x.pa s'.fa x.wm x.wp s'.rs s'.rl
theorem mO {f : Tree} (hs : shapeK f = true) (h2 : f.kind = 2) : 2 ≤ f.kids.length ∧ (∀ (i : Nat) (u : Tree), f.kids[i]? = some u → i + 2 < f.kids.length → ∃ v, u.kind = 4 ∧ u.kids = [v] ∧ tyK v) ∧ (∀ u, f.kids[f.kids.length - 2]? = some u → tyK u) ∧ (∀ u, f.kids[f.kids.length - 1]? = some u → exT u) := by
 rw [dW] at hs
 simp only [Bool.and_eq_true, decide_eq_true_eq] at hs
 have hl := hs.1.1
 rw [h2] at hl
 have h1 := (jx (show 0 ≤ f0 f.kids.length 2 6 2 (-1) from hl)).1
 refine ⟨by omega, fun i u hu hi => ?_, fun u hu => ?_, fun u hu => ?_⟩
 ·obtain ⟨g1, g2⟩ := dT hs.2 hu
  rw [h2] at g1
  simp only [bc] at g1
  rw [if_neg (by omega), if_pos trivial, if_neg (by omega), if_neg (by omega)] at g1
  have h4 : u.kind = 4 := by simpa using g1
  rw [dW] at g2
  simp only [Bool.and_eq_true, decide_eq_true_eq] at g2
  have hl2 := g2.1.1
  rw [h4] at hl2
  have := jx (show 0 ≤ f0 u.kids.length 1 2 0 1 from hl2)
  obtain ⟨v, ev⟩ := vL (t := u) (by omega)
  have hv : u.kids[0]? = some v := by rw [ev]; rfl
  obtain ⟨g3, g4⟩ := dT g2.2 hv
  rw [h4] at g3
  exact ⟨v, h4, ev, g4, by simpa [bc] using g3⟩
 ·obtain ⟨g1, g2⟩ := dT hs.2 hu
  rw [h2] at g1
  simp only [bc] at g1
  rw [if_neg (by omega), if_pos trivial, if_neg (by omega), if_pos (by omega)] at g1
  exact ⟨g2, g1⟩
 ·obtain ⟨g1, g2⟩ := dT hs.2 hu
  rw [h2] at g1
  simp only [bc] at g1
  rw [if_neg (by omega), if_pos trivial, if_pos (by omega)] at g1
  exact ⟨g2, g1⟩
theorem wI {f : Tree} {g : aa} {x : Cx} {n : Nat} (hn : n ≤ f.kids.length) (hf : ∀ (i : Nat) (u : Tree), (f.kids.take n)[i]? = some u → ∃ v, u.kind = 4 ∧ u.kids = [v] ∧ tyK v) (hl : f.kids.length ≤ 100000000) : ∀ (k i : Nat) (s : Sv), k + i = n → x.pa.length + kbulk ((f.kids.take n).drop i) + 2 ≤ 100000000 → s.fa.length + 4 * kbulk ((f.kids.take n).drop i) + 1 ≤ 900000000 → uNs ((f.kids.take n).drop i) ≤ s.tg.length →
  Sst (kbulk ((f.kids.take n).drop i)) (uNs ((f.kids.take n).drop i)) s (ly x ((f.kids.take n).drop i) i s) ∧ ∀ (m : Nat) (s' : Sv), (∀ s1, s1 = ly x ((f.kids.take n).drop i) i s → bj m f g n x.sg x.nm x.p s1.tg x.mo x.pa s1.fa x.wm x.wp s1.rs s1.rl n x.p s'.tg x.nm x.sg x.mo x.pa s'.fa x.wm x.wp s'.rs s'.rl) → ∃ m', bj m' f g n x.sg x.nm x.p s.tg x.mo x.pa s.fa x.wm x.wp s.rs s.rl i x.p s'.tg x.nm x.sg x.mo x.pa s'.fa x.wm x.wp s'.rs s'.rl
 | 0, i, s, hk, _, _, _ => by
  have hd : (f.kids.take n).drop i = [] := List.drop_of_length_le (by simp; omega)
  have hi : i = n := by omega
  subst hi
  rw [hd]
  exact ⟨⟨by simp [ly, uNs], by simp [ly]⟩, fun m s' h => ⟨m, h _ rfl⟩⟩
 | k + 1, i, s, hk, h1, h2, h3 => by
  have hlt : i < (f.kids.take n).length := by simp; omega
  obtain ⟨u, hu⟩ : ∃ u, (f.kids.take n)[i]? = some u := ⟨_, List.getElem?_eq_getElem hlt⟩
  obtain ⟨v, hv4, hv, hvt⟩ := hf i u hu
  have hd := be hu
  have hbu := df u
  rw [hv] at hbu
  rw [hd] at h1 h2 h3 ⊢
  simp only [kbulk, uNs] at h1 h2 h3 hbu ⊢
  have hv0 : u.kids[0]? = some v := by rw [hv]; rfl
  have hU : uN u = uN v := by rw [fo, hv, hv4]; simp [uNs]
  obtain ⟨a1, a2⟩ := uT (tbulk v) v (Nat.le_refl _) hvt u 0 (x.go i) s hv0 (by simp [Cx.go]; omega) (by omega) (by omega)
  have e : ly x (u :: (f.kids.take n).drop (i + 1)) i s = ly x ((f.kids.take n).drop (i + 1)) (i + 1) (hD (tbulk v) ((x.go i).go ((0 : Nat) : Int)) v s) := by
   rw [ly, fZ hv0]
  rw [e]
  generalize hD (tbulk v) ((x.go i).go ((0 : Nat) : Int)) v s = s1 at a1 a2
  have q1 := a2.fa
  have q2 := a2.tg
  obtain ⟨b1, b2⟩ := wI (g := g) (x := x) hn hf hl k (i + 1) s1 (by omega) (by omega) (by omega) (by rw [q2, List.length_drop]; omega)
  refine ⟨⟨by rw [b1.tg, q2, List.drop_drop, hU], by have := b1.fa; omega⟩, fun m s' h => ?_⟩
  obtain ⟨m', hm⟩ := b2 m s' h
  exact ⟨m' + 1, eP m' _ _ _ _ _ _ _ _ _ _ _ _ _ _ _ _ _ _ _ _ _ _ _ _ _ _ (⟨fun _ => ⟨u, hu, _, _, _, _, _, _, _, _, _, _, _, fi (x := x) (s := s) (i : Int) (by omega), _, _, _, _, _, _, _, _, _, _, _, a1, _, _, _, _, _, _, _, _, _, _, _, fh (x := x) (s := s1) (i : Int), by omega, hm⟩, fun h => absurd hlt h⟩)⟩
theorem yN {f : Tree} {g : aa} {x : Cx} {s s' : Sv} {n : Nat} (hn : n + 2 = f.kids.length) (hg : n ≤ g.params.length) (hl : f.kids.length ≤ 100000000) {m0 : Nat} (fin : aX m0 f g x.p s.tg x.nm x.sg x.mo x.pa s.fa x.wm x.wp s.rs s.rl (iP (f.kids.take n) g.params) (-1) x.p s'.tg x.nm x.sg x.mo x.pa s'.fa x.wm x.wp s'.rs s'.rl) : ∀ k, k ≤ n → aX (m0 + k) f g x.p s.tg x.nm x.sg x.mo x.pa s.fa x.wm x.wp s.rs s.rl (iP ((f.kids.take n).drop k) (g.params.drop k)) ((k : Int) - 1) x.p s'.tg x.nm x.sg x.mo x.pa s'.fa x.wm x.wp s'.rs s'.rl
 | 0, _ => by simpa using fin
 | k + 1, hk => by
  have ih := yN hn hg hl fin k (by omega)
  obtain ⟨u, hu⟩ : ∃ u, f.kids[k]? = some u := ⟨_, List.getElem?_eq_getElem (by omega)⟩
  obtain ⟨q, hq⟩ : ∃ q, g.params[k]? = some q := ⟨_, List.getElem?_eq_getElem (by omega)⟩
  have hu' : (f.kids.take n)[k]? = some u := by rw [List.getElem?_take, if_pos (by omega)]; exact hu
  rw [be hu', be hq] at ih
  have e : (((k + 1 : Nat) : Int) - 1) = (k : Int) := by omega
  rw [e]
  exact eU (m0 + k) _ _ _ _ _ _ _ _ _ _ _ _ _ _ _ _ _ _ _ _ _ _ _ _ _ _ (⟨fun _ => ⟨k, rfl, u, hu, k, rfl, q, hq, ⟨by omega, by omega⟩, ih⟩, fun h => absurd (by omega) h⟩)
theorem vy {f : Tree} {g : aa} {x : Cx} {s : Sv} {L : Nat} (hs : shapeK f = true) (h2 : f.kind = 2) (hg : f.kids.length = g.params.length + 2) (hp : x.pa.length + tbulk f + 2 ≤ 100000000) (hf : s.fa.length + 4 * tbulk f + 1 ≤ 900000000) (ht : uN f ≤ s.tg.length) (hL : L + tbulk f ≤ 900000000) (hgp : ∀ q ∈ g.params, KOk L q) (hsg : ∀ k q, mlook k x.sg = some q → KOk L q.result) :
  ckU x s f g (iH x f g s) ∧ Sst (tbulk f) (uN f) s (iH x f g s) := by
 obtain ⟨s1, s2, s3, s4⟩ := mO hs h2
 have hkl := dg f
 have hB := df f
 obtain ⟨n, hn⟩ : ∃ n, n + 2 = f.kids.length := ⟨f.kids.length - 2, by omega⟩
 obtain ⟨r, hr⟩ : ∃ r, f.kids[n]? = some r := ⟨_, List.getElem?_eq_getElem (by omega)⟩
 obtain ⟨b, hb⟩ : ∃ b, f.kids[n + 1]? = some b := ⟨_, List.getElem?_eq_getElem (by omega)⟩
 have hrt := s3 r (by rw [show f.kids.length - 2 = n by omega]; exact hr)
 have hbx := s4 b (by rw [show f.kids.length - 1 = n + 1 by omega]; exact hb)
 have hsplit : f.kids = f.kids.take n ++ [r, b] := by
  have e1 : f.kids.drop n = [r, b] := by
   rw [be hr, be hb, List.drop_of_length_le (by omega)]
  rw [← e1, List.take_append_drop]
 have hKB : kbulk f.kids = kbulk (f.kids.take n) + tbulk r + tbulk b := by
  have : ∀ a c : List Tree, kbulk (a ++ c) = kbulk a + kbulk c := fun a c => by induction a with
   | nil => simp [kbulk]
   | cons y l ih => simp only [List.cons_append, kbulk, ih]; omega
  conv => lhs; rw [hsplit, this]
  simp [kbulk]; omega
 have hUU : uN f = uNs (f.kids.take n) + uN r + uN b := by
  have : ∀ a c : List Tree, uNs (a ++ c) = uNs a + uNs c := fun a c => by induction a with
   | nil => simp [uNs]
   | cons y l ih => simp only [List.cons_append, uNs, ih]; omega
  rw [fo, h2]
  conv => lhs; rw [hsplit, this]
  simp [uNs]; omega
 have hpar : ∀ (i : Nat) (u : Tree), (f.kids.take n)[i]? = some u → ∃ v, u.kind = 4 ∧ u.kids = [v] ∧ tyK v := fun i u hu => by
  rw [List.getElem?_take] at hu
  split at hu
  ·exact s2 i u hu (by omega)
  ·cases hu
 obtain ⟨A1, A2⟩ := wI (f := f) (g := g) (x := x) (n := n) (by omega) hpar (by omega) n 0 s (by omega) (by simp; omega) (by simp; omega) (by simp; omega)
 simp only [List.drop_zero] at A1 A2
 obtain ⟨sA, hsA⟩ : ∃ sA, sA = ly x (f.kids.take n) 0 s := ⟨_, rfl⟩
 rw [← hsA] at A1
 have qA := A1.fa
 have qT := A1.tg
 obtain ⟨B1, B2⟩ := uT (tbulk f) r (by omega) hrt f n x sA hr (by omega) (by omega) (by rw [qT, List.length_drop]; omega)
 obtain ⟨sB, hsB⟩ : ∃ sB, sB = hD (tbulk f) (x.go (n : Int)) r sA := ⟨_, rfl⟩
 rw [← hsB] at B1 B2
 have rA := B2.fa
 have rT := B2.tg
 obtain ⟨C1, C2⟩ := dx (rP (tbulk f)) (x := x) (env := iP (f.kids.take n) g.params) (s := sB) (L := L) hb (by omega) hbx ⟨by omega, by omega, by rw [rT, qT, List.drop_drop, List.length_drop]; omega, by omega, fun c hc => by
  have : ∀ (ks : List Tree) (ps : List Kn), (∀ q ∈ ps, KOk L q) → ∀ c ∈ iP ks ps, KOk L c.typ := fun ks => by
   induction ks with
   | nil => intro ps _ c hc; simp [iP] at hc
   | cons k r ih =>
    intro ps hps c hc
    cases ps with
    | nil => simp [iP] at hc
    | cons q l =>
     simp only [iP, List.mem_cons] at hc
     rcases hc with rfl | hc
     ·exact hps q List.mem_cons_self
     ·exact ih l (fun q hq => hps q (List.mem_cons_of_mem _ hq)) c hc
  exact this _ _ hgp c hc, hsg⟩
 have e0 : iH x f g s = funQ x (n + 1) g.result (aR (dS (tbulk f)) x f (n + 1) (iP (f.kids.take n) g.params) sB) := by
  unfold iH
  rw [show f.kids.length - 1 = n + 1 by omega, show f.kids.length - 2 = n by omega, fZ hr, ← hsA, ← hsB]
 rw [e0]
 generalize aR (dS (tbulk f)) x f (n + 1) (iP (f.kids.take n) g.params) sB = w at C1 C2 ⊢
 obtain ⟨k, sC⟩ := w
 have cA := C2.fa
 have cT := C2.tg
 simp only at cA cT
 have ei : (((f.kids.length : Nat) : Int) - 2 + 1) = ((n + 1 : Nat) : Int) := by omega
 have fin : ∀ s', s' = funQ x (n + 1) g.result (k, sC) → aX 1 f g x.p sB.tg x.nm x.sg x.mo x.pa sB.fa x.wm x.wp sB.rs sB.rl (iP (f.kids.take n) g.params) (-1) x.p s'.tg x.nm x.sg x.mo x.pa s'.fa x.wm x.wp s'.rs s'.rl := fun s' hs' => by
  refine eU 0 _ _ _ _ _ _ _ _ _ _ _ _ _ _ _ _ _ _ _ _ _ _ _ _ _ _ (⟨fun h => absurd h (by omega), fun _ => ⟨⟨by omega, by omega⟩, _, _, _, _, _, _, _, _, _, _, _, _, by rw [ei]; exact C1, _, ea k g.result, fun h => ⟨⟨by omega, by omega⟩, ?_⟩, fun h => ?_⟩⟩)
  ·have : s' = faP x 4 [((n + 1 : Nat) : Int)] sC := by rw [hs']; unfold funQ; simp only [if_pos h]
   subst this
   exact ⟨_, _, _, _, _, _, _, _, _, _, _, by rw [ei]; exact bX (x := x) (s := sC) 4 [((n + 1 : Nat) : Int)] (by simp; omega) (by omega), rfl, rfl, rfl, rfl, rfl, rfl, rfl, rfl, rfl, rfl, rfl⟩
  ·have : s' = sC := by rw [hs']; unfold funQ; simp only [h]; simp
   subst this
   exact ⟨rfl, rfl, rfl, rfl, rfl, rfl, rfl, rfl, rfl, rfl, rfl⟩
 have st : Sst (tbulk f) (uN f) s (funQ x (n + 1) g.result (k, sC)) := by
  have : (funQ x (n + 1) g.result (k, sC)).tg = sC.tg ∧ (funQ x (n + 1) g.result (k, sC)).fa.length ≤ sC.fa.length + 1 := by
   unfold funQ
   simp only []
   split
   ·exact ⟨rfl, by rw [bI]; omega⟩
   ·exact ⟨rfl, by omega⟩
  exact ⟨by rw [this.1, cT, rT, qT, List.drop_drop, List.drop_drop, hUU, Nat.add_assoc], by have := this.2; omega⟩
 refine ⟨?_, st⟩
 obtain ⟨m', hm⟩ := A2 (1 + n + 1) (funQ x (n + 1) g.result (k, sC)) fun s1 hs1 => by
  rw [← hsA] at hs1
  subst hs1
  refine eP (1 + n) _ _ _ _ _ _ _ _ _ _ _ _ _ _ _ _ _ _ _ _ _ _ _ _ _ _ (⟨fun h => absurd h (by rw [List.length_take]; omega), fun _ => ⟨_, _, _, _, _, _, _, _, _, _, _, by rw [show ((f.kids.length : Nat) : Int) - 2 = (n : Int) by omega]; exact B1, ⟨by omega, by omega⟩, ?_⟩⟩)
  have := yN (x := x) (s := sB) (g := g) hn (by omega) (by omega) (fin _ rfl) n (Nat.le_refl _)
  rw [List.drop_of_length_le (by simp; omega)] at this
  rw [show ((f.kids.length : Nat) : Int) - 2 - 1 = (n : Int) - 1 by omega]
  simpa [iP] using this
 exact jz m' _ _ _ _ _ _ _ _ _ _ _ _ _ _ _ _ _ _ _ _ _ _ _ _ (⟨n, by omega, by omega, hm⟩)
set_option maxHeartbeats 4000000
def lP (p0 r0 : Tree) : Prop := qS 30 [.agg (ao p0)] (.agg (ao r0))
def ie (p0 : Tree) (p1 : List Int) (r0 : Tree) (r1 : Bool) : Prop := qS 18 [.agg (ao p0), .row 1 (List.map (V.int .i64) p1)] (.tup [.agg (ao r0), .bool r1])
theorem uF (m : Nat) (p0 : Tree) (p1 : List Int) (r0 : Tree) (r1 : Bool) (h : ∃ c b, lw p0 p1 c b ∧ ((b = false) → (Tree.node 0 [] [] []) = r0 ∧ false = r1) ∧ ((b = true) → ∃ a, lP c a ∧ a = r0 ∧ true = r1)) : ie p0 p1 r0 r1 := by
 refine ⟨rfl, rfl, ?_⟩
 refine al 19 [] Tryz.func18 rfl rfl rfl (aA rfl) fun K hK => ?_
 refine gR 3 rfl <| gFP 0 rfl rfl rfl rfl <| gR 8 rfl ?_
 obtain ⟨c, b, hs3, h⟩ := h
 refine gC0 hs3 (by kernel_rfl) rfl rfl .rfl rfl <| gR 15 rfl <| qBh 15 rfl rfl rfl h gL gK (fun h => ?_) fun h => ?_
 refine gR 10 rfl ?_
 obtain ⟨rfl, rfl⟩ := h
 exact go_sub (F' := (mkF 19 0 [(4, .ptr 0 0), (5, .bool false)])) (H' := ⟨1, [(0, vC ((Tree.node 0 [] [] []).kind) ((Tree.node 0 [] [] []).text) ((Tree.node 0 [] [] []).leads) ((Tree.node 0 [] [] []).kids))]⟩) [1] [] rfl hK pq2 ⟨⟨_, rfl, rfl, (.cons .rfl (.cons .rfl (.cons (.nil 1) (.cons (.nil 4) .nil))))⟩, trivial⟩ rfl <| go_end ah (rs := [.cell 4 29, .tmp 5]) rfl rfl rfl
 refine gR 6 rfl ?_
 obtain ⟨a, hs4, h⟩ := h
 refine gC0 hs4 (by kernel_rfl) rfl rfl .rfl rfl <| gR 5 rfl ?_
 obtain ⟨rfl, rfl⟩ := h
 exact go_sub (F' := (mkF 19 0 [(4, .ptr 0 0), (5, .bool true)])) (H' := ⟨1, [(0, vC a.kind a.text a.leads a.kids)]⟩) [1] [] rfl hK pq2 (pqo1 rfl rfl) rfl <| go_end ah (rs := [.cell 4 29, .tmp 5]) rfl rfl rfl
def br (p0 : List Tree) (r0 : List ae) : Prop := aV [] Tryz.prog 12 [.row 4 (kidsV p0)] ⟨0, []⟩ (fun u G => u = .sl 0 ∧ G = ⟨1, [(0, .row 42 3 (List.map ae.w r0))]⟩)
def jj (p0 : List Tree) (p1 : GPlace) (r0 : Tree) (r1 : Int) : Prop := qS 11 [.row 4 (kidsV p0), .agg (GPlace.c p1)] (.tup [.agg (ao r0), .int .i64 r1])
theorem oz (m : Nat) (p0 : List Tree) (r0 : List ae) (h : ∃ z, eV p0 z ∧ ((z = false) → ([] : List ae) = r0) ∧ ((z = true) → ∃ α β, ∃ (v : (List ((Int × (List UInt8)) × ac))), ∃ (y : (List ((Int × Int) × aa))), ∃ γ f g δ i j k, dK p0 α β v y γ f g δ i j k ∧ ∃ l n, ∃ (c : (List ((Int × (List UInt8)) × ac))), ∃ (d : (List ((Int × Int) × aa))), ∃ o e b q r s t, dk α β v y γ f g δ i j k l n c d o e b q r s t ∧ ∃ a, aW b a ∧ a = r0)) : br p0 r0 := by
 refine al 20 [] Tryz.func12 rfl rfl rfl (aA rfl) fun K hK => ?_
 refine gR 9 rfl ?_
 obtain ⟨z, hs5, h⟩ := h
 refine gC0 hs5 (by kernel_rfl) rfl rfl .rfl rfl <| gR 3 rfl <| qBh 6 rfl rfl rfl h gL gK (fun h => ?_) fun h => ?_
 refine gR 8 rfl <| gNS 2 42 3 rfl rfl rfl rfl ?_
 subst h
 exact go_sub (F' := (mkF 20 0 [(2, .sl 0)])) (H' := ⟨1, [(0, .row 42 3 (List.map ae.w ([] : List ae)))]⟩) [0] [] rfl hK pq1 ⟨⟨_, rfl, rfl, rfl, rfl⟩, trivial⟩ rfl <| go_endD [] ah (rs := [.tmp 2]) rfl rfl ⟨rfl, rfl⟩
 refine gR 6 rfl ?_
 obtain ⟨α, β, v, y, γ, f, g, δ, i, j, k, hs6, h⟩ := h
 refine gC hs6 [] (by kernel_rfl) rfl rfl .rfl trivial rfl ?_
 rintro _ _ ⟨rfl, rfl⟩
 refine gHR 3 (List.map (V.int .i64) f) rfl (vF _ f) rfl <| gHR 4 (List.map ae.w g) rfl (vH _ g) rfl <| gHn ⟨5, [(4, .row 42 3 (List.map ae.w g)), (3, .row 3 1 (List.map (V.int .i64) f)), (2, .mp 84 81 (List.map (fun p => (fun x => V.agg [(V.int .i64 x.1), (V.int .i64 x.2)]) p.1) y) (List.map (fun p => aa.w p.2) y)), (1, .mp 137 61 (List.map (fun p => (fun x => V.agg [(V.int .i64 x.1), (V.str x.2)]) p.1) v) (List.map (fun p => ac.w p.2) v)), (0, vA α (.row 5 (List.map GTarget.w β)) γ δ i j k)]⟩ rfl ⟨rfl, rfl, rfl, rfl, rfl, trivial⟩ ?_
 refine gR 6 rfl ?_
 obtain ⟨l, n, c, d, o, e, b, q, r, s, t, hs7, h⟩ := h
 refine gCZ hs7 [0, 1, 2, 3, 4] ⟨⟨_, rfl, ⟨rfl, rfl, (vH _ g).symm⟩⟩, ⟨⟨_, rfl, ⟨rfl, rfl, (vF _ f).symm⟩⟩, ⟨⟨_, rfl, ⟨rfl, rfl, rfl, rfl⟩⟩, ⟨⟨_, rfl, ⟨rfl, rfl, rfl, rfl⟩⟩, ⟨⟨_, rfl, ⟨rfl, an.rfl⟩⟩, trivial⟩⟩⟩⟩⟩ ?_
 refine gHR 8 (List.map (V.int .i64) e) rfl (vF _ e) rfl <| gHR 9 (List.map ae.w b) rfl (vH _ b) rfl <| gHn ⟨10, [(9, .row 42 3 (List.map ae.w b)), (8, .row 3 1 (List.map (V.int .i64) e)), (2, .mp 84 81 (List.map (fun p => (fun x => V.agg [(V.int .i64 x.1), (V.int .i64 x.2)]) p.1) d) (List.map (fun p => aa.w p.2) d)), (1, .mp 137 61 (List.map (fun p => (fun x => V.agg [(V.int .i64 x.1), (V.str x.2)]) p.1) c) (List.map (fun p => ac.w p.2) c)), (0, .var 63 [.row 4 (kidsV l), .row 5 (List.map GTarget.w n), .sl 1, .sl 2, .int .i64 o, .sl 8, .sl 9, .int .i64 q, .row 1 (List.map (V.int .i64) r), .int .i64 s, .int .i64 t])]⟩ rfl ⟨rfl, rfl, rfl, rfl, rfl, trivial⟩ ?_
 refine gR 8 rfl ?_
 obtain ⟨a, hs8, h⟩ := h
 refine gCZ hs8 [9] ⟨⟨_, rfl, ⟨rfl, rfl, (vH _ b).symm⟩⟩, trivial⟩ ?_
 refine gHR 9 (List.map ae.w a) rfl (vH _ a) rfl <| gHn ⟨11, [(9, .row 42 3 (List.map ae.w a)), (8, .row 3 1 (List.map (V.int .i64) e)), (2, .mp 84 81 (List.map (fun p => (fun x => V.agg [(V.int .i64 x.1), (V.int .i64 x.2)]) p.1) d) (List.map (fun p => aa.w p.2) d)), (1, .mp 137 61 (List.map (fun p => (fun x => V.agg [(V.int .i64 x.1), (V.str x.2)]) p.1) c) (List.map (fun p => ac.w p.2) c)), (0, .var 63 [.row 4 (kidsV l), .row 5 (List.map GTarget.w n), .sl 1, .sl 2, .int .i64 o, .sl 8, .sl 9, .int .i64 q, .row 1 (List.map (V.int .i64) r), .int .i64 s, .int .i64 t])]⟩ rfl ⟨rfl, rfl, rfl, rfl, rfl, trivial⟩ ?_
 refine gR 12 rfl ?_
 subst h
 exact go_sub (F' := (mkF 20 0 [(2, .sl 0)])) (H' := ⟨1, [(0, .row 42 3 (List.map ae.w a))]⟩) [9] [] rfl hK pq1 ⟨⟨_, rfl, rfl, rfl, (vH _ a).symm⟩, trivial⟩ rfl <| go_endD [] ah (rs := [.tmp 2]) rfl rfl ⟨rfl, rfl⟩
def mS (m : Nat) (p0 : List Tree) (p1 : GPlace) (a : Tree) (b : Bool) (r0 : Tree) (r1 : Int) : Prop := ∀ (K : Ctx), aG K [] → Go Tryz.prog K (bodyPost Tryz.prog Tryz.f11 (SP K (fun u _ => u = .tup [.agg (ao r0), .int .i64 r1]))) (.ex .normal) [.seq (xF (ai Tryz.f11))] 88 (mkF 88 0 [(0, .row 4 (kidsV p0)), (3, .box (GPlace.c p1) 0), (4, .ptr 0 0), (6, .ptr 1 0), (7, .bool b)]) ⟨2, [(1, .var 29 (ao a)), (0, .var 29 [.int .i64 0, .str [], .nils, .nils])]⟩
def ku (m : Nat) (a b : Int) (c : List Tree) (d : Nat) (r0 : Tree) (r1 : Int) : Prop := ∀ (K : Ctx) (j1 : Nat), aG K [] → m ≤ j1 → qLG K Tryz.f11 (fun u _ => u = .tup [.agg (ao r0), .int .i64 r1]) (xE (xG (xF (ai Tryz.f11)))) [.loop (xE (xG (xF (ai Tryz.f11)))) j1, .blk 0, .seq (xG (xG (xA (ai Tryz.f11))))] 88 (mkF 88 0 [(4, .ptr 0 0), (9, .ptr 1 0), (80, .int .i64 a), (81, .int .i64 (d : Int))]) ⟨3, [(2, .row 29 4 (kidsV c)), (1, .var 29 [.int .i64 b, .str [], .nils, .sl 2]), (0, .var 29 [.int .i64 0, .str [], .nils, .nils])]⟩
theorem so (m : Nat) (p0 : List Tree) (p1 : GPlace) (r0 : Tree) (r1 : Int) (h : ∃ a, eV p0 a ∧ ((a = false) → (Tree.node 0 [] [] []) = r0 ∧ 5 = r1) ∧ ((a = true) → ((p1.Module < 0) → (Tree.node 0 [] [] []) = r0 ∧ 5 = r1) ∧ ((¬ p1.Module < 0) → (((p0.length : Int) ≤ p1.Module) → (Tree.node 0 [] [] []) = r0 ∧ 5 = r1) ∧ ((¬ (p0.length : Int) ≤ p1.Module) → ∃ b, p1.Module = ((b : Nat) : Int) ∧ ∃ c, p0[b]? = some c ∧ ∃ d e, ie c p1.Path d e ∧ mS m p0 p1 d e r0 r1)))) : jj p0 p1 r0 r1 := by
 refine ⟨rfl, rfl, ?_⟩
 refine al 88 [] Tryz.func11 rfl rfl rfl (aA rfl) fun K hK => ?_
 refine gR 3 rfl <| gFP 0 rfl rfl rfl rfl <| gR 8 rfl ?_
 obtain ⟨a, hs11, h⟩ := h
 refine gC0 hs11 (by kernel_rfl) rfl rfl .rfl rfl <| gR 2 rfl <| qBhZ 13 12 rfl rfl rfl rfl h gL gK (fun h => ?_) fun h => ?_
 refine gR 23 rfl ?_
 obtain ⟨rfl, rfl⟩ := h
 exact go_sub (F' := (mkF 88 0 [(4, .ptr 0 0), (5, .int .i64 5)])) (H' := ⟨1, [(0, vC ((Tree.node 0 [] [] []).kind) ((Tree.node 0 [] [] []).text) ((Tree.node 0 [] [] []).leads) ((Tree.node 0 [] [] []).kids))]⟩) [1] [] rfl hK pq2 ⟨⟨_, rfl, rfl, (.cons .rfl (.cons .rfl (.cons (.nil 1) (.cons (.nil 4) .nil))))⟩, trivial⟩ rfl <| go_end ah (rs := [.cell 4 29, .tmp 5]) rfl rfl rfl
 refine gR 5 rfl <| qBdZ 18 17 rfl rfl rfl rfl h (fun h => ?_) fun h => ?_
 refine gR 18 rfl ?_
 obtain ⟨rfl, rfl⟩ := h
 exact go_sub (F' := (mkF 88 0 [(4, .ptr 0 0), (5, .int .i64 5)])) (H' := ⟨1, [(0, vC ((Tree.node 0 [] [] []).kind) ((Tree.node 0 [] [] []).text) ((Tree.node 0 [] [] []).leads) ((Tree.node 0 [] [] []).kids))]⟩) [1] [] rfl hK pq2 ⟨⟨_, rfl, rfl, (.cons .rfl (.cons .rfl (.cons (.nil 1) (.cons (.nil 4) .nil))))⟩, trivial⟩ rfl <| go_end ah (rs := [.cell 4 29, .tmp 5]) rfl rfl rfl
 refine gR 4 rfl <| gV 22 (.int .i64 (p0.length : Int)) rfl (aM (aK _)) rfl <| gLB 21 rfl (aK _) fun hl12 => gR 4 rfl <| qBd 24 rfl rfl rfl h (fun h => ?_) fun h => ?_
 refine gR 10 rfl ?_
 obtain ⟨rfl, rfl⟩ := h
 exact go_sub (F' := (mkF 88 0 [(4, .ptr 0 0), (5, .int .i64 5)])) (H' := ⟨1, [(0, vC ((Tree.node 0 [] [] []).kind) ((Tree.node 0 [] [] []).text) ((Tree.node 0 [] [] []).leads) ((Tree.node 0 [] [] []).kids))]⟩) [1] [] rfl hK pq2 ⟨⟨_, rfl, rfl, (.cons .rfl (.cons .rfl (.cons (.nil 1) (.cons (.nil 4) .nil))))⟩, trivial⟩ rfl <| go_end ah (rs := [.cell 4 29, .tmp 5]) rfl rfl rfl
 refine gR 4 rfl <| gDs [] 12 14 rfl (by kernel_rfl) (by kernel_rfl) <| gDr [(0, 2), (1, 2), (2, 2)] (by kernel_rfl) rfl rfl ?_
 obtain ⟨b, f, h⟩ := h
 refine gV 29 (.int .i64 ((b : Nat) : Int)) rfl (cy f) rfl ?_
 obtain ⟨c, hxt0_3, h⟩ := h
 refine gYd 3 rfl (by kernel_rfl) (bx (aL hxt0_3) ah rfl rfl rfl rfl) rfl rfl <| gDr [(4, 2), (5, 2), (6, 2)] (by kernel_rfl) rfl rfl ?_
 obtain ⟨d, e, hs13, h⟩ := h
 apply dd (i := 7) (j := 11) (by kernel_rfl) rfl rfl rfl rfl
 exact (fT (L' := []) (by kernel_rfl) rfl rfl (oY hs13 .rfl [] rfl) (.inl rfl))
 exact (ce ah rfl rfl)
 exact gDr [(8, 2), (9, 2), (10, 2), (11, 0), (12, 1), (13, 1)] (by kernel_rfl) rfl rfl <| gDe (by kernel_rfl) <| gJ (h K hK) [1, 2] [] rfl hK pq5 (pqo2 rfl rfl rfl rfl) rfl
 refine nd 7 hs13 (by kernel_rfl) rfl (by kernel_rfl) rfl rfl .rfl rfl rfl ?_
 exact gDr [(8, 0), (9, 2), (10, 2), (12, 1), (13, 1)] (by kernel_rfl) rfl rfl <| gDe (by kernel_rfl) <| gJ (h K hK) [1, 2] [] rfl hK pq5 (pqo2 rfl rfl rfl rfl) rfl
theorem qn (m : Nat) (p0 : List Tree) (p1 : GPlace) (d : Tree) (β : Bool) (r0 : Tree) (r1 : Int) (h : ((β = false) → (Tree.node 0 [] [] []) = r0 ∧ 5 = r1) ∧ ((β = true) → ((d.kind < 10) → (Tree.node 0 [] [] []) = r0 ∧ 5 = r1) ∧ ((¬ d.kind < 10) → ((22 < d.kind) → (Tree.node 0 [] [] []) = r0 ∧ 5 = r1) ∧ ((¬ 22 < d.kind) → ((d.kind = 17) → (Tree.node 0 [] [] []) = r0 ∧ 5 = r1) ∧ ((d.kind ≠ 17) → ∃ y z, ∃ (t : (List ((Int × (List UInt8)) × ac))), ∃ (v : (List ((Int × Int) × aa))), ∃ α g i γ δ k l, dK p0 y z t v α g i γ δ k l ∧ ∃ n o, ∃ (e : (List ((Int × (List UInt8)) × ac))), ∃ (f : (List ((Int × Int) × aa))), ∃ q b c r s a j, dk y z t v α g i p1.Module p1.Path k l n o e f q b c r s a j ∧ ((a = 0) → (Tree.node 0 [] [] []) = r0 ∧ 20 = r1) ∧ ((a ≠ 0) → ku m j a ([] : List Tree) 0 r0 r1)))))) : mS (m + 1) p0 p1 d β r0 r1 := by
 intro K hK
 refine gR 7 rfl <| gB 39 rfl rfl rfl ?_ ?_ <;> intro hd
 refine gT 38 rfl hd rfl ?_
 replace hd := (gL hd)
 replace h := h.1 hd
 refine gR 26 rfl ?_
 obtain ⟨rfl, rfl⟩ := h
 exact go_sub (F' := (mkF 88 0 [(4, .ptr 0 0), (5, .int .i64 5)])) (H' := ⟨1, [(0, vC ((Tree.node 0 [] [] []).kind) ((Tree.node 0 [] [] []).text) ((Tree.node 0 [] [] []).leads) ((Tree.node 0 [] [] []).kids))]⟩) [0] [] rfl hK pq2 ⟨⟨_, rfl, rfl, (.cons .rfl (.cons .rfl (.cons (.nil 1) (.cons (.nil 4) .nil))))⟩, trivial⟩ rfl <| go_end ah (rs := [.cell 4 29, .tmp 5]) rfl rfl rfl
 refine gF 38 rfl hd rfl ?_
 replace hd := (gK hd)
 replace h := h.2 hd
 refine gR 5 rfl <| gB 44 rfl rfl rfl ?_ ?_ <;> intro hd
 refine gT 43 rfl hd rfl ?_
 replace hd := (of_decide_eq_true hd)
 replace h := h.1 hd
 refine gR 21 rfl ?_
 obtain ⟨rfl, rfl⟩ := h
 exact go_sub (F' := (mkF 88 0 [(4, .ptr 0 0), (5, .int .i64 5)])) (H' := ⟨1, [(0, vC ((Tree.node 0 [] [] []).kind) ((Tree.node 0 [] [] []).text) ((Tree.node 0 [] [] []).leads) ((Tree.node 0 [] [] []).kids))]⟩) [0] [] rfl hK pq2 ⟨⟨_, rfl, rfl, (.cons .rfl (.cons .rfl (.cons (.nil 1) (.cons (.nil 4) .nil))))⟩, trivial⟩ rfl <| go_end ah (rs := [.cell 4 29, .tmp 5]) rfl rfl rfl
 refine gF 43 rfl hd rfl ?_
 replace hd := (of_decide_eq_false hd)
 replace h := h.2 hd
 refine gR 5 rfl <| gB 49 rfl rfl rfl ?_ ?_ <;> intro hd
 refine gT 48 rfl hd rfl ?_
 replace hd := (of_decide_eq_true hd)
 replace h := h.1 hd
 refine gR 16 rfl ?_
 obtain ⟨rfl, rfl⟩ := h
 exact go_sub (F' := (mkF 88 0 [(4, .ptr 0 0), (5, .int .i64 5)])) (H' := ⟨1, [(0, vC ((Tree.node 0 [] [] []).kind) ((Tree.node 0 [] [] []).text) ((Tree.node 0 [] [] []).leads) ((Tree.node 0 [] [] []).kids))]⟩) [0] [] rfl hK pq2 ⟨⟨_, rfl, rfl, (.cons .rfl (.cons .rfl (.cons (.nil 1) (.cons (.nil 4) .nil))))⟩, trivial⟩ rfl <| go_end ah (rs := [.cell 4 29, .tmp 5]) rfl rfl rfl
 refine gF 48 rfl hd rfl ?_
 replace hd := (of_decide_eq_false hd)
 replace h := h.2 hd
 refine gR 6 rfl <| gB 53 rfl rfl rfl ?_ ?_ <;> intro hd
 replace hd := (eq_of_beq hd)
 replace h := h.1 hd
 refine gR 10 rfl ?_
 obtain ⟨rfl, rfl⟩ := h
 exact go_sub (F' := (mkF 88 0 [(4, .ptr 0 0), (5, .int .i64 5)])) (H' := ⟨1, [(0, vC ((Tree.node 0 [] [] []).kind) ((Tree.node 0 [] [] []).text) ((Tree.node 0 [] [] []).leads) ((Tree.node 0 [] [] []).kids))]⟩) [0] [] rfl hK pq2 ⟨⟨_, rfl, rfl, (.cons .rfl (.cons .rfl (.cons (.nil 1) (.cons (.nil 4) .nil))))⟩, trivial⟩ rfl <| go_end ah (rs := [.cell 4 29, .tmp 5]) rfl rfl rfl
 replace hd := (ne_of_beq_false hd)
 replace h := h.2 hd
 refine gR 6 rfl ?_
 obtain ⟨y, z, t, v, α, g, i, γ, δ, k, l, hs14, h⟩ := h
 refine gC hs14 [] (by kernel_rfl) rfl rfl .rfl trivial rfl ?_
 rintro _ _ ⟨rfl, rfl⟩
 refine gHR 5 (List.map (V.int .i64) g) rfl (vF _ g) rfl <| gHR 6 (List.map ae.w i) rfl (vH _ i) rfl <| gHn ⟨7, [(6, .row 42 3 (List.map ae.w i)), (5, .row 3 1 (List.map (V.int .i64) g)), (4, .mp 84 81 (List.map (fun p => (fun x => V.agg [(V.int .i64 x.1), (V.int .i64 x.2)]) p.1) v) (List.map (fun p => aa.w p.2) v)), (3, .mp 137 61 (List.map (fun p => (fun x => V.agg [(V.int .i64 x.1), (V.str x.2)]) p.1) t) (List.map (fun p => ac.w p.2) t)), (2, .var 63 [.row 4 (kidsV y), .row 5 (List.map GTarget.w z), .sl 3, .sl 4, .int .i64 α, .sl 5, .sl 6, .int .i64 γ, .row 1 (List.map (V.int .i64) δ), .int .i64 k, .int .i64 l]), (1, .var 29 (ao d)), (0, .var 29 [.int .i64 0, .str [], .nils, .nils])]⟩ rfl ⟨rfl, rfl, rfl, rfl, rfl, rfl, rfl, trivial⟩ ?_
 refine gR 15 rfl ?_
 obtain ⟨n, o, e, f, q, b, c, r, s, a, j, hs15, h⟩ := h
 refine gCZ hs15 [2, 3, 4, 5, 6] ⟨⟨_, rfl, ⟨rfl, rfl, (vH _ i).symm⟩⟩, ⟨⟨_, rfl, ⟨rfl, rfl, (vF _ g).symm⟩⟩, ⟨⟨_, rfl, ⟨rfl, rfl, rfl, rfl⟩⟩, ⟨⟨_, rfl, ⟨rfl, rfl, rfl, rfl⟩⟩, ⟨⟨_, rfl, ⟨rfl, an.rfl⟩⟩, trivial⟩⟩⟩⟩⟩ ?_
 refine gHR 10 (List.map (V.int .i64) b) rfl (vF _ b) rfl <| gHR 11 (List.map ae.w c) rfl (vH _ c) rfl <| gHn ⟨12, [(11, .row 42 3 (List.map ae.w c)), (10, .row 3 1 (List.map (V.int .i64) b)), (4, .mp 84 81 (List.map (fun p => (fun x => V.agg [(V.int .i64 x.1), (V.int .i64 x.2)]) p.1) f) (List.map (fun p => aa.w p.2) f)), (3, .mp 137 61 (List.map (fun p => (fun x => V.agg [(V.int .i64 x.1), (V.str x.2)]) p.1) e) (List.map (fun p => ac.w p.2) e)), (2, .var 63 [.row 4 (kidsV n), .row 5 (List.map GTarget.w o), .sl 3, .sl 4, .int .i64 q, .sl 10, .sl 11, .int .i64 r, .row 1 (List.map (V.int .i64) s), .int .i64 a, .int .i64 j]), (1, .var 29 (ao d)), (0, .var 29 [.int .i64 0, .str [], .nils, .nils])]⟩ rfl ⟨rfl, rfl, rfl, rfl, rfl, rfl, rfl, trivial⟩ ?_
 refine gR 13 rfl <| gB 68 rfl rfl rfl ?_ ?_ <;> intro hd
 replace hd := (eq_of_beq hd)
 replace h := h.1 hd
 refine gR 10 rfl ?_
 obtain ⟨rfl, rfl⟩ := h
 exact go_sub (F' := (mkF 88 0 [(4, .ptr 0 0), (5, .int .i64 20)])) (H' := ⟨1, [(0, vC ((Tree.node 0 [] [] []).kind) ((Tree.node 0 [] [] []).text) ((Tree.node 0 [] [] []).leads) ((Tree.node 0 [] [] []).kids))]⟩) [0] [] rfl hK pq2 ⟨⟨_, rfl, rfl, (.cons .rfl (.cons .rfl (.cons (.nil 1) (.cons (.nil 4) .nil))))⟩, trivial⟩ rfl <| go_end ah (rs := [.cell 4 29, .tmp 5]) rfl rfl rfl
 replace hd := (ne_of_beq_false hd)
 replace h := h.2 hd
 refine gR 15 rfl <| go_sub (F' := (mkF 88 0 [(4, .ptr 0 0), (8, .ptr 1 0), (9, .ptr 2 0)])) (H' := ⟨7, [(6, .row 42 3 (List.map ae.w c)), (5, .row 3 1 (List.map (V.int .i64) b)), (4, .mp 84 81 (List.map (fun p => (fun x => V.agg [(V.int .i64 x.1), (V.int .i64 x.2)]) p.1) f) (List.map (fun p => aa.w p.2) f)), (3, .mp 137 61 (List.map (fun p => (fun x => V.agg [(V.int .i64 x.1), (V.str x.2)]) p.1) e) (List.map (fun p => ac.w p.2) e)), (2, .var 29 [.int .i64 a, .str [], .nils, .nils]), (1, .var 63 [.row 4 (kidsV n), .row 5 (List.map GTarget.w o), .sl 3, .sl 4, .int .i64 q, .sl 5, .sl 6, .int .i64 r, .row 1 (List.map (V.int .i64) s), .int .i64 a, .int .i64 j]), (0, .var 29 [.int .i64 0, .str [], .nils, .nils])]⟩) [0, 2, 12, 3, 4, 10, 11] [] rfl hK pq3 ⟨⟨_, rfl, rfl, rfl, (vH _ c).symm⟩, ⟨_, rfl, rfl, rfl, (vF _ b).symm⟩, ⟨_, rfl, rfl, rfl, rfl, rfl⟩, ⟨_, rfl, rfl, rfl, rfl, rfl⟩, (pqo3 rfl rfl rfl rfl rfl rfl)⟩ rfl ?_
 exact gR 12 rfl <| go_loop m <| gNC 2 3 29 4 rfl rfl rfl rfl <| gJ (h K _ hK (by omega)) [0, 2, 7] [] rfl hK pq4 ⟨⟨_, rfl, rfl, rfl, rfl⟩, (pqo2 rfl rfl rfl rfl)⟩ rfl
theorem qm (m : Nat) (d a : Int) (b : List Tree) (c : Nat) (r0 : Tree) (r1 : Int) (h : (((c : Int) < d) → c + 1 ≤ 9223372036854775807 ∧ ku m d 8 [(Tree.node a [] [] b)] (c + 1) r0 r1) ∧ ((¬ (c : Int) < d) → (Tree.node a [] [] b) = r0 ∧ 0 = r1)) : ku (m + 1) d a b c r0 r1 := by
 intro K j1 hK hj1
 obtain ⟨j1, rfl⟩ : ∃ j, j1 = j + 1 := ⟨j1 - 1, by omega⟩
 refine gR 6 rfl <| gB 82 rfl rfl rfl ?_ ?_ <;> intro hd
 replace hd := (of_decide_eq_true hd)
 replace h := h.1 hd
 refine gR 7 rfl <| gFR 2 rfl (dJ _) rfl rfl <| gS 83 (.agg [.int .i64 a, .str [], .row 1 [], .row 4 (kidsV b)]) rfl (.agg (.cons .rfl (.cons .rfl (.cons (.nil 1) (.cons .rfl .nil))))) rfl <| gR 1 rfl <| gHR 3 (kidsV [(Tree.node a [] [] b)]) rfl (lc (Tree.node a [] [] b)) rfl <| gR 6 rfl ?_
 obtain ⟨hb, h⟩ := h
 exact gR 1 rfl <| gV 86 (.int .i64 ((c + 1 : Nat) : Int)) rfl (au (by omega) (by omega)) rfl <| gR 2 rfl <| go_xloop <| gJ (h K _ hK (by omega)) [0, 1, 3] [] rfl hK pq4 ⟨⟨_, rfl, rfl, rfl, (Aj _ [(Tree.node a [] [] b)]).symm⟩, (pqo2 rfl rfl rfl rfl)⟩ rfl
 replace hd := (of_decide_eq_false hd)
 replace h := h.2 hd
 refine gR 3 rfl <| go_xloopE <| gR 10 rfl <| gFR 2 rfl (dJ _) rfl rfl ?_
 obtain ⟨rfl, rfl⟩ := h
 exact go_sub (F' := (mkF 88 0 [(4, .ptr 0 0), (5, .int .i64 0)])) (H' := ⟨1, [(0, vC ((Tree.node a [] [] b).kind) ((Tree.node a [] [] b).text) ((Tree.node a [] [] b).leads) ((Tree.node a [] [] b).kids))]⟩) [0] [] rfl hK pq2 ⟨⟨_, rfl, rfl, (.cons .rfl (.cons .rfl (.cons (.nil 1) (.cons .rfl .nil))))⟩, trivial⟩ rfl <| go_end ah (rs := [.cell 4 29, .tmp 5]) rfl rfl rfl
def noG : aa := ⟨[], ⟨0, 0⟩⟩
def jn (x : Cx) : List Tree → Nat → Sv → Sv
 | [], _, s => s
 | f :: r, d, s => jn x r (d + 1) (iH (x.go (d : Int)) f ((mlook (x.mo, (d : Int)) x.sg).getD noG) s)
def Cx.md (x : Cx) (m : Int) : Cx := { x with mo := m }
def jd (x : Cx) : List Tree → Nat → Sv → Sv
 | [], _, s => s
 | t :: r, m, s => jd x r (m + 1) (jn (x.md (m : Int)) t.kids 0 s)
def moF (z : Int) : List Tree → Nat → Int
 | [], _ => z
 | _ :: r, m => moF (m : Int) r (m + 1)
theorem lQ {l : List Tree} {i : Nat} {u : Tree} (h : l[i]? = some u) : kbulk (l.drop i) = tbulk u + kbulk (l.drop (i + 1)) := by rw [be h, kbulk]
theorem mH {l : List Tree} {i : Nat} {u : Tree} (h : l[i]? = some u) : uNs (l.drop i) = uN u + uNs (l.drop (i + 1)) := by rw [be h, uNs]
structure DefOk (sg : List ((Int × Int) × aa)) (L : Nat) (m d : Nat) (f : Tree) : Prop where
 s : shapeK f = true
 k : f.kind = 2
 g : ∃ g, mlook ((m : Int), (d : Int)) sg = some g ∧ f.kids.length = g.params.length + 2 ∧ ∀ q ∈ g.params, KOk L q
theorem xd {x : Cx} {t : Tree} {m L : Nat} (hx : x.mo = m) (hm : m ≤ 1000000000) (hok : ∀ (d : Nat) (f : Tree), t.kids[d]? = some f → DefOk x.sg L m d f) (hsg : ∀ k q, mlook k x.sg = some q → KOk L q.result) (hkl : t.kids.length ≤ 100000000) : ∀ (k d : Nat) (s : Sv), k + d = t.kids.length → x.pa.length + kbulk (t.kids.drop d) + 4 ≤ 100000000 → s.fa.length + 4 * kbulk (t.kids.drop d) + 1 ≤ 900000000 → uNs (t.kids.drop d) ≤ s.tg.length → L + kbulk (t.kids.drop d) ≤ 900000000 →
  Sst (kbulk (t.kids.drop d)) (uNs (t.kids.drop d)) s (jn x (t.kids.drop d) d s) ∧ ∀ (M : Nat) (z : Int) (s' : Sv), (∀ s1, s1 = jn x (t.kids.drop d) d s → bU M x.p x.mo (m + 1) x.sg x.nm x.p s1.tg x.pa s1.fa x.wm x.wp s1.rs s1.rl x.p s'.tg x.nm x.sg z x.pa s'.fa x.wm x.wp s'.rs s'.rl) → ∃ M', bt M' x.p t x.sg x.nm x.p s.tg x.mo x.pa s.fa x.wm x.wp s.rs s.rl d m m x.p s'.tg x.nm x.sg z x.pa s'.fa x.wm x.wp s'.rs s'.rl
 | 0, d, s, hk, _, _, _, _ => by
  have hd : t.kids.drop d = [] := List.drop_of_length_le (by omega)
  rw [hd]
  exact ⟨⟨by simp [jn, uNs], by simp [jn]⟩, fun M z s' h => ⟨M + 1, gx M _ _ _ _ _ _ _ _ _ _ _ _ _ _ _ _ _ _ _ _ _ _ _ _ _ _ _ (⟨fun h => absurd h (by omega), fun _ => ⟨by omega, h _ rfl⟩⟩)⟩⟩
 | k + 1, d, s, hk, h1, h2, h3, h4 => by
  have hlt : d < t.kids.length := by omega
  obtain ⟨f, hf⟩ : ∃ f, t.kids[d]? = some f := ⟨_, hZ hlt⟩
  obtain ⟨o1, o2, g, o3, o4, o5⟩ := hok d f hf
  have e1 := lQ hf
  have e2 := mH hf
  obtain ⟨a1, a2⟩ := vy (x := x.go (d : Int)) (s := s) (L := L) (g := g) o1 o2 o4 (by simp [Cx.go]; omega) (by omega) (by omega) (by omega) o5 hsg
  have e : jn x (t.kids.drop d) d s = jn x (t.kids.drop (d + 1)) (d + 1) (iH (x.go (d : Int)) f g s) := by
   rw [be hf, jn, hx, o3]; rfl
  rw [e]
  generalize iH (x.go (d : Int)) f g s = s1 at a1 a2
  have q1 := a2.fa
  have q2 := a2.tg
  obtain ⟨b1, b2⟩ := xd hx hm hok hsg hkl k (d + 1) s1 (by omega) (by omega) (by omega) (by rw [q2, List.length_drop]; omega) (by omega)
  refine ⟨⟨by rw [b1.tg, q2, List.drop_drop, e2], by have := b1.fa; omega⟩, fun M z s' h => ?_⟩
  obtain ⟨M', hM⟩ := b2 M z s' h
  refine ⟨M' + 2, gx (M' + 1) _ _ _ _ _ _ _ _ _ _ _ _ _ _ _ _ _ _ _ _ _ _ _ _ _ _ _ (⟨fun _ => ⟨f, hf, _, _, _, _, _, _, _, _, _, _, _, fi (x := x) (s := s) (d : Int) (by omega), fun _ => ⟨fun h => absurd (h.symm.trans o3) (by simp), fun g' hg' => ?_⟩, fun h => absurd o2 h⟩, fun h => absurd hlt h⟩)⟩
  rw [o3] at hg'
  injection hg' with hg'
  subst hg'
  exact ⟨_, _, _, _, _, _, _, _, _, _, _, a1, ld M' _ _ _ _ _ _ _ _ _ _ _ _ _ _ _ _ _ _ _ _ _ _ _ _ _ _ _ (⟨_, _, _, _, _, _, _, _, _, _, _, fh (x := x) (s := s1) (d : Int), by omega, hM⟩)⟩
theorem xk {x : Cx} {L : Nat} (hpl : x.p.length ≤ 100000000) (hok : ∀ (m : Nat) (t : Tree) (d : Nat) (f : Tree), x.p[m]? = some t → t.kids[d]? = some f → DefOk x.sg L m d f) (hsg : ∀ k q, mlook k x.sg = some q → KOk L q.result) : ∀ (k m : Nat) (z : Int) (s : Sv), k + m = x.p.length → x.pa.length + kbulk (x.p.drop m) + 4 ≤ 100000000 → s.fa.length + 4 * kbulk (x.p.drop m) + 1 ≤ 900000000 → (∀ (m : Nat) (t : Tree), x.p[m]? = some t → t.kind = 1) → uNs (x.p.drop m) ≤ s.tg.length → L + kbulk (x.p.drop m) ≤ 900000000 →
  ∃ M, bU M x.p z m x.sg x.nm x.p s.tg x.pa s.fa x.wm x.wp s.rs s.rl x.p (jd x (x.p.drop m) m s).tg x.nm x.sg (moF z (x.p.drop m) m) x.pa (jd x (x.p.drop m) m s).fa x.wm x.wp (jd x (x.p.drop m) m s).rs (jd x (x.p.drop m) m s).rl
 | 0, m, z, s, hk, _, _, _, _, _ => by
  have hd : x.p.drop m = [] := List.drop_of_length_le (by omega)
  rw [hd]
  exact ⟨1, gG 0 _ _ _ _ _ _ _ _ _ _ _ _ _ _ _ _ _ _ _ _ _ _ _ _ (⟨fun h => absurd h (by omega), fun _ => ⟨rfl, rfl, rfl, rfl, rfl, rfl, rfl, rfl, rfl, rfl, rfl⟩⟩)⟩
 | k + 1, m, z, s, hk, h1, h2, hk1, h3, h4 => by
  have hlt : m < x.p.length := by omega
  obtain ⟨t, ht⟩ : ∃ t, x.p[m]? = some t := ⟨_, List.getElem?_eq_getElem hlt⟩
  have e1 := lQ ht
  have e2 := mH ht
  have hB := df t
  have hU : uN t = uNs t.kids := by rw [fo, hk1 m t ht]; simp
  have hkl := dg t
  obtain ⟨a1, a2⟩ := xd (x := x.md (m : Int)) (t := t) (m := m) (L := L) rfl (by omega) (fun d f hf => hok m t d f ht hf) hsg (by omega) t.kids.length 0 s (by omega) (by simp [Cx.md]; omega) (by simp; omega) (by simp; omega) (by simp; omega)
  simp only [List.drop_zero] at a1 a2
  have q1 := a1.fa
  have q2 := a1.tg
  obtain ⟨s1, hs1⟩ : ∃ s1, s1 = jn (x.md (m : Int)) t.kids 0 s := ⟨_, rfl⟩
  rw [← hs1] at a1 q1 q2
  obtain ⟨M, hM⟩ := xk hpl hok hsg k (m + 1) (m : Int) s1 (by omega) (by omega) (by omega) hk1 (by rw [q2, List.length_drop]; omega) (by omega)
  have e : jd x (x.p.drop m) m s = jd x (x.p.drop (m + 1)) (m + 1) s1 := by rw [be ht, jd, ← hs1]
  have e' : moF z (x.p.drop m) m = moF (m : Int) (x.p.drop (m + 1)) (m + 1) := by rw [be ht, moF]
  rw [e, e']
  obtain ⟨M', hM'⟩ := a2 M (moF (m : Int) (x.p.drop (m + 1)) (m + 1)) (jd x (x.p.drop (m + 1)) (m + 1) s1) fun s2 hs2 => by
   rw [← hs1] at hs2; subst hs2; exact hM
  exact ⟨M' + 1, gG M' _ _ _ _ _ _ _ _ _ _ _ _ _ _ _ _ _ _ _ _ _ _ _ _ (⟨fun _ => ⟨t, ht, hM'⟩, fun h => absurd hlt h⟩)⟩
def knK (t : Tree) : Kn := ⟨(leafK t).kind, (lisK t : Nat)⟩
def jV (f : Tree) : aa := ⟨(f.kids.take (f.kids.length - 2)).map fun k => knK (dp k 0), knK (dp f (f.kids.length - 2))⟩
def sgD (m : Int) : List Tree → Nat → List ((Int × Int) × aa) → List ((Int × Int) × aa)
 | [], _, l => l
 | f :: r, d, l => sgD m r (d + 1) (mput (m, (d : Int)) (jV f) l)
def sgM : List Tree → Nat → List ((Int × Int) × aa) → List ((Int × Int) × aa)
 | [], _, l => l
 | t :: r, m, l => sgM r (m + 1) (sgD (m : Int) t.kids 0 l)
theorem Aa {t : Tree} (ht : tyK t) (hb : tbulk t ≤ 1000000000) : iQ t (leafK t) (lisK t : Nat) := by
 have loop : ∀ t, tyK t → ∀ i, i + tbulk t ≤ 2000000000 → fu (lisK t + 1) t i (leafK t) ((i + lisK t : Nat) : Int) := iL fun t ih h i hi => by
  rcases tT h with ⟨h8, _, u, hu, hty⟩ | ⟨h8, hk, _⟩
  ·obtain ⟨e1, e2⟩ := uh h8 hu
   have h0 : t.kids[0]? = some u := by rw [hu]; rfl
   have := bd h0
   rw [e1, e2]
   refine ka (lisK u + 1) _ _ _ _ (⟨fun _ => ⟨u, h0, by omega, ?_⟩, fun h => absurd h8 h⟩)
   rw [show i + (lisK u + 1) = i + 1 + lisK u by omega]
   exact ih 0 u h0 hty (i + 1) (by omega)
  ·obtain ⟨e1, e2⟩ := ut h8
   rw [e1, e2]
   exact ka 0 _ _ _ _ (⟨fun h => absurd h h8, fun _ => ⟨rfl, rfl⟩⟩)
 have := loop t ht 0 (by omega)
 rw [Nat.zero_add] at this
 exact pi (lisK t + 1) _ _ _ (this)
abbrev ckX (p : List Tree) (tg : List GTarget) (nm : List ((Int × List UInt8) × ac)) (sg : List ((Int × Int) × aa)) (m : Int) (t : Tree) (k : Kn) : Prop := cx p tg nm sg 0 [] [] 0 [] 0 0 m t k p tg nm sg 0 [] [] 0 [] 0 0
theorem ru {p : List Tree} {tg : List GTarget} {nm : List ((Int × List UInt8) × ac)} {sg : List ((Int × Int) × aa)} (m : Int) {t : Tree} (ht : tyK t) (hb : tbulk t ≤ 1000000000) (h9 : (leafK t).kind ≠ 9) : ckX p tg nm sg m t (knK t) :=
 rS_typing_checker_expand 0 _ _ _ _ _ _ _ _ _ _ _ _ _ _ _ _ _ _ _ _ _ _ _ _ _ (⟨_, _, Aa ht hb, fun _ => ⟨rfl, rfl, rfl, rfl, rfl, rfl, rfl, rfl, rfl, rfl, rfl, rfl⟩, fun h => absurd h h9⟩)
structure FunOk (f : Tree) : Prop where
 s : shapeK f = true
 k : f.kind = 2
 p : ∀ (i : Nat) (u : Tree), f.kids[i]? = some u → i + 2 < f.kids.length → (leafK (dp u 0)).kind ≠ 9
 r : (leafK (dp f (f.kids.length - 2))).kind ≠ 9
theorem Bi {p : List Tree} {tg : List GTarget} {nm : List ((Int × List UInt8) × ac)} {sg : List ((Int × Int) × aa)} (m : Int) {f : Tree} (hf : FunOk f) (hb : tbulk f ≤ 100000000) : ew p tg nm sg 0 [] [] 0 [] 0 0 m f (jV f) p tg nm sg 0 [] [] 0 [] 0 0 := by
 obtain ⟨s1, s2, s3, _⟩ := mO hf.s hf.k
 have hkl := dg f
 obtain ⟨n, hn⟩ : ∃ n, n + 2 = f.kids.length := ⟨f.kids.length - 2, by omega⟩
 have hlt : (f.kids.take n).length = n := by rw [List.length_take]; omega
 obtain ⟨r, hr⟩ : ∃ r, f.kids[n]? = some r := ⟨_, List.getElem?_eq_getElem (by omega)⟩
 have hrt := s3 r (by rw [show f.kids.length - 2 = n by omega]; exact hr)
 have hr9 := hf.r
 have hkr : dp f (f.kids.length - 2) = r := by rw [show f.kids.length - 2 = n by omega]; exact fZ hr
 rw [hkr] at hr9
 have hbr := bd hr
 have loop : ∀ (k i : Nat), k + i = n → cM (k + 1) m f n sg nm p tg 0 [] [] 0 [] 0 0 ((f.kids.take i).map fun k => knK (dp k 0)) i ⟨(f.kids.take n).map fun k => knK (dp k 0), knK r⟩ p tg nm sg 0 [] [] 0 [] 0 0 := fun k => by
  induction k with
  | zero =>
   intro i hi
   have e : i = n := by omega
   subst e
   exact gg 0 _ _ _ _ _ _ _ _ _ _ _ _ _ _ _ _ _ _ _ _ _ _ _ _ _ _ _ _ (⟨fun h => absurd h (by rw [hlt]; omega), fun _ => ⟨i, by omega, r, hr, _, _, _, _, _, _, _, _, _, _, _, _, ru m hrt (by omega) hr9, rfl, rfl, rfl, rfl, rfl, rfl, rfl, rfl, rfl, rfl, rfl, rfl⟩⟩)
  | succ k ih =>
   intro i hi
   obtain ⟨u, hu⟩ : ∃ u, f.kids[i]? = some u := ⟨_, List.getElem?_eq_getElem (by omega)⟩
   obtain ⟨v, hv4, hv, hvt⟩ := s2 i u hu (by omega)
   have hv0 : u.kids[0]? = some v := by rw [hv]; rfl
   have h9 := hf.p i u hu (by omega)
   rw [fZ hv0] at h9
   have hb1 := bd hu
   have hb2 := bd hv0
   have e : ((f.kids.take i).map fun k => knK (dp k 0)) ++ [knK v] = (f.kids.take (i + 1)).map fun k => knK (dp k 0) := by
    rw [List.take_add_one, hu, List.map_append]
    simp [fZ hv0]
   refine gg (k + 1) _ _ _ _ _ _ _ _ _ _ _ _ _ _ _ _ _ _ _ _ _ _ _ _ _ _ _ _ (⟨fun _ => ⟨u, by rw [List.getElem?_take, if_pos (by omega)]; exact hu, v, hv0, _, _, _, _, _, _, _, _, _, _, _, _, ru m hvt (by omega) h9, by rw [e]; simp; omega, by omega, by rw [e]; exact ih (i + 1) (by omega)⟩, fun h => absurd (by rw [hlt]; omega) h⟩)
 have := loop n 0 (by omega)
 refine ll (n + 1) _ _ _ _ _ _ _ _ _ _ _ _ _ _ _ _ _ _ _ _ _ _ _ _ _ (⟨n, by omega, by omega, ?_⟩)
 unfold jV
 rw [hkr, show f.kids.length - 2 = n by omega]
 simpa using this
theorem wi {p : List Tree} {tg : List GTarget} {t : Tree} {m : Nat} {R : List ((Int × Int) × aa)} (hm : m ≤ 1000000000) (hok : ∀ (d : Nat) (f : Tree), t.kids[d]? = some f → FunOk f) (hb : tbulk t ≤ 100000000) : ∀ (k d : Nat) (sg : List ((Int × Int) × aa)), k + d = t.kids.length → ∀ M, cg M p (m + 1) p tg [] (sgD (m : Int) (t.kids.drop d) d sg) 0 [] [] 0 [] 0 0 p tg [] R 0 [] [] 0 [] 0 0 → ∃ M', cj M' p t d p tg [] sg 0 [] [] 0 [] 0 0 m m p tg [] R 0 [] [] 0 [] 0 0
 | 0, d, sg, hk, M, h => by
  have hd : t.kids.drop d = [] := List.drop_of_length_le (by omega)
  rw [hd] at h
  exact ⟨M + 1, ia M _ _ _ _ _ _ _ _ _ _ _ _ _ _ _ _ _ _ _ _ _ _ _ _ _ _ _ (⟨fun h => absurd h (by omega), fun _ => ⟨by omega, h⟩⟩)⟩
 | k + 1, d, sg, hk, M, h => by
  have hlt : d < t.kids.length := by omega
  have hkl := dg t
  obtain ⟨f, hf⟩ : ∃ f, t.kids[d]? = some f := ⟨_, hZ hlt⟩
  have hbf := bd hf
  rw [be hf, sgD] at h
  obtain ⟨M', hM⟩ := wi hm hok hb k (d + 1) (mput ((m : Int), (d : Int)) (jV f) sg) (by omega) M h
  refine ⟨M' + 2, ia (M' + 1) _ _ _ _ _ _ _ _ _ _ _ _ _ _ _ _ _ _ _ _ _ _ _ _ _ _ _ (⟨fun _ => ⟨f, hf, fun _ => ⟨_, _, _, _, _, _, _, _, _, _, _, _, Bi (m : Int) (hok d f hf) (by omega), ?_⟩, fun h => absurd (hok d f hf).k h⟩, fun h => absurd hlt h⟩)⟩
  exact lG M' _ _ _ _ _ _ _ _ _ _ _ _ _ _ _ _ _ _ _ _ _ _ _ _ _ _ _ (⟨by omega, hM⟩)
theorem wd {p : List Tree} {tg : List GTarget} {R : List ((Int × Int) × aa)} (hok : ∀ (m : Nat) (t : Tree) (d : Nat) (f : Tree), p[m]? = some t → t.kids[d]? = some f → FunOk f) (hb : kbulk p ≤ 100000000) : ∀ (k m : Nat) (sg : List ((Int × Int) × aa)), k + m = p.length → R = sgM (p.drop m) m sg → ∃ M, cg M p m p tg [] sg 0 [] [] 0 [] 0 0 p tg [] R 0 [] [] 0 [] 0 0
 | 0, m, sg, hk, hR => by
  have hd : p.drop m = [] := List.drop_of_length_le (by omega)
  rw [hd] at hR
  have hR' : R = sg := hR
  exact ⟨1, hJ 0 _ _ _ _ _ _ _ _ _ _ _ _ _ _ _ _ _ _ _ _ _ _ _ _ (⟨fun h => absurd h (by omega), fun _ => ⟨rfl, rfl, rfl, hR'.symm, rfl, rfl, rfl, rfl, rfl, rfl, rfl⟩⟩)⟩
 | k + 1, m, sg, hk, hR => by
  have hlt : m < p.length := by omega
  obtain ⟨t, ht⟩ : ∃ t, p[m]? = some t := ⟨_, List.getElem?_eq_getElem hlt⟩
  have hbt := co ht
  have hl := du p
  rw [be ht, sgM] at hR
  obtain ⟨M, hM⟩ := wd (tg := tg) hok hb k (m + 1) (sgD (m : Int) t.kids 0 sg) (by omega) hR
  obtain ⟨M', hM'⟩ := wi (p := p) (tg := tg) (t := t) (m := m) (R := R) (by omega) (fun d f hf => hok m t d f ht hf) (by omega) t.kids.length 0 sg (by omega) M (by simpa using hM)
  exact ⟨M' + 1, hJ M' _ _ _ _ _ _ _ _ _ _ _ _ _ _ _ _ _ _ _ _ _ _ _ _ (⟨fun _ => ⟨t, ht, hM'⟩, fun h => absurd hlt h⟩)⟩
theorem mR {p : List Tree} (hok : ∀ (m : Nat) (t : Tree) (d : Nat) (f : Tree), p[m]? = some t → t.kids[d]? = some f → FunOk f) (hb : kbulk p ≤ 100000000) : dK p p (bl p) [] (sgM p 0 []) 0 [] [] 0 [] 0 0 := by
 obtain ⟨M, hM⟩ := wd (tg := bl p) (R := sgM p 0 []) hok hb p.length 0 [] (by omega) rfl
 exact lZ M _ _ _ _ _ _ _ _ _ _ _ _ (⟨_, wv p hb, hM⟩)
theorem ms (m : Nat) (key : Int × Int) : ∀ (ks : List Tree) (d : Nat) (l : List ((Int × Int) × aa)), mlook key (sgD (m : Int) ks d l) = (if key.1 = (m : Int) ∧ (d : Int) ≤ key.2 ∧ key.2 < ((d + ks.length : Nat) : Int) then (ks[(key.2 - (d : Int)).toNat]?).map jV else mlook key l)
 | [], d, l => by
  rw [sgD, if_neg]
  rintro ⟨_, h1, h2⟩
  simp only [List.length_nil] at h2
  omega
 | f :: r, d, l => by
  rw [sgD, ms m key r (d + 1) _, pf]
  obtain ⟨k1, k2⟩ := key
  simp only [Prod.mk.injEq]
  by_cases h1 : k1 = (m : Int)
  ·by_cases h2 : k2 = (d : Int)
   ·subst h1 h2
    rw [if_neg (by omega), if_pos ⟨rfl, rfl⟩, if_pos ⟨rfl, by omega, by simp; omega⟩]
    simp
   ·by_cases h3 : (d : Int) < k2 ∧ k2 < ((d + 1 + r.length : Nat) : Int)
    ·rw [if_pos ⟨h1, by omega, h3.2⟩, if_pos ⟨h1, by omega, by simp; omega⟩]
     rw [show (k2 - (d : Int)).toNat = (k2 - ((d + 1 : Nat) : Int)).toNat + 1 by omega]
     rfl
    ·rw [if_neg (fun h => h3 ⟨by omega, h.2.2⟩), if_neg (fun h => h2 h.2), if_neg (fun h => h3 ⟨by omega, by have := h.2.2; simp at this; omega⟩)]
  ·rw [if_neg (fun h => h1 h.1), if_neg (fun h => h1 h.1), if_neg (fun h => h1 h.1)]
theorem qR (key : Int × Int) : ∀ (p : List Tree) (m : Nat) (l : List ((Int × Int) × aa)) (q : aa), mlook key (sgM p m l) = some q → (∃ (i : Nat) (t : Tree) (d : Nat) (f : Tree), p[i]? = some t ∧ t.kids[d]? = some f ∧ key = (((m + i : Nat) : Int), (d : Int)) ∧ q = jV f) ∨ mlook key l = some q
 | [], m, l, q, h => .inr h
 | t :: r, m, l, q, h => by
  rw [sgM] at h
  rcases qR key r (m + 1) _ q h with ⟨i, t', d, f, h1, h2, h3, h4⟩ | h
  ·exact .inl ⟨i + 1, t', d, f, h1, h2, by rw [h3, show m + 1 + i = m + (i + 1) by omega], h4⟩
  ·rw [ms] at h
   split at h
   ·rename_i hc
    obtain ⟨f, hf, rfl⟩ := Option.map_eq_some_iff.1 h
    obtain ⟨k1, k2⟩ := key
    simp only at hc hf
    exact .inl ⟨0, t, (k2 - ((0 : Nat) : Int)).toNat, f, rfl, hf, by simp only [Prod.mk.injEq]; omega, rfl⟩
   ·exact .inr h
theorem tQ {key : Int × Int} : ∀ (p : List Tree) (m i d : Nat) (l : List ((Int × Int) × aa)) (t f : Tree), p[i]? = some t → t.kids[d]? = some f → key = (((m + i : Nat) : Int), (d : Int)) → mlook key (sgM p m l) = some (jV f)
 | [], m, i, d, l, t, f, h, _, _ => by simp at h
 | t0 :: r, m, 0, d, l, t, f, h1, h2, h3 => by
  simp only [List.getElem?_cons_zero, Option.some.injEq] at h1
  subst h1
  have hd := (List.getElem?_eq_some_iff.1 h2).1
  rw [sgM]
  have keep : ∀ (r : List Tree) (m' : Nat) (l : List ((Int × Int) × aa)), m < m' → mlook key (sgM r m' l) = mlook key l := fun r => by
   induction r with
   | nil => intros; rfl
   | cons t r ih =>
    intro m' l hm
    rw [sgM, ih (m' + 1) _ (by omega), ms, if_neg]
    rw [h3]; simp only; omega
  rw [keep r (m + 1) _ (by omega), ms, if_pos (by rw [h3]; simp only; omega), h3]
  simp only
  rw [show ((d : Int) - ((0 : Nat) : Int)).toNat = d by omega, h2]; rfl
 | t0 :: r, m, i + 1, d, l, t, f, h1, h2, h3 => by
  rw [sgM]
  exact tQ r (m + 1) i d _ t f (by simpa using h1) h2 (by rw [h3, show m + 1 + i = m + (i + 1) by omega])
theorem vW {f : Tree} {L : Nat} (hb : tbulk f ≤ L) : KOk L (jV f).result ∧ ∀ q ∈ (jV f).params, KOk L q := by
 have kd : ∀ (t : Tree) (i : Nat), tbulk (dp t i) ≤ tbulk t := fun t i => by
  by_cases h : i < t.kids.length
  ·have := bd (hZ h); omega
  ·have h0 : dp t i = .node 0 [] [] [] := by simp only [dp, List.getD_eq_getElem?_getD, List.getElem?_eq_none (Nat.le_of_not_lt h)]; rfl
   have h1 := dg t
   rw [h0]; simp [tbulk, kbulk, lsum]; omega
 have ok : ∀ t, tbulk t ≤ L → KOk L (knK t) := fun t ht => by
  have := (vQ t).2
  exact ⟨by simp [knK], by simp only [knK]; omega⟩
 refine ⟨ok _ (Nat.le_trans (kd f _) hb), fun q hq => ?_⟩
 obtain ⟨k, hk, rfl⟩ := List.mem_map.1 hq
 have hk' := List.mem_of_mem_take hk
 obtain ⟨i, hi⟩ := List.getElem?_of_mem hk'
 have := bd hi
 exact ok _ (by have := kd k 0; omega)
structure ProgOk (p : List Tree) : Prop where
 m : ∀ (m : Nat) (t : Tree), p[m]? = some t → t.kind = 1 ∧ shapeK t = true
 f : ∀ (m : Nat) (t : Tree) (d : Nat) (f : Tree), p[m]? = some t → t.kids[d]? = some f → FunOk f
def cx0 (p : List Tree) (wm : Int) (wp : List Int) : Cx := ⟨p, [], sgM p 0 [], 0, [], wm, wp⟩
def dC (p : List Tree) (wm : Int) (wp : List Int) : Sv := jd (cx0 p wm wp) p 0 ⟨bl p, [], 0, 0⟩
theorem yO {p : List Tree} (hp : ProgOk p) (hb : kbulk p ≤ 10000000) (ht : uNs p ≤ (bl p).length) (wm : Int) (wp : List Int) : ∃ z, dk p (bl p) [] (sgM p 0 []) 0 [] [] wm wp 0 0 p (dC p wm wp).tg [] (sgM p 0 []) z [] (dC p wm wp).fa wm wp (dC p wm wp).rs (dC p wm wp).rl := by
 have hl := du p
 obtain ⟨M, hM⟩ := xk (x := cx0 p wm wp) (L := kbulk p) (by simp [cx0]; omega) (fun m t d f h1 h2 => by
  have ho := hp.f m t d f h1 h2
  obtain ⟨q1, _⟩ := mO ho.s ho.k
  have hbt := co (show p[m]? = some t from h1)
  have hbf := bd h2
  exact ⟨ho.s, ho.k, jV f, tQ p 0 m d [] t f h1 h2 (by simp), by simp [jV]; omega, (vW (by omega)).2⟩) (fun k q hq => by
  rcases qR k p 0 [] q hq with ⟨i, t, d, f, h1, h2, _, rfl⟩ | h
  ·have hbt := co h1
   have hbf := bd h2
   exact (vW (by omega)).1
  ·cases h) p.length 0 0 ⟨bl p, [], 0, 0⟩ (by simp [cx0]) (by simp [cx0]; omega) (by simp [cx0]; omega) (fun m t h => (hp.m m t h).1) (by simpa [cx0] using ht) (by simp [cx0]; omega)
 exact ⟨_, lI M _ _ _ _ _ _ _ _ _ _ _ _ _ _ _ _ _ _ _ _ _ _ (hM)⟩
theorem pb {p : List Tree} (hp : ProgOk p) (hb : kbulk p ≤ 10000000) : eV p true := by
 have hl := du p
 have loop : ∀ k i, k + i = p.length → ej (k + 1) p i true := fun k => by
  induction k with
  | zero => intro i hi; exact jt 0 _ _ _ (⟨fun h => absurd h (by omega), fun _ => rfl⟩)
  | succ k ih =>
   intro i hi
   obtain ⟨t, ht⟩ : ∃ t, p[i]? = some t := ⟨_, List.getElem?_eq_getElem (by omega)⟩
   obtain ⟨h1, h2⟩ := hp.m i t ht
   have := co ht
   exact jt (k + 1) _ _ _ (⟨fun _ => ⟨t, ht, fun h => absurd h1 h, fun _ => ⟨_, sR t (by omega), fun h => (by rw [h2] at h; cases h), fun _ => ⟨by omega, ih (i + 1) (by omega)⟩⟩⟩, fun h => absurd (by omega) h⟩)
 exact nK (p.length + 1) _ _ (loop p.length 0 (by omega))
theorem xX {p : List Tree} (hp : ProgOk p) (hb : kbulk p ≤ 10000000) (ht : uNs p ≤ (bl p).length) {r : List ae} (hs : aW (dC p 0 []).fa r) : br p r := by
 obtain ⟨z, hz⟩ := yO hp hb ht 0 []
 exact oz 0 _ _ (⟨_, pb hp hb, fun h => (by cases h), fun _ => ⟨_, _, _, _, _, _, _, _, _, _, _, mR hp.f (by omega), _, _, _, _, _, _, _, _, _, _, _, hz, _, hs, rfl⟩⟩)
def ofK (p : List Tree) (m : Int) (q : List Int) : Tree × Int := if (dC p m q).rs = 0 then (.node 0 [] [] [], 20) else (vd (dC p m q).rl.toNat (.node (dC p m q).rs [] [] []), 0)
theorem AB {p : List Tree} (hp : ProgOk p) (hb : kbulk p ≤ 10000000) (ht : uNs p ≤ (bl p).length) {m : Nat} {q : List Int} {t u : Tree} (hm : p[m]? = some t) (hat : ie t q u true) (hu : dn u.kind = true) (hz : (dC p m q).rl = 0) : jj p ⟨(m : Int), q⟩ (ofK p m q).1 (ofK p m q).2 := by
 obtain ⟨z, hz'⟩ := yO hp hb ht m q
 have hk : 10 ≤ u.kind ∧ u.kind ≤ 22 ∧ u.kind ≠ 17 := by simpa [dn] using hu
 have hlt : m < p.length := (List.getElem?_eq_some_iff.1 hm).1
 refine so 2 _ _ _ _ (⟨_, pb hp hb, fun h => (by cases h), fun _ => ⟨fun h => absurd h (by simp), fun _ => ⟨fun h => absurd h (by simp only; omega), fun _ => ⟨m, rfl, t, hm, u, true, hat, ?_⟩⟩⟩⟩)
 refine qn 1 _ _ _ _ _ _ (⟨fun h => (by cases h), fun _ => ⟨fun h => absurd h (by omega), fun _ => ⟨fun h => absurd h (by omega), fun _ => ⟨fun h => absurd h hk.2.2, fun _ => ⟨_, _, _, _, _, _, _, _, _, _, _, mR hp.f (by omega), _, _, _, _, _, _, _, _, _, _, _, hz', fun h => ?_, fun h => ?_⟩⟩⟩⟩⟩)
 ·unfold ofK; rw [if_pos h]; exact ⟨rfl, rfl⟩
 ·unfold ofK; rw [if_neg h, hz]
  exact qm 0 _ _ _ _ _ _ (⟨fun h => absurd h (by simp), fun _ => ⟨rfl, rfl⟩⟩)
abbrev vD (a0 : List Int) (a1 : Int) : Ob := .var 51 [.row 1 (List.map (V.int .i64) a0), .int .i64 a1]
def dI (r0 : Bool) : Prop := qS 6 [] (.bool r0)
def nV (p0 : List UInt8) (r0 : Tree) (r1 r2 : Int) : Prop := qS 14 [.str p0] (.tup [.agg (ao r0), .int .i64 r1, .int .i64 r2])
def hW (r0 : Bool) : Prop := qS 6 [] (.bool r0)
def ax (c : List Int) (a p1 p2 : Int) (r0 : Tree) (d : List Int) (b : Int) : Prop := aV [] Tryz.prog 8 [.ptr 0 0, .int .i64 p1, .int .i64 p2] ⟨1, [(0, vD c a)]⟩ (fun u G => u = .agg (ao r0) ∧ G = ⟨2, [(0, vD d b)]⟩)
def ca (p0 r0 : Tree) : Prop := qS 16 [.agg (ao p0)] (.agg (ao r0))
def cZ (p0 : Int) (p1 : Tree) (r0 : List Tree) : Prop := qS 10 [.int .i64 p0, .agg (ao p1)] (.row 4 (kidsV r0))
def fF (p0 : List Int) (p1 p2 : Int) (r0 : Bool) : Prop := qS 3 [.row 1 (List.map (V.int .i64) p0), .int .i64 p1, .int .i64 p2] (.bool r0)
def dA (p0 p1 r0 : Int) : Prop := qS 7 [.int .i64 p0, .int .i64 p1] (.int .i64 r0)
def gu (p0 b : List Int) (a : Int) : Prop := aV [] Tryz.prog 9 [.row 1 (List.map (V.int .i64) p0)] ⟨0, []⟩ (fun u G => u = .ptr 0 0 ∧ G = ⟨1, [(0, vD b a)]⟩)
def fI (p0 : List Int) (r0 : Bool) : Prop := qS 5 [.row 1 (List.map (V.int .i64) p0)] (.bool r0)
def cO (c : List Int) (a p1 r0 : Int) (d : List Int) (b : Int) : Prop := aV [] Tryz.prog 15 [.ptr 0 0, .int .i64 p1] ⟨1, [(0, vD c a)]⟩ (fun u G => u = .int .i64 r0 ∧ G = ⟨1, [(0, vD d b)]⟩)
theorem lp (m : Nat) (r0 : Bool) (h : ∃ b o g, nV [109, 111, 100, 117, 108, 101, 32, 77, 32, 100, 101, 102, 32, 102, 40, 41, 58, 32, 73, 110, 116, 32, 61, 32, 49, 32, 43, 32, 34, 97, 34, 32, 100, 101, 102, 32, 103, 40, 120, 58, 32, 66, 111, 111, 108, 41, 58, 32, 73, 110, 116, 32, 61, 32, 105, 102, 32, 120, 32, 116, 104, 101, 110, 32, 49, 32, 101, 108, 115, 101, 32, 103, 40, 41] b o g ∧ ∃ a, br [b] a ∧ ∃ i j, jj [b] (GPlace.mk 0 [0, 1]) i j ∧ ((g = 0) → ((j = 0) → ((i.kind = 5) → (((a.length : Int) = 2) → ∃ k, a[0]? = some k ∧ ((k.Kind = 6) → ∃ n, a[0]? = some n ∧ ∃ l, bL n.At.Path [0, 1, 1] l ∧ ((l = true) → ∃ c, a[1]? = some c ∧ ((c.Kind = 3) → ∃ d, a[1]? = some d ∧ ∃ e, bL d.At.Path [1, 2, 2] e ∧ e = r0) ∧ ((c.Kind ≠ 3) → false = r0)) ∧ ((l = false) → false = r0)) ∧ ((k.Kind ≠ 6) → false = r0)) ∧ (((a.length : Int) ≠ 2) → false = r0)) ∧ ((i.kind ≠ 5) → false = r0)) ∧ ((j ≠ 0) → false = r0)) ∧ ((g ≠ 0) → false = r0)) : hW r0 := by
 refine ⟨rfl, rfl, ?_⟩
 refine al 71 [] Tryz.func6 rfl rfl rfl (aA rfl) fun K hK => ?_
 refine gR 7 rfl ?_
 obtain ⟨b, o, g, hs7, h⟩ := h
 refine gC0 hs7 (by kernel_rfl) rfl rfl .rfl rfl <| gR 14 rfl <| gHR 1 (kidsV [b]) rfl (lc b) rfl <| gFR 1 rfl (dJ _) rfl rfl ?_
 obtain ⟨a, hs8, h⟩ := h
 refine gC hs8 [] (by kernel_rfl) rfl rfl .rfl trivial rfl ?_
 rintro _ _ ⟨rfl, rfl⟩
 refine gHR 2 (List.map ae.w a) rfl (vH _ a) rfl <| gR 7 rfl <| gHR 3 (kidsV [b]) rfl (lc b) rfl <| gR 2 rfl <| gFR 3 rfl (dJ _) rfl rfl <| gFR 4 rfl rfl rfl rfl ?_
 obtain ⟨i, j, hs9, h⟩ := h
 refine gC0 hs9 (by kernel_rfl) rfl rfl .rfl rfl <| gR 13 rfl <| qBeZ 25 24 rfl rfl rfl rfl h (fun h => ?_) fun h => ?_
 refine gR 4 rfl <| qBeZ 29 28 rfl rfl rfl rfl h (fun h => ?_) fun h => ?_
 refine gR 5 rfl <| qBeZ 34 33 rfl rfl rfl rfl h (fun h => ?_) fun h => ?_
 refine gR 2 rfl <| gV 36 (.int .i64 (a.length : Int)) rfl (aM (aF ae.w _)) rfl <| gLO 2 rfl (aF ae.w _) fun hl10 => gR 3 rfl <| qBeZ 39 38 rfl rfl rfl rfl h (fun h => ?_) fun h => ?_
 refine gR 1 rfl ?_
 obtain ⟨k, hxx0_7, h⟩ := h
 refine gY (yIO ah rfl rfl rfl rfl (by have := (mapget (f := ae.w) hxx0_7); exact (List.getElem?_eq_some_iff.1 this).1)) rfl rfl ?_
 refine gR 1 rfl <| gDo (.nop) (dLe ah rfl rfl rfl (mapget (f := ae.w) hxx0_7) rfl) trivial rfl rfl rfl <| gR 3 rfl <| qBeZ 46 45 rfl rfl rfl rfl h (fun h => ?_) fun h => ?_
 refine gR 1 rfl ?_
 obtain ⟨n, hxx0_8, h⟩ := h
 refine gY (yIO ah rfl rfl rfl rfl (by have := (mapget (f := ae.w) hxx0_8); exact (List.getElem?_eq_some_iff.1 this).1)) rfl rfl ?_
 refine gR 2 rfl <| gDo (.nop) (dLe ah rfl rfl rfl (mapget (f := ae.w) hxx0_8) rfl) trivial rfl rfl rfl <| gR 1 rfl <| gFR 6 rfl rfl rfl rfl ?_
 obtain ⟨l, hs11, h⟩ := h
 refine gC0 hs11 (by kernel_rfl) rfl rfl .rfl rfl <| gR 2 rfl <| qBiZ 55 54 rfl rfl rfl rfl h (fun h => ?_) fun h => ?_
 refine gR 1 rfl ?_
 obtain ⟨c, hxx0_10, h⟩ := h
 refine gY (yIO ah rfl rfl rfl rfl (by have := (mapget (f := ae.w) hxx0_10); exact (List.getElem?_eq_some_iff.1 this).1)) rfl rfl ?_
 refine gR 1 rfl <| gDo (.nop) (dLe ah rfl rfl rfl (mapget (f := ae.w) hxx0_10) rfl) trivial rfl rfl rfl <| gR 3 rfl <| qBeZ 62 61 rfl rfl rfl rfl h (fun h => ?_) fun h => ?_
 refine gR 1 rfl ?_
 obtain ⟨d, hxx0_11, h⟩ := h
 refine gY (yIO ah rfl rfl rfl rfl (by have := (mapget (f := ae.w) hxx0_11); exact (List.getElem?_eq_some_iff.1 this).1)) rfl rfl ?_
 refine gR 2 rfl <| gDo (.nop) (dLe ah rfl rfl rfl (mapget (f := ae.w) hxx0_11) rfl) trivial rfl rfl rfl <| gR 1 rfl <| gFR 7 rfl rfl rfl rfl ?_
 obtain ⟨e, hs12, h⟩ := h
 refine gC0 hs12 (by kernel_rfl) rfl rfl .rfl rfl <| gR 5 rfl ?_
 subst h
 exact go_end ah (rs := [.tmp 0]) rfl rfl rfl
 refine gR 12 rfl ?_
 subst h
 exact go_end ah (rs := [.tmp 0]) rfl rfl rfl
 refine gR 19 rfl ?_
 subst h
 exact go_end ah (rs := [.tmp 0]) rfl rfl rfl
 refine gR 28 rfl ?_
 subst h
 exact go_end ah (rs := [.tmp 0]) rfl rfl rfl
 refine gR 35 rfl ?_
 subst h
 exact go_end ah (rs := [.tmp 0]) rfl rfl rfl
 refine gR 40 rfl ?_
 subst h
 exact go_end ah (rs := [.tmp 0]) rfl rfl rfl
 refine gR 45 rfl ?_
 subst h
 exact go_end ah (rs := [.tmp 0]) rfl rfl rfl
 refine gR 49 rfl ?_
 subst h
 exact go_end ah (rs := [.tmp 0]) rfl rfl rfl
def cC (m : Nat) (p1 p2 : Int) (b : List Int) (c d : Int) (r0 : Tree) (e : List Int) (a : Int) : Prop := ∀ (K : Ctx), aG K [0] → qLG K Tryz.f8 (fun u G => u = .agg (ao r0) ∧ G = ⟨2, [(0, vD e a)]⟩) (xF (ai Tryz.f8)) [] 120 (mkF 120 0 [(0, .ptr 0 0), (1, .int .i64 p1), (2, .int .i64 p2), (6, .ptr 1 0), (7, .int .i64 d)]) ⟨2, [(1, .var 29 [.int .i64 0, .str [], .nils, .nils]), (0, vD b c)]⟩
def dE (m : Nat) (p1 p2 : Int) (b : List Int) (c d : Int) (e : Bool) (r0 : Tree) (f : List Int) (a : Int) : Prop := ∀ (K : Ctx), aG K [0] → qLG K Tryz.f8 (fun u G => u = .agg (ao r0) ∧ G = ⟨2, [(0, vD f a)]⟩) (cB (cE (cB (cE (cB (cE (cB (cK (xD (cB (ai Tryz.f8))))))))))) [.blk 0, .seq (xG (ai Tryz.f8))] 120 (mkF 120 0 [(0, .ptr 0 0), (1, .int .i64 p1), (2, .int .i64 p2), (6, .ptr 1 0), (7, .int .i64 d), (55, .bool e)]) ⟨2, [(1, .var 29 [.int .i64 0, .str [], .nils, .nils]), (0, vD b c)]⟩
def cH (m : Nat) (p1 p2 : Int) (b : List Int) (c d : Int) (e : Bool) (r0 : Tree) (f : List Int) (a : Int) : Prop := ∀ (K : Ctx), aG K [0] → qLG K Tryz.f8 (fun u G => u = .agg (ao r0) ∧ G = ⟨2, [(0, vD f a)]⟩) (cB (cE (cB (cE (cB (cE (cB (cE (cB (cK (xD (cB (ai Tryz.f8))))))))))))) [.blk 0, .seq (xG (ai Tryz.f8))] 120 (mkF 120 0 [(0, .ptr 0 0), (1, .int .i64 p1), (2, .int .i64 p2), (6, .ptr 1 0), (7, .int .i64 d), (74, .bool e)]) ⟨2, [(1, .var 29 [.int .i64 0, .str [], .nils, .nils]), (0, vD b c)]⟩
theorem iE (m : Nat) (g : List Int) (d p1 p2 : Int) (r0 : Tree) (e : List Int) (a : Int) (h : ∃ f b c, cO g d 6 f b c ∧ ((p2 < 1) → cC m p1 p2 b c 0 r0 e a) ∧ ((¬ p2 < 1) → cC m p1 p2 b c f r0 e a)) : ax g d p1 p2 r0 e a := by
 refine al 120 [0] Tryz.func8 rfl rfl rfl (aA rfl) fun K hK => ?_
 refine gR 8 rfl ?_
 obtain ⟨f, b, c, hs65, h⟩ := h
 refine gCY hs65 [0] ?_
 refine gR 10 rfl <| qBd 11 rfl rfl rfl h (fun h => ?_) fun h => ?_
 exact gR 5 rfl <| gJ (h K hK) [0, 1] [0] rfl hK pq5 (pqo2 rfl rfl rfl rfl) rfl
 exact gR 3 rfl <| gJ (h K hK) [0, 1] [0] rfl hK pq5 (pqo2 rfl rfl rfl rfl) rfl
theorem cm (m : Nat) (p1 p2 : Int) (j : List Int) (k d : Int) (r0 : Tree) (l : List Int) (i : Int) (h : ((d = 1) → InI (p2 - 1) ∧ ∃ e w x, ax j k 7 (p2 - 1) e w x ∧ InI (p2 - 1) ∧ ∃ f y z, ax w x p1 (p2 - 1) f y z ∧ InI (p2 - 1) ∧ ∃ g t v, ax y z p1 (p2 - 1) g t v ∧ (Tree.node 19 [] [] [e, f, g]) = r0 ∧ t = l ∧ v = i) ∧ ((d ≠ 1) → ((d = 2) → InI (p2 - 1) ∧ ∃ a r s, ax j k 6 (p2 - 1) a r s ∧ InI (p2 - 1) ∧ ∃ b n o, ax r s p1 (p2 - 1) b n o ∧ (Tree.node 20 [121] [] [a, b]) = r0 ∧ n = l ∧ o = i) ∧ ((d ≠ 2) → ((d = 3) → InI (p2 - 1) ∧ ∃ c p q, ax j k p1 (p2 - 1) c p q ∧ (Tree.node 22 [] [] [c]) = r0 ∧ p = l ∧ q = i) ∧ ((d ≠ 3) → ((3 < d) → dE m p1 p2 j k d (p1 == 7) r0 l i) ∧ ((¬ 3 < d) → dE m p1 p2 j k d false r0 l i))))) : cC (m + 1) p1 p2 j k d r0 l i := by
 intro K hK
 refine gR 9 rfl <| qBeZ 12 14 rfl rfl rfl rfl h (fun h => ?_) fun h => ?_
 refine gR 5 rfl ?_
 obtain ⟨hb, h⟩ := h
 refine gR 1 rfl <| gV 17 (.int .i64 (p2 - 1)) rfl (au hb rfl) rfl ?_
 obtain ⟨e, w, x, hs66, h⟩ := h
 refine gCY hs66 [0] ?_
 refine gR 3 rfl ?_
 obtain ⟨hb, h⟩ := h
 refine gR 1 rfl <| gV 22 (.int .i64 (p2 - 1)) rfl (au hb rfl) rfl ?_
 obtain ⟨f, y, z, hs67, h⟩ := h
 refine gCY hs67 [0] ?_
 refine gR 3 rfl ?_
 obtain ⟨hb, h⟩ := h
 refine gR 1 rfl <| gV 27 (.int .i64 (p2 - 1)) rfl (au hb rfl) rfl ?_
 obtain ⟨g, t, v, hs68, h⟩ := h
 refine gCY hs68 [0] ?_
 refine gR 1 rfl <| gHR 8 (kidsV [e, f, g]) rfl (oa [e, f, g]) rfl <| gR 7 rfl <| gFR 8 rfl (dJ _) rfl rfl ?_
 obtain ⟨rfl, rfl, rfl⟩ := h
 exact go_sub (F' := (mkF 120 0 [(6, .ptr 1 0)])) (H' := ⟨2, [(1, vC ((Tree.node 19 [] [] [e, f, g]).kind) ((Tree.node 19 [] [] [e, f, g]).text) ((Tree.node 19 [] [] [e, f, g]).leads) ((Tree.node 19 [] [] [e, f, g]).kids)), (0, vD t v)]⟩) [0, 1] [0] rfl hK pq1 ⟨⟨_, rfl, rfl, (.cons .rfl (.cons .rfl (.cons (.nil 1) (.cons .rfl .nil))))⟩, (pqo1 rfl rfl)⟩ rfl <| go_endD [1] ah (rs := [.cell 6 29]) rfl rfl ⟨rfl, rfl⟩
 refine gR 8 rfl <| qBeZ 31 33 rfl rfl rfl rfl h (fun h => ?_) fun h => ?_
 refine gR 5 rfl ?_
 obtain ⟨hb, h⟩ := h
 refine gR 1 rfl <| gV 36 (.int .i64 (p2 - 1)) rfl (au hb rfl) rfl ?_
 obtain ⟨a, r, s, hs69, h⟩ := h
 refine gCY hs69 [0] ?_
 refine gR 3 rfl ?_
 obtain ⟨hb, h⟩ := h
 refine gR 1 rfl <| gV 41 (.int .i64 (p2 - 1)) rfl (au hb rfl) rfl ?_
 obtain ⟨b, n, o, hs70, h⟩ := h
 refine gCY hs70 [0] ?_
 refine gR 1 rfl <| gHR 6 (kidsV [a, b]) rfl (oa [a, b]) rfl <| gR 7 rfl <| gFR 6 rfl (dJ _) rfl rfl ?_
 obtain ⟨rfl, rfl, rfl⟩ := h
 exact go_sub (F' := (mkF 120 0 [(6, .ptr 1 0)])) (H' := ⟨2, [(1, vC ((Tree.node 20 [121] [] [a, b]).kind) ((Tree.node 20 [121] [] [a, b]).text) ((Tree.node 20 [121] [] [a, b]).leads) ((Tree.node 20 [121] [] [a, b]).kids)), (0, vD n o)]⟩) [0, 1] [0] rfl hK pq1 ⟨⟨_, rfl, rfl, (.cons .rfl (.cons .rfl (.cons (.nil 1) (.cons .rfl .nil))))⟩, (pqo1 rfl rfl)⟩ rfl <| go_endD [1] ah (rs := [.cell 6 29]) rfl rfl ⟨rfl, rfl⟩
 refine gR 8 rfl <| qBeZ 45 47 rfl rfl rfl rfl h (fun h => ?_) fun h => ?_
 refine gR 6 rfl ?_
 obtain ⟨hb, h⟩ := h
 refine gR 1 rfl <| gV 51 (.int .i64 (p2 - 1)) rfl (au hb rfl) rfl ?_
 obtain ⟨c, p, q, hs71, h⟩ := h
 refine gCY hs71 [0] ?_
 refine gR 1 rfl <| gHR 4 (kidsV [c]) rfl (lc c) rfl <| gR 7 rfl <| gFR 4 rfl (dJ _) rfl rfl ?_
 obtain ⟨rfl, rfl, rfl⟩ := h
 exact go_sub (F' := (mkF 120 0 [(6, .ptr 1 0)])) (H' := ⟨2, [(1, vC ((Tree.node 22 [] [] [c]).kind) ((Tree.node 22 [] [] [c]).text) ((Tree.node 22 [] [] [c]).leads) ((Tree.node 22 [] [] [c]).kids)), (0, vD p q)]⟩) [0, 1] [0] rfl hK pq1 ⟨⟨_, rfl, rfl, (.cons .rfl (.cons .rfl (.cons (.nil 1) (.cons .rfl .nil))))⟩, (pqo1 rfl rfl)⟩ rfl <| go_endD [1] ah (rs := [.cell 6 29]) rfl rfl ⟨rfl, rfl⟩
 refine gR 6 rfl <| qBdZ 58 57 rfl rfl rfl rfl h (fun h => ?_) fun h => ?_
 exact gR 6 rfl <| gJ (h K hK) [0, 1] [0] rfl hK pq6 (pqo2 rfl rfl rfl rfl) rfl
 exact gR 6 rfl <| gJ (h K hK) [0, 1] [0] rfl hK pq6 (pqo2 rfl rfl rfl rfl) rfl
theorem fb (m : Nat) (p1 p2 : Int) (e : List Int) (f d : Int) (k : Bool) (r0 : Tree) (g : List Int) (c : Int) (h : ((k = true) → InI (p2 - 1) ∧ ∃ l n o, ax e f 5 (p2 - 1) l n o ∧ ∃ a, ca l a ∧ InI (p2 - 1) ∧ ∃ p i j, ax n o 5 (p2 - 1) p i j ∧ ∃ b, ca p b ∧ (Tree.node 21 [60] [] [a, b]) = r0 ∧ i = g ∧ j = c) ∧ ((k = false) → ((d = 4) → cH m p1 p2 e f d (p1 == 5) r0 g c) ∧ ((d ≠ 4) → cH m p1 p2 e f d false r0 g c))) : dE (m + 1) p1 p2 e f d k r0 g c := by
 intro K hK
 refine qBi 55 rfl rfl rfl h (fun h => ?_) fun h => ?_
 refine gR 5 rfl ?_
 obtain ⟨hb, h⟩ := h
 refine gR 1 rfl <| gV 64 (.int .i64 (p2 - 1)) rfl (au hb rfl) rfl ?_
 obtain ⟨l, n, o, hs72, h⟩ := h
 refine gCY hs72 [0] ?_
 obtain ⟨a, hs73, h⟩ := h
 refine gC0 hs73 (by kernel_rfl) rfl rfl .rfl rfl <| gR 2 rfl ?_
 obtain ⟨hb, h⟩ := h
 refine gR 1 rfl <| gV 69 (.int .i64 (p2 - 1)) rfl (au hb rfl) rfl ?_
 obtain ⟨p, i, j, hs74, h⟩ := h
 refine gCY hs74 [0] ?_
 obtain ⟨b, hs75, h⟩ := h
 refine gC0 hs75 (by kernel_rfl) rfl rfl .rfl rfl <| gR 1 rfl <| gHR 6 (kidsV [a, b]) rfl (oa [a, b]) rfl <| gR 7 rfl <| gFR 6 rfl (dJ _) rfl rfl ?_
 obtain ⟨rfl, rfl, rfl⟩ := h
 exact go_sub (F' := (mkF 120 0 [(6, .ptr 1 0)])) (H' := ⟨2, [(1, vC ((Tree.node 21 [60] [] [a, b]).kind) ((Tree.node 21 [60] [] [a, b]).text) ((Tree.node 21 [60] [] [a, b]).leads) ((Tree.node 21 [60] [] [a, b]).kids)), (0, vD i j)]⟩) [0, 1] [0] rfl hK pq1 ⟨⟨_, rfl, rfl, (.cons .rfl (.cons .rfl (.cons (.nil 1) (.cons .rfl .nil))))⟩, (pqo1 rfl rfl)⟩ rfl <| go_endD [1] ah (rs := [.cell 6 29]) rfl rfl ⟨rfl, rfl⟩
 refine gR 6 rfl <| qBeZ 77 76 rfl rfl rfl rfl h (fun h => ?_) fun h => ?_
 exact gR 6 rfl <| gJ (h K hK) [0, 1] [0] rfl hK pq6 (pqo2 rfl rfl rfl rfl) rfl
 exact gR 6 rfl <| gJ (h K hK) [0, 1] [0] rfl hK pq6 (pqo2 rfl rfl rfl rfl) rfl
theorem bz (m : Nat) (p1 p2 : Int) (g : List Int) (i q : Int) (r : Bool) (r0 : Tree) (j : List Int) (c : Int) (h : ((r = true) → InI (p2 - 1) ∧ ∃ b n o, ax g i 5 (p2 - 1) b n o ∧ (Tree.node 16 [102] [] [(Tree.node 17 [] [] [b])]) = r0 ∧ n = j ∧ o = c) ∧ ((r = false) → ((3 < q) → InI (p2 - 1) ∧ ∃ s t v, ax g i p1 (p2 - 1) s t v ∧ ∃ d, ca s d ∧ InI (p2 - 1) ∧ ∃ w p k, ax t v p1 (p2 - 1) w p k ∧ ∃ a, ca w a ∧ (Tree.node 21 [43] [] [d, a]) = r0 ∧ p = j ∧ k = c) ∧ ((¬ 3 < q) → ((p1 = 6) → (Tree.node 11 [34, 115, 34] [] []) = r0 ∧ g = j ∧ i = c) ∧ ((p1 ≠ 6) → ((p1 = 7) → (Tree.node 13 [] [] []) = r0 ∧ g = j ∧ i = c) ∧ ((p1 ≠ 7) → ∃ l e f, cO g i 2 l e f ∧ ((l = 0) → (Tree.node 12 [120] [] []) = r0 ∧ e = j ∧ f = c) ∧ ((l ≠ 0) → (Tree.node 10 [52] [] []) = r0 ∧ e = j ∧ f = c)))))) : cH (m + 1) p1 p2 g i q r r0 j c := by
 intro K hK
 refine qBi 74 rfl rfl rfl h (fun h => ?_) fun h => ?_
 refine gR 5 rfl ?_
 obtain ⟨hb, h⟩ := h
 refine gR 1 rfl <| gV 83 (.int .i64 (p2 - 1)) rfl (au hb rfl) rfl ?_
 obtain ⟨b, n, o, hs76, h⟩ := h
 refine gCY hs76 [0] ?_
 refine gR 1 rfl <| gHR 4 (kidsV [b]) rfl (lc b) rfl <| gR 1 rfl <| gFR 4 rfl (dJ _) rfl rfl <| gS 86 (.agg [.int .i64 17, .str [], .row 1 [], .row 4 (kidsV [b])]) rfl (.agg (.cons .rfl (.cons .rfl (.cons (.nil 1) (.cons .rfl .nil))))) rfl <| gR 1 rfl <| gHR 5 (kidsV [(Tree.node 17 [] [] [b])]) rfl (lc (Tree.node 17 [] [] [b])) rfl <| gR 7 rfl <| gFR 5 rfl (dJ _) rfl rfl ?_
 obtain ⟨rfl, rfl, rfl⟩ := h
 exact go_sub (F' := (mkF 120 0 [(6, .ptr 1 0)])) (H' := ⟨2, [(1, vC ((Tree.node 16 [102] [] [(Tree.node 17 [] [] [b])]).kind) ((Tree.node 16 [102] [] [(Tree.node 17 [] [] [b])]).text) ((Tree.node 16 [102] [] [(Tree.node 17 [] [] [b])]).leads) ((Tree.node 16 [102] [] [(Tree.node 17 [] [] [b])]).kids)), (0, vD n o)]⟩) [0, 1] [0] rfl hK pq1 ⟨⟨_, rfl, rfl, (.cons .rfl (.cons .rfl (.cons (.nil 1) (.cons .rfl .nil))))⟩, (pqo1 rfl rfl)⟩ rfl <| go_endD [1] ah (rs := [.cell 6 29]) rfl rfl ⟨rfl, rfl⟩
 refine gR 8 rfl <| qBdZ 89 91 rfl rfl rfl rfl h (fun h => ?_) fun h => ?_
 refine gR 6 rfl ?_
 obtain ⟨hb, h⟩ := h
 refine gR 1 rfl <| gV 95 (.int .i64 (p2 - 1)) rfl (au hb rfl) rfl ?_
 obtain ⟨s, t, v, hs77, h⟩ := h
 refine gCY hs77 [0] ?_
 obtain ⟨d, hs78, h⟩ := h
 refine gC0 hs78 (by kernel_rfl) rfl rfl .rfl rfl <| gR 3 rfl ?_
 obtain ⟨hb, h⟩ := h
 refine gR 1 rfl <| gV 101 (.int .i64 (p2 - 1)) rfl (au hb rfl) rfl ?_
 obtain ⟨w, p, k, hs79, h⟩ := h
 refine gCY hs79 [0] ?_
 obtain ⟨a, hs80, h⟩ := h
 refine gC0 hs80 (by kernel_rfl) rfl rfl .rfl rfl <| gR 1 rfl <| gHR 6 (kidsV [d, a]) rfl (oa [d, a]) rfl <| gR 7 rfl <| gFR 6 rfl (dJ _) rfl rfl ?_
 obtain ⟨rfl, rfl, rfl⟩ := h
 exact go_sub (F' := (mkF 120 0 [(6, .ptr 1 0)])) (H' := ⟨2, [(1, vC ((Tree.node 21 [43] [] [d, a]).kind) ((Tree.node 21 [43] [] [d, a]).text) ((Tree.node 21 [43] [] [d, a]).leads) ((Tree.node 21 [43] [] [d, a]).kids)), (0, vD p k)]⟩) [0, 1] [0] rfl hK pq1 ⟨⟨_, rfl, rfl, (.cons .rfl (.cons .rfl (.cons (.nil 1) (.cons .rfl .nil))))⟩, (pqo1 rfl rfl)⟩ rfl <| go_endD [1] ah (rs := [.cell 6 29]) rfl rfl ⟨rfl, rfl⟩
 refine gR 8 rfl <| qBeZ 106 108 rfl rfl rfl rfl h (fun h => ?_) fun h => ?_
 refine gR 10 rfl ?_
 obtain ⟨rfl, rfl, rfl⟩ := h
 exact go_sub (F' := (mkF 120 0 [(6, .ptr 1 0)])) (H' := ⟨2, [(1, vC ((Tree.node 11 [34, 115, 34] [] []).kind) ((Tree.node 11 [34, 115, 34] [] []).text) ((Tree.node 11 [34, 115, 34] [] []).leads) ((Tree.node 11 [34, 115, 34] [] []).kids)), (0, vD g i)]⟩) [0, 1] [0] rfl hK pq1 ⟨⟨_, rfl, rfl, (.cons .rfl (.cons .rfl (.cons (.nil 1) (.cons (.nil 4) .nil))))⟩, (pqo1 rfl rfl)⟩ rfl <| go_endD [1] ah (rs := [.cell 6 29]) rfl rfl ⟨rfl, rfl⟩
 refine gR 8 rfl <| qBeZ 110 112 rfl rfl rfl rfl h (fun h => ?_) fun h => ?_
 refine gR 10 rfl ?_
 obtain ⟨rfl, rfl, rfl⟩ := h
 exact go_sub (F' := (mkF 120 0 [(6, .ptr 1 0)])) (H' := ⟨2, [(1, vC ((Tree.node 13 [] [] []).kind) ((Tree.node 13 [] [] []).text) ((Tree.node 13 [] [] []).leads) ((Tree.node 13 [] [] []).kids)), (0, vD g i)]⟩) [0, 1] [0] rfl hK pq1 ⟨⟨_, rfl, rfl, (.cons .rfl (.cons .rfl (.cons (.nil 1) (.cons (.nil 4) .nil))))⟩, (pqo1 rfl rfl)⟩ rfl <| go_endD [1] ah (rs := [.cell 6 29]) rfl rfl ⟨rfl, rfl⟩
 refine gR 4 rfl ?_
 obtain ⟨l, e, f, hs81, h⟩ := h
 refine gCY hs81 [0] ?_
 refine gR 4 rfl <| qBeZ 114 117 rfl rfl rfl rfl h (fun h => ?_) fun h => ?_
 refine gR 10 rfl ?_
 obtain ⟨rfl, rfl, rfl⟩ := h
 exact go_sub (F' := (mkF 120 0 [(6, .ptr 1 0)])) (H' := ⟨2, [(1, vC ((Tree.node 12 [120] [] []).kind) ((Tree.node 12 [120] [] []).text) ((Tree.node 12 [120] [] []).leads) ((Tree.node 12 [120] [] []).kids)), (0, vD e f)]⟩) [0, 1] [0] rfl hK pq1 ⟨⟨_, rfl, rfl, (.cons .rfl (.cons .rfl (.cons (.nil 1) (.cons (.nil 4) .nil))))⟩, (pqo1 rfl rfl)⟩ rfl <| go_endD [1] ah (rs := [.cell 6 29]) rfl rfl ⟨rfl, rfl⟩
 refine gR 11 rfl ?_
 obtain ⟨rfl, rfl, rfl⟩ := h
 exact go_sub (F' := (mkF 120 0 [(6, .ptr 1 0)])) (H' := ⟨2, [(1, vC ((Tree.node 10 [52] [] []).kind) ((Tree.node 10 [52] [] []).text) ((Tree.node 10 [52] [] []).leads) ((Tree.node 10 [52] [] []).kids)), (0, vD e f)]⟩) [0, 1] [0] rfl hK pq1 ⟨⟨_, rfl, rfl, (.cons .rfl (.cons .rfl (.cons (.nil 1) (.cons (.nil 4) .nil))))⟩, (pqo1 rfl rfl)⟩ rfl <| go_endD [1] ah (rs := [.cell 6 29]) rfl rfl ⟨rfl, rfl⟩
theorem mC (m : Nat) (p0 r0 : Tree) (h : (Tree.node 22 [] [] [p0]) = r0) : ca p0 r0 := by
 refine ⟨rfl, rfl, ?_⟩
 refine al 6 [] Tryz.func16 rfl rfl rfl (aA rfl) fun K hK => ?_
 refine gR 3 rfl <| gFP 0 rfl rfl rfl rfl <| gR 7 rfl <| gHR 2 (kidsV [p0]) rfl (lc p0) rfl <| gR 5 rfl <| gFR 2 rfl (dJ _) rfl rfl ?_
 subst h
 exact go_sub (F' := (mkF 6 0 [(2, .ptr 0 0)])) (H' := ⟨1, [(0, vC ((Tree.node 22 [] [] [p0]).kind) ((Tree.node 22 [] [] [p0]).text) ((Tree.node 22 [] [] [p0]).leads) ((Tree.node 22 [] [] [p0]).kids))]⟩) [1] [] rfl hK pq1 ⟨⟨_, rfl, rfl, (.cons .rfl (.cons .rfl (.cons (.nil 1) (.cons .rfl .nil))))⟩, trivial⟩ rfl <| go_end ah (rs := [.cell 2 29]) rfl rfl rfl
theorem lx (m : Nat) (p0 : Int) (p1 : Tree) (r0 : List Tree) (h : [(Tree.node 1 [77] [] [(Tree.node 2 [102] [] [(Tree.node 4 [120] [] [(Tree.node 5 [] [] [])]), (Tree.node 5 [] [] []), (Tree.node 12 [120] [] [])]), (Tree.node 2 [103] [] [(Tree.node 4 [120] [] [(Tree.node 5 [] [] [])]), (Tree.node p0 [] [] []), p1])])] = r0) : cZ p0 p1 r0 := by
 refine ⟨rfl, rfl, ?_⟩
 refine al 27 [] Tryz.func10 rfl rfl rfl (aA rfl) fun K hK => ?_
 refine gR 3 rfl <| gFP 0 rfl rfl rfl rfl <| gR 6 rfl <| gS 7 (.agg [.int .i64 5, .str [], .row 1 [], .row 4 (kidsV [])]) rfl (.agg (.cons .rfl (.cons .rfl (.cons (.nil 1) (.cons (.nil 4) .nil))))) rfl <| gR 1 rfl <| gHR 1 (kidsV [(Tree.node 5 [] [] [])]) rfl (lc (Tree.node 5 [] [] [])) rfl <| gR 3 rfl <| gFR 1 rfl (dJ _) rfl rfl <| gS 9 (.agg [.int .i64 4, .str [120], .row 1 [], .row 4 (kidsV [(Tree.node 5 [] [] [])])]) rfl (.agg (.cons .rfl (.cons .rfl (.cons (.nil 1) (.cons .rfl .nil))))) rfl <| gS 10 (.agg [.int .i64 5, .str [], .row 1 [], .row 4 (kidsV [])]) rfl (.agg (.cons .rfl (.cons .rfl (.cons (.nil 1) (.cons (.nil 4) .nil))))) rfl <| gS 11 (.agg [.int .i64 12, .str [120], .row 1 [], .row 4 (kidsV [])]) rfl (.agg (.cons .rfl (.cons .rfl (.cons (.nil 1) (.cons (.nil 4) .nil))))) rfl ?_
 refine gR 1 rfl <| gHR 2 (kidsV [(Tree.node 4 [120] [] [(Tree.node 5 [] [] [])]), (Tree.node 5 [] [] []), (Tree.node 12 [120] [] [])]) rfl (oa [(Tree.node 4 [120] [] [(Tree.node 5 [] [] [])]), (Tree.node 5 [] [] []), (Tree.node 12 [120] [] [])]) rfl <| gR 8 rfl <| gS 14 (.agg [.int .i64 5, .str [], .row 1 [], .row 4 (kidsV [])]) rfl (.agg (.cons .rfl (.cons .rfl (.cons (.nil 1) (.cons (.nil 4) .nil))))) rfl <| gR 1 rfl <| gHR 4 (kidsV [(Tree.node 5 [] [] [])]) rfl (lc (Tree.node 5 [] [] [])) rfl <| gR 4 rfl <| gFR 4 rfl (dJ _) rfl rfl <| gS 16 (.agg [.int .i64 4, .str [120], .row 1 [], .row 4 (kidsV [(Tree.node 5 [] [] [])])]) rfl (.agg (.cons .rfl (.cons .rfl (.cons (.nil 1) (.cons .rfl .nil))))) rfl ?_
 refine gS 18 (.agg [.int .i64 p0, .str [], .row 1 [], .row 4 (kidsV [])]) rfl (.agg (.cons .rfl (.cons .rfl (.cons (.nil 1) (.cons (.nil 4) .nil))))) rfl <| gR 1 rfl <| gHR 5 (kidsV [(Tree.node 4 [120] [] [(Tree.node 5 [] [] [])]), (Tree.node p0 [] [] []), p1]) rfl (oa [(Tree.node 4 [120] [] [(Tree.node 5 [] [] [])]), (Tree.node p0 [] [] []), p1]) rfl <| gR 9 rfl <| gFR 2 rfl (dJ _) rfl rfl <| gS 22 (.agg [.int .i64 2, .str [102], .row 1 [], .row 4 (kidsV [(Tree.node 4 [120] [] [(Tree.node 5 [] [] [])]), (Tree.node 5 [] [] []), (Tree.node 12 [120] [] [])])]) rfl (.agg (.cons .rfl (.cons .rfl (.cons (.nil 1) (.cons .rfl .nil))))) rfl <| gFR 5 rfl (dJ _) rfl rfl <| gS 23 (.agg [.int .i64 2, .str [103], .row 1 [], .row 4 (kidsV [(Tree.node 4 [120] [] [(Tree.node 5 [] [] [])]), (Tree.node p0 [] [] []), p1])]) rfl (.agg (.cons .rfl (.cons .rfl (.cons (.nil 1) (.cons .rfl .nil))))) rfl ?_
 refine gR 1 rfl <| gHR 7 (kidsV [(Tree.node 2 [102] [] [(Tree.node 4 [120] [] [(Tree.node 5 [] [] [])]), (Tree.node 5 [] [] []), (Tree.node 12 [120] [] [])]), (Tree.node 2 [103] [] [(Tree.node 4 [120] [] [(Tree.node 5 [] [] [])]), (Tree.node p0 [] [] []), p1])]) rfl (oa [(Tree.node 2 [102] [] [(Tree.node 4 [120] [] [(Tree.node 5 [] [] [])]), (Tree.node 5 [] [] []), (Tree.node 12 [120] [] [])]), (Tree.node 2 [103] [] [(Tree.node 4 [120] [] [(Tree.node 5 [] [] [])]), (Tree.node p0 [] [] []), p1])]) rfl <| gR 1 rfl <| gFR 7 rfl (dJ _) rfl rfl <| gS 25 (.agg [.int .i64 1, .str [77], .row 1 [], .row 4 (kidsV [(Tree.node 2 [102] [] [(Tree.node 4 [120] [] [(Tree.node 5 [] [] [])]), (Tree.node 5 [] [] []), (Tree.node 12 [120] [] [])]), (Tree.node 2 [103] [] [(Tree.node 4 [120] [] [(Tree.node 5 [] [] [])]), (Tree.node p0 [] [] []), p1])])]) rfl (.agg (.cons .rfl (.cons .rfl (.cons (.nil 1) (.cons .rfl .nil))))) rfl ?_
 refine gR 1 rfl <| gHR 8 (kidsV [(Tree.node 1 [77] [] [(Tree.node 2 [102] [] [(Tree.node 4 [120] [] [(Tree.node 5 [] [] [])]), (Tree.node 5 [] [] []), (Tree.node 12 [120] [] [])]), (Tree.node 2 [103] [] [(Tree.node 4 [120] [] [(Tree.node 5 [] [] [])]), (Tree.node p0 [] [] []), p1])])]) rfl (lc (Tree.node 1 [77] [] [(Tree.node 2 [102] [] [(Tree.node 4 [120] [] [(Tree.node 5 [] [] [])]), (Tree.node 5 [] [] []), (Tree.node 12 [120] [] [])]), (Tree.node 2 [103] [] [(Tree.node 4 [120] [] [(Tree.node 5 [] [] [])]), (Tree.node p0 [] [] []), p1])])) rfl <| gR 4 rfl <| gFR 8 rfl (dJ _) rfl rfl ?_
 subst h
 exact go_end ah (rs := [.tmp 4]) rfl rfl rfl
theorem jL (m : Nat) (p0 : List Int) (p1 p2 : Int) (r0 : Bool) (h : ∃ q, fI p0 q ∧ ((q = false) → ∃ s, dI s ∧ s = r0) ∧ ((q = true) → ∃ b, dA p1 3 b ∧ InI (5 + b) ∧ ∃ e, dA p2 3 e ∧ InI (5 + e) ∧ ∃ t v, gu p0 t v ∧ ∃ r x y, ax t v (5 + b) 4 r x y ∧ ∃ g, cZ (5 + b) r g ∧ ∃ n, cZ (5 + e) r n ∧ ∃ c i, jj g (GPlace.mk 0 [1, 2]) c i ∧ ∃ a, br n a ∧ ∃ d, br g d ∧ (((d.length : Int) ≠ 0) → false = r0) ∧ (((d.length : Int) = 0) → ((i ≠ 0) → false = r0) ∧ ((i = 0) → ((c.kind ≠ (5 + b)) → false = r0) ∧ ((c.kind = (5 + b)) → (((c.kids.length : Int) ≠ 0) → false = r0) ∧ (((c.kids.length : Int) = 0) → (((5 + b) = (5 + e)) → ∃ j, dI j ∧ ((j = true) → ((a.length : Int) == 0) = r0) ∧ ((j = false) → false = r0)) ∧ (((5 + b) ≠ (5 + e)) → ∃ k, dI k ∧ ((k = true) → (((a.length : Int) = 1) → ∃ l, a[0]? = some l ∧ ((l.Kind = 4) → ∃ o, a[0]? = some o ∧ ∃ p, bL o.At.Path [1, 2] p ∧ p = r0) ∧ ((l.Kind ≠ 4) → false = r0)) ∧ (((a.length : Int) ≠ 1) → false = r0)) ∧ ((k = false) → false = r0)))))))) : fF p0 p1 p2 r0 := by
 refine ⟨rfl, rfl, ?_⟩
 refine al 93 [] Tryz.func3 rfl rfl rfl (aA rfl) fun K hK => ?_
 refine gR 9 rfl ?_
 obtain ⟨q, hs19, h⟩ := h
 refine gC0 hs19 (by kernel_rfl) rfl rfl .rfl rfl <| gR 3 rfl <| qBh 15 rfl rfl rfl h gL gK (fun h => ?_) fun h => ?_
 refine gR 3 rfl ?_
 obtain ⟨s, hs20, h⟩ := h
 refine gC0 hs20 (by kernel_rfl) rfl rfl .rfl rfl <| gR 5 rfl ?_
 subst h
 exact go_end ah (rs := [.tmp 6]) rfl rfl rfl
 refine gR 6 rfl ?_
 obtain ⟨b, hs21, h⟩ := h
 refine gC0 hs21 (by kernel_rfl) rfl rfl .rfl rfl ?_
 obtain ⟨hb, h⟩ := h
 refine gR 1 rfl <| gV 19 (.int .i64 (5 + b)) rfl (au hb rfl) rfl <| gR 6 rfl ?_
 obtain ⟨e, hs22, h⟩ := h
 refine gC0 hs22 (by kernel_rfl) rfl rfl .rfl rfl ?_
 obtain ⟨hb, h⟩ := h
 refine gR 1 rfl <| gV 22 (.int .i64 (5 + e)) rfl (au hb rfl) rfl <| gR 6 rfl ?_
 obtain ⟨t, v, hs23, h⟩ := h
 refine gC hs23 [] (by kernel_rfl) rfl rfl .rfl trivial rfl ?_
 rintro _ _ ⟨rfl, rfl⟩
 refine gR 1 rfl ?_
 obtain ⟨r, x, y, hs24, h⟩ := h
 refine gCY hs24 [0] ?_
 refine gR 5 rfl <| gDs [3] 7 8 rfl (by kernel_rfl) (by kernel_rfl) <| gDr [(0, 2), (1, 3), (3, 2), (4, 3)] (by kernel_rfl) rfl rfl ?_
 obtain ⟨g, hs25, h⟩ := h
 refine nd 2 hs25 (by kernel_rfl) rfl (by kernel_rfl) rfl rfl .rfl rfl rfl ?_
 obtain ⟨n, hs26, h⟩ := h
 refine nd 5 hs26 (by kernel_rfl) rfl (by kernel_rfl) rfl rfl .rfl rfl rfl ?_
 refine gDr [(6, 0), (7, 1)] (by kernel_rfl) rfl rfl <| gDe (by kernel_rfl) <| gR 6 rfl <| gFR 4 rfl rfl rfl rfl ?_
 obtain ⟨c, i, hs27, h⟩ := h
 refine gC0 hs27 (by kernel_rfl) rfl rfl .rfl rfl <| gR 11 rfl ?_
 obtain ⟨a, hs28, h⟩ := h
 refine gC hs28 [] (by kernel_rfl) rfl rfl .rfl trivial rfl ?_
 rintro _ _ ⟨rfl, rfl⟩
 refine gHR 6 (List.map ae.w a) rfl (vH _ a) rfl <| gR 7 rfl ?_
 obtain ⟨d, hs29, h⟩ := h
 refine gC hs29 [] (by kernel_rfl) rfl rfl .rfl trivial rfl ?_
 rintro _ _ ⟨rfl, rfl⟩
 refine gHR 7 (List.map ae.w d) rfl (vH _ d) rfl <| gR 1 rfl <| gV 44 (.int .i64 (d.length : Int)) rfl (aM (aF ae.w _)) rfl <| gLO 7 rfl (aF ae.w _) fun hl30 => gR 2 rfl <| qBhZ 46 45 rfl rfl rfl rfl h ec cP (fun h => ?_) fun h => ?_
 refine gR 18 rfl <| go_sub (F' := (mkF 93 0 [])) (H' := ⟨0, []⟩) [] [] rfl hK trivial trivial rfl <| gR 7 rfl ?_
 subst h
 exact go_end ah (rs := [.tmp 6]) rfl rfl rfl
 refine gR 4 rfl <| qBhZ 50 49 rfl rfl rfl rfl h ec cP (fun h => ?_) fun h => ?_
 refine gR 14 rfl <| go_sub (F' := (mkF 93 0 [])) (H' := ⟨0, []⟩) [] [] rfl hK trivial trivial rfl <| gR 7 rfl ?_
 subst h
 exact go_end ah (rs := [.tmp 6]) rfl rfl rfl
 refine gR 6 rfl <| qBhZ 56 55 rfl rfl rfl rfl h ec cP (fun h => ?_) fun h => ?_
 refine gR 8 rfl <| go_sub (F' := (mkF 93 0 [])) (H' := ⟨0, []⟩) [] [] rfl hK trivial trivial rfl <| gR 7 rfl ?_
 subst h
 exact go_end ah (rs := [.tmp 6]) rfl rfl rfl
 refine gR 3 rfl <| gV 59 (.int .i64 (c.kids.length : Int)) rfl (aM (aK _)) rfl <| gLB 58 rfl (aK _) fun hl31 => gR 4 rfl <| qBh 61 rfl rfl rfl h ec cP (fun h => ?_) fun h => ?_
 refine gR 1 rfl <| go_sub (F' := (mkF 93 0 [])) (H' := ⟨0, []⟩) [] [] rfl hK trivial trivial rfl <| gR 7 rfl ?_
 subst h
 exact go_end ah (rs := [.tmp 6]) rfl rfl rfl
 refine gR 3 rfl <| go_sub (F' := (mkF 93 0 [(1, .int .i64 (5 + b)), (2, .int .i64 (5 + e)), (12, .sl 0)])) (H' := ⟨1, [(0, .row 42 3 (List.map ae.w a))]⟩) [6] [] rfl hK pq3 ⟨⟨_, rfl, rfl, rfl, (vH _ a).symm⟩, trivial⟩ rfl <| gR 8 rfl <| qBe 64 rfl rfl rfl h (fun h => ?_) fun h => ?_
 refine gR 3 rfl ?_
 obtain ⟨j, hs32, h⟩ := h
 refine gC0 hs32 (by kernel_rfl) rfl rfl .rfl rfl <| gR 1 rfl <| qBiZ 66 65 rfl rfl rfl rfl h (fun h => ?_) fun h => ?_
 refine gR 2 rfl <| gV 68 (.int .i64 (a.length : Int)) rfl (aM (aF ae.w _)) rfl <| gLO 0 rfl (aF ae.w _) fun hl33 => gR 7 rfl ?_
 subst h
 exact go_end ah (rs := [.tmp 6]) rfl rfl rfl
 refine gR 9 rfl ?_
 subst h
 exact go_end ah (rs := [.tmp 6]) rfl rfl rfl
 refine gR 5 rfl ?_
 obtain ⟨k, hs34, h⟩ := h
 refine gC0 hs34 (by kernel_rfl) rfl rfl .rfl rfl <| gR 1 rfl <| qBiZ 72 71 rfl rfl rfl rfl h (fun h => ?_) fun h => ?_
 refine gR 2 rfl <| gV 74 (.int .i64 (a.length : Int)) rfl (aM (aF ae.w _)) rfl <| gLO 0 rfl (aF ae.w _) fun hl35 => gR 3 rfl <| qBeZ 77 76 rfl rfl rfl rfl h (fun h => ?_) fun h => ?_
 refine gR 1 rfl ?_
 obtain ⟨l, hxx0_18, h⟩ := h
 refine gY (yIO ah rfl rfl rfl rfl (by have := (mapget (f := ae.w) hxx0_18); exact (List.getElem?_eq_some_iff.1 this).1)) rfl rfl ?_
 refine gR 1 rfl <| gDo (.nop) (dLe ah rfl rfl rfl (mapget (f := ae.w) hxx0_18) rfl) trivial rfl rfl rfl <| gR 3 rfl <| qBeZ 84 83 rfl rfl rfl rfl h (fun h => ?_) fun h => ?_
 refine gR 1 rfl ?_
 obtain ⟨o, hxx0_19, h⟩ := h
 refine gY (yIO ah rfl rfl rfl rfl (by have := (mapget (f := ae.w) hxx0_19); exact (List.getElem?_eq_some_iff.1 this).1)) rfl rfl ?_
 refine gR 2 rfl <| gDo (.nop) (dLe ah rfl rfl rfl (mapget (f := ae.w) hxx0_19) rfl) trivial rfl rfl rfl <| gR 1 rfl <| gFR 1 rfl rfl rfl rfl ?_
 obtain ⟨p, hs36, h⟩ := h
 refine gC0 hs36 (by kernel_rfl) rfl rfl .rfl rfl <| gR 5 rfl ?_
 subst h
 exact go_end ah (rs := [.tmp 6]) rfl rfl rfl
 refine gR 12 rfl ?_
 subst h
 exact go_end ah (rs := [.tmp 6]) rfl rfl rfl
 refine gR 19 rfl ?_
 subst h
 exact go_end ah (rs := [.tmp 6]) rfl rfl rfl
 refine gR 24 rfl ?_
 subst h
 exact go_end ah (rs := [.tmp 6]) rfl rfl rfl
theorem jD (m : Nat) (p0 p1 r0 : Int) (h : p1 ≠ 0 ∧ (((Int.tmod p0 p1) < 0) → InI ((Int.tmod p0 p1) + p1) ∧ ((Int.tmod p0 p1) + p1) = r0) ∧ ((¬ (Int.tmod p0 p1) < 0) → (Int.tmod p0 p1) = r0)) : dA p0 p1 r0 := by
 refine ⟨rfl, rfl, ?_⟩
 refine al 14 [] Tryz.func7 rfl rfl rfl (aA rfl) fun K hK => ?_
 refine gR 9 rfl ?_
 obtain ⟨hb, h⟩ := h
 refine gY (Db rfl rfl hb) rfl rfl <| gR 10 rfl <| qBd 9 rfl rfl rfl h (fun h => ?_) fun h => ?_
 refine gR 4 rfl ?_
 obtain ⟨hb, h⟩ := h
 refine gR 1 rfl <| gV 12 (.int .i64 ((Int.tmod p0 p1) + p1)) rfl (au hb rfl) rfl <| gR 10 rfl ?_
 subst h
 exact go_end ah (rs := [.tmp 4]) rfl rfl rfl
 refine gR 10 rfl ?_
 subst h
 exact go_end ah (rs := [.tmp 4]) rfl rfl rfl
theorem mW (m : Nat) (p0 b : List Int) (a : Int) (h : p0.length ≤ 1000000000 ∧ p0 = b ∧ 0 = a) : gu p0 b a := by
 refine al 8 [] Tryz.func9 rfl rfl rfl (aA rfl) fun K hK => ?_
 refine gR 9 rfl ?_
 obtain ⟨hb, h⟩ := h
 refine gDo (.repl 0 (.row 3 1 (List.map (V.int .i64) p0))) (nb ah rfl rfl rfl rfl rfl (List.nil_append _) (by rw [aF]; exact hb)) (okR rfl) rfl rfl rfl <| gR 6 rfl <| gFR 1 rfl (me _ (fun _ => rfl) _) rfl rfl ?_
 obtain ⟨rfl, rfl⟩ := h
 exact go_sub (F' := (mkF 8 0 [(2, .ptr 0 0)])) (H' := ⟨1, [(0, vD p0 0)]⟩) [2] [] rfl hK pq1 (pqo1 rfl rfl) rfl <| go_endD [] ah (rs := [.tmp 2]) rfl rfl ⟨rfl, rfl⟩
theorem mD (m : Nat) (p0 : List Int) (r0 : Bool) (h : decide ((p0.length : Int) ≤ 120) = r0) : fI p0 r0 := by
 refine ⟨rfl, rfl, ?_⟩
 refine al 6 [] Tryz.func5 rfl rfl rfl (aA rfl) fun K hK => ?_
 refine gR 9 rfl <| gV 4 (.int .i64 (p0.length : Int)) rfl (aM (aF (V.int .i64) _)) rfl <| gLB 3 rfl (aF (V.int .i64) _) fun hl2 => gR 5 rfl ?_
 subst h
 exact go_end ah (rs := [.tmp 2]) rfl rfl rfl
theorem gj (m : Nat) (b : List Int) (a p1 r0 : Int) (g : List Int) (c : Int) (h : (((b.length : Int) ≤ a) → 0 = r0 ∧ b = g ∧ a = c) ∧ ((¬ (b.length : Int) ≤ a) → InI (a + 1) ∧ InI ((a + 1) - 1) ∧ ∃ d, ((a + 1) - 1) = ((d : Nat) : Int) ∧ ∃ i, b[d]? = some i ∧ ∃ e, dA i p1 e ∧ e = r0 ∧ b = g ∧ (a + 1) = c)) : cO b a p1 r0 g c := by
 refine al 35 [0] Tryz.func15 rfl rfl rfl (aA rfl) fun K hK => ?_
 refine gR 7 rfl <| gDs [0] 10 10 rfl (by kernel_rfl) (by kernel_rfl) <| gDr [(0, 2), (1, 2), (2, 2), (3, 3), (4, 0), (5, 0), (6, 0), (7, 0), (8, 0)] (by kernel_rfl) rfl rfl <| gV 13 (.int .i64 (b.length : Int)) rfl (aM (aF (V.int .i64) _)) rfl <| gLB 12 rfl (aF (V.int .i64) _) fun hl9 => gDr [(9, 0)] (by kernel_rfl) rfl rfl <| gDe (by kernel_rfl) <| gR 1 rfl <| qBd 14 rfl rfl rfl h (fun h => ?_) fun h => ?_
 refine gR 8 rfl ?_
 obtain ⟨rfl, rfl, rfl⟩ := h
 exact go_sub (F' := (mkF 35 0 [(4, .int .i64 0)])) (H' := ⟨1, [(0, vD b a)]⟩) [0] [0] rfl hK pq1 (pqo1 rfl rfl) rfl <| go_endD [] ah (rs := [.tmp 4]) rfl rfl ⟨rfl, rfl⟩
 refine gR 9 rfl ?_
 obtain ⟨hb, h⟩ := h
 refine gR 1 rfl <| gV 19 (.int .i64 (a + 1)) rfl (au hb rfl) rfl <| gR 6 rfl <| gDs [0] 13 14 rfl (by kernel_rfl) (by kernel_rfl) <| gDr [(0, 2), (1, 2), (2, 2), (3, 3), (4, 2), (5, 2), (6, 2), (7, 3)] (by kernel_rfl) rfl rfl ?_
 obtain ⟨hb, h⟩ := h
 refine gDr [(8, 2)] (by kernel_rfl) rfl rfl <| gV 30 (.int .i64 ((a + 1) - 1)) rfl (au hb rfl) rfl ?_
 obtain ⟨d, j, h⟩ := h
 refine gV 30 (.int .i64 ((d : Nat) : Int)) rfl (cy j) rfl ?_
 obtain ⟨i, hxn0_2, h⟩ := h
 refine gYd 9 rfl (by kernel_rfl) (bx (mapget (f := (V.int .i64)) hxn0_2) ah rfl rfl rfl rfl) rfl rfl <| gDr [(10, 2), (11, 0)] (by kernel_rfl) rfl rfl ?_
 obtain ⟨e, hs10, h⟩ := h
 refine nd 12 hs10 (by kernel_rfl) rfl (by kernel_rfl) rfl rfl .rfl rfl rfl ?_
 refine gDr [(13, 1)] (by kernel_rfl) rfl rfl <| gDe (by kernel_rfl) <| gR 2 rfl ?_
 obtain ⟨rfl, rfl, rfl⟩ := h
 exact go_sub (F' := (mkF 35 0 [(4, .int .i64 e)])) (H' := ⟨1, [(0, vD b (a + 1))]⟩) [0] [0] rfl hK pq1 (pqo1 rfl rfl) rfl <| go_endD [] ah (rs := [.tmp 4]) rfl rfl ⟨rfl, rfl⟩
open Go.RowKit
def bZ (R : List Nat) (l : List (Nat × Ob)) : List (Nat × Ob) := l.filter fun p => fc p.1 R
def ung : Ob → Ob
 | .free => .gone
 | o => o
def cF (nx : Nat) (R : List Nat) (l : List (Nat × Ob)) : List (Nat × Ob) := (l.filter fun p => !fc p.1 R && Nat.blt p.1 nx).map fun p => (p.1, ung p.2)
theorem mg {α : Type} {R : List Nat} : ∀ (l : List (Nat × Ob)) (c : List (Nat × Ob) → α), nB R l c = c (bZ R l)
 | [], c => rfl
 | (i, o) :: r, c => by
  simp only [nB]
  cases h : fc i R
  ·simp only; rw [mg r]; simp [bZ, h]
  ·simp only; rw [mg r]; simp [bZ, h]
theorem lY {α : Type} {nx : Nat} {R : List Nat} : ∀ (l : List (Nat × Ob)) (c : List (Nat × Ob) → α), mc nx R l c = c (cF nx R l)
 | [], c => rfl
 | (i, o) :: r, c => by
  simp only [mc]
  cases h : (!fc i R && Nat.blt i nx)
  ·simp only; rw [lY r]; simp only [cF, List.filter_cons, h]; rfl
  ·cases o <;> (simp only; rw [lY r]; simp only [cF, List.filter_cons, h]; rfl)
theorem kJ {R : List Nat} {i : Nat} : ∀ {l : List (Nat × Ob)}, am (bZ R l) i = am l i ∨ (fc i R = false ∧ am (bZ R l) i = .gone)
 | [] => .inl rfl
 | (j, o) :: r => by
  by_cases hj : j = i
  ·subst hj
   cases h : fc j R
   ·right
    refine ⟨rfl, ?_⟩
    have ih := kJ (R := R) (i := j) (l := r)
    simp only [bZ, List.filter_cons, h] at ih ⊢
    simp only [Bool.false_eq_true, if_false]
    clear ih
    have key : ∀ (l : List (Nat × Ob)), am (l.filter fun p => fc p.1 R) j = .gone := by
     intro l
     induction l with
     | nil => rfl
     | cons q t ih =>
      obtain ⟨k, o'⟩ := q
      simp only [List.filter_cons]
      split
      ·rename_i hk
       have : k ≠ j := fun e => by subst e; simp [h] at hk
       simp only [am, nbF this]; exact ih
      ·exact ih
    exact key r
   ·left
    simp only [bZ, List.filter_cons, h, if_true, am, nbT]
  ·have ih := kJ (R := R) (i := i) (l := r)
   simp only [bZ, List.filter_cons]
   split
   ·simp only [am, nbF hj]; exact ih
   ·simp only [am, nbF hj]; exact ih
theorem qq {R : List Nat} {i : Nat} (h : fc i R = false) (l : List (Nat × Ob)) : am (bZ R l) i = .gone := by
 induction l with
 | nil => rfl
 | cons q t ih =>
  obtain ⟨k, o'⟩ := q
  simp only [bZ, List.filter_cons]
  split
  ·rename_i hk
   have : k ≠ i := fun e => by subst e; simp [h] at hk
   simp only [am, nbF this]; exact ih
  ·exact ih
theorem wF {nx : Nat} {R : List Nat} {i : Nat} (l : List (Nat × Ob)) : am (cF nx R l) i = if (!fc i R && Nat.blt i nx) = true then ung (am l i) else .gone := by
 induction l with
 | nil => simp [cF, am, ung]
 | cons q t ih =>
  obtain ⟨k, o⟩ := q
  by_cases hk : k = i
  ·subst hk
   cases h : (!fc k R && Nat.blt k nx)
   ·rw [h] at ih
    simp only [cF, List.filter_cons, h, Bool.false_eq_true, if_false] at ih ⊢
    exact ih
   ·simp only [cF, List.filter_cons, h, if_true, List.map_cons, am, nbT]
  ·have e : am ((k, o) :: t) i = am t i := by simp only [am, nbF hk]
   rw [e, ← ih]
   simp only [cF, List.filter_cons]
   split
   ·simp only [List.map_cons, am, nbF hk]
   ·rfl
section
variable {P : Program} {T : Tab} {K : Ctx} {Q : Exit → Act → World → Prop} {s : List EI} {n : Nat} {F : Fm} {H : Hp}
theorem uu (lo : Nat) (H : Hp) (v : V) : ∃ v' H', (∀ (α : Type) (c : V → Hp → α), vo lo H v c = c v' H') ∧ H'.nx = H.nx ∧ (∀ K S w ρ x, HRel S w ρ H.get → Inv K S w ρ H.get → VRel S w ρ v x → ∃ S', HRel S' w ρ H'.get ∧ Inv K S' w ρ H'.get ∧ Up S S' w w ρ ρ ∧ VRel S' w ρ v' x) := by
 have triv : ∃ v' H', (∀ (α : Type) (c : V → Hp → α), c v H = c v' H') ∧ H'.nx = H.nx ∧ (∀ K S w ρ x, HRel S w ρ H.get → Inv K S w ρ H.get → VRel S w ρ v x → ∃ S', HRel S' w ρ H'.get ∧ Inv K S' w ρ H'.get ∧ Up S S' w w ρ ρ ∧ VRel S' w ρ v' x) := ⟨v, H, fun _ _ => rfl, rfl, fun K S w ρ x h1 h2 h3 => ⟨S, h1, h2, Up.refl, h3⟩⟩
 cases v with
 | sl id =>
  simp only [vo]
  split
  ·split
   ·rename_i e sz els ho
    split
    ·rename_i hpu
     refine ⟨.row sz els, ⟨H.nx, jg id H.es⟩, fun α c => by rw [nF], rfl, fun K S w ρ x hr hi hx => ?_⟩
     have hg : (⟨H.nx, jg id H.es⟩ : Hp).get = aQ H.get id .gone := by
      funext i
      unfold Hp.get
      by_cases hii : i = id
      ·subst hii
       rw [aO]
       simp only []
       have hlt : Nat.blt i H.nx = true := by
        unfold Hp.get at ho
        split at ho
        ·assumption
        ·cases ho
       rw [hlt]
       simp only [iN, if_true]
      ·rw [bg _ _ hii]
       simp only [iN, if_neg hii]
     refine ⟨_, by rw [hg]; exact (cq hr).1, by rw [hg]; exact hi.frz hr id, (cq hr).2, jJ hr ho hpu hx⟩
    ·exact triv
   ·exact triv
  ·exact triv
 | _ => exact triv
theorem tP (lo : Nat) : ∀ (vs : List V) (H : Hp), ∃ vs' H', (∀ (α : Type) (c : List V → Hp → α), vx lo H vs c = c vs' H') ∧ H'.nx = H.nx ∧ (∀ K S w ρ xs, HRel S w ρ H.get → Inv K S w ρ H.get → LRel S w ρ vs xs → ∃ S', HRel S' w ρ H'.get ∧ Inv K S' w ρ H'.get ∧ Up S S' w w ρ ρ ∧ LRel S' w ρ vs' xs)
 | [], H => ⟨[], H, fun _ _ => rfl, rfl, fun K S w ρ x h1 h2 h3 => ⟨S, h1, h2, Up.refl, h3⟩⟩
 | v :: r, H => by
  obtain ⟨v', H1, e1, n1, k1⟩ := uu lo H v
  obtain ⟨r', H2, e2, n2, k2⟩ := tP lo r H1
  refine ⟨v' :: r', H2, fun α c => by simp only [vx, e1, e2], n2.trans n1, fun K S w ρ xs hr hi hx => ?_⟩
  simp only [LRel] at hx
  obtain ⟨x, ys, rfl, h1, h2⟩ := hx
  obtain ⟨S1, a1, a2, a3, a4⟩ := k1 K S w ρ x hr hi h1
  obtain ⟨S2, b1, b2, b3, b4⟩ := k2 K S1 w ρ ys a1 a2 (h2.up a3)
  exact ⟨S2, b1, b2, ⟨fun b hb => b3.s b (a3.s b hb), fun _ _ _ => rfl, fun _ _ h => h⟩, x, ys, rfl, a4.up b3, b4⟩
theorem zW (lo : Nat) (H : Hp) (v : V) : ∃ v' H', (∀ (α : Type) (c : V → Hp → α), yn lo H v c = c v' H') ∧ H'.nx = H.nx ∧ (∀ K S w ρ x, HRel S w ρ H.get → Inv K S w ρ H.get → VRel S w ρ v x → ∃ S', HRel S' w ρ H'.get ∧ Inv K S' w ρ H'.get ∧ Up S S' w w ρ ρ ∧ VRel S' w ρ v' x) := by
 have h0 := uu lo H v
 cases v
 case agg cs =>
  obtain ⟨vs', H', e, hn, k⟩ := tP lo cs H
  refine ⟨.agg vs', H', fun α c => by simp only [yn, e], hn, fun K S w ρ x hr hi hx => ?_⟩
  simp only [VRel] at hx
  obtain ⟨xs, rfl, h1⟩ := hx
  obtain ⟨S', a1, a2, a3, a4⟩ := k K S w ρ xs hr hi h1
  exact ⟨S', a1, a2, a3, by simp only [VRel]; exact ⟨xs, rfl, a4⟩⟩
 all_goals exact h0
theorem pK (lo : Nat) : ∀ (vs : List V) (H : Hp), ∃ vs' H', (∀ (α : Type) (c : List V → Hp → α), tk lo H vs c = c vs' H') ∧ H'.nx = H.nx ∧ (∀ K S w ρ xs, HRel S w ρ H.get → Inv K S w ρ H.get → LRel S w ρ vs xs → ∃ S', HRel S' w ρ H'.get ∧ Inv K S' w ρ H'.get ∧ Up S S' w w ρ ρ ∧ LRel S' w ρ vs' xs)
 | [], H => ⟨[], H, fun _ _ => rfl, rfl, fun K S w ρ x h1 h2 h3 => ⟨S, h1, h2, Up.refl, h3⟩⟩
 | v :: r, H => by
  obtain ⟨v', H1, e1, n1, k1⟩ := zW lo H v
  obtain ⟨r', H2, e2, n2, k2⟩ := pK lo r H1
  refine ⟨v' :: r', H2, fun α c => by simp only [tk, e1, e2], n2.trans n1, fun K S w ρ xs hr hi hx => ?_⟩
  simp only [LRel] at hx
  obtain ⟨x, ys, rfl, h1, h2⟩ := hx
  obtain ⟨S1, a1, a2, a3, a4⟩ := k1 K S w ρ x hr hi h1
  obtain ⟨S2, b1, b2, b3, b4⟩ := k2 K S1 w ρ ys a1 a2 (h2.up a3)
  exact ⟨S2, b1, b2, ⟨fun b hb => b3.s b (a3.s b hb), fun _ _ _ => rfl, fun _ _ h => h⟩, x, ys, rfl, a4.up b3, b4⟩
variable {all : Array Oper} {rest : List Oper} {o : Oper} {u : V} {H' : Hp}
theorem AD {ok : Bool} (hw : aH F all o.guard = some true) (hx : jK P K o [] ok n F H u H') (k : Go P K Q (.ops all rest) s n (F.seto o.dst (some u)) H') : Go P K Q (.ops all (o :: rest)) s n F H := fun S w ρ a hr hi hF => by
 show wpList P all (bK P Q s) (o :: rest) a w
 unfold wpList
 rw [if_pos (bf hF hw)]
 exact .inl (hx S w ρ a hr hi hF _ _ fun x S' w' ρ' hr' hi' hu _ _ hv => k S' w' ρ' _ hr' hi' (bm (hF.up hu) o.dst hv))
variable {L : List Nat} {m left i : Nat} {listed : Array Bool}
theorem Ar (hrd : Region.ready .any all listed = [i]) (hi : all[i]? = some o) (hw : aH F all o.guard = some true) (hx : jK P K o L ((listed.setIfInBounds i true).getD m false) n F H u H') (k : Go P K Q (.drw all L m left (listed.setIfInBounds i true)) s n (F.seto o.dst (some u)) H') : Go P K Q (.drw all L m (left + 1) listed) s n F H := fun S w ρ a hr hiv hF hs => by
 refine ic (S := S) hrd ?_
 unfold wpOp
 simp only [hi]
 rw [if_pos (bf hF hw)]
 exact .inl (hx S w ρ a hr hiv hF _ _ fun x S' w' ρ' hr' hi' hu hA hL hv => gD hu hA hL (k S' w' ρ' _ hr' hi' (bm (hF.up hu) o.dst hv) hs))
def fj (P : Program) (K : Ctx) (Q : Exit → Act → World → Prop) (n : Nat) : Rs → Prop
 | .ok e F H => ∀ S w ρ a, HRel S w ρ H.get → Inv K S w ρ H.get → FRel S w ρ a n F → Q (match e with | true => .ret | false => .normal) a w
 | .pt p s F H => Go P K Q p s n F H
 | .er _ _ => False
variable {ih : EP → List EI → Fm → Hp → Rs}
theorem uo {S : Nat → Prop} {w : World} {ρ : Nat → Option Value} {x : Value} : ∀ {rs : List V}, VRel S w ρ (fQ rs) x → ∃ ys, LRel S w ρ rs ys ∧ x = iC ys
 | [], hvx => by simp only [fQ, VRel] at hvx; obtain ⟨ys, rfl, h1⟩ := hvx; exact ⟨ys, h1, by simp only [LRel] at h1; subst h1; rfl⟩
 | [v], hvx => ⟨[x], ⟨x, [], rfl, hvx, rfl⟩, rfl⟩
 | v :: u :: r, hvx => by
  simp only [fQ, VRel] at hvx; obtain ⟨ys, rfl, h1⟩ := hvx
  refine ⟨ys, h1, ?_⟩
  simp only [LRel] at h1
  obtain ⟨_, _, rfl, _, _, _, rfl, _⟩ := h1
  rfl
theorem yF (hT : TabOk P T) (IH : ∀ p s F H K Q n, fj P K Q n (ih p s F H) → Go P K Q p s n F H) {X : Rs → Prop} (hX : ∀ n m, ¬ X (.er n m)) {keep ok : Bool} {vs : List V} {fid : FuncId} {fn : Func} {b : Code} {c : V → Hp → Rs} (hf : P.funcs[fid]? = some fn) (hb : fn.body = some b) (hl : Nat.ble vs.length fn.ntmps = true)
  (h : X (uO T ih keep vs fn b H L ok c)) : ∃ u H' L', (L' = L ∨ ok = true) ∧ CallR P K fid vs H L' (fun u' H'' => u' = u ∧ H'' = H') ∧ X (c u H') := by
 unfold uO at h
 simp only [] at h
 generalize hR : jq H 40 (mr vs []) [] = R at h
 split at h
 ·rename_i hok
  rw [mg] at h
  split at h
  ·rename_i e F1 H1 hrun
   split at h
   ·rename_i rs hres
    split at h
    ·rename_i hnx
     have hnx' : H.nx ≤ H1.nx := Nat.le_of_ble_eq_true hnx
     -- the objects that the call gets
     have hin : ∀ i, (⟨H.nx, bZ R H.es⟩ : Hp).get i = H.get i ∨ (⟨H.nx, bZ R H.es⟩ : Hp).get i = .gone := fun i => by
      unfold Hp.get
      simp only []
      split
      ·rcases kJ (R := R) (i := i) (l := H.es) with e | ⟨_, e⟩
       ·exact .inl e
       ·exact .inr e
      ·exact .inl rfl
     have hout : ∀ i, fc i R = false → Nat.blt i H.nx = true → (⟨H.nx, bZ R H.es⟩ : Hp).get i = .gone := fun i hi hlt => by
      unfold Hp.get
      simp only [hlt]
      exact qq hi _
     -- the objects behind the call
     have key : ∀ (H2 : Hp) (es3 : List (Nat × Ob)), H2.nx = H1.nx → (∀ i, am es3 i = am H2.es i ∨ am es3 i = .gone) → ∀ i, ((⟨H2.nx, es3 ++ cF H.nx R H.es⟩ : Hp).get i = H2.get i ∨ (⟨H2.nx, es3 ++ cF H.nx R H.es⟩ : Hp).get i = .gone) ∨ ((⟨H2.nx, es3 ++ cF H.nx R H.es⟩ : Hp).get i = H.get i ∧ (⟨H.nx, bZ R H.es⟩ : Hp).get i = .gone ∧ H.get i ≠ .free) := fun H2 es3 hn h3 i => by
      by_cases hlt2 : Nat.blt i H2.nx = true
      ·have e0 : (⟨H2.nx, es3 ++ cF H.nx R H.es⟩ : Hp).get i = am (es3 ++ cF H.nx R H.es) i := by unfold Hp.get; simp only [hlt2]
       have e2 : H2.get i = am H2.es i := by unfold Hp.get; rw [hlt2]
       rw [e0, e2]
       rcases sH es3 (cF H.nx R H.es) i with e | ⟨e', e⟩
       ·rw [e]
        rcases h3 i with h3 | h3
        ·exact .inl (.inl h3)
        ·exact .inl (.inr h3)
       ·rw [e]
        rw [wF]
        cases hm : (!fc i R && Nat.blt i H.nx)
        ·exact .inl (.inr (by simp))
        ·have hm' := hm
         simp only [Bool.and_eq_true, Bool.not_eq_true'] at hm'
         have eH : H.get i = am H.es i := by unfold Hp.get; rw [hm'.2]
         rw [if_pos rfl]
         cases hf : am H.es i
         case free => exact .inl (.inr rfl)
         all_goals exact .inr ⟨by rw [eH, hf]; rfl, hout i hm'.1 hm'.2, by rw [eH, hf]; simp⟩
      ·have e0 : (⟨H2.nx, es3 ++ cF H.nx R H.es⟩ : Hp).get i = .free := by
        unfold Hp.get; simp only [Bool.not_eq_true] at hlt2; simp only [hlt2]
       have e2 : H2.get i = .free := by unfold Hp.get; simp only [Bool.not_eq_true] at hlt2; rw [hlt2]
       exact .inl (.inl (by rw [e0, e2]))
     -- what holds behind the call
     have fin : ∀ (H2 : Hp) (es3 : List (Nat × Ob)) (rs2 : List V), H2.nx = H1.nx → (∀ i, am es3 i = am H2.es i ∨ am es3 i = .gone) →
       (∀ K S w ρ xs, HRel S w ρ H1.get → Inv K S w ρ H1.get → LRel S w ρ rs xs → ∃ S', HRel S' w ρ H2.get ∧ Inv K S' w ρ H2.get ∧ Up S S' w w ρ ρ ∧ LRel S' w ρ rs2 xs) →
       ∃ L', (L' = L ∨ ok = true) ∧ CallR P K fid vs H L' (fun u' H'' => u' = fQ rs2 ∧ H'' = ⟨H2.nx, es3 ++ cF H.nx R H.es⟩) := fun H2 es3 rs2 hn h3 hfz => by
      have main : ∀ L', (∀ (S : Nat → Prop) (w : World) (ρ : Nat → Option Value), HRel S w ρ H.get → L' = [] ∨ (bk H.get L' = true ∧ ∀ id, id ∈ L' → (⟨H.nx, bZ R H.es⟩ : Hp).get id = .gone)) → CallR P K fid vs H L' (fun u' H'' => u' = fQ rs2 ∧ H'' = ⟨H2.nx, es3 ++ cF H.nx R H.es⟩) := fun L' hL' S w ρ xs hr hi hx => by
       have hr1 := hr.drop (h' := (⟨H.nx, bZ R H.es⟩ : Hp).get) hin
       have hi1 : Inv ⟨w, S, fun b => ∃ id, own ρ id ((⟨H.nx, bZ R H.es⟩ : Hp).get id) b, ρ⟩ S w ρ (⟨H.nx, bZ R H.es⟩ : Hp).get := ⟨ChgP.refl _ _, fun _ h => h, fun _ h => .inl h, fun id b hb => .inl ⟨id, hb⟩, fun _ _ h => h⟩
       refine og hf hb hl hr1 hi1 hx (IH _ _ _ _ _ _ _ ?_)
       rw [hrun]
       intro S' w' ρ' a' hr' hi' hF'
       obtain ⟨rl, hrl⟩ : ∃ l : List ResultVar, fn.results = l.toArray := ⟨fn.results.toList, by simp⟩
       rw [hrl] at hres
       refine ret_go hT (rs := rl) (by cases e <;> simp) hrl hr' hF' (by simpa using hres) fun x hvx => ?_
       have hLR := uo hvx
       obtain ⟨ys, hys, rfl⟩ := hLR
       obtain ⟨S2, a1, a2, a3, a4⟩ := hfz _ S' w' ρ' ys hr' hi' hys
       obtain ⟨m1, m2, m3, m4⟩ := sY (h1 := (⟨H.nx, bZ R H.es⟩ : Hp).get) (h2 := (⟨H2.nx, es3 ++ cF H.nx R H.es⟩ : Hp).get) hr hi hin a1 a2 (key H2 es3 hn h3)
       refine ⟨_, S2, ρ', _, _, rfl, ⟨rfl, rfl⟩, m1, m2, m3, pR a4, ?_⟩
       rcases hL' S w ρ hr with rfl | ⟨g1, g2⟩
       ·intro id hid; simp at hid
       ·exact m4 L' g1 g2
      rcases nr hok with hok | hok
      ·simp only [Bool.and_eq_true] at hok
       refine ⟨L, .inl rfl, main L fun S w ρ hr => .inr ⟨hok.1, fun id hid => ?_⟩⟩
       have hmem := List.all_eq_true.1 hok.2 id hid
       simp only [Bool.not_eq_true'] at hmem
       by_cases hlt : Nat.blt id H.nx = true
       ·exact hout id hmem hlt
       ·exfalso
        have hfree : H.get id = .free := by unfold Hp.get; simp only [Bool.not_eq_true] at hlt; rw [hlt]
        have hnl : ∀ (l : List Nat), id ∈ l → bk H.get l = true → False := by
         intro l
         induction l with
         | nil => intro h; simp at h
         | cons j t ih =>
          intro hm hl
          simp only [bk] at hl
          rcases List.mem_cons.1 hm with e | e
          ·subst e; rw [hfree] at hl; cases hl
          ·split at hl
           ·exact ih e hl
           ·exact ih e hl
           ·cases hl
        exact hnl L hid hok.1
      ·exact ⟨[], .inr hok, main [] fun _ _ _ _ => .inl rfl⟩
     split at h
     ·rw [lY] at h
      obtain ⟨L', g1, g2⟩ := fin H1 H1.es rs rfl (fun i => .inl rfl) (fun K S w ρ xs h1 h2 h3 => ⟨S, h1, h2, Up.refl, h3⟩)
      exact ⟨_, _, L', g1, g2, h⟩
     ·obtain ⟨rs2, H2, e1, e2, e3⟩ := pK H.nx rs H1
      rw [e1] at h
      rw [mg, lY] at h
      obtain ⟨L', g1, g2⟩ := fin H2 (bZ _ H2.es) rs2 e2 (fun i => by
       rcases kJ (R := jq H2 60 (mr rs2 R) []) (i := i) (l := H2.es) with e | ⟨_, e⟩
       ·exact .inl e
       ·exact .inr e) e3
      exact ⟨_, _, L', g1, g2, h⟩
    ·exact absurd h (hX _ _)
   ·exact absurd h (hX _ _)
  ·exact absurd h (hX _ _)
  ·exact absurd h (hX _ _)
 ·exact absurd h (hX _ _)
theorem kv (hT : TabOk P T) (IH : ∀ p s F H K Q n, fj P K Q n (ih p s F H) → Go P K Q p s n F H) {X : Rs → Prop} (hX : ∀ n m, ¬ X (.er n m)) {ok : Bool} {c : Option V → Hp → Rs} (h : X (lS T ih F H L ok o c)) : ∃ u H', jK P K o L ok n F H u H' ∧ X (c (some u) H') := by
 unfold lS at h
 split at h
 ·rename_i v hv
  exact ⟨v, H, wk hT hv, h⟩
 ·rw [bH] at h
  split at h
  ·rename_i v ed hv
   split at h
   ·rename_i hc
    rw [Hp.ap_eq] at h
    refine ⟨_, _, ce hT hv hc, ?_⟩
    cases v with
    | none => exact h
    | some v => exact h
   ·exact absurd h (hX _ _)
  ·split at h
   ·rename_i fid args tys hop
    split at h
    ·rename_i vs hvs
     split at h
     ·rename_i v hn
      obtain ⟨he, hnat⟩ := hT.nat _ _ _ hn
      refine ⟨v, H, fT (L' := L) he (by rw [hop]) hvs (fun S w ρ xs hr hi hx => ?_) (.inl rfl), h⟩
      obtain ⟨x, h1, h2⟩ := hnat S w ρ xs hx
      refine h2.mono fun e w' hR => ?_
      obtain ⟨rfl, rfl⟩ := hR
      exact ⟨x, S, ρ, v, H, rfl, ⟨rfl, rfl⟩, hr, hi, Up.refl, h1, ja⟩
     ·split at h
      ·rename_i fn hfn
       obtain ⟨hf, he⟩ := hT.fn _ _ hfn
       split at h
       ·rename_i b hb
        split at h
        ·rename_i hl
         obtain ⟨u, H', L', g1, g2, g3⟩ := yF (K := K) hT IH hX hf hb hl h
         exact ⟨u, H', fT he (by rw [hop]) hvs g2 g1, g3⟩
        ·exact absurd h (hX _ _)
       ·exact absurd h (hX _ _)
      ·exact absurd h (hX _ _)
    ·exact absurd h (hX _ _)
   ·exact absurd h (hX _ _)
theorem wf {l : List Nat} {j : Nat} (h : rv l j = true) : l = [j] := by
 unfold rv at h
 split at h
 ·rw [Nat.eq_of_beq_eq_true h]
 ·cases h
theorem qG (hT : TabOk P T) (IH : ∀ p s F H K Q n, fj P K Q n (ih p s F H) → Go P K Q p s n F H) {i : Nat} {ps : List (Nat × Operand)} {vs : List (Nat × V)} {v : V} (hp : la T all i vs = some (o, ps, v)) : ∀ (left : Nat) (listed : Array Bool) (F : Fm) (H : Hp), fj P K Q n (qw T ih all L m i o ps v s left listed F H) → GoP P K Q all L m left listed s n F H i o ps vs v
 | left, listed, F, H, h => by
  unfold qw at h
  split at h
  ·rename_i hl
   split at h
   ·rename_i x hrd
    split at h
    ·rename_i hb
     have := Nat.eq_of_beq_eq_true hb
     subst this
     rw [Fm.puto_eq] at h
     exact zr hT hp hrd hl (IH _ _ _ _ _ _ _ h)
    ·exact h.elim
   ·rename_i x y hrd
    cases left with
    | zero => exact h.elim
    | succ left =>
     simp only [bH] at h
     generalize hj : vg x y i = j at h
     unfold vg at hj
     split at h
     ·exact h.elim
     ·rename_i hji
      have hne : j ≠ i := Nat.ne_of_beq_eq_false hji
      split at h
      ·rename_i oj hoj
       split at h
       ·rename_i hc
        simp only [Bool.and_eq_true] at hc
        obtain ⟨⟨⟨hc1, hc2⟩, hc3⟩, hc4⟩ := hc
        split at h
        ·rename_i hw
         obtain ⟨u, H', hx, hk⟩ := kv (K := K) (n := n) hT IH (X := fj P K Q n) (fun _ _ h => h) h
         rw [Fm.puto_eq] at hk
         have ih2 := qG hT IH hp left _ _ _ hk
         have hpair : (match Region.ready .any all listed with | [x, y] => (Nat.beq x i && Nat.beq y j) || (Nat.beq x j && Nat.beq y i) | _ => false) = true := by
          rw [hrd]
          simp only []
          cases hx1 : Nat.beq x i
          ·rw [hx1] at hj
           cases hy1 : Nat.beq y i
           ·rw [hy1] at hj; exact absurd hj.symm hne
           ·rw [hy1] at hj; simp only at hj; subst hj; simp
          ·rw [hx1] at hj; simp only at hj; subst hj; simp
         refine yB hT hp hoj hpair (wf hc1) hl (fun t ht => ?_) hc2 hc3 (Array.setIfInBounds_comm _ _ (Ne.symm hne)) (Post := fun u' H'' => u' = u ∧ H'' = H') (fun S w ρ a hr hi hF K2 hK2 => ?_) (fun u' H'' hP => by obtain ⟨rfl, rfl⟩ := hP; exact ih2)
         ·rw [ht] at hc4
          simp only [Option.isNone_iff_eq_none] at hc4
          exact hc4
         ·unfold wpOp
          simp only [hoj]
          rw [if_pos (bf hF hw)]
          refine .inl (hx S w ρ a hr hi hF _ _ fun x S' w' ρ' hr' hi' hu hA hL hv => hK2 x S' w' ρ' u H' ⟨rfl, rfl⟩ hr' hi' hu hA (hL.imp id fun h => ?_) hv)
          simpa only [Bool.and_eq_true] using h
        ·exact h.elim
       ·exact h.elim
      ·exact h.elim
   ·exact h.elim
  ·exact h.elim
theorem zV (hT : TabOk P T) (IH : ∀ p s F H K Q n, fj P K Q n (ih p s F H) → Go P K Q p s n F H) {i j : Nat} {left : Nat} {listed : Array Bool} (hrd : Region.ready .any all listed = [i, j]) (h : fj P K Q n (xS T ih all L m left i j listed s F H)) : Go P K Q (.drw all L m (left + 1) listed) s n F H := by
 unfold xS at h
 split at h
 ·rename_i oi hoi
  split at h
  ·rename_i oj hoj
   split at h
   ·rename_i hwi
    split at h
    ·rename_i hwj
     obtain ⟨ui, Hi, xi, hk⟩ := kv (K := K) (n := n) hT IH (X := fj P K Q n) (fun _ _ h => h) h
     rw [Fm.puto_eq] at hk
     split at hk
     ·rename_i F1 H1 e1
      obtain ⟨uj, Hj, xj, hk2⟩ := kv (K := K) (n := n) hT IH (X := fj P K Q n) (fun _ _ h => h) hk
      rw [Fm.puto_eq] at hk2
      split at hk2
      ·rename_i F2 H2 e2
       split at hk2
       ·rename_i hal
        have c : Go P K Q (.ex .normal) s n F1 H1 := IH _ _ _ _ _ _ _ hk2
        intro S w ρ a hr hi hF
        have hpin : ∀ id x, K.pin id = some x → id < H.nx := fun id x hx => Decidable.byContradiction fun hn => by
         have h1 := hi.pin id x hx
         have h2 := hr.ob id
         have h3 : H.get id = .free := by
          unfold Hp.get
          have : Nat.blt id H.nx = false := by
           cases hb : Nat.blt id H.nx
           ·rfl
           ·exact absurd (by simpa [Nat.blt_eq] using hb) hn
          simp only [this]
         rw [h3] at h2
         have h4 : ρ id = none := h2
         rw [h4] at h1; cases h1
        have g1 : Go P K (bK P Q s) (.drw all L m left (listed.setIfInBounds i true)) [] n (F.seto oi.dst (some ui)) Hi := IH _ _ _ _ _ _ _ (by rw [e1]; exact fun S w ρ a hr hi hF => c S w ρ a hr hi hF)
        have g2 : Go P K (bK P Q s) (.drw all L m left (listed.setIfInBounds j true)) [] n (F.seto oj.dst (some uj)) Hj := IH _ _ _ _ _ _ _ (by rw [e2]; exact fun S w ρ a hr hi hF => go_alike hal hpin c S w ρ a hr hi hF)
        exact dd (by rw [hrd]; simp) hoi hoj hwi hwj xi xj g1 g2 S w ρ a hr hi hF
       ·exact hk2.elim
      ·exact hk2.elim
      ·exact hk2.elim
     ·exact hk.elim
     ·exact hk.elim
    ·exact h.elim
   ·exact h.elim
  ·exact h.elim
 ·exact h.elim
theorem kU : ∀ {R : List Nat} {i : Nat} {ps : List (Nat × Operand)} {v : V}, lO T F all R = some (i, o, ps, v) → ∃ vs, gA F ps = some vs ∧ la T all i vs = some (o, ps, v)
 | [], _, _, _, h => by cases h
 | j :: r, i, ps, v, h => by
  unfold lO at h
  split at h
  ·rename_i hj
   split at h
   ·rename_i vs hvs
    split at h
    ·rename_i o' ps' v' hpb
     simp only [Option.some.injEq, Prod.mk.injEq] at h
     obtain ⟨rfl, rfl, rfl, rfl⟩ := h
     refine ⟨vs, ?_, hpb⟩
     have := hpb
     unfold la at this
     rw [hj] at this
     simp only at this
     repeat' (split at this)
     all_goals first
      | (cases this; done)
      | (simp only [bH, Option.some.injEq, Prod.mk.injEq] at this; obtain ⟨_, rfl, _⟩ := this; exact hvs)
    ·exact kU h
   ·exact kU h
  ·exact kU h
theorem zK (hT : TabOk P T) (hm : P.follows .mixedOrders = true) (IH : ∀ p s F H K Q n, fj P K Q n (ih p s F H) → Go P K Q p s n F H) : ∀ (p : EP) (s : List EI) (F : Fm) (H : Hp), fj P K Q n (wG T ih p s F H) → Go P K Q p s n F H
 | .code c, s, F, H, h => by
  replace h : fj P K Q n (uQ T ih c s F H) := h
  unfold uQ at h
  split at h
  ·exact wb (IH _ _ _ _ _ _ _ h)
  ·exact qU (IH _ _ _ _ _ _ _ h)
  ·exact ug (IH _ _ _ _ _ _ _ h)
  ·exact go_ret (IH _ _ _ _ _ _ _ h)
  ·exact un (IH _ _ _ _ _ _ _ h)
  ·exact yz (IH _ _ _ _ _ _ _ h)
  ·exact yb (IH _ _ _ _ _ _ _ h)
  ·exact go_loop 1000000 (IH _ _ _ _ _ _ _ h)
  ·split at h
   ·exact qz ‹_› (IH _ _ _ _ _ _ _ h)
   ·exact rM ‹_› (IH _ _ _ _ _ _ _ h)
   ·exact h.elim
  ·exact pX (IH _ _ _ _ _ _ _ h)
  ·split at h
   ·rename_i hs
    simp only [bo, bH] at h
    exact ua _ _ _ rfl hm hs (IH _ _ _ _ _ _ _ h)
   ·exact h.elim
  ·exact h.elim
 | .ops all rest, s, F, H, h => by
  replace h : fj P K Q n (qY T ih all rest s F H) := h
  unfold qY at h
  split at h
  ·exact wU (IH _ _ _ _ _ _ _ h)
  ·split at h
   ·rw [Fm.puto_eq] at h
    exact xp ‹_› (IH _ _ _ _ _ _ _ h)
   ·obtain ⟨u, H', hx, hk⟩ := kv (K := K) (n := n) hT IH (X := fj P K Q n) (fun _ _ h => h) h
    rw [Fm.puto_eq] at hk
    exact AD ‹_› hx (IH _ _ _ _ _ _ _ hk)
   ·exact h.elim
 | .ex e, s, F, H, h => by
  replace h : fj P K Q n (vl ih e s F H) := h
  unfold vl at h
  split at h
  ·split at h
   ·exact fun S w ρ a hr hi hF => h S w ρ a hr hi hF
   ·exact fun S w ρ a hr hi hF => h S w ρ a hr hi hF
   ·exact h.elim
  ·split at h
   ·exact tX (IH _ _ _ _ _ _ _ h)
   ·exact th (IH _ _ _ _ _ _ _ h)
   ·exact rI (IH _ _ _ _ _ _ _ h)
   ·exact h.elim
  ·split at h
   ·split at h
    ·exact h.elim
    ·exact go_xloop (IH _ _ _ _ _ _ _ h)
   ·exact go_xloopE (IH _ _ _ _ _ _ _ h)
   ·exact go_xloopR (IH _ _ _ _ _ _ _ h)
   ·exact h.elim
  ·split at h
   ·exact ya (IH _ _ _ _ _ _ _ h)
   ·exact xz (IH _ _ _ _ _ _ _ h)
   ·exact yq (IH _ _ _ _ _ _ _ h)
   ·exact h.elim
  ·split at h
   ·exact rU (IH _ _ _ _ _ _ _ h)
   ·split at h
    ·exact qK ‹_› (IH _ _ _ _ _ _ _ h)
    ·exact rm ‹_› (IH _ _ _ _ _ _ _ h)
   ·exact te (IH _ _ _ _ _ _ _ h)
   ·exact h.elim
 | .drw all L m left listed, s, F, H, h => by
  replace h : fj P K Q n (vT T ih all L m left listed s F H) := h
  unfold vT at h
  split at h
  ·exact tc ‹_› (IH _ _ _ _ _ _ _ h)
  ·rename_i i R hrd
   cases left with
   | zero => exact h.elim
   | succ left =>
    simp only [] at h
    split at h
    ·split at h
     ·rename_i o ho
      split at h
      ·rw [Fm.puto_eq] at h
       exact go_d1S hrd ho ‹_› (IH _ _ _ _ _ _ _ h)
      ·obtain ⟨u, H', hx, hk⟩ := kv (K := K) (n := n) hT IH (X := fj P K Q n) (fun _ _ h => h) h
       rw [Fm.puto_eq] at hk
       exact Ar hrd ho ‹_› hx (IH _ _ _ _ _ _ _ hk)
      ·exact h.elim
     ·exact h.elim
    ·split at h
     ·split at h
      ·rename_i o ho
       split at h
       ·rename_i hc
        simp only [Bool.and_eq_true, Bool.not_eq_true'] at hc
        obtain ⟨⟨hc1, hc2⟩, hc3⟩ := hc
        split at h
        ·rw [Fm.puto_eq] at h
         exact uX hc3 ho hc2 hc1 ‹_› (IH _ _ _ _ _ _ _ h)
        ·rename_i hw
         split at h
         ·rename_i v hv
          rw [Fm.puto_eq] at h
          exact yR hT hc3 ho hc2 hc1 hw hv (IH _ _ _ _ _ _ _ h)
         ·split at h
          ·rename_i id hid
           split at h
           ·rename_i hL
            simp only [Bool.and_eq_true, Bool.not_eq_true'] at hL
            obtain ⟨⟨hL1, hL2⟩, hL3⟩ := hL
            split at h
            ·rename_i v ed hv
             rw [Fm.puto_eq] at h
             exact uC hT hc3 hL2 hL3 ho hc2 hc1 hw hid hL1 hv (IH _ _ _ _ _ _ _ h)
            ·exact h.elim
           ·exact h.elim
          ·exact h.elim
        ·exact h.elim
       ·exact h.elim
      ·exact h.elim
     ·split at h
      ·rename_i i' o ps v hpo
       rw [Fm.puto_eq] at h
       obtain ⟨vs, g1, g2⟩ := kU hpo
       exact wP g1 (qG hT IH g2 left listed _ _ h)
      ·split at h
       ·exact zV hT IH hrd h
       ·exact h.elim
theorem wx (hT : TabOk P T) (hm : P.follows .mixedOrders = true) : ∀ (k : Nat) (p : EP) (s : List EI) (F : Fm) (H : Hp) (K : Ctx) (Q : Exit → Act → World → Prop) (n : Nat), fj P K Q n (run T k p s F H) → Go P K Q p s n F H
 | 0, p, s, F, H, K, Q, n, h => h
 | k + 1, p, s, F, H, K, Q, n, h => zK hT hm (fun p s F H K Q n h => wx hT hm k p s F H K Q n h) p s F H h
def qX (T : Tab) (k : Nat) (fid : FuncId) (vs : List V) (H : Hp) : Option (List V × Hp) := match T.fn fid with
 |some fn => match fn.body with
  |some b => match Nat.ble vs.length fn.ntmps with
   |true => match run T k (.code b) [] (gW fn.ntmps vs) H with
    |.ok _ F1 H1 => match ml T H1.get F1 fn.results.toList with
     | some rs => some (rs, H1)
     | none => none
    | _ => none
   | false => none
  | none => none
 | none => none
theorem uc (hT : TabOk P T) (hm : P.follows .mixedOrders = true) {k : Nat} {fid : FuncId} {vs rs : List V} {H H1 : Hp} (h : qX T k fid vs H = some (rs, H1)) {S : Nat → Prop} {w : World} {ρ : Nat → Option Value} {xs : List Value} (hr : HRel S w ρ H.get) (hx : LRel S w ρ vs xs) : aU P fid = true ∧
  Calls P fid xs.toArray w fun e w' => ∃ S' ρ' ys, e = .returned (iC ys) ∧ HRel S' w' ρ' H1.get ∧ Inv ⟨w, S, fun b => ∃ id, own ρ id (H.get id) b, ρ⟩ S' w' ρ' H1.get ∧ LRel S' w' ρ' rs ys := by
 unfold qX at h
 split at h
 ·rename_i fn hfn
  obtain ⟨hf, he⟩ := hT.fn _ _ hfn
  split at h
  ·rename_i b hb
   split at h
   ·rename_i hl
    split at h
    ·rename_i e F1 H1' hrun
     split at h
     ·rename_i rs' hres
      simp only [Option.some.injEq, Prod.mk.injEq] at h
      obtain ⟨rfl, rfl⟩ := h
      refine ⟨he, ?_⟩
      have hi1 : Inv ⟨w, S, fun b => ∃ id, own ρ id (H.get id) b, ρ⟩ S w ρ H.get := ⟨ChgP.refl _ _, fun _ h => h, fun _ h => .inl h, fun id b hb => .inl ⟨id, hb⟩, fun _ _ h => h⟩
      refine og hf hb hl hr hi1 hx (wx hT hm k _ _ _ _ _ _ _ ?_)
      rw [hrun]
      intro S' w' ρ' a' hr' hi' hF'
      obtain ⟨rl, hrl⟩ : ∃ l : List ResultVar, fn.results = l.toArray := ⟨fn.results.toList, by simp⟩
      rw [hrl] at hres
      refine ret_go hT (rs := rl) (by cases e <;> simp) hrl hr' hF' (by simpa using hres) fun x hvx => ?_
      have hLR := uo hvx
      obtain ⟨ys, hys, rfl⟩ := hLR
      exact ⟨S', ρ', ys, rfl, hr', hi', hys⟩
     ·cases h
    ·cases h
   ·cases h
  ·cases h
 ·cases h
end
def qr : List (List UInt8) → List V → Bool
 | [], [] => true
 | s :: r, .str l :: q => lEq s l && qr r q
 | _, _ => false
def ro (ls : List (List UInt8)) : V → Bool
 | .nils => ls.isEmpty
 | .row sz els => Nat.beq sz 1 && qr ls els
 | _ => false
mutual
def treeB : Tree → V → Bool
 |.node k s ls ks, v => match v with
  |.agg [.int .i64 k', .str s', l, r] => iEq k k' && lEq s s' && ro ls l && (match r with
   | .nils => ks.isEmpty
   | .row sz els => Nat.beq sz 4 && kidsB ks els
   | _ => false)
  | _ => false
def kidsB : List Tree → List V → Bool
 |[], vs => match vs with
  | [] => true
  | _ => false
 |t :: r, vs => match vs with
  | v :: q => treeB t v && kidsB r q
  | [] => false
end
section
variable {S : Nat → Prop} {w : World}
theorem sk {ρ : Nat → Option Value} : ∀ {ls : List (List UInt8)} {els : List V} {xs : List Value}, qr ls els = true → CRel S w ρ 1 els xs → els.length = ls.length ∧ xs = ls.map ch
 | [], [], xs, _, hc => by simp only [CRel] at hc; subst hc; exact ⟨rfl, rfl⟩
 | s :: r, v :: q, xs, hb, hc => by
  cases v <;> simp only [qr] at hb <;> first | (cases hb; done) | skip
  rename_i l
  simp only [Bool.and_eq_true] at hb
  have hl := hb.1
  rw [lE] at hl
  simp only [beq_iff_eq] at hl
  subst hl
  simp only [CRel] at hc
  obtain ⟨x, ys, rfl, _, h3, h4⟩ := hc
  simp only [VRel] at h3
  subst h3
  obtain ⟨h5, h6⟩ := sk hb.2 h4
  exact ⟨by simp [h5], by simp [h6, Value.cells]⟩
 | [], _ :: _, _, hb, _ => by cases hb
 | _ :: _, [], _, hb, _ => by cases hb
theorem vV {ρ : Nat → Option Value} {ls : List (List UInt8)} {v : V} {x : Value} (hb : ro ls v = true) (hx : VRel S w ρ v x) : ∃ A m, x = .slice A ls.length m ∧ ls.length ≤ m ∧ m ≤ maxLen ∧ RowIn S w 1 A ls.length (ls.map ch) := by
 cases v <;> simp only [ro] at hb <;> first | (cases hb; done) | skip
 ·simp only [List.isEmpty_iff] at hb
  subst hb
  simp only [VRel] at hx; subst hx
  exact ⟨none, 0, rfl, Nat.le_refl _, by decide, RowIn.none_⟩
 ·rename_i sz els
  simp only [Bool.and_eq_true, Nat.beq_eq] at hb
  obtain ⟨rfl, hb⟩ := hb
  simp only [VRel] at hx
  obtain ⟨A, c, xs, rfl, h3, h4, h5, h6⟩ := hx
  obtain ⟨h7, rfl⟩ := sk hb h5
  rw [h7] at h3 h6 ⊢
  exact ⟨A, c, rfl, h3, h4, h6⟩
mutual
theorem treeB_ok {ρ : Nat → Option Value} : ∀ {t : Tree} {v : V} {x : Value}, treeB t v = true → VRel S w ρ v x → ∃ c, x = .agg c.toArray ∧ TreeIs S w t c
 | .node k s ls ks, v, x, hb, hx => by
  unfold treeB at hb
  split at hb
  ·rename_i k' s' l r
   simp only [Bool.and_eq_true] at hb
   obtain ⟨⟨⟨hb1, hb2⟩, hb3⟩, hb4⟩ := hb
   rw [mU] at hb1
   rw [lE] at hb2
   simp only [beq_iff_eq] at hb1 hb2
   subst hb1 hb2
   simp only [VRel] at hx
   obtain ⟨xs, rfl, hl⟩ := hx
   simp only [LRel] at hl
   obtain ⟨x0, _, rfl, h0, x1, _, rfl, h1, x2, _, rfl, h2, x3, _, rfl, h3, rfl⟩ := hl
   simp only [VRel] at h0 h1
   subst h0 h1
   obtain ⟨A, m, rfl, g1, g2, g3⟩ := vV hb3 h2
   have kk : ∃ B n, x3 = .slice B ks.length n ∧ ks.length ≤ n ∧ n ≤ maxLen ∧ ∃ cs, KidsAre S w ks cs ∧ RowIn S w 4 B ks.length cs := by
    split at hb4
    ·simp only [List.isEmpty_iff] at hb4
     subst hb4
     simp only [VRel] at h3; subst h3
     exact ⟨none, 0, rfl, Nat.le_refl _, by decide, [], by simp only [KidsAre], RowIn.none_⟩
    ·rename_i sz els
     simp only [Bool.and_eq_true, Nat.beq_eq] at hb4
     obtain ⟨rfl, hb4⟩ := hb4
     simp only [VRel] at h3
     obtain ⟨B, c, ys, rfl, q3, q4, q5, q6⟩ := h3
     obtain ⟨q7, q8⟩ := kidsB_ok hb4 q5
     rw [q7] at q3 q6 ⊢
     exact ⟨B, c, rfl, q3, q4, ys, q8, q6⟩
    ·cases hb4
   obtain ⟨B, n, rfl, k1, k2, cs, k3, k4⟩ := kk
   exact ⟨_, rfl, pD g1 g2 k1 k2 g3 k3 k4⟩
  ·cases hb
theorem kidsB_ok {ρ : Nat → Option Value} : ∀ {ts : List Tree} {vs : List V} {xs : List Value}, kidsB ts vs = true → CRel S w ρ 4 vs xs → vs.length = ts.length ∧ KidsAre S w ts xs
 | [], vs, xs, hb, hc => by
  unfold kidsB at hb
  split at hb
  ·simp only [CRel] at hc; subst hc; exact ⟨rfl, by simp only [KidsAre]⟩
  ·cases hb
 | t :: r, vs, xs, hb, hc => by
  unfold kidsB at hb
  split at hb
  ·rename_i v q
   simp only [Bool.and_eq_true] at hb
   simp only [CRel] at hc
   obtain ⟨x, ys, rfl, _, h3, h4⟩ := hc
   obtain ⟨c, rfl, hT⟩ := treeB_ok hb.1 h3
   obtain ⟨h5, h6⟩ := kidsB_ok hb.2 h4
   exact ⟨by simp [h5], by simp only [KidsAre]; exact ⟨c, ys, by simp [Value.cells], hT, h6⟩⟩
  ·cases hb
end
end
def sW (T : Tab) (k : Nat) (fid : FuncId) (vs : List V) : Option (List V) := match qX T k fid vs ⟨0, []⟩ with
 | some (rs, H1) => tk 0 H1 rs fun rs' _ => some rs'
 | none => none
theorem mF (i : Nat) : (⟨0, []⟩ : Hp).get i = .free := by
 unfold Hp.get
 have : Nat.blt i 0 = false := by cases i <;> rfl
 simp only [this]
theorem yP {w : World} {S : Nat → Prop} (hg : SOk S w) : HRel S w (fun _ => none) (⟨0, []⟩ : Hp).get :=
 ⟨fun i => by rw [mF]; rfl, fun i b hb => by rw [mF] at hb; exact hb.elim, fun i j b hb _ => by rw [mF] at hb; exact hb.elim, hg⟩
theorem zI {P : Program} {T : Tab} (hT : TabOk P T) (hm : P.follows .mixedOrders = true) {k : Nat} {fid : FuncId} {vs rs : List V} (h : sW T k fid vs = some rs) {S : Nat → Prop} {w : World} {xs : List Value} (hg : SOk S w) (hx : LRel S w (fun _ => none) vs xs) :
  Calls P fid xs.toArray w fun e w' => ∃ S' ρ' ys, e = .returned (iC ys) ∧ SOk S' w' ∧ (∀ b, S b → S' b) ∧ (∀ b, S' b → S b ∨ w.heap.size ≤ b) ∧ Chg [] w w' ∧ LRel S' w' ρ' rs ys := by
 unfold sW at h
 split at h
 ·rename_i rs1 H1 hrun
  obtain ⟨rs2, H2, e1, _, e3⟩ := pK 0 rs1 H1
  rw [e1] at h
  injection h with h; subst h
  refine (uc hT hm hrun (yP hg) hx).2.mono fun e w' hR => ?_
  obtain ⟨S', ρ', ys, rfl, hr, hi, hl⟩ := hR
  obtain ⟨S2, a1, a2, a3, a4⟩ := e3 _ S' w' ρ' ys hr hi hl
  have hno : ∀ b, ¬ ∃ id, own (fun _ => none) id ((⟨0, []⟩ : Hp).get id) b := fun b ⟨id, hb⟩ => by rw [mF] at hb; exact hb
  refine ⟨S2, ρ', ys, rfl, a1.slt, a2.s0, fun b hb => ?_, ⟨hi.chg.os, hi.chg.tape, hi.chg.output, hi.chg.size, fun b hb _ => hi.chg.block b hb (hno b)⟩, a4⟩
  rcases a2.s1 b hb with h | h | h
  ·exact .inl h
  ·exact absurd h (hno b)
  ·exact .inr h
 ·cases h
def vb (fid : FuncId) (vs : List V) : Option V := match Nat.beq fid 71 with
 |true => match vs with
  | [.str s, .int .u8 (.ofNat c)] => vq (Lib.indexByte s c.toUInt8) fun n => some (.int .i64 n)
  | _ => none
 | false => none
noncomputable def ve : Tab := ⟨true, fW tyL, fW fnL, vb, fun f => Nat.beq f 26⟩
theorem tY : TabOk Tryz.prog ve := by
 refine ⟨sG, BP, fun i vs v hv => ?_⟩
 replace hv : vb i vs = some v := hv
 unfold vb at hv
 split at hv
 ·rename_i hb
  have := Nat.eq_of_beq_eq_true hb
  subst this
  split at hv
  ·rename_i s c
   rw [uv] at hv
   injection hv with hv; subst hv
   refine ⟨by kernel_rfl, fun S w ρ xs hx => ?_⟩
   simp only [LRel] at hx
   obtain ⟨x0, _, rfl, h0, x1, _, rfl, h1, rfl⟩ := hx
   simp only [VRel] at h0 h1
   subst h0 h1
   exact ⟨_, by simp only [VRel]; rfl, vS _ _ _⟩
  ·cases hv
 ·cases hv
def nE (t : Tree) : Option (List V) → Bool
 | some [v, .int .i64 a, .int .i64 e] => treeB t v && iEq a 0 && iEq e 0
 | _ => false
theorem wD {k : Nat} {l : List UInt8} {t : Tree} (h : nE t (sW ve k 14 [.str l]) = true) {S : Nat → Prop} {w : World} (hg : SOk S w) : Calls Tryz.prog 14 [ch l].toArray w fun e w' => ∃ S' c0 c1 c2 c3, e = .returned (.tuple #[.agg #[c0, c1, c2, c3], .int .i64 0, .int .i64 0]) ∧ SOk S' w' ∧ (∀ b, S b → S' b) ∧ (∀ b, S' b → S b ∨ w.heap.size ≤ b) ∧ TreeIs S' w' t [c0, c1, c2, c3] ∧ Chg [] w w' := by
 unfold nE at h
 split at h
 ·rename_i v a e hr
  simp only [Bool.and_eq_true, mU, beq_iff_eq] at h
  obtain ⟨⟨h1, rfl⟩, rfl⟩ := h
  refine (zI tY (by kernel_rfl) hr hg (xs := [ch l]) ⟨_, [], rfl, by simp only [VRel], rfl⟩).mono fun e w' hR => ?_
  obtain ⟨S', ρ', ys, rfl, g0, g1, g2, g4, g3⟩ := hR
  simp only [LRel] at g3
  obtain ⟨x0, _, rfl, h0, x1, _, rfl, h2, x2, _, rfl, h3, rfl⟩ := g3
  simp only [VRel] at h2 h3
  subst h2 h3
  obtain ⟨c, rfl, hT⟩ := treeB_ok h1 h0
  have h4 := hT.four
  match c, h4, hT with
  | [c0, c1, c2, c3], _, hT => exact ⟨S', c0, c1, c2, c3, rfl, g0, g1, g2, hT, g4⟩
 ·cases h
section
variable {S : Nat → Prop} {w : World} {ρ : Nat → Option Value}
theorem ra : ∀ ls : List (List UInt8), CRel S w ρ 1 (ls.map .str) (ls.map ch)
 | [] => by simp [CRel]
 | s :: r => by
  simp only [List.map_cons, CRel]
  exact ⟨ch s, r.map ch, by simp [Value.cells, ch], ⟨rfl, rfl⟩, by unfold VRel; rfl, ra r⟩
theorem sI : ∀ ls : List Int, CRel S w ρ 1 (ls.map (V.int .i64)) (ls.map fun z => .int .i64 z)
 | [] => by simp [CRel]
 | s :: r => by
  simp only [List.map_cons, CRel]
  exact ⟨.int .i64 s, _, by simp [Value.cells], ⟨rfl, rfl⟩, by unfold VRel; rfl, sI r⟩
mutual
theorem TreeIs.vrel : ∀ {ρ : Nat → Option Value} {t : Tree} {c : List Value}, TreeIs S w t c → LRel S w ρ (ao t) c
 | ρ, .node k s ls ks, c, h => by
  simp only [TreeIs] at h
  obtain ⟨A, m, B, n, rfl, h1, h2, h3, h4, h5, cs, h6, h7⟩ := h
  simp only [ao, Tree.kind, Tree.text, Tree.leads, Tree.kids, LRel, VRel]
  exact ⟨_, _, rfl, rfl, _, _, rfl, rfl, _, _, rfl, ⟨A, m, _, by simp, by simpa using h1, h2, ra ls, by simpa using h5⟩, _, _, rfl, ⟨B, n, cs, by simp [eQ], by simpa [eQ] using h3, h4, KidsAre.crel h6, by simpa [eQ] using h7⟩, rfl⟩
theorem KidsAre.crel : ∀ {ρ : Nat → Option Value} {ts : List Tree} {cs : List Value}, KidsAre S w ts cs → CRel S w ρ 4 (kidsV ts) cs
 | ρ, [], cs, h => by simp only [KidsAre] at h; simp only [kidsV, CRel]; exact h
 | ρ, t :: r, cs, h => by
  simp only [KidsAre] at h
  obtain ⟨c, d, rfl, h1, h2⟩ := h
  simp only [kidsV, CRel, fM]
  exact ⟨.agg c.toArray, d, by simp [Value.cells], ⟨by simp [Value.cells, h1.four], by simpa [Value.cells] using h1.one⟩, by simp only [VRel]; exact ⟨c, rfl, h1.vrel⟩, KidsAre.crel h2⟩
end
end
theorem zm {k : Nat} {l : List UInt8} {t : Tree} (h : nE t (sW ve k 14 [.str l]) = true) : kl Tryz.prog 14 [.str l] (.tup [.agg (ao t), .int .i64 0, .int .i64 0]) := by
 refine ⟨rfl, rfl, fun S w ρ xs hr hx => ?_⟩
 simp only [LRel, VRel] at hx
 obtain ⟨x, ys, rfl, rfl, rfl⟩ := hx
 refine (wD h hr.slt).mono ?_
 rintro e w' ⟨S', c0, c1, c2, c3, rfl, g0, g1, g2, hT, hc⟩
 have g := hr.chg0 hc
 refine ⟨_, S', ρ, _, ⟨0, []⟩, rfl, rfl, ⟨fun i => ?_, fun i b hb => ?_, fun i j b hb _ => ?_, g0⟩, ⟨ChgP.of0 hc, g1, fun b hb => (g2 b hb).elim .inl fun h => .inr (.inr h), fun id b hb => .inl ⟨id, hb⟩, fun id x h => ?_⟩, ?_⟩
 ·have := g.ob i; rw [mF] at this ⊢; exact this
 ·rw [mF] at hb; exact hb.elim
 ·rw [mF] at hb; exact hb.elim
 ·simp only [kn] at h
  split at h
  ·exact h
  ·cases h
 ·have hk := TreeIs.vrel (ρ := ρ) hT
  simp only [VRel]
  exact ⟨[.agg #[c0, c1, c2, c3], .int .i64 0, .int .i64 0], rfl, .agg #[c0, c1, c2, c3], _, rfl, by simp only [VRel]; exact ⟨_, rfl, hk⟩, _, _, rfl, by simp only [VRel], _, _, rfl, by simp only [VRel], rfl⟩
def fR (f : V → Option V) : List V → Option (List V)
 | [] => some []
 |v :: r => match f v with
  |some u => match fR f r with
   | some l => some (u :: l)
   | none => none
  | none => none
def jO (h : Nat → Ob) : Nat → V → Option V
 | 0, _ => none
 |n + 1, v => match v with
  |.sl id => match h id with
   |.row _ sz els => match fR (jO h n) els with
    | some l => some (.row sz l)
    | none => none
   | _ => none
  |.agg cs => match fR (jO h n) cs with
   | some l => some (.agg l)
   | none => none
  |v => match v.pure with
   | true => some v
   | false => none
section
variable {S : Nat → Prop} {w : World} {ρ : Nat → Option Value} {h : Nat → Ob}
abbrev mf (S : Nat → Prop) (ρ : Nat → Option Value) (h : Nat → Ob) : Nat → Prop := fun b => S b ∨ ∃ id, own ρ id (h id) b
theorem xg : Up S (mf S ρ h) w w ρ0 ρ0 := ⟨fun _ h => .inl h, fun _ _ _ => rfl, fun _ _ h => h⟩
theorem qO {f : V → Option V} : ∀ {l u : List V}, fR f l = some u → u.length = l.length
 | [], u, e => by simp only [fR, Option.some.injEq] at e; subst e; rfl
 | v :: r, u, e => by
  simp only [fR] at e
  split at e
  ·split at e
   ·rename_i l hl
    injection e with e; subst e
    simp [qO hl]
   ·cases e
  ·cases e
theorem pE (hr : HRel S w ρ h) : ∀ (n : Nat) {v u : V} {x : Value}, jO h n v = some u → VRel S w ρ v x → VRel (mf S ρ h) w ρ0 u x
 | 0, v, u, x, e, _ => by cases e
 | n + 1, v, u, x, e, hx => by
  have ihL : ∀ {l us : List V} {xs : List Value}, fR (jO h n) l = some us → LRel S w ρ l xs → LRel (mf S ρ h) w ρ0 us xs := fun {l} => by
   induction l with
   | nil => intro us xs e hx; simp only [fR, Option.some.injEq] at e; subst e; simpa only [LRel] using hx
   | cons v r ih =>
    intro us xs e hx
    simp only [fR] at e
    split at e
    ·rename_i u hu
     split at e
     ·rename_i l hl
      injection e with e; subst e
      simp only [LRel] at hx ⊢
      obtain ⟨y, ys, rfl, h1, h2⟩ := hx
      exact ⟨y, ys, rfl, pE hr n hu h1, ih hl h2⟩
     ·cases e
    ·cases e
  have ihC : ∀ {sz : Nat} {l us : List V} {xs : List Value}, fR (jO h n) l = some us → CRel S w ρ sz l xs → CRel (mf S ρ h) w ρ0 sz us xs := fun {sz l} => by
   induction l with
   | nil => intro us xs e hx; simp only [fR, Option.some.injEq] at e; subst e; simpa only [CRel] using hx
   | cons v r ih =>
    intro us xs e hx
    simp only [fR] at e
    split at e
    ·rename_i u hu
     split at e
     ·rename_i l hl
      injection e with e; subst e
      simp only [CRel] at hx ⊢
      obtain ⟨y, ys, rfl, h0, h1, h2⟩ := hx
      exact ⟨y, ys, rfl, h0, pE hr n hu h1, ih hl h2⟩
     ·cases e
    ·cases e
  have pur : ∀ v : V, v.pure = true → VRel S w ρ v x → VRel (mf S ρ h) w ρ0 v x := fun v hp hx => VRel.up xg (hx.pure (ρ' := ρ0) hp)
  simp only [jO] at e
  split at e
  ·rename_i id
   split at e
   ·rename_i et sz els ho
    split at e
    ·rename_i l hl
     injection e with e; subst e
     simp only [VRel] at hx
     obtain ⟨v, xs, h1, h2, h3⟩ := eK hr ho
     rw [hx.1] at h1
     cases h1
     obtain ⟨A, c, rfl, hc, hcm⟩ := cp h2
     have hlen := qO hl
     simp only [VRel]
     refine ⟨A, c, xs, by rw [hlen], by rw [hlen]; exact hc, hcm, ihC hl h3, by rw [hlen]; exact h3.length, fun hn => ?_⟩
     rw [hlen] at hn ⊢
     obtain ⟨g, cap, hv, _, hlt⟩ := h2.form hn
     injection hv with e1 e2 e3
     subst e1 e3
     exact ⟨g, 0, rfl, .inr ⟨id, by rw [ho]; exact ⟨_, hx.1, rfl⟩⟩, hlt, fun j hj => by rw [Nat.zero_add]; exact kc h2 hj⟩
    ·cases e
   ·cases e
  ·split at e
   ·rename_i l hl
    injection e with e; subst e
    simp only [VRel] at hx ⊢
    obtain ⟨xs, rfl, h1⟩ := hx
    exact ⟨xs, rfl, ihL hl h1⟩
   ·cases e
  ·split at e
   ·rename_i hp
    injection e with e; subst e
    exact pur _ hp hx
   ·cases e
theorem qV (hr : HRel S w ρ h) {n : Nat} : ∀ {l us : List V} {xs : List Value}, fR (jO h n) l = some us → LRel S w ρ l xs → LRel (mf S ρ h) w ρ0 us xs
 | [], us, xs, e, hx => by simp only [fR, Option.some.injEq] at e; subst e; simpa only [LRel] using hx
 | v :: r, us, xs, e, hx => by
  simp only [fR] at e
  split at e
  ·rename_i u hu
   split at e
   ·rename_i l hl
    injection e with e; subst e
    simp only [LRel] at hx ⊢
    obtain ⟨y, ys, rfl, h1, h2⟩ := hx
    exact ⟨y, ys, rfl, pE hr n hu h1, qV hr hl h2⟩
   ·cases e
  ·cases e
end
theorem wL {P : Program} {T : Tab} (hT : TabOk P T) (hm : P.follows .mixedOrders = true) {k n : Nat} {fid : FuncId} {vs rs us0 us : List V} {H1 : Hp} (hp : pureL vs = true) (hq : (fQ us).pure = true) (h : qX T k fid vs ⟨0, []⟩ = some (rs, H1)) (hd : fR (jO H1.get n) rs = some us0) (hc : ∀ {S w ys}, LRel S w ρ0 us0 ys → LRel S w ρ0 us ys) : kl P fid vs (fQ us) := ⟨hp, hq, fun S w ρ xs hr hx => by
 refine (uc hT hm h hr hx).2.mono fun e w' hR => ?_
 obtain ⟨S', ρ', ys, rfl, hr', hi, hl⟩ := hR
 have hno : ∀ b, ¬ ∃ id, own ρ id ((⟨0, []⟩ : Hp).get id) b := fun b ⟨id, hb⟩ => by rw [dZ] at hb; exact hb
 have hk : ∀ b, mf S' ρ' H1.get b → S b ∨ w.heap.size ≤ b := fun b hb => by
  rcases hb with hb | ⟨id, hb⟩
  ·rcases hi.s1 b hb with h | h | h
   ·exact .inl h
   ·exact absurd h (hno b)
   ·exact .inr h
  ·rcases hi.ow id b hb with h | h
   ·exact absurd h (hno b)
   ·exact .inr h
 have hup : Up S' (mf S' ρ' H1.get) w' w' ρ0 ρ0 := xg
 refine ⟨_, mf S' ρ' H1.get, ρ, fQ us, ⟨0, []⟩, rfl, rfl, ⟨fun i => ?_, fun i b hb => ?_, fun i j b hb _ => ?_, hr'.slt.up hup fun b hb => ?_⟩, ⟨hi.chg, fun b hb => .inl (hi.s0 b hb), fun b hb => (hk b hb).elim .inl fun h => .inr (.inr h), fun id b hb => ?_, fun id x h => ?_⟩, (pR (hc (qV hr' hd hl))).up up0⟩
 ·have := hr.ob i; rw [dZ] at this ⊢; exact this
 ·rw [dZ] at hb; exact hb.elim
 ·rw [dZ] at hb; exact hb.elim
 ·rcases hb with hb | ⟨id, hb⟩
  ·exact hr'.slt b hb
  ·exact cD (hr'.ob id) hb
 ·rw [dZ] at hb; exact hb.elim
 ·simp only [kn] at h
  split at h
  ·exact h
  ·cases h⟩
theorem vP (t : Tree) (q : List Int) : pureL [.agg (ao t), .row 1 (q.map (V.int .i64))] = true := rfl
theorem tx (u : Tree) : (fQ [.agg (ao u), .bool true]).pure = true := rfl
noncomputable def fnA : List (Nat × Func) := [(18, Tryz.f18), (29, Tryz.f29), (30, Tryz.f30), (53, Tryz.f53), (54, Tryz.f54)]
theorem AW : ∀ i f, fW fnA i = some f → Tryz.prog.funcs[i]? = some f ∧ aU Tryz.prog i = true := sL ⟨⟨Tryz.func18, by kernel_rfl⟩, ⟨Tryz.func29, by kernel_rfl⟩, ⟨Tryz.func30, by kernel_rfl⟩, ⟨Tryz.func53, by kernel_rfl⟩, ⟨Tryz.func54, by kernel_rfl⟩, trivial⟩
noncomputable def AS : Tab := ⟨true, fW tyL, fW fnA, vb, fun _ => true⟩
theorem zt : TabOk Tryz.prog AS := ⟨sG, AW, tY.nat⟩
noncomputable def vK (k : Nat) (t : Tree) (q : List Int) (u : Tree) : Bool := match qX AS k 18 [.agg (ao t), .row 1 (q.map (V.int .i64))] ⟨0, []⟩ with
 |some (rs, H1) => match fR (jO H1.get 30) rs with
  | some [v, .bool b] => treeB u v && b
  | _ => false
 | none => false
theorem zR {k : Nat} {t u : Tree} {q : List Int} (h : vK k t q u = true) : ie t q u true := by
 unfold vK at h
 split at h
 ·rename_i rs H1 h1
  split at h
  ·rename_i v b h2
   simp only [Bool.and_eq_true] at h
   obtain ⟨h3, rfl⟩ := h
   refine wL (us := [.agg (ao u), .bool true]) zt (by kernel_rfl) (vP t q) (tx u) h1 h2 fun {S w ys} hl => ?_
   simp only [LRel] at hl ⊢
   obtain ⟨x, _, rfl, hv, y, _, rfl, hb, rfl⟩ := hl
   obtain ⟨c, rfl, hT⟩ := treeB_ok h3 hv
   exact ⟨_, _, rfl, by simp only [VRel]; exact ⟨_, rfl, hT.vrel⟩, _, _, rfl, hb, rfl⟩
  ·cases h
 ·cases h
theorem wh {l : List ae} (hl : l.length ≤ 19) (hs : ∀ (i : Nat) (a b : ae), l[i]? = some a → l[i + 1]? = some b → ∃ n, dh b a n ∧ ¬ n < 0) : bv l 0 (l.length : Nat) l := by
 have loop : ∀ k i, 1 ≤ i → (k + i = l.length ∨ (k = 0 ∧ l.length ≤ i)) → i ≤ 21 → aZ (2 * k + 1) 0 (l.length : Nat) (i : Nat) l l := fun k => by
  induction k with
  | zero => intro i h1 h2 h3; exact dN 0 _ _ _ _ _ (⟨fun h => absurd h (by omega), fun _ => rfl⟩)
  | succ k ih =>
   intro i h1 h2 h3
   obtain ⟨j, rfl⟩ : ∃ j, i = j + 1 := ⟨i - 1, by omega⟩
   obtain ⟨a, ha⟩ : ∃ a, l[j]? = some a := ⟨_, List.getElem?_eq_getElem (by omega)⟩
   obtain ⟨b, hb⟩ : ∃ b, l[j + 1]? = some b := ⟨_, List.getElem?_eq_getElem (by omega)⟩
   obtain ⟨n, hn, hn0⟩ := hs j a b ha hb
   refine dN (2 * k + 2) _ _ _ _ _ (⟨fun _ => ?_, fun h => absurd (by omega) h⟩)
   refine ig (2 * k + 1) _ _ _ _ _ _ (⟨fun _ => ⟨j + 1, rfl, b, hb, ⟨by omega, by omega⟩, j, by omega, a, ha, n, hn, fun h => absurd h hn0, fun _ => ⟨⟨by omega, by omega⟩, ?_⟩⟩, fun h => absurd (by omega) h⟩)
   have := ih (j + 2) (by omega) (by omega) (by omega)
   rw [show (((j + 1 : Nat) : Int) + 1) = ((j + 2 : Nat) : Int) by omega]
   exact this
 refine iz (2 * (l.length - 1) + 1) _ _ _ _ (⟨⟨by omega, by omega⟩, ?_⟩)
 have := loop (l.length - 1) 1 (by omega) (by omega) (by omega)
 simpa using this
theorem oc {l : List ae} (hl : l.length ≤ 19) (hs : ∀ (i : Nat) (a b : ae), l[i]? = some a → l[i + 1]? = some b → ∃ n, dh b a n ∧ ¬ n < 0) : aW l l := by
 refine jX 0 _ _ (⟨l, ?_, rfl⟩)
 refine kE 2 _ _ _ (?_)
 exact kg 1 _ _ _ _ _ (⟨fun h => absurd h (by omega), fun _ => ⟨l, wh hl hs, ky 0 _ _ _ _ (⟨fun h => absurd h (by omega), fun _ => rfl⟩)⟩⟩)
theorem pU : aW [] [] := oc (by simp) fun i a b h => (by simp at h)
theorem wB (a : ae) : aW [a] [a] := oc (by simp) fun i x b _ h => (by simp at h)
theorem yT (a b : Int) : ff a b (if a < b then -1 else if b < a then 1 else 0) := by
 have hn : ∀ z, jk z false := fun z => qW 0 _ _ (by simp)
 refine pN 0 _ _ _ (⟨_, hn a, _, hn b, fun h => (by cases h), fun _ => ⟨fun h => (by cases h), fun _ => ⟨fun h => ?_, fun h => ⟨fun h' => ?_, fun h' => ?_⟩⟩⟩⟩)
 ·rw [if_pos h]
 ·rw [if_neg h, if_pos h']
 ·rw [if_neg h, if_neg h']
theorem xq {a b : ae} {x y : Int} {p q : List Int} (hm : a.At.Module = b.At.Module) (ha : a.At.Path = x :: p) (hb : b.At.Path = y :: q) (hxy : y < x) : dh a b 1 := by
 have h0 := yT a.At.Module b.At.Module
 rw [hm, if_neg (by omega), if_neg (by omega)] at h0
 have h1 := yT x y
 rw [if_neg (by omega), if_pos hxy] at h1
 refine mG 0 _ _ _ (⟨0, by rw [hm]; exact h0, fun h => absurd rfl h, fun _ => ⟨1, ?_, fun _ => rfl, fun h => absurd h (by decide)⟩⟩)
 rw [ha, hb]
 exact nM 1 _ _ _ (na 0 _ _ _ _ (⟨fun _ => ⟨x, rfl, fun h => absurd h (by simp), fun _ => ⟨y, rfl, 1, h1, fun _ => rfl, fun h => absurd h (by decide)⟩⟩, fun h => absurd (by simp) h⟩))
def po (f : Tree) : Bool := shapeK f && (f.kind == 2) && ((f.kids.take (f.kids.length - 2)).all fun u => (leafK (dp u 0)).kind != 9) && ((leafK (dp f (f.kids.length - 2))).kind != 9)
def lJ (p : List Tree) : Bool := p.all fun t => (t.kind == 1) && shapeK t && t.kids.all po
theorem xN {f : Tree} (h : po f = true) : FunOk f := by
 simp only [po, Bool.and_eq_true, beq_iff_eq, List.all_eq_true, bne_iff_ne, ne_eq] at h
 obtain ⟨⟨⟨h1, h2⟩, h3⟩, h4⟩ := h
 refine ⟨h1, h2, fun i u hu hi => h3 u ?_, h4⟩
 have : (f.kids.take (f.kids.length - 2))[i]? = some u := by rw [List.getElem?_take, if_pos (by omega)]; exact hu
 exact List.mem_of_getElem? this
theorem nc {p : List Tree} (h : lJ p = true) : ProgOk p := by
 simp only [lJ, List.all_eq_true, Bool.and_eq_true, beq_iff_eq] at h
 exact ⟨fun m t ht => (h t (List.mem_of_getElem? ht)).1, fun m t d f ht hf => xN ((h t (List.mem_of_getElem? ht)).2 f (List.mem_of_getElem? hf))⟩
structure Known (p : List Tree) : Prop where
 ok : lJ p = true
 b : kbulk p ≤ 10000000
 u : uNs p ≤ (bl p).length
theorem Known.errs {p : List Tree} (k : Known p) {r : List ae} (hs : aW (dC p 0 []).fa r) : br p r := xX (nc k.ok) k.b k.u hs
def AN : List UInt8 := [109, 111, 100, 117, 108, 101, 32, 77, 32, 100, 101, 102, 32, 102, 40, 41, 58, 32, 73, 110, 116, 32, 61, 32, 49, 32, 43, 32, 34, 97, 34, 32, 100, 101, 102, 32, 103, 40, 120, 58, 32, 66, 111, 111, 108, 41, 58, 32, 73, 110, 116, 32, 61, 32, 105, 102, 32, 120, 32, 116, 104, 101, 110, 32, 49, 32, 101, 108, 115, 101, 32, 103, 40, 41]
def jy : Tree := (Ap AN).1
theorem Ab : nE jy (sW ve 10000 14 [.str AN]) = true := by kernel_rfl
theorem wM : Known [jy] := ⟨by decide +kernel, by decide +kernel, by decide +kernel⟩
theorem Ax : (dC [jy] 0 []).fa = [⟨⟨0, [0, 1, 1]⟩, 6⟩, ⟨⟨0, [1, 2, 2]⟩, 3⟩] := by kernel_rfl
theorem qP : (dC [jy] 0 [0, 1]).rs = 5 ∧ (dC [jy] 0 [0, 1]).rl = 0 := ⟨by kernel_rfl, by kernel_rfl⟩
def Bm : Tree := (atK jy [0, 1]).getD (.node 0 [] [] [])
theorem AH : dn Bm.kind = true := by decide +kernel
theorem Ad : vK 4000 jy [0, 1] Bm = true := by kernel_rfl
theorem xu : hW true := by
 have k := wM
 have e1 : br [jy] [⟨⟨0, [0, 1, 1]⟩, 6⟩, ⟨⟨0, [1, 2, 2]⟩, 3⟩] := k.errs (by
  rw [Ax]
  refine oc (by simp) fun i a b ha hb => ?_
  match i, ha, hb with
  | 0, ha, hb =>
   simp only [List.getElem?_cons_zero, Option.some.injEq, List.getElem?_cons_succ] at ha hb
   subst ha hb
   exact ⟨1, xq rfl rfl rfl (by decide), by decide⟩
  | n + 1, ha, hb => simp at hb)
 have e2 := AB (m := 0) (q := [0, 1]) (nc k.ok) k.b k.u rfl (zR Ad) AH qP.2
 have e3 : ofK [jy] ((0 : Nat) : Int) [0, 1] = (.node 5 [] [] [], 0) := by
  unfold ofK
  rw [show (dC [jy] ((0 : Nat) : Int) [0, 1]).rs = 5 from qP.1, show (dC [jy] ((0 : Nat) : Int) [0, 1]).rl = 0 from qP.2]
  rfl
 rw [e3] at e2
 exact lp 0 _ (⟨jy, 0, 0, zm Ab, _, e1, _, _, e2, fun _ => ⟨fun _ => ⟨fun _ => ⟨fun _ => ⟨_, rfl, fun _ => ⟨_, rfl, _, lU _, fun _ => ⟨_, rfl, fun _ => ⟨_, rfl, _, lU _, rfl⟩, fun h => absurd rfl h⟩, fun h => (by cases h)⟩, fun h => absurd rfl h⟩, fun h => absurd rfl h⟩, fun h => absurd rfl h⟩, fun h => absurd rfl h⟩, fun h => absurd rfl h⟩)
theorem vw : dI true := xu
theorem sU {a n : Int} (hn : 0 < n) (hn2 : n ≤ 1000000000) : ∃ r, dA a n r ∧ 0 ≤ r ∧ r < n := by
 have h1 := Int.tmod_lt_of_pos a hn
 have h2 : -n < Int.tmod a n := by
  have := Int.tmod_lt_of_pos (-a) hn
  rw [Int.neg_tmod] at this; omega
 by_cases h : Int.tmod a n < 0
 ·exact ⟨Int.tmod a n + n, jD 0 _ _ _ (⟨by omega, fun _ => ⟨⟨by omega, by omega⟩, rfl⟩, fun h' => absurd h h'⟩), by omega, by omega⟩
 ·exact ⟨Int.tmod a n, jD 0 _ _ _ (⟨by omega, fun h' => absurd h' h, fun _ => rfl⟩), by omega, by omega⟩
def aJ (k : Int) (b : Tree) : List Tree := [.node 1 [77] [] [.node 2 [102] [] [.node 4 [120] [] [.node 5 [] [] []], .node 5 [] [] [], .node 12 [120] [] []], .node 2 [103] [] [.node 4 [120] [] [.node 5 [] [] []], .node k [] [] [], b]]]
theorem sv (k : Int) (b : Tree) : cZ k b (aJ k b) := lx 0 _ _ _ (rfl)
inductive It where
 | seq (c : Code)
 | blk (id : Nat)
inductive Pt where
 | code (c : Code)
 | ops (all : Array Oper) (rest : List Oper)
 | ex (e : Exit)
def stk (P : Program) (Q : Exit → Act → World → Prop) : List It → Exit → Act → World → Prop
 | [] => Q
 | .seq c :: s => Exit.then (c.wp P (stk P Q s)) (stk P Q s)
 | .blk id :: s => Exit.inBlock id (stk P Q s)
def Pt.wp (P : Program) (Q : Exit → Act → World → Prop) (p : Pt) (s : List It) (a : Act) (w : World) : Prop :=
 match p with
 | .code c => c.wp P (stk P Q s) a w
 | .ops all rest => wpList P all (stk P Q s) rest a w
 | .ex e => stk P Q s e a w
def ri (b : Bool) : Option Value := match b with | true => some (.bool true) | false => some (.bool false)
def uH (ft : Nat → Nat → Option Nat) (f : Nat → Option Value) (op : Op) : Option Value :=
 match op with
 | .move x => aq f x
 | .assign x => aq f x
 |.pick c x y => match aq f c with
  | some (.bool true) => aq f x
  | some (.bool false) => aq f y
  | _ => none
 |.nilCheck x => match aq f x with
  | some (.pointer (some p)) => some (.pointer (some p))
  | _ => none
 |.extract x i => match aq f x with
  | some (.tuple vs) => vs[i]?
  | _ => none
 |.unOp .not _ x => match aq f x with
  | some (.bool b) => ri (!b)
  | _ => none
 |.fieldAddr t x i => match aq f x with
  |some (.pointer (some ⟨b, o, none⟩)) => match ft t i with
   | some k => some (.pointer (some ⟨b, o + k, none⟩))
   | none => none
  | _ => none
 |.binOp .eql _ x y _ => match aq f x with
  |some (.int k m) => match aq f y with
   | some (.int k' l) => if k = k' then ri (m == l) else none
   | _ => none
  | _ => none
 |.binOp .neq _ x y _ => match aq f x with
  |some (.int k m) => match aq f y with
   | some (.int k' l) => if k = k' then ri (m != l) else none
   | _ => none
  | _ => none
 | _ => none
def pn (ft : Nat → Nat → Option Nat) (n : Nat) (all : Array Oper) (o : Oper) (f : Nat → Option Value) : Option (Nat → Option Value) :=
 match cw f all o.guard with
 |true => match uH ft f o.op with
  |some v => match cf o.dst n with
   | true => some (upo f o.dst v)
   | false => none
  | none => none
 |false => match kI f all o.guard with
  |true => match cf o.dst n with
   | true => some (upo f o.dst undef)
   | false => none
  | false => none
def dy (ft : Nat → Nat → Option Nat) (n : Nat) : Nat → Pt → List It → (Nat → Option Value) → Option (Pt × List It × (Nat → Option Value))
 | 0, p, s, f => some (p, s, f)
 |k + 1, .code c, s, f => match c with
  | .seq x y => dy ft n k (.code x) (.seq y :: s) f
  | .block id c => dy ft n k (.code c) (.blk id :: s) f
  | .skip => dy ft n k (.ex .normal) s f
  | .ret => dy ft n k (.ex .ret) s f
  | .exit id => dy ft n k (.ex (.exit id)) s f
  |.cond c x y => match aq f c with
   | some (.bool true) => dy ft n k (.code x) s f
   | some (.bool false) => dy ft n k (.code y) s f
   | _ => none
  | .region _ ⟨l⟩ false => dy ft n k (.ops ⟨l⟩ l) s f
  | _ => none
 |k + 1, .ops all rest, s, f => match rest with
  | [] => dy ft n k (.ex .normal) s f
  |o :: r => match pn ft n all o f with
   | some f' => dy ft n k (.ops all r) s f'
   | none => none
 |k + 1, .ex e, s, f => match s with
  | [] => none
  |.seq c :: s => match e with
   | .normal => dy ft n k (.code c) s f
   | .exit i => dy ft n k (.ex (.exit i)) s f
   | .ret => dy ft n k (.ex .ret) s f
   | _ => none
  |.blk id :: s => match e with
   | .normal => dy ft n k (.ex .normal) s f
   |.exit i => match Nat.beq i id with
    | true => dy ft n k (.ex .normal) s f
    | false => dy ft n k (.ex (.exit i)) s f
   | .ret => dy ft n k (.ex .ret) s f
   | _ => none
section
variable {P : Program} {Q : Exit → Act → World → Prop} {a : Act} {w w' : World} {n : Nat} {f f' : Nat → Option Value} {ft : Nat → Nat → Option Nat} {p p' : Pt} {s s' : List It}
theorem mY {b : Bool} {v : Value} (h : ri b = some v) : v = .bool b := by cases b <;> simp [ri] at h <;> exact h.symm
theorem tf (hft : ∀ t i k, ft t i = some k → di P t i = some k) {op : Op} {v : Value} {ty : TypeId} (h : Fr a n f) (hv : uH ft f op = some v) : Runs P a ty op w (.value v) w := by
 unfold uH at hv
 split at hv
 ·exact ny h hv
 ·exact mM h hv
 ·split at hv
  ·exact qM h ‹_› hv
  ·exact sq h ‹_› hv
  ·cases hv
 ·split at hv
  ·injection hv with hv; subst hv; exact pu h ‹_›
  ·cases hv
 ·split at hv
  ·exact pw h ‹_› hv
  ·cases hv
 ·split at hv
  ·rw [mY hv]; exact wY h ‹_› rfl
  ·cases hv
 ·split at hv
  ·split at hv
   ·injection hv with hv; subst hv; exact qy h ‹_› (hft _ _ _ ‹_›) rfl
   ·cases hv
  ·cases hv
 ·split at hv
  ·split at hv
   ·split at hv
    ·rename_i e; subst e; rw [mY hv]; exact wH h ‹_› ‹_› rfl
    ·cases hv
   ·cases hv
  ·cases hv
 ·split at hv
  ·split at hv
   ·split at hv
    ·rename_i e; subst e; rw [mY hv]; exact ws h ‹_› ‹_› rfl
    ·cases hv
   ·cases hv
  ·cases hv
 ·cases hv
theorem xV (hft : ∀ t i k, ft t i = some k → di P t i = some k) {all : Array Oper} {o : Oper} {rest : List Oper} {Q : Exit → Act → World → Prop} (h : Fr a n f) (hs : pn ft n all o f = some f') (k : ∀ a', Fr a' n f' → wpList P all Q rest a' w) : wpList P all Q (o :: rest) a w := by
 obtain ⟨d, op, ty, ps, af, g⟩ := o
 unfold pn at hs
 dsimp only at hs
 split at hs
 ·split at hs
  ·split at hs
   ·injection hs with hs; subst hs
    exact yt h ‹_› ‹_› (tf hft h ‹_›) k
   ·cases hs
  ·cases hs
 ·split at hs
  ·split at hs
   ·injection hs with hs; subst hs
    exact CL h ‹_› ‹_› k
   ·cases hs
  ·cases hs
theorem bJ (hft : ∀ t i k, ft t i = some k → di P t i = some k) : ∀ (k : Nat) (p : Pt) (s : List It) (f : Nat → Option Value) (a : Act), Fr a n f → dy ft n k p s f = some (p', s', f') → (∀ a', Fr a' n f' → Pt.wp P Q p' s' a' w) → Pt.wp P Q p s a w
 | 0, p, s, f, a, h, hr, kk => by
  simp only [dy, Option.some.injEq, Prod.mk.injEq] at hr
  obtain ⟨rfl, rfl, rfl⟩ := hr
  exact kk a h
 | k + 1, .code c, s, f, a, h, hr, kk => by
  unfold dy at hr
  split at hr
  ·exact wp_seq (bJ hft k _ (.seq _ :: s) f a h hr kk)
  ·exact wp_block (bJ hft k _ (.blk _ :: s) f a h hr kk)
  ·exact wp_skip (bJ hft k _ s f a h hr kk)
  ·exact wp_ret (bJ hft k _ s f a h hr kk)
  ·exact wp_exit (bJ hft k _ s f a h hr kk)
  ·split at hr
   ·exact oh h ‹_› (bJ hft k _ s f a h hr kk)
   ·exact od h ‹_› (bJ hft k _ s f a h hr kk)
   ·cases hr
  ·exact wp_region_lit (bJ hft k _ s f a h hr kk)
  ·cases hr
 | k + 1, .ops all rest, s, f, a, h, hr, kk => by
  unfold dy at hr
  split at hr
  ·have ih := bJ hft k _ _ f a h hr kk
   exact (wA ih : wpList P all (stk P Q s) [] a w)
  ·split at hr
   ·exact xV hft h ‹_› (fun a' h' => bJ hft k _ s _ a' h' hr kk)
   ·cases hr
 | k + 1, .ex e, s, f, a, h, hr, kk => by
  unfold dy at hr
  split at hr
  ·cases hr
  ·split at hr
   ·have ih := bJ hft k _ _ f a h hr kk
    exact ih
   ·have ih := bJ hft k _ _ f a h hr kk
    exact ih
   ·have ih := bJ hft k _ _ f a h hr kk
    exact ih
   ·cases hr
  ·split at hr
   ·have ih := bJ hft k _ _ f a h hr kk
    exact ih
   ·split at hr
    ·rename_i hb
     have := Nat.eq_of_beq_eq_true hb
     subst this
     have := bJ hft k _ _ f a h hr kk
     simp only [Pt.wp, stk, Exit.inBlock, if_true] at this ⊢
     exact this
    ·rename_i hb
     have hne := Nat.ne_of_beq_eq_false hb
     have := bJ hft k _ _ f a h hr kk
     simp only [Pt.wp, stk, Exit.inBlock, if_neg hne] at this ⊢
     exact this
   ·have ih := bJ hft k _ _ f a h hr kk
    exact ih
   ·cases hr
end
def ftG : List (Nat × Nat × Nat) → Nat → Nat → Option Nat
 | [], _, _ => none
 |(t, i, k) :: r, t', i' => match Nat.beq t t' with
  |true => match Nat.beq i i' with
   | true => some k
   | false => ftG r t' i'
  | false => ftG r t' i'
def ftB (P : Program) : List (Nat × Nat × Nat) → Bool
 | [] => true
 | (t, i, k) :: r => (di P t i == some k) && ftB P r
theorem sK {P : Program} : ∀ (l : List (Nat × Nat × Nat)), ftB P l = true → ∀ t i k, ftG l t i = some k → di P t i = some k
 | [], _, _, _, _, h => by cases h
 | (t0, i0, k0) :: r, hb, t, i, k, h => by
  simp only [ftB, Bool.and_eq_true, beq_iff_eq] at hb
  simp only [ftG] at h
  split at h
  ·rename_i e1
   split at h
   ·rename_i e2
    have := Nat.eq_of_beq_eq_true e1
    have := Nat.eq_of_beq_eq_true e2
    subst_vars
    rw [hb.1]; exact h
   ·exact sK r hb.2 t i k h
  ·exact sK r hb.2 t i k h
section
variable {P : Program} {Q : Exit → Act → World → Prop} {a : Act} {w w' : World} {n : Nat} {f f' : Nat → Option Value} {p p' : Pt} {s s' : List It} {all : Array Oper} {rest : List Oper} {d : Option Tmp} {op : Op} {ty : TypeId} {ps : String} {af : Array Edge} {g : Option (Nat × Bool)} {v : Value}
theorem rV (h : Fr a n f) (hw : (cw f all g && cf d n) = true) (he : Runs P a ty op w (.value v) w') (k : ∀ a', Fr a' n (upo f d v) → Pt.wp P Q (.ops all rest) s a' w') : Pt.wp P Q (.ops all (⟨d, op, ty, ps, af, g⟩ :: rest)) s a w := yt h (Bool.and_eq_true_iff.1 hw).1 (Bool.and_eq_true_iff.1 hw).2 he k
theorem rS (h : Fr a n f) (hw : (cw f all g && cf d n) = true) (he : Runs P a ty op w .skip w') (k : ∀ a', Fr a' n (upo f d undef) → Pt.wp P Q (.ops all rest) s a' w') : Pt.wp P Q (.ops all (⟨d, op, ty, ps, af, g⟩ :: rest)) s a w := CV h (Bool.and_eq_true_iff.1 hw).1 (Bool.and_eq_true_iff.1 hw).2 he k
theorem rC {fid : FuncId} {args : List Operand} {tys : Array TypeId} {vs : List Value} {R : Ending → World → Prop} (h : Fr a n f) (hw : (cw f all g && cf d n) = true) (hv : jh f args = some vs) (he : aU P fid = true)
 (hC : Calls P fid vs.toArray w R) (k : ∀ e w', R e w' → ∃ v, e = .returned v ∧ ∀ a', Fr a' n (upo f d v) → Pt.wp P Q (.ops all rest) s a' w') :
 Pt.wp P Q (.ops all (⟨d, .call { callee := .value (.func fid), args := args.toArray, argTypes := tys }, ty, ps, af, g⟩ :: rest)) s a w := CN h (Bool.and_eq_true_iff.1 hw).1 (Bool.and_eq_true_iff.1 hw).2 hv he hC k
theorem rL {c : Code} (I : Nat → Act → World → Prop) (n₀ : Nat) (h₀ : I n₀ a w) (round : ∀ n a w, I n a w → Pt.wp P (Exit.then (fun a' w' => ∃ n', n' < n ∧ I n' a' w') (stk P Q s)) (.code c) [] a w) : Pt.wp P Q (.code (.loop c)) s a w := wp_loop_ghost I n₀ h₀ round
theorem rX {K : Act → World → Prop} (h : K a w) : Pt.wp P (Exit.then K Q) (.ex .normal) [] a w := h
theorem rO {K : Act → World → Prop} {i : Nat} (h : Pt.wp P Q (.ex (.exit i)) s a w) : Pt.wp P (Exit.then K (stk P Q s)) (.ex (.exit i)) [] a w := h
theorem rD {id : Nat} {l : List Oper} (S : World → Prop) (m sz : Nat) (hsz : l.length = sz) (hm : P.follows .mixedOrders = true) (hs : Region.noSelect l.toArray = true)
 (k : ∀ w', Chg [] w w' → Region.noSelect l.toArray = true → wpAnyL P .any l.toArray (NoPanic (stk P Q s)) S m sz (Array.replicate sz false) a w') : Pt.wp P Q (.code (.region id l.toArray true)) s a w := xy S m sz hsz hm hs k
theorem rN {S : World → Prop} {m fuel : Nat} {listed : Array Bool} (hr : Region.ready .any all listed = []) (k : Pt.wp P Q (.ex .normal) s a w) : wpAnyL P .any all (NoPanic (stk P Q s)) S m fuel listed a w := zz hr k
theorem rE {fid : FuncId} {fn : Func} {c : Code} {args : List Value} {R : Ending → World → Prop} (N : Nat) (hf : P.funcs[fid]? = some fn) (hb : fn.body = some c) (hN : fn.ntmps = N) (hl : Nat.ble args.length N = true)
 (k : ∀ a, Fr a N (fun i => args[i]?) → Pt.wp P (bodyPost P fn R) (.code c) [] a w) : Calls P fid args.toArray w R := xK N hf hb hN hl k
theorem rT {fn : Func} {R : Ending → World → Prop} {rs : List ResultVar} {vs : List Value} (h : Fr a n f) (hr : fn.results = rs.toArray) (hv : jc P f w rs vs) (hR : R (.returned (iC vs)) w) : Pt.wp P (bodyPost P fn R) (.ex .ret) [] a w := ret_of h hr hv hR
theorem rF {fn : Func} {R : Ending → World → Prop} {rs : List ResultVar} {vs : List Value} (h : Fr a n f) (hr : fn.results = rs.toArray) (hv : jc P f w rs vs) (hR : R (.returned (iC vs)) w) : Pt.wp P (bodyPost P fn R) (.ex .normal) [] a w := AE h hr hv hR
end
def vv (ops : Array Oper) (m : Nat) : List Nat → Array Bool → Bool
 | [], _ => true
 | i :: r, l => (!(Nat.beq i m) && Region.free .any ops l i && (Region.ready .any ops l).contains i) && vv ops m r (l.setIfInBounds i true)
def yv : List Nat → Array Bool → Array Bool
 | [], l => l
 | i :: r, l => yv r (l.setIfInBounds i true)
def rg (ft : Nat → Nat → Option Nat) (n : Nat) (ops : Array Oper) : List Nat → (Nat → Option Value) → Option (Nat → Option Value)
 | [], f => some f
 |i :: r, f => match ops[i]? with
  |some o => match pn ft n ops o f with
   | some f' => rg ft n ops r f'
   | none => none
  | none => none
theorem yl {l : Array Bool} {i m : Nat} (h : Nat.beq i m = false) (hm : l.getD m false = true) : (l.setIfInBounds i true).getD m false = true := by
 have hne : i ≠ m := Nat.ne_of_beq_eq_false h
 rw [Array.getD_eq_getD_getElem?] at hm ⊢
 rw [Array.getElem?_setIfInBounds, if_neg hne]; exact hm
theorem yU {P : Program} {Q : Exit → Act → World → Prop} {w : World} {n : Nat} {f' : Nat → Option Value} {ops : Array Oper} {S : World → Prop} {m : Nat} {ft : Nat → Nat → Option Nat} (hft : ∀ t i k, ft t i = some k → di P t i = some k) (hs : Region.noSelect ops = true) : ∀ (is : List Nat) (fuel : Nat) (listed : Array Bool) (f : Nat → Option Value) (a : Act), vv ops m is listed = true → Fr a n f → rg ft n ops is f = some f' → (S w ∨ listed.getD m false = true) → (∀ a', Fr a' n f' → wpAnyL P .any ops (NoPanic Q) S m fuel (yv is listed) a' w) → wpAnyL P .any ops (NoPanic Q) S m (fuel + is.length) listed a w
 | [], fuel, listed, f, a, hc, h, hr, hS, k => by
  simp only [rg, Option.some.injEq] at hr
  subst hr; exact k a h
 | i :: r, fuel, listed, f, a, hc, h, hr, hS, k => by
  simp only [vv, Bool.and_eq_true, Bool.not_eq_true'] at hc
  obtain ⟨⟨⟨h1, h2⟩, h3⟩, h4⟩ := hc
  unfold rg at hr
  split at hr
  ·rename_i o ho
   obtain ⟨d, op, ty, ps, af, g⟩ := o
   split at hr
   ·rename_i f1 hf1
    have hS' : S w ∨ (listed.setIfInBounds i true).getD m false = true := hS.imp id (yl h1)
    have go : ∀ a', Fr a' n f1 → wpAnyL P .any ops (NoPanic Q) S m (fuel + r.length) (listed.setIfInBounds i true) a' w := fun a' h' => yU hft hs r fuel _ f1 a' h4 h' hr hS' k
    show wpAnyL P .any ops (NoPanic Q) S m (fuel + r.length + 1) listed a w
    unfold pn at hf1
    dsimp only at hf1
    split at hf1
    ·split at hf1
     ·rename_i v hv
      split at hf1
      ·injection hf1 with e; subst e
       exact dl_v i h1 ho hs h2 h3 h ‹_› ‹_› hS (fun w' => tf hft h hv) go
      ·cases hf1
     ·cases hf1
    ·split at hf1
     ·split at hf1
      ·injection hf1 with e; subst e
       exact CQ i h1 ho hs h2 h3 h ‹_› ‹_› hS go
      ·cases hf1
     ·cases hf1
   ·cases hr
  ·cases hr
abbrev zT : List Value := [.int .i64 0, .string ⟨([] : List UInt8).toArray⟩, .slice none 0 0, .slice none 0 0]
theorem Chg.t0 {X : List Nat} {w w1 w2 : World} (h : Chg X w w1) (k : Chg [] w1 w2) : Chg X w w2 := h.trans k Bp
theorem Chg.n1 {X : List Nat} {w w1 w2 : World} {c : Nat} (h : Chg X w w1) (k : Chg [c] w1 w2) (g : w.heap.size ≤ c) : Chg X w w2 := h.trans k (allc (.inr g) Bp)
section
variable {w w1 : World} {b c : Nat} {t : TypeId} {cs : List Value}
theorem Blk.c0 (h : Blk w b t cs) (hx : Chg [] w w1) : Blk w1 b t cs := h.chg hx nm0
end
theorem eT (a : Act) (w : World) (ty : TypeId) : ∃ w' b, Runs Tryz.prog a ty (.alloc 29) w (.value (.pointer (some ⟨b, 0, none⟩))) w' ∧ Blk w' b 29 zT ∧ Chg [] w w' ∧ b = w.heap.size ∧ b < w'.heap.size := rk zT (by kernel_rfl) a w ty
section
variable {a : Act} {w : World} {n : Nat} {f : Nat → Option Value} {tb : TypeId} {b o : Nat} {v : Value} {vs cs : List Value}
theorem eN (x y : Operand) (h : Fr a n f) (hx : aq f x = some (.pointer (some ⟨b, 0, none⟩))) (hy : aq f y = some (.agg vs.toArray)) (hv : vs.length = 4) (hone : vs.all (·.oneCell') = true) (hb : Blk w b tb cs) (hm : cs.length = 4) (ty : TypeId) :
 ∃ w', Runs Tryz.prog a ty (.store 29 x y) w .skip w' ∧ Blk w' b tb vs ∧ Chg [b] w w' := wa (m := 4) h hx hy (by kernel_rfl) hv hone hb hm ty
theorem eS (t : TypeId) (x y : Operand) (h : Fr a n f) (hx : aq f x = some (.pointer (some ⟨b, o, none⟩))) (hy : aq f y = some v) (hz : bq Tryz.prog t = some 1) (h1 : v.oneCell' = true) (hb : Blk w b tb cs) (ho : Nat.ble (o + 1) cs.length = true) (ty : TypeId) :
 ∃ w', Runs Tryz.prog a ty (.store t x y) w .skip w' ∧ Blk w' b tb (cs.set o v) ∧ Chg [b] w w' := ss h hx hy hz h1 hb (Nat.le_of_ble_eq_true ho) ty
end
theorem dL {Q : Exit → Act → World → Prop} {a : Act} {w : World} {n : Nat} {f : Nat → Option Value} {ops : Array Oper} {d : Option Tmp} {op : Op} {ty : TypeId} {ps : String} {af : Array Edge} {g : Option (Nat × Bool)} {v : Value} {P : Program} {S : World → Prop} {m fuel : Nat} {listed : Array Bool} (i : Nat) (him : Nat.beq i m = false) (hi : ops[i]? = some ⟨d, op, ty, ps, af, g⟩) (hs : Region.noSelect ops = true) (hf : (fq .any ops m i && !listed.getD m false && Region.free .any ops listed i && (Region.ready .any ops listed).contains i) = true)
  (h : Fr a n f) (hw : (cw f ops g && cf d n) = true) (hS : S w) (he : ∀ w', S w' → Runs P a ty op w' (.value v) w')
  (k : ∀ a', Fr a' n (upo f d v) → wpAnyL P .any ops (NoPanic Q) S m fuel (listed.setIfInBounds i true) a' w) : wpAnyL P .any ops (NoPanic Q) S m (fuel + 1) listed a w := by
 simp only [Bool.and_eq_true, Bool.not_eq_true'] at hf
 exact CY i him hf.1.1.1 hf.1.1.2 hi hs hf.1.2 hf.2 h (Bool.and_eq_true_iff.1 hw).1 (Bool.and_eq_true_iff.1 hw).2 hS he k
abbrev wR := @wp_region_lit
abbrev wS := @wp_seq_k
abbrev sN := @wA
abbrev cdT := @oh
abbrev cdF := @od
abbrev nlt := @Nat.le_trans
theorem qA {α : Type} [BEq α] [LawfulBEq α] {a b : α} : (a == b) = false ↔ a ≠ b := beq_eq_false_iff_ne
theorem qB {α : Type} [BEq α] [LawfulBEq α] {a b : α} : (a == b) = true ↔ a = b := beq_iff_eq
theorem qC {α : Type} [BEq α] [LawfulBEq α] {a b : α} : (a != b) = true ↔ a ≠ b := bne_iff_ne
theorem qD {α : Type} [BEq α] [LawfulBEq α] {a b : α} : (a != b) = false ↔ a = b := bne_eq_false_iff_eq
theorem qE {p : Prop} [Decidable p] : (decide p = true) ↔ p := decide_eq_true_iff
theorem qF {p : Prop} [Decidable p] : (decide p = false) ↔ ¬ p := decide_eq_false_iff_not
section
variable {P : Program} {ops : Array Oper} {Q : Exit → Act → World → Prop} {a : Act} {w w' : World} {rest : List Oper} {n : Nat} {f : Nat → Option Value} {ty : TypeId} {d : Option Tmp} {op : Op} {ps : String} {af : Array Edge} {g : Option (Nat × Bool)} {v : Value} {x : Operand}
theorem sV (h : Fr a n f) (hw : (cw f ops g && cf d n) = true) (he : Runs P a ty op w (.value v) w') (k : ∀ a', Fr a' n (upo f d v) → wpList P ops Q rest a' w') : wpList P ops Q (⟨d, op, ty, ps, af, g⟩ :: rest) a w := yt h (Bool.and_eq_true_iff.1 hw).1 (Bool.and_eq_true_iff.1 hw).2 he k
theorem sA (h : Fr a n f) (hw : (cw f ops g && cf d n) = true) (hx : aq f x = some v) (k : ∀ a', Fr a' n (upo f d v) → wpList P ops Q rest a' w) : wpList P ops Q (⟨d, .assign x, ty, ps, af, g⟩ :: rest) a w := sV h hw (mM h hx) k
theorem sM (h : Fr a n f) (hw : (cw f ops g && cf d n) = true) (hx : aq f x = some v) (k : ∀ a', Fr a' n (upo f d v) → wpList P ops Q rest a' w) : wpList P ops Q (⟨d, .move x, ty, ps, af, g⟩ :: rest) a w := sV h hw (ny h hx) k
variable {S : World → Prop} {m fuel : Nat} {listed : Array Bool}
theorem dV (i : Nat) (him : Nat.beq i m = false) (hi : ops[i]? = some ⟨d, op, ty, ps, af, g⟩) (hs : Region.noSelect ops = true) (hf : (Region.free .any ops listed i && (Region.ready .any ops listed).contains i) = true)
    (h : Fr a n f) (hw : (cw f ops g && cf d n) = true) (hS : S w ∨ listed.getD m false = true) (he : ∀ w', Runs P a ty op w' (.value v) w')
    (k : ∀ a', Fr a' n (upo f d v) → wpAnyL P .any ops (NoPanic Q) S m fuel (listed.setIfInBounds i true) a' w) : wpAnyL P .any ops (NoPanic Q) S m (fuel + 1) listed a w :=
  dl_v i him hi hs (Bool.and_eq_true_iff.1 hf).1 (Bool.and_eq_true_iff.1 hf).2 h (Bool.and_eq_true_iff.1 hw).1 (Bool.and_eq_true_iff.1 hw).2 hS he k
theorem dM (i : Nat) (him : Nat.beq i m = false) (hi : ops[i]? = some ⟨d, .move x, ty, ps, af, g⟩) (hs : Region.noSelect ops = true) (hf : (Region.free .any ops listed i && (Region.ready .any ops listed).contains i) = true)
    (h : Fr a n f) (hw : (cw f ops g && cf d n) = true) (hS : S w) (hx : aq f x = some v)
    (k : ∀ a', Fr a' n (upo f d v) → wpAnyL P .any ops (NoPanic Q) S m fuel (listed.setIfInBounds i true) a' w) : wpAnyL P .any ops (NoPanic Q) S m (fuel + 1) listed a w :=
  dV i him hi hs hf h hw (.inl hS) (fun _ => ny h hx) k
end
abbrev TT : TypeId := 29
mutual
def NestC (w : World) : Nat → Nat → Tree → List Value → Prop
 | lo, hi, .node k s _ ks, c => ∃ B n g cs, c = [.int .i64 k, ch s, .slice none 0 0, .slice B ks.length n] ∧ ks.length ≤ n ∧ n ≤ maxLen ∧ lo ≤ hi ∧ (ks ≠ [] → B = some ⟨g, 0, none⟩ ∧ lo ≤ g ∧ g < hi ∧ Blk w g TT cs) ∧ NestK w (g + 1) hi ks cs
def NestK (w : World) : Nat → Nat → List Tree → List Value → Prop
 | lo, hi, [], cs => cs = []
 | lo, hi, t :: r, cs => ∃ c d mid, cs = c ++ d ∧ lo ≤ mid ∧ mid ≤ hi ∧ NestC w lo mid t c ∧ NestK w mid hi r d
end
section
variable {w w' : World}
theorem kz {b : Nat} {t : TypeId} {cs : List Value} (h : w'.heap[b]? = w.heap[b]?) (k : Blk w b t cs) : Blk w' b t cs := h.trans k
mutual
theorem NestC.keep : ∀ {lo hi : Nat} {t : Tree} {c : List Value}, (∀ x, lo ≤ x → x < hi → w'.heap[x]? = w.heap[x]?) → NestC w lo hi t c → NestC w' lo hi t c
 | lo, hi, .node k s ls ks, c, hk, h => by
  simp only [NestC] at h ⊢
  obtain ⟨B, n, g, cs, e, h1, h2, h3, h4, h5⟩ := h
  by_cases hn : ks = []
  ·subst hn
   exact ⟨B, n, g, cs, e, h1, h2, h3, fun h => absurd rfl h, by simpa only [NestK] using h5⟩
  ·obtain ⟨e1, e2, e3, e4⟩ := h4 hn
   exact ⟨B, n, g, cs, e, h1, h2, h3, fun _ => ⟨e1, e2, e3, kz (hk g e2 e3) e4⟩, NestK.keep (fun x h1 h2 => hk x (by omega) h2) h5⟩
theorem NestK.keep : ∀ {lo hi : Nat} {ts : List Tree} {cs : List Value}, (∀ x, lo ≤ x → x < hi → w'.heap[x]? = w.heap[x]?) → NestK w lo hi ts cs → NestK w' lo hi ts cs
 | lo, hi, [], cs, hk, h => by simpa only [NestK] using h
 | lo, hi, t :: r, cs, hk, h => by
  simp only [NestK] at h ⊢
  obtain ⟨c, d, mid, e, h1, h2, h3, h4⟩ := h
  exact ⟨c, d, mid, e, h1, h2, NestC.keep (fun x g1 g2 => hk x g1 (by omega)) h3, NestK.keep (fun x g1 g2 => hk x (by omega) g2) h4⟩
end
theorem NestC.lo_ {lo lo' hi : Nat} {t : Tree} {c : List Value} (h : NestC w lo hi t c) (hl : lo' ≤ lo) : NestC w lo' hi t c := by
 obtain ⟨k, s, ls, ks⟩ := t
 simp only [NestC] at h ⊢
 obtain ⟨B, n, g, cs, e, h1, h2, h3, h4, h5⟩ := h
 exact ⟨B, n, g, cs, e, h1, h2, by omega, fun hn => by obtain ⟨e1, e2, e3, e4⟩ := h4 hn; exact ⟨e1, by omega, e3, e4⟩, h5⟩
theorem NestC.le {lo hi : Nat} {t : Tree} {c : List Value} (h : NestC w lo hi t c) : lo ≤ hi := by
 obtain ⟨k, s, ls, ks⟩ := t
 simp only [NestC] at h
 obtain ⟨B, n, g, cs, e, h1, h2, h3, h4, h5⟩ := h
 exact h3
theorem NestC.four {lo hi : Nat} {t : Tree} {c : List Value} (h : NestC w lo hi t c) : c.length = 4 := by
 obtain ⟨k, s, ls, ks⟩ := t
 simp only [NestC] at h
 obtain ⟨B, n, g, cs, e, _⟩ := h
 rw [e]; rfl
theorem NestC.one {lo hi : Nat} {t : Tree} {c : List Value} (h : NestC w lo hi t c) : c.all (·.oneCell') = true := by
 obtain ⟨k, s, ls, ks⟩ := t
 simp only [NestC] at h
 obtain ⟨B, n, g, cs, e, _⟩ := h
 rw [e]; rfl
theorem NestK.length : ∀ {ts : List Tree} {lo hi : Nat} {cs : List Value}, NestK w lo hi ts cs → cs.length = ts.length * 4
 | [], lo, hi, cs, h => by simp only [NestK] at h; simp [h]
 | t :: r, lo, hi, cs, h => by
  simp only [NestK] at h
  obtain ⟨c, d, mid, e, h1, h2, h3, h4⟩ := h
  have := NestK.length h4
  have := h3.four
  rw [e]; simp; omega
theorem NestK.hi_ : ∀ {ts : List Tree} {lo hi hi' : Nat} {cs : List Value}, NestK w lo hi ts cs → hi ≤ hi' → NestK w lo hi' ts cs
 | [], lo, hi, hi', cs, h, hl => by simpa only [NestK] using h
 | t :: r, lo, hi, hi', cs, h, hl => by
  simp only [NestK] at h ⊢
  obtain ⟨c, d, mid, e, h1, h2, h3, h4⟩ := h
  exact ⟨c, d, mid, e, h1, by omega, h3, NestK.hi_ h4 hl⟩
theorem NestK.snoc : ∀ {ts : List Tree} {lo mid hi : Nat} {cs c : List Value} {t : Tree}, NestK w lo mid ts cs → NestC w mid hi t c → lo ≤ mid → mid ≤ hi → NestK w lo hi (ts ++ [t]) (cs ++ c)
 | [], lo, mid, hi, cs, c, t, h, hc, h1, h2 => by
  simp only [NestK] at h
  subst h
  simp only [List.nil_append, NestK]
  exact ⟨c, [], hi, by simp, by omega, Nat.le_refl _, hc.lo_ h1, rfl⟩
 | u :: r, lo, mid, hi, cs, c, t, h, hc, h1, h2 => by
  simp only [NestK] at h
  obtain ⟨c', d, m, e, g1, g2, g3, g4⟩ := h
  simp only [List.cons_append, NestK]
  exact ⟨c', d ++ c, m, by rw [e]; simp, g1, by omega, g3, NestK.snoc g4 hc g2 h2⟩
end
section
variable {P : Program} {a : Act} {w : World} {n : Nat} {f : Nat → Option Value} {S : Nat → Prop}
theorem zD {x y : Operand} {A : Option Addr} {m : Nat} {ls : List (List UInt8)} {t e : TypeId} {by_ : Nat} {z : Value} (h : Fr a n f) (hx : aq f x = some (.slice none 0 0)) (hy : aq f y = some (.slice A ls.length m)) (hrow : RowIn S w 1 A ls.length (ls.map ch)) (hl : ls.length ≤ 1000000000)
  (ht : P.underlying t = some (.slice e)) (hi : (P.info? e).map (fun i => (i.zero, i.size, i.bytes)) = some (some z, 1, by_)) (hzs : z.cells.size = 1) (hb : Nat.ble by_ 64 = true) (ty : TypeId) :
  ∃ A' m' w', Runs P a ty (.call { callee := .builtin .append, args := #[x, y], argTypes := #[t, t] }) w (.value (.slice A' ls.length m')) w' ∧ ls.length ≤ m' ∧ m' ≤ maxLen ∧ RowIn (fun b => w.heap.size ≤ b) w' 1 A' ls.length (ls.map ch) ∧ Chg [] w w' := by
 have hb' : by_ ≤ 64 := Nat.le_of_ble_eq_true hb
 obtain ⟨i0, hi0, hx0⟩ := Option.map_eq_some_iff.1 hi
 simp only [Prod.mk.injEq] at hx0
 obtain ⟨hz, hs, hbb⟩ := hx0
 have hsize : bq P e = some 1 := by simp [bq, hi0, hs]
 by_cases hn : ls = []
 ·subst hn
  refine ⟨none, 0, w, fun _ _ _ _ => ?_, Nat.le_refl _, Nat.zero_le _, RowIn.none_, Chg.refl _ _⟩
  simp only [execOp, resolve, invoke, builtin, List.map_toArray, List.map_cons, List.map_nil, h.eval hx, h.eval hy]
  have := kO (P := P) (w := w) (ty := ty) (A := none) (B := A) (k := 0) (c := 0) (d := m) ht hsize (Nat.le_refl _)
  simp only [List.length_nil]
  simp [this]
 ·have hpos : 0 < ls.length := List.length_pos_iff.2 hn
  obtain ⟨b, off, rfl, _, _, hc⟩ := hrow.2 hpos
  have hlen : (ls.map ch).length = ls.length * 1 := by simp
  have h63 : 0 + ls.length ≤ maxLen := by simp only [maxLen]; omega
  have hby : (0 + ls.length) * by_ ≤ 140737488355328 := by
   have := Nat.mul_le_mul hl hb'
   rw [Nat.zero_add]; omega
  obtain ⟨v', w', hrun, h2, h3, _, h5⟩ := run_append_own_at (P := P) w w.heap.size t ty e i0 z 1 by_ ht hi0 hz hs hbb hzs (by omega) (.slice none 0 0) 0 [] (World.ownsRow_nil w _ e 1) ⟨b, off, none⟩ ls.length m (ls.map ch) hlen
   (fun j q hq => by
    have hj : j < (ls.map ch).length := (List.getElem?_eq_some_iff.1 hq).1
    rw [fH, hc j (by rw [← hlen]; exact hj)]; exact hq) (fun u hu => by simp only [List.mem_map] at hu; obtain ⟨_, _, rfl⟩ := hu; rfl) h63 hby (Nat.le_refl _)
  rw [Nat.zero_add] at h2
  rw [List.nil_append] at h2
  obtain ⟨A', m', rfl, hm1, hm2⟩ := wZ h2
  refine ⟨A', m', w', fun _ _ _ _ => ?_, hm1, hm2, RowIn.of_own h2, Chg.grown h3⟩
  simp only [execOp, resolve, invoke, builtin, List.map_toArray, List.map_cons, List.map_nil, h.eval hx, h.eval hy]
  simp [hrun]
end
theorem xW {pre post : List Value} {x0 x1 x2 x3 u : Value} : (pre ++ [x0, x1, x2, x3] ++ post).set (pre.length + 2) u = pre ++ [x0, x1, u, x3] ++ post := by
 rw [List.append_assoc, List.set_append_right _ _ (by omega)]
 simp
theorem sh (pre post : List Value) (x0 x1 x2 x3 : Value) : (pre ++ [x0, x1, x2, x3] ++ post)[pre.length + 3]? = some x3 := by
 rw [List.append_assoc, List.getElem?_append_right (by omega)]
 simp
section
variable {P : Program}
theorem we {a : Act} {w : World} {n : Nat} {f : Nat → Option Value} {t tb : TypeId} {x y : Operand} {b o m : Nat} {vs pre old post : List Value} (h : Fr a n f) (hx : aq f x = some (.pointer (some ⟨b, o, none⟩))) (hy : aq f y = some (.agg vs.toArray)) (hz : bq P t = some m) (hv : vs.length = m) (hone : vs.all (·.oneCell') = true) (hb : Blk w b tb (pre ++ old ++ post)) (hp : pre.length = o) (hm : old.length = m) (ty : TypeId) :
  ∃ w', Runs P a ty (.store t x y) w .skip w' ∧ Blk w' b tb (pre ++ vs ++ post) ∧ Chg [b] w w' := by
 obtain ⟨i, hi, hs⟩ := Option.map_eq_some_iff.1 (show (P.info? t).map (·.size) = some m from hz)
 subst hp
 have key : ∀ (l : List Value) (j : Nat) (w : World) (cs : List Value), Blk w b tb cs → pre.length + j + l.length ≤ cs.length → l.all (·.oneCell') = true → ∃ w', (storeCells ⟨b, pre.length, none⟩ l j).run P w = .ok () w' ∧ Blk w' b tb (cs.take (pre.length + j) ++ l ++ cs.drop (pre.length + j + l.length)) ∧ Chg [b] w w' := by
  intro l
  induction l with
  | nil => intro j w cs hb hj _; exact ⟨w, by simp [storeCells], by simpa using hb, Chg.refl _ _⟩
  | cons c r ih =>
   intro j w cs hb hj hone
   simp only [List.all_cons, Bool.and_eq_true] at hone
   simp only [List.length_cons] at hj
   have ho : pre.length + j < cs.length := by omega
   have hc : w.cell? ⟨b, pre.length + j, none⟩ = some cs[pre.length + j] := by rw [hb.cell]; simp [ho]
   have hfz := hb.frozen (pre.length + j)
   have ha : (⟨b, pre.length, none⟩ : Addr).add j = ⟨b, pre.length + j, none⟩ := fH _ _ _
   obtain ⟨w2, h1, h2, h3⟩ := ih (j + 1) (w.setCell ⟨b, pre.length + j, none⟩ c) (cs.set (pre.length + j) c) (hb.set _ c) (by simp; omega) hone.2
   refine ⟨w2, ?_, ?_, (Chg.set w b _ c).trans h3 (fun x hx => .inl hx)⟩
   ·simp only [storeCells, ha]
    have hst := run_store P w ⟨b, pre.length + j, none⟩ c .plain hone.1
    simp [hst, stored, hc, hfz]
    exact h1
   ·have e1 : (cs.set (pre.length + j) c).take (pre.length + (j + 1)) = cs.take (pre.length + j) ++ [c] := by
     rw [← Nat.add_assoc, List.take_succ_eq_append_getElem (by simpa using ho), List.take_set_of_le (Nat.le_refl _)]
     simp
    have e2 : (cs.set (pre.length + j) c).drop (pre.length + (j + 1) + r.length) = cs.drop (pre.length + j + (r.length + 1)) := by
     rw [List.drop_set_of_lt (by omega)]; congr 1; omega
    rw [e1, e2] at h2
    simpa using h2
 obtain ⟨w1, h1, h2, h3⟩ := key vs 0 w _ hb (by simp; omega) hone
 have e1 : (pre ++ old ++ post).take (pre.length + 0) = pre := by simp
 have e2 : (pre ++ old ++ post).drop (pre.length + 0 + vs.length) = post := by
  have : pre.length + 0 + vs.length = (pre ++ old).length := by simp; omega
  rw [this]; simp
 rw [e1, e2] at h2
 refine ⟨w1, fun _ _ _ _ => ?_, h2, h3⟩
 simp only [execOp, h.eval hx, h.eval hy]
 simp [Instr.storeAt, Instr.sureAddr, storeVar, sizeOf, typeInfo, hi, hs, hv, Value.cells, h1]
end
def rn (ft : Nat → Nat → Option Nat) (n : Nat) : Nat → Pt → List It → (Nat → Option Value) → Pt × List It × (Nat → Option Value)
 | 0, p, s, f => (p, s, f)
 |k + 1, p, s, f => match dy ft n 1 p s f with
  | some (p', s', f') => rn ft n k p' s' f'
  | none => (p, s, f)
def ftR : Nat → Nat → Option Nat := ftG [(TT, 3, 3), (TT, 2, 2), (TT, 1, 1), (TT, 0, 0)]
theorem wN : ∀ t i k, ftR t i = some k → di Tryz.prog t i = some k := sK _ (by kernel_rfl)
section
variable {Q : Exit → Act → World → Prop} {a : Act} {w : World} {n : Nat} {f f' : Nat → Option Value} {p p' : Pt} {s s' : List It}
theorem tJ : ∀ (k : Nat) (p : Pt) (s : List It) (f : Nat → Option Value) (a : Act), Fr a n f → rn ftR n k p s f = (p', s', f') → (∀ a', Fr a' n f' → Pt.wp Tryz.prog Q p' s' a' w) → Pt.wp Tryz.prog Q p s a w
 | 0, p, s, f, a, h, hr, kk => by
  simp only [rn, Prod.mk.injEq] at hr
  obtain ⟨rfl, rfl, rfl⟩ := hr
  exact kk a h
 | k + 1, p, s, f, a, h, hr, kk => by
  simp only [rn] at hr
  split at hr
  ·rename_i p1 s1 f1 he
   exact bJ wN 1 p s f a h he fun a' h' => tJ k p1 s1 f1 a' h' hr kk
  ·simp only [Prod.mk.injEq] at hr
   obtain ⟨rfl, rfl, rfl⟩ := hr
   exact kk a h
theorem rG (k : Nat) (h : Fr a n f) (hr : rn ftR n k p s f = (p', s', f')) (kk : ∀ a', Fr a' n f' → Pt.wp Tryz.prog Q p' s' a' w) : Pt.wp Tryz.prog Q p s a w := tJ k p s f a h hr kk
theorem dG {fuel c : Nat} {ops : Array Oper} {S : World → Prop} {m : Nat} {listed : Array Bool} (is : List Nat) (hs : Region.noSelect ops = true) (hc : vv ops m is listed = true) (h : Fr a n f) (hl : is.length = c) (hr : rg ftR n ops is f = some f') (hS : S w ∨ listed.getD m false = true) (k : ∀ a', Fr a' n f' → wpAnyL Tryz.prog .any ops (NoPanic Q) S m fuel (yv is listed) a' w) : wpAnyL Tryz.prog .any ops (NoPanic Q) S m (fuel + c) listed a w := by
 subst hl; exact yU wN hs is fuel listed f a hc h hr hS k
end
theorem wT {S : Nat → Prop} {w : World} {ks : List Tree} {cs : List Value} {i : Nat} (hK : KidsAre S w ks cs) (hi : i < ks.length) : ∃ d0 d1 d2 d3, TreeIs S w ks[i] [d0, d1, d2, d3] ∧ ∀ j, j < 4 → cs[i * 4 + j]? = ([d0, d1, d2, d3] : List Value)[j]? := by
 obtain ⟨c0, c1, c2, c3, hT, h0, h1, h2, h3⟩ := hK.at_ hi
 refine ⟨c0, c1, c2, c3, hT, fun j hj => ?_⟩
 rcases (by omega : j = 0 ∨ j = 1 ∨ j = 2 ∨ j = 3) with rfl | rfl | rfl | rfl
 ·exact h0
 ·exact h1
 ·exact h2
 ·exact h3
theorem ry {ks : List Tree} {i : Nat} (hi : i < ks.length) : tbulk ks[i] ≤ kbulk ks := co (List.getElem?_eq_getElem hi)
def rc (t : Tree) : Prop := ∀ (w : World) (b : Nat) (pre c post ct : List Value) (lo hi : Nat) (Sf : Nat → Prop), tbulk t ≤ 1000000000 →
 Blk w b TT (pre ++ c ++ post) → NestC w lo hi t c → ¬ (lo ≤ b ∧ b < hi) → hi ≤ w.heap.size → TreeIs Sf w t ct → (∀ x, Sf x → x ≠ b ∧ ¬ (lo ≤ x ∧ x < hi)) →
 Calls Tryz.prog 54 #[.pointer (some ⟨b, pre.length, none⟩), .agg ct.toArray] w fun e w' => e = .returned (.tuple #[]) ∧ ∃ c', Blk w' b TT (pre ++ c' ++ post) ∧ ChgP (fun x => x = b ∨ (lo ≤ x ∧ x < hi)) w w' ∧ TreeIs (fun x => (lo ≤ x ∧ x < hi) ∨ w.heap.size ≤ x) w' t c'
def sd (t : Tree) : Prop := ∀ (w : World) (S : Nat → Prop) (ct : List Value), tbulk t ≤ 1000000000 → TreeIs S w t ct →
 Calls Tryz.prog 53 #[.agg ct.toArray] w fun e w' => ∃ c, e = .returned (.agg c.toArray) ∧ Chg [] w w' ∧ NestC w' w.heap.size w'.heap.size t c
theorem wg (t : Tree) (ih : ∀ (i : Nat) (u : Tree), t.kids[i]? = some u → sd u) : sd t := by
  obtain ⟨k, s, ls, ks⟩ := t
  intro w S ct hbk hT
  simp only [TreeIs] at hT
  obtain ⟨A, m, B', n', rfl, hm1, hm2, hm3, hm4, hA, kcs, hKT, hKR⟩ := hT
  simp only [Tree.kids] at ih
  simp only [tbulk] at hbk
  have hkl := du ks
  refine rE 36 Tryz.func53 rfl rfl rfl ?_
  intro a hf
  refine rG 60 hf rfl ?_
  clear hf a; intro a hf
  obtain ⟨w1, b1, he, hB1, hx1, e1, l1⟩ := pq (P := Tryz.prog) (t := TT) (x := (.tmp 0)) hf rfl rfl w 0
  refine rV hf rfl he ?_
  clear he hf a; intro a hf
  obtain ⟨w2, b2, he, hB2, hx2, e2, l2⟩ := eT a w1 0
  refine rV hf rfl he ?_
  clear he hf a; intro a hf
  replace hB1 := hB1.c0 hx2
  refine rG 60 hf rfl ?_
  clear hf a; intro a hf
  refine rV hf rfl (dD hf rfl (by kernel_rfl) hB1 rfl) ?_
  clear hf a; intro a hf
  refine rG 60 hf rfl ?_
  clear hf a; intro a hf
  refine rV hf rfl (dD hf rfl (by kernel_rfl) hB1 rfl) ?_
  clear hf a; intro a hf
  refine rV hf rfl (CE (z := zT) (os := [0, 1]) (cs := [.int .i64 k, ch s, .slice none 0 0, .slice none 0 0]) hf rfl (by kernel_rfl) (by kernel_rfl) (by kernel_rfl) rfl rfl) ?_
  clear hf a; intro a hf
  obtain ⟨w3, b3, he, hB3, hx3, e3, l3⟩ := eT a w2 0
  refine rV hf rfl he ?_
  clear he hf a; intro a hf
  replace hB1 := hB1.c0 hx3
  replace hB2 := hB2.c0 hx3
  obtain ⟨w4, he, hB3', hx4⟩ := eN (.tmp 3) (.tmp 10) hf rfl rfl rfl rfl hB3 rfl 0
  refine rS hf rfl he ?_
  clear he hf a; intro a hf
  clear hB3; have hB3 := hB3'
  clear hB3'
  have s1 := hx1.size
  have s2 := hx2.size
  have s3 := hx3.size
  have s4 := hx4.size
  replace hB1 := hB1.chg hx4 (by simp; omega)
  replace hB2 := hB2.chg hx4 (by simp; omega)
  have hC : Chg [] w w4 := ((hx1.t0 hx2).t0 hx3).n1 hx4 (by omega)
  clear hx1 hx2 hx3 hx4
  refine rG 60 hf rfl ?_
  clear hf a; intro a hf
  refine rV hf rfl (dD hf rfl (by kernel_rfl) hB1 rfl) ?_
  clear hf a; intro a hf
  refine rV hf rfl (jp hf Tryz.underlying27 rfl) ?_
  clear hf a; intro a hf
  have hfin : ∀ (B : Option Addr) (nn g : Nat) (cs : List Value) (w' : World), Chg [] w w' → ks.length ≤ nn → nn ≤ maxLen → (ks ≠ [] → B = some ⟨g, 0, none⟩ ∧ w.heap.size ≤ g ∧ g < w'.heap.size ∧ Blk w' g TT cs) → NestK w' (g + 1) w'.heap.size ks cs → NestC w' w.heap.size w'.heap.size (.node k s ls ks) [.int .i64 k, ch s, .slice none 0 0, .slice B ks.length nn] := fun B nn g cs w' h1 h2 h3 h4 h5 => by
    simp only [NestC]
    exact ⟨B, nn, g, cs, rfl, h2, h3, h1.size, h4, h5⟩
  by_cases hk0 : ks = []
  · skip
    subst hk0
    refine rV hf rfl (qJ (c := false) hf rfl rfl (by simp)) ?_
    clear hf a; intro a hf
    refine rG 60 hf rfl ?_
    clear hf a; intro a hf
    refine rV hf rfl (dD hf rfl (by kernel_rfl) hB1 rfl) ?_
    clear hf a; intro a hf
    refine rV hf rfl (jp hf Tryz.underlying27 rfl) ?_
    clear hf a; intro a hf
    refine rG 60 hf rfl ?_
    clear hf a; intro a hf
    refine rL (fun m a w' => m = 0 ∧ w' = w4 ∧ Fr a 36 (fm [(2, .pointer (some ⟨b2, 0, none⟩)), (3, .pointer (some ⟨b3, 0, none⟩)), (22, .int .i64 ((0 : Nat) : Int)), (23, .int .i64 0)])) 0 ⟨rfl, rfl, hf.pick ⟨rfl, rfl, rfl, rfl, trivial⟩⟩ ?_
    clear hf a
    rintro _ a _ ⟨rfl, rfl, hf⟩
    refine rG 60 hf rfl ?_
    clear hf a; intro a hf
    refine rV hf rfl (lK (c := false) hf rfl rfl (by simp)) ?_
    clear hf a; intro a hf
    refine rG 60 hf rfl ?_
    clear hf a; intro a hf
    refine rO ?_
    refine rG 60 hf rfl ?_
    clear hf a; intro a hf
    refine rV hf rfl (hO (m := 4) hf rfl (by kernel_rfl) hB3 rfl) ?_
    clear hf a; intro a hf
    obtain ⟨w9, he, hB2', hx9⟩ := eN (.tmp 2) (.tmp 35) hf rfl rfl rfl rfl hB2 rfl 0
    refine rS hf rfl he ?_
    clear he hf a; intro a hf
    refine rG 60 hf rfl ?_
    clear hf a; intro a hf
    exact rT (rs := [.cell 2 TT]) hf rfl ⟨_, _, _, _, _, rfl, rfl, by kernel_rfl, hB2', rfl, rfl⟩ ⟨_, rfl, hC.n1 hx9 (by omega), hfin none 0 0 [] w9 (hC.n1 hx9 (by omega)) (Nat.le_refl _) (Nat.zero_le _) (fun h => absurd rfl h) (by simp only [NestK])⟩
  have hpos : 0 < ks.length := List.length_pos_iff.2 hk0
  obtain ⟨kb, ko, rfl, hkS, hkb, hcell⟩ := hKR.2 hpos
  refine rV hf rfl (qJ (c := true) hf rfl rfl (by simp; omega)) ?_
  clear hf a; intro a hf
  refine rG 60 hf rfl ?_
  clear hf a; intro a hf
  refine rV hf rfl (dD hf rfl (by kernel_rfl) hB1 rfl) ?_
  clear hf a; intro a hf
  refine rV hf rfl (jp hf Tryz.underlying27 rfl) ?_
  clear hf a; intro a hf
  obtain ⟨C, hCd⟩ : ∃ C, C = (madeCells (Value.agg zT.toArray).cells (ks.length * 4)).toList := ⟨_, rfl⟩
  have hCl : C.length = ks.length * 4 := by rw [hCd, Array.length_toList, size_madeCells]
  obtain ⟨w5, g, he, hG, hx5, eg, lg⟩ := tM (P := Tryz.prog) (x := .tmp 17) (y := .tmp 17) (t := 27) (e := TT) (m := ks.length) (z := .agg zT.toArray) (sz := 4) (by_ := 72) (cs := C) hf rfl rfl Tryz.underlying27 (by kernel_rfl) (Nat.ble_eq_true_of_le (by omega)) (Nat.ble_eq_true_of_le (by omega)) (by rw [hCd]) w4 0
  refine rV hf rfl he ?_
  clear he hf a; intro a hf
  replace hB1 := hB1.c0 hx5
  replace hB2 := hB2.c0 hx5
  replace hB3 := hB3.c0 hx5
  refine rG 60 hf rfl ?_
  clear hf a; intro a hf
  obtain ⟨w6, he, hB3', hx6⟩ := eS 27 (.tmp 19) (.tmp 18) hf rfl rfl (by kernel_rfl) rfl hB3 rfl 0
  refine rS hf rfl he ?_
  clear he hf a; intro a hf
  clear hB3; have hB3 := hB3'
  clear hB3'
  have s5 := hx5.size
  have s6 := hx6.size
  replace hB1 := hB1.chg hx6 (by simp; omega)
  replace hB2 := hB2.chg hx6 (by simp; omega)
  replace hG := hG.chg hx6 (by simp; omega)
  replace hC : Chg [] w w6 := (hC.t0 hx5).n1 hx6 (by omega)
  clear hx5 hx6
  refine rG 60 hf rfl ?_
  clear hf a; intro a hf
  refine rV hf rfl (dD hf rfl (by kernel_rfl) hB1 rfl) ?_
  clear hf a; intro a hf
  refine rV hf rfl (jp hf Tryz.underlying27 rfl) ?_
  clear hf a; intro a hf
  refine rG 60 hf rfl ?_
  clear hf a; intro a hf
  have hg0 : w.heap.size ≤ g := by omega
  have hgb : g ≠ b2 ∧ g ≠ b3 ∧ b2 ≠ b3 := by omega
  have hl2 : w.heap.size ≤ b2 := by omega
  have hl3 : w.heap.size ≤ b3 := by omega
  have hlg : g + 1 ≤ w6.heap.size := hG.lt
  refine rL (fun m a w' => ∃ (i : Nat) (done rest : List Value) (mi : Nat), m = ks.length - i ∧ i ≤ ks.length ∧ Fr a 36 (fm [(2, .pointer (some ⟨b2, 0, none⟩)), (3, .pointer (some ⟨b3, 0, none⟩)), (21, .slice (some ⟨kb, ko, none⟩) ks.length n'), (22, .int .i64 (ks.length : Nat)), (23, .int .i64 (i : Nat))]) ∧
      Chg [] w w' ∧ Blk w' b2 TT zT ∧ Blk w' b3 TT [.int .i64 k, ch s, .slice none 0 0, .slice (some ⟨g, 0, none⟩) ks.length ks.length] ∧ Blk w' g TT (done ++ rest) ∧ done.length = i * 4 ∧ rest.length = (ks.length - i) * 4 ∧ g + 1 ≤ mi ∧ mi ≤ w'.heap.size ∧ NestK w' (g + 1) mi (ks.take i) done) ks.length
    ⟨0, [], C, g + 1, by omega, Nat.zero_le _, hf.pick ⟨rfl, rfl, rfl, rfl, rfl, trivial⟩, hC, hB2, hB3, hG, rfl, by omega, Nat.le_refl _, hlg, by simp only [List.take_zero, NestK]⟩ ?_
  clear hf a hC hB1 hB2 hB3 hG hlg
  rintro _ a w7 ⟨i, done, rest, mi, rfl, hi, hf, hC, hB2, hB3, hG, hdl, hrl, hgm, hmw, hNK⟩
  by_cases hlt : i < ks.length
  · skip
    obtain ⟨d0, d1, d2, d3, hT, hK⟩ := wT hKT hlt
    have on_T := hT.one
    replace hT := hT.keepB (S' := fun x => x < w7.heap.size) (w' := w7) (fun x _ hx => Nat.lt_of_lt_of_le hx hC.size) (fun x _ hx => hC.block x hx nm0)
    have hK7 : ∀ j, j < 4 → w7.cell? ⟨kb, ko + i * 4 + j, none⟩ = ([d0, d1, d2, d3] : List Value)[j]? := fun j hj => by
      rw [hC.cell hkb nm0, Nat.add_assoc, hcell _ (by omega)]; exact hK j hj
    have htb := ry hlt
    match rest, hrl, hG with
    | [], hrl, hG => simp only [List.length_nil] at hrl; omega
    | [_], hrl, hG => simp only [List.length_cons, List.length_nil] at hrl; omega
    | [_, _], hrl, hG => simp only [List.length_cons, List.length_nil] at hrl; omega
    | [_, _, _], hrl, hG => simp only [List.length_cons, List.length_nil] at hrl; omega
    | r0 :: r1 :: r2 :: r3 :: rest, hrl, hG =>
      replace hG : Blk w7 g TT (done ++ [r0, r1, r2, r3] ++ rest) := by simpa using hG
      refine rG 60 hf rfl ?_
      clear hf a; intro a hf
      refine rV hf rfl (lK (c := true) hf rfl rfl (by simp; omega)) ?_
      clear hf a; intro a hf
      refine rG 60 hf rfl ?_
      clear hf a; intro a hf
      refine rV hf rfl (iM (sz := 4) (k := i) hf Tryz.underlying27 (by kernel_rfl) rfl rfl rfl hlt rfl) ?_
      clear hf a; intro a hf
      refine rV hf rfl (ex_loadN (cs := [d0, d1, d2, d3]) (m := 4) hf rfl (by kernel_rfl) rfl hK7) ?_
      clear hf a; intro a hf
      obtain ⟨w8, b5, he, hB5, hx8, e5, l5⟩ := eT a w7 0
      refine rV hf rfl he ?_
      clear he hf a; intro a hf
      replace hB2 := hB2.c0 hx8
      replace hB3 := hB3.c0 hx8
      replace hG := hG.c0 hx8
      replace hC := hC.t0 hx8
      have s8 := hx8.size
      replace hT := hT.keepB (S' := fun x => x < w7.heap.size) (w' := w8) (fun x hx _ => hx) (fun x _ hx => hx8.block x hx nm0)
      replace hNK := hNK.keep (w' := w8) (fun x _ hx => hx8.block x (by omega) nm0)
      refine rG 60 hf rfl ?_
      clear hf a; intro a hf
      obtain ⟨w9, he, hB5', hx9⟩ := eN (.tmp 5) (.tmp 27) hf rfl rfl rfl on_T hB5 rfl 0
      refine rS hf rfl he ?_
      clear he hf a; intro a hf
      clear hB5; have hB5 := hB5'
      clear hB5'
      have s9 := hx9.size
      have n5 : b2 ≠ b5 ∧ b3 ≠ b5 ∧ g ≠ b5 := ⟨by omega, by omega, by omega⟩
      replace hB2 := hB2.chg hx9 (by simp; omega)
      replace hB3 := hB3.chg hx9 (by simp; omega)
      replace hG := hG.chg hx9 (by simp; omega)
      replace hC := hC.n1 hx9 (by omega)
      replace hT := hT.keepB (S' := fun x => x < w7.heap.size) (w' := w9) (fun x hx _ => hx) (fun x hx1 hx => hx9.block x hx (by simp; omega))
      replace hNK := hNK.keep (w' := w9) (fun x _ hx => hx9.block x (by omega) (by simp; omega))
      refine rG 60 hf rfl ?_
      clear hf a; intro a hf
      refine rD (fun x => Blk x b3 TT [.int .i64 k, ch s, .slice none 0 0, .slice (some ⟨g, 0, none⟩) ks.length ks.length] ∧ Blk x b5 TT [d0, d1, d2, d3]) 6 7 rfl (by kernel_rfl) (by kernel_rfl) ?_
      intro w10 hx10 hsel
      replace hB2 := hB2.c0 hx10
      replace hB3 := hB3.c0 hx10
      replace hB5 := hB5.c0 hx10
      replace hG := hG.c0 hx10
      replace hC := hC.t0 hx10
      have s10 := hx10.size
      replace hT := hT.keepB (S' := fun x => x < w7.heap.size) (w' := w10) (fun x hx _ => hx) (fun x hx1 hx => hx10.block x hx nm0)
      replace hNK := hNK.keep (w' := w10) (fun x _ hx => hx10.block x (by omega) nm0)
      refine dG [0] hsel (by kernel_rfl) hf rfl rfl (.inl ⟨hB3, hB5⟩) ?_
      clear hf a; intro a hf
      refine dL 1 rfl rfl hsel (by kernel_rfl) hf rfl ⟨hB3, hB5⟩ (fun x hS => dD hf rfl (by kernel_rfl) hS.1 rfl) ?_
      clear hf a; intro a hf
      refine dG [2] hsel (by kernel_rfl) hf rfl rfl (.inl ⟨hB3, hB5⟩) ?_
      clear hf a; intro a hf
      refine dL 3 rfl rfl hsel (by kernel_rfl) hf rfl ⟨hB3, hB5⟩ (fun x hS => hO (m := 4) hf rfl (by kernel_rfl) hS.2 rfl) ?_
      clear hf a; intro a hf
      refine Az 4 (by kernel_rfl) rfl hf rfl rfl rfl (by kernel_rfl) (ih i ks[i] (List.getElem?_eq_getElem hlt) w10 _ _ (by omega) hT) ?_
      rintro _ w11 ⟨c, rfl, hx11, hN⟩
      refine ⟨_, rfl, ?_⟩
      clear hf a; intro a hf
      replace hB2 := hB2.c0 hx11
      replace hB3 := hB3.c0 hx11
      replace hB5 := hB5.c0 hx11
      replace hG := hG.c0 hx11
      replace hC := hC.t0 hx11
      have s11 := hx11.size
      replace hNK := hNK.keep (w' := w11) (fun x _ hx => hx11.block x (by omega) nm0)
      refine ⟨.inl ⟨hB3, hB5⟩, ?_⟩
      refine dV 5 rfl rfl hsel (by kernel_rfl) hf rfl (.inl ⟨hB3, hB5⟩) (fun x => iM (sz := 4) (k := i) (r := i * 4) hf Tryz.underlying27 (by kernel_rfl) rfl rfl rfl hlt (Nat.zero_add _)) ?_
      clear hf a; intro a hf
      obtain ⟨w12, he, hG', hx12⟩ := we (P := Tryz.prog) (t := TT) (x := (.tmp 33)) (y := (.tmp 32)) (m := 4) hf rfl rfl (by kernel_rfl) hN.four hN.one hG hdl rfl 0
      refine CX 6 (by kernel_rfl) rfl hf rfl rfl he ?_
      clear he hf a; intro a hf
      refine ⟨.inr (by rfl), ?_⟩
      refine rN (by kernel_rfl) ?_
      clear hG; have hG := hG'
      clear hG'
      have s12 := hx12.size
      have hGl := hG.lt
      replace hB2 := hB2.chg hx12 (by simp; omega)
      replace hB3 := hB3.chg hx12 (by simp; omega)
      replace hC := hC.n1 hx12 (by omega)
      replace hNK := hNK.keep (w' := w12) (fun x h1 h2 => hx12.block x (by omega) (by simp; omega))
      replace hN := hN.keep (w' := w12) (fun x h1 h2 => hx12.block x h2 (by simp; omega))
      have hN4 := hN.four
      refine rG 60 hf rfl ?_
      clear hf a; intro a hf
      refine rV hf rfl (ur (r := ((i + 1 : Nat) : Int)) hf rfl rfl (by simp) (by omega)) ?_
      clear hf a; intro a hf
      refine rG 60 hf rfl ?_
      clear hf a; intro a hf
      refine rX ?_
      refine ⟨ks.length - (i + 1), by omega, i + 1, done ++ c, rest, w11.heap.size, rfl, hlt, hf.pick ⟨rfl, rfl, rfl, rfl, rfl, trivial⟩, hC, hB2, hB3, hG, by rw [List.length_append, hN4]; omega, by simp only [List.length_cons] at hrl; omega, by omega, by omega, ?_⟩
      rw [List.take_succ_eq_append_getElem hlt]
      exact NestK.snoc hNK (hN.lo_ (by omega)) hgm (by omega)
  have hi' : i = ks.length := by omega
  subst hi'
  have hr0 : rest = [] := List.eq_nil_of_length_eq_zero (by omega)
  subst hr0
  rw [List.append_nil] at hG
  rw [List.take_length] at hNK
  refine rG 60 hf rfl ?_
  clear hf a; intro a hf
  refine rV hf rfl (lK (c := false) hf rfl rfl (by simp)) ?_
  clear hf a; intro a hf
  refine rG 60 hf rfl ?_
  clear hf a; intro a hf
  refine rO ?_
  refine rG 60 hf rfl ?_
  clear hf a; intro a hf
  refine rV hf rfl (hO (m := 4) hf rfl (by kernel_rfl) hB3 rfl) ?_
  clear hf a; intro a hf
  obtain ⟨w9, he, hB2', hx9⟩ := eN (.tmp 2) (.tmp 35) hf rfl rfl rfl rfl hB2 rfl 0
  refine rS hf rfl he ?_
  clear he hf a; intro a hf
  refine rG 60 hf rfl ?_
  clear hf a; intro a hf
  have s9 := hx9.size
  have hGl := hG.lt
  refine rT (rs := [.cell 2 TT]) hf rfl ⟨_, _, _, _, _, rfl, rfl, by kernel_rfl, hB2', rfl, rfl⟩ ⟨_, rfl, hC.n1 hx9 (by omega), hfin (some ⟨g, 0, none⟩) ks.length g done w9 (hC.n1 hx9 (by omega)) (Nat.le_refl _) (by simp only [maxLen]; omega) (fun _ => ⟨rfl, hg0, by omega, hG.chg hx9 (by simp; omega)⟩) ?_⟩
  exact NestK.hi_ (hNK.keep (w' := w9) (fun x h1 h2 => hx9.block x (by omega) (by simp; omega))) (by omega)
theorem ye : ∀ t, sd t := iL wg
def nj (md : Region.Mode) (ops : Array Oper) : Nat → List Nat → Nat → Bool
 | m, [], i => fq md ops m i
 | m, q :: r, i => fq md ops m q && nj md ops q r i
theorem sP {md : Region.Mode} {ops : Array Oper} {listed : Array Bool} {m i : Nat} (h : fq md ops m i = true) (hi : listed.getD i true = false) : m ∉ Region.ready md ops listed := fun hr => by
 obtain ⟨_, o, ho, hall⟩ := mem_ready.1 hr
 unfold fq at h
 rw [ho] at h
 obtain ⟨e, he, hb⟩ := Array.any_eq_true'.1 h
 simp only [Bool.and_eq_true, beq_iff_eq] at hb
 have h1 := hall e he hb.1
 rw [hb.2] at h1
 rcases Nat.lt_or_ge i listed.size with h' | h'
 ·simp [h'] at hi h1; rw [hi] at h1; cases h1
 ·simp [Array.getElem?_eq_none h'] at h1
theorem qe {md : Region.Mode} {ops : Array Oper} {listed : Array Bool} {i : Nat} (hi : listed.getD i true = false) : ∀ (qs : List Nat) (m : Nat), nj md ops m qs i = true → (∀ q ∈ qs, listed.getD q true = false) → ∀ x ∈ m :: qs, x ∉ Region.ready md ops listed
 | [], m, h, _, x, hx => by simp only [List.mem_singleton] at hx; subst hx; exact sP h hi
 | q :: r, m, h, hu, x, hx => by
  simp only [nj, Bool.and_eq_true] at h
  rcases List.mem_cons.1 hx with rfl | hx
  ·exact sP h.1 (hu q (by simp))
  ·exact qe hi r q h.2 (fun p hp => hu p (by simp [hp])) x hx
section
variable {P : Program} {ops : Array Oper} {Q : Exit → Act → World → Prop} {md : Region.Mode} {S : World → Prop}
theorem qL {m : Nat} {i : Nat} {qs : List Nat} {oi : Oper} {v : Value} (him : i ≠ m) (hch : nj md ops m qs i = true) (hi : ops[i]? = some oi) (hsel : ∀ (j : Nat) (o : Oper) cs b, ops[j]? = some o → o.op ≠ .select cs b)
    (hQ : ∀ c a w, Q (.panic c) (a.put oi.dst v) w → Q (.panic c) a w) :
    ∀ (fuel : Nat) (listed : Array Bool) (a : Act) (w : World),
      (∀ j oj, ops[j]? = some oj → j ≠ i → listed.getD j true = false → (∀ e ∈ oj.after, Region.binds md e = true → e.on ≠ i) → oi.apart ops oj = true) → (∀ q ∈ qs, listed.getD q true = false) →
      i ∈ Region.ready md ops listed → YieldsIf P ops S oi v a → S w → listed.getD m false = false →
      wpAnyL P md ops Q S m fuel (listed.setIfInBounds i true) (a.put oi.dst v) w → wpAnyL P md ops Q S m (fuel + 1) listed a w := by
  intro fuel
  induction fuel with
  | zero =>
    intro listed a w _ _ hr hy hS _ H
    refine ⟨fun h => (by rw [h] at hr; cases hr), fun j hj => ?_⟩
    by_cases hji : j = i
    · subst hji; exact hy.wpOp hi hS ⟨.inl hS, H⟩
    · have := ready_mono hj hji
      rw [H.1] at this
      cases this
  | succ fuel ih =>
    intro listed a w hfree hqs hr hy hS hlm H
    refine ⟨fun h => (by rw [h] at hr; cases hr), fun j hj => ?_⟩
    by_cases hji : j = i
    · subst hji; exact hy.wpOp hi hS ⟨.inl hS, H⟩
    · have h1 := H.2 j (ready_mono hj hji)
      obtain ⟨hjun, oj, hoj, hall⟩ := mem_ready.1 hj
      have hnot := jo (j := j) hr hall
      have hcn := qe (mem_ready.1 hr).1 qs m hch hqs
      have hjm : j ≠ m := fun e => hcn m (by simp) (e ▸ hj)
      have hjq : ∀ q ∈ qs, j ≠ q := fun q hq e => hcn q (by simp [hq]) (e ▸ hj)
      have h2 := wpOp_putIf hoj (hfree j oj hoj hji hjun hnot) (fun cs b => hsel i oi cs b hi) (fun cs b => hsel j oj cs b hoj) hQ hy h1
      have hfree' : ∀ k ok, ops[k]? = some ok → k ≠ i → (listed.setIfInBounds j true).getD k true = false →
          (∀ e ∈ ok.after, Region.binds md e = true → e.on ≠ i) → oi.apart ops ok = true := fun k ok hk hki hun hno => by
        refine hfree k ok hk hki ?_ hno
        by_cases hjk : j = k
        · subst hjk; exact hjun
        · rw [getD_set_ne true hjk] at hun; exact hun
      refine wpOp_mono (fun a' w' h3 => ?_) h2
      have hlm' : (listed.setIfInBounds j true).getD m false = false := by rw [getD_set_ne false hjm]; exact hlm
      have hqs' : ∀ q ∈ qs, (listed.setIfInBounds j true).getD q true = false := fun q hq => by rw [getD_set_ne true (hjq q hq)]; exact hqs q hq
      have hS' : S w' := by
        rcases h3.2.1 with h | h
        · exact h
        · rw [Array.setIfInBounds_comm _ _ (fun e => hji e.symm), getD_set_ne false him, hlm'] at h
          cases h
      refine ⟨.inl hS', ih (listed.setIfInBounds j true) a' w' hfree' hqs' (ready_mono hr (Ne.symm hji)) h3.1 hS' hlm' ?_⟩
      rw [Array.setIfInBounds_comm _ _ hji]
      exact h3.2.2
theorem dLc {a : Act} {w : World} {n : Nat} {f : Nat → Option Value} {d : Option Tmp} {op : Op} {ty : TypeId} {ps : String} {af : Array Edge} {g : Option (Nat × Bool)} {v : Value} {m fuel : Nat} {listed : Array Bool} (i : Nat) (qs : List Nat) (him : Nat.beq i m = false) (hi : ops[i]? = some ⟨d, op, ty, ps, af, g⟩) (hs : Region.noSelect ops = true) (hf : (nj .any ops m qs i && qs.all (fun q => !listed.getD q true) && !listed.getD m false && Region.free .any ops listed i && (Region.ready .any ops listed).contains i) = true)
  (h : Fr a n f) (hw : (cw f ops g && cf d n) = true) (hS : S w) (he : ∀ w', S w' → Runs P a ty op w' (.value v) w')
  (k : ∀ a', Fr a' n (upo f d v) → wpAnyL P .any ops (NoPanic Q) S m fuel (listed.setIfInBounds i true) a' w) : wpAnyL P .any ops (NoPanic Q) S m (fuel + 1) listed a w := by
 simp only [Bool.and_eq_true, Bool.not_eq_true'] at hf
 obtain ⟨⟨⟨⟨h1, h2⟩, h3⟩, h4⟩, h5⟩ := hf
 exact qL (Nat.ne_of_beq_eq_false him) h1 hi (Region.noSelect_spec hs) (fun _ _ _ h => h.elim) fuel listed a w (Region.free_spec hi h4) (fun q hq => by simpa using List.all_eq_true.1 h2 q hq) (by simpa using h5)
  (.inl ⟨eJ h (Bool.and_eq_true_iff.1 hw).1, fun w' hS' => he w' hS' _ _ _ _⟩) hS h3 (k _ (h.puto (Bool.and_eq_true_iff.1 hw).2 v))
end
theorem KidsAre.mono {S S' : Nat → Prop} {w : World} {ts : List Tree} {cs : List Value} (h : KidsAre S w ts cs) (hS : ∀ b, S b → S' b) : KidsAre S' w ts cs := h.keep hS (fun _ _ _ => rfl)
theorem xn (t : Tree) (ih : ∀ (i : Nat) (u : Tree), t.kids[i]? = some u → rc u) : rc t := by
  obtain ⟨k, s, ls, ks⟩ := t
  intro w b pre c post ct lo hi Sf hbk hB hN hbo hhi hT hSf
  simp only [NestC] at hN
  obtain ⟨B, n, g, cs, rfl, hn1, hn2, hlh, hg, hK⟩ := hN
  simp only [TreeIs] at hT
  obtain ⟨A, m, B', n', rfl, hm1, hm2, hm3, hm4, hA, kcs, hKT, hKR⟩ := hT
  simp only [Tree.kids] at ih
  simp only [tbulk] at hbk
  have hkl := du ks
  have hll := sJ ls
  have hbl := hB.lt
  refine rE 32 Tryz.func54 rfl rfl rfl ?_
  intro a hf
  refine rG 60 hf rfl ?_
  clear hf a; intro a hf
  obtain ⟨w1, bb, he, hbb, hx1, eb, lb⟩ := pq (P := Tryz.prog) (t := TT) (x := (.tmp 1)) hf rfl rfl w 0
  refine rV hf rfl he ?_
  clear he hf a; intro a hf
  replace hB := hB.c0 hx1
  have hA1 := hA.keepB (w' := w1) (S' := Sf) (fun _ h _ => h) (fun x _ hx => hx1.block x hx nm0)
  refine rG 60 hf rfl ?_
  clear hf a; intro a hf
  refine rV hf rfl (dD hf rfl (by kernel_rfl) hbb rfl) ?_
  clear hf a; intro a hf
  obtain ⟨A', m', w2, he, ha1, ha2, ha3, hx2⟩ := zD (P := Tryz.prog) (x := .const (.slice none 0 0)) (y := .tmp 7) (t := 26) (e := 9) (z := .string ⟨#[]⟩) (by_ := 16) hf rfl rfl hA1 (by omega) Tryz.underlying26 (by kernel_rfl) rfl rfl 0
  refine rV hf rfl he ?_
  clear he hf a; intro a hf
  replace hB := hB.c0 hx2
  replace hbb := hbb.c0 hx2
  refine rG 60 hf rfl ?_
  clear hf a; intro a hf
  obtain ⟨w3, he, hB3, hx3⟩ := ss (P := Tryz.prog) (t := 26) (x := .tmp 10) (y := .tmp 8) hf rfl rfl (by kernel_rfl) rfl hB (by simp) 0
  refine rS hf rfl he ?_
  clear he hf a; intro a hf
  rw [xW] at hB3
  have s1 := hx1.size
  have s2 := hx2.size
  have s3 := hx3.size
  have hbb3 := hbb.chg hx3 (by simp; omega)
  have hA3 := ha3.keepB (w' := w3) (S' := fun x => w.heap.size ≤ x) (fun x hx _ => by omega) (fun x hx hlt => hx3.block x hlt (by simp; omega))
  have hC : ChgP (fun x => x = b ∨ (lo ≤ x ∧ x < hi)) w w3 := ((ChgP.of0 hx1 (X := fun x => x = b ∨ (lo ≤ x ∧ x < hi))).trans (ChgP.of0 hx2 (X := fun _ => False)) (fun _ h => h.elim)).trans (ChgP.of hx3) (fun x hx => by simp at hx; exact .inl (.inl hx))
  have hin : ∀ x, lo ≤ x → x < hi → w3.heap[x]? = w.heap[x]? := fun x h1 h2 => by
    rw [hx3.block x (by omega) (by simp; omega), hx2.block x (by omega) nm0, hx1.block x (by omega) nm0]
  have hK3 : NestK w3 (g + 1) hi ks cs := by
    by_cases hk0 : ks = []
    · subst hk0; simpa only [NestK] using hK
    · obtain ⟨_, h1, h2, _⟩ := hg hk0
      exact hK.keep fun x g1 g2 => hin x (by omega) g2
  have hG3 : ks ≠ [] → Blk w3 g TT ([] ++ cs) ∧ g + 1 ≤ g + 1 ∧ g + 1 ≤ hi := fun h => by
    obtain ⟨_, h1, h2, h3⟩ := hg h
    exact ⟨kz (hin g h1 h2) h3, Nat.le_refl _, h2⟩
  have hbw : w.heap.size ≤ bb := by omega
  clear hx1 hx2 hx3 hB hbb hA1 hA hK ha3 hin
  refine rG 60 hf rfl ?_
  clear hf a; intro a hf
  refine rV hf rfl (dD hf rfl (by kernel_rfl) hB3 (sh _ _ _ _ _ _)) ?_
  clear hf a; intro a hf
  refine rV hf rfl (jp hf Tryz.underlying27 rfl) ?_
  clear hf a; intro a hf
  refine rG 60 hf rfl ?_
  clear hf a; intro a hf
  refine rL (fun mm a w' => ∃ (i : Nat) (done rest : List Value) (mi : Nat), mm = ks.length - i ∧ i ≤ ks.length ∧ Fr a 32 (fm [(0, .pointer (some ⟨b, pre.length, none⟩)), (3, .pointer (some ⟨bb, 0, none⟩)), (15, .int .i64 (ks.length : Nat)), (16, .int .i64 (i : Nat))]) ∧
      ChgP (fun x => x = b ∨ (lo ≤ x ∧ x < hi)) w w' ∧ Blk w' b TT (pre ++ [.int .i64 k, ch s, .slice A' ls.length m', .slice B ks.length n] ++ post) ∧ Blk w' bb TT [.int .i64 k, ch s, .slice A ls.length m, .slice B' ks.length n'] ∧
      RowIn (fun x => w.heap.size ≤ x) w' 1 A' ls.length (ls.map ch) ∧ (ks ≠ [] → Blk w' g TT (done ++ rest) ∧ g + 1 ≤ mi ∧ mi ≤ hi) ∧ KidsAre (fun x => (g + 1 ≤ x ∧ x < mi) ∨ w.heap.size ≤ x) w' (ks.take i) done ∧ NestK w' mi hi (ks.drop i) rest) ks.length
    ⟨0, [], cs, g + 1, rfl, Nat.zero_le _, hf.pick ⟨rfl, rfl, rfl, rfl, trivial⟩, hC, hB3, hbb3, hA3, hG3, by simp [KidsAre], by simpa using hK3⟩ ?_
  clear hf a hC hB3 hbb3 hA3 hG3 hK3 s1 s2 s3
  rintro _ a w4 ⟨i, done, rest, mi, rfl, hi1, hf, hC, hB, hbb, hA, hG, hKA, hNK⟩
  by_cases hlt : i < ks.length
  · skip
    have hne : ks ≠ [] := fun h => by subst h; simp at hlt
    obtain ⟨rfl, hg1, hg2, _⟩ := hg hne
    obtain ⟨hG, hgm, hmh⟩ := hG hne
    obtain ⟨kb, ko, rfl, hkS, hkb, hcell⟩ := hKR.2 (by omega)
    obtain ⟨d0, d1, d2, d3, hT, hK⟩ := wT hKT hlt
    have hdl := hKA.length
    rw [List.length_take, Nat.min_eq_left hi1] at hdl
    rw [List.drop_eq_getElem_cons hlt] at hNK
    simp only [NestK] at hNK
    obtain ⟨c, d, mid, rfl, hm5, hm6, hNc, hNk⟩ := hNK
    rw [← List.append_assoc] at hG
    have htb := ry hlt
    have sC := hC.size
    have out : ∀ x, Sf x → x < w.heap.size → w4.heap[x]? = w.heap[x]? := fun x h1 h2 => hC.block x h2 (fun h => by have := hSf x h1; omega)
    replace hT := hT.keepB (S' := fun x => Sf x ∧ x < w.heap.size) (w' := w4) (fun x h1 h2 => ⟨h1, h2⟩) out
    have hK4 : ∀ j, j < 4 → w4.cell? ⟨kb, ko + i * 4 + j, none⟩ = ([d0, d1, d2, d3] : List Value)[j]? := fun j hj => by
      rw [World.cell?_of_block (a := ⟨kb, ko + i * 4 + j, none⟩) (out kb hkS hkb), Nat.add_assoc, hcell _ (by omega)]; exact hK j hj
    refine rG 60 hf rfl ?_
    clear hf a; intro a hf
    refine rV hf rfl (lK (c := true) hf rfl rfl (by simp; omega)) ?_
    clear hf a; intro a hf
    refine rG 60 hf rfl ?_
    clear hf a; intro a hf
    refine rD (fun x => Blk x b TT (pre ++ [.int .i64 k, ch s, .slice A' ls.length m', .slice (some ⟨g, 0, none⟩) ks.length n] ++ post) ∧ Blk x bb TT [.int .i64 k, ch s, .slice A ls.length m, .slice (some ⟨kb, ko, none⟩) ks.length n'] ∧ ∀ j, j < 4 → x.cell? ⟨kb, ko + i * 4 + j, none⟩ = ([d0, d1, d2, d3] : List Value)[j]?) 11 12 rfl (by kernel_rfl) (by kernel_rfl) ?_
    intro w5 hx5 hsel
    have e5 : ∀ x, x < w4.heap.size → w5.heap[x]? = w4.heap[x]? := fun x hx => hx5.block x hx nm0
    have s5 := hx5.size
    have hlb := hB.lt
    have hlbb := hbb.lt
    have hlg := hG.lt
    replace hB := hB.c0 hx5
    replace hbb := hbb.c0 hx5
    replace hG := hG.c0 hx5
    replace hT := hT.keepB (S' := fun x => Sf x ∧ x < w.heap.size) (w' := w5) (fun x h1 h2 => h1) (fun x _ hx => e5 x hx)
    replace hNc := hNc.keep (w' := w5) (fun x _ hx => e5 x (by omega))
    replace hNk := hNk.keep (w' := w5) (fun x _ hx => e5 x (by omega))
    replace hA := hA.keepB (w' := w5) (S' := fun x => w.heap.size ≤ x) (fun x h1 h2 => h1) (fun x _ hx => e5 x hx)
    replace hKA := hKA.keepB (w' := w5) (S' := fun x => (g + 1 ≤ x ∧ x < mi) ∨ w.heap.size ≤ x) (fun x h1 h2 => h1) (fun x _ hx => e5 x hx)
    replace hK4 : ∀ j, j < 4 → w5.cell? ⟨kb, ko + i * 4 + j, none⟩ = ([d0, d1, d2, d3] : List Value)[j]? := fun j hj => by
      rw [World.cell?_of_block (a := ⟨kb, ko + i * 4 + j, none⟩) (e5 kb (by show kb < w4.heap.size; omega))]; exact hK4 j hj
    have hS := And.intro hB (And.intro hbb hK4)
    replace hC : ChgP (fun x => x = b ∨ (lo ≤ x ∧ x < hi)) w w5 := hC.trans (ChgP.of0 hx5 (X := fun _ => False)) (fun _ h => h.elim)
    clear e5 hx5
    refine dG [0, 1, 2] hsel (by kernel_rfl) hf rfl rfl (.inl hS) ?_
    clear hf a; intro a hf
    refine dLc 3 [5] rfl rfl hsel (by kernel_rfl) hf rfl hS (fun x hS => dD hf rfl (by kernel_rfl) hS.1 (sh _ _ _ _ _ _)) ?_
    clear hf a; intro a hf
    refine dG [4] hsel (by kernel_rfl) hf rfl rfl (.inl hS) ?_
    clear hf a; intro a hf
    refine dV 5 rfl rfl hsel (by kernel_rfl) hf rfl (.inl hS) (fun x => iM (sz := 4) (k := i) (r := done.length) hf Tryz.underlying27 (by kernel_rfl) rfl rfl rfl hlt (by omega)) ?_
    clear hf a; intro a hf
    refine dG [6] hsel (by kernel_rfl) hf rfl rfl (.inl hS) ?_
    clear hf a; intro a hf
    refine dLc 7 [10, 9] rfl rfl hsel (by kernel_rfl) hf rfl hS (fun x hS => dD hf rfl (by kernel_rfl) hS.2.1 rfl) ?_
    clear hf a; intro a hf
    refine dG [8] hsel (by kernel_rfl) hf rfl rfl (.inl hS) ?_
    clear hf a; intro a hf
    refine dV 9 rfl rfl hsel (by kernel_rfl) hf rfl (.inl hS) (fun x => iM (sz := 4) (k := i) (r := ko + i * 4) hf Tryz.underlying27 (by kernel_rfl) rfl rfl rfl hlt rfl) ?_
    clear hf a; intro a hf
    refine dLc 10 [] rfl rfl hsel (by kernel_rfl) hf rfl hS (fun x hS => ex_loadN (cs := [d0, d1, d2, d3]) (m := 4) hf rfl (by kernel_rfl) rfl hS.2.2) ?_
    clear hf a; intro a hf
    refine Az 11 (by kernel_rfl) rfl hf rfl rfl rfl (by kernel_rfl) (ih i ks[i] (List.getElem?_eq_getElem hlt) w5 g done c d [d0, d1, d2, d3] mi mid (fun x => Sf x ∧ x < w.heap.size) (by omega) hG hNc (by omega) (by omega) hT (fun x h => by have := hSf x h.1; omega)) ?_
    rintro _ w6 ⟨rfl, c', hG', hx6, hT'⟩
    refine ⟨_, rfl, ?_⟩
    clear hf a; intro a hf
    refine ⟨.inr (by rfl), ?_⟩
    refine rN (by kernel_rfl) ?_
    have e6 : ∀ x, x < w5.heap.size → x ≠ g → ¬ (mi ≤ x ∧ x < mid) → w6.heap[x]? = w5.heap[x]? := fun x hx h1 h2 => hx6.block x hx (by omega)
    have s6 := hx6.size
    replace hC : ChgP (fun x => x = b ∨ (lo ≤ x ∧ x < hi)) w w6 := hC.trans hx6 (fun x h => by left; right; omega)
    replace hB := kz (e6 b (by omega) (by omega) (by omega)) hB
    replace hbb := kz (e6 bb (by omega) (by omega) (by omega)) hbb
    replace hA := hA.keepB (w' := w6) (S' := fun x => w.heap.size ≤ x) (fun x h1 h2 => h1) (fun x h1 hx => e6 x hx (by omega) (by omega))
    replace hKA := hKA.keepB (w' := w6) (S' := fun x => (g + 1 ≤ x ∧ x < mid) ∨ w.heap.size ≤ x) (fun x h1 h2 => by omega) (fun x h1 hx => e6 x hx (by omega) (by omega))
    replace hNk := hNk.keep (w' := w6) (fun x h1 h2 => e6 x (by omega) (by omega) (by omega))
    replace hT' := hT'.keep (S' := fun x => (g + 1 ≤ x ∧ x < mid) ∨ w.heap.size ≤ x) (w' := w6) (fun x h => by omega) (fun _ _ _ => rfl)
    refine rG 60 hf rfl ?_
    clear hf a; intro a hf
    refine rV hf rfl (ur (r := ((i + 1 : Nat) : Int)) hf rfl rfl (by simp) (by omega)) ?_
    clear hf a; intro a hf
    refine rG 60 hf rfl ?_
    clear hf a; intro a hf
    refine rX ?_
    refine ⟨ks.length - (i + 1), by omega, i + 1, done ++ c', d, mid, rfl, hlt, hf.pick ⟨rfl, rfl, rfl, rfl, trivial⟩, hC, hB, hbb, hA, fun _ => ⟨hG', by omega, by omega⟩, ?_, hNk⟩
    rw [List.take_succ_eq_append_getElem hlt]
    exact hKA.snoc hT'
  have hi' : i = ks.length := by omega
  subst hi'
  rw [List.take_length] at hKA
  rw [List.drop_length] at hNK
  simp only [NestK] at hNK
  subst hNK
  refine rG 60 hf rfl ?_
  clear hf a; intro a hf
  refine rV hf rfl (lK (c := false) hf rfl rfl (by simp)) ?_
  clear hf a; intro a hf
  refine rG 60 hf rfl ?_
  clear hf a; intro a hf
  refine rO ?_
  refine rG 60 hf rfl ?_
  clear hf a; intro a hf
  refine rF (rs := []) (vs := []) hf rfl rfl ⟨rfl, _, hB, hC, ?_⟩
  have hdl := hKA.length
  by_cases hk0 : ks = []
  · subst hk0
    simp only [KidsAre] at hKA
    subst hKA
    exact pD (cs := []) ha1 ha2 hn1 hn2 (hA.keep (fun x h => .inr h) (fun _ _ _ => rfl)) (by simp only [KidsAre]) ⟨by simp, fun h => by simp at h⟩
  · obtain ⟨rfl, hg1, hg2, _⟩ := hg hk0
    obtain ⟨hG, hgm, hmh⟩ := hG hk0
    refine pD ha1 ha2 hn1 hn2 (hA.keep (fun x h => .inr h) (fun _ _ _ => rfl)) (hKA.mono fun x h => by omega) ⟨hdl, fun _ => ⟨g, 0, rfl, .inl ⟨hg1, hg2⟩, hG.lt, fun j hj => ?_⟩⟩
    rw [hG.cell, Nat.zero_add, List.append_nil]
theorem xM : ∀ t, rc t := iL xn
theorem tG (t : Tree) (w : World) (S : Nat → Prop) (ct : List Value) (hbk : tbulk t ≤ 1000000000) (hT : TreeIs S w t ct) :
    Calls Tryz.prog 30 #[.agg ct.toArray] w fun e w' => ∃ c, e = .returned (.agg c.toArray) ∧ Chg [] w w' ∧ TreeIs (fun x => w.heap.size ≤ x) w' t c := by
  have h4 := hT.four
  match ct, h4, hT with
  | [c0, c1, c2, c3], _, hT =>
  have on_T := hT.one
  replace hT := hT.keepB (S' := fun x => x < w.heap.size) (w' := w) (fun x _ hx => hx) (fun _ _ _ => rfl)
  refine rE 9 Tryz.func30 rfl rfl rfl ?_
  intro a hf
  refine rG 60 hf rfl fun a hf => ?_
  obtain ⟨w1, b1, he, hB1, hx1, e1, l1⟩ := pq (P := Tryz.prog) (t := TT) (x := (.tmp 0)) hf rfl rfl w 0
  refine rV hf rfl he fun a hf => ?_
  replace hT := hT.keepB (S' := fun x => x < w.heap.size) (w' := w1) (fun x hx _ => hx) (fun x _ hx => hx1.block x hx nm0)
  obtain ⟨w2, b2, he, hB2, hx2, e2, l2⟩ := eT a w1 0
  refine rV hf rfl he fun a hf => ?_
  replace hB1 := hB1.c0 hx2
  replace hT := hT.keepB (S' := fun x => x < w.heap.size) (w' := w2) (fun x hx _ => hx) (fun x _ hx => hx2.block x hx nm0)
  refine rG 60 hf rfl fun a hf => rV hf rfl (hO (m := 4) hf rfl (by kernel_rfl) hB1 rfl) fun a hf => rC hf rfl rfl (by kernel_rfl) (ye t w2 _ _ hbk hT) ?_
  rintro _ w3 ⟨c, rfl, hx3, hN⟩
  refine ⟨_, rfl, fun a hf => ?_⟩
  replace hB1 := hB1.c0 hx3
  replace hB2 := hB2.c0 hx3
  replace hT := hT.keepB (S' := fun x => x < w.heap.size) (w' := w3) (fun x hx _ => hx) (fun x _ hx => hx3.block x hx nm0)
  obtain ⟨w4, b4, he, hB4, hx4, e4, l4⟩ := eT a w3 0
  refine rV hf rfl he fun a hf => ?_
  replace hB1 := hB1.c0 hx4
  replace hB2 := hB2.c0 hx4
  replace hT := hT.keepB (S' := fun x => x < w.heap.size) (w' := w4) (fun x hx _ => hx) (fun x _ hx => hx4.block x hx nm0)
  replace hN := hN.keep (w' := w4) (fun x _ hx => hx4.block x hx nm0)
  obtain ⟨w5, he, hB5, hx5⟩ := eN (.tmp 3) (.tmp 5) hf rfl rfl hN.four hN.one hB4 rfl 0
  refine rS hf rfl he fun a hf => ?_
  have s1 := hx1.size
  have s2 := hx2.size
  have s3 := hx3.size
  have s4 := hx4.size
  have s5 := hx5.size
  replace hB1 := hB1.chg hx5 (by simp; omega)
  replace hB2 := hB2.chg hx5 (by simp; omega)
  replace hT := hT.keepB (S' := fun x => x < w.heap.size) (w' := w5) (fun x hx _ => hx) (fun x h1 hx => hx5.block x hx (by simp; omega))
  replace hN := hN.keep (w' := w5) (fun x _ hx => hx5.block x (by omega) (by simp; omega))
  have hC : Chg [] w w5 := (((hx1.t0 hx2).t0 hx3).t0 hx4).n1 hx5 (by omega)
  clear hx1 hx2 hx3 hx4 hx5 hB4
  refine rG 60 hf rfl fun a hf => rV hf rfl (hO (m := 4) hf rfl (by kernel_rfl) hB1 rfl) fun a hf => rC hf rfl rfl (by kernel_rfl) (xM t w5 b4 [] c [] [c0, c1, c2, c3] w2.heap.size w3.heap.size (fun x => x < w.heap.size) hbk (by simpa using hB5) hN (by omega) (by omega) hT (fun x hx => by omega)) ?_
  rintro _ w6 ⟨rfl, c', hB6, hx6, hT'⟩
  refine ⟨_, rfl, fun a hf => ?_⟩
  have s6 := hx6.size
  replace hB2 := kz (hx6.block b2 (by omega) (by omega)) hB2
  have hC6 : Chg [] w w6 := ⟨hx6.os.trans hC.os, hx6.tape.trans hC.tape, hx6.output.trans hC.output, nlt hC.size s6, fun x hx h0 => by rw [hx6.block x (by omega) (by omega), hC.block x hx h0]⟩
  rw [List.nil_append, List.append_nil] at hB6
  have h4' := hT'.four
  have on' := hT'.one
  refine rG 60 hf rfl fun a hf => rV hf rfl (hO (m := 4) hf rfl (by kernel_rfl) hB6 h4') fun a hf => ?_
  obtain ⟨w7, he, hB7, hx7⟩ := eN (.tmp 2) (.tmp 8) hf rfl rfl h4' on' hB2 rfl 0
  refine rS hf rfl he fun a hf => rG 60 hf rfl fun a hf => ?_
  exact rT (rs := [.cell 2 TT]) hf rfl ⟨_, _, _, _, _, rfl, rfl, by kernel_rfl, hB7, h4', rfl⟩ ⟨_, rfl, hC6.n1 hx7 (by omega), hT'.keepB (fun x h _ => by omega) (fun x h hx => hx7.block x hx (by simp; omega))⟩
section
variable {S : Nat → Prop} {w : World}
theorem qc {ρ : Nat → Option Value} : ∀ {ls : List (List UInt8)} {xs : List Value}, CRel S w ρ 1 (ls.map .str) xs → xs = ls.map ch
 | [], xs, h => by simpa [CRel] using h
 | s :: r, xs, h => by
  simp only [List.map_cons, CRel, VRel] at h
  obtain ⟨x, ys, rfl, _, rfl, h2⟩ := h
  rw [qc h2]
  simp [Value.cells, ch]
mutual
theorem LRel.tree : ∀ {ρ : Nat → Option Value} {t : Tree} {c : List Value}, LRel S w ρ (ao t) c → TreeIs S w t c
 | ρ, .node k s ls ks, c, h => by
  simp only [ao, Tree.kind, Tree.text, Tree.leads, Tree.kids, LRel, VRel] at h
  obtain ⟨_, _, rfl, rfl, _, _, rfl, rfl, _, _, rfl, ⟨A, m, xs, rfl, h1, h2, h3, h4⟩, _, _, rfl, ⟨B, n, cs, rfl, h5, h6, h7, h8⟩, rfl⟩ := h
  have e := qc h3
  subst e
  simp only [TreeIs]
  exact ⟨A, m, B, n, by simp [eQ], by simpa using h1, h2, by simpa [eQ] using h5, h6, by simpa using h4, cs, CRel.kids h7, by simpa [eQ] using h8⟩
theorem CRel.kids : ∀ {ρ : Nat → Option Value} {ts : List Tree} {cs : List Value}, CRel S w ρ 4 (kidsV ts) cs → KidsAre S w ts cs
 | ρ, [], cs, h => by simpa only [kidsV, CRel, KidsAre] using h
 | ρ, t :: r, cs, h => by
  simp only [kidsV, CRel, fM, VRel] at h
  obtain ⟨x, ys, rfl, ⟨g1, g2⟩, ⟨xs, rfl, h2⟩, h3⟩ := h
  simp only [KidsAre]
  exact ⟨xs, ys, by simp [Value.cells], LRel.tree h2, CRel.kids h3⟩
end
end
theorem wl (t : Tree) (ht : tbulk t ≤ 1000000000) : lP t t := by
 refine ⟨rfl, rfl, fun S w ρ xs hr hx => ?_⟩
 simp only [LRel] at hx
 obtain ⟨x, ys, rfl, hx, rfl⟩ := hx
 simp only [VRel] at hx
 obtain ⟨ct, rfl, hx⟩ := hx
 refine (tG t w S ct ht (LRel.tree hx)).mono ?_
 rintro e w' ⟨c, rfl, hch, hT⟩
 have g := hr.chg0 hch
 refine ⟨_, fun b => S b ∨ (w.heap.size ≤ b ∧ b < w'.heap.size), ρ, _, ⟨0, []⟩, rfl, rfl, ⟨fun i => ?_, fun i b hb => ?_, fun i j b hb _ => ?_, g.slt.up (ρ := ρ0) (ρ' := ρ0) ⟨fun _ h => .inl h, fun _ _ _ => rfl, fun _ _ h => h⟩ (fun b hb => hb.elim (g.slt b) (·.2))⟩, ⟨ChgP.of0 hch, fun _ h => .inl h, fun b hb => hb.elim .inl (fun h => .inr (.inr h.1)), fun id b hb => by rw [dZ] at hb; exact hb.elim, fun id x h => ?_⟩, ?_⟩
 ·have := g.ob i; rw [dZ] at this ⊢; exact this
 ·rw [dZ] at hb; exact hb.elim
 ·rw [dZ] at hb; exact hb.elim
 ·simp only [kn] at h
  split at h
  ·exact h
  ·cases h
 ·simp only [VRel]
  exact ⟨c, rfl, (hT.keepB (S' := fun b => S b ∨ (w.heap.size ≤ b ∧ b < w'.heap.size)) (fun b h1 h2 => .inr ⟨h1, h2⟩) (fun _ _ _ => rfl)).vrel⟩
theorem zA (t : Tree) (q : List Int) (hq : q.length ≤ 1000000000) : lw t q ((atK t q).getD (.node 0 [] [] [])) (atK t q).isSome := by
 have loop : ∀ m i (u : Tree), q.length - i ≤ m → il (m + 1) q u i ((atK u (q.drop i)).getD (.node 0 [] [] [])) (atK u (q.drop i)).isSome := fun m => by
  induction m with
  | zero =>
   intro i u hi
   refine mx 0 _ _ _ _ _ ⟨fun h => by omega, fun h => ?_⟩
   rw [List.drop_of_length_le (by omega)]; exact ⟨rfl, rfl⟩
  | succ m ihm =>
   intro i u hi
   refine mx (m + 1) _ _ _ _ _ ⟨fun h => ?_, fun h => ?_⟩
   ·obtain ⟨x, hx, _⟩ | h' := gz q i
    ·rw [be hx, atK]
     refine ⟨x, hx, fun h1 => by simp [h1], fun h1 => ⟨fun h2 => ?_, fun h2 => ?_⟩⟩
     ·have : u.kids[x.toNat]? = none := List.getElem?_eq_none (by omega)
      simp [h1, this]
     ·obtain ⟨y, hy, _⟩ | h3 := gz u.kids x.toNat
      ·refine ⟨x.toNat, by omega, y, hy, by omega, ?_⟩
       simp only [if_neg h1, hy]
       exact ihm (i + 1) y (by omega)
      ·omega
    ·exact absurd h h'
   ·rw [List.drop_of_length_le (by omega)]; exact ⟨rfl, rfl⟩
 have := loop q.length 0 t (by omega)
 exact rY _ _ _ _ _ (by simpa using this)
theorem ub : ∀ (q : List Int) (t u : Tree), atK t q = some u → tbulk u ≤ tbulk t
 | [], t, u, h => by simp only [atK, Option.some.injEq] at h; subst h; exact Nat.le_refl _
 | x :: q, t, u, h => by
  simp only [atK] at h
  split at h
  ·cases h
  ·split at h
   ·cases h
   ·rename_i y hy
    have := ub q y u h
    have := bd hy
    omega
theorem CH (t : Tree) (q : List Int) (ht : tbulk t ≤ 1000000000) (hq : q.length ≤ 1000000000) : ie t q ((atK t q).getD (.node 0 [] [] [])) (atK t q).isSome := by
 refine uF 0 _ _ _ _ ⟨_, _, zA t q hq, fun h => ?_, fun h => ?_⟩
 ·cases ha : atK t q with
  | none => exact ⟨rfl, rfl⟩
  | some u => rw [ha] at h; cases h
 ·cases ha : atK t q with
  | none => rw [ha] at h; cases h
  | some u => exact ⟨u, wl u (Nat.le_trans (ub q t u ha) ht), rfl, rfl⟩
def Dg (L : List Int) (a : Int) : Prop := 0 ≤ a ∧ a ≤ L.length ∧ L.length ≤ 1000000000
theorem pC {L : List Int} {a n : Int} (hd : Dg L a) (hn : 0 < n) (hn2 : n ≤ 1000000000) : ∃ r a', cO L a n r L a' ∧ (0 ≤ r ∧ r < n) ∧ Dg L a' := by
 obtain ⟨h0, h1, h2⟩ := hd
 by_cases h : (L.length : Int) ≤ a
 ·exact ⟨0, a, gj 0 _ _ _ _ _ _ (⟨fun _ => ⟨rfl, rfl, rfl⟩, fun h' => absurd h h'⟩), by omega, h0, h1, h2⟩
 ·obtain ⟨x, hx, _⟩ | h' := gz L a.toNat
  ·obtain ⟨r, hr, hr1⟩ := sU (a := x) hn hn2
   exact ⟨r, a + 1, gj 0 _ _ _ _ _ _ (⟨fun h' => absurd h' h, fun _ => ⟨⟨by omega, by omega⟩, ⟨by omega, by omega⟩, a.toNat, by omega, x, hx, r, hr, rfl, rfl, rfl⟩⟩), hr1, by omega, by omega, h2⟩
  ·omega
abbrev bn (t : Tree) : Tree := .node 22 [] [] [t]
inductive GdT : Nat → Int → Tree → Prop
 | num (d : Nat) : GdT d 5 (.node 10 [52] [] [])
 | var (d : Nat) : GdT d 5 (.node 12 [120] [] [])
 | str (d : Nat) : GdT d 6 (.node 11 [34, 115, 34] [] [])
 | tru (d : Nat) : GdT d 7 (.node 13 [] [] [])
 | iff {d : Nat} {k : Int} {a b c : Tree} : GdT d 7 a → GdT d k b → GdT d k c → GdT (d + 1) k (.node 19 [] [] [a, b, c])
 | lett {d : Nat} {k : Int} {a b : Tree} : GdT d 6 a → GdT d k b → GdT (d + 1) k (.node 20 [121] [] [a, b])
 | par {d : Nat} {k : Int} {a : Tree} : GdT d k a → GdT (d + 1) k (.node 22 [] [] [a])
 | lss {d : Nat} {a b : Tree} : GdT d 5 a → GdT d 5 b → GdT (d + 1) 7 (.node 21 [60] [] [bn a, bn b])
 | call {d : Nat} {a : Tree} : GdT d 5 a → GdT (d + 1) 5 (.node 16 [102] [] [.node 17 [] [] [a]])
 | add {d : Nat} {k : Int} {a b : Tree} : (k = 5 ∨ k = 6) → GdT d k a → GdT d k b → GdT (d + 1) k (.node 21 [43] [] [bn a, bn b])
abbrev iR (k : Int) : Prop := k = 5 ∨ k = 6 ∨ k = 7
theorem nq (t : Tree) : ca t (bn t) := mC 0 _ _ (rfl)
theorem wo {L : List Int} {d : Nat} {D : Int} {k z : Int} {a : Int} (m : Nat) (hd : Dg L a) (hk : iR k) (hz : z = 0) : ∃ t a', cC (m + 3) k D L a z t L a' ∧ GdT d k t ∧ Dg L a' := by
 have key : ∃ t a', cH (m + 1) k D L a z false t L a' ∧ GdT d k t ∧ Dg L a' := by
  rcases hk with rfl | rfl | rfl
  ·obtain ⟨r, a', h1, h2, h3⟩ := pC hd (n := 2) (by decide) (by decide)
   by_cases h0 : r = 0
   ·exact ⟨_, a', bz m _ _ _ _ _ _ _ _ _ (⟨fun h => (by cases h), fun _ => ⟨fun h => absurd h (by omega), fun _ => ⟨fun h => absurd h (by decide), fun _ => ⟨fun h => absurd h (by decide), fun _ => ⟨_, _, _, h1, fun _ => ⟨rfl, rfl, rfl⟩, fun h => absurd h0 h⟩⟩⟩⟩⟩), .var d, h3⟩
   ·exact ⟨_, a', bz m _ _ _ _ _ _ _ _ _ (⟨fun h => (by cases h), fun _ => ⟨fun h => absurd h (by omega), fun _ => ⟨fun h => absurd h (by decide), fun _ => ⟨fun h => absurd h (by decide), fun _ => ⟨_, _, _, h1, fun h => absurd h h0, fun _ => ⟨rfl, rfl, rfl⟩⟩⟩⟩⟩⟩), .num d, h3⟩
  ·exact ⟨_, a, bz m _ _ _ _ _ _ _ _ _ (⟨fun h => (by cases h), fun _ => ⟨fun h => absurd h (by omega), fun _ => ⟨fun _ => ⟨rfl, rfl, rfl⟩, fun h => absurd rfl h⟩⟩⟩), .str d, hd⟩
  ·exact ⟨_, a, bz m _ _ _ _ _ _ _ _ _ (⟨fun h => (by cases h), fun _ => ⟨fun h => absurd h (by omega), fun _ => ⟨fun h => absurd h (by decide), fun _ => ⟨fun _ => ⟨rfl, rfl, rfl⟩, fun h => absurd rfl h⟩⟩⟩⟩), .tru d, hd⟩
 obtain ⟨t, a', h1, h2, h3⟩ := key
 refine ⟨t, a', cm (m + 2) _ _ _ _ _ _ _ _ (⟨fun h => absurd h (by omega), fun _ => ⟨fun h => absurd h (by omega), fun _ => ⟨fun h => absurd h (by omega), fun _ => ⟨fun h => absurd h (by omega), fun _ => ?_⟩⟩⟩⟩), h2, h3⟩
 exact fb (m + 1) _ _ _ _ _ _ _ _ _ (⟨fun h => (by cases h), fun _ => ⟨fun h => absurd h (by omega), fun _ => h1⟩⟩)
theorem xh {L : List Int} : ∀ (d : Nat) {k a : Int}, d ≤ 100 → iR k → Dg L a → ∃ t a', ax L a k d t L a' ∧ GdT d k t ∧ Dg L a'
 | 0, k, a, _, hk, hd => by
  obtain ⟨r, a1, h1, h2, h3⟩ := pC hd (n := 6) (by decide) (by decide)
  obtain ⟨t, a', g1, g2, g3⟩ := wo (d := 0) (D := ((0 : Nat) : Int)) 0 h3 hk rfl
  exact ⟨t, a', iE 3 _ _ _ _ _ _ _ (⟨_, _, _, h1, fun _ => g1, fun h => absurd (by decide) h⟩), g2, g3⟩
 | d + 1, k, a, hdd, hk, hd => by
  obtain ⟨r, a1, h1, ⟨r0, r6⟩, h3⟩ := pC hd (n := 6) (by decide) (by decide)
  have up : ∀ {t a'} (m : Nat), cC m k ((d + 1 : Nat) : Int) L a1 r t L a' → ax L a k ((d + 1 : Nat) : Int) t L a' := fun m h => iE m _ _ _ _ _ _ _ (⟨_, _, _, h1, fun h => absurd h (by omega), fun _ => h⟩)
  have hi : InI (((d + 1 : Nat) : Int) - 1) := ⟨by omega, by omega⟩
  have e : ((d + 1 : Nat) : Int) - 1 = (d : Int) := by omega
  have ih : ∀ {k a : Int}, iR k → Dg L a → ∃ t a', ax L a k (((d + 1 : Nat) : Int) - 1) t L a' ∧ GdT d k t ∧ Dg L a' := fun h1 h2 => by rw [e]; exact xh d (by omega) h1 h2
  by_cases e0 : r = 0
  ·obtain ⟨t, a', g1, g2, g3⟩ := wo (d := d + 1) (D := ((d + 1 : Nat) : Int)) 0 h3 hk e0
   exact ⟨t, a', up 3 g1, g2, g3⟩
  by_cases e1 : r = 1
  ·obtain ⟨t1, a2, f1, f2, f3⟩ := ih (.inr (.inr rfl)) h3
   obtain ⟨t2, a3, f4, f5, f6⟩ := ih hk f3
   obtain ⟨t3, a4, f7, f8, f9⟩ := ih hk f6
   exact ⟨_, a4, up 1 (cm 0 _ _ _ _ _ _ _ _ (⟨fun _ => ⟨hi, _, _, _, f1, hi, _, _, _, f4, hi, _, _, _, f7, rfl, rfl, rfl⟩, fun h => absurd e1 h⟩)), .iff f2 f5 f8, f9⟩
  by_cases e2 : r = 2
  ·obtain ⟨t1, a2, f1, f2, f3⟩ := ih (.inr (.inl rfl)) h3
   obtain ⟨t2, a3, f4, f5, f6⟩ := ih hk f3
   exact ⟨_, a3, up 1 (cm 0 _ _ _ _ _ _ _ _ (⟨fun h => absurd h e1, fun _ => ⟨fun _ => ⟨hi, _, _, _, f1, hi, _, _, _, f4, rfl, rfl, rfl⟩, fun h => absurd e2 h⟩⟩)), .lett f2 f5, f6⟩
  by_cases e3 : r = 3
  ·obtain ⟨t1, a2, f1, f2, f3⟩ := ih hk h3
   exact ⟨_, a2, up 1 (cm 0 _ _ _ _ _ _ _ _ (⟨fun h => absurd h e1, fun _ => ⟨fun h => absurd h e2, fun _ => ⟨fun _ => ⟨hi, _, _, _, f1, rfl, rfl, rfl⟩, fun h => absurd e3 h⟩⟩⟩)), .par f2, f3⟩
  have e4 : 3 < r := by omega
  have up1 : ∀ {t a'} (m : Nat), dE m k ((d + 1 : Nat) : Int) L a1 r (k == 7) t L a' → ax L a k ((d + 1 : Nat) : Int) t L a' := fun m h => up (m + 1) (cm m _ _ _ _ _ _ _ _ (⟨fun h => absurd h e1, fun _ => ⟨fun h => absurd h e2, fun _ => ⟨fun h => absurd h e3, fun _ => ⟨fun _ => h, fun h => absurd e4 h⟩⟩⟩⟩))
  by_cases k7 : k = 7
  ·subst k7
   obtain ⟨t1, a2, f1, f2, f3⟩ := ih (k := 5) (.inl rfl) h3
   obtain ⟨t2, a3, f4, f5, f6⟩ := ih (k := 5) (.inl rfl) f3
   exact ⟨_, a3, up1 1 (fb 0 _ _ _ _ _ _ _ _ _ (⟨fun _ => ⟨hi, _, _, _, f1, _, nq _, hi, _, _, _, f4, _, nq _, rfl, rfl, rfl⟩, fun h => (by cases h)⟩)), .lss f2 f5, f6⟩
  have k56 : k = 5 ∨ k = 6 := by rcases hk with h | h | h; exact .inl h; exact .inr h; exact absurd h k7
  have up2 : ∀ {t a' : _} (m : Nat) (b : Bool), (r = 4 → b = (k == 5)) → (r ≠ 4 → b = false) → cH m k ((d + 1 : Nat) : Int) L a1 r b t L a' → ax L a k ((d + 1 : Nat) : Int) t L a' := fun m b hb1 hb2 h => up1 (m + 1) (by
   rw [show (k == 7) = false by simp [k7]]
   exact fb m _ _ _ _ _ _ _ _ _ (⟨fun h => (by cases h), fun _ => ⟨fun h4 => hb1 h4 ▸ h, fun h4 => hb2 h4 ▸ h⟩⟩))
  by_cases e5 : r = 4 ∧ k = 5
  ·obtain ⟨e5, rfl⟩ := e5
   obtain ⟨t1, a2, f1, f2, f3⟩ := ih (k := 5) (.inl rfl) h3
   exact ⟨_, a2, up2 1 true (fun _ => rfl) (fun h => absurd e5 h) (bz 0 _ _ _ _ _ _ _ _ _ (⟨fun _ => ⟨hi, _, _, _, f1, rfl, rfl, rfl⟩, fun h => (by cases h)⟩)), .call f2, f3⟩
  ·obtain ⟨t1, a2, f1, f2, f3⟩ := ih hk h3
   obtain ⟨t2, a3, f4, f5, f6⟩ := ih hk f3
   exact ⟨_, a3, up2 1 false (fun h => by by_cases h5 : k = 5; exact absurd ⟨h, h5⟩ e5; simp [h5]) (fun _ => rfl) (bz 0 _ _ _ _ _ _ _ _ _ (⟨fun h => (by cases h), fun _ => ⟨fun _ => ⟨hi, _, _, _, f1, _, nq _, hi, _, _, _, f4, _, nq _, rfl, rfl, rfl⟩, fun h => absurd e4 h⟩⟩)), .add k56 f2 f5, f6⟩
theorem dv {d : Nat} {k : Int} {t : Tree} (h : GdT d k t) : dn t.kind = true := by cases h <;> rfl
theorem rB {d : Nat} {k : Int} {t : Tree} (h : GdT d k t) : iR k := by
 induction h with
 | num | var => exact .inl rfl
 | str => exact .inr (.inl rfl)
 | tru => exact .inr (.inr rfl)
 | iff _ _ _ _ h _ => exact h
 | lett _ _ _ h => exact h
 | par _ h => exact h
 | lss => exact .inr (.inr rfl)
 | call => exact .inl rfl
 | add h => rcases h with h | h; exact .inl h; exact .inr (.inl h)
theorem yi {k : Int} {w : List UInt8} {a : Tree} (h1 : decide (0 ≤ lz k 1) = true) (h2 : jm k w = true) (h3 : bc k 1 0 a.kind = true) (ha : shapeK a = true) : shapeK (.node k w [] [a]) = true := by
 simp only [shapeK, shapeKs, List.length_cons, List.length_nil, Bool.and_true, Bool.and_eq_true]
 exact ⟨⟨h1, h2⟩, h3, ha⟩
theorem va {k : Int} {w : List UInt8} {a b : Tree} (h1 : decide (0 ≤ lz k 2) = true) (h2 : jm k w = true) (h3 : bc k 2 0 a.kind = true) (h4 : bc k 2 1 b.kind = true) (ha : shapeK a = true) (hb : shapeK b = true) : shapeK (.node k w [] [a, b]) = true := by
 simp only [shapeK, shapeKs, List.length_cons, List.length_nil, Bool.and_true, Bool.and_eq_true]
 exact ⟨⟨h1, h2⟩, ⟨h3, ha⟩, h4, hb⟩
theorem BQ {k : Int} {w : List UInt8} {a b c : Tree} (h1 : decide (0 ≤ lz k 3) = true) (h2 : jm k w = true) (h3 : bc k 3 0 a.kind = true) (h4 : bc k 3 1 b.kind = true) (h5 : bc k 3 2 c.kind = true) (ha : shapeK a = true) (hb : shapeK b = true) (hc : shapeK c = true) : shapeK (.node k w [] [a, b, c]) = true := by
 simp only [shapeK, shapeKs, List.length_cons, List.length_nil, Bool.and_true, Bool.and_eq_true]
 exact ⟨⟨h1, h2⟩, ⟨h3, ha⟩, ⟨h4, hb⟩, h5, hc⟩
theorem CM {a : Tree} (h : dn a.kind = true) : bc 22 1 0 a.kind = true := by simpa [bc] using h
theorem qZ {a : Tree} (h : dn a.kind = true) (ha : shapeK a = true) : shapeK (bn a) = true := yi (by decide +kernel) (by decide +kernel) (CM h) ha
theorem yu {d : Nat} {k : Int} {t : Tree} (h : GdT d k t) : shapeK t = true := by
 induction h with
 | num => decide +kernel
 | var => decide +kernel
 | str => decide +kernel
 | tru => decide +kernel
 | iff a b c ha hb hc => exact BQ (by decide +kernel) (by decide +kernel) (by simpa [bc] using dv a) (by simpa [bc] using dv b) (by simpa [bc] using dv c) ha hb hc
 | lett a b ha hb => exact va (by decide +kernel) (by decide +kernel) (by simpa [bc] using dv a) (by simpa [bc] using dv b) ha hb
 | par a ha => exact qZ (dv a) ha
 | lss a b ha hb => exact va (by decide +kernel) (by decide +kernel) (show bc 21 2 0 22 = true by decide +kernel) (show bc 21 2 1 22 = true by decide +kernel) (qZ (dv a) ha) (qZ (dv b) hb)
 | call a ha => exact yi (by decide +kernel) (by decide +kernel) (show bc 16 1 0 17 = true by decide +kernel) (yi (by decide +kernel) (by decide +kernel) (by simpa [bc] using dv a) ha)
 | add _ a b ha hb => exact va (by decide +kernel) (by decide +kernel) (show bc 21 2 0 22 = true by decide +kernel) (show bc 21 2 1 22 = true by decide +kernel) (qZ (dv a) ha) (qZ (dv b) hb)
theorem zB {d : Nat} {k : Int} {t : Tree} (h : GdT d k t) : tbulk t ≤ 10 * 4 ^ d := by
 induction h with
 | num d | var d | str d | tru d => have := Nat.one_le_two_pow (n := d); have : 1 ≤ 4 ^ d := Nat.one_le_pow _ _ (by decide); simp [tbulk, kbulk, lsum]; omega
 | @iff d _ _ _ _ _ _ _ ha hb hc => have : 1 ≤ 4 ^ d := Nat.one_le_pow _ _ (by decide); simp [tbulk, kbulk, lsum, Nat.pow_succ]; omega
 | @lett d _ _ _ _ _ ha hb => have : 1 ≤ 4 ^ d := Nat.one_le_pow _ _ (by decide); simp [tbulk, kbulk, lsum, Nat.pow_succ]; omega
 | @par d _ _ _ ha => have : 1 ≤ 4 ^ d := Nat.one_le_pow _ _ (by decide); simp [tbulk, kbulk, lsum, Nat.pow_succ]; omega
 | @lss d _ _ _ _ ha hb => have : 1 ≤ 4 ^ d := Nat.one_le_pow _ _ (by decide); simp [tbulk, kbulk, lsum, Nat.pow_succ]; omega
 | @call d _ _ ha => have : 1 ≤ 4 ^ d := Nat.one_le_pow _ _ (by decide); simp [tbulk, kbulk, lsum, Nat.pow_succ]; omega
 | @add d _ _ _ _ _ _ ha hb => have : 1 ≤ 4 ^ d := Nat.one_le_pow _ _ (by decide); simp [tbulk, kbulk, lsum, Nat.pow_succ]; omega
def sdr (s : Sv) (u : Nat) : Sv := { s with tg := s.tg.drop u }
theorem lM (s : Sv) (u v : Nat) : sdr (sdr s u) v = sdr s (u + v) := by simp only [sdr, List.drop_drop]
abbrev pS : aa := ⟨[⟨5, 0⟩], ⟨5, 0⟩⟩
structure GE (x : Cx) (env : Env) (s : Sv) (u : Nat) : Prop where
 v : eX [120] env = some ⟨5, 0⟩
 sg : mlook (0, 0) x.sg = some pS
 tg : ∀ (i : Nat) (g : GTarget), s.tg[i]? = some g → i < u → g.Free = false ∧ g.Module = 0 ∧ g.Def = 0
 tl : u ≤ s.tg.length
 wp : x.wp.length ≤ x.pa.length
theorem GE.go {x : Cx} {env : Env} {s : Sv} {u v : Nat} (h : GE x env s v) (i : Int) (hu : u ≤ v) : GE (x.go i) env s u := ⟨h.v, h.sg, fun j g h1 h2 => h.tg j g h1 (by omega), by have := h.tl; omega, by have := h.wp; simp [Cx.go]; omega⟩
theorem GE.dr {x : Cx} {env : Env} {s : Sv} {u v w : Nat} (h : GE x env s w) (hu : u + v ≤ w) : GE x env (sdr s u) v := ⟨h.v, h.sg, fun j g h1 h2 => h.tg (u + j) g (by simpa [sdr, List.getElem?_drop] using h1) (by omega), by have := h.tl; simp [sdr]; omega, h.wp⟩
theorem xo {x : Cx} (i : Nat) (k : Kn) (s : Sv) (h : x.wp.length ≤ x.pa.length) : knS x i k s = s := by
 unfold knS
 rw [if_neg]
 rintro ⟨_, h2⟩
 have := congrArg List.length h2
 simp at this; omega
def Gsay (n : Nat) (t : Tree) (k : Int) : Prop := ∀ x env s, GE x env s (uN t) → dS n x t env s = (⟨k, 0⟩, sdr s (uN t))
theorem eF {n : Nat} {t u : Tree} {k : Int} {i : Nat} {x : Cx} {env : Env} {s : Sv} {v : Nat} (hu : t.kids[i]? = some u) (hs : Gsay n u k) (h : GE x env s v) (hv : uN u ≤ v) : aR (dS n) x t i env s = (⟨k, 0⟩, sdr s (uN u)) := by
 unfold aR
 rw [fZ hu, hs _ _ _ (h.go i hv)]
 simp only [uI]
 rw [xo _ _ _ h.wp]
theorem mI {n : Nat} {a : Tree} {k : Int} (h : Gsay n a k) : Gsay (n + 1) (bn a) k := fun x env s hg => by
 have e : uN (bn a) = uN a := by simp [uN, uNs]
 rw [e] at hg ⊢
 have := eF (t := bn a) (i := 0) rfl h hg (Nat.le_refl _)
 simp only [dS, bC, Tree.kind]
 simpa using this
theorem BN {d : Nat} {k : Int} {t : Tree} (h : GdT d k t) : ∀ n, tbulk t ≤ n → Gsay n t k := by
 induction h with
 | num d =>
  intro n hn
  obtain ⟨m, rfl⟩ : ∃ m, n = m + 1 := ⟨n - 1, by simp [tbulk] at hn; omega⟩
  exact fun x env s hg => rfl
 | var d =>
  intro n hn
  obtain ⟨m, rfl⟩ : ∃ m, n = m + 1 := ⟨n - 1, by simp [tbulk] at hn; omega⟩
  exact fun x env s hg => by
   show iG x s (eX [120] env) = _
   rw [hg.v]; rfl
 | str d =>
  intro n hn
  obtain ⟨m, rfl⟩ : ∃ m, n = m + 1 := ⟨n - 1, by simp [tbulk] at hn; omega⟩
  exact fun x env s hg => rfl
 | tru d =>
  intro n hn
  obtain ⟨m, rfl⟩ : ∃ m, n = m + 1 := ⟨n - 1, by simp [tbulk] at hn; omega⟩
  exact fun x env s hg => rfl
 | @iff d k a b c ga gb gc ha hb hc =>
  intro n hn
  simp only [tbulk, kbulk, lsum, List.length_nil] at hn
  obtain ⟨m, rfl⟩ : ∃ m, n = m + 1 := ⟨n - 1, by omega⟩
  intro x env s hg
  have e : uN (.node 19 [] [] [a, b, c]) = uN a + uN b + uN c := by simp [uN, uNs]; omega
  rw [e] at hg ⊢
  have k1 := eF (t := .node 19 [] [] [a, b, c]) (i := 0) rfl (ha m (by omega)) hg (by omega)
  have k2 := eF (t := .node 19 [] [] [a, b, c]) (i := 1) rfl (hb m (by omega)) (hg.dr (u := uN a) (v := uN b) (by omega)) (Nat.le_refl _)
  have k3 := eF (t := .node 19 [] [] [a, b, c]) (i := 2) rfl (hc m (by omega)) (hg.dr (u := uN a + uN b) (v := uN c) (by omega)) (Nat.le_refl _)
  show ifP (dS m) x (.node 19 [] [] [a, b, c]) env s = _
  rw [lM] at k2 k3
  have hk0 : k ≠ 0 := by rcases rB gb with h | h | h <;> omega
  unfold ifP
  rw [k1]
  simp only [ifS]
  rw [show aP ⟨7, 0⟩ ⟨7, 0⟩ = false from rfl, if_neg (by simp), k2]
  simp only [ifR]
  rw [k3]
  simp only [ifQ]
  rw [if_neg hk0, if_neg (by simp [aP])]
 | @lett d k a b ga gb ha hb =>
  intro n hn
  simp only [tbulk, kbulk, lsum, List.length_nil] at hn
  obtain ⟨m, rfl⟩ : ∃ m, n = m + 1 := ⟨n - 1, by omega⟩
  intro x env s hg
  have e : uN (.node 20 [121] [] [a, b]) = uN a + uN b := by simp [uN, uNs]
  rw [e] at hg ⊢
  have k1 := eF (t := .node 20 [121] [] [a, b]) (i := 0) rfl (ha m (by omega)) hg (by omega)
  have hg2 : GE x (⟨[121], ⟨6, 0⟩⟩ :: env) (sdr s (uN a)) (uN b) := by
   have h := hg.dr (u := uN a) (v := uN b) (by omega)
   exact ⟨by rw [eX, if_neg (by simp)]; exact h.v, h.sg, h.tg, h.tl, h.wp⟩
  have k2 := eF (t := .node 20 [121] [] [a, b]) (i := 1) rfl (hb m (by omega)) hg2 (Nat.le_refl _)
  show vc (dS m) x (.node 20 [121] [] [a, b]) env (aR (dS m) x (.node 20 [121] [] [a, b]) 0 env s) = _
  rw [k1]
  simp only [vc]
  rw [lM] at k2
  exact k2
 | @par d k a ga ha =>
  intro n hn
  simp only [tbulk, kbulk, lsum, List.length_nil] at hn
  obtain ⟨m, rfl⟩ : ∃ m, n = m + 1 := ⟨n - 1, by omega⟩
  exact mI (ha m (by omega))
 | @lss d a b ga gb ha hb =>
  intro n hn
  simp only [tbulk, kbulk, lsum, List.length_nil] at hn
  obtain ⟨m, rfl⟩ : ∃ m, n = m + 1 + 1 := ⟨n - 2, by omega⟩
  intro x env s hg
  have e : uN (.node 21 [60] [] [bn a, bn b]) = uN (bn a) + uN (bn b) := by simp [uN, uNs]
  rw [e] at hg ⊢
  have k1 := eF (t := .node 21 [60] [] [bn a, bn b]) (i := 0) rfl (mI (ha m (by omega))) hg (by omega)
  have k2 := eF (t := .node 21 [60] [] [bn a, bn b]) (i := 1) rfl (mI (hb m (by omega))) (hg.dr (u := uN (bn a)) (v := uN (bn b)) (by omega)) (Nat.le_refl _)
  show ma (dS (m + 1)) x (.node 21 [60] [] [bn a, bn b]) env (aR (dS (m + 1)) x (.node 21 [60] [] [bn a, bn b]) 0 env s) = _
  rw [k1]
  simp only [ma]
  rw [lM] at k2
  rw [k2]
  rfl
 | @call d a ga ha =>
  intro n hn
  simp only [tbulk, kbulk, lsum, List.length_nil] at hn
  obtain ⟨m, rfl⟩ : ∃ m, n = m + 1 := ⟨n - 1, by omega⟩
  intro x env s hg
  have e : uN (.node 16 [102] [] [.node 17 [] [] [a]]) = 1 + uN a := by simp [uN, uNs]
  rw [e] at hg ⊢
  show kR (dS m) x (.node 16 [102] [] [.node 17 [] [] [a]]) env s = _
  obtain ⟨tg, fa, rs, rl⟩ := s
  cases tg with
  | nil => have := hg.tl; simp at this
  | cons g r =>
   obtain ⟨g1, g2, g3⟩ := hg.tg 0 g rfl (by omega)
   have hG : lR x g = pS := by
    unfold lR
    rw [g1, g2, g3, hg.sg]; rfl
   have k1 := eF (t := .node 17 [] [] [a]) (i := 0) rfl (ha m (by omega)) ((hg.dr (u := 1) (v := uN a) (by omega)).go 0 (Nat.le_refl _)) (Nat.le_refl _)
   unfold kR
   simp only [List.headD_cons]
   rw [hG]
   have hF : pm x (.node 16 [102] [] [.node 17 [] [] [a]]) g pS (cr ⟨g :: r, fa, rs, rl⟩) = sdr ⟨g :: r, fa, rs, rl⟩ 1 := by
    unfold pm
    rw [g1]
    rfl
   rw [hF]
   simp only [Tree.kids, en]
   rw [show ((0 : Nat) : Int) = 0 from rfl] 
   rw [k1]
   simp only [lV, List.getElem?_cons_zero]
   rw [show aP ⟨5, 0⟩ ⟨5, 0⟩ = false from rfl, if_neg (by simp), lM]
 | @add d k a b hk ga gb ha hb =>
  intro n hn
  simp only [tbulk, kbulk, lsum, List.length_nil] at hn
  obtain ⟨m, rfl⟩ : ∃ m, n = m + 1 + 1 := ⟨n - 2, by omega⟩
  intro x env s hg
  have e : uN (.node 21 [43] [] [bn a, bn b]) = uN (bn a) + uN (bn b) := by simp [uN, uNs]
  rw [e] at hg ⊢
  have k1 := eF (t := .node 21 [43] [] [bn a, bn b]) (i := 0) rfl (mI (ha m (by omega))) hg (by omega)
  have k2 := eF (t := .node 21 [43] [] [bn a, bn b]) (i := 1) rfl (mI (hb m (by omega))) (hg.dr (u := uN (bn a)) (v := uN (bn b)) (by omega)) (Nat.le_refl _)
  show ma (dS (m + 1)) x (.node 21 [43] [] [bn a, bn b]) env (aR (dS (m + 1)) x (.node 21 [43] [] [bn a, bn b]) 0 env s) = _
  rw [k1]
  simp only [ma]
  rw [lM] at k2
  rw [k2]
  rcases hk with rfl | rfl <;> rfl
mutual
def useG : Tree → Bool
 | .node k w _ ks => (!(k == 16 || k == 9) || w == [102]) && useGs ks
def useGs : List Tree → Bool
 | [] => true
 | t :: r => useG t && useGs r
end
mutual
theorem useG_nod : ∀ (t : Tree) (q : List Int), useG t = true → ∀ x ∈ nodK t q, mq x.2 = true → x.2.text = [102]
 | .node k w ls ks, q, h, x, hx, hu => by
  simp only [useG, Bool.and_eq_true] at h
  simp only [nodK, List.mem_cons] at hx
  rcases hx with rfl | hx
  ·simp only [mq, Tree.kind] at hu
   rw [hu] at h
   simpa [Tree.text] using h.1
  ·exact useGs_nod ks q 0 h.2 x hx hu
theorem useGs_nod : ∀ (l : List Tree) (q : List Int) (i : Nat), useGs l = true → ∀ x ∈ nodKs l q i, mq x.2 = true → x.2.text = [102]
 | [], q, i, h, x, hx, hu => by simp [nodKs] at hx
 | t :: r, q, i, h, x, hx, hu => by
  simp only [useGs, Bool.and_eq_true] at h
  simp only [nodKs, List.mem_append] at hx
  rcases hx with hx | hx
  ·exact useG_nod t _ h.1 x hx hu
  ·exact useGs_nod r q (i + 1) h.2 x hx hu
end
theorem AI {d : Nat} {k : Int} {t : Tree} (h : GdT d k t) : useG t = true := by
 induction h with
 | num | var | str | tru => rfl
 | iff _ _ _ ha hb hc => simp [useG, useGs, ha, hb, hc]
 | lett _ _ ha hb => simp [useG, useGs, ha, hb]
 | par _ ha => simp [useG, useGs, ha]
 | lss _ _ ha hb => simp [useG, useGs, ha, hb]
 | call _ ha => simp [useG, useGs, ha]
 | add _ _ _ ha hb => simp [useG, useGs, ha, hb]
mutual
theorem tgs_uN (p : List Tree) (m : Int) : ∀ (t : Tree) (q : List Int), (ds p m (nodK t q)).length = uN t
 | .node k w ls ks, q => by
  simp only [nodK, ds, List.length_append, uN, tgs_uNs p m ks q 0, mq, Tree.kind]
  by_cases h : k = 16 ∨ k = 9
  ·have h' : (k == 16 || k == 9) = true := by simpa using h
   simp only [h', if_pos h, if_true, List.length_cons, List.length_nil, Nat.zero_add]
  ·have h' : (k == 16 || k == 9) = false := by simpa using h
   simp only [h', if_neg h, Bool.false_eq_true, if_false, List.length_nil]
theorem tgs_uNs (p : List Tree) (m : Int) : ∀ (l : List Tree) (q : List Int) (i : Nat), (ds p m (nodKs l q i)).length = uNs l
 | [], q, i => by simp [nodKs, ds, uNs]
 | t :: r, q, i => by simp only [nodKs, oe, List.length_append, uNs, tgs_uN p m t, tgs_uNs p m r]
end
theorem rr (p : List Tree) : ∀ (l : List Tree) (i : Nat), (jM p i l).length = uNs l
 | [], i => rfl
 | t :: r, i => by simp only [jM, List.length_append, uNs, tgs_uN, rr p r]
theorem uy (p : List Tree) (m : Int) : ∀ (l : List (List Int × Tree)) (g : GTarget), g ∈ ds p m l → ∃ x ∈ l, mq x.2 = true ∧ g = tgK p m x.1 x.2
 | [], g, h => by simp [ds] at h
 | x :: r, g, h => by
  simp only [ds, List.mem_append] at h
  rcases h with h | h
  ·split at h
   ·rename_i hu
    simp only [List.mem_singleton] at h
    exact ⟨x, by simp, hu, h⟩
   ·simp at h
  ·obtain ⟨y, h1, h2⟩ := uy p m r g h
   exact ⟨y, by simp [h1], h2⟩
theorem Cj {n i kk : Int} (h : i = n - 1) (hk : dn kk = true) : bc 2 n i kk = true := by
 simp only [bc]
 rw [if_neg (by decide), if_pos trivial, if_pos h]; exact hk
theorem uZ {d : Nat} {k r : Int} {b : Tree} (h : GdT d k b) (hd : d ≤ 4) (hr : iR r) : lJ (aJ r b) = true ∧ jH (aJ r b) = true ∧ kbulk (aJ r b) ≤ 10000000 := by
 have h1 := yu h
 have h2 := dv h
 have h3 := zB h
 have h4 : 4 ^ d ≤ 4 ^ 4 := Nat.pow_le_pow_right (by decide) hd
 have sp : shapeK (.node 4 [120] [] [.node 5 [] [] []]) = true := by decide +kernel
 have sr : shapeK (.node r [] [] []) = true := by rcases hr with rfl | rfl | rfl <;> decide +kernel
 have sf : shapeK (.node 2 [102] [] [.node 4 [120] [] [.node 5 [] [] []], .node 5 [] [] [], .node 12 [120] [] []]) = true := by decide +kernel
 have sg : shapeK (.node 2 [103] [] [.node 4 [120] [] [.node 5 [] [] []], .node r [] [] [], b]) = true := BQ (by decide +kernel) (by decide +kernel) (by decide +kernel) (by rcases hr with rfl | rfl | rfl <;> decide +kernel) (Cj (by decide) h2) sp sr h1
 have sm : shapeK (.node 1 [77] [] [.node 2 [102] [] [.node 4 [120] [] [.node 5 [] [] []], .node 5 [] [] [], .node 12 [120] [] []], .node 2 [103] [] [.node 4 [120] [] [.node 5 [] [] []], .node r [] [] [], b]]) = true := va (by decide +kernel) (by decide +kernel) (by decide +kernel) (show bc 1 2 1 2 = true by decide +kernel) sf sg
 refine ⟨?_, ?_, ?_⟩
 ·unfold aJ lJ
  simp only [List.all_cons, List.all_nil, Bool.and_true, sm, Tree.kind, Tree.kids, Bool.and_eq_true]
  refine ⟨rfl, by decide +kernel, ?_⟩
  unfold po
  rw [sg]
  rcases hr with rfl | rfl | rfl <;> rfl
 ·unfold aJ
  simp only [jH, sm, Bool.and_true]
  rfl
 ·simp only [aJ, kbulk, tbulk, lsum, List.length_cons, List.length_nil]; omega
theorem Cv (r : Int) (b : Tree) : jI (aJ r b) 0 [102] = (0, 0, true) := rfl
theorem uE {d : Nat} {k r : Int} {b : Tree} (h : GdT d k b) (hd : d ≤ 4) (hr : iR r) : (bl (aJ r b)).length = uNs (aJ r b) ∧ uNs (aJ r b) = uN b ∧ ∀ g ∈ bl (aJ r b), g.Free = false ∧ g.Module = 0 ∧ g.Def = 0 := by
 have hk := (uZ h hd hr).2.1
 have hr' : ¬ (r = 16 ∨ r = 9) := by rcases hr with rfl | rfl | rfl <;> decide
 refine ⟨by rw [bl, if_pos hk, rr], ?_, fun g hg => ?_⟩
 ·simp [aJ, uN, uNs, hr']
 ·rw [bl, if_pos hk] at hg
  have e : jM (aJ r b) 0 (aJ r b) = ds (aJ r b) 0 (nodK ((aJ r b).headD b) []) := by
   show ds (aJ r b) ((0 : Nat) : Int) (nodK _ []) ++ [] = _
   rw [List.append_nil]; rfl
  rw [e] at hg
  obtain ⟨x, hx, hu, rfl⟩ := uy _ _ _ _ hg
  have hut : useG ((aJ r b).headD b) = true := by
   have := AI h
   rcases hr with rfl | rfl | rfl <;> simp [aJ, useG, useGs, this]
  have ht := useG_nod _ _ hut x hx hu
  unfold tgK
  rw [ht, Cv]
  exact ⟨rfl, rfl, rfl⟩
def yE : Tree := .node 2 [102] [] [.node 4 [120] [] [.node 5 [] [] []], .node 5 [] [] [], .node 12 [120] [] []]
theorem Bu (x : Cx) (s : Sv) (h : x.pa ++ [((2 : Nat) : Int)] ≠ x.wp) : iH x yE pS s = s := by
 have e : iH x yE pS s = funQ x 2 ⟨5, 0⟩ (⟨5, 0⟩, knS x 2 ⟨5, 0⟩ s) := rfl
 rw [e]
 have : knS x 2 ⟨5, 0⟩ s = s := by unfold knS; rw [if_neg (fun h' => h h'.2)]
 rw [this]; rfl
def qH (r : Int) (b : Tree) : Tree := .node 2 [103] [] [.node 4 [120] [] [.node 5 [] [] []], .node r [] [] [], b]
theorem Br {d : Nat} {k r : Int} {b : Tree} (h : GdT d k b) (hr : iR r) (x : Cx) (s : Sv) (hg : GE (x.go 2) [⟨[120], ⟨5, 0⟩⟩] s (uN b)) : iH x (qH r b) ⟨[⟨5, 0⟩], ⟨r, 0⟩⟩ s = funQ x 2 ⟨r, 0⟩ (⟨k, 0⟩, knS x 2 ⟨k, 0⟩ (sdr s (uN b))) := by
 have e : iH x (qH r b) ⟨[⟨5, 0⟩], ⟨r, 0⟩⟩ s = funQ x 2 ⟨r, 0⟩ (uI x 2 (dS (tbulk (qH r b)) (x.go 2) b [⟨[120], ⟨5, 0⟩⟩] s)) := by
  rcases hr with rfl | rfl | rfl <;> rfl
 rw [e, BN h _ (by have := bd (t := qH r b) (i := 2) (u := b) rfl; omega) _ _ _ hg]
 rfl
theorem zb {d : Nat} {k r : Int} {b : Tree} (h : GdT d k b) (hd : d ≤ 4) (hr : iR r) (wp : List Int) (hw : wp = [] ∨ wp = [1, 2]) : dC (aJ r b) 0 wp = funQ (((cx0 (aJ r b) 0 wp).md 0).go 1) 2 ⟨r, 0⟩ (⟨k, 0⟩, knS (((cx0 (aJ r b) 0 wp).md 0).go 1) 2 ⟨k, 0⟩ (sdr ⟨bl (aJ r b), [], 0, 0⟩ (uN b))) := by
 obtain ⟨t1, t2, t3⟩ := uE h hd hr
 have e : dC (aJ r b) 0 wp = iH (((cx0 (aJ r b) 0 wp).md 0).go 1) (qH r b) ⟨[⟨5, 0⟩], ⟨r, 0⟩⟩ (iH (((cx0 (aJ r b) 0 wp).md 0).go 0) yE pS ⟨bl (aJ r b), [], 0, 0⟩) := by
  rcases hr with rfl | rfl | rfl <;> rfl
 rw [e, Bu _ _ (by rcases hw with rfl | rfl <;> (intro h; simp [Cx.go, Cx.md, cx0] at h))]
 refine Br h hr _ _ ⟨rfl, ?_, fun i g h1 h2 => t3 g (List.mem_of_getElem? h1), by rw [← t2, t1]; exact Nat.le_refl _, ?_⟩
 ·rcases hr with rfl | rfl | rfl <;> rfl
 ·rcases hw with rfl | rfl <;> simp [Cx.go, Cx.md, cx0]
theorem tK {d : Nat} {k r : Int} {b : Tree} (h : GdT d k b) (hd : d ≤ 4) (hr : iR r) : (dC (aJ r b) 0 []).fa = if k = r then [] else [⟨⟨0, [1, 2]⟩, 4⟩] := by
 rw [zb h hd hr [] (.inl rfl)]
 have e : ∀ s, knS (((cx0 (aJ r b) 0 []).md 0).go 1) 2 ⟨k, 0⟩ s = s := fun s => xo _ _ _ (by simp [cx0, Cx.md, Cx.go])
 rw [e]
 simp only [funQ]
 have hk := rB h
 rcases hk with rfl | rfl | rfl <;> rcases hr with rfl | rfl | rfl <;> rfl
theorem zJ {d : Nat} {k : Int} {b : Tree} (h : GdT d k b) (hd : d ≤ 4) : (dC (aJ k b) 0 [1, 2]).rs = k ∧ (dC (aJ k b) 0 [1, 2]).rl = 0 := by
 have hk := rB h
 rw [zb h hd hk [1, 2] (.inr rfl)]
 rcases hk with rfl | rfl | rfl <;> exact ⟨rfl, rfl⟩
theorem AT (l : List Int) (z1 z2 : Int) : fF l z1 z2 true := by
 have hL : fI l (decide (((l.length : Nat) : Int) ≤ 120)) := mD 0 _ _ (rfl)
 refine jL 0 _ _ _ _ (⟨_, hL, fun _ => ⟨true, vw, rfl⟩, fun hb => ?_⟩)
 have hl : l.length ≤ 1000000000 := by have := of_decide_eq_true hb; omega
 obtain ⟨r1, h1, h2, h3⟩ := sU (a := z1) (n := 3) (by decide) (by decide)
 obtain ⟨r2, g1, g2, g3⟩ := sU (a := z2) (n := 3) (by decide) (by decide)
 have k1 : iR (5 + r1) := by unfold iR; omega
 have k2 : iR (5 + r2) := by unfold iR; omega
 obtain ⟨b, a', f1, f2, f3⟩ := xh (L := l) (k := 5 + r1) (a := 0) 4 (by decide) k1 ⟨by omega, by omega, hl⟩
 have d4 : (4 : Nat) ≤ 4 := Nat.le_refl _
 obtain ⟨p1, p2, p3⟩ := uZ f2 d4 k1
 obtain ⟨q1, q2, q3⟩ := uZ f2 d4 k2
 have tp := (uE f2 d4 k1).1
 have tq := (uE f2 d4 k2).1
 have kp : Known (aJ (5 + r1) b) := ⟨p1, p3, by omega⟩
 have kq : Known (aJ (5 + r2) b) := ⟨q1, q3, by omega⟩
 obtain ⟨c1, c2⟩ := zJ f2 d4
 have hat : ie ((aJ (5 + r1) b).headD b) [1, 2] b true := by
  have hb := co (show (aJ (5 + r1) b)[0]? = some ((aJ (5 + r1) b).headD b) from rfl)
  exact CH ((aJ (5 + r1) b).headD b) [1, 2] (by omega) (by decide)
 have o := AB (m := 0) (q := [1, 2]) (nc p1) p3 kp.u (t := (aJ (5 + r1) b).headD b) rfl hat (dv f2) c2
 have o3 : ofK (aJ (5 + r1) b) ((0 : Nat) : Int) [1, 2] = (.node (5 + r1) [] [] [], 0) := by
  unfold ofK
  rw [if_neg (by show ¬ (dC (aJ (5 + r1) b) 0 [1, 2]).rs = 0; rw [c1]; omega)]
  show (vd (dC (aJ (5 + r1) b) 0 [1, 2]).rl.toNat (.node (dC (aJ (5 + r1) b) 0 [1, 2]).rs [] [] []), (0 : Int)) = _
  rw [c1, c2]; rfl
 rw [o3] at o
 have e1 : br (aJ (5 + r1) b) [] := kp.errs (by rw [tK f2 d4 k1, if_pos rfl]; exact pU)
 have e2 : br (aJ (5 + r2) b) (if 5 + r1 = 5 + r2 then [] else [⟨⟨0, [1, 2]⟩, 4⟩]) := kq.errs (by
  rw [tK f2 d4 k2]
  split
  ·exact pU
  ·exact wB _)
 have hR : gu l l 0 := mW 0 _ _ _ (⟨hl, rfl, rfl⟩)
 refine ⟨r1, h1, ⟨by omega, by omega⟩, r2, g1, ⟨by omega, by omega⟩, _, _, hR, b, _, _, f1, _, sv _ _, _, sv _ _, _, _, o, _, e2, _, e1, fun h => absurd rfl h, fun _ => ⟨fun h => absurd rfl h, fun _ => ⟨fun h => absurd rfl h, fun _ => ⟨fun h => absurd rfl h, fun _ => ⟨fun h => ⟨true, vw, fun _ => ?_, fun h => (by cases h)⟩, fun h => ⟨true, vw, fun _ => ⟨fun _ => ?_, fun h' => ?_⟩, fun h => (by cases h)⟩⟩⟩⟩⟩⟩
 ·rw [if_pos h]; rfl
 ·rw [if_neg h]
  exact ⟨_, rfl, fun _ => ⟨_, rfl, true, lU _, rfl⟩, fun h => absurd rfl h⟩
 ·rw [if_neg h] at h'
  exact absurd rfl h'
open Go.RowKit Go.ChangeShapes Go.WideShapes Go.Deep
theorem xt : Tryz.prog.cellsOf 3 = 1 := by kernel_rfl
theorem BS {H : Type} {enc : TypeId × Value → H} {W : World} {a0 : Option Addr} {len cap : Nat} {d : DataW H} {p : List MemPlace} (h : DataW.Trod enc Tryz.prog W 0 (fun _ => true) true 22 (.slice a0 len cap) d p) :
  ∃ zs : List Int, len = zs.length ∧ len ≤ cap ∧ cap ≤ maxLen ∧ RowIn Any W 1 a0 zs.length (zs.map fun z => .int .i64 z) := by
 obtain ⟨fuel, hf⟩ := h
 rcases open_ints Tryz.underlying22 Tryz.underlying3 xt hf with ⟨hcs, hx⟩ | ⟨a, len', cap', zs, hcs, hb, hl, hm, hlen, hx, hcell, hwf⟩
 ·simp [Value.cells] at hcs
  obtain ⟨rfl, rfl, rfl⟩ := hcs
  exact ⟨[], rfl, Nat.le_refl _, Nat.zero_le _, RowIn.none_⟩
 ·simp [Value.cells] at hcs
  obtain ⟨rfl, rfl, rfl⟩ := hcs
  simp only [if_true] at hlen
  have hlt : (zs.take len).length = len := by simp; omega
  refine ⟨zs.take len, hlt.symm, hl, hm, by simp, fun h0 => ?_⟩
  rw [hlt] at h0 ⊢
  have hs : a.spot = none := World.cell?_spot (a := a) (by have := hcell 0 (by omega); simpa [Addr.add] using this)
  obtain ⟨b, off, spot⟩ := a
  simp only at hs
  subst hs
  have hadd : ∀ k, (⟨b, off, none⟩ : Addr).add k = ⟨b, off + k, none⟩ := fun k => by unfold Addr.add; split <;> simp_all
  refine ⟨b, off, rfl, trivial, ?_, fun j hj => ?_⟩
  ·have := hcell 0 (by omega)
   exact World.block_lt_of_cell? W ⟨b, off, none⟩ (by simpa [Addr.add] using this)
  ·have hj' : j < len := by omega
   have := hcell j (by omega)
   rw [hadd] at this
   rw [this]
   simp [hj', List.getD_eq_getElem?_getD, show j < zs.length from by omega]
abbrev gI (W : World) : Nat → Prop := fun b => b < W.heap.size
theorem RowIn.live {W : World} {sz n : Nat} {A : Option Addr} {xs : List Value} (h : RowIn Any W sz A n xs) : RowIn (gI W) W sz A n xs := ⟨h.1, fun hp => by
 obtain ⟨b, off, h1, _, h3, h4⟩ := h.2 hp
 exact ⟨b, off, h1, h3, h3, h4⟩⟩
mutual
theorem TreeIs.live {W : World} : ∀ {t : Tree} {c : List Value}, TreeIs Any W t c → TreeIs (gI W) W t c
 | .node k s ls ks, c, h => by
  simp only [TreeIs] at h ⊢
  obtain ⟨A, m, B, n, h1, h2, h3, h4, h5, h6, cs, h7, h8⟩ := h
  exact ⟨A, m, B, n, h1, h2, h3, h4, h5, h6.live, cs, KidsAre.live h7, h8.live⟩
theorem KidsAre.live {W : World} : ∀ {ts : List Tree} {cs : List Value}, KidsAre Any W ts cs → KidsAre (gI W) W ts cs
 | [], cs, h => by simp only [KidsAre] at h ⊢; exact h
 | t :: r, cs, h => by
  simp only [KidsAre] at h ⊢
  obtain ⟨c, d, h1, h2, h3⟩ := h
  exact ⟨c, d, h1, TreeIs.live h2, KidsAre.live h3⟩
end
abbrev VLive (W : World) (v : V) (x : Value) : Prop := VRel (gI W) W (fun _ => none) v x
theorem Dj {W : World} {l : List Int} {A : Option Addr} {cap : Nat} (hc : l.length ≤ cap) (hm : cap ≤ maxLen) (hr : RowIn Any W 1 A l.length (l.map fun z => .int .i64 z)) : VLive W (.row 1 (l.map (V.int .i64))) (.slice A l.length cap) := by
 simp only [VLive, VRel]
 exact ⟨A, cap, _, by simp, by simpa using hc, hm, sI l, by simpa using hr.live⟩
theorem Dk {W : World} (z : Int) : VLive W (.int .i64 z) (.int .i64 z) := by simp only [VLive, VRel]
theorem Dh {fid : FuncId} {us : List V} {b : Bool} (h : kl Tryz.prog fid us (.bool b)) {W : World} (hgl : ∀ p ∈ nA, VRel (gI W) W ρ0 (.box p.2 0) (.pointer (some ⟨p.1, 0, none⟩)) := by exact fun p hp => nomatch hp) {xs : List Value} (hx : LRel (gI W) W (fun _ => none) us xs) : Calls Tryz.prog fid xs.toArray W fun e W' => e = .returned (.bool b) ∧ Ext W W' := by
 have hr' : HRel (gI W) W (fun _ => none) (⟨0, []⟩ : Hp).get := yP ⟨fun _ h => h, hgl⟩
 refine (h.2.2 _ W _ xs hr' hx).mono ?_
 rintro e W' ⟨x, S', ρ', v, H', rfl, rfl, h1, h2, h3⟩
 simp only [VRel] at h3
 subst h3
 have hno : ∀ b, ¬ ∃ id, own (fun _ => none) id ((⟨0, []⟩ : Hp).get id) b := fun b ⟨id, hb⟩ => by rw [mF] at hb; exact hb
 exact ⟨rfl, Chg.ext ⟨h2.chg.os, h2.chg.tape, h2.chg.output, h2.chg.size, fun b hb _ => h2.chg.block b hb (hno b)⟩⟩
theorem lr1 {W : World} {u : V} {x : Value} (h : VLive W u x) : LRel (gI W) W (fun _ => none) [u] [x] := ⟨x, [], rfl, h, rfl⟩
theorem lrc {W : World} {u : V} {us : List V} {x : Value} {xs : List Value} (h : VLive W u x) (k : LRel (gI W) W (fun _ => none) us xs) : LRel (gI W) W (fun _ => none) (u :: us) (x :: xs) := ⟨x, xs, rfl, h, k⟩
open Go.RowKit Go.ChangeShapes Go.WideShapes Lx Sx
theorem tA : Tryz.prog.cellsOf 61 = 2 := by kernel_rfl
theorem vX : Tryz.prog.cellsOf 3 = 1 := by kernel_rfl
theorem oB {W : World} {n : String} {z : Int} {g : Nat} {r : List (String × DataW Unit)} {ps : List MemPlace} (hg : Tryz.prog.globalNamed n = some g) (ht : (Tryz.prog.globals[g]?).map (·.type) = some 61) (h : DataW.LaidVars Tryz.prog W ((n, .agg [.lit (.int .i64 z), .lit (.int .i64 0)]) :: r) ps) :
  (∃ qs, DataW.LaidVars Tryz.prog W r qs) ∧ VRel (gI W) W ρ0 (.box [.int .i64 z, .int .i64 0] 0) (.pointer (some ⟨g, 0, none⟩)) := by
 obtain ⟨g', t, cs, fuel, p, q, h1, h2, h3, h4, h5, _⟩ := h
 rw [hg] at h1
 injection h1 with h1; subst h1
 rw [ht] at h2
 injection h2 with h2; subst h2
 refine ⟨⟨q, h5⟩, ?_⟩
 obtain ⟨y0, y1, n', hx, hl, h6, h7⟩ := trod_struct2 Tryz.underlying61 h4
 rw [tA] at hl
 simp only [vX] at h6 h7
 obtain ⟨a, e0, f0, _⟩ := DataW.trod_int Tryz.underlying3 h6
 obtain ⟨b, e1, f1, _⟩ := DataW.trod_int Tryz.underlying3 h7
 rw [f0, f1] at hx
 simp only [Prod.mk.injEq, DataW.agg.injEq, List.cons.injEq, DataW.lit.injEq, Lit.int.injEq, true_and, and_true] at hx
 obtain ⟨⟨rfl, rfl⟩, _⟩ := hx
 have hcs : cs.toList = [.int .i64 z, .int .i64 0] := by
  match hc : cs.toList, hl with
  | [c0, c1], _ =>
   rw [hc] at e0 e1
   simp only [List.drop_zero, List.drop_succ_cons, List.take_succ_cons, List.take_zero, List.cons.injEq, and_true] at e0 e1
   rw [e0, e1]
 unfold World.var? at h3
 rw [hg] at h3
 simp only [Option.bind_some] at h3
 split at h3
 ·rename_i cs' ty fz hb
  injection h3 with h3; subst h3
  have hlt : g < W.heap.size := by
   rcases Nat.lt_or_ge g W.heap.size with h | h
   ·exact h
   ·rw [Array.getElem?_eq_none h] at hb; cases hb
  simp only [VRel]
  refine ⟨g, 0, [.int .i64 z, .int .i64 0], rfl, hlt, hlt, by simp only [LRel, VRel]; exact ⟨_, _, rfl, rfl, _, _, rfl, rfl, rfl⟩, fun j hj => ?_⟩
  rw [← hcs]
  simp [World.cell?, hb]
 ·cases h3
theorem Di {W : World} {ps : List MemPlace} (h : DataW.LaidVars Tryz.prog W [("semvcs/typing.integer", Rows.laid_semvcs_typing_integer), ("semvcs/typing.text", Rows.laid_semvcs_typing_text), ("semvcs/typing.boolean", Rows.laid_semvcs_typing_boolean)] ps) : ∀ p ∈ nA, VRel (gI W) W ρ0 (.box p.2 0) (.pointer (some ⟨p.1, 0, none⟩)) := by
 obtain ⟨⟨q1, h1⟩, a1⟩ := oB (g := 0) (by kernel_rfl) (by kernel_rfl) h
 obtain ⟨⟨q2, h2⟩, a2⟩ := oB (g := 1) (by kernel_rfl) (by kernel_rfl) h1
 obtain ⟨_, a3⟩ := oB (g := 2) (by kernel_rfl) (by kernel_rfl) h2
 intro p hp
 simp only [nA, List.mem_cons, List.not_mem_nil, or_false] at hp
 rcases hp with rfl | rfl | rfl
 ·exact a1
 ·exact a2
 ·exact a3
def yo (cs : Array Value) : Obj → Obj
 | .cells _ t frozen => .cells cs t frozen
 | o => o
noncomputable def wE (os : Os) : World :=
 let w0 := World.holding Tryz.prog os ⟨#[], #[], []⟩
 { w0 with heap := ((w0.heap.modify 0 (yo #[.int .i64 5, .int .i64 0])).modify 1 (yo #[.int .i64 6, .int .i64 0])).modify 2 (yo #[.int .i64 7, .int .i64 0]) }
theorem CO (os : Os) (args : Array Value) : laidMet Tryz.prog Rows.typingHolesRow.laid ((wE os).forCall (fun _ _ => 0) ⟨#[], args, []⟩).memory :=
 laidMet_of_run' 8 (by kernel_rfl) (by kernel_rfl)
end Go.Proofs.YtkkkpdbnnjoepaaGreatDoor
