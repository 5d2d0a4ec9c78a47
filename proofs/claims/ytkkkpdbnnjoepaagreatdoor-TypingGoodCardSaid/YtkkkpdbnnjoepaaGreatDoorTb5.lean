/- Contracts of the functions that the law reaches, part 5. -/
import Derived.Test.YtkkkpdbnnjoepaaGreatDoorTb4
set_option linter.unusedVariables false
set_option linter.unusedSimpArgs false
namespace Go.Proofs.YtkkkpdbnnjoepaaGreatDoor
open Go.RowKit Lx Sx
set_option maxRecDepth 100000
set_option maxHeartbeats 1000000
def hD : Nat → Cx → Tree → Sv → Sv
 | 0, _, _, s => s
 | n + 1, x, u, s => if u.kind = 9 then (if (s.tg.headD noT).Free then faP x 1 [] (cr s) else cr s) else if u.kind = 8 then hD n (x.go ((0 : Nat) : Int)) (dp u 0) s else s
abbrev ckT (x : Cx) (s : Sv) (t : Tree) (i : Int) (s' : Sv) : Prop := bh x.p s.tg x.nm x.sg x.mo x.pa s.fa x.wm x.wp s.rs s.rl t i x.p s'.tg x.nm x.sg x.mo x.pa s'.fa x.wm x.wp s'.rs s'.rl
structure Sst (B u : Nat) (s s' : Sv) : Prop where
 tg : s'.tg = s.tg.drop u
 fa : s'.fa.length ≤ s.fa.length + 4 * B
theorem uT : ∀ (n : Nat) (u : Tree), tbulk u ≤ n → tyK u → ∀ (t : Tree) (i : Nat) (x : Cx) (s : Sv), t.kids[i]? = some u → x.pa.length + tbulk u + 1 ≤ 100000000 → s.fa.length + 1 ≤ 900000000 → uN u ≤ s.tg.length → ckT x s t i (hD n (x.go i) u s) ∧ Sst (tbulk u) (uN u) s (hD n (x.go i) u s)
 | 0, u, hb, _, _, _, _, _, _, _, _, _ => by have := dg u; omega
 | n + 1, u, hb, hu, t, i, x, s, ht, h1, h2, h3 => by
  have hbu := df u
  have hlen : x.pa.length + 1 ≤ 1000000000 := by omega
  rcases tT hu with ⟨h8, _, v, hv, hvt⟩ | ⟨h8, hk, _⟩
  ·rw [hv] at hbu
   simp only [kbulk] at hbu
   have hU : uN u = uN v := by rw [fo, hv, h8]; simp [uNs]
   have hv0 : u.kids[0]? = some v := by rw [hv]; rfl
   have e : hD (n + 1) (x.go i) u s = hD n ((x.go i).go ((0 : Nat) : Int)) v s := by simp [hD, h8, fZ hv0]
   obtain ⟨a1, a2⟩ := uT n v (by omega) hvt u 0 (x.go i) s hv0 (by simp [Cx.go]; omega) h2 (by omega)
   rw [e]
   refine ⟨cW 0 _ _ _ _ _ _ _ _ _ _ _ _ _ _ _ _ _ _ _ _ _ _ _ _ (⟨_, _, _, _, _, _, _, _, _, _, _, fi (x := x) (s := s) (i : Int) hlen, i, rfl, u, ht, fun h => absurd h (by omega), fun _ => ⟨fun _ => ⟨_, _, _, _, _, _, _, _, _, _, _, a1, _, _, _, _, _, _, _, _, _, _, _, fh (x := x) (i : Int), rfl, rfl, rfl, rfl, rfl, rfl, rfl, rfl, rfl, rfl, rfl⟩, fun h => absurd h8 h⟩⟩), ?_⟩
   exact ⟨by rw [a2.tg, hU], by have := a2.fa; omega⟩
  ·by_cases h9 : u.kind = 9
   ·have hU : uN u = 1 := by rw [fo, hk, h9]; simp [uNs]
    have huse := yV (x := x.go i) (s := s) (by omega)
    have e : hD (n + 1) (x.go i) u s = if (s.tg.headD noT).Free then faP (x.go i) 1 [] (cr s) else cr s := by simp [hD, h9]
    rw [e]
    by_cases hf : (s.tg.headD noT).Free = true
    ·rw [if_pos hf]
     refine ⟨cW 0 _ _ _ _ _ _ _ _ _ _ _ _ _ _ _ _ _ _ _ _ _ _ _ _ (⟨_, _, _, _, _, _, _, _, _, _, _, fi (x := x) (s := s) (i : Int) hlen, i, rfl, u, ht, fun _ => ⟨_, _, _, _, _, _, _, _, _, _, _, _, huse, fun _ => ⟨_, _, _, _, _, _, _, _, _, _, _, bX (x := x.go i) (s := cr s) 1 [] (by simp [Cx.go]; omega) (by simp [cr]; omega), _, _, _, _, _, _, _, _, _, _, _, fh (x := x) (s := faP (x.go i) 1 [] (cr s)) (i : Int), rfl, rfl, rfl, rfl, rfl, rfl, rfl, rfl, rfl, rfl, rfl⟩, fun h => absurd hf (by rw [h]; decide)⟩, fun h => absurd h9 h⟩), ?_⟩
     exact ⟨by rw [hU]; rfl, by rw [bI]; simp [cr]; omega⟩
    ·rw [if_neg hf]
     refine ⟨cW 0 _ _ _ _ _ _ _ _ _ _ _ _ _ _ _ _ _ _ _ _ _ _ _ _ (⟨_, _, _, _, _, _, _, _, _, _, _, fi (x := x) (s := s) (i : Int) hlen, i, rfl, u, ht, fun _ => ⟨_, _, _, _, _, _, _, _, _, _, _, _, huse, fun h => absurd h hf, fun _ => ⟨_, _, _, _, _, _, _, _, _, _, _, fh (x := x) (s := cr s) (i : Int), rfl, rfl, rfl, rfl, rfl, rfl, rfl, rfl, rfl, rfl, rfl⟩⟩, fun h => absurd h9 h⟩), ?_⟩
     exact ⟨by rw [hU]; rfl, by simp [cr]⟩
   ·have hU : uN u = 0 := by rw [fo, hk, if_neg]; simp [uNs]; have := hu.2; simp [kQ] at this; omega
    have e : hD (n + 1) (x.go i) u s = s := by simp [hD, h9, h8]
    rw [e]
    exact ⟨cW 0 _ _ _ _ _ _ _ _ _ _ _ _ _ _ _ _ _ _ _ _ _ _ _ _ (⟨_, _, _, _, _, _, _, _, _, _, _, fi (x := x) (s := s) (i : Int) hlen, i, rfl, u, ht, fun h => absurd h h9, fun _ => ⟨fun h => absurd h h8, fun _ => ⟨_, _, _, _, _, _, _, _, _, _, _, fh (x := x) (s := s) (i : Int), rfl, rfl, rfl, rfl, rfl, rfl, rfl, rfl, rfl, rfl, rfl⟩⟩⟩), by rw [hU]; rfl, by omega⟩
def ly (x : Cx) : List Tree → Nat → Sv → Sv
 | [], _, s => s
 | k :: r, i, s => ly x r (i + 1) (hD (tbulk (dp k 0)) ((x.go i).go ((0 : Nat) : Int)) (dp k 0) s)
def iP : List Tree → List Kn → Env
 | k :: r, q :: l => ⟨k.text, q⟩ :: iP r l
 | _, _ => []
def funQ (x : Cx) (i : Nat) (r : Kn) : Kn × Sv → Sv
 | (k, s) => if aP k r then faP x 4 [(i : Int)] s else s
def iH (x : Cx) (f : Tree) (g : aa) (s : Sv) : Sv :=
 funQ x (f.kids.length - 1) g.result (aR (dS (tbulk f)) x f (f.kids.length - 1) (iP (f.kids.take (f.kids.length - 2)) g.params) (hD (tbulk f) (x.go ((f.kids.length - 2 : Nat) : Int)) (dp f (f.kids.length - 2)) (ly x (f.kids.take (f.kids.length - 2)) 0 s)))
abbrev ckU (x : Cx) (s : Sv) (f : Tree) (g : aa) (s' : Sv) : Prop := cc x.p s.tg x.nm x.sg x.mo x.pa s.fa x.wm x.wp s.rs s.rl f g x.p s'.tg x.nm x.sg x.mo x.pa s'.fa x.wm x.wp s'.rs s'.rl
theorem mO {f : Tree} (hs : shapeK f = true) (h2 : f.kind = 2) : 2 ≤ f.kids.length ∧ (∀ (i : Nat) (u : Tree), f.kids[i]? = some u → i + 2 < f.kids.length → ∃ v, u.kind = 4 ∧ u.kids = [v] ∧ tyK v) ∧ (∀ u, f.kids[f.kids.length - 2]? = some u → tyK u) ∧ (∀ u, f.kids[f.kids.length - 1]? = some u → exT u) := by
 rw [dW] at hs
 simp only [Bool.and_eq_true, decide_eq_true_eq] at hs
 have hl := hs.1.1
 rw [h2] at hl
 have h1 := (jx (show 0 ≤ f0 f.kids.length 2 6 2 (-1) from hl)).1
 refine ⟨by omega, fun i u hu hi => ?_, fun u hu => ?_, fun u hu => ?_⟩
 ·obtain ⟨g1, g2⟩ := dT hs.2 hu
  rw [h2] at g1
  simp only [bc] at g1
  rw [if_neg (by omega), if_pos trivial, if_neg (by omega), if_neg (by omega)] at g1
  have h4 : u.kind = 4 := by simpa using g1
  rw [dW] at g2
  simp only [Bool.and_eq_true, decide_eq_true_eq] at g2
  have hl2 := g2.1.1
  rw [h4] at hl2
  have := jx (show 0 ≤ f0 u.kids.length 1 2 0 1 from hl2)
  obtain ⟨v, ev⟩ := vL (t := u) (by omega)
  have hv : u.kids[0]? = some v := by rw [ev]; rfl
  obtain ⟨g3, g4⟩ := dT g2.2 hv
  rw [h4] at g3
  exact ⟨v, h4, ev, g4, by simpa [bc] using g3⟩
 ·obtain ⟨g1, g2⟩ := dT hs.2 hu
  rw [h2] at g1
  simp only [bc] at g1
  rw [if_neg (by omega), if_pos trivial, if_neg (by omega), if_pos (by omega)] at g1
  exact ⟨g2, g1⟩
 ·obtain ⟨g1, g2⟩ := dT hs.2 hu
  rw [h2] at g1
  simp only [bc] at g1
  rw [if_neg (by omega), if_pos trivial, if_pos (by omega)] at g1
  exact ⟨g2, g1⟩
theorem wI {f : Tree} {g : aa} {x : Cx} {n : Nat} (hn : n ≤ f.kids.length) (hf : ∀ (i : Nat) (u : Tree), (f.kids.take n)[i]? = some u → ∃ v, u.kind = 4 ∧ u.kids = [v] ∧ tyK v) (hl : f.kids.length ≤ 100000000) : ∀ (k i : Nat) (s : Sv), k + i = n → x.pa.length + kbulk ((f.kids.take n).drop i) + 2 ≤ 100000000 → s.fa.length + 4 * kbulk ((f.kids.take n).drop i) + 1 ≤ 900000000 → uNs ((f.kids.take n).drop i) ≤ s.tg.length →
  Sst (kbulk ((f.kids.take n).drop i)) (uNs ((f.kids.take n).drop i)) s (ly x ((f.kids.take n).drop i) i s) ∧ ∀ (m : Nat) (s' : Sv), (∀ s1, s1 = ly x ((f.kids.take n).drop i) i s → bj m f g n x.sg x.nm x.p s1.tg x.mo x.pa s1.fa x.wm x.wp s1.rs s1.rl n x.p s'.tg x.nm x.sg x.mo x.pa s'.fa x.wm x.wp s'.rs s'.rl) → ∃ m', bj m' f g n x.sg x.nm x.p s.tg x.mo x.pa s.fa x.wm x.wp s.rs s.rl i x.p s'.tg x.nm x.sg x.mo x.pa s'.fa x.wm x.wp s'.rs s'.rl
 | 0, i, s, hk, _, _, _ => by
  have hd : (f.kids.take n).drop i = [] := List.drop_of_length_le (by simp; omega)
  have hi : i = n := by omega
  subst hi
  rw [hd]
  exact ⟨⟨by simp [ly, uNs], by simp [ly]⟩, fun m s' h => ⟨m, h _ rfl⟩⟩
 | k + 1, i, s, hk, h1, h2, h3 => by
  have hlt : i < (f.kids.take n).length := by simp; omega
  obtain ⟨u, hu⟩ : ∃ u, (f.kids.take n)[i]? = some u := ⟨_, List.getElem?_eq_getElem hlt⟩
  obtain ⟨v, hv4, hv, hvt⟩ := hf i u hu
  have hd := be hu
  have hbu := df u
  rw [hv] at hbu
  rw [hd] at h1 h2 h3 ⊢
  simp only [kbulk, uNs] at h1 h2 h3 hbu ⊢
  have hv0 : u.kids[0]? = some v := by rw [hv]; rfl
  have hU : uN u = uN v := by rw [fo, hv, hv4]; simp [uNs]
  obtain ⟨a1, a2⟩ := uT (tbulk v) v (Nat.le_refl _) hvt u 0 (x.go i) s hv0 (by simp [Cx.go]; omega) (by omega) (by omega)
  have e : ly x (u :: (f.kids.take n).drop (i + 1)) i s = ly x ((f.kids.take n).drop (i + 1)) (i + 1) (hD (tbulk v) ((x.go i).go ((0 : Nat) : Int)) v s) := by
   rw [ly, fZ hv0]
  rw [e]
  generalize hD (tbulk v) ((x.go i).go ((0 : Nat) : Int)) v s = s1 at a1 a2
  have q1 := a2.fa
  have q2 := a2.tg
  obtain ⟨b1, b2⟩ := wI (g := g) (x := x) hn hf hl k (i + 1) s1 (by omega) (by omega) (by omega) (by rw [q2, List.length_drop]; omega)
  refine ⟨⟨by rw [b1.tg, q2, List.drop_drop, hU], by have := b1.fa; omega⟩, fun m s' h => ?_⟩
  obtain ⟨m', hm⟩ := b2 m s' h
  exact ⟨m' + 1, eP m' _ _ _ _ _ _ _ _ _ _ _ _ _ _ _ _ _ _ _ _ _ _ _ _ _ _ (⟨fun _ => ⟨u, hu, _, _, _, _, _, _, _, _, _, _, _, fi (x := x) (s := s) (i : Int) (by omega), _, _, _, _, _, _, _, _, _, _, _, a1, _, _, _, _, _, _, _, _, _, _, _, fh (x := x) (s := s1) (i : Int), by omega, hm⟩, fun h => absurd hlt h⟩)⟩
theorem yN {f : Tree} {g : aa} {x : Cx} {s s' : Sv} {n : Nat} (hn : n + 2 = f.kids.length) (hg : n ≤ g.params.length) (hl : f.kids.length ≤ 100000000) {m0 : Nat} (fin : aX m0 f g x.p s.tg x.nm x.sg x.mo x.pa s.fa x.wm x.wp s.rs s.rl (iP (f.kids.take n) g.params) (-1) x.p s'.tg x.nm x.sg x.mo x.pa s'.fa x.wm x.wp s'.rs s'.rl) : ∀ k, k ≤ n → aX (m0 + k) f g x.p s.tg x.nm x.sg x.mo x.pa s.fa x.wm x.wp s.rs s.rl (iP ((f.kids.take n).drop k) (g.params.drop k)) ((k : Int) - 1) x.p s'.tg x.nm x.sg x.mo x.pa s'.fa x.wm x.wp s'.rs s'.rl
 | 0, _ => by simpa using fin
 | k + 1, hk => by
  have ih := yN hn hg hl fin k (by omega)
  obtain ⟨u, hu⟩ : ∃ u, f.kids[k]? = some u := ⟨_, List.getElem?_eq_getElem (by omega)⟩
  obtain ⟨q, hq⟩ : ∃ q, g.params[k]? = some q := ⟨_, List.getElem?_eq_getElem (by omega)⟩
  have hu' : (f.kids.take n)[k]? = some u := by rw [List.getElem?_take, if_pos (by omega)]; exact hu
  rw [be hu', be hq] at ih
  have e : (((k + 1 : Nat) : Int) - 1) = (k : Int) := by omega
  rw [e]
  exact eU (m0 + k) _ _ _ _ _ _ _ _ _ _ _ _ _ _ _ _ _ _ _ _ _ _ _ _ _ _ (⟨fun _ => ⟨k, rfl, u, hu, k, rfl, q, hq, ⟨by omega, by omega⟩, ih⟩, fun h => absurd (by omega) h⟩)
theorem vy {f : Tree} {g : aa} {x : Cx} {s : Sv} {L : Nat} (hs : shapeK f = true) (h2 : f.kind = 2) (hg : f.kids.length = g.params.length + 2) (hp : x.pa.length + tbulk f + 2 ≤ 100000000) (hf : s.fa.length + 4 * tbulk f + 1 ≤ 900000000) (ht : uN f ≤ s.tg.length) (hL : L + tbulk f ≤ 900000000) (hgp : ∀ q ∈ g.params, KOk L q) (hsg : ∀ k q, mlook k x.sg = some q → KOk L q.result) :
  ckU x s f g (iH x f g s) ∧ Sst (tbulk f) (uN f) s (iH x f g s) := by
 obtain ⟨s1, s2, s3, s4⟩ := mO hs h2
 have hkl := dg f
 have hB := df f
 obtain ⟨n, hn⟩ : ∃ n, n + 2 = f.kids.length := ⟨f.kids.length - 2, by omega⟩
 obtain ⟨r, hr⟩ : ∃ r, f.kids[n]? = some r := ⟨_, List.getElem?_eq_getElem (by omega)⟩
 obtain ⟨b, hb⟩ : ∃ b, f.kids[n + 1]? = some b := ⟨_, List.getElem?_eq_getElem (by omega)⟩
 have hrt := s3 r (by rw [show f.kids.length - 2 = n by omega]; exact hr)
 have hbx := s4 b (by rw [show f.kids.length - 1 = n + 1 by omega]; exact hb)
 have hsplit : f.kids = f.kids.take n ++ [r, b] := by
  have e1 : f.kids.drop n = [r, b] := by
   rw [be hr, be hb, List.drop_of_length_le (by omega)]
  rw [← e1, List.take_append_drop]
 have hKB : kbulk f.kids = kbulk (f.kids.take n) + tbulk r + tbulk b := by
  have : ∀ a c : List Tree, kbulk (a ++ c) = kbulk a + kbulk c := fun a c => by induction a with
   | nil => simp [kbulk]
   | cons y l ih => simp only [List.cons_append, kbulk, ih]; omega
  conv => lhs; rw [hsplit, this]
  simp [kbulk]; omega
 have hUU : uN f = uNs (f.kids.take n) + uN r + uN b := by
  have : ∀ a c : List Tree, uNs (a ++ c) = uNs a + uNs c := fun a c => by induction a with
   | nil => simp [uNs]
   | cons y l ih => simp only [List.cons_append, uNs, ih]; omega
  rw [fo, h2]
  conv => lhs; rw [hsplit, this]
  simp [uNs]; omega
 have hpar : ∀ (i : Nat) (u : Tree), (f.kids.take n)[i]? = some u → ∃ v, u.kind = 4 ∧ u.kids = [v] ∧ tyK v := fun i u hu => by
  rw [List.getElem?_take] at hu
  split at hu
  ·exact s2 i u hu (by omega)
  ·cases hu
 obtain ⟨A1, A2⟩ := wI (f := f) (g := g) (x := x) (n := n) (by omega) hpar (by omega) n 0 s (by omega) (by simp; omega) (by simp; omega) (by simp; omega)
 simp only [List.drop_zero] at A1 A2
 obtain ⟨sA, hsA⟩ : ∃ sA, sA = ly x (f.kids.take n) 0 s := ⟨_, rfl⟩
 rw [← hsA] at A1
 have qA := A1.fa
 have qT := A1.tg
 obtain ⟨B1, B2⟩ := uT (tbulk f) r (by omega) hrt f n x sA hr (by omega) (by omega) (by rw [qT, List.length_drop]; omega)
 obtain ⟨sB, hsB⟩ : ∃ sB, sB = hD (tbulk f) (x.go (n : Int)) r sA := ⟨_, rfl⟩
 rw [← hsB] at B1 B2
 have rA := B2.fa
 have rT := B2.tg
 obtain ⟨C1, C2⟩ := dx (rP (tbulk f)) (x := x) (env := iP (f.kids.take n) g.params) (s := sB) (L := L) hb (by omega) hbx ⟨by omega, by omega, by rw [rT, qT, List.drop_drop, List.length_drop]; omega, by omega, fun c hc => by
  have : ∀ (ks : List Tree) (ps : List Kn), (∀ q ∈ ps, KOk L q) → ∀ c ∈ iP ks ps, KOk L c.typ := fun ks => by
   induction ks with
   | nil => intro ps _ c hc; simp [iP] at hc
   | cons k r ih =>
    intro ps hps c hc
    cases ps with
    | nil => simp [iP] at hc
    | cons q l =>
     simp only [iP, List.mem_cons] at hc
     rcases hc with rfl | hc
     ·exact hps q List.mem_cons_self
     ·exact ih l (fun q hq => hps q (List.mem_cons_of_mem _ hq)) c hc
  exact this _ _ hgp c hc, hsg⟩
 have e0 : iH x f g s = funQ x (n + 1) g.result (aR (dS (tbulk f)) x f (n + 1) (iP (f.kids.take n) g.params) sB) := by
  unfold iH
  rw [show f.kids.length - 1 = n + 1 by omega, show f.kids.length - 2 = n by omega, fZ hr, ← hsA, ← hsB]
 rw [e0]
 generalize aR (dS (tbulk f)) x f (n + 1) (iP (f.kids.take n) g.params) sB = w at C1 C2 ⊢
 obtain ⟨k, sC⟩ := w
 have cA := C2.fa
 have cT := C2.tg
 simp only at cA cT
 have ei : (((f.kids.length : Nat) : Int) - 2 + 1) = ((n + 1 : Nat) : Int) := by omega
 have fin : ∀ s', s' = funQ x (n + 1) g.result (k, sC) → aX 1 f g x.p sB.tg x.nm x.sg x.mo x.pa sB.fa x.wm x.wp sB.rs sB.rl (iP (f.kids.take n) g.params) (-1) x.p s'.tg x.nm x.sg x.mo x.pa s'.fa x.wm x.wp s'.rs s'.rl := fun s' hs' => by
  refine eU 0 _ _ _ _ _ _ _ _ _ _ _ _ _ _ _ _ _ _ _ _ _ _ _ _ _ _ (⟨fun h => absurd h (by omega), fun _ => ⟨⟨by omega, by omega⟩, _, _, _, _, _, _, _, _, _, _, _, _, by rw [ei]; exact C1, _, ea k g.result, fun h => ⟨⟨by omega, by omega⟩, ?_⟩, fun h => ?_⟩⟩)
  ·have : s' = faP x 4 [((n + 1 : Nat) : Int)] sC := by rw [hs']; unfold funQ; simp only [if_pos h]
   subst this
   exact ⟨_, _, _, _, _, _, _, _, _, _, _, by rw [ei]; exact bX (x := x) (s := sC) 4 [((n + 1 : Nat) : Int)] (by simp; omega) (by omega), rfl, rfl, rfl, rfl, rfl, rfl, rfl, rfl, rfl, rfl, rfl⟩
  ·have : s' = sC := by rw [hs']; unfold funQ; simp only [h]; simp
   subst this
   exact ⟨rfl, rfl, rfl, rfl, rfl, rfl, rfl, rfl, rfl, rfl, rfl⟩
 have st : Sst (tbulk f) (uN f) s (funQ x (n + 1) g.result (k, sC)) := by
  have : (funQ x (n + 1) g.result (k, sC)).tg = sC.tg ∧ (funQ x (n + 1) g.result (k, sC)).fa.length ≤ sC.fa.length + 1 := by
   unfold funQ
   simp only []
   split
   ·exact ⟨rfl, by rw [bI]; omega⟩
   ·exact ⟨rfl, by omega⟩
  exact ⟨by rw [this.1, cT, rT, qT, List.drop_drop, List.drop_drop, hUU, Nat.add_assoc], by have := this.2; omega⟩
 refine ⟨?_, st⟩
 obtain ⟨m', hm⟩ := A2 (1 + n + 1) (funQ x (n + 1) g.result (k, sC)) fun s1 hs1 => by
  rw [← hsA] at hs1
  subst hs1
  refine eP (1 + n) _ _ _ _ _ _ _ _ _ _ _ _ _ _ _ _ _ _ _ _ _ _ _ _ _ _ (⟨fun h => absurd h (by rw [List.length_take]; omega), fun _ => ⟨_, _, _, _, _, _, _, _, _, _, _, by rw [show ((f.kids.length : Nat) : Int) - 2 = (n : Int) by omega]; exact B1, ⟨by omega, by omega⟩, ?_⟩⟩)
  have := yN (x := x) (s := sB) (g := g) hn (by omega) (by omega) (fin _ rfl) n (Nat.le_refl _)
  rw [List.drop_of_length_le (by simp; omega)] at this
  rw [show ((f.kids.length : Nat) : Int) - 2 - 1 = (n : Int) - 1 by omega]
  simpa [iP] using this
 exact jz m' _ _ _ _ _ _ _ _ _ _ _ _ _ _ _ _ _ _ _ _ _ _ _ _ (⟨n, by omega, by omega, hm⟩)
set_option maxHeartbeats 4000000
def lP (p0 r0 : Tree) : Prop := qS 30 [.agg (ao p0)] (.agg (ao r0))
def ie (p0 : Tree) (p1 : List Int) (r0 : Tree) (r1 : Bool) : Prop := qS 18 [.agg (ao p0), .row 1 (List.map (V.int .i64) p1)] (.tup [.agg (ao r0), .bool r1])
theorem uF (m : Nat) (p0 : Tree) (p1 : List Int) (r0 : Tree) (r1 : Bool) (h : ∃ c b, lw p0 p1 c b ∧ ((b = false) → (Tree.node 0 [] [] []) = r0 ∧ false = r1) ∧ ((b = true) → ∃ a, lP c a ∧ a = r0 ∧ true = r1)) : ie p0 p1 r0 r1 := by
 refine ⟨rfl, rfl, ?_⟩
 refine al 19 [] Tryz.func18 rfl rfl rfl (aA rfl) fun K hK => ?_
 refine gR 3 rfl <| gFP 0 rfl rfl rfl rfl <| gR 8 rfl ?_
 obtain ⟨c, b, hs3, h⟩ := h
 refine gC0 hs3 (by kernel_rfl) rfl rfl .rfl rfl <| gR 15 rfl <| qBh 15 rfl rfl rfl h gL gK (fun h => ?_) fun h => ?_
 refine gR 10 rfl ?_
 obtain ⟨rfl, rfl⟩ := h
 exact go_sub (F' := (mkF 19 0 [(4, .ptr 0 0), (5, .bool false)])) (H' := ⟨1, [(0, vC ((Tree.node 0 [] [] []).kind) ((Tree.node 0 [] [] []).text) ((Tree.node 0 [] [] []).leads) ((Tree.node 0 [] [] []).kids))]⟩) [1] [] rfl hK pq2 ⟨⟨_, rfl, rfl, (.cons .rfl (.cons .rfl (.cons (.nil 1) (.cons (.nil 4) .nil))))⟩, trivial⟩ rfl <| go_end ah (rs := [.cell 4 29, .tmp 5]) rfl rfl rfl
 refine gR 6 rfl ?_
 obtain ⟨a, hs4, h⟩ := h
 refine gC0 hs4 (by kernel_rfl) rfl rfl .rfl rfl <| gR 5 rfl ?_
 obtain ⟨rfl, rfl⟩ := h
 exact go_sub (F' := (mkF 19 0 [(4, .ptr 0 0), (5, .bool true)])) (H' := ⟨1, [(0, vC a.kind a.text a.leads a.kids)]⟩) [1] [] rfl hK pq2 (pqo1 rfl rfl) rfl <| go_end ah (rs := [.cell 4 29, .tmp 5]) rfl rfl rfl
def br (p0 : List Tree) (r0 : List ae) : Prop := aV [] Tryz.prog 12 [.row 4 (kidsV p0)] ⟨0, []⟩ (fun u G => u = .sl 0 ∧ G = ⟨1, [(0, .row 42 3 (List.map ae.w r0))]⟩)
def jj (p0 : List Tree) (p1 : GPlace) (r0 : Tree) (r1 : Int) : Prop := qS 11 [.row 4 (kidsV p0), .agg (GPlace.c p1)] (.tup [.agg (ao r0), .int .i64 r1])
theorem oz (m : Nat) (p0 : List Tree) (r0 : List ae) (h : ∃ z, eV p0 z ∧ ((z = false) → ([] : List ae) = r0) ∧ ((z = true) → ∃ α β, ∃ (v : (List ((Int × (List UInt8)) × ac))), ∃ (y : (List ((Int × Int) × aa))), ∃ γ f g δ i j k, dK p0 α β v y γ f g δ i j k ∧ ∃ l n, ∃ (c : (List ((Int × (List UInt8)) × ac))), ∃ (d : (List ((Int × Int) × aa))), ∃ o e b q r s t, dk α β v y γ f g δ i j k l n c d o e b q r s t ∧ ∃ a, aW b a ∧ a = r0)) : br p0 r0 := by
 refine al 20 [] Tryz.func12 rfl rfl rfl (aA rfl) fun K hK => ?_
 refine gR 9 rfl ?_
 obtain ⟨z, hs5, h⟩ := h
 refine gC0 hs5 (by kernel_rfl) rfl rfl .rfl rfl <| gR 3 rfl <| qBh 6 rfl rfl rfl h gL gK (fun h => ?_) fun h => ?_
 refine gR 8 rfl <| gNS 2 42 3 rfl rfl rfl rfl ?_
 subst h
 exact go_sub (F' := (mkF 20 0 [(2, .sl 0)])) (H' := ⟨1, [(0, .row 42 3 (List.map ae.w ([] : List ae)))]⟩) [0] [] rfl hK pq1 ⟨⟨_, rfl, rfl, rfl, rfl⟩, trivial⟩ rfl <| go_endD [] ah (rs := [.tmp 2]) rfl rfl ⟨rfl, rfl⟩
 refine gR 6 rfl ?_
 obtain ⟨α, β, v, y, γ, f, g, δ, i, j, k, hs6, h⟩ := h
 refine gC hs6 [] (by kernel_rfl) rfl rfl .rfl trivial rfl ?_
 rintro _ _ ⟨rfl, rfl⟩
 refine gHR 3 (List.map (V.int .i64) f) rfl (vF _ f) rfl <| gHR 4 (List.map ae.w g) rfl (vH _ g) rfl <| gHn ⟨5, [(4, .row 42 3 (List.map ae.w g)), (3, .row 3 1 (List.map (V.int .i64) f)), (2, .mp 84 81 (List.map (fun p => (fun x => V.agg [(V.int .i64 x.1), (V.int .i64 x.2)]) p.1) y) (List.map (fun p => aa.w p.2) y)), (1, .mp 137 61 (List.map (fun p => (fun x => V.agg [(V.int .i64 x.1), (V.str x.2)]) p.1) v) (List.map (fun p => ac.w p.2) v)), (0, vA α (.row 5 (List.map GTarget.w β)) γ δ i j k)]⟩ rfl ⟨rfl, rfl, rfl, rfl, rfl, trivial⟩ ?_
 refine gR 6 rfl ?_
 obtain ⟨l, n, c, d, o, e, b, q, r, s, t, hs7, h⟩ := h
 refine gCZ hs7 [0, 1, 2, 3, 4] ⟨⟨_, rfl, ⟨rfl, rfl, (vH _ g).symm⟩⟩, ⟨⟨_, rfl, ⟨rfl, rfl, (vF _ f).symm⟩⟩, ⟨⟨_, rfl, ⟨rfl, rfl, rfl, rfl⟩⟩, ⟨⟨_, rfl, ⟨rfl, rfl, rfl, rfl⟩⟩, ⟨⟨_, rfl, ⟨rfl, an.rfl⟩⟩, trivial⟩⟩⟩⟩⟩ ?_
 refine gHR 8 (List.map (V.int .i64) e) rfl (vF _ e) rfl <| gHR 9 (List.map ae.w b) rfl (vH _ b) rfl <| gHn ⟨10, [(9, .row 42 3 (List.map ae.w b)), (8, .row 3 1 (List.map (V.int .i64) e)), (2, .mp 84 81 (List.map (fun p => (fun x => V.agg [(V.int .i64 x.1), (V.int .i64 x.2)]) p.1) d) (List.map (fun p => aa.w p.2) d)), (1, .mp 137 61 (List.map (fun p => (fun x => V.agg [(V.int .i64 x.1), (V.str x.2)]) p.1) c) (List.map (fun p => ac.w p.2) c)), (0, .var 63 [.row 4 (kidsV l), .row 5 (List.map GTarget.w n), .sl 1, .sl 2, .int .i64 o, .sl 8, .sl 9, .int .i64 q, .row 1 (List.map (V.int .i64) r), .int .i64 s, .int .i64 t])]⟩ rfl ⟨rfl, rfl, rfl, rfl, rfl, trivial⟩ ?_
 refine gR 8 rfl ?_
 obtain ⟨a, hs8, h⟩ := h
 refine gCZ hs8 [9] ⟨⟨_, rfl, ⟨rfl, rfl, (vH _ b).symm⟩⟩, trivial⟩ ?_
 refine gHR 9 (List.map ae.w a) rfl (vH _ a) rfl <| gHn ⟨11, [(9, .row 42 3 (List.map ae.w a)), (8, .row 3 1 (List.map (V.int .i64) e)), (2, .mp 84 81 (List.map (fun p => (fun x => V.agg [(V.int .i64 x.1), (V.int .i64 x.2)]) p.1) d) (List.map (fun p => aa.w p.2) d)), (1, .mp 137 61 (List.map (fun p => (fun x => V.agg [(V.int .i64 x.1), (V.str x.2)]) p.1) c) (List.map (fun p => ac.w p.2) c)), (0, .var 63 [.row 4 (kidsV l), .row 5 (List.map GTarget.w n), .sl 1, .sl 2, .int .i64 o, .sl 8, .sl 9, .int .i64 q, .row 1 (List.map (V.int .i64) r), .int .i64 s, .int .i64 t])]⟩ rfl ⟨rfl, rfl, rfl, rfl, rfl, trivial⟩ ?_
 refine gR 12 rfl ?_
 subst h
 exact go_sub (F' := (mkF 20 0 [(2, .sl 0)])) (H' := ⟨1, [(0, .row 42 3 (List.map ae.w a))]⟩) [9] [] rfl hK pq1 ⟨⟨_, rfl, rfl, rfl, (vH _ a).symm⟩, trivial⟩ rfl <| go_endD [] ah (rs := [.tmp 2]) rfl rfl ⟨rfl, rfl⟩
def mS (m : Nat) (p0 : List Tree) (p1 : GPlace) (a : Tree) (b : Bool) (r0 : Tree) (r1 : Int) : Prop := ∀ (K : Ctx), aG K [] → Go Tryz.prog K (bodyPost Tryz.prog Tryz.f11 (SP K (fun u _ => u = .tup [.agg (ao r0), .int .i64 r1]))) (.ex .normal) [.seq (xF (ai Tryz.f11))] 88 (mkF 88 0 [(0, .row 4 (kidsV p0)), (3, .box (GPlace.c p1) 0), (4, .ptr 0 0), (6, .ptr 1 0), (7, .bool b)]) ⟨2, [(1, .var 29 (ao a)), (0, .var 29 [.int .i64 0, .str [], .nils, .nils])]⟩
def ku (m : Nat) (a b : Int) (c : List Tree) (d : Nat) (r0 : Tree) (r1 : Int) : Prop := ∀ (K : Ctx) (j1 : Nat), aG K [] → m ≤ j1 → qLG K Tryz.f11 (fun u _ => u = .tup [.agg (ao r0), .int .i64 r1]) (xE (xG (xF (ai Tryz.f11)))) [.loop (xE (xG (xF (ai Tryz.f11)))) j1, .blk 0, .seq (xG (xG (xA (ai Tryz.f11))))] 88 (mkF 88 0 [(4, .ptr 0 0), (9, .ptr 1 0), (80, .int .i64 a), (81, .int .i64 (d : Int))]) ⟨3, [(2, .row 29 4 (kidsV c)), (1, .var 29 [.int .i64 b, .str [], .nils, .sl 2]), (0, .var 29 [.int .i64 0, .str [], .nils, .nils])]⟩
theorem so (m : Nat) (p0 : List Tree) (p1 : GPlace) (r0 : Tree) (r1 : Int) (h : ∃ a, eV p0 a ∧ ((a = false) → (Tree.node 0 [] [] []) = r0 ∧ 5 = r1) ∧ ((a = true) → ((p1.Module < 0) → (Tree.node 0 [] [] []) = r0 ∧ 5 = r1) ∧ ((¬ p1.Module < 0) → (((p0.length : Int) ≤ p1.Module) → (Tree.node 0 [] [] []) = r0 ∧ 5 = r1) ∧ ((¬ (p0.length : Int) ≤ p1.Module) → ∃ b, p1.Module = ((b : Nat) : Int) ∧ ∃ c, p0[b]? = some c ∧ ∃ d e, ie c p1.Path d e ∧ mS m p0 p1 d e r0 r1)))) : jj p0 p1 r0 r1 := by
 refine ⟨rfl, rfl, ?_⟩
 refine al 88 [] Tryz.func11 rfl rfl rfl (aA rfl) fun K hK => ?_
 refine gR 3 rfl <| gFP 0 rfl rfl rfl rfl <| gR 8 rfl ?_
 obtain ⟨a, hs11, h⟩ := h
 refine gC0 hs11 (by kernel_rfl) rfl rfl .rfl rfl <| gR 2 rfl <| qBhZ 13 12 rfl rfl rfl rfl h gL gK (fun h => ?_) fun h => ?_
 refine gR 23 rfl ?_
 obtain ⟨rfl, rfl⟩ := h
 exact go_sub (F' := (mkF 88 0 [(4, .ptr 0 0), (5, .int .i64 5)])) (H' := ⟨1, [(0, vC ((Tree.node 0 [] [] []).kind) ((Tree.node 0 [] [] []).text) ((Tree.node 0 [] [] []).leads) ((Tree.node 0 [] [] []).kids))]⟩) [1] [] rfl hK pq2 ⟨⟨_, rfl, rfl, (.cons .rfl (.cons .rfl (.cons (.nil 1) (.cons (.nil 4) .nil))))⟩, trivial⟩ rfl <| go_end ah (rs := [.cell 4 29, .tmp 5]) rfl rfl rfl
 refine gR 5 rfl <| qBdZ 18 17 rfl rfl rfl rfl h (fun h => ?_) fun h => ?_
 refine gR 18 rfl ?_
 obtain ⟨rfl, rfl⟩ := h
 exact go_sub (F' := (mkF 88 0 [(4, .ptr 0 0), (5, .int .i64 5)])) (H' := ⟨1, [(0, vC ((Tree.node 0 [] [] []).kind) ((Tree.node 0 [] [] []).text) ((Tree.node 0 [] [] []).leads) ((Tree.node 0 [] [] []).kids))]⟩) [1] [] rfl hK pq2 ⟨⟨_, rfl, rfl, (.cons .rfl (.cons .rfl (.cons (.nil 1) (.cons (.nil 4) .nil))))⟩, trivial⟩ rfl <| go_end ah (rs := [.cell 4 29, .tmp 5]) rfl rfl rfl
 refine gR 4 rfl <| gV 22 (.int .i64 (p0.length : Int)) rfl (aM (aK _)) rfl <| gLB 21 rfl (aK _) fun hl12 => gR 4 rfl <| qBd 24 rfl rfl rfl h (fun h => ?_) fun h => ?_
 refine gR 10 rfl ?_
 obtain ⟨rfl, rfl⟩ := h
 exact go_sub (F' := (mkF 88 0 [(4, .ptr 0 0), (5, .int .i64 5)])) (H' := ⟨1, [(0, vC ((Tree.node 0 [] [] []).kind) ((Tree.node 0 [] [] []).text) ((Tree.node 0 [] [] []).leads) ((Tree.node 0 [] [] []).kids))]⟩) [1] [] rfl hK pq2 ⟨⟨_, rfl, rfl, (.cons .rfl (.cons .rfl (.cons (.nil 1) (.cons (.nil 4) .nil))))⟩, trivial⟩ rfl <| go_end ah (rs := [.cell 4 29, .tmp 5]) rfl rfl rfl
 refine gR 4 rfl <| gDs [] 12 14 rfl (by kernel_rfl) (by kernel_rfl) <| gDr [(0, 2), (1, 2), (2, 2)] (by kernel_rfl) rfl rfl ?_
 obtain ⟨b, f, h⟩ := h
 refine gV 29 (.int .i64 ((b : Nat) : Int)) rfl (cy f) rfl ?_
 obtain ⟨c, hxt0_3, h⟩ := h
 refine gYd 3 rfl (by kernel_rfl) (bx (aL hxt0_3) ah rfl rfl rfl rfl) rfl rfl <| gDr [(4, 2), (5, 2), (6, 2)] (by kernel_rfl) rfl rfl ?_
 obtain ⟨d, e, hs13, h⟩ := h
 apply dd (i := 7) (j := 11) (by kernel_rfl) rfl rfl rfl rfl
 exact (fT (L' := []) (by kernel_rfl) rfl rfl (oY hs13 .rfl [] rfl) (.inl rfl))
 exact (ce ah rfl rfl)
 exact gDr [(8, 2), (9, 2), (10, 2), (11, 0), (12, 1), (13, 1)] (by kernel_rfl) rfl rfl <| gDe (by kernel_rfl) <| gJ (h K hK) [1, 2] [] rfl hK pq5 (pqo2 rfl rfl rfl rfl) rfl
 refine nd 7 hs13 (by kernel_rfl) rfl (by kernel_rfl) rfl rfl .rfl rfl rfl ?_
 exact gDr [(8, 0), (9, 2), (10, 2), (12, 1), (13, 1)] (by kernel_rfl) rfl rfl <| gDe (by kernel_rfl) <| gJ (h K hK) [1, 2] [] rfl hK pq5 (pqo2 rfl rfl rfl rfl) rfl
theorem qn (m : Nat) (p0 : List Tree) (p1 : GPlace) (d : Tree) (β : Bool) (r0 : Tree) (r1 : Int) (h : ((β = false) → (Tree.node 0 [] [] []) = r0 ∧ 5 = r1) ∧ ((β = true) → ((d.kind < 10) → (Tree.node 0 [] [] []) = r0 ∧ 5 = r1) ∧ ((¬ d.kind < 10) → ((22 < d.kind) → (Tree.node 0 [] [] []) = r0 ∧ 5 = r1) ∧ ((¬ 22 < d.kind) → ((d.kind = 17) → (Tree.node 0 [] [] []) = r0 ∧ 5 = r1) ∧ ((d.kind ≠ 17) → ∃ y z, ∃ (t : (List ((Int × (List UInt8)) × ac))), ∃ (v : (List ((Int × Int) × aa))), ∃ α g i γ δ k l, dK p0 y z t v α g i γ δ k l ∧ ∃ n o, ∃ (e : (List ((Int × (List UInt8)) × ac))), ∃ (f : (List ((Int × Int) × aa))), ∃ q b c r s a j, dk y z t v α g i p1.Module p1.Path k l n o e f q b c r s a j ∧ ((a = 0) → (Tree.node 0 [] [] []) = r0 ∧ 20 = r1) ∧ ((a ≠ 0) → ku m j a ([] : List Tree) 0 r0 r1)))))) : mS (m + 1) p0 p1 d β r0 r1 := by
 intro K hK
 refine gR 7 rfl <| gB 39 rfl rfl rfl ?_ ?_ <;> intro hd
 refine gT 38 rfl hd rfl ?_
 replace hd := (gL hd)
 replace h := h.1 hd
 refine gR 26 rfl ?_
 obtain ⟨rfl, rfl⟩ := h
 exact go_sub (F' := (mkF 88 0 [(4, .ptr 0 0), (5, .int .i64 5)])) (H' := ⟨1, [(0, vC ((Tree.node 0 [] [] []).kind) ((Tree.node 0 [] [] []).text) ((Tree.node 0 [] [] []).leads) ((Tree.node 0 [] [] []).kids))]⟩) [0] [] rfl hK pq2 ⟨⟨_, rfl, rfl, (.cons .rfl (.cons .rfl (.cons (.nil 1) (.cons (.nil 4) .nil))))⟩, trivial⟩ rfl <| go_end ah (rs := [.cell 4 29, .tmp 5]) rfl rfl rfl
 refine gF 38 rfl hd rfl ?_
 replace hd := (gK hd)
 replace h := h.2 hd
 refine gR 5 rfl <| gB 44 rfl rfl rfl ?_ ?_ <;> intro hd
 refine gT 43 rfl hd rfl ?_
 replace hd := (of_decide_eq_true hd)
 replace h := h.1 hd
 refine gR 21 rfl ?_
 obtain ⟨rfl, rfl⟩ := h
 exact go_sub (F' := (mkF 88 0 [(4, .ptr 0 0), (5, .int .i64 5)])) (H' := ⟨1, [(0, vC ((Tree.node 0 [] [] []).kind) ((Tree.node 0 [] [] []).text) ((Tree.node 0 [] [] []).leads) ((Tree.node 0 [] [] []).kids))]⟩) [0] [] rfl hK pq2 ⟨⟨_, rfl, rfl, (.cons .rfl (.cons .rfl (.cons (.nil 1) (.cons (.nil 4) .nil))))⟩, trivial⟩ rfl <| go_end ah (rs := [.cell 4 29, .tmp 5]) rfl rfl rfl
 refine gF 43 rfl hd rfl ?_
 replace hd := (of_decide_eq_false hd)
 replace h := h.2 hd
 refine gR 5 rfl <| gB 49 rfl rfl rfl ?_ ?_ <;> intro hd
 refine gT 48 rfl hd rfl ?_
 replace hd := (of_decide_eq_true hd)
 replace h := h.1 hd
 refine gR 16 rfl ?_
 obtain ⟨rfl, rfl⟩ := h
 exact go_sub (F' := (mkF 88 0 [(4, .ptr 0 0), (5, .int .i64 5)])) (H' := ⟨1, [(0, vC ((Tree.node 0 [] [] []).kind) ((Tree.node 0 [] [] []).text) ((Tree.node 0 [] [] []).leads) ((Tree.node 0 [] [] []).kids))]⟩) [0] [] rfl hK pq2 ⟨⟨_, rfl, rfl, (.cons .rfl (.cons .rfl (.cons (.nil 1) (.cons (.nil 4) .nil))))⟩, trivial⟩ rfl <| go_end ah (rs := [.cell 4 29, .tmp 5]) rfl rfl rfl
 refine gF 48 rfl hd rfl ?_
 replace hd := (of_decide_eq_false hd)
 replace h := h.2 hd
 refine gR 6 rfl <| gB 53 rfl rfl rfl ?_ ?_ <;> intro hd
 replace hd := (eq_of_beq hd)
 replace h := h.1 hd
 refine gR 10 rfl ?_
 obtain ⟨rfl, rfl⟩ := h
 exact go_sub (F' := (mkF 88 0 [(4, .ptr 0 0), (5, .int .i64 5)])) (H' := ⟨1, [(0, vC ((Tree.node 0 [] [] []).kind) ((Tree.node 0 [] [] []).text) ((Tree.node 0 [] [] []).leads) ((Tree.node 0 [] [] []).kids))]⟩) [0] [] rfl hK pq2 ⟨⟨_, rfl, rfl, (.cons .rfl (.cons .rfl (.cons (.nil 1) (.cons (.nil 4) .nil))))⟩, trivial⟩ rfl <| go_end ah (rs := [.cell 4 29, .tmp 5]) rfl rfl rfl
 replace hd := (ne_of_beq_false hd)
 replace h := h.2 hd
 refine gR 6 rfl ?_
 obtain ⟨y, z, t, v, α, g, i, γ, δ, k, l, hs14, h⟩ := h
 refine gC hs14 [] (by kernel_rfl) rfl rfl .rfl trivial rfl ?_
 rintro _ _ ⟨rfl, rfl⟩
 refine gHR 5 (List.map (V.int .i64) g) rfl (vF _ g) rfl <| gHR 6 (List.map ae.w i) rfl (vH _ i) rfl <| gHn ⟨7, [(6, .row 42 3 (List.map ae.w i)), (5, .row 3 1 (List.map (V.int .i64) g)), (4, .mp 84 81 (List.map (fun p => (fun x => V.agg [(V.int .i64 x.1), (V.int .i64 x.2)]) p.1) v) (List.map (fun p => aa.w p.2) v)), (3, .mp 137 61 (List.map (fun p => (fun x => V.agg [(V.int .i64 x.1), (V.str x.2)]) p.1) t) (List.map (fun p => ac.w p.2) t)), (2, .var 63 [.row 4 (kidsV y), .row 5 (List.map GTarget.w z), .sl 3, .sl 4, .int .i64 α, .sl 5, .sl 6, .int .i64 γ, .row 1 (List.map (V.int .i64) δ), .int .i64 k, .int .i64 l]), (1, .var 29 (ao d)), (0, .var 29 [.int .i64 0, .str [], .nils, .nils])]⟩ rfl ⟨rfl, rfl, rfl, rfl, rfl, rfl, rfl, trivial⟩ ?_
 refine gR 15 rfl ?_
 obtain ⟨n, o, e, f, q, b, c, r, s, a, j, hs15, h⟩ := h
 refine gCZ hs15 [2, 3, 4, 5, 6] ⟨⟨_, rfl, ⟨rfl, rfl, (vH _ i).symm⟩⟩, ⟨⟨_, rfl, ⟨rfl, rfl, (vF _ g).symm⟩⟩, ⟨⟨_, rfl, ⟨rfl, rfl, rfl, rfl⟩⟩, ⟨⟨_, rfl, ⟨rfl, rfl, rfl, rfl⟩⟩, ⟨⟨_, rfl, ⟨rfl, an.rfl⟩⟩, trivial⟩⟩⟩⟩⟩ ?_
 refine gHR 10 (List.map (V.int .i64) b) rfl (vF _ b) rfl <| gHR 11 (List.map ae.w c) rfl (vH _ c) rfl <| gHn ⟨12, [(11, .row 42 3 (List.map ae.w c)), (10, .row 3 1 (List.map (V.int .i64) b)), (4, .mp 84 81 (List.map (fun p => (fun x => V.agg [(V.int .i64 x.1), (V.int .i64 x.2)]) p.1) f) (List.map (fun p => aa.w p.2) f)), (3, .mp 137 61 (List.map (fun p => (fun x => V.agg [(V.int .i64 x.1), (V.str x.2)]) p.1) e) (List.map (fun p => ac.w p.2) e)), (2, .var 63 [.row 4 (kidsV n), .row 5 (List.map GTarget.w o), .sl 3, .sl 4, .int .i64 q, .sl 10, .sl 11, .int .i64 r, .row 1 (List.map (V.int .i64) s), .int .i64 a, .int .i64 j]), (1, .var 29 (ao d)), (0, .var 29 [.int .i64 0, .str [], .nils, .nils])]⟩ rfl ⟨rfl, rfl, rfl, rfl, rfl, rfl, rfl, trivial⟩ ?_
 refine gR 13 rfl <| gB 68 rfl rfl rfl ?_ ?_ <;> intro hd
 replace hd := (eq_of_beq hd)
 replace h := h.1 hd
 refine gR 10 rfl ?_
 obtain ⟨rfl, rfl⟩ := h
 exact go_sub (F' := (mkF 88 0 [(4, .ptr 0 0), (5, .int .i64 20)])) (H' := ⟨1, [(0, vC ((Tree.node 0 [] [] []).kind) ((Tree.node 0 [] [] []).text) ((Tree.node 0 [] [] []).leads) ((Tree.node 0 [] [] []).kids))]⟩) [0] [] rfl hK pq2 ⟨⟨_, rfl, rfl, (.cons .rfl (.cons .rfl (.cons (.nil 1) (.cons (.nil 4) .nil))))⟩, trivial⟩ rfl <| go_end ah (rs := [.cell 4 29, .tmp 5]) rfl rfl rfl
 replace hd := (ne_of_beq_false hd)
 replace h := h.2 hd
 refine gR 15 rfl <| go_sub (F' := (mkF 88 0 [(4, .ptr 0 0), (8, .ptr 1 0), (9, .ptr 2 0)])) (H' := ⟨7, [(6, .row 42 3 (List.map ae.w c)), (5, .row 3 1 (List.map (V.int .i64) b)), (4, .mp 84 81 (List.map (fun p => (fun x => V.agg [(V.int .i64 x.1), (V.int .i64 x.2)]) p.1) f) (List.map (fun p => aa.w p.2) f)), (3, .mp 137 61 (List.map (fun p => (fun x => V.agg [(V.int .i64 x.1), (V.str x.2)]) p.1) e) (List.map (fun p => ac.w p.2) e)), (2, .var 29 [.int .i64 a, .str [], .nils, .nils]), (1, .var 63 [.row 4 (kidsV n), .row 5 (List.map GTarget.w o), .sl 3, .sl 4, .int .i64 q, .sl 5, .sl 6, .int .i64 r, .row 1 (List.map (V.int .i64) s), .int .i64 a, .int .i64 j]), (0, .var 29 [.int .i64 0, .str [], .nils, .nils])]⟩) [0, 2, 12, 3, 4, 10, 11] [] rfl hK pq3 ⟨⟨_, rfl, rfl, rfl, (vH _ c).symm⟩, ⟨_, rfl, rfl, rfl, (vF _ b).symm⟩, ⟨_, rfl, rfl, rfl, rfl, rfl⟩, ⟨_, rfl, rfl, rfl, rfl, rfl⟩, (pqo3 rfl rfl rfl rfl rfl rfl)⟩ rfl ?_
 exact gR 12 rfl <| go_loop m <| gNC 2 3 29 4 rfl rfl rfl rfl <| gJ (h K _ hK (by omega)) [0, 2, 7] [] rfl hK pq4 ⟨⟨_, rfl, rfl, rfl, rfl⟩, (pqo2 rfl rfl rfl rfl)⟩ rfl
theorem qm (m : Nat) (d a : Int) (b : List Tree) (c : Nat) (r0 : Tree) (r1 : Int) (h : (((c : Int) < d) → c + 1 ≤ 9223372036854775807 ∧ ku m d 8 [(Tree.node a [] [] b)] (c + 1) r0 r1) ∧ ((¬ (c : Int) < d) → (Tree.node a [] [] b) = r0 ∧ 0 = r1)) : ku (m + 1) d a b c r0 r1 := by
 intro K j1 hK hj1
 obtain ⟨j1, rfl⟩ : ∃ j, j1 = j + 1 := ⟨j1 - 1, by omega⟩
 refine gR 6 rfl <| gB 82 rfl rfl rfl ?_ ?_ <;> intro hd
 replace hd := (of_decide_eq_true hd)
 replace h := h.1 hd
 refine gR 7 rfl <| gFR 2 rfl (dJ _) rfl rfl <| gS 83 (.agg [.int .i64 a, .str [], .row 1 [], .row 4 (kidsV b)]) rfl (.agg (.cons .rfl (.cons .rfl (.cons (.nil 1) (.cons .rfl .nil))))) rfl <| gR 1 rfl <| gHR 3 (kidsV [(Tree.node a [] [] b)]) rfl (lc (Tree.node a [] [] b)) rfl <| gR 6 rfl ?_
 obtain ⟨hb, h⟩ := h
 exact gR 1 rfl <| gV 86 (.int .i64 ((c + 1 : Nat) : Int)) rfl (au (by omega) (by omega)) rfl <| gR 2 rfl <| go_xloop <| gJ (h K _ hK (by omega)) [0, 1, 3] [] rfl hK pq4 ⟨⟨_, rfl, rfl, rfl, (Aj _ [(Tree.node a [] [] b)]).symm⟩, (pqo2 rfl rfl rfl rfl)⟩ rfl
 replace hd := (of_decide_eq_false hd)
 replace h := h.2 hd
 refine gR 3 rfl <| go_xloopE <| gR 10 rfl <| gFR 2 rfl (dJ _) rfl rfl ?_
 obtain ⟨rfl, rfl⟩ := h
 exact go_sub (F' := (mkF 88 0 [(4, .ptr 0 0), (5, .int .i64 0)])) (H' := ⟨1, [(0, vC ((Tree.node a [] [] b).kind) ((Tree.node a [] [] b).text) ((Tree.node a [] [] b).leads) ((Tree.node a [] [] b).kids))]⟩) [0] [] rfl hK pq2 ⟨⟨_, rfl, rfl, (.cons .rfl (.cons .rfl (.cons (.nil 1) (.cons .rfl .nil))))⟩, trivial⟩ rfl <| go_end ah (rs := [.cell 4 29, .tmp 5]) rfl rfl rfl
def noG : aa := ⟨[], ⟨0, 0⟩⟩
def jn (x : Cx) : List Tree → Nat → Sv → Sv
 | [], _, s => s
 | f :: r, d, s => jn x r (d + 1) (iH (x.go (d : Int)) f ((mlook (x.mo, (d : Int)) x.sg).getD noG) s)
def Cx.md (x : Cx) (m : Int) : Cx := { x with mo := m }
def jd (x : Cx) : List Tree → Nat → Sv → Sv
 | [], _, s => s
 | t :: r, m, s => jd x r (m + 1) (jn (x.md (m : Int)) t.kids 0 s)
def moF (z : Int) : List Tree → Nat → Int
 | [], _ => z
 | _ :: r, m => moF (m : Int) r (m + 1)
theorem lQ {l : List Tree} {i : Nat} {u : Tree} (h : l[i]? = some u) : kbulk (l.drop i) = tbulk u + kbulk (l.drop (i + 1)) := by rw [be h, kbulk]
theorem mH {l : List Tree} {i : Nat} {u : Tree} (h : l[i]? = some u) : uNs (l.drop i) = uN u + uNs (l.drop (i + 1)) := by rw [be h, uNs]
structure DefOk (sg : List ((Int × Int) × aa)) (L : Nat) (m d : Nat) (f : Tree) : Prop where
 s : shapeK f = true
 k : f.kind = 2
 g : ∃ g, mlook ((m : Int), (d : Int)) sg = some g ∧ f.kids.length = g.params.length + 2 ∧ ∀ q ∈ g.params, KOk L q
theorem xd {x : Cx} {t : Tree} {m L : Nat} (hx : x.mo = m) (hm : m ≤ 1000000000) (hok : ∀ (d : Nat) (f : Tree), t.kids[d]? = some f → DefOk x.sg L m d f) (hsg : ∀ k q, mlook k x.sg = some q → KOk L q.result) (hkl : t.kids.length ≤ 100000000) : ∀ (k d : Nat) (s : Sv), k + d = t.kids.length → x.pa.length + kbulk (t.kids.drop d) + 4 ≤ 100000000 → s.fa.length + 4 * kbulk (t.kids.drop d) + 1 ≤ 900000000 → uNs (t.kids.drop d) ≤ s.tg.length → L + kbulk (t.kids.drop d) ≤ 900000000 →
  Sst (kbulk (t.kids.drop d)) (uNs (t.kids.drop d)) s (jn x (t.kids.drop d) d s) ∧ ∀ (M : Nat) (z : Int) (s' : Sv), (∀ s1, s1 = jn x (t.kids.drop d) d s → bU M x.p x.mo (m + 1) x.sg x.nm x.p s1.tg x.pa s1.fa x.wm x.wp s1.rs s1.rl x.p s'.tg x.nm x.sg z x.pa s'.fa x.wm x.wp s'.rs s'.rl) → ∃ M', bt M' x.p t x.sg x.nm x.p s.tg x.mo x.pa s.fa x.wm x.wp s.rs s.rl d m m x.p s'.tg x.nm x.sg z x.pa s'.fa x.wm x.wp s'.rs s'.rl
 | 0, d, s, hk, _, _, _, _ => by
  have hd : t.kids.drop d = [] := List.drop_of_length_le (by omega)
  rw [hd]
  exact ⟨⟨by simp [jn, uNs], by simp [jn]⟩, fun M z s' h => ⟨M + 1, gx M _ _ _ _ _ _ _ _ _ _ _ _ _ _ _ _ _ _ _ _ _ _ _ _ _ _ _ (⟨fun h => absurd h (by omega), fun _ => ⟨by omega, h _ rfl⟩⟩)⟩⟩
 | k + 1, d, s, hk, h1, h2, h3, h4 => by
  have hlt : d < t.kids.length := by omega
  obtain ⟨f, hf⟩ : ∃ f, t.kids[d]? = some f := ⟨_, hZ hlt⟩
  obtain ⟨o1, o2, g, o3, o4, o5⟩ := hok d f hf
  have e1 := lQ hf
  have e2 := mH hf
  obtain ⟨a1, a2⟩ := vy (x := x.go (d : Int)) (s := s) (L := L) (g := g) o1 o2 o4 (by simp [Cx.go]; omega) (by omega) (by omega) (by omega) o5 hsg
  have e : jn x (t.kids.drop d) d s = jn x (t.kids.drop (d + 1)) (d + 1) (iH (x.go (d : Int)) f g s) := by
   rw [be hf, jn, hx, o3]; rfl
  rw [e]
  generalize iH (x.go (d : Int)) f g s = s1 at a1 a2
  have q1 := a2.fa
  have q2 := a2.tg
  obtain ⟨b1, b2⟩ := xd hx hm hok hsg hkl k (d + 1) s1 (by omega) (by omega) (by omega) (by rw [q2, List.length_drop]; omega) (by omega)
  refine ⟨⟨by rw [b1.tg, q2, List.drop_drop, e2], by have := b1.fa; omega⟩, fun M z s' h => ?_⟩
  obtain ⟨M', hM⟩ := b2 M z s' h
  refine ⟨M' + 2, gx (M' + 1) _ _ _ _ _ _ _ _ _ _ _ _ _ _ _ _ _ _ _ _ _ _ _ _ _ _ _ (⟨fun _ => ⟨f, hf, _, _, _, _, _, _, _, _, _, _, _, fi (x := x) (s := s) (d : Int) (by omega), fun _ => ⟨fun h => absurd (h.symm.trans o3) (by simp), fun g' hg' => ?_⟩, fun h => absurd o2 h⟩, fun h => absurd hlt h⟩)⟩
  rw [o3] at hg'
  injection hg' with hg'
  subst hg'
  exact ⟨_, _, _, _, _, _, _, _, _, _, _, a1, ld M' _ _ _ _ _ _ _ _ _ _ _ _ _ _ _ _ _ _ _ _ _ _ _ _ _ _ _ (⟨_, _, _, _, _, _, _, _, _, _, _, fh (x := x) (s := s1) (d : Int), by omega, hM⟩)⟩
theorem xk {x : Cx} {L : Nat} (hpl : x.p.length ≤ 100000000) (hok : ∀ (m : Nat) (t : Tree) (d : Nat) (f : Tree), x.p[m]? = some t → t.kids[d]? = some f → DefOk x.sg L m d f) (hsg : ∀ k q, mlook k x.sg = some q → KOk L q.result) : ∀ (k m : Nat) (z : Int) (s : Sv), k + m = x.p.length → x.pa.length + kbulk (x.p.drop m) + 4 ≤ 100000000 → s.fa.length + 4 * kbulk (x.p.drop m) + 1 ≤ 900000000 → (∀ (m : Nat) (t : Tree), x.p[m]? = some t → t.kind = 1) → uNs (x.p.drop m) ≤ s.tg.length → L + kbulk (x.p.drop m) ≤ 900000000 →
  ∃ M, bU M x.p z m x.sg x.nm x.p s.tg x.pa s.fa x.wm x.wp s.rs s.rl x.p (jd x (x.p.drop m) m s).tg x.nm x.sg (moF z (x.p.drop m) m) x.pa (jd x (x.p.drop m) m s).fa x.wm x.wp (jd x (x.p.drop m) m s).rs (jd x (x.p.drop m) m s).rl
 | 0, m, z, s, hk, _, _, _, _, _ => by
  have hd : x.p.drop m = [] := List.drop_of_length_le (by omega)
  rw [hd]
  exact ⟨1, gG 0 _ _ _ _ _ _ _ _ _ _ _ _ _ _ _ _ _ _ _ _ _ _ _ _ (⟨fun h => absurd h (by omega), fun _ => ⟨rfl, rfl, rfl, rfl, rfl, rfl, rfl, rfl, rfl, rfl, rfl⟩⟩)⟩
 | k + 1, m, z, s, hk, h1, h2, hk1, h3, h4 => by
  have hlt : m < x.p.length := by omega
  obtain ⟨t, ht⟩ : ∃ t, x.p[m]? = some t := ⟨_, List.getElem?_eq_getElem hlt⟩
  have e1 := lQ ht
  have e2 := mH ht
  have hB := df t
  have hU : uN t = uNs t.kids := by rw [fo, hk1 m t ht]; simp
  have hkl := dg t
  obtain ⟨a1, a2⟩ := xd (x := x.md (m : Int)) (t := t) (m := m) (L := L) rfl (by omega) (fun d f hf => hok m t d f ht hf) hsg (by omega) t.kids.length 0 s (by omega) (by simp [Cx.md]; omega) (by simp; omega) (by simp; omega) (by simp; omega)
  simp only [List.drop_zero] at a1 a2
  have q1 := a1.fa
  have q2 := a1.tg
  obtain ⟨s1, hs1⟩ : ∃ s1, s1 = jn (x.md (m : Int)) t.kids 0 s := ⟨_, rfl⟩
  rw [← hs1] at a1 q1 q2
  obtain ⟨M, hM⟩ := xk hpl hok hsg k (m + 1) (m : Int) s1 (by omega) (by omega) (by omega) hk1 (by rw [q2, List.length_drop]; omega) (by omega)
  have e : jd x (x.p.drop m) m s = jd x (x.p.drop (m + 1)) (m + 1) s1 := by rw [be ht, jd, ← hs1]
  have e' : moF z (x.p.drop m) m = moF (m : Int) (x.p.drop (m + 1)) (m + 1) := by rw [be ht, moF]
  rw [e, e']
  obtain ⟨M', hM'⟩ := a2 M (moF (m : Int) (x.p.drop (m + 1)) (m + 1)) (jd x (x.p.drop (m + 1)) (m + 1) s1) fun s2 hs2 => by
   rw [← hs1] at hs2; subst hs2; exact hM
  exact ⟨M' + 1, gG M' _ _ _ _ _ _ _ _ _ _ _ _ _ _ _ _ _ _ _ _ _ _ _ _ (⟨fun _ => ⟨t, ht, hM'⟩, fun h => absurd hlt h⟩)⟩
def knK (t : Tree) : Kn := ⟨(leafK t).kind, (lisK t : Nat)⟩
def jV (f : Tree) : aa := ⟨(f.kids.take (f.kids.length - 2)).map fun k => knK (dp k 0), knK (dp f (f.kids.length - 2))⟩
def sgD (m : Int) : List Tree → Nat → List ((Int × Int) × aa) → List ((Int × Int) × aa)
 | [], _, l => l
 | f :: r, d, l => sgD m r (d + 1) (mput (m, (d : Int)) (jV f) l)
def sgM : List Tree → Nat → List ((Int × Int) × aa) → List ((Int × Int) × aa)
 | [], _, l => l
 | t :: r, m, l => sgM r (m + 1) (sgD (m : Int) t.kids 0 l)
theorem Aa {t : Tree} (ht : tyK t) (hb : tbulk t ≤ 1000000000) : iQ t (leafK t) (lisK t : Nat) := by
 have loop : ∀ t, tyK t → ∀ i, i + tbulk t ≤ 2000000000 → fu (lisK t + 1) t i (leafK t) ((i + lisK t : Nat) : Int) := iL fun t ih h i hi => by
  rcases tT h with ⟨h8, _, u, hu, hty⟩ | ⟨h8, hk, _⟩
  ·obtain ⟨e1, e2⟩ := uh h8 hu
   have h0 : t.kids[0]? = some u := by rw [hu]; rfl
   have := bd h0
   rw [e1, e2]
   refine ka (lisK u + 1) _ _ _ _ (⟨fun _ => ⟨u, h0, by omega, ?_⟩, fun h => absurd h8 h⟩)
   rw [show i + (lisK u + 1) = i + 1 + lisK u by omega]
   exact ih 0 u h0 hty (i + 1) (by omega)
  ·obtain ⟨e1, e2⟩ := ut h8
   rw [e1, e2]
   exact ka 0 _ _ _ _ (⟨fun h => absurd h h8, fun _ => ⟨rfl, rfl⟩⟩)
 have := loop t ht 0 (by omega)
 rw [Nat.zero_add] at this
 exact pi (lisK t + 1) _ _ _ (this)
abbrev ckX (p : List Tree) (tg : List GTarget) (nm : List ((Int × List UInt8) × ac)) (sg : List ((Int × Int) × aa)) (m : Int) (t : Tree) (k : Kn) : Prop := cx p tg nm sg 0 [] [] 0 [] 0 0 m t k p tg nm sg 0 [] [] 0 [] 0 0
theorem ru {p : List Tree} {tg : List GTarget} {nm : List ((Int × List UInt8) × ac)} {sg : List ((Int × Int) × aa)} (m : Int) {t : Tree} (ht : tyK t) (hb : tbulk t ≤ 1000000000) (h9 : (leafK t).kind ≠ 9) : ckX p tg nm sg m t (knK t) :=
 rS_typing_checker_expand 0 _ _ _ _ _ _ _ _ _ _ _ _ _ _ _ _ _ _ _ _ _ _ _ _ _ (⟨_, _, Aa ht hb, fun _ => ⟨rfl, rfl, rfl, rfl, rfl, rfl, rfl, rfl, rfl, rfl, rfl, rfl⟩, fun h => absurd h h9⟩)
structure FunOk (f : Tree) : Prop where
 s : shapeK f = true
 k : f.kind = 2
 p : ∀ (i : Nat) (u : Tree), f.kids[i]? = some u → i + 2 < f.kids.length → (leafK (dp u 0)).kind ≠ 9
 r : (leafK (dp f (f.kids.length - 2))).kind ≠ 9
theorem Bi {p : List Tree} {tg : List GTarget} {nm : List ((Int × List UInt8) × ac)} {sg : List ((Int × Int) × aa)} (m : Int) {f : Tree} (hf : FunOk f) (hb : tbulk f ≤ 100000000) : ew p tg nm sg 0 [] [] 0 [] 0 0 m f (jV f) p tg nm sg 0 [] [] 0 [] 0 0 := by
 obtain ⟨s1, s2, s3, _⟩ := mO hf.s hf.k
 have hkl := dg f
 obtain ⟨n, hn⟩ : ∃ n, n + 2 = f.kids.length := ⟨f.kids.length - 2, by omega⟩
 have hlt : (f.kids.take n).length = n := by rw [List.length_take]; omega
 obtain ⟨r, hr⟩ : ∃ r, f.kids[n]? = some r := ⟨_, List.getElem?_eq_getElem (by omega)⟩
 have hrt := s3 r (by rw [show f.kids.length - 2 = n by omega]; exact hr)
 have hr9 := hf.r
 have hkr : dp f (f.kids.length - 2) = r := by rw [show f.kids.length - 2 = n by omega]; exact fZ hr
 rw [hkr] at hr9
 have hbr := bd hr
 have loop : ∀ (k i : Nat), k + i = n → cM (k + 1) m f n sg nm p tg 0 [] [] 0 [] 0 0 ((f.kids.take i).map fun k => knK (dp k 0)) i ⟨(f.kids.take n).map fun k => knK (dp k 0), knK r⟩ p tg nm sg 0 [] [] 0 [] 0 0 := fun k => by
  induction k with
  | zero =>
   intro i hi
   have e : i = n := by omega
   subst e
   exact gg 0 _ _ _ _ _ _ _ _ _ _ _ _ _ _ _ _ _ _ _ _ _ _ _ _ _ _ _ _ (⟨fun h => absurd h (by rw [hlt]; omega), fun _ => ⟨i, by omega, r, hr, _, _, _, _, _, _, _, _, _, _, _, _, ru m hrt (by omega) hr9, rfl, rfl, rfl, rfl, rfl, rfl, rfl, rfl, rfl, rfl, rfl, rfl⟩⟩)
  | succ k ih =>
   intro i hi
   obtain ⟨u, hu⟩ : ∃ u, f.kids[i]? = some u := ⟨_, List.getElem?_eq_getElem (by omega)⟩
   obtain ⟨v, hv4, hv, hvt⟩ := s2 i u hu (by omega)
   have hv0 : u.kids[0]? = some v := by rw [hv]; rfl
   have h9 := hf.p i u hu (by omega)
   rw [fZ hv0] at h9
   have hb1 := bd hu
   have hb2 := bd hv0
   have e : ((f.kids.take i).map fun k => knK (dp k 0)) ++ [knK v] = (f.kids.take (i + 1)).map fun k => knK (dp k 0) := by
    rw [List.take_add_one, hu, List.map_append]
    simp [fZ hv0]
   refine gg (k + 1) _ _ _ _ _ _ _ _ _ _ _ _ _ _ _ _ _ _ _ _ _ _ _ _ _ _ _ _ (⟨fun _ => ⟨u, by rw [List.getElem?_take, if_pos (by omega)]; exact hu, v, hv0, _, _, _, _, _, _, _, _, _, _, _, _, ru m hvt (by omega) h9, by rw [e]; simp; omega, by omega, by rw [e]; exact ih (i + 1) (by omega)⟩, fun h => absurd (by rw [hlt]; omega) h⟩)
 have := loop n 0 (by omega)
 refine ll (n + 1) _ _ _ _ _ _ _ _ _ _ _ _ _ _ _ _ _ _ _ _ _ _ _ _ _ (⟨n, by omega, by omega, ?_⟩)
 unfold jV
 rw [hkr, show f.kids.length - 2 = n by omega]
 simpa using this
theorem wi {p : List Tree} {tg : List GTarget} {t : Tree} {m : Nat} {R : List ((Int × Int) × aa)} (hm : m ≤ 1000000000) (hok : ∀ (d : Nat) (f : Tree), t.kids[d]? = some f → FunOk f) (hb : tbulk t ≤ 100000000) : ∀ (k d : Nat) (sg : List ((Int × Int) × aa)), k + d = t.kids.length → ∀ M, cg M p (m + 1) p tg [] (sgD (m : Int) (t.kids.drop d) d sg) 0 [] [] 0 [] 0 0 p tg [] R 0 [] [] 0 [] 0 0 → ∃ M', cj M' p t d p tg [] sg 0 [] [] 0 [] 0 0 m m p tg [] R 0 [] [] 0 [] 0 0
 | 0, d, sg, hk, M, h => by
  have hd : t.kids.drop d = [] := List.drop_of_length_le (by omega)
  rw [hd] at h
  exact ⟨M + 1, ia M _ _ _ _ _ _ _ _ _ _ _ _ _ _ _ _ _ _ _ _ _ _ _ _ _ _ _ (⟨fun h => absurd h (by omega), fun _ => ⟨by omega, h⟩⟩)⟩
 | k + 1, d, sg, hk, M, h => by
  have hlt : d < t.kids.length := by omega
  have hkl := dg t
  obtain ⟨f, hf⟩ : ∃ f, t.kids[d]? = some f := ⟨_, hZ hlt⟩
  have hbf := bd hf
  rw [be hf, sgD] at h
  obtain ⟨M', hM⟩ := wi hm hok hb k (d + 1) (mput ((m : Int), (d : Int)) (jV f) sg) (by omega) M h
  refine ⟨M' + 2, ia (M' + 1) _ _ _ _ _ _ _ _ _ _ _ _ _ _ _ _ _ _ _ _ _ _ _ _ _ _ _ (⟨fun _ => ⟨f, hf, fun _ => ⟨_, _, _, _, _, _, _, _, _, _, _, _, Bi (m : Int) (hok d f hf) (by omega), ?_⟩, fun h => absurd (hok d f hf).k h⟩, fun h => absurd hlt h⟩)⟩
  exact lG M' _ _ _ _ _ _ _ _ _ _ _ _ _ _ _ _ _ _ _ _ _ _ _ _ _ _ _ (⟨by omega, hM⟩)
theorem wd {p : List Tree} {tg : List GTarget} {R : List ((Int × Int) × aa)} (hok : ∀ (m : Nat) (t : Tree) (d : Nat) (f : Tree), p[m]? = some t → t.kids[d]? = some f → FunOk f) (hb : kbulk p ≤ 100000000) : ∀ (k m : Nat) (sg : List ((Int × Int) × aa)), k + m = p.length → R = sgM (p.drop m) m sg → ∃ M, cg M p m p tg [] sg 0 [] [] 0 [] 0 0 p tg [] R 0 [] [] 0 [] 0 0
 | 0, m, sg, hk, hR => by
  have hd : p.drop m = [] := List.drop_of_length_le (by omega)
  rw [hd] at hR
  have hR' : R = sg := hR
  exact ⟨1, hJ 0 _ _ _ _ _ _ _ _ _ _ _ _ _ _ _ _ _ _ _ _ _ _ _ _ (⟨fun h => absurd h (by omega), fun _ => ⟨rfl, rfl, rfl, hR'.symm, rfl, rfl, rfl, rfl, rfl, rfl, rfl⟩⟩)⟩
 | k + 1, m, sg, hk, hR => by
  have hlt : m < p.length := by omega
  obtain ⟨t, ht⟩ : ∃ t, p[m]? = some t := ⟨_, List.getElem?_eq_getElem hlt⟩
  have hbt := co ht
  have hl := du p
  rw [be ht, sgM] at hR
  obtain ⟨M, hM⟩ := wd (tg := tg) hok hb k (m + 1) (sgD (m : Int) t.kids 0 sg) (by omega) hR
  obtain ⟨M', hM'⟩ := wi (p := p) (tg := tg) (t := t) (m := m) (R := R) (by omega) (fun d f hf => hok m t d f ht hf) (by omega) t.kids.length 0 sg (by omega) M (by simpa using hM)
  exact ⟨M' + 1, hJ M' _ _ _ _ _ _ _ _ _ _ _ _ _ _ _ _ _ _ _ _ _ _ _ _ (⟨fun _ => ⟨t, ht, hM'⟩, fun h => absurd hlt h⟩)⟩
theorem mR {p : List Tree} (hok : ∀ (m : Nat) (t : Tree) (d : Nat) (f : Tree), p[m]? = some t → t.kids[d]? = some f → FunOk f) (hb : kbulk p ≤ 100000000) : dK p p (bl p) [] (sgM p 0 []) 0 [] [] 0 [] 0 0 := by
 obtain ⟨M, hM⟩ := wd (tg := bl p) (R := sgM p 0 []) hok hb p.length 0 [] (by omega) rfl
 exact lZ M _ _ _ _ _ _ _ _ _ _ _ _ (⟨_, wv p hb, hM⟩)
theorem ms (m : Nat) (key : Int × Int) : ∀ (ks : List Tree) (d : Nat) (l : List ((Int × Int) × aa)), mlook key (sgD (m : Int) ks d l) = (if key.1 = (m : Int) ∧ (d : Int) ≤ key.2 ∧ key.2 < ((d + ks.length : Nat) : Int) then (ks[(key.2 - (d : Int)).toNat]?).map jV else mlook key l)
 | [], d, l => by
  rw [sgD, if_neg]
  rintro ⟨_, h1, h2⟩
  simp only [List.length_nil] at h2
  omega
 | f :: r, d, l => by
  rw [sgD, ms m key r (d + 1) _, pf]
  obtain ⟨k1, k2⟩ := key
  simp only [Prod.mk.injEq]
  by_cases h1 : k1 = (m : Int)
  ·by_cases h2 : k2 = (d : Int)
   ·subst h1 h2
    rw [if_neg (by omega), if_pos ⟨rfl, rfl⟩, if_pos ⟨rfl, by omega, by simp; omega⟩]
    simp
   ·by_cases h3 : (d : Int) < k2 ∧ k2 < ((d + 1 + r.length : Nat) : Int)
    ·rw [if_pos ⟨h1, by omega, h3.2⟩, if_pos ⟨h1, by omega, by simp; omega⟩]
     rw [show (k2 - (d : Int)).toNat = (k2 - ((d + 1 : Nat) : Int)).toNat + 1 by omega]
     rfl
    ·rw [if_neg (fun h => h3 ⟨by omega, h.2.2⟩), if_neg (fun h => h2 h.2), if_neg (fun h => h3 ⟨by omega, by have := h.2.2; simp at this; omega⟩)]
  ·rw [if_neg (fun h => h1 h.1), if_neg (fun h => h1 h.1), if_neg (fun h => h1 h.1)]
theorem qR (key : Int × Int) : ∀ (p : List Tree) (m : Nat) (l : List ((Int × Int) × aa)) (q : aa), mlook key (sgM p m l) = some q → (∃ (i : Nat) (t : Tree) (d : Nat) (f : Tree), p[i]? = some t ∧ t.kids[d]? = some f ∧ key = (((m + i : Nat) : Int), (d : Int)) ∧ q = jV f) ∨ mlook key l = some q
 | [], m, l, q, h => .inr h
 | t :: r, m, l, q, h => by
  rw [sgM] at h
  rcases qR key r (m + 1) _ q h with ⟨i, t', d, f, h1, h2, h3, h4⟩ | h
  ·exact .inl ⟨i + 1, t', d, f, h1, h2, by rw [h3, show m + 1 + i = m + (i + 1) by omega], h4⟩
  ·rw [ms] at h
   split at h
   ·rename_i hc
    obtain ⟨f, hf, rfl⟩ := Option.map_eq_some_iff.1 h
    obtain ⟨k1, k2⟩ := key
    simp only at hc hf
    exact .inl ⟨0, t, (k2 - ((0 : Nat) : Int)).toNat, f, rfl, hf, by simp only [Prod.mk.injEq]; omega, rfl⟩
   ·exact .inr h
theorem tQ {key : Int × Int} : ∀ (p : List Tree) (m i d : Nat) (l : List ((Int × Int) × aa)) (t f : Tree), p[i]? = some t → t.kids[d]? = some f → key = (((m + i : Nat) : Int), (d : Int)) → mlook key (sgM p m l) = some (jV f)
 | [], m, i, d, l, t, f, h, _, _ => by simp at h
 | t0 :: r, m, 0, d, l, t, f, h1, h2, h3 => by
  simp only [List.getElem?_cons_zero, Option.some.injEq] at h1
  subst h1
  have hd := (List.getElem?_eq_some_iff.1 h2).1
  rw [sgM]
  have keep : ∀ (r : List Tree) (m' : Nat) (l : List ((Int × Int) × aa)), m < m' → mlook key (sgM r m' l) = mlook key l := fun r => by
   induction r with
   | nil => intros; rfl
   | cons t r ih =>
    intro m' l hm
    rw [sgM, ih (m' + 1) _ (by omega), ms, if_neg]
    rw [h3]; simp only; omega
  rw [keep r (m + 1) _ (by omega), ms, if_pos (by rw [h3]; simp only; omega), h3]
  simp only
  rw [show ((d : Int) - ((0 : Nat) : Int)).toNat = d by omega, h2]; rfl
 | t0 :: r, m, i + 1, d, l, t, f, h1, h2, h3 => by
  rw [sgM]
  exact tQ r (m + 1) i d _ t f (by simpa using h1) h2 (by rw [h3, show m + 1 + i = m + (i + 1) by omega])
theorem vW {f : Tree} {L : Nat} (hb : tbulk f ≤ L) : KOk L (jV f).result ∧ ∀ q ∈ (jV f).params, KOk L q := by
 have kd : ∀ (t : Tree) (i : Nat), tbulk (dp t i) ≤ tbulk t := fun t i => by
  by_cases h : i < t.kids.length
  ·have := bd (hZ h); omega
  ·have h0 : dp t i = .node 0 [] [] [] := by simp only [dp, List.getD_eq_getElem?_getD, List.getElem?_eq_none (Nat.le_of_not_lt h)]; rfl
   have h1 := dg t
   rw [h0]; simp [tbulk, kbulk, lsum]; omega
 have ok : ∀ t, tbulk t ≤ L → KOk L (knK t) := fun t ht => by
  have := (vQ t).2
  exact ⟨by simp [knK], by simp only [knK]; omega⟩
 refine ⟨ok _ (Nat.le_trans (kd f _) hb), fun q hq => ?_⟩
 obtain ⟨k, hk, rfl⟩ := List.mem_map.1 hq
 have hk' := List.mem_of_mem_take hk
 obtain ⟨i, hi⟩ := List.getElem?_of_mem hk'
 have := bd hi
 exact ok _ (by have := kd k 0; omega)
structure ProgOk (p : List Tree) : Prop where
 m : ∀ (m : Nat) (t : Tree), p[m]? = some t → t.kind = 1 ∧ shapeK t = true
 f : ∀ (m : Nat) (t : Tree) (d : Nat) (f : Tree), p[m]? = some t → t.kids[d]? = some f → FunOk f
def cx0 (p : List Tree) (wm : Int) (wp : List Int) : Cx := ⟨p, [], sgM p 0 [], 0, [], wm, wp⟩
def dC (p : List Tree) (wm : Int) (wp : List Int) : Sv := jd (cx0 p wm wp) p 0 ⟨bl p, [], 0, 0⟩
theorem yO {p : List Tree} (hp : ProgOk p) (hb : kbulk p ≤ 10000000) (ht : uNs p ≤ (bl p).length) (wm : Int) (wp : List Int) : ∃ z, dk p (bl p) [] (sgM p 0 []) 0 [] [] wm wp 0 0 p (dC p wm wp).tg [] (sgM p 0 []) z [] (dC p wm wp).fa wm wp (dC p wm wp).rs (dC p wm wp).rl := by
 have hl := du p
 obtain ⟨M, hM⟩ := xk (x := cx0 p wm wp) (L := kbulk p) (by simp [cx0]; omega) (fun m t d f h1 h2 => by
  have ho := hp.f m t d f h1 h2
  obtain ⟨q1, _⟩ := mO ho.s ho.k
  have hbt := co (show p[m]? = some t from h1)
  have hbf := bd h2
  exact ⟨ho.s, ho.k, jV f, tQ p 0 m d [] t f h1 h2 (by simp), by simp [jV]; omega, (vW (by omega)).2⟩) (fun k q hq => by
  rcases qR k p 0 [] q hq with ⟨i, t, d, f, h1, h2, _, rfl⟩ | h
  ·have hbt := co h1
   have hbf := bd h2
   exact (vW (by omega)).1
  ·cases h) p.length 0 0 ⟨bl p, [], 0, 0⟩ (by simp [cx0]) (by simp [cx0]; omega) (by simp [cx0]; omega) (fun m t h => (hp.m m t h).1) (by simpa [cx0] using ht) (by simp [cx0]; omega)
 exact ⟨_, lI M _ _ _ _ _ _ _ _ _ _ _ _ _ _ _ _ _ _ _ _ _ _ (hM)⟩
theorem pb {p : List Tree} (hp : ProgOk p) (hb : kbulk p ≤ 10000000) : eV p true := by
 have hl := du p
 have loop : ∀ k i, k + i = p.length → ej (k + 1) p i true := fun k => by
  induction k with
  | zero => intro i hi; exact jt 0 _ _ _ (⟨fun h => absurd h (by omega), fun _ => rfl⟩)
  | succ k ih =>
   intro i hi
   obtain ⟨t, ht⟩ : ∃ t, p[i]? = some t := ⟨_, List.getElem?_eq_getElem (by omega)⟩
   obtain ⟨h1, h2⟩ := hp.m i t ht
   have := co ht
   exact jt (k + 1) _ _ _ (⟨fun _ => ⟨t, ht, fun h => absurd h1 h, fun _ => ⟨_, sR t (by omega), fun h => (by rw [h2] at h; cases h), fun _ => ⟨by omega, ih (i + 1) (by omega)⟩⟩⟩, fun h => absurd (by omega) h⟩)
 exact nK (p.length + 1) _ _ (loop p.length 0 (by omega))
theorem xX {p : List Tree} (hp : ProgOk p) (hb : kbulk p ≤ 10000000) (ht : uNs p ≤ (bl p).length) {r : List ae} (hs : aW (dC p 0 []).fa r) : br p r := by
 obtain ⟨z, hz⟩ := yO hp hb ht 0 []
 exact oz 0 _ _ (⟨_, pb hp hb, fun h => (by cases h), fun _ => ⟨_, _, _, _, _, _, _, _, _, _, _, mR hp.f (by omega), _, _, _, _, _, _, _, _, _, _, _, hz, _, hs, rfl⟩⟩)
def ofK (p : List Tree) (m : Int) (q : List Int) : Tree × Int := if (dC p m q).rs = 0 then (.node 0 [] [] [], 20) else (vd (dC p m q).rl.toNat (.node (dC p m q).rs [] [] []), 0)
theorem AB {p : List Tree} (hp : ProgOk p) (hb : kbulk p ≤ 10000000) (ht : uNs p ≤ (bl p).length) {m : Nat} {q : List Int} {t u : Tree} (hm : p[m]? = some t) (hat : ie t q u true) (hu : dn u.kind = true) (hz : (dC p m q).rl = 0) : jj p ⟨(m : Int), q⟩ (ofK p m q).1 (ofK p m q).2 := by
 obtain ⟨z, hz'⟩ := yO hp hb ht m q
 have hk : 10 ≤ u.kind ∧ u.kind ≤ 22 ∧ u.kind ≠ 17 := by simpa [dn] using hu
 have hlt : m < p.length := (List.getElem?_eq_some_iff.1 hm).1
 refine so 2 _ _ _ _ (⟨_, pb hp hb, fun h => (by cases h), fun _ => ⟨fun h => absurd h (by simp), fun _ => ⟨fun h => absurd h (by simp only; omega), fun _ => ⟨m, rfl, t, hm, u, true, hat, ?_⟩⟩⟩⟩)
 refine qn 1 _ _ _ _ _ _ (⟨fun h => (by cases h), fun _ => ⟨fun h => absurd h (by omega), fun _ => ⟨fun h => absurd h (by omega), fun _ => ⟨fun h => absurd h hk.2.2, fun _ => ⟨_, _, _, _, _, _, _, _, _, _, _, mR hp.f (by omega), _, _, _, _, _, _, _, _, _, _, _, hz', fun h => ?_, fun h => ?_⟩⟩⟩⟩⟩)
 ·unfold ofK; rw [if_pos h]; exact ⟨rfl, rfl⟩
 ·unfold ofK; rw [if_neg h, hz]
  exact qm 0 _ _ _ _ _ _ (⟨fun h => absurd h (by simp), fun _ => ⟨rfl, rfl⟩⟩)
abbrev vD (a0 : List Int) (a1 : Int) : Ob := .var 51 [.row 1 (List.map (V.int .i64) a0), .int .i64 a1]
def dI (r0 : Bool) : Prop := qS 6 [] (.bool r0)
def nV (p0 : List UInt8) (r0 : Tree) (r1 r2 : Int) : Prop := qS 14 [.str p0] (.tup [.agg (ao r0), .int .i64 r1, .int .i64 r2])
def hW (r0 : Bool) : Prop := qS 6 [] (.bool r0)
def ax (c : List Int) (a p1 p2 : Int) (r0 : Tree) (d : List Int) (b : Int) : Prop := aV [] Tryz.prog 8 [.ptr 0 0, .int .i64 p1, .int .i64 p2] ⟨1, [(0, vD c a)]⟩ (fun u G => u = .agg (ao r0) ∧ G = ⟨2, [(0, vD d b)]⟩)
def ca (p0 r0 : Tree) : Prop := qS 16 [.agg (ao p0)] (.agg (ao r0))
def cZ (p0 : Int) (p1 : Tree) (r0 : List Tree) : Prop := qS 10 [.int .i64 p0, .agg (ao p1)] (.row 4 (kidsV r0))
def fF (p0 : List Int) (p1 p2 : Int) (r0 : Bool) : Prop := qS 3 [.row 1 (List.map (V.int .i64) p0), .int .i64 p1, .int .i64 p2] (.bool r0)
def dA (p0 p1 r0 : Int) : Prop := qS 7 [.int .i64 p0, .int .i64 p1] (.int .i64 r0)
def gu (p0 b : List Int) (a : Int) : Prop := aV [] Tryz.prog 9 [.row 1 (List.map (V.int .i64) p0)] ⟨0, []⟩ (fun u G => u = .ptr 0 0 ∧ G = ⟨1, [(0, vD b a)]⟩)
def fI (p0 : List Int) (r0 : Bool) : Prop := qS 5 [.row 1 (List.map (V.int .i64) p0)] (.bool r0)
def cO (c : List Int) (a p1 r0 : Int) (d : List Int) (b : Int) : Prop := aV [] Tryz.prog 15 [.ptr 0 0, .int .i64 p1] ⟨1, [(0, vD c a)]⟩ (fun u G => u = .int .i64 r0 ∧ G = ⟨1, [(0, vD d b)]⟩)
theorem lp (m : Nat) (r0 : Bool) (h : ∃ b o g, nV [109, 111, 100, 117, 108, 101, 32, 77, 32, 100, 101, 102, 32, 102, 40, 41, 58, 32, 73, 110, 116, 32, 61, 32, 49, 32, 43, 32, 34, 97, 34, 32, 100, 101, 102, 32, 103, 40, 120, 58, 32, 66, 111, 111, 108, 41, 58, 32, 73, 110, 116, 32, 61, 32, 105, 102, 32, 120, 32, 116, 104, 101, 110, 32, 49, 32, 101, 108, 115, 101, 32, 103, 40, 41] b o g ∧ ∃ a, br [b] a ∧ ∃ i j, jj [b] (GPlace.mk 0 [0, 1]) i j ∧ ((g = 0) → ((j = 0) → ((i.kind = 5) → (((a.length : Int) = 2) → ∃ k, a[0]? = some k ∧ ((k.Kind = 6) → ∃ n, a[0]? = some n ∧ ∃ l, bL n.At.Path [0, 1, 1] l ∧ ((l = true) → ∃ c, a[1]? = some c ∧ ((c.Kind = 3) → ∃ d, a[1]? = some d ∧ ∃ e, bL d.At.Path [1, 2, 2] e ∧ e = r0) ∧ ((c.Kind ≠ 3) → false = r0)) ∧ ((l = false) → false = r0)) ∧ ((k.Kind ≠ 6) → false = r0)) ∧ (((a.length : Int) ≠ 2) → false = r0)) ∧ ((i.kind ≠ 5) → false = r0)) ∧ ((j ≠ 0) → false = r0)) ∧ ((g ≠ 0) → false = r0)) : hW r0 := by
 refine ⟨rfl, rfl, ?_⟩
 refine al 71 [] Tryz.func6 rfl rfl rfl (aA rfl) fun K hK => ?_
 refine gR 7 rfl ?_
 obtain ⟨b, o, g, hs7, h⟩ := h
 refine gC0 hs7 (by kernel_rfl) rfl rfl .rfl rfl <| gR 14 rfl <| gHR 1 (kidsV [b]) rfl (lc b) rfl <| gFR 1 rfl (dJ _) rfl rfl ?_
 obtain ⟨a, hs8, h⟩ := h
 refine gC hs8 [] (by kernel_rfl) rfl rfl .rfl trivial rfl ?_
 rintro _ _ ⟨rfl, rfl⟩
 refine gHR 2 (List.map ae.w a) rfl (vH _ a) rfl <| gR 7 rfl <| gHR 3 (kidsV [b]) rfl (lc b) rfl <| gR 2 rfl <| gFR 3 rfl (dJ _) rfl rfl <| gFR 4 rfl rfl rfl rfl ?_
 obtain ⟨i, j, hs9, h⟩ := h
 refine gC0 hs9 (by kernel_rfl) rfl rfl .rfl rfl <| gR 13 rfl <| qBeZ 25 24 rfl rfl rfl rfl h (fun h => ?_) fun h => ?_
 refine gR 4 rfl <| qBeZ 29 28 rfl rfl rfl rfl h (fun h => ?_) fun h => ?_
 refine gR 5 rfl <| qBeZ 34 33 rfl rfl rfl rfl h (fun h => ?_) fun h => ?_
 refine gR 2 rfl <| gV 36 (.int .i64 (a.length : Int)) rfl (aM (aF ae.w _)) rfl <| gLO 2 rfl (aF ae.w _) fun hl10 => gR 3 rfl <| qBeZ 39 38 rfl rfl rfl rfl h (fun h => ?_) fun h => ?_
 refine gR 1 rfl ?_
 obtain ⟨k, hxx0_7, h⟩ := h
 refine gY (yIO ah rfl rfl rfl rfl (by have := (mapget (f := ae.w) hxx0_7); exact (List.getElem?_eq_some_iff.1 this).1)) rfl rfl ?_
 refine gR 1 rfl <| gDo (.nop) (dLe ah rfl rfl rfl (mapget (f := ae.w) hxx0_7) rfl) trivial rfl rfl rfl <| gR 3 rfl <| qBeZ 46 45 rfl rfl rfl rfl h (fun h => ?_) fun h => ?_
 refine gR 1 rfl ?_
 obtain ⟨n, hxx0_8, h⟩ := h
 refine gY (yIO ah rfl rfl rfl rfl (by have := (mapget (f := ae.w) hxx0_8); exact (List.getElem?_eq_some_iff.1 this).1)) rfl rfl ?_
 refine gR 2 rfl <| gDo (.nop) (dLe ah rfl rfl rfl (mapget (f := ae.w) hxx0_8) rfl) trivial rfl rfl rfl <| gR 1 rfl <| gFR 6 rfl rfl rfl rfl ?_
 obtain ⟨l, hs11, h⟩ := h
 refine gC0 hs11 (by kernel_rfl) rfl rfl .rfl rfl <| gR 2 rfl <| qBiZ 55 54 rfl rfl rfl rfl h (fun h => ?_) fun h => ?_
 refine gR 1 rfl ?_
 obtain ⟨c, hxx0_10, h⟩ := h
 refine gY (yIO ah rfl rfl rfl rfl (by have := (mapget (f := ae.w) hxx0_10); exact (List.getElem?_eq_some_iff.1 this).1)) rfl rfl ?_
 refine gR 1 rfl <| gDo (.nop) (dLe ah rfl rfl rfl (mapget (f := ae.w) hxx0_10) rfl) trivial rfl rfl rfl <| gR 3 rfl <| qBeZ 62 61 rfl rfl rfl rfl h (fun h => ?_) fun h => ?_
 refine gR 1 rfl ?_
 obtain ⟨d, hxx0_11, h⟩ := h
 refine gY (yIO ah rfl rfl rfl rfl (by have := (mapget (f := ae.w) hxx0_11); exact (List.getElem?_eq_some_iff.1 this).1)) rfl rfl ?_
 refine gR 2 rfl <| gDo (.nop) (dLe ah rfl rfl rfl (mapget (f := ae.w) hxx0_11) rfl) trivial rfl rfl rfl <| gR 1 rfl <| gFR 7 rfl rfl rfl rfl ?_
 obtain ⟨e, hs12, h⟩ := h
 refine gC0 hs12 (by kernel_rfl) rfl rfl .rfl rfl <| gR 5 rfl ?_
 subst h
 exact go_end ah (rs := [.tmp 0]) rfl rfl rfl
 refine gR 12 rfl ?_
 subst h
 exact go_end ah (rs := [.tmp 0]) rfl rfl rfl
 refine gR 19 rfl ?_
 subst h
 exact go_end ah (rs := [.tmp 0]) rfl rfl rfl
 refine gR 28 rfl ?_
 subst h
 exact go_end ah (rs := [.tmp 0]) rfl rfl rfl
 refine gR 35 rfl ?_
 subst h
 exact go_end ah (rs := [.tmp 0]) rfl rfl rfl
 refine gR 40 rfl ?_
 subst h
 exact go_end ah (rs := [.tmp 0]) rfl rfl rfl
 refine gR 45 rfl ?_
 subst h
 exact go_end ah (rs := [.tmp 0]) rfl rfl rfl
 refine gR 49 rfl ?_
 subst h
 exact go_end ah (rs := [.tmp 0]) rfl rfl rfl
def cC (m : Nat) (p1 p2 : Int) (b : List Int) (c d : Int) (r0 : Tree) (e : List Int) (a : Int) : Prop := ∀ (K : Ctx), aG K [0] → qLG K Tryz.f8 (fun u G => u = .agg (ao r0) ∧ G = ⟨2, [(0, vD e a)]⟩) (xF (ai Tryz.f8)) [] 120 (mkF 120 0 [(0, .ptr 0 0), (1, .int .i64 p1), (2, .int .i64 p2), (6, .ptr 1 0), (7, .int .i64 d)]) ⟨2, [(1, .var 29 [.int .i64 0, .str [], .nils, .nils]), (0, vD b c)]⟩
def dE (m : Nat) (p1 p2 : Int) (b : List Int) (c d : Int) (e : Bool) (r0 : Tree) (f : List Int) (a : Int) : Prop := ∀ (K : Ctx), aG K [0] → qLG K Tryz.f8 (fun u G => u = .agg (ao r0) ∧ G = ⟨2, [(0, vD f a)]⟩) (cB (cE (cB (cE (cB (cE (cB (cK (xD (cB (ai Tryz.f8))))))))))) [.blk 0, .seq (xG (ai Tryz.f8))] 120 (mkF 120 0 [(0, .ptr 0 0), (1, .int .i64 p1), (2, .int .i64 p2), (6, .ptr 1 0), (7, .int .i64 d), (55, .bool e)]) ⟨2, [(1, .var 29 [.int .i64 0, .str [], .nils, .nils]), (0, vD b c)]⟩
def cH (m : Nat) (p1 p2 : Int) (b : List Int) (c d : Int) (e : Bool) (r0 : Tree) (f : List Int) (a : Int) : Prop := ∀ (K : Ctx), aG K [0] → qLG K Tryz.f8 (fun u G => u = .agg (ao r0) ∧ G = ⟨2, [(0, vD f a)]⟩) (cB (cE (cB (cE (cB (cE (cB (cE (cB (cK (xD (cB (ai Tryz.f8))))))))))))) [.blk 0, .seq (xG (ai Tryz.f8))] 120 (mkF 120 0 [(0, .ptr 0 0), (1, .int .i64 p1), (2, .int .i64 p2), (6, .ptr 1 0), (7, .int .i64 d), (74, .bool e)]) ⟨2, [(1, .var 29 [.int .i64 0, .str [], .nils, .nils]), (0, vD b c)]⟩
theorem iE (m : Nat) (g : List Int) (d p1 p2 : Int) (r0 : Tree) (e : List Int) (a : Int) (h : ∃ f b c, cO g d 6 f b c ∧ ((p2 < 1) → cC m p1 p2 b c 0 r0 e a) ∧ ((¬ p2 < 1) → cC m p1 p2 b c f r0 e a)) : ax g d p1 p2 r0 e a := by
 refine al 120 [0] Tryz.func8 rfl rfl rfl (aA rfl) fun K hK => ?_
 refine gR 8 rfl ?_
 obtain ⟨f, b, c, hs65, h⟩ := h
 refine gCY hs65 [0] ?_
 refine gR 10 rfl <| qBd 11 rfl rfl rfl h (fun h => ?_) fun h => ?_
 exact gR 5 rfl <| gJ (h K hK) [0, 1] [0] rfl hK pq5 (pqo2 rfl rfl rfl rfl) rfl
 exact gR 3 rfl <| gJ (h K hK) [0, 1] [0] rfl hK pq5 (pqo2 rfl rfl rfl rfl) rfl
theorem cm (m : Nat) (p1 p2 : Int) (j : List Int) (k d : Int) (r0 : Tree) (l : List Int) (i : Int) (h : ((d = 1) → InI (p2 - 1) ∧ ∃ e w x, ax j k 7 (p2 - 1) e w x ∧ InI (p2 - 1) ∧ ∃ f y z, ax w x p1 (p2 - 1) f y z ∧ InI (p2 - 1) ∧ ∃ g t v, ax y z p1 (p2 - 1) g t v ∧ (Tree.node 19 [] [] [e, f, g]) = r0 ∧ t = l ∧ v = i) ∧ ((d ≠ 1) → ((d = 2) → InI (p2 - 1) ∧ ∃ a r s, ax j k 6 (p2 - 1) a r s ∧ InI (p2 - 1) ∧ ∃ b n o, ax r s p1 (p2 - 1) b n o ∧ (Tree.node 20 [121] [] [a, b]) = r0 ∧ n = l ∧ o = i) ∧ ((d ≠ 2) → ((d = 3) → InI (p2 - 1) ∧ ∃ c p q, ax j k p1 (p2 - 1) c p q ∧ (Tree.node 22 [] [] [c]) = r0 ∧ p = l ∧ q = i) ∧ ((d ≠ 3) → ((3 < d) → dE m p1 p2 j k d (p1 == 7) r0 l i) ∧ ((¬ 3 < d) → dE m p1 p2 j k d false r0 l i))))) : cC (m + 1) p1 p2 j k d r0 l i := by
 intro K hK
 refine gR 9 rfl <| qBeZ 12 14 rfl rfl rfl rfl h (fun h => ?_) fun h => ?_
 refine gR 5 rfl ?_
 obtain ⟨hb, h⟩ := h
 refine gR 1 rfl <| gV 17 (.int .i64 (p2 - 1)) rfl (au hb rfl) rfl ?_
 obtain ⟨e, w, x, hs66, h⟩ := h
 refine gCY hs66 [0] ?_
 refine gR 3 rfl ?_
 obtain ⟨hb, h⟩ := h
 refine gR 1 rfl <| gV 22 (.int .i64 (p2 - 1)) rfl (au hb rfl) rfl ?_
 obtain ⟨f, y, z, hs67, h⟩ := h
 refine gCY hs67 [0] ?_
 refine gR 3 rfl ?_
 obtain ⟨hb, h⟩ := h
 refine gR 1 rfl <| gV 27 (.int .i64 (p2 - 1)) rfl (au hb rfl) rfl ?_
 obtain ⟨g, t, v, hs68, h⟩ := h
 refine gCY hs68 [0] ?_
 refine gR 1 rfl <| gHR 8 (kidsV [e, f, g]) rfl (oa [e, f, g]) rfl <| gR 7 rfl <| gFR 8 rfl (dJ _) rfl rfl ?_
 obtain ⟨rfl, rfl, rfl⟩ := h
 exact go_sub (F' := (mkF 120 0 [(6, .ptr 1 0)])) (H' := ⟨2, [(1, vC ((Tree.node 19 [] [] [e, f, g]).kind) ((Tree.node 19 [] [] [e, f, g]).text) ((Tree.node 19 [] [] [e, f, g]).leads) ((Tree.node 19 [] [] [e, f, g]).kids)), (0, vD t v)]⟩) [0, 1] [0] rfl hK pq1 ⟨⟨_, rfl, rfl, (.cons .rfl (.cons .rfl (.cons (.nil 1) (.cons .rfl .nil))))⟩, (pqo1 rfl rfl)⟩ rfl <| go_endD [1] ah (rs := [.cell 6 29]) rfl rfl ⟨rfl, rfl⟩
 refine gR 8 rfl <| qBeZ 31 33 rfl rfl rfl rfl h (fun h => ?_) fun h => ?_
 refine gR 5 rfl ?_
 obtain ⟨hb, h⟩ := h
 refine gR 1 rfl <| gV 36 (.int .i64 (p2 - 1)) rfl (au hb rfl) rfl ?_
 obtain ⟨a, r, s, hs69, h⟩ := h
 refine gCY hs69 [0] ?_
 refine gR 3 rfl ?_
 obtain ⟨hb, h⟩ := h
 refine gR 1 rfl <| gV 41 (.int .i64 (p2 - 1)) rfl (au hb rfl) rfl ?_
 obtain ⟨b, n, o, hs70, h⟩ := h
 refine gCY hs70 [0] ?_
 refine gR 1 rfl <| gHR 6 (kidsV [a, b]) rfl (oa [a, b]) rfl <| gR 7 rfl <| gFR 6 rfl (dJ _) rfl rfl ?_
 obtain ⟨rfl, rfl, rfl⟩ := h
 exact go_sub (F' := (mkF 120 0 [(6, .ptr 1 0)])) (H' := ⟨2, [(1, vC ((Tree.node 20 [121] [] [a, b]).kind) ((Tree.node 20 [121] [] [a, b]).text) ((Tree.node 20 [121] [] [a, b]).leads) ((Tree.node 20 [121] [] [a, b]).kids)), (0, vD n o)]⟩) [0, 1] [0] rfl hK pq1 ⟨⟨_, rfl, rfl, (.cons .rfl (.cons .rfl (.cons (.nil 1) (.cons .rfl .nil))))⟩, (pqo1 rfl rfl)⟩ rfl <| go_endD [1] ah (rs := [.cell 6 29]) rfl rfl ⟨rfl, rfl⟩
 refine gR 8 rfl <| qBeZ 45 47 rfl rfl rfl rfl h (fun h => ?_) fun h => ?_
 refine gR 6 rfl ?_
 obtain ⟨hb, h⟩ := h
 refine gR 1 rfl <| gV 51 (.int .i64 (p2 - 1)) rfl (au hb rfl) rfl ?_
 obtain ⟨c, p, q, hs71, h⟩ := h
 refine gCY hs71 [0] ?_
 refine gR 1 rfl <| gHR 4 (kidsV [c]) rfl (lc c) rfl <| gR 7 rfl <| gFR 4 rfl (dJ _) rfl rfl ?_
 obtain ⟨rfl, rfl, rfl⟩ := h
 exact go_sub (F' := (mkF 120 0 [(6, .ptr 1 0)])) (H' := ⟨2, [(1, vC ((Tree.node 22 [] [] [c]).kind) ((Tree.node 22 [] [] [c]).text) ((Tree.node 22 [] [] [c]).leads) ((Tree.node 22 [] [] [c]).kids)), (0, vD p q)]⟩) [0, 1] [0] rfl hK pq1 ⟨⟨_, rfl, rfl, (.cons .rfl (.cons .rfl (.cons (.nil 1) (.cons .rfl .nil))))⟩, (pqo1 rfl rfl)⟩ rfl <| go_endD [1] ah (rs := [.cell 6 29]) rfl rfl ⟨rfl, rfl⟩
 refine gR 6 rfl <| qBdZ 58 57 rfl rfl rfl rfl h (fun h => ?_) fun h => ?_
 exact gR 6 rfl <| gJ (h K hK) [0, 1] [0] rfl hK pq6 (pqo2 rfl rfl rfl rfl) rfl
 exact gR 6 rfl <| gJ (h K hK) [0, 1] [0] rfl hK pq6 (pqo2 rfl rfl rfl rfl) rfl
theorem fb (m : Nat) (p1 p2 : Int) (e : List Int) (f d : Int) (k : Bool) (r0 : Tree) (g : List Int) (c : Int) (h : ((k = true) → InI (p2 - 1) ∧ ∃ l n o, ax e f 5 (p2 - 1) l n o ∧ ∃ a, ca l a ∧ InI (p2 - 1) ∧ ∃ p i j, ax n o 5 (p2 - 1) p i j ∧ ∃ b, ca p b ∧ (Tree.node 21 [60] [] [a, b]) = r0 ∧ i = g ∧ j = c) ∧ ((k = false) → ((d = 4) → cH m p1 p2 e f d (p1 == 5) r0 g c) ∧ ((d ≠ 4) → cH m p1 p2 e f d false r0 g c))) : dE (m + 1) p1 p2 e f d k r0 g c := by
 intro K hK
 refine qBi 55 rfl rfl rfl h (fun h => ?_) fun h => ?_
 refine gR 5 rfl ?_
 obtain ⟨hb, h⟩ := h
 refine gR 1 rfl <| gV 64 (.int .i64 (p2 - 1)) rfl (au hb rfl) rfl ?_
 obtain ⟨l, n, o, hs72, h⟩ := h
 refine gCY hs72 [0] ?_
 obtain ⟨a, hs73, h⟩ := h
 refine gC0 hs73 (by kernel_rfl) rfl rfl .rfl rfl <| gR 2 rfl ?_
 obtain ⟨hb, h⟩ := h
 refine gR 1 rfl <| gV 69 (.int .i64 (p2 - 1)) rfl (au hb rfl) rfl ?_
 obtain ⟨p, i, j, hs74, h⟩ := h
 refine gCY hs74 [0] ?_
 obtain ⟨b, hs75, h⟩ := h
 refine gC0 hs75 (by kernel_rfl) rfl rfl .rfl rfl <| gR 1 rfl <| gHR 6 (kidsV [a, b]) rfl (oa [a, b]) rfl <| gR 7 rfl <| gFR 6 rfl (dJ _) rfl rfl ?_
 obtain ⟨rfl, rfl, rfl⟩ := h
 exact go_sub (F' := (mkF 120 0 [(6, .ptr 1 0)])) (H' := ⟨2, [(1, vC ((Tree.node 21 [60] [] [a, b]).kind) ((Tree.node 21 [60] [] [a, b]).text) ((Tree.node 21 [60] [] [a, b]).leads) ((Tree.node 21 [60] [] [a, b]).kids)), (0, vD i j)]⟩) [0, 1] [0] rfl hK pq1 ⟨⟨_, rfl, rfl, (.cons .rfl (.cons .rfl (.cons (.nil 1) (.cons .rfl .nil))))⟩, (pqo1 rfl rfl)⟩ rfl <| go_endD [1] ah (rs := [.cell 6 29]) rfl rfl ⟨rfl, rfl⟩
 refine gR 6 rfl <| qBeZ 77 76 rfl rfl rfl rfl h (fun h => ?_) fun h => ?_
 exact gR 6 rfl <| gJ (h K hK) [0, 1] [0] rfl hK pq6 (pqo2 rfl rfl rfl rfl) rfl
 exact gR 6 rfl <| gJ (h K hK) [0, 1] [0] rfl hK pq6 (pqo2 rfl rfl rfl rfl) rfl
theorem bz (m : Nat) (p1 p2 : Int) (g : List Int) (i q : Int) (r : Bool) (r0 : Tree) (j : List Int) (c : Int) (h : ((r = true) → InI (p2 - 1) ∧ ∃ b n o, ax g i 5 (p2 - 1) b n o ∧ (Tree.node 16 [102] [] [(Tree.node 17 [] [] [b])]) = r0 ∧ n = j ∧ o = c) ∧ ((r = false) → ((3 < q) → InI (p2 - 1) ∧ ∃ s t v, ax g i p1 (p2 - 1) s t v ∧ ∃ d, ca s d ∧ InI (p2 - 1) ∧ ∃ w p k, ax t v p1 (p2 - 1) w p k ∧ ∃ a, ca w a ∧ (Tree.node 21 [43] [] [d, a]) = r0 ∧ p = j ∧ k = c) ∧ ((¬ 3 < q) → ((p1 = 6) → (Tree.node 11 [34, 115, 34] [] []) = r0 ∧ g = j ∧ i = c) ∧ ((p1 ≠ 6) → ((p1 = 7) → (Tree.node 13 [] [] []) = r0 ∧ g = j ∧ i = c) ∧ ((p1 ≠ 7) → ∃ l e f, cO g i 2 l e f ∧ ((l = 0) → (Tree.node 12 [120] [] []) = r0 ∧ e = j ∧ f = c) ∧ ((l ≠ 0) → (Tree.node 10 [52] [] []) = r0 ∧ e = j ∧ f = c)))))) : cH (m + 1) p1 p2 g i q r r0 j c := by
 intro K hK
 refine qBi 74 rfl rfl rfl h (fun h => ?_) fun h => ?_
 refine gR 5 rfl ?_
 obtain ⟨hb, h⟩ := h
 refine gR 1 rfl <| gV 83 (.int .i64 (p2 - 1)) rfl (au hb rfl) rfl ?_
 obtain ⟨b, n, o, hs76, h⟩ := h
 refine gCY hs76 [0] ?_
 refine gR 1 rfl <| gHR 4 (kidsV [b]) rfl (lc b) rfl <| gR 1 rfl <| gFR 4 rfl (dJ _) rfl rfl <| gS 86 (.agg [.int .i64 17, .str [], .row 1 [], .row 4 (kidsV [b])]) rfl (.agg (.cons .rfl (.cons .rfl (.cons (.nil 1) (.cons .rfl .nil))))) rfl <| gR 1 rfl <| gHR 5 (kidsV [(Tree.node 17 [] [] [b])]) rfl (lc (Tree.node 17 [] [] [b])) rfl <| gR 7 rfl <| gFR 5 rfl (dJ _) rfl rfl ?_
 obtain ⟨rfl, rfl, rfl⟩ := h
 exact go_sub (F' := (mkF 120 0 [(6, .ptr 1 0)])) (H' := ⟨2, [(1, vC ((Tree.node 16 [102] [] [(Tree.node 17 [] [] [b])]).kind) ((Tree.node 16 [102] [] [(Tree.node 17 [] [] [b])]).text) ((Tree.node 16 [102] [] [(Tree.node 17 [] [] [b])]).leads) ((Tree.node 16 [102] [] [(Tree.node 17 [] [] [b])]).kids)), (0, vD n o)]⟩) [0, 1] [0] rfl hK pq1 ⟨⟨_, rfl, rfl, (.cons .rfl (.cons .rfl (.cons (.nil 1) (.cons .rfl .nil))))⟩, (pqo1 rfl rfl)⟩ rfl <| go_endD [1] ah (rs := [.cell 6 29]) rfl rfl ⟨rfl, rfl⟩
 refine gR 8 rfl <| qBdZ 89 91 rfl rfl rfl rfl h (fun h => ?_) fun h => ?_
 refine gR 6 rfl ?_
 obtain ⟨hb, h⟩ := h
 refine gR 1 rfl <| gV 95 (.int .i64 (p2 - 1)) rfl (au hb rfl) rfl ?_
 obtain ⟨s, t, v, hs77, h⟩ := h
 refine gCY hs77 [0] ?_
 obtain ⟨d, hs78, h⟩ := h
 refine gC0 hs78 (by kernel_rfl) rfl rfl .rfl rfl <| gR 3 rfl ?_
 obtain ⟨hb, h⟩ := h
 refine gR 1 rfl <| gV 101 (.int .i64 (p2 - 1)) rfl (au hb rfl) rfl ?_
 obtain ⟨w, p, k, hs79, h⟩ := h
 refine gCY hs79 [0] ?_
 obtain ⟨a, hs80, h⟩ := h
 refine gC0 hs80 (by kernel_rfl) rfl rfl .rfl rfl <| gR 1 rfl <| gHR 6 (kidsV [d, a]) rfl (oa [d, a]) rfl <| gR 7 rfl <| gFR 6 rfl (dJ _) rfl rfl ?_
 obtain ⟨rfl, rfl, rfl⟩ := h
 exact go_sub (F' := (mkF 120 0 [(6, .ptr 1 0)])) (H' := ⟨2, [(1, vC ((Tree.node 21 [43] [] [d, a]).kind) ((Tree.node 21 [43] [] [d, a]).text) ((Tree.node 21 [43] [] [d, a]).leads) ((Tree.node 21 [43] [] [d, a]).kids)), (0, vD p k)]⟩) [0, 1] [0] rfl hK pq1 ⟨⟨_, rfl, rfl, (.cons .rfl (.cons .rfl (.cons (.nil 1) (.cons .rfl .nil))))⟩, (pqo1 rfl rfl)⟩ rfl <| go_endD [1] ah (rs := [.cell 6 29]) rfl rfl ⟨rfl, rfl⟩
 refine gR 8 rfl <| qBeZ 106 108 rfl rfl rfl rfl h (fun h => ?_) fun h => ?_
 refine gR 10 rfl ?_
 obtain ⟨rfl, rfl, rfl⟩ := h
 exact go_sub (F' := (mkF 120 0 [(6, .ptr 1 0)])) (H' := ⟨2, [(1, vC ((Tree.node 11 [34, 115, 34] [] []).kind) ((Tree.node 11 [34, 115, 34] [] []).text) ((Tree.node 11 [34, 115, 34] [] []).leads) ((Tree.node 11 [34, 115, 34] [] []).kids)), (0, vD g i)]⟩) [0, 1] [0] rfl hK pq1 ⟨⟨_, rfl, rfl, (.cons .rfl (.cons .rfl (.cons (.nil 1) (.cons (.nil 4) .nil))))⟩, (pqo1 rfl rfl)⟩ rfl <| go_endD [1] ah (rs := [.cell 6 29]) rfl rfl ⟨rfl, rfl⟩
 refine gR 8 rfl <| qBeZ 110 112 rfl rfl rfl rfl h (fun h => ?_) fun h => ?_
 refine gR 10 rfl ?_
 obtain ⟨rfl, rfl, rfl⟩ := h
 exact go_sub (F' := (mkF 120 0 [(6, .ptr 1 0)])) (H' := ⟨2, [(1, vC ((Tree.node 13 [] [] []).kind) ((Tree.node 13 [] [] []).text) ((Tree.node 13 [] [] []).leads) ((Tree.node 13 [] [] []).kids)), (0, vD g i)]⟩) [0, 1] [0] rfl hK pq1 ⟨⟨_, rfl, rfl, (.cons .rfl (.cons .rfl (.cons (.nil 1) (.cons (.nil 4) .nil))))⟩, (pqo1 rfl rfl)⟩ rfl <| go_endD [1] ah (rs := [.cell 6 29]) rfl rfl ⟨rfl, rfl⟩
 refine gR 4 rfl ?_
 obtain ⟨l, e, f, hs81, h⟩ := h
 refine gCY hs81 [0] ?_
 refine gR 4 rfl <| qBeZ 114 117 rfl rfl rfl rfl h (fun h => ?_) fun h => ?_
 refine gR 10 rfl ?_
 obtain ⟨rfl, rfl, rfl⟩ := h
 exact go_sub (F' := (mkF 120 0 [(6, .ptr 1 0)])) (H' := ⟨2, [(1, vC ((Tree.node 12 [120] [] []).kind) ((Tree.node 12 [120] [] []).text) ((Tree.node 12 [120] [] []).leads) ((Tree.node 12 [120] [] []).kids)), (0, vD e f)]⟩) [0, 1] [0] rfl hK pq1 ⟨⟨_, rfl, rfl, (.cons .rfl (.cons .rfl (.cons (.nil 1) (.cons (.nil 4) .nil))))⟩, (pqo1 rfl rfl)⟩ rfl <| go_endD [1] ah (rs := [.cell 6 29]) rfl rfl ⟨rfl, rfl⟩
 refine gR 11 rfl ?_
 obtain ⟨rfl, rfl, rfl⟩ := h
 exact go_sub (F' := (mkF 120 0 [(6, .ptr 1 0)])) (H' := ⟨2, [(1, vC ((Tree.node 10 [52] [] []).kind) ((Tree.node 10 [52] [] []).text) ((Tree.node 10 [52] [] []).leads) ((Tree.node 10 [52] [] []).kids)), (0, vD e f)]⟩) [0, 1] [0] rfl hK pq1 ⟨⟨_, rfl, rfl, (.cons .rfl (.cons .rfl (.cons (.nil 1) (.cons (.nil 4) .nil))))⟩, (pqo1 rfl rfl)⟩ rfl <| go_endD [1] ah (rs := [.cell 6 29]) rfl rfl ⟨rfl, rfl⟩
theorem mC (m : Nat) (p0 r0 : Tree) (h : (Tree.node 22 [] [] [p0]) = r0) : ca p0 r0 := by
 refine ⟨rfl, rfl, ?_⟩
 refine al 6 [] Tryz.func16 rfl rfl rfl (aA rfl) fun K hK => ?_
 refine gR 3 rfl <| gFP 0 rfl rfl rfl rfl <| gR 7 rfl <| gHR 2 (kidsV [p0]) rfl (lc p0) rfl <| gR 5 rfl <| gFR 2 rfl (dJ _) rfl rfl ?_
 subst h
 exact go_sub (F' := (mkF 6 0 [(2, .ptr 0 0)])) (H' := ⟨1, [(0, vC ((Tree.node 22 [] [] [p0]).kind) ((Tree.node 22 [] [] [p0]).text) ((Tree.node 22 [] [] [p0]).leads) ((Tree.node 22 [] [] [p0]).kids))]⟩) [1] [] rfl hK pq1 ⟨⟨_, rfl, rfl, (.cons .rfl (.cons .rfl (.cons (.nil 1) (.cons .rfl .nil))))⟩, trivial⟩ rfl <| go_end ah (rs := [.cell 2 29]) rfl rfl rfl
theorem lx (m : Nat) (p0 : Int) (p1 : Tree) (r0 : List Tree) (h : [(Tree.node 1 [77] [] [(Tree.node 2 [102] [] [(Tree.node 4 [120] [] [(Tree.node 5 [] [] [])]), (Tree.node 5 [] [] []), (Tree.node 12 [120] [] [])]), (Tree.node 2 [103] [] [(Tree.node 4 [120] [] [(Tree.node 5 [] [] [])]), (Tree.node p0 [] [] []), p1])])] = r0) : cZ p0 p1 r0 := by
 refine ⟨rfl, rfl, ?_⟩
 refine al 27 [] Tryz.func10 rfl rfl rfl (aA rfl) fun K hK => ?_
 refine gR 3 rfl <| gFP 0 rfl rfl rfl rfl <| gR 6 rfl <| gS 7 (.agg [.int .i64 5, .str [], .row 1 [], .row 4 (kidsV [])]) rfl (.agg (.cons .rfl (.cons .rfl (.cons (.nil 1) (.cons (.nil 4) .nil))))) rfl <| gR 1 rfl <| gHR 1 (kidsV [(Tree.node 5 [] [] [])]) rfl (lc (Tree.node 5 [] [] [])) rfl <| gR 3 rfl <| gFR 1 rfl (dJ _) rfl rfl <| gS 9 (.agg [.int .i64 4, .str [120], .row 1 [], .row 4 (kidsV [(Tree.node 5 [] [] [])])]) rfl (.agg (.cons .rfl (.cons .rfl (.cons (.nil 1) (.cons .rfl .nil))))) rfl <| gS 10 (.agg [.int .i64 5, .str [], .row 1 [], .row 4 (kidsV [])]) rfl (.agg (.cons .rfl (.cons .rfl (.cons (.nil 1) (.cons (.nil 4) .nil))))) rfl <| gS 11 (.agg [.int .i64 12, .str [120], .row 1 [], .row 4 (kidsV [])]) rfl (.agg (.cons .rfl (.cons .rfl (.cons (.nil 1) (.cons (.nil 4) .nil))))) rfl ?_
 refine gR 1 rfl <| gHR 2 (kidsV [(Tree.node 4 [120] [] [(Tree.node 5 [] [] [])]), (Tree.node 5 [] [] []), (Tree.node 12 [120] [] [])]) rfl (oa [(Tree.node 4 [120] [] [(Tree.node 5 [] [] [])]), (Tree.node 5 [] [] []), (Tree.node 12 [120] [] [])]) rfl <| gR 8 rfl <| gS 14 (.agg [.int .i64 5, .str [], .row 1 [], .row 4 (kidsV [])]) rfl (.agg (.cons .rfl (.cons .rfl (.cons (.nil 1) (.cons (.nil 4) .nil))))) rfl <| gR 1 rfl <| gHR 4 (kidsV [(Tree.node 5 [] [] [])]) rfl (lc (Tree.node 5 [] [] [])) rfl <| gR 4 rfl <| gFR 4 rfl (dJ _) rfl rfl <| gS 16 (.agg [.int .i64 4, .str [120], .row 1 [], .row 4 (kidsV [(Tree.node 5 [] [] [])])]) rfl (.agg (.cons .rfl (.cons .rfl (.cons (.nil 1) (.cons .rfl .nil))))) rfl ?_
 refine gS 18 (.agg [.int .i64 p0, .str [], .row 1 [], .row 4 (kidsV [])]) rfl (.agg (.cons .rfl (.cons .rfl (.cons (.nil 1) (.cons (.nil 4) .nil))))) rfl <| gR 1 rfl <| gHR 5 (kidsV [(Tree.node 4 [120] [] [(Tree.node 5 [] [] [])]), (Tree.node p0 [] [] []), p1]) rfl (oa [(Tree.node 4 [120] [] [(Tree.node 5 [] [] [])]), (Tree.node p0 [] [] []), p1]) rfl <| gR 9 rfl <| gFR 2 rfl (dJ _) rfl rfl <| gS 22 (.agg [.int .i64 2, .str [102], .row 1 [], .row 4 (kidsV [(Tree.node 4 [120] [] [(Tree.node 5 [] [] [])]), (Tree.node 5 [] [] []), (Tree.node 12 [120] [] [])])]) rfl (.agg (.cons .rfl (.cons .rfl (.cons (.nil 1) (.cons .rfl .nil))))) rfl <| gFR 5 rfl (dJ _) rfl rfl <| gS 23 (.agg [.int .i64 2, .str [103], .row 1 [], .row 4 (kidsV [(Tree.node 4 [120] [] [(Tree.node 5 [] [] [])]), (Tree.node p0 [] [] []), p1])]) rfl (.agg (.cons .rfl (.cons .rfl (.cons (.nil 1) (.cons .rfl .nil))))) rfl ?_
 refine gR 1 rfl <| gHR 7 (kidsV [(Tree.node 2 [102] [] [(Tree.node 4 [120] [] [(Tree.node 5 [] [] [])]), (Tree.node 5 [] [] []), (Tree.node 12 [120] [] [])]), (Tree.node 2 [103] [] [(Tree.node 4 [120] [] [(Tree.node 5 [] [] [])]), (Tree.node p0 [] [] []), p1])]) rfl (oa [(Tree.node 2 [102] [] [(Tree.node 4 [120] [] [(Tree.node 5 [] [] [])]), (Tree.node 5 [] [] []), (Tree.node 12 [120] [] [])]), (Tree.node 2 [103] [] [(Tree.node 4 [120] [] [(Tree.node 5 [] [] [])]), (Tree.node p0 [] [] []), p1])]) rfl <| gR 1 rfl <| gFR 7 rfl (dJ _) rfl rfl <| gS 25 (.agg [.int .i64 1, .str [77], .row 1 [], .row 4 (kidsV [(Tree.node 2 [102] [] [(Tree.node 4 [120] [] [(Tree.node 5 [] [] [])]), (Tree.node 5 [] [] []), (Tree.node 12 [120] [] [])]), (Tree.node 2 [103] [] [(Tree.node 4 [120] [] [(Tree.node 5 [] [] [])]), (Tree.node p0 [] [] []), p1])])]) rfl (.agg (.cons .rfl (.cons .rfl (.cons (.nil 1) (.cons .rfl .nil))))) rfl ?_
 refine gR 1 rfl <| gHR 8 (kidsV [(Tree.node 1 [77] [] [(Tree.node 2 [102] [] [(Tree.node 4 [120] [] [(Tree.node 5 [] [] [])]), (Tree.node 5 [] [] []), (Tree.node 12 [120] [] [])]), (Tree.node 2 [103] [] [(Tree.node 4 [120] [] [(Tree.node 5 [] [] [])]), (Tree.node p0 [] [] []), p1])])]) rfl (lc (Tree.node 1 [77] [] [(Tree.node 2 [102] [] [(Tree.node 4 [120] [] [(Tree.node 5 [] [] [])]), (Tree.node 5 [] [] []), (Tree.node 12 [120] [] [])]), (Tree.node 2 [103] [] [(Tree.node 4 [120] [] [(Tree.node 5 [] [] [])]), (Tree.node p0 [] [] []), p1])])) rfl <| gR 4 rfl <| gFR 8 rfl (dJ _) rfl rfl ?_
 subst h
 exact go_end ah (rs := [.tmp 4]) rfl rfl rfl
theorem jL (m : Nat) (p0 : List Int) (p1 p2 : Int) (r0 : Bool) (h : ∃ q, fI p0 q ∧ ((q = false) → ∃ s, dI s ∧ s = r0) ∧ ((q = true) → ∃ b, dA p1 3 b ∧ InI (5 + b) ∧ ∃ e, dA p2 3 e ∧ InI (5 + e) ∧ ∃ t v, gu p0 t v ∧ ∃ r x y, ax t v (5 + b) 4 r x y ∧ ∃ g, cZ (5 + b) r g ∧ ∃ n, cZ (5 + e) r n ∧ ∃ c i, jj g (GPlace.mk 0 [1, 2]) c i ∧ ∃ a, br n a ∧ ∃ d, br g d ∧ (((d.length : Int) ≠ 0) → false = r0) ∧ (((d.length : Int) = 0) → ((i ≠ 0) → false = r0) ∧ ((i = 0) → ((c.kind ≠ (5 + b)) → false = r0) ∧ ((c.kind = (5 + b)) → (((c.kids.length : Int) ≠ 0) → false = r0) ∧ (((c.kids.length : Int) = 0) → (((5 + b) = (5 + e)) → ∃ j, dI j ∧ ((j = true) → ((a.length : Int) == 0) = r0) ∧ ((j = false) → false = r0)) ∧ (((5 + b) ≠ (5 + e)) → ∃ k, dI k ∧ ((k = true) → (((a.length : Int) = 1) → ∃ l, a[0]? = some l ∧ ((l.Kind = 4) → ∃ o, a[0]? = some o ∧ ∃ p, bL o.At.Path [1, 2] p ∧ p = r0) ∧ ((l.Kind ≠ 4) → false = r0)) ∧ (((a.length : Int) ≠ 1) → false = r0)) ∧ ((k = false) → false = r0)))))))) : fF p0 p1 p2 r0 := by
 refine ⟨rfl, rfl, ?_⟩
 refine al 93 [] Tryz.func3 rfl rfl rfl (aA rfl) fun K hK => ?_
 refine gR 9 rfl ?_
 obtain ⟨q, hs19, h⟩ := h
 refine gC0 hs19 (by kernel_rfl) rfl rfl .rfl rfl <| gR 3 rfl <| qBh 15 rfl rfl rfl h gL gK (fun h => ?_) fun h => ?_
 refine gR 3 rfl ?_
 obtain ⟨s, hs20, h⟩ := h
 refine gC0 hs20 (by kernel_rfl) rfl rfl .rfl rfl <| gR 5 rfl ?_
 subst h
 exact go_end ah (rs := [.tmp 6]) rfl rfl rfl
 refine gR 6 rfl ?_
 obtain ⟨b, hs21, h⟩ := h
 refine gC0 hs21 (by kernel_rfl) rfl rfl .rfl rfl ?_
 obtain ⟨hb, h⟩ := h
 refine gR 1 rfl <| gV 19 (.int .i64 (5 + b)) rfl (au hb rfl) rfl <| gR 6 rfl ?_
 obtain ⟨e, hs22, h⟩ := h
 refine gC0 hs22 (by kernel_rfl) rfl rfl .rfl rfl ?_
 obtain ⟨hb, h⟩ := h
 refine gR 1 rfl <| gV 22 (.int .i64 (5 + e)) rfl (au hb rfl) rfl <| gR 6 rfl ?_
 obtain ⟨t, v, hs23, h⟩ := h
 refine gC hs23 [] (by kernel_rfl) rfl rfl .rfl trivial rfl ?_
 rintro _ _ ⟨rfl, rfl⟩
 refine gR 1 rfl ?_
 obtain ⟨r, x, y, hs24, h⟩ := h
 refine gCY hs24 [0] ?_
 refine gR 5 rfl <| gDs [3] 7 8 rfl (by kernel_rfl) (by kernel_rfl) <| gDr [(0, 2), (1, 3), (3, 2), (4, 3)] (by kernel_rfl) rfl rfl ?_
 obtain ⟨g, hs25, h⟩ := h
 refine nd 2 hs25 (by kernel_rfl) rfl (by kernel_rfl) rfl rfl .rfl rfl rfl ?_
 obtain ⟨n, hs26, h⟩ := h
 refine nd 5 hs26 (by kernel_rfl) rfl (by kernel_rfl) rfl rfl .rfl rfl rfl ?_
 refine gDr [(6, 0), (7, 1)] (by kernel_rfl) rfl rfl <| gDe (by kernel_rfl) <| gR 6 rfl <| gFR 4 rfl rfl rfl rfl ?_
 obtain ⟨c, i, hs27, h⟩ := h
 refine gC0 hs27 (by kernel_rfl) rfl rfl .rfl rfl <| gR 11 rfl ?_
 obtain ⟨a, hs28, h⟩ := h
 refine gC hs28 [] (by kernel_rfl) rfl rfl .rfl trivial rfl ?_
 rintro _ _ ⟨rfl, rfl⟩
 refine gHR 6 (List.map ae.w a) rfl (vH _ a) rfl <| gR 7 rfl ?_
 obtain ⟨d, hs29, h⟩ := h
 refine gC hs29 [] (by kernel_rfl) rfl rfl .rfl trivial rfl ?_
 rintro _ _ ⟨rfl, rfl⟩
 refine gHR 7 (List.map ae.w d) rfl (vH _ d) rfl <| gR 1 rfl <| gV 44 (.int .i64 (d.length : Int)) rfl (aM (aF ae.w _)) rfl <| gLO 7 rfl (aF ae.w _) fun hl30 => gR 2 rfl <| qBhZ 46 45 rfl rfl rfl rfl h ec cP (fun h => ?_) fun h => ?_
 refine gR 18 rfl <| go_sub (F' := (mkF 93 0 [])) (H' := ⟨0, []⟩) [] [] rfl hK trivial trivial rfl <| gR 7 rfl ?_
 subst h
 exact go_end ah (rs := [.tmp 6]) rfl rfl rfl
 refine gR 4 rfl <| qBhZ 50 49 rfl rfl rfl rfl h ec cP (fun h => ?_) fun h => ?_
 refine gR 14 rfl <| go_sub (F' := (mkF 93 0 [])) (H' := ⟨0, []⟩) [] [] rfl hK trivial trivial rfl <| gR 7 rfl ?_
 subst h
 exact go_end ah (rs := [.tmp 6]) rfl rfl rfl
 refine gR 6 rfl <| qBhZ 56 55 rfl rfl rfl rfl h ec cP (fun h => ?_) fun h => ?_
 refine gR 8 rfl <| go_sub (F' := (mkF 93 0 [])) (H' := ⟨0, []⟩) [] [] rfl hK trivial trivial rfl <| gR 7 rfl ?_
 subst h
 exact go_end ah (rs := [.tmp 6]) rfl rfl rfl
 refine gR 3 rfl <| gV 59 (.int .i64 (c.kids.length : Int)) rfl (aM (aK _)) rfl <| gLB 58 rfl (aK _) fun hl31 => gR 4 rfl <| qBh 61 rfl rfl rfl h ec cP (fun h => ?_) fun h => ?_
 refine gR 1 rfl <| go_sub (F' := (mkF 93 0 [])) (H' := ⟨0, []⟩) [] [] rfl hK trivial trivial rfl <| gR 7 rfl ?_
 subst h
 exact go_end ah (rs := [.tmp 6]) rfl rfl rfl
 refine gR 3 rfl <| go_sub (F' := (mkF 93 0 [(1, .int .i64 (5 + b)), (2, .int .i64 (5 + e)), (12, .sl 0)])) (H' := ⟨1, [(0, .row 42 3 (List.map ae.w a))]⟩) [6] [] rfl hK pq3 ⟨⟨_, rfl, rfl, rfl, (vH _ a).symm⟩, trivial⟩ rfl <| gR 8 rfl <| qBe 64 rfl rfl rfl h (fun h => ?_) fun h => ?_
 refine gR 3 rfl ?_
 obtain ⟨j, hs32, h⟩ := h
 refine gC0 hs32 (by kernel_rfl) rfl rfl .rfl rfl <| gR 1 rfl <| qBiZ 66 65 rfl rfl rfl rfl h (fun h => ?_) fun h => ?_
 refine gR 2 rfl <| gV 68 (.int .i64 (a.length : Int)) rfl (aM (aF ae.w _)) rfl <| gLO 0 rfl (aF ae.w _) fun hl33 => gR 7 rfl ?_
 subst h
 exact go_end ah (rs := [.tmp 6]) rfl rfl rfl
 refine gR 9 rfl ?_
 subst h
 exact go_end ah (rs := [.tmp 6]) rfl rfl rfl
 refine gR 5 rfl ?_
 obtain ⟨k, hs34, h⟩ := h
 refine gC0 hs34 (by kernel_rfl) rfl rfl .rfl rfl <| gR 1 rfl <| qBiZ 72 71 rfl rfl rfl rfl h (fun h => ?_) fun h => ?_
 refine gR 2 rfl <| gV 74 (.int .i64 (a.length : Int)) rfl (aM (aF ae.w _)) rfl <| gLO 0 rfl (aF ae.w _) fun hl35 => gR 3 rfl <| qBeZ 77 76 rfl rfl rfl rfl h (fun h => ?_) fun h => ?_
 refine gR 1 rfl ?_
 obtain ⟨l, hxx0_18, h⟩ := h
 refine gY (yIO ah rfl rfl rfl rfl (by have := (mapget (f := ae.w) hxx0_18); exact (List.getElem?_eq_some_iff.1 this).1)) rfl rfl ?_
 refine gR 1 rfl <| gDo (.nop) (dLe ah rfl rfl rfl (mapget (f := ae.w) hxx0_18) rfl) trivial rfl rfl rfl <| gR 3 rfl <| qBeZ 84 83 rfl rfl rfl rfl h (fun h => ?_) fun h => ?_
 refine gR 1 rfl ?_
 obtain ⟨o, hxx0_19, h⟩ := h
 refine gY (yIO ah rfl rfl rfl rfl (by have := (mapget (f := ae.w) hxx0_19); exact (List.getElem?_eq_some_iff.1 this).1)) rfl rfl ?_
 refine gR 2 rfl <| gDo (.nop) (dLe ah rfl rfl rfl (mapget (f := ae.w) hxx0_19) rfl) trivial rfl rfl rfl <| gR 1 rfl <| gFR 1 rfl rfl rfl rfl ?_
 obtain ⟨p, hs36, h⟩ := h
 refine gC0 hs36 (by kernel_rfl) rfl rfl .rfl rfl <| gR 5 rfl ?_
 subst h
 exact go_end ah (rs := [.tmp 6]) rfl rfl rfl
 refine gR 12 rfl ?_
 subst h
 exact go_end ah (rs := [.tmp 6]) rfl rfl rfl
 refine gR 19 rfl ?_
 subst h
 exact go_end ah (rs := [.tmp 6]) rfl rfl rfl
 refine gR 24 rfl ?_
 subst h
 exact go_end ah (rs := [.tmp 6]) rfl rfl rfl
theorem jD (m : Nat) (p0 p1 r0 : Int) (h : p1 ≠ 0 ∧ (((Int.tmod p0 p1) < 0) → InI ((Int.tmod p0 p1) + p1) ∧ ((Int.tmod p0 p1) + p1) = r0) ∧ ((¬ (Int.tmod p0 p1) < 0) → (Int.tmod p0 p1) = r0)) : dA p0 p1 r0 := by
 refine ⟨rfl, rfl, ?_⟩
 refine al 14 [] Tryz.func7 rfl rfl rfl (aA rfl) fun K hK => ?_
 refine gR 9 rfl ?_
 obtain ⟨hb, h⟩ := h
 refine gY (Db rfl rfl hb) rfl rfl <| gR 10 rfl <| qBd 9 rfl rfl rfl h (fun h => ?_) fun h => ?_
 refine gR 4 rfl ?_
 obtain ⟨hb, h⟩ := h
 refine gR 1 rfl <| gV 12 (.int .i64 ((Int.tmod p0 p1) + p1)) rfl (au hb rfl) rfl <| gR 10 rfl ?_
 subst h
 exact go_end ah (rs := [.tmp 4]) rfl rfl rfl
 refine gR 10 rfl ?_
 subst h
 exact go_end ah (rs := [.tmp 4]) rfl rfl rfl
theorem mW (m : Nat) (p0 b : List Int) (a : Int) (h : p0.length ≤ 1000000000 ∧ p0 = b ∧ 0 = a) : gu p0 b a := by
 refine al 8 [] Tryz.func9 rfl rfl rfl (aA rfl) fun K hK => ?_
 refine gR 9 rfl ?_
 obtain ⟨hb, h⟩ := h
 refine gDo (.repl 0 (.row 3 1 (List.map (V.int .i64) p0))) (nb ah rfl rfl rfl rfl rfl (List.nil_append _) (by rw [aF]; exact hb)) (okR rfl) rfl rfl rfl <| gR 6 rfl <| gFR 1 rfl (me _ (fun _ => rfl) _) rfl rfl ?_
 obtain ⟨rfl, rfl⟩ := h
 exact go_sub (F' := (mkF 8 0 [(2, .ptr 0 0)])) (H' := ⟨1, [(0, vD p0 0)]⟩) [2] [] rfl hK pq1 (pqo1 rfl rfl) rfl <| go_endD [] ah (rs := [.tmp 2]) rfl rfl ⟨rfl, rfl⟩
theorem mD (m : Nat) (p0 : List Int) (r0 : Bool) (h : decide ((p0.length : Int) ≤ 120) = r0) : fI p0 r0 := by
 refine ⟨rfl, rfl, ?_⟩
 refine al 6 [] Tryz.func5 rfl rfl rfl (aA rfl) fun K hK => ?_
 refine gR 9 rfl <| gV 4 (.int .i64 (p0.length : Int)) rfl (aM (aF (V.int .i64) _)) rfl <| gLB 3 rfl (aF (V.int .i64) _) fun hl2 => gR 5 rfl ?_
 subst h
 exact go_end ah (rs := [.tmp 2]) rfl rfl rfl
theorem gj (m : Nat) (b : List Int) (a p1 r0 : Int) (g : List Int) (c : Int) (h : (((b.length : Int) ≤ a) → 0 = r0 ∧ b = g ∧ a = c) ∧ ((¬ (b.length : Int) ≤ a) → InI (a + 1) ∧ InI ((a + 1) - 1) ∧ ∃ d, ((a + 1) - 1) = ((d : Nat) : Int) ∧ ∃ i, b[d]? = some i ∧ ∃ e, dA i p1 e ∧ e = r0 ∧ b = g ∧ (a + 1) = c)) : cO b a p1 r0 g c := by
 refine al 35 [0] Tryz.func15 rfl rfl rfl (aA rfl) fun K hK => ?_
 refine gR 7 rfl <| gDs [0] 10 10 rfl (by kernel_rfl) (by kernel_rfl) <| gDr [(0, 2), (1, 2), (2, 2), (3, 3), (4, 0), (5, 0), (6, 0), (7, 0), (8, 0)] (by kernel_rfl) rfl rfl <| gV 13 (.int .i64 (b.length : Int)) rfl (aM (aF (V.int .i64) _)) rfl <| gLB 12 rfl (aF (V.int .i64) _) fun hl9 => gDr [(9, 0)] (by kernel_rfl) rfl rfl <| gDe (by kernel_rfl) <| gR 1 rfl <| qBd 14 rfl rfl rfl h (fun h => ?_) fun h => ?_
 refine gR 8 rfl ?_
 obtain ⟨rfl, rfl, rfl⟩ := h
 exact go_sub (F' := (mkF 35 0 [(4, .int .i64 0)])) (H' := ⟨1, [(0, vD b a)]⟩) [0] [0] rfl hK pq1 (pqo1 rfl rfl) rfl <| go_endD [] ah (rs := [.tmp 4]) rfl rfl ⟨rfl, rfl⟩
 refine gR 9 rfl ?_
 obtain ⟨hb, h⟩ := h
 refine gR 1 rfl <| gV 19 (.int .i64 (a + 1)) rfl (au hb rfl) rfl <| gR 6 rfl <| gDs [0] 13 14 rfl (by kernel_rfl) (by kernel_rfl) <| gDr [(0, 2), (1, 2), (2, 2), (3, 3), (4, 2), (5, 2), (6, 2), (7, 3)] (by kernel_rfl) rfl rfl ?_
 obtain ⟨hb, h⟩ := h
 refine gDr [(8, 2)] (by kernel_rfl) rfl rfl <| gV 30 (.int .i64 ((a + 1) - 1)) rfl (au hb rfl) rfl ?_
 obtain ⟨d, j, h⟩ := h
 refine gV 30 (.int .i64 ((d : Nat) : Int)) rfl (cy j) rfl ?_
 obtain ⟨i, hxn0_2, h⟩ := h
 refine gYd 9 rfl (by kernel_rfl) (bx (mapget (f := (V.int .i64)) hxn0_2) ah rfl rfl rfl rfl) rfl rfl <| gDr [(10, 2), (11, 0)] (by kernel_rfl) rfl rfl ?_
 obtain ⟨e, hs10, h⟩ := h
 refine nd 12 hs10 (by kernel_rfl) rfl (by kernel_rfl) rfl rfl .rfl rfl rfl ?_
 refine gDr [(13, 1)] (by kernel_rfl) rfl rfl <| gDe (by kernel_rfl) <| gR 2 rfl ?_
 obtain ⟨rfl, rfl, rfl⟩ := h
 exact go_sub (F' := (mkF 35 0 [(4, .int .i64 e)])) (H' := ⟨1, [(0, vD b (a + 1))]⟩) [0] [0] rfl hK pq1 (pqo1 rfl rfl) rfl <| go_endD [] ah (rs := [.tmp 4]) rfl rfl ⟨rfl, rfl⟩
open Go.RowKit
def bZ (R : List Nat) (l : List (Nat × Ob)) : List (Nat × Ob) := l.filter fun p => fc p.1 R
def ung : Ob → Ob
 | .free => .gone
 | o => o
def cF (nx : Nat) (R : List Nat) (l : List (Nat × Ob)) : List (Nat × Ob) := (l.filter fun p => !fc p.1 R && Nat.blt p.1 nx).map fun p => (p.1, ung p.2)
theorem mg {α : Type} {R : List Nat} : ∀ (l : List (Nat × Ob)) (c : List (Nat × Ob) → α), nB R l c = c (bZ R l)
 | [], c => rfl
 | (i, o) :: r, c => by
  simp only [nB]
  cases h : fc i R
  ·simp only; rw [mg r]; simp [bZ, h]
  ·simp only; rw [mg r]; simp [bZ, h]
theorem lY {α : Type} {nx : Nat} {R : List Nat} : ∀ (l : List (Nat × Ob)) (c : List (Nat × Ob) → α), mc nx R l c = c (cF nx R l)
 | [], c => rfl
 | (i, o) :: r, c => by
  simp only [mc]
  cases h : (!fc i R && Nat.blt i nx)
  ·simp only; rw [lY r]; simp only [cF, List.filter_cons, h]; rfl
  ·cases o <;> (simp only; rw [lY r]; simp only [cF, List.filter_cons, h]; rfl)
theorem kJ {R : List Nat} {i : Nat} : ∀ {l : List (Nat × Ob)}, am (bZ R l) i = am l i ∨ (fc i R = false ∧ am (bZ R l) i = .gone)
 | [] => .inl rfl
 | (j, o) :: r => by
  by_cases hj : j = i
  ·subst hj
   cases h : fc j R
   ·right
    refine ⟨rfl, ?_⟩
    have ih := kJ (R := R) (i := j) (l := r)
    simp only [bZ, List.filter_cons, h] at ih ⊢
    simp only [Bool.false_eq_true, if_false]
    clear ih
    have key : ∀ (l : List (Nat × Ob)), am (l.filter fun p => fc p.1 R) j = .gone := by
     intro l
     induction l with
     | nil => rfl
     | cons q t ih =>
      obtain ⟨k, o'⟩ := q
      simp only [List.filter_cons]
      split
      ·rename_i hk
       have : k ≠ j := fun e => by subst e; simp [h] at hk
       simp only [am, nbF this]; exact ih
      ·exact ih
    exact key r
   ·left
    simp only [bZ, List.filter_cons, h, if_true, am, nbT]
  ·have ih := kJ (R := R) (i := i) (l := r)
   simp only [bZ, List.filter_cons]
   split
   ·simp only [am, nbF hj]; exact ih
   ·simp only [am, nbF hj]; exact ih
theorem qq {R : List Nat} {i : Nat} (h : fc i R = false) (l : List (Nat × Ob)) : am (bZ R l) i = .gone := by
 induction l with
 | nil => rfl
 | cons q t ih =>
  obtain ⟨k, o'⟩ := q
  simp only [bZ, List.filter_cons]
  split
  ·rename_i hk
   have : k ≠ i := fun e => by subst e; simp [h] at hk
   simp only [am, nbF this]; exact ih
  ·exact ih
theorem wF {nx : Nat} {R : List Nat} {i : Nat} (l : List (Nat × Ob)) : am (cF nx R l) i = if (!fc i R && Nat.blt i nx) = true then ung (am l i) else .gone := by
 induction l with
 | nil => simp [cF, am, ung]
 | cons q t ih =>
  obtain ⟨k, o⟩ := q
  by_cases hk : k = i
  ·subst hk
   cases h : (!fc k R && Nat.blt k nx)
   ·rw [h] at ih
    simp only [cF, List.filter_cons, h, Bool.false_eq_true, if_false] at ih ⊢
    exact ih
   ·simp only [cF, List.filter_cons, h, if_true, List.map_cons, am, nbT]
  ·have e : am ((k, o) :: t) i = am t i := by simp only [am, nbF hk]
   rw [e, ← ih]
   simp only [cF, List.filter_cons]
   split
   ·simp only [List.map_cons, am, nbF hk]
   ·rfl
section
variable {P : Program} {T : Tab} {K : Ctx} {Q : Exit → Act → World → Prop} {s : List EI} {n : Nat} {F : Fm} {H : Hp}
theorem uu (lo : Nat) (H : Hp) (v : V) : ∃ v' H', (∀ (α : Type) (c : V → Hp → α), vo lo H v c = c v' H') ∧ H'.nx = H.nx ∧ (∀ K S w ρ x, HRel S w ρ H.get → Inv K S w ρ H.get → VRel S w ρ v x → ∃ S', HRel S' w ρ H'.get ∧ Inv K S' w ρ H'.get ∧ Up S S' w w ρ ρ ∧ VRel S' w ρ v' x) := by
 have triv : ∃ v' H', (∀ (α : Type) (c : V → Hp → α), c v H = c v' H') ∧ H'.nx = H.nx ∧ (∀ K S w ρ x, HRel S w ρ H.get → Inv K S w ρ H.get → VRel S w ρ v x → ∃ S', HRel S' w ρ H'.get ∧ Inv K S' w ρ H'.get ∧ Up S S' w w ρ ρ ∧ VRel S' w ρ v' x) := ⟨v, H, fun _ _ => rfl, rfl, fun K S w ρ x h1 h2 h3 => ⟨S, h1, h2, Up.refl, h3⟩⟩
 cases v with
 | sl id =>
  simp only [vo]
  split
  ·split
   ·rename_i e sz els ho
    split
    ·rename_i hpu
     refine ⟨.row sz els, ⟨H.nx, jg id H.es⟩, fun α c => by rw [nF], rfl, fun K S w ρ x hr hi hx => ?_⟩
     have hg : (⟨H.nx, jg id H.es⟩ : Hp).get = aQ H.get id .gone := by
      funext i
      unfold Hp.get
      by_cases hii : i = id
      ·subst hii
       rw [aO]
       simp only []
       have hlt : Nat.blt i H.nx = true := by
        unfold Hp.get at ho
        split at ho
        ·assumption
        ·cases ho
       rw [hlt]
       simp only [iN, if_true]
      ·rw [bg _ _ hii]
       simp only [iN, if_neg hii]
     refine ⟨_, by rw [hg]; exact (cq hr).1, by rw [hg]; exact hi.frz hr id, (cq hr).2, jJ hr ho hpu hx⟩
    ·exact triv
   ·exact triv
  ·exact triv
 | _ => exact triv
theorem tP (lo : Nat) : ∀ (vs : List V) (H : Hp), ∃ vs' H', (∀ (α : Type) (c : List V → Hp → α), vx lo H vs c = c vs' H') ∧ H'.nx = H.nx ∧ (∀ K S w ρ xs, HRel S w ρ H.get → Inv K S w ρ H.get → LRel S w ρ vs xs → ∃ S', HRel S' w ρ H'.get ∧ Inv K S' w ρ H'.get ∧ Up S S' w w ρ ρ ∧ LRel S' w ρ vs' xs)
 | [], H => ⟨[], H, fun _ _ => rfl, rfl, fun K S w ρ x h1 h2 h3 => ⟨S, h1, h2, Up.refl, h3⟩⟩
 | v :: r, H => by
  obtain ⟨v', H1, e1, n1, k1⟩ := uu lo H v
  obtain ⟨r', H2, e2, n2, k2⟩ := tP lo r H1
  refine ⟨v' :: r', H2, fun α c => by simp only [vx, e1, e2], n2.trans n1, fun K S w ρ xs hr hi hx => ?_⟩
  simp only [LRel] at hx
  obtain ⟨x, ys, rfl, h1, h2⟩ := hx
  obtain ⟨S1, a1, a2, a3, a4⟩ := k1 K S w ρ x hr hi h1
  obtain ⟨S2, b1, b2, b3, b4⟩ := k2 K S1 w ρ ys a1 a2 (h2.up a3)
  exact ⟨S2, b1, b2, ⟨fun b hb => b3.s b (a3.s b hb), fun _ _ _ => rfl, fun _ _ h => h⟩, x, ys, rfl, a4.up b3, b4⟩
theorem zW (lo : Nat) (H : Hp) (v : V) : ∃ v' H', (∀ (α : Type) (c : V → Hp → α), yn lo H v c = c v' H') ∧ H'.nx = H.nx ∧ (∀ K S w ρ x, HRel S w ρ H.get → Inv K S w ρ H.get → VRel S w ρ v x → ∃ S', HRel S' w ρ H'.get ∧ Inv K S' w ρ H'.get ∧ Up S S' w w ρ ρ ∧ VRel S' w ρ v' x) := by
 have h0 := uu lo H v
 cases v
 case agg cs =>
  obtain ⟨vs', H', e, hn, k⟩ := tP lo cs H
  refine ⟨.agg vs', H', fun α c => by simp only [yn, e], hn, fun K S w ρ x hr hi hx => ?_⟩
  simp only [VRel] at hx
  obtain ⟨xs, rfl, h1⟩ := hx
  obtain ⟨S', a1, a2, a3, a4⟩ := k K S w ρ xs hr hi h1
  exact ⟨S', a1, a2, a3, by simp only [VRel]; exact ⟨xs, rfl, a4⟩⟩
 all_goals exact h0
theorem pK (lo : Nat) : ∀ (vs : List V) (H : Hp), ∃ vs' H', (∀ (α : Type) (c : List V → Hp → α), tk lo H vs c = c vs' H') ∧ H'.nx = H.nx ∧ (∀ K S w ρ xs, HRel S w ρ H.get → Inv K S w ρ H.get → LRel S w ρ vs xs → ∃ S', HRel S' w ρ H'.get ∧ Inv K S' w ρ H'.get ∧ Up S S' w w ρ ρ ∧ LRel S' w ρ vs' xs)
 | [], H => ⟨[], H, fun _ _ => rfl, rfl, fun K S w ρ x h1 h2 h3 => ⟨S, h1, h2, Up.refl, h3⟩⟩
 | v :: r, H => by
  obtain ⟨v', H1, e1, n1, k1⟩ := zW lo H v
  obtain ⟨r', H2, e2, n2, k2⟩ := pK lo r H1
  refine ⟨v' :: r', H2, fun α c => by simp only [tk, e1, e2], n2.trans n1, fun K S w ρ xs hr hi hx => ?_⟩
  simp only [LRel] at hx
  obtain ⟨x, ys, rfl, h1, h2⟩ := hx
  obtain ⟨S1, a1, a2, a3, a4⟩ := k1 K S w ρ x hr hi h1
  obtain ⟨S2, b1, b2, b3, b4⟩ := k2 K S1 w ρ ys a1 a2 (h2.up a3)
  exact ⟨S2, b1, b2, ⟨fun b hb => b3.s b (a3.s b hb), fun _ _ _ => rfl, fun _ _ h => h⟩, x, ys, rfl, a4.up b3, b4⟩
variable {all : Array Oper} {rest : List Oper} {o : Oper} {u : V} {H' : Hp}
theorem AD {ok : Bool} (hw : aH F all o.guard = some true) (hx : jK P K o [] ok n F H u H') (k : Go P K Q (.ops all rest) s n (F.seto o.dst (some u)) H') : Go P K Q (.ops all (o :: rest)) s n F H := fun S w ρ a hr hi hF => by
 show wpList P all (bK P Q s) (o :: rest) a w
 unfold wpList
 rw [if_pos (bf hF hw)]
 exact .inl (hx S w ρ a hr hi hF _ _ fun x S' w' ρ' hr' hi' hu _ _ hv => k S' w' ρ' _ hr' hi' (bm (hF.up hu) o.dst hv))
variable {L : List Nat} {m left i : Nat} {listed : Array Bool}
theorem Ar (hrd : Region.ready .any all listed = [i]) (hi : all[i]? = some o) (hw : aH F all o.guard = some true) (hx : jK P K o L ((listed.setIfInBounds i true).getD m false) n F H u H') (k : Go P K Q (.drw all L m left (listed.setIfInBounds i true)) s n (F.seto o.dst (some u)) H') : Go P K Q (.drw all L m (left + 1) listed) s n F H := fun S w ρ a hr hiv hF hs => by
 refine ic (S := S) hrd ?_
 unfold wpOp
 simp only [hi]
 rw [if_pos (bf hF hw)]
 exact .inl (hx S w ρ a hr hiv hF _ _ fun x S' w' ρ' hr' hi' hu hA hL hv => gD hu hA hL (k S' w' ρ' _ hr' hi' (bm (hF.up hu) o.dst hv) hs))
def fj (P : Program) (K : Ctx) (Q : Exit → Act → World → Prop) (n : Nat) : Rs → Prop
 | .ok e F H => ∀ S w ρ a, HRel S w ρ H.get → Inv K S w ρ H.get → FRel S w ρ a n F → Q (match e with | true => .ret | false => .normal) a w
 | .pt p s F H => Go P K Q p s n F H
 | .er _ _ => False
variable {ih : EP → List EI → Fm → Hp → Rs}
theorem uo {S : Nat → Prop} {w : World} {ρ : Nat → Option Value} {x : Value} : ∀ {rs : List V}, VRel S w ρ (fQ rs) x → ∃ ys, LRel S w ρ rs ys ∧ x = iC ys
 | [], hvx => by simp only [fQ, VRel] at hvx; obtain ⟨ys, rfl, h1⟩ := hvx; exact ⟨ys, h1, by simp only [LRel] at h1; subst h1; rfl⟩
 | [v], hvx => ⟨[x], ⟨x, [], rfl, hvx, rfl⟩, rfl⟩
 | v :: u :: r, hvx => by
  simp only [fQ, VRel] at hvx; obtain ⟨ys, rfl, h1⟩ := hvx
  refine ⟨ys, h1, ?_⟩
  simp only [LRel] at h1
  obtain ⟨_, _, rfl, _, _, _, rfl, _⟩ := h1
  rfl
theorem yF (hT : TabOk P T) (IH : ∀ p s F H K Q n, fj P K Q n (ih p s F H) → Go P K Q p s n F H) {X : Rs → Prop} (hX : ∀ n m, ¬ X (.er n m)) {keep ok : Bool} {vs : List V} {fid : FuncId} {fn : Func} {b : Code} {c : V → Hp → Rs} (hf : P.funcs[fid]? = some fn) (hb : fn.body = some b) (hl : Nat.ble vs.length fn.ntmps = true)
  (h : X (uO T ih keep vs fn b H L ok c)) : ∃ u H' L', (L' = L ∨ ok = true) ∧ CallR P K fid vs H L' (fun u' H'' => u' = u ∧ H'' = H') ∧ X (c u H') := by
 unfold uO at h
 simp only [] at h
 generalize hR : jq H 40 (mr vs []) [] = R at h
 split at h
 ·rename_i hok
  rw [mg] at h
  split at h
  ·rename_i e F1 H1 hrun
   split at h
   ·rename_i rs hres
    split at h
    ·rename_i hnx
     have hnx' : H.nx ≤ H1.nx := Nat.le_of_ble_eq_true hnx
     -- the objects that the call gets
     have hin : ∀ i, (⟨H.nx, bZ R H.es⟩ : Hp).get i = H.get i ∨ (⟨H.nx, bZ R H.es⟩ : Hp).get i = .gone := fun i => by
      unfold Hp.get
      simp only []
      split
      ·rcases kJ (R := R) (i := i) (l := H.es) with e | ⟨_, e⟩
       ·exact .inl e
       ·exact .inr e
      ·exact .inl rfl
     have hout : ∀ i, fc i R = false → Nat.blt i H.nx = true → (⟨H.nx, bZ R H.es⟩ : Hp).get i = .gone := fun i hi hlt => by
      unfold Hp.get
      simp only [hlt]
      exact qq hi _
     -- the objects behind the call
     have key : ∀ (H2 : Hp) (es3 : List (Nat × Ob)), H2.nx = H1.nx → (∀ i, am es3 i = am H2.es i ∨ am es3 i = .gone) → ∀ i, ((⟨H2.nx, es3 ++ cF H.nx R H.es⟩ : Hp).get i = H2.get i ∨ (⟨H2.nx, es3 ++ cF H.nx R H.es⟩ : Hp).get i = .gone) ∨ ((⟨H2.nx, es3 ++ cF H.nx R H.es⟩ : Hp).get i = H.get i ∧ (⟨H.nx, bZ R H.es⟩ : Hp).get i = .gone ∧ H.get i ≠ .free) := fun H2 es3 hn h3 i => by
      by_cases hlt2 : Nat.blt i H2.nx = true
      ·have e0 : (⟨H2.nx, es3 ++ cF H.nx R H.es⟩ : Hp).get i = am (es3 ++ cF H.nx R H.es) i := by unfold Hp.get; simp only [hlt2]
       have e2 : H2.get i = am H2.es i := by unfold Hp.get; rw [hlt2]
       rw [e0, e2]
       rcases sH es3 (cF H.nx R H.es) i with e | ⟨e', e⟩
       ·rw [e]
        rcases h3 i with h3 | h3
        ·exact .inl (.inl h3)
        ·exact .inl (.inr h3)
       ·rw [e]
        rw [wF]
        cases hm : (!fc i R && Nat.blt i H.nx)
        ·exact .inl (.inr (by simp))
        ·have hm' := hm
         simp only [Bool.and_eq_true, Bool.not_eq_true'] at hm'
         have eH : H.get i = am H.es i := by unfold Hp.get; rw [hm'.2]
         rw [if_pos rfl]
         cases hf : am H.es i
         case free => exact .inl (.inr rfl)
         all_goals exact .inr ⟨by rw [eH, hf]; rfl, hout i hm'.1 hm'.2, by rw [eH, hf]; simp⟩
      ·have e0 : (⟨H2.nx, es3 ++ cF H.nx R H.es⟩ : Hp).get i = .free := by
        unfold Hp.get; simp only [Bool.not_eq_true] at hlt2; simp only [hlt2]
       have e2 : H2.get i = .free := by unfold Hp.get; simp only [Bool.not_eq_true] at hlt2; rw [hlt2]
       exact .inl (.inl (by rw [e0, e2]))
     -- what holds behind the call
     have fin : ∀ (H2 : Hp) (es3 : List (Nat × Ob)) (rs2 : List V), H2.nx = H1.nx → (∀ i, am es3 i = am H2.es i ∨ am es3 i = .gone) →
       (∀ K S w ρ xs, HRel S w ρ H1.get → Inv K S w ρ H1.get → LRel S w ρ rs xs → ∃ S', HRel S' w ρ H2.get ∧ Inv K S' w ρ H2.get ∧ Up S S' w w ρ ρ ∧ LRel S' w ρ rs2 xs) →
       ∃ L', (L' = L ∨ ok = true) ∧ CallR P K fid vs H L' (fun u' H'' => u' = fQ rs2 ∧ H'' = ⟨H2.nx, es3 ++ cF H.nx R H.es⟩) := fun H2 es3 rs2 hn h3 hfz => by
      have main : ∀ L', (∀ (S : Nat → Prop) (w : World) (ρ : Nat → Option Value), HRel S w ρ H.get → L' = [] ∨ (bk H.get L' = true ∧ ∀ id, id ∈ L' → (⟨H.nx, bZ R H.es⟩ : Hp).get id = .gone)) → CallR P K fid vs H L' (fun u' H'' => u' = fQ rs2 ∧ H'' = ⟨H2.nx, es3 ++ cF H.nx R H.es⟩) := fun L' hL' S w ρ xs hr hi hx => by
       have hr1 := hr.drop (h' := (⟨H.nx, bZ R H.es⟩ : Hp).get) hin
       have hi1 : Inv ⟨w, S, fun b => ∃ id, own ρ id ((⟨H.nx, bZ R H.es⟩ : Hp).get id) b, ρ⟩ S w ρ (⟨H.nx, bZ R H.es⟩ : Hp).get := ⟨ChgP.refl _ _, fun _ h => h, fun _ h => .inl h, fun id b hb => .inl ⟨id, hb⟩, fun _ _ h => h⟩
       refine og hf hb hl hr1 hi1 hx (IH _ _ _ _ _ _ _ ?_)
       rw [hrun]
       intro S' w' ρ' a' hr' hi' hF'
       obtain ⟨rl, hrl⟩ : ∃ l : List ResultVar, fn.results = l.toArray := ⟨fn.results.toList, by simp⟩
       rw [hrl] at hres
       refine ret_go hT (rs := rl) (by cases e <;> simp) hrl hr' hF' (by simpa using hres) fun x hvx => ?_
       have hLR := uo hvx
       obtain ⟨ys, hys, rfl⟩ := hLR
       obtain ⟨S2, a1, a2, a3, a4⟩ := hfz _ S' w' ρ' ys hr' hi' hys
       obtain ⟨m1, m2, m3, m4⟩ := sY (h1 := (⟨H.nx, bZ R H.es⟩ : Hp).get) (h2 := (⟨H2.nx, es3 ++ cF H.nx R H.es⟩ : Hp).get) hr hi hin a1 a2 (key H2 es3 hn h3)
       refine ⟨_, S2, ρ', _, _, rfl, ⟨rfl, rfl⟩, m1, m2, m3, pR a4, ?_⟩
       rcases hL' S w ρ hr with rfl | ⟨g1, g2⟩
       ·intro id hid; simp at hid
       ·exact m4 L' g1 g2
      rcases nr hok with hok | hok
      ·simp only [Bool.and_eq_true] at hok
       refine ⟨L, .inl rfl, main L fun S w ρ hr => .inr ⟨hok.1, fun id hid => ?_⟩⟩
       have hmem := List.all_eq_true.1 hok.2 id hid
       simp only [Bool.not_eq_true'] at hmem
       by_cases hlt : Nat.blt id H.nx = true
       ·exact hout id hmem hlt
       ·exfalso
        have hfree : H.get id = .free := by unfold Hp.get; simp only [Bool.not_eq_true] at hlt; rw [hlt]
        have hnl : ∀ (l : List Nat), id ∈ l → bk H.get l = true → False := by
         intro l
         induction l with
         | nil => intro h; simp at h
         | cons j t ih =>
          intro hm hl
          simp only [bk] at hl
          rcases List.mem_cons.1 hm with e | e
          ·subst e; rw [hfree] at hl; cases hl
          ·split at hl
           ·exact ih e hl
           ·exact ih e hl
           ·cases hl
        exact hnl L hid hok.1
      ·exact ⟨[], .inr hok, main [] fun _ _ _ _ => .inl rfl⟩
     split at h
     ·rw [lY] at h
      obtain ⟨L', g1, g2⟩ := fin H1 H1.es rs rfl (fun i => .inl rfl) (fun K S w ρ xs h1 h2 h3 => ⟨S, h1, h2, Up.refl, h3⟩)
      exact ⟨_, _, L', g1, g2, h⟩
     ·obtain ⟨rs2, H2, e1, e2, e3⟩ := pK H.nx rs H1
      rw [e1] at h
      rw [mg, lY] at h
      obtain ⟨L', g1, g2⟩ := fin H2 (bZ _ H2.es) rs2 e2 (fun i => by
       rcases kJ (R := jq H2 60 (mr rs2 R) []) (i := i) (l := H2.es) with e | ⟨_, e⟩
       ·exact .inl e
       ·exact .inr e) e3
      exact ⟨_, _, L', g1, g2, h⟩
    ·exact absurd h (hX _ _)
   ·exact absurd h (hX _ _)
  ·exact absurd h (hX _ _)
  ·exact absurd h (hX _ _)
 ·exact absurd h (hX _ _)
theorem kv (hT : TabOk P T) (IH : ∀ p s F H K Q n, fj P K Q n (ih p s F H) → Go P K Q p s n F H) {X : Rs → Prop} (hX : ∀ n m, ¬ X (.er n m)) {ok : Bool} {c : Option V → Hp → Rs} (h : X (lS T ih F H L ok o c)) : ∃ u H', jK P K o L ok n F H u H' ∧ X (c (some u) H') := by
 unfold lS at h
 split at h
 ·rename_i v hv
  exact ⟨v, H, wk hT hv, h⟩
 ·rw [bH] at h
  split at h
  ·rename_i v ed hv
   split at h
   ·rename_i hc
    rw [Hp.ap_eq] at h
    refine ⟨_, _, ce hT hv hc, ?_⟩
    cases v with
    | none => exact h
    | some v => exact h
   ·exact absurd h (hX _ _)
  ·split at h
   ·rename_i fid args tys hop
    split at h
    ·rename_i vs hvs
     split at h
     ·rename_i v hn
      obtain ⟨he, hnat⟩ := hT.nat _ _ _ hn
      refine ⟨v, H, fT (L' := L) he (by rw [hop]) hvs (fun S w ρ xs hr hi hx => ?_) (.inl rfl), h⟩
      obtain ⟨x, h1, h2⟩ := hnat S w ρ xs hx
      refine h2.mono fun e w' hR => ?_
      obtain ⟨rfl, rfl⟩ := hR
      exact ⟨x, S, ρ, v, H, rfl, ⟨rfl, rfl⟩, hr, hi, Up.refl, h1, ja⟩
     ·split at h
      ·rename_i fn hfn
       obtain ⟨hf, he⟩ := hT.fn _ _ hfn
       split at h
       ·rename_i b hb
        split at h
        ·rename_i hl
         obtain ⟨u, H', L', g1, g2, g3⟩ := yF (K := K) hT IH hX hf hb hl h
         exact ⟨u, H', fT he (by rw [hop]) hvs g2 g1, g3⟩
        ·exact absurd h (hX _ _)
       ·exact absurd h (hX _ _)
      ·exact absurd h (hX _ _)
    ·exact absurd h (hX _ _)
   ·exact absurd h (hX _ _)
theorem wf {l : List Nat} {j : Nat} (h : rv l j = true) : l = [j] := by
 unfold rv at h
 split at h
 ·rw [Nat.eq_of_beq_eq_true h]
 ·cases h
theorem qG (hT : TabOk P T) (IH : ∀ p s F H K Q n, fj P K Q n (ih p s F H) → Go P K Q p s n F H) {i : Nat} {ps : List (Nat × Operand)} {vs : List (Nat × V)} {v : V} (hp : la T all i vs = some (o, ps, v)) : ∀ (left : Nat) (listed : Array Bool) (F : Fm) (H : Hp), fj P K Q n (qw T ih all L m i o ps v s left listed F H) → GoP P K Q all L m left listed s n F H i o ps vs v
 | left, listed, F, H, h => by
  unfold qw at h
  split at h
  ·rename_i hl
   split at h
   ·rename_i x hrd
    split at h
    ·rename_i hb
     have := Nat.eq_of_beq_eq_true hb
     subst this
     rw [Fm.puto_eq] at h
     exact zr hT hp hrd hl (IH _ _ _ _ _ _ _ h)
    ·exact h.elim
   ·rename_i x y hrd
    cases left with
    | zero => exact h.elim
    | succ left =>
     simp only [bH] at h
     generalize hj : vg x y i = j at h
     unfold vg at hj
     split at h
     ·exact h.elim
     ·rename_i hji
      have hne : j ≠ i := Nat.ne_of_beq_eq_false hji
      split at h
      ·rename_i oj hoj
       split at h
       ·rename_i hc
        simp only [Bool.and_eq_true] at hc
        obtain ⟨⟨⟨hc1, hc2⟩, hc3⟩, hc4⟩ := hc
        split at h
        ·rename_i hw
         obtain ⟨u, H', hx, hk⟩ := kv (K := K) (n := n) hT IH (X := fj P K Q n) (fun _ _ h => h) h
         rw [Fm.puto_eq] at hk
         have ih2 := qG hT IH hp left _ _ _ hk
         have hpair : (match Region.ready .any all listed with | [x, y] => (Nat.beq x i && Nat.beq y j) || (Nat.beq x j && Nat.beq y i) | _ => false) = true := by
          rw [hrd]
          simp only []
          cases hx1 : Nat.beq x i
          ·rw [hx1] at hj
           cases hy1 : Nat.beq y i
           ·rw [hy1] at hj; exact absurd hj.symm hne
           ·rw [hy1] at hj; simp only at hj; subst hj; simp
          ·rw [hx1] at hj; simp only at hj; subst hj; simp
         refine yB hT hp hoj hpair (wf hc1) hl (fun t ht => ?_) hc2 hc3 (Array.setIfInBounds_comm _ _ (Ne.symm hne)) (Post := fun u' H'' => u' = u ∧ H'' = H') (fun S w ρ a hr hi hF K2 hK2 => ?_) (fun u' H'' hP => by obtain ⟨rfl, rfl⟩ := hP; exact ih2)
         ·rw [ht] at hc4
          simp only [Option.isNone_iff_eq_none] at hc4
          exact hc4
         ·unfold wpOp
          simp only [hoj]
          rw [if_pos (bf hF hw)]
          refine .inl (hx S w ρ a hr hi hF _ _ fun x S' w' ρ' hr' hi' hu hA hL hv => hK2 x S' w' ρ' u H' ⟨rfl, rfl⟩ hr' hi' hu hA (hL.imp id fun h => ?_) hv)
          simpa only [Bool.and_eq_true] using h
        ·exact h.elim
       ·exact h.elim
      ·exact h.elim
   ·exact h.elim
  ·exact h.elim
theorem zV (hT : TabOk P T) (IH : ∀ p s F H K Q n, fj P K Q n (ih p s F H) → Go P K Q p s n F H) {i j : Nat} {left : Nat} {listed : Array Bool} (hrd : Region.ready .any all listed = [i, j]) (h : fj P K Q n (xS T ih all L m left i j listed s F H)) : Go P K Q (.drw all L m (left + 1) listed) s n F H := by
 unfold xS at h
 split at h
 ·rename_i oi hoi
  split at h
  ·rename_i oj hoj
   split at h
   ·rename_i hwi
    split at h
    ·rename_i hwj
     obtain ⟨ui, Hi, xi, hk⟩ := kv (K := K) (n := n) hT IH (X := fj P K Q n) (fun _ _ h => h) h
     rw [Fm.puto_eq] at hk
     split at hk
     ·rename_i F1 H1 e1
      obtain ⟨uj, Hj, xj, hk2⟩ := kv (K := K) (n := n) hT IH (X := fj P K Q n) (fun _ _ h => h) hk
      rw [Fm.puto_eq] at hk2
      split at hk2
      ·rename_i F2 H2 e2
       split at hk2
       ·rename_i hal
        have c : Go P K Q (.ex .normal) s n F1 H1 := IH _ _ _ _ _ _ _ hk2
        intro S w ρ a hr hi hF
        have hpin : ∀ id x, K.pin id = some x → id < H.nx := fun id x hx => Decidable.byContradiction fun hn => by
         have h1 := hi.pin id x hx
         have h2 := hr.ob id
         have h3 : H.get id = .free := by
          unfold Hp.get
          have : Nat.blt id H.nx = false := by
           cases hb : Nat.blt id H.nx
           ·rfl
           ·exact absurd (by simpa [Nat.blt_eq] using hb) hn
          simp only [this]
         rw [h3] at h2
         have h4 : ρ id = none := h2
         rw [h4] at h1; cases h1
        have g1 : Go P K (bK P Q s) (.drw all L m left (listed.setIfInBounds i true)) [] n (F.seto oi.dst (some ui)) Hi := IH _ _ _ _ _ _ _ (by rw [e1]; exact fun S w ρ a hr hi hF => c S w ρ a hr hi hF)
        have g2 : Go P K (bK P Q s) (.drw all L m left (listed.setIfInBounds j true)) [] n (F.seto oj.dst (some uj)) Hj := IH _ _ _ _ _ _ _ (by rw [e2]; exact fun S w ρ a hr hi hF => go_alike hal hpin c S w ρ a hr hi hF)
        exact dd (by rw [hrd]; simp) hoi hoj hwi hwj xi xj g1 g2 S w ρ a hr hi hF
       ·exact hk2.elim
      ·exact hk2.elim
      ·exact hk2.elim
     ·exact hk.elim
     ·exact hk.elim
    ·exact h.elim
   ·exact h.elim
  ·exact h.elim
 ·exact h.elim
theorem kU : ∀ {R : List Nat} {i : Nat} {ps : List (Nat × Operand)} {v : V}, lO T F all R = some (i, o, ps, v) → ∃ vs, gA F ps = some vs ∧ la T all i vs = some (o, ps, v)
 | [], _, _, _, h => by cases h
 | j :: r, i, ps, v, h => by
  unfold lO at h
  split at h
  ·rename_i hj
   split at h
   ·rename_i vs hvs
    split at h
    ·rename_i o' ps' v' hpb
     simp only [Option.some.injEq, Prod.mk.injEq] at h
     obtain ⟨rfl, rfl, rfl, rfl⟩ := h
     refine ⟨vs, ?_, hpb⟩
     have := hpb
     unfold la at this
     rw [hj] at this
     simp only at this
     repeat' (split at this)
     all_goals first
      | (cases this; done)
      | (simp only [bH, Option.some.injEq, Prod.mk.injEq] at this; obtain ⟨_, rfl, _⟩ := this; exact hvs)
    ·exact kU h
   ·exact kU h
  ·exact kU h
theorem zK (hT : TabOk P T) (hm : P.follows .mixedOrders = true) (IH : ∀ p s F H K Q n, fj P K Q n (ih p s F H) → Go P K Q p s n F H) : ∀ (p : EP) (s : List EI) (F : Fm) (H : Hp), fj P K Q n (wG T ih p s F H) → Go P K Q p s n F H
 | .code c, s, F, H, h => by
  replace h : fj P K Q n (uQ T ih c s F H) := h
  unfold uQ at h
  split at h
  ·exact wb (IH _ _ _ _ _ _ _ h)
  ·exact qU (IH _ _ _ _ _ _ _ h)
  ·exact ug (IH _ _ _ _ _ _ _ h)
  ·exact go_ret (IH _ _ _ _ _ _ _ h)
  ·exact un (IH _ _ _ _ _ _ _ h)
  ·exact yz (IH _ _ _ _ _ _ _ h)
  ·exact yb (IH _ _ _ _ _ _ _ h)
  ·exact go_loop 1000000 (IH _ _ _ _ _ _ _ h)
  ·split at h
   ·exact qz ‹_› (IH _ _ _ _ _ _ _ h)
   ·exact rM ‹_› (IH _ _ _ _ _ _ _ h)
   ·exact h.elim
  ·exact pX (IH _ _ _ _ _ _ _ h)
  ·split at h
   ·rename_i hs
    simp only [bo, bH] at h
    exact ua _ _ _ rfl hm hs (IH _ _ _ _ _ _ _ h)
   ·exact h.elim
  ·exact h.elim
 | .ops all rest, s, F, H, h => by
  replace h : fj P K Q n (qY T ih all rest s F H) := h
  unfold qY at h
  split at h
  ·exact wU (IH _ _ _ _ _ _ _ h)
  ·split at h
   ·rw [Fm.puto_eq] at h
    exact xp ‹_› (IH _ _ _ _ _ _ _ h)
   ·obtain ⟨u, H', hx, hk⟩ := kv (K := K) (n := n) hT IH (X := fj P K Q n) (fun _ _ h => h) h
    rw [Fm.puto_eq] at hk
    exact AD ‹_› hx (IH _ _ _ _ _ _ _ hk)
   ·exact h.elim
 | .ex e, s, F, H, h => by
  replace h : fj P K Q n (vl ih e s F H) := h
  unfold vl at h
  split at h
  ·split at h
   ·exact fun S w ρ a hr hi hF => h S w ρ a hr hi hF
   ·exact fun S w ρ a hr hi hF => h S w ρ a hr hi hF
   ·exact h.elim
  ·split at h
   ·exact tX (IH _ _ _ _ _ _ _ h)
   ·exact th (IH _ _ _ _ _ _ _ h)
   ·exact rI (IH _ _ _ _ _ _ _ h)
   ·exact h.elim
  ·split at h
   ·split at h
    ·exact h.elim
    ·exact go_xloop (IH _ _ _ _ _ _ _ h)
   ·exact go_xloopE (IH _ _ _ _ _ _ _ h)
   ·exact go_xloopR (IH _ _ _ _ _ _ _ h)
   ·exact h.elim
  ·split at h
   ·exact ya (IH _ _ _ _ _ _ _ h)
   ·exact xz (IH _ _ _ _ _ _ _ h)
   ·exact yq (IH _ _ _ _ _ _ _ h)
   ·exact h.elim
  ·split at h
   ·exact rU (IH _ _ _ _ _ _ _ h)
   ·split at h
    ·exact qK ‹_› (IH _ _ _ _ _ _ _ h)
    ·exact rm ‹_› (IH _ _ _ _ _ _ _ h)
   ·exact te (IH _ _ _ _ _ _ _ h)
   ·exact h.elim
 | .drw all L m left listed, s, F, H, h => by
  replace h : fj P K Q n (vT T ih all L m left listed s F H) := h
  unfold vT at h
  split at h
  ·exact tc ‹_› (IH _ _ _ _ _ _ _ h)
  ·rename_i i R hrd
   cases left with
   | zero => exact h.elim
   | succ left =>
    simp only [] at h
    split at h
    ·split at h
     ·rename_i o ho
      split at h
      ·rw [Fm.puto_eq] at h
       exact go_d1S hrd ho ‹_› (IH _ _ _ _ _ _ _ h)
      ·obtain ⟨u, H', hx, hk⟩ := kv (K := K) (n := n) hT IH (X := fj P K Q n) (fun _ _ h => h) h
       rw [Fm.puto_eq] at hk
       exact Ar hrd ho ‹_› hx (IH _ _ _ _ _ _ _ hk)
      ·exact h.elim
     ·exact h.elim
    ·split at h
     ·split at h
      ·rename_i o ho
       split at h
       ·rename_i hc
        simp only [Bool.and_eq_true, Bool.not_eq_true'] at hc
        obtain ⟨⟨hc1, hc2⟩, hc3⟩ := hc
        split at h
        ·rw [Fm.puto_eq] at h
         exact uX hc3 ho hc2 hc1 ‹_› (IH _ _ _ _ _ _ _ h)
        ·rename_i hw
         split at h
         ·rename_i v hv
          rw [Fm.puto_eq] at h
          exact yR hT hc3 ho hc2 hc1 hw hv (IH _ _ _ _ _ _ _ h)
         ·split at h
          ·rename_i id hid
           split at h
           ·rename_i hL
            simp only [Bool.and_eq_true, Bool.not_eq_true'] at hL
            obtain ⟨⟨hL1, hL2⟩, hL3⟩ := hL
            split at h
            ·rename_i v ed hv
             rw [Fm.puto_eq] at h
             exact uC hT hc3 hL2 hL3 ho hc2 hc1 hw hid hL1 hv (IH _ _ _ _ _ _ _ h)
            ·exact h.elim
           ·exact h.elim
          ·exact h.elim
        ·exact h.elim
       ·exact h.elim
      ·exact h.elim
     ·split at h
      ·rename_i i' o ps v hpo
       rw [Fm.puto_eq] at h
       obtain ⟨vs, g1, g2⟩ := kU hpo
       exact wP g1 (qG hT IH g2 left listed _ _ h)
      ·split at h
       ·exact zV hT IH hrd h
       ·exact h.elim
theorem wx (hT : TabOk P T) (hm : P.follows .mixedOrders = true) : ∀ (k : Nat) (p : EP) (s : List EI) (F : Fm) (H : Hp) (K : Ctx) (Q : Exit → Act → World → Prop) (n : Nat), fj P K Q n (run T k p s F H) → Go P K Q p s n F H
 | 0, p, s, F, H, K, Q, n, h => h
 | k + 1, p, s, F, H, K, Q, n, h => zK hT hm (fun p s F H K Q n h => wx hT hm k p s F H K Q n h) p s F H h
def qX (T : Tab) (k : Nat) (fid : FuncId) (vs : List V) (H : Hp) : Option (List V × Hp) := match T.fn fid with
 |some fn => match fn.body with
  |some b => match Nat.ble vs.length fn.ntmps with
   |true => match run T k (.code b) [] (gW fn.ntmps vs) H with
    |.ok _ F1 H1 => match ml T H1.get F1 fn.results.toList with
     | some rs => some (rs, H1)
     | none => none
    | _ => none
   | false => none
  | none => none
 | none => none
theorem uc (hT : TabOk P T) (hm : P.follows .mixedOrders = true) {k : Nat} {fid : FuncId} {vs rs : List V} {H H1 : Hp} (h : qX T k fid vs H = some (rs, H1)) {S : Nat → Prop} {w : World} {ρ : Nat → Option Value} {xs : List Value} (hr : HRel S w ρ H.get) (hx : LRel S w ρ vs xs) : aU P fid = true ∧
  Calls P fid xs.toArray w fun e w' => ∃ S' ρ' ys, e = .returned (iC ys) ∧ HRel S' w' ρ' H1.get ∧ Inv ⟨w, S, fun b => ∃ id, own ρ id (H.get id) b, ρ⟩ S' w' ρ' H1.get ∧ LRel S' w' ρ' rs ys := by
 unfold qX at h
 split at h
 ·rename_i fn hfn
  obtain ⟨hf, he⟩ := hT.fn _ _ hfn
  split at h
  ·rename_i b hb
   split at h
   ·rename_i hl
    split at h
    ·rename_i e F1 H1' hrun
     split at h
     ·rename_i rs' hres
      simp only [Option.some.injEq, Prod.mk.injEq] at h
      obtain ⟨rfl, rfl⟩ := h
      refine ⟨he, ?_⟩
      have hi1 : Inv ⟨w, S, fun b => ∃ id, own ρ id (H.get id) b, ρ⟩ S w ρ H.get := ⟨ChgP.refl _ _, fun _ h => h, fun _ h => .inl h, fun id b hb => .inl ⟨id, hb⟩, fun _ _ h => h⟩
      refine og hf hb hl hr hi1 hx (wx hT hm k _ _ _ _ _ _ _ ?_)
      rw [hrun]
      intro S' w' ρ' a' hr' hi' hF'
      obtain ⟨rl, hrl⟩ : ∃ l : List ResultVar, fn.results = l.toArray := ⟨fn.results.toList, by simp⟩
      rw [hrl] at hres
      refine ret_go hT (rs := rl) (by cases e <;> simp) hrl hr' hF' (by simpa using hres) fun x hvx => ?_
      have hLR := uo hvx
      obtain ⟨ys, hys, rfl⟩ := hLR
      exact ⟨S', ρ', ys, rfl, hr', hi', hys⟩
     ·cases h
    ·cases h
   ·cases h
  ·cases h
 ·cases h
end
def qr : List (List UInt8) → List V → Bool
 | [], [] => true
 | s :: r, .str l :: q => lEq s l && qr r q
 | _, _ => false
def ro (ls : List (List UInt8)) : V → Bool
 | .nils => ls.isEmpty
 | .row sz els => Nat.beq sz 1 && qr ls els
 | _ => false
mutual
def treeB : Tree → V → Bool
 |.node k s ls ks, v => match v with
  |.agg [.int .i64 k', .str s', l, r] => iEq k k' && lEq s s' && ro ls l && (match r with
   | .nils => ks.isEmpty
   | .row sz els => Nat.beq sz 4 && kidsB ks els
   | _ => false)
  | _ => false
def kidsB : List Tree → List V → Bool
 |[], vs => match vs with
  | [] => true
  | _ => false
 |t :: r, vs => match vs with
  | v :: q => treeB t v && kidsB r q
  | [] => false
end
section
variable {S : Nat → Prop} {w : World}
theorem sk {ρ : Nat → Option Value} : ∀ {ls : List (List UInt8)} {els : List V} {xs : List Value}, qr ls els = true → CRel S w ρ 1 els xs → els.length = ls.length ∧ xs = ls.map ch
 | [], [], xs, _, hc => by simp only [CRel] at hc; subst hc; exact ⟨rfl, rfl⟩
 | s :: r, v :: q, xs, hb, hc => by
  cases v <;> simp only [qr] at hb <;> first | (cases hb; done) | skip
  rename_i l
  simp only [Bool.and_eq_true] at hb
  have hl := hb.1
  rw [lE] at hl
  simp only [beq_iff_eq] at hl
  subst hl
  simp only [CRel] at hc
  obtain ⟨x, ys, rfl, _, h3, h4⟩ := hc
  simp only [VRel] at h3
  subst h3
  obtain ⟨h5, h6⟩ := sk hb.2 h4
  exact ⟨by simp [h5], by simp [h6, Value.cells]⟩
 | [], _ :: _, _, hb, _ => by cases hb
 | _ :: _, [], _, hb, _ => by cases hb
theorem vV {ρ : Nat → Option Value} {ls : List (List UInt8)} {v : V} {x : Value} (hb : ro ls v = true) (hx : VRel S w ρ v x) : ∃ A m, x = .slice A ls.length m ∧ ls.length ≤ m ∧ m ≤ maxLen ∧ RowIn S w 1 A ls.length (ls.map ch) := by
 cases v <;> simp only [ro] at hb <;> first | (cases hb; done) | skip
 ·simp only [List.isEmpty_iff] at hb
  subst hb
  simp only [VRel] at hx; subst hx
  exact ⟨none, 0, rfl, Nat.le_refl _, by decide, RowIn.none_⟩
 ·rename_i sz els
  simp only [Bool.and_eq_true, Nat.beq_eq] at hb
  obtain ⟨rfl, hb⟩ := hb
  simp only [VRel] at hx
  obtain ⟨A, c, xs, rfl, h3, h4, h5, h6⟩ := hx
  obtain ⟨h7, rfl⟩ := sk hb h5
  rw [h7] at h3 h6 ⊢
  exact ⟨A, c, rfl, h3, h4, h6⟩
mutual
theorem treeB_ok {ρ : Nat → Option Value} : ∀ {t : Tree} {v : V} {x : Value}, treeB t v = true → VRel S w ρ v x → ∃ c, x = .agg c.toArray ∧ TreeIs S w t c
 | .node k s ls ks, v, x, hb, hx => by
  unfold treeB at hb
  split at hb
  ·rename_i k' s' l r
   simp only [Bool.and_eq_true] at hb
   obtain ⟨⟨⟨hb1, hb2⟩, hb3⟩, hb4⟩ := hb
   rw [mU] at hb1
   rw [lE] at hb2
   simp only [beq_iff_eq] at hb1 hb2
   subst hb1 hb2
   simp only [VRel] at hx
   obtain ⟨xs, rfl, hl⟩ := hx
   simp only [LRel] at hl
   obtain ⟨x0, _, rfl, h0, x1, _, rfl, h1, x2, _, rfl, h2, x3, _, rfl, h3, rfl⟩ := hl
   simp only [VRel] at h0 h1
   subst h0 h1
   obtain ⟨A, m, rfl, g1, g2, g3⟩ := vV hb3 h2
   have kk : ∃ B n, x3 = .slice B ks.length n ∧ ks.length ≤ n ∧ n ≤ maxLen ∧ ∃ cs, KidsAre S w ks cs ∧ RowIn S w 4 B ks.length cs := by
    split at hb4
    ·simp only [List.isEmpty_iff] at hb4
     subst hb4
     simp only [VRel] at h3; subst h3
     exact ⟨none, 0, rfl, Nat.le_refl _, by decide, [], by simp only [KidsAre], RowIn.none_⟩
    ·rename_i sz els
     simp only [Bool.and_eq_true, Nat.beq_eq] at hb4
     obtain ⟨rfl, hb4⟩ := hb4
     simp only [VRel] at h3
     obtain ⟨B, c, ys, rfl, q3, q4, q5, q6⟩ := h3
     obtain ⟨q7, q8⟩ := kidsB_ok hb4 q5
     rw [q7] at q3 q6 ⊢
     exact ⟨B, c, rfl, q3, q4, ys, q8, q6⟩
    ·cases hb4
   obtain ⟨B, n, rfl, k1, k2, cs, k3, k4⟩ := kk
   exact ⟨_, rfl, pD g1 g2 k1 k2 g3 k3 k4⟩
  ·cases hb
theorem kidsB_ok {ρ : Nat → Option Value} : ∀ {ts : List Tree} {vs : List V} {xs : List Value}, kidsB ts vs = true → CRel S w ρ 4 vs xs → vs.length = ts.length ∧ KidsAre S w ts xs
 | [], vs, xs, hb, hc => by
  unfold kidsB at hb
  split at hb
  ·simp only [CRel] at hc; subst hc; exact ⟨rfl, by simp only [KidsAre]⟩
  ·cases hb
 | t :: r, vs, xs, hb, hc => by
  unfold kidsB at hb
  split at hb
  ·rename_i v q
   simp only [Bool.and_eq_true] at hb
   simp only [CRel] at hc
   obtain ⟨x, ys, rfl, _, h3, h4⟩ := hc
   obtain ⟨c, rfl, hT⟩ := treeB_ok hb.1 h3
   obtain ⟨h5, h6⟩ := kidsB_ok hb.2 h4
   exact ⟨by simp [h5], by simp only [KidsAre]; exact ⟨c, ys, by simp [Value.cells], hT, h6⟩⟩
  ·cases hb
end
end
def sW (T : Tab) (k : Nat) (fid : FuncId) (vs : List V) : Option (List V) := match qX T k fid vs ⟨0, []⟩ with
 | some (rs, H1) => tk 0 H1 rs fun rs' _ => some rs'
 | none => none
theorem mF (i : Nat) : (⟨0, []⟩ : Hp).get i = .free := by
 unfold Hp.get
 have : Nat.blt i 0 = false := by cases i <;> rfl
 simp only [this]
theorem yP {w : World} {S : Nat → Prop} (hg : SOk S w) : HRel S w (fun _ => none) (⟨0, []⟩ : Hp).get :=
 ⟨fun i => by rw [mF]; rfl, fun i b hb => by rw [mF] at hb; exact hb.elim, fun i j b hb _ => by rw [mF] at hb; exact hb.elim, hg⟩
theorem zI {P : Program} {T : Tab} (hT : TabOk P T) (hm : P.follows .mixedOrders = true) {k : Nat} {fid : FuncId} {vs rs : List V} (h : sW T k fid vs = some rs) {S : Nat → Prop} {w : World} {xs : List Value} (hg : SOk S w) (hx : LRel S w (fun _ => none) vs xs) :
  Calls P fid xs.toArray w fun e w' => ∃ S' ρ' ys, e = .returned (iC ys) ∧ SOk S' w' ∧ (∀ b, S b → S' b) ∧ (∀ b, S' b → S b ∨ w.heap.size ≤ b) ∧ Chg [] w w' ∧ LRel S' w' ρ' rs ys := by
 unfold sW at h
 split at h
 ·rename_i rs1 H1 hrun
  obtain ⟨rs2, H2, e1, _, e3⟩ := pK 0 rs1 H1
  rw [e1] at h
  injection h with h; subst h
  refine (uc hT hm hrun (yP hg) hx).2.mono fun e w' hR => ?_
  obtain ⟨S', ρ', ys, rfl, hr, hi, hl⟩ := hR
  obtain ⟨S2, a1, a2, a3, a4⟩ := e3 _ S' w' ρ' ys hr hi hl
  have hno : ∀ b, ¬ ∃ id, own (fun _ => none) id ((⟨0, []⟩ : Hp).get id) b := fun b ⟨id, hb⟩ => by rw [mF] at hb; exact hb
  refine ⟨S2, ρ', ys, rfl, a1.slt, a2.s0, fun b hb => ?_, ⟨hi.chg.os, hi.chg.tape, hi.chg.output, hi.chg.size, fun b hb _ => hi.chg.block b hb (hno b)⟩, a4⟩
  rcases a2.s1 b hb with h | h | h
  ·exact .inl h
  ·exact absurd h (hno b)
  ·exact .inr h
 ·cases h
def vb (fid : FuncId) (vs : List V) : Option V := match Nat.beq fid 71 with
 |true => match vs with
  | [.str s, .int .u8 (.ofNat c)] => vq (Lib.indexByte s c.toUInt8) fun n => some (.int .i64 n)
  | _ => none
 | false => none
noncomputable def ve : Tab := ⟨true, fW tyL, fW fnL, vb, fun f => Nat.beq f 26⟩
theorem tY : TabOk Tryz.prog ve := by
 refine ⟨sG, BP, fun i vs v hv => ?_⟩
 replace hv : vb i vs = some v := hv
 unfold vb at hv
 split at hv
 ·rename_i hb
  have := Nat.eq_of_beq_eq_true hb
  subst this
  split at hv
  ·rename_i s c
   rw [uv] at hv
   injection hv with hv; subst hv
   refine ⟨by kernel_rfl, fun S w ρ xs hx => ?_⟩
   simp only [LRel] at hx
   obtain ⟨x0, _, rfl, h0, x1, _, rfl, h1, rfl⟩ := hx
   simp only [VRel] at h0 h1
   subst h0 h1
   exact ⟨_, by simp only [VRel]; rfl, vS _ _ _⟩
  ·cases hv
 ·cases hv
def nE (t : Tree) : Option (List V) → Bool
 | some [v, .int .i64 a, .int .i64 e] => treeB t v && iEq a 0 && iEq e 0
 | _ => false
theorem wD {k : Nat} {l : List UInt8} {t : Tree} (h : nE t (sW ve k 14 [.str l]) = true) {S : Nat → Prop} {w : World} (hg : SOk S w) : Calls Tryz.prog 14 [ch l].toArray w fun e w' => ∃ S' c0 c1 c2 c3, e = .returned (.tuple #[.agg #[c0, c1, c2, c3], .int .i64 0, .int .i64 0]) ∧ SOk S' w' ∧ (∀ b, S b → S' b) ∧ (∀ b, S' b → S b ∨ w.heap.size ≤ b) ∧ TreeIs S' w' t [c0, c1, c2, c3] ∧ Chg [] w w' := by
 unfold nE at h
 split at h
 ·rename_i v a e hr
  simp only [Bool.and_eq_true, mU, beq_iff_eq] at h
  obtain ⟨⟨h1, rfl⟩, rfl⟩ := h
  refine (zI tY (by kernel_rfl) hr hg (xs := [ch l]) ⟨_, [], rfl, by simp only [VRel], rfl⟩).mono fun e w' hR => ?_
  obtain ⟨S', ρ', ys, rfl, g0, g1, g2, g4, g3⟩ := hR
  simp only [LRel] at g3
  obtain ⟨x0, _, rfl, h0, x1, _, rfl, h2, x2, _, rfl, h3, rfl⟩ := g3
  simp only [VRel] at h2 h3
  subst h2 h3
  obtain ⟨c, rfl, hT⟩ := treeB_ok h1 h0
  have h4 := hT.four
  match c, h4, hT with
  | [c0, c1, c2, c3], _, hT => exact ⟨S', c0, c1, c2, c3, rfl, g0, g1, g2, hT, g4⟩
 ·cases h
section
variable {S : Nat → Prop} {w : World} {ρ : Nat → Option Value}
theorem ra : ∀ ls : List (List UInt8), CRel S w ρ 1 (ls.map .str) (ls.map ch)
 | [] => by simp [CRel]
 | s :: r => by
  simp only [List.map_cons, CRel]
  exact ⟨ch s, r.map ch, by simp [Value.cells, ch], ⟨rfl, rfl⟩, by unfold VRel; rfl, ra r⟩
theorem sI : ∀ ls : List Int, CRel S w ρ 1 (ls.map (V.int .i64)) (ls.map fun z => .int .i64 z)
 | [] => by simp [CRel]
 | s :: r => by
  simp only [List.map_cons, CRel]
  exact ⟨.int .i64 s, _, by simp [Value.cells], ⟨rfl, rfl⟩, by unfold VRel; rfl, sI r⟩
mutual
theorem TreeIs.vrel : ∀ {ρ : Nat → Option Value} {t : Tree} {c : List Value}, TreeIs S w t c → LRel S w ρ (ao t) c
 | ρ, .node k s ls ks, c, h => by
  simp only [TreeIs] at h
  obtain ⟨A, m, B, n, rfl, h1, h2, h3, h4, h5, cs, h6, h7⟩ := h
  simp only [ao, Tree.kind, Tree.text, Tree.leads, Tree.kids, LRel, VRel]
  exact ⟨_, _, rfl, rfl, _, _, rfl, rfl, _, _, rfl, ⟨A, m, _, by simp, by simpa using h1, h2, ra ls, by simpa using h5⟩, _, _, rfl, ⟨B, n, cs, by simp [eQ], by simpa [eQ] using h3, h4, KidsAre.crel h6, by simpa [eQ] using h7⟩, rfl⟩
theorem KidsAre.crel : ∀ {ρ : Nat → Option Value} {ts : List Tree} {cs : List Value}, KidsAre S w ts cs → CRel S w ρ 4 (kidsV ts) cs
 | ρ, [], cs, h => by simp only [KidsAre] at h; simp only [kidsV, CRel]; exact h
 | ρ, t :: r, cs, h => by
  simp only [KidsAre] at h
  obtain ⟨c, d, rfl, h1, h2⟩ := h
  simp only [kidsV, CRel, fM]
  exact ⟨.agg c.toArray, d, by simp [Value.cells], ⟨by simp [Value.cells, h1.four], by simpa [Value.cells] using h1.one⟩, by simp only [VRel]; exact ⟨c, rfl, h1.vrel⟩, KidsAre.crel h2⟩
end
end
theorem zm {k : Nat} {l : List UInt8} {t : Tree} (h : nE t (sW ve k 14 [.str l]) = true) : kl Tryz.prog 14 [.str l] (.tup [.agg (ao t), .int .i64 0, .int .i64 0]) := by
 refine ⟨rfl, rfl, fun S w ρ xs hr hx => ?_⟩
 simp only [LRel, VRel] at hx
 obtain ⟨x, ys, rfl, rfl, rfl⟩ := hx
 refine (wD h hr.slt).mono ?_
 rintro e w' ⟨S', c0, c1, c2, c3, rfl, g0, g1, g2, hT, hc⟩
 have g := hr.chg0 hc
 refine ⟨_, S', ρ, _, ⟨0, []⟩, rfl, rfl, ⟨fun i => ?_, fun i b hb => ?_, fun i j b hb _ => ?_, g0⟩, ⟨ChgP.of0 hc, g1, fun b hb => (g2 b hb).elim .inl fun h => .inr (.inr h), fun id b hb => .inl ⟨id, hb⟩, fun id x h => ?_⟩, ?_⟩
 ·have := g.ob i; rw [mF] at this ⊢; exact this
 ·rw [mF] at hb; exact hb.elim
 ·rw [mF] at hb; exact hb.elim
 ·simp only [kn] at h
  split at h
  ·exact h
  ·cases h
 ·have hk := TreeIs.vrel (ρ := ρ) hT
  simp only [VRel]
  exact ⟨[.agg #[c0, c1, c2, c3], .int .i64 0, .int .i64 0], rfl, .agg #[c0, c1, c2, c3], _, rfl, by simp only [VRel]; exact ⟨_, rfl, hk⟩, _, _, rfl, by simp only [VRel], _, _, rfl, by simp only [VRel], rfl⟩
def fR (f : V → Option V) : List V → Option (List V)
 | [] => some []
 |v :: r => match f v with
  |some u => match fR f r with
   | some l => some (u :: l)
   | none => none
  | none => none
def jO (h : Nat → Ob) : Nat → V → Option V
 | 0, _ => none
 |n + 1, v => match v with
  |.sl id => match h id with
   |.row _ sz els => match fR (jO h n) els with
    | some l => some (.row sz l)
    | none => none
   | _ => none
  |.agg cs => match fR (jO h n) cs with
   | some l => some (.agg l)
   | none => none
  |v => match v.pure with
   | true => some v
   | false => none
section
variable {S : Nat → Prop} {w : World} {ρ : Nat → Option Value} {h : Nat → Ob}
abbrev mf (S : Nat → Prop) (ρ : Nat → Option Value) (h : Nat → Ob) : Nat → Prop := fun b => S b ∨ ∃ id, own ρ id (h id) b
theorem xg : Up S (mf S ρ h) w w ρ0 ρ0 := ⟨fun _ h => .inl h, fun _ _ _ => rfl, fun _ _ h => h⟩
theorem qO {f : V → Option V} : ∀ {l u : List V}, fR f l = some u → u.length = l.length
 | [], u, e => by simp only [fR, Option.some.injEq] at e; subst e; rfl
 | v :: r, u, e => by
  simp only [fR] at e
  split at e
  ·split at e
   ·rename_i l hl
    injection e with e; subst e
    simp [qO hl]
   ·cases e
  ·cases e
theorem pE (hr : HRel S w ρ h) : ∀ (n : Nat) {v u : V} {x : Value}, jO h n v = some u → VRel S w ρ v x → VRel (mf S ρ h) w ρ0 u x
 | 0, v, u, x, e, _ => by cases e
 | n + 1, v, u, x, e, hx => by
  have ihL : ∀ {l us : List V} {xs : List Value}, fR (jO h n) l = some us → LRel S w ρ l xs → LRel (mf S ρ h) w ρ0 us xs := fun {l} => by
   induction l with
   | nil => intro us xs e hx; simp only [fR, Option.some.injEq] at e; subst e; simpa only [LRel] using hx
   | cons v r ih =>
    intro us xs e hx
    simp only [fR] at e
    split at e
    ·rename_i u hu
     split at e
     ·rename_i l hl
      injection e with e; subst e
      simp only [LRel] at hx ⊢
      obtain ⟨y, ys, rfl, h1, h2⟩ := hx
      exact ⟨y, ys, rfl, pE hr n hu h1, ih hl h2⟩
     ·cases e
    ·cases e
  have ihC : ∀ {sz : Nat} {l us : List V} {xs : List Value}, fR (jO h n) l = some us → CRel S w ρ sz l xs → CRel (mf S ρ h) w ρ0 sz us xs := fun {sz l} => by
   induction l with
   | nil => intro us xs e hx; simp only [fR, Option.some.injEq] at e; subst e; simpa only [CRel] using hx
   | cons v r ih =>
    intro us xs e hx
    simp only [fR] at e
    split at e
    ·rename_i u hu
     split at e
     ·rename_i l hl
      injection e with e; subst e
      simp only [CRel] at hx ⊢
      obtain ⟨y, ys, rfl, h0, h1, h2⟩ := hx
      exact ⟨y, ys, rfl, h0, pE hr n hu h1, ih hl h2⟩
     ·cases e
    ·cases e
  have pur : ∀ v : V, v.pure = true → VRel S w ρ v x → VRel (mf S ρ h) w ρ0 v x := fun v hp hx => VRel.up xg (hx.pure (ρ' := ρ0) hp)
  simp only [jO] at e
  split at e
  ·rename_i id
   split at e
   ·rename_i et sz els ho
    split at e
    ·rename_i l hl
     injection e with e; subst e
     simp only [VRel] at hx
     obtain ⟨v, xs, h1, h2, h3⟩ := eK hr ho
     rw [hx.1] at h1
     cases h1
     obtain ⟨A, c, rfl, hc, hcm⟩ := cp h2
     have hlen := qO hl
     simp only [VRel]
     refine ⟨A, c, xs, by rw [hlen], by rw [hlen]; exact hc, hcm, ihC hl h3, by rw [hlen]; exact h3.length, fun hn => ?_⟩
     rw [hlen] at hn ⊢
     obtain ⟨g, cap, hv, _, hlt⟩ := h2.form hn
     injection hv with e1 e2 e3
     subst e1 e3
     exact ⟨g, 0, rfl, .inr ⟨id, by rw [ho]; exact ⟨_, hx.1, rfl⟩⟩, hlt, fun j hj => by rw [Nat.zero_add]; exact kc h2 hj⟩
    ·cases e
   ·cases e
  ·split at e
   ·rename_i l hl
    injection e with e; subst e
    simp only [VRel] at hx ⊢
    obtain ⟨xs, rfl, h1⟩ := hx
    exact ⟨xs, rfl, ihL hl h1⟩
   ·cases e
  ·split at e
   ·rename_i hp
    injection e with e; subst e
    exact pur _ hp hx
   ·cases e
theorem qV (hr : HRel S w ρ h) {n : Nat} : ∀ {l us : List V} {xs : List Value}, fR (jO h n) l = some us → LRel S w ρ l xs → LRel (mf S ρ h) w ρ0 us xs
 | [], us, xs, e, hx => by simp only [fR, Option.some.injEq] at e; subst e; simpa only [LRel] using hx
 | v :: r, us, xs, e, hx => by
  simp only [fR] at e
  split at e
  ·rename_i u hu
   split at e
   ·rename_i l hl
    injection e with e; subst e
    simp only [LRel] at hx ⊢
    obtain ⟨y, ys, rfl, h1, h2⟩ := hx
    exact ⟨y, ys, rfl, pE hr n hu h1, qV hr hl h2⟩
   ·cases e
  ·cases e
end
theorem wL {P : Program} {T : Tab} (hT : TabOk P T) (hm : P.follows .mixedOrders = true) {k n : Nat} {fid : FuncId} {vs rs us0 us : List V} {H1 : Hp} (hp : pureL vs = true) (hq : (fQ us).pure = true) (h : qX T k fid vs ⟨0, []⟩ = some (rs, H1)) (hd : fR (jO H1.get n) rs = some us0) (hc : ∀ {S w ys}, LRel S w ρ0 us0 ys → LRel S w ρ0 us ys) : kl P fid vs (fQ us) := ⟨hp, hq, fun S w ρ xs hr hx => by
 refine (uc hT hm h hr hx).2.mono fun e w' hR => ?_
 obtain ⟨S', ρ', ys, rfl, hr', hi, hl⟩ := hR
 have hno : ∀ b, ¬ ∃ id, own ρ id ((⟨0, []⟩ : Hp).get id) b := fun b ⟨id, hb⟩ => by rw [dZ] at hb; exact hb
 have hk : ∀ b, mf S' ρ' H1.get b → S b ∨ w.heap.size ≤ b := fun b hb => by
  rcases hb with hb | ⟨id, hb⟩
  ·rcases hi.s1 b hb with h | h | h
   ·exact .inl h
   ·exact absurd h (hno b)
   ·exact .inr h
  ·rcases hi.ow id b hb with h | h
   ·exact absurd h (hno b)
   ·exact .inr h
 have hup : Up S' (mf S' ρ' H1.get) w' w' ρ0 ρ0 := xg
 refine ⟨_, mf S' ρ' H1.get, ρ, fQ us, ⟨0, []⟩, rfl, rfl, ⟨fun i => ?_, fun i b hb => ?_, fun i j b hb _ => ?_, hr'.slt.up hup fun b hb => ?_⟩, ⟨hi.chg, fun b hb => .inl (hi.s0 b hb), fun b hb => (hk b hb).elim .inl fun h => .inr (.inr h), fun id b hb => ?_, fun id x h => ?_⟩, (pR (hc (qV hr' hd hl))).up up0⟩
 ·have := hr.ob i; rw [dZ] at this ⊢; exact this
 ·rw [dZ] at hb; exact hb.elim
 ·rw [dZ] at hb; exact hb.elim
 ·rcases hb with hb | ⟨id, hb⟩
  ·exact hr'.slt b hb
  ·exact cD (hr'.ob id) hb
 ·rw [dZ] at hb; exact hb.elim
 ·simp only [kn] at h
  split at h
  ·exact h
  ·cases h⟩
theorem vP (t : Tree) (q : List Int) : pureL [.agg (ao t), .row 1 (q.map (V.int .i64))] = true := rfl
theorem tx (u : Tree) : (fQ [.agg (ao u), .bool true]).pure = true := rfl
noncomputable def fnA : List (Nat × Func) := [(18, Tryz.f18), (29, Tryz.f29), (30, Tryz.f30), (53, Tryz.f53), (54, Tryz.f54)]
theorem AW : ∀ i f, fW fnA i = some f → Tryz.prog.funcs[i]? = some f ∧ aU Tryz.prog i = true := sL ⟨⟨Tryz.func18, by kernel_rfl⟩, ⟨Tryz.func29, by kernel_rfl⟩, ⟨Tryz.func30, by kernel_rfl⟩, ⟨Tryz.func53, by kernel_rfl⟩, ⟨Tryz.func54, by kernel_rfl⟩, trivial⟩
noncomputable def AS : Tab := ⟨true, fW tyL, fW fnA, vb, fun _ => true⟩
theorem zt : TabOk Tryz.prog AS := ⟨sG, AW, tY.nat⟩
noncomputable def vK (k : Nat) (t : Tree) (q : List Int) (u : Tree) : Bool := match qX AS k 18 [.agg (ao t), .row 1 (q.map (V.int .i64))] ⟨0, []⟩ with
 |some (rs, H1) => match fR (jO H1.get 30) rs with
  | some [v, .bool b] => treeB u v && b
  | _ => false
 | none => false
theorem zR {k : Nat} {t u : Tree} {q : List Int} (h : vK k t q u = true) : ie t q u true := by
 unfold vK at h
 split at h
 ·rename_i rs H1 h1
  split at h
  ·rename_i v b h2
   simp only [Bool.and_eq_true] at h
   obtain ⟨h3, rfl⟩ := h
   refine wL (us := [.agg (ao u), .bool true]) zt (by kernel_rfl) (vP t q) (tx u) h1 h2 fun {S w ys} hl => ?_
   simp only [LRel] at hl ⊢
   obtain ⟨x, _, rfl, hv, y, _, rfl, hb, rfl⟩ := hl
   obtain ⟨c, rfl, hT⟩ := treeB_ok h3 hv
   exact ⟨_, _, rfl, by simp only [VRel]; exact ⟨_, rfl, hT.vrel⟩, _, _, rfl, hb, rfl⟩
  ·cases h
 ·cases h
theorem wh {l : List ae} (hl : l.length ≤ 19) (hs : ∀ (i : Nat) (a b : ae), l[i]? = some a → l[i + 1]? = some b → ∃ n, dh b a n ∧ ¬ n < 0) : bv l 0 (l.length : Nat) l := by
 have loop : ∀ k i, 1 ≤ i → (k + i = l.length ∨ (k = 0 ∧ l.length ≤ i)) → i ≤ 21 → aZ (2 * k + 1) 0 (l.length : Nat) (i : Nat) l l := fun k => by
  induction k with
  | zero => intro i h1 h2 h3; exact dN 0 _ _ _ _ _ (⟨fun h => absurd h (by omega), fun _ => rfl⟩)
  | succ k ih =>
   intro i h1 h2 h3
   obtain ⟨j, rfl⟩ : ∃ j, i = j + 1 := ⟨i - 1, by omega⟩
   obtain ⟨a, ha⟩ : ∃ a, l[j]? = some a := ⟨_, List.getElem?_eq_getElem (by omega)⟩
   obtain ⟨b, hb⟩ : ∃ b, l[j + 1]? = some b := ⟨_, List.getElem?_eq_getElem (by omega)⟩
   obtain ⟨n, hn, hn0⟩ := hs j a b ha hb
   refine dN (2 * k + 2) _ _ _ _ _ (⟨fun _ => ?_, fun h => absurd (by omega) h⟩)
   refine ig (2 * k + 1) _ _ _ _ _ _ (⟨fun _ => ⟨j + 1, rfl, b, hb, ⟨by omega, by omega⟩, j, by omega, a, ha, n, hn, fun h => absurd h hn0, fun _ => ⟨⟨by omega, by omega⟩, ?_⟩⟩, fun h => absurd (by omega) h⟩)
   have := ih (j + 2) (by omega) (by omega) (by omega)
   rw [show (((j + 1 : Nat) : Int) + 1) = ((j + 2 : Nat) : Int) by omega]
   exact this
 refine iz (2 * (l.length - 1) + 1) _ _ _ _ (⟨⟨by omega, by omega⟩, ?_⟩)
 have := loop (l.length - 1) 1 (by omega) (by omega) (by omega)
 simpa using this
theorem oc {l : List ae} (hl : l.length ≤ 19) (hs : ∀ (i : Nat) (a b : ae), l[i]? = some a → l[i + 1]? = some b → ∃ n, dh b a n ∧ ¬ n < 0) : aW l l := by
 refine jX 0 _ _ (⟨l, ?_, rfl⟩)
 refine kE 2 _ _ _ (?_)
 exact kg 1 _ _ _ _ _ (⟨fun h => absurd h (by omega), fun _ => ⟨l, wh hl hs, ky 0 _ _ _ _ (⟨fun h => absurd h (by omega), fun _ => rfl⟩)⟩⟩)
theorem pU : aW [] [] := oc (by simp) fun i a b h => (by simp at h)
theorem wB (a : ae) : aW [a] [a] := oc (by simp) fun i x b _ h => (by simp at h)
theorem yT (a b : Int) : ff a b (if a < b then -1 else if b < a then 1 else 0) := by
 have hn : ∀ z, jk z false := fun z => qW 0 _ _ (by simp)
 refine pN 0 _ _ _ (⟨_, hn a, _, hn b, fun h => (by cases h), fun _ => ⟨fun h => (by cases h), fun _ => ⟨fun h => ?_, fun h => ⟨fun h' => ?_, fun h' => ?_⟩⟩⟩⟩)
 ·rw [if_pos h]
 ·rw [if_neg h, if_pos h']
 ·rw [if_neg h, if_neg h']
theorem xq {a b : ae} {x y : Int} {p q : List Int} (hm : a.At.Module = b.At.Module) (ha : a.At.Path = x :: p) (hb : b.At.Path = y :: q) (hxy : y < x) : dh a b 1 := by
 have h0 := yT a.At.Module b.At.Module
 rw [hm, if_neg (by omega), if_neg (by omega)] at h0
 have h1 := yT x y
 rw [if_neg (by omega), if_pos hxy] at h1
 refine mG 0 _ _ _ (⟨0, by rw [hm]; exact h0, fun h => absurd rfl h, fun _ => ⟨1, ?_, fun _ => rfl, fun h => absurd h (by decide)⟩⟩)
 rw [ha, hb]
 exact nM 1 _ _ _ (na 0 _ _ _ _ (⟨fun _ => ⟨x, rfl, fun h => absurd h (by simp), fun _ => ⟨y, rfl, 1, h1, fun _ => rfl, fun h => absurd h (by decide)⟩⟩, fun h => absurd (by simp) h⟩))
def po (f : Tree) : Bool := shapeK f && (f.kind == 2) && ((f.kids.take (f.kids.length - 2)).all fun u => (leafK (dp u 0)).kind != 9) && ((leafK (dp f (f.kids.length - 2))).kind != 9)
def lJ (p : List Tree) : Bool := p.all fun t => (t.kind == 1) && shapeK t && t.kids.all po
theorem xN {f : Tree} (h : po f = true) : FunOk f := by
 simp only [po, Bool.and_eq_true, beq_iff_eq, List.all_eq_true, bne_iff_ne, ne_eq] at h
 obtain ⟨⟨⟨h1, h2⟩, h3⟩, h4⟩ := h
 refine ⟨h1, h2, fun i u hu hi => h3 u ?_, h4⟩
 have : (f.kids.take (f.kids.length - 2))[i]? = some u := by rw [List.getElem?_take, if_pos (by omega)]; exact hu
 exact List.mem_of_getElem? this
theorem nc {p : List Tree} (h : lJ p = true) : ProgOk p := by
 simp only [lJ, List.all_eq_true, Bool.and_eq_true, beq_iff_eq] at h
 exact ⟨fun m t ht => (h t (List.mem_of_getElem? ht)).1, fun m t d f ht hf => xN ((h t (List.mem_of_getElem? ht)).2 f (List.mem_of_getElem? hf))⟩
structure Known (p : List Tree) : Prop where
 ok : lJ p = true
 b : kbulk p ≤ 10000000
 u : uNs p ≤ (bl p).length
theorem Known.errs {p : List Tree} (k : Known p) {r : List ae} (hs : aW (dC p 0 []).fa r) : br p r := xX (nc k.ok) k.b k.u hs
def AN : List UInt8 := [109, 111, 100, 117, 108, 101, 32, 77, 32, 100, 101, 102, 32, 102, 40, 41, 58, 32, 73, 110, 116, 32, 61, 32, 49, 32, 43, 32, 34, 97, 34, 32, 100, 101, 102, 32, 103, 40, 120, 58, 32, 66, 111, 111, 108, 41, 58, 32, 73, 110, 116, 32, 61, 32, 105, 102, 32, 120, 32, 116, 104, 101, 110, 32, 49, 32, 101, 108, 115, 101, 32, 103, 40, 41]
def jy : Tree := (Ap AN).1
end Go.Proofs.YtkkkpdbnnjoepaaGreatDoor
