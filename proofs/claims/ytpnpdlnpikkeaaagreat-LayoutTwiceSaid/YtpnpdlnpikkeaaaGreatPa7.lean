/- Contracts of the functions that the law reaches, part 7. -/
import Derived.Test.YtpnpdlnpikkeaaaGreatPa6
set_option linter.unusedVariables false
set_option linter.unusedSimpArgs false
namespace Go.Proofs.YtpnpdlnpikkeaaaGreat
open Go.RowKit Lx Sx
set_option maxRecDepth 100000
set_option maxHeartbeats 1000000
theorem BH : qU it (vP yZ 6000 18 [.str Cy]) = true := by kernel_rfl
theorem nN : tbulk it ≤ 2000000 ∧ tbulk (iK it) ≤ 2000000 := by decide +kernel
theorem BS : jx it = [[35, 32, 120]] := by decide +kernel
theorem BW : (shapeK it && eqT it (iK it)) = false := by decide +kernel
theorem Aa : (if (shapeK (iK it) && leadedT (iK it)) = true then ja (iK it) else []) = [109, 111, 100, 117, 108, 101, 32, 77, 10, 10, 100, 101, 102, 32, 102, 40, 97, 58, 32, 73, 110, 116, 44, 32, 98, 58, 32, 73, 110, 116, 41, 58, 32, 73, 110, 116, 32, 61, 32, 103, 40, 97, 44, 32, 91, 98, 93, 41, 10] := by decide +kernel
theorem lV : ee true := by
 have h1 := ro it (by have := nN.1; omega)
 have h2 := ni it (by have := nN.1; omega)
 have h3 := lq it (by have := nN.1; omega)
 have h4 := vb (iK it) (by have := nN.2; omega)
 rw [BS] at h1
 rw [BW] at h2
 rw [Aa] at h4
 have w : kZ true := oF 0 _ ⟨it, 0, 0, CB BH, _, h1, fun _ => ⟨fun _ => ⟨[35, 32, 120], rfl, fun _ => ⟨false, h2, fun _ => ⟨_, h3, _, h4, by decide +kernel⟩, fun h => (by cases h)⟩, fun h => absurd rfl h⟩, fun h => absurd rfl h⟩, fun h => absurd rfl h⟩
 exact w
end Go.Proofs.YtpnpdlnpikkeaaaGreat
namespace Go.Proofs.YtpnpdlnpikkeaaaGreat
open Go.RowKit Lx Sx
set_option maxHeartbeats 1000000
set_option maxRecDepth 100000
theorem FC {L : List Int} {a : Int} (hd : Dc L a) : Gt L (fun t a' => kI L a t L a') 500 := by
 obtain ⟨r, a1, h1, h2, h3⟩ := eI hd (n := 5) (by omega) (by omega)
 by_cases hr : r = 0
 ·obtain ⟨s, a2, g1, g2, g3⟩ := ii h3 [[84], [85]] (by decide) (by decide)
  have hs := fZ g2 (by decide)
  obtain ⟨t, a3, q1, q2, q3⟩ := yu 2 g3 (by omega)
  exact ⟨_, a3, mM 0 _ _ _ _ _ ⟨_, _, _, h1, fun _ => ⟨_, _, _, g1, _, _, _, q1, rfl, rfl, rfl⟩, fun h => absurd hr h⟩, q2, by rw [tb1]; omega⟩
 ·obtain ⟨s, a2, g1, g2, g3⟩ := ii h3 [[102], [103], [104]] (by decide) (by decide)
  have hs := fZ g2 (by decide)
  obtain ⟨n, a3, g4, g5, g6⟩ := eI g3 (n := 4) (by omega) (by omega)
  have loop : ∀ (k : Nat) (a : Int) (l : List Tree), Dc L a → l.length + k ≤ 100 → Gt L (fun t a' => gQ (k + 1) s L a l (k : Int) t L a') (s.length + 1 + kbulk l + k * 13 + 429) := fun k => by
   induction k with
   | zero =>
    intro a l hd hl
    obtain ⟨t1, b1, q1, q2, q3⟩ := yu 1 hd (by omega)
    obtain ⟨t2, b2, q4, q5, q6⟩ := Ec 3 q2 (by omega)
    have : eB 3 = 422 := rfl
    refine ⟨_, b2, mH 0 _ _ _ _ _ _ _ _ ⟨fun h => by omega, fun _ => ⟨_, _, _, q1, _, _, _, q4, by simp; omega, rfl, rfl, rfl⟩⟩, q5, ?_⟩
    rw [tbK, dU]; simp only [kbulk]; omega
   | succ k ihk =>
    intro a l hd hl
    obtain ⟨x, b0, q0, q0', q0''⟩ := ii hd [[120], [121], [122]] (by decide) (by decide)
    have hx := fZ q0' (by decide)
    obtain ⟨t, b, q1, q2, q3⟩ := yu 1 q0'' (by omega)
    refine (ihk b (l ++ [.node 4 x [] [t]]) q2 (by simp; omega)).map ?_ fun t' a' h => mH (k + 1) _ _ _ _ _ _ _ _ ⟨fun _ => ⟨_, _, _, q0, _, _, _, q1, by simp; omega, by omega, by rw [show ((k + 1 : Nat) : Int) - 1 = (k : Int) by omega]; exact h⟩, fun h => by omega⟩
    rw [dU]; simp only [kbulk, tb1]; omega
  exact (loop n.toNat a3 [] g6 (by simp; omega)).map (by simp only [kbulk]; omega) fun t a' h => mM (n.toNat + 1) _ _ _ _ _ ⟨_, _, _, h1, fun h => absurd h hr, fun _ => ⟨_, _, _, g1, _, _, _, g4, by rw [show n = ((n.toNat : Nat) : Int) by omega]; exact h⟩⟩
def Sh (l : List (List UInt8)) (n : Nat) : Prop := l.length = n ∧ ∀ x ∈ l, x.length ≤ 2
theorem Sh.sum : ∀ {l : List (List UInt8)} {n : Nat}, Sh l n → lsum l ≤ 3 * n
 | [], n, h => by simp [lsum]
 | x :: r, n, h => by
  obtain ⟨h1, h2⟩ := h
  have := h2 x (by simp)
  have := Sh.sum (l := r) (n := n - 1) ⟨by simp at h1; omega, fun y hy => h2 y (by simp [hy])⟩
  simp only [lsum]; simp at h1; omega
theorem Sh.set {l : List (List UInt8)} {n i : Nat} {x : List UInt8} (h : Sh l n) (hx : x.length ≤ 2) : Sh (l.set i x) n := ⟨by simpa using h.1, fun y hy => by
 rcases List.mem_or_eq_of_mem_set hy with h1 | h1
 ·exact h.2 y h1
 ·subst h1; exact hx⟩
theorem Sh.get {l : List (List UInt8)} {n i : Nat} (h : Sh l n) (hi : i < n) : ∃ s, l[i]? = some s := by
 obtain ⟨s, hs, _⟩ | h' := aH l i
 ·exact ⟨s, hs⟩
 ·have := h.1; omega
theorem Bb {n : Int} (h0 : 0 ≤ n) (h1 : n ≤ 100000000) : ∃ l, ff n l ∧ Sh l n.toNat := by
 have loop : ∀ k i (l : List (List UInt8)), n.toNat - i ≤ k → i ≤ n.toNat → Sh l i → ∃ r, dy (k + 1) n l i r ∧ Sh r n.toNat := fun k => by
  induction k with
  | zero => intro i l hi hle hl; exact ⟨l, cr 0 _ _ _ _ ⟨fun h => by omega, fun _ => rfl⟩, by rw [show n.toNat = i by omega]; exact hl⟩
  | succ k ihk =>
   intro i l hi hle hl
   by_cases h : (i : Int) < n
   ·obtain ⟨r, e, hr⟩ := ihk (i + 1) (l ++ [[32]]) (by omega) (by omega) ⟨by simp [hl.1], fun x hx => by
     rcases List.mem_append.1 hx with h1 | h1
     ·exact hl.2 x h1
     ·simp at h1; subst h1; simp⟩
    exact ⟨r, cr (k + 1) _ _ _ _ ⟨fun _ => ⟨by simp [hl.1]; omega, by omega, e⟩, fun h' => absurd h h'⟩, hr⟩
   ·exact ⟨l, cr (k + 1) _ _ _ _ ⟨fun h' => absurd h' h, fun _ => rfl⟩, by rw [show n.toNat = i by omega]; exact hl⟩
 obtain ⟨r, e, hr⟩ := loop n.toNat 0 [] (by omega) (by omega) ⟨rfl, fun x hx => by cases hx⟩
 exact ⟨r, ld _ _ _ e, hr⟩
def jB (t : Tree) (i : Int) (first : List UInt8) : List UInt8 := if t.kind = 1 then [10, 10] else if 0 < i then [32] else if t.kind = 8 ∨ t.kind = 22 ∨ t.kind = 16 ∨ t.kind = 18 then [] else if t.kind = 2 then (if (2 : Int) < t.kids.length then [] else [32]) else if t.kind = 17 ∨ t.kind = 21 then first else [32]
theorem wc (t : Tree) (i : Int) (first : List UInt8) : ix t i first (jB t i first) := by
 refine oT 1 _ _ _ _ ?_
 repeat' first | (refine And.intro (fun _ => ?_) (fun _ => ?_)) | (refine ot 0 _ _ _ _ ?_)
 all_goals simp_all [jB]
 all_goals (intro h; omega)
theorem xU (t : Tree) (i : Int) (first : List UInt8) (hf : first.length ≤ 2) : (jB t i first).length ≤ 2 := by
 unfold jB
 repeat' split
 all_goals first | exact hf | simp
theorem mn {n : Int} (hn : 0 ≤ n) (a b c : Nat) (z : Int) : f0 n a b c z ≤ b + n := by
 unfold f0; repeat' split
 all_goals omega
theorem Ef {k n : Int} (hn : 0 ≤ n) : bb k n ≤ 6 + n := by
 have a1 := mn hn 2 6 2 (-1)
 have a2 := mn hn 0 3 0 (-1)
 have a3 := mn hn 1 2 0 (-1)
 have a4 := mn hn 1 3 0 1
 have a5 := mn hn 1 2 0 1
 have a6 := mn hn 1 0 0 1
 have a7 := mn hn 3 3 0 3
 have a8 := mn hn 2 4 0 2
 have a9 := mn hn 2 1 0 2
 have a10 := mn hn 0 1 0 0
 simp only [bb]
 repeat' first | omega | split
theorem AK {t : Tree} (hs : shapeK t = true) : (t.kind = 1 → bb t.kind t.kids.length = 3) ∧ (t.kind = 2 → 6 ≤ bb t.kind t.kids.length) ∧ (t.kind = 4 ∨ t.kind = 8 ∨ t.kind = 22 → bb t.kind t.kids.length = 2) ∧ (t.kind ≠ 17 → 1 ≤ bb t.kind t.kids.length) := by
 have h := kR hs
 refine ⟨fun hk => ?_, fun hk => ?_, fun hk => ?_, fun hk => ?_⟩
 ·rw [hk]; simp only [bb]; simp
 ·rw [hk] at h ⊢; simp only [bb, f0] at h ⊢; simp at h ⊢; repeat' split
  all_goals first | omega | (simp_all; omega)
 ·rcases hk with hk | hk | hk <;> (rw [hk] at h ⊢; simp only [bb, f0] at h ⊢; simp at h ⊢; repeat' split) <;> first | omega | (simp_all; done) | (simp_all; omega)
 ·have key : ∀ k n : Int, 0 ≤ n → k ≠ 17 → 0 ≤ bb k n → 1 ≤ bb k n := fun k n hn hk h => by
   have q : ∀ (a b c : Nat) z, 1 ≤ b → f0 n a b c z = -1 ∨ 1 ≤ f0 n a b c z := fun a b c z hb => by
    unfold f0; repeat' split
    all_goals omega
   have a1 := q 2 6 2 (-1) (by decide)
   have a2 := q 0 3 0 (-1) (by decide)
   have a3 := q 1 2 0 (-1) (by decide)
   have a4 := q 1 3 0 1 (by decide)
   have a5 := q 1 2 0 1 (by decide)
   have a7 := q 3 3 0 3 (by decide)
   have a8 := q 2 4 0 2 (by decide)
   have a9 := q 2 1 0 2 (by decide)
   have a10 := q 0 1 0 0 (by decide)
   revert h
   simp only [bb]
   repeat' first | (intro h; omega) | split
  exact key _ _ (by omega) hk h
section
variable {t : Tree} {N : Nat} {us : List Tree}
theorem Dh : ∀ k i (l : List (List UInt8)), N - i ≤ k → Sh l N → ∃ l', cu (k + 1) t l i us (.node t.kind t.text l' us) ∧ Sh l' N := fun k => by
 induction k with
 | zero => intro i l hi hl; exact ⟨l, cX 0 _ _ _ _ _ ⟨fun h => by have := hl.1; omega, fun _ => rfl⟩, hl⟩
 | succ k ihk =>
  intro i l hi hl
  by_cases h : i < l.length
  ·obtain ⟨s, hs⟩ := hl.get (i := i) (by have := hl.1; omega)
   obtain ⟨l', e, h'⟩ := ihk (i + 1) (l.set i []) (by omega) (hl.set (by simp))
   exact ⟨l', cX (k + 1) _ _ _ _ _ ⟨fun _ => ⟨s, hs, e⟩, fun h' => absurd h h'⟩, h'⟩
  ·exact ⟨l, cX (k + 1) _ _ _ _ _ ⟨fun h' => absurd h' h, fun _ => rfl⟩, hl⟩
theorem wN : ∀ k i (l : List (List UInt8)), N - i ≤ k → Sh l N → ∃ l', bZ (k + 1) t l i us (.node t.kind t.text l' us) ∧ Sh l' N := fun k => by
 induction k with
 | zero => intro i l hi hl; exact ⟨l, cZ 0 _ _ _ _ _ ⟨fun h => by have := hl.1; omega, fun _ => rfl⟩, hl⟩
 | succ k ihk =>
  intro i l hi hl
  by_cases h : i < l.length
  ·obtain ⟨s, hs⟩ := hl.get (i := i) (by have := hl.1; omega)
   obtain ⟨l', e, h'⟩ := ihk (i + 1) (l.set i []) (by omega) (hl.set (by simp))
   exact ⟨l', cZ (k + 1) _ _ _ _ _ ⟨fun _ => ⟨s, hs, e⟩, fun h' => absurd h h'⟩, h'⟩
  ·exact ⟨l, cZ (k + 1) _ _ _ _ _ ⟨fun h' => absurd h' h, fun _ => rfl⟩, hl⟩
theorem tJ (hs : shapeK t = true) (hN : N = (bb t.kind t.kids.length).toNat) {l : List (List UInt8)} (hl : Sh l N) : ∃ l', ct (N + 2) t l us (.node t.kind t.text l' us) ∧ Sh l' N := by
 obtain ⟨g1, g2, g3, g4⟩ := AK hs
 have e0 : ([] : List UInt8).length ≤ 2 := by simp
 by_cases h1 : t.kind = 1
 ·have := g1 h1
  obtain ⟨s, hs⟩ := hl.get (i := 2) (by omega)
  exact ⟨_, ar (N + 1) _ _ _ _ ⟨fun _ => ⟨s, hs, rfl⟩, fun h => absurd h1 h⟩, hl.set (by simp)⟩
 by_cases h2 : t.kind = 2
 ·have := g2 h2
  have l1 := hl.set (i := 2) e0
  have l2 := l1.set (i := 3) e0
  have l3 := l2.set (i := 4) e0
  obtain ⟨s, hs⟩ := hl.get (i := 2) (by omega)
  obtain ⟨s', hs'⟩ := l1.get (i := 3) (by omega)
  obtain ⟨s2, hs2⟩ := l2.get (i := 4) (by omega)
  obtain ⟨l', e, h'⟩ := Dh (t := t) (us := us) N 6 _ (by omega) l3
  exact ⟨l', ar (N + 1) _ _ _ _ ⟨fun h => absurd h h1, fun _ => ⟨fun _ => ⟨s, hs, s', hs', s2, hs2, e⟩, fun h => absurd h2 h⟩⟩, h'⟩
 by_cases h4 : t.kind = 4
 ·have := g3 (by simp [h4])
  obtain ⟨s, hs⟩ := hl.get (i := 1) (by omega)
  exact ⟨_, ar (N + 1) _ _ _ _ ⟨fun h => absurd h h1, fun _ => ⟨fun h => absurd h h2, fun _ => ⟨fun _ => ⟨s, hs, rfl⟩, fun h => absurd h4 h⟩⟩⟩, hl.set e0⟩
 by_cases h8 : t.kind = 8
 ·have := g3 (by simp [h8])
  obtain ⟨s, hs⟩ := hl.get (i := 1) (by omega)
  exact ⟨_, ar (N + 1) _ _ _ _ ⟨fun h => absurd h h1, fun _ => ⟨fun h => absurd h h2, fun _ => ⟨fun h => absurd h h4, fun _ => ⟨fun _ => ⟨s, hs, rfl⟩, fun h => absurd h8 h⟩⟩⟩⟩, hl.set e0⟩
 by_cases h22 : t.kind = 22
 ·have := g3 (by simp [h22])
  obtain ⟨s, hs⟩ := hl.get (i := 1) (by omega)
  exact ⟨_, ar (N + 1) _ _ _ _ ⟨fun h => absurd h h1, fun _ => ⟨fun h => absurd h h2, fun _ => ⟨fun h => absurd h h4, fun _ => ⟨fun h => absurd h h8, fun _ => ⟨fun _ => ⟨s, hs, rfl⟩, fun h => absurd h22 h⟩⟩⟩⟩⟩, hl.set e0⟩
 by_cases h16 : t.kind = 16
 ·obtain ⟨l', e, h'⟩ := wN (t := t) (us := us) N 1 _ (by omega) hl
  exact ⟨l', ar (N + 1) _ _ _ _ ⟨fun h => absurd h h1, fun _ => ⟨fun h => absurd h h2, fun _ => ⟨fun h => absurd h h4, fun _ => ⟨fun h => absurd h h8, fun _ => ⟨fun h => absurd h h22, fun _ => ⟨fun _ => e, fun h => absurd h16 h⟩⟩⟩⟩⟩⟩, h'⟩
 by_cases h18 : t.kind = 18
 ·obtain ⟨l', e, h'⟩ := wN (t := t) (us := us) N 1 _ (by omega) hl
  exact ⟨l', ar (N + 1) _ _ _ _ ⟨fun h => absurd h h1, fun _ => ⟨fun h => absurd h h2, fun _ => ⟨fun h => absurd h h4, fun _ => ⟨fun h => absurd h h8, fun _ => ⟨fun h => absurd h h22, fun _ => ⟨fun h => absurd h h16, fun _ => ⟨fun _ => e, fun h => absurd h18 h⟩⟩⟩⟩⟩⟩⟩, h'⟩
 ·exact ⟨l, ar (N + 1) _ _ _ _ ⟨fun h => absurd h h1, fun _ => ⟨fun h => absurd h h2, fun _ => ⟨fun h => absurd h h4, fun _ => ⟨fun h => absurd h h8, fun _ => ⟨fun h => absurd h h22, fun _ => ⟨fun h => absurd h h16, fun _ => ⟨fun h => absurd h h18, fun _ => rfl⟩⟩⟩⟩⟩⟩⟩, hl⟩
end
theorem nS {l : List Tree} {i : Nat} {u : Tree} (h : l[i]? = some u) : kbulk (l.take (i + 1)) = kbulk (l.take i) + tbulk u := by
 rw [List.take_add_one, h, dU]; simp [kbulk]
theorem zU : ∀ t : Tree, tbulk t ≤ 1000000 → shapeK t = true → ∀ first, first.length ≤ 2 → ∃ u, dC t first u ∧ tbulk u + 3 ≤ 25 * tbulk t ∧ u.kind = t.kind := dc fun t ih ht hs first hf => by
 have hk := da t
 have hbt := bu t
 have h0 := kR hs
 have h6 := Ef (k := t.kind) (n := (t.kids.length : Int)) (by omega)
 obtain ⟨g1, g2, g3, g4⟩ := AK hs
 obtain ⟨bl, hbl, hsh⟩ := Bb h0 (by omega)
 have loop : ∀ k i (done rest : List Tree), t.kids.length - i ≤ k → done.length = i → i ≤ t.kids.length → rest.length = t.kids.length - i → kbulk done + 3 * i ≤ 25 * kbulk (t.kids.take i) → ∃ M r, ca M t first bl (done ++ rest) i r ∧ tbulk r + 3 ≤ 25 * tbulk t ∧ r.kind = t.kind := fun k => by
  have last : ∀ i (done rest : List Tree), ¬ i < t.kids.length → done.length = i → i ≤ t.kids.length → rest.length = t.kids.length - i → kbulk done + 3 * i ≤ 25 * kbulk (t.kids.take i) → ∃ M r, ca M t first bl (done ++ rest) i r ∧ tbulk r + 3 ≤ 25 * tbulk t ∧ r.kind = t.kind := fun i done rest hi hd hle hr hb => by
   have hr0 : rest = [] := List.length_eq_zero_iff.1 (by omega)
   subst hr0
   rw [List.append_nil]
   rw [List.take_of_length_le (by omega)] at hb
   have fin : ∀ l', Sh l' (bb t.kind t.kids.length).toNat → tbulk (.node t.kind t.text l' done) + 3 ≤ 25 * tbulk t ∧ (Tree.node t.kind t.text l' done).kind = t.kind := fun l' hl' => by
    have := hl'.sum
    exact ⟨by simp only [tbulk]; omega, rfl⟩
   by_cases h17 : t.kind = 17
   ·obtain ⟨l', e, h'⟩ := tJ (us := done) hs rfl hsh
    exact ⟨_, _, bx _ _ _ _ _ _ _ ⟨fun h => absurd h hi, fun _ => ⟨fun h => absurd h17 h, fun _ => e⟩⟩, fin l' h'⟩
   ·by_cases h21 : t.kind = 21
    ·obtain ⟨l', e, h'⟩ := tJ (us := done) hs rfl hsh
     exact ⟨_, _, bx _ _ _ _ _ _ _ ⟨fun h => absurd h hi, fun _ => ⟨fun _ => ⟨fun h => absurd h21 h, fun _ => e⟩, fun h => absurd h h17⟩⟩, fin l' h'⟩
    ·obtain ⟨l', e, h'⟩ := tJ (us := done) hs rfl (hsh.set (i := 0) hf)
     have := g4 h17
     obtain ⟨s, hs0⟩ := hsh.get (i := 0) (by omega)
     exact ⟨_, _, bx _ _ _ _ _ _ _ ⟨fun h => absurd h hi, fun _ => ⟨fun _ => ⟨fun _ => ⟨s, hs0, e⟩, fun h => absurd h h21⟩, fun h => absurd h h17⟩⟩, fin l' h'⟩
  induction k with
  | zero => intro i done rest hi hd hle hr hb; exact last i done rest (by omega) hd hle hr hb
  | succ k ihk =>
   intro i done rest hi hd hle hr hb
   obtain ⟨u, hu, hul⟩ | h' := aH t.kids i
   ·have hbu := cJ hu
    obtain ⟨v, hv, hvb, _⟩ := ih i u hu (by omega) (kQ hs hu).1 _ (xU t i first hf)
    match rest, hr with
    | z :: rest', hr =>
     obtain ⟨M, r, e, hb2⟩ := ihk (i + 1) (done ++ [v]) rest' (by omega) (by simp [hd]) (by omega) (by simp at hr; omega) (by rw [nS hu, dU]; simp only [kbulk]; omega)
     refine ⟨M + 1, r, bx M _ _ _ _ _ _ ⟨fun _ => ⟨u, hu, _, wc t i first, v, hv, z, by simp [← hd], by omega, ?_⟩, fun h => absurd hul h⟩, hb2⟩
     have : (done ++ z :: rest').set i v = done ++ [v] ++ rest' := by simp [← hd]
     rw [this]; exact e
    | [], hr => simp at hr; omega
   ·exact last i done rest h' hd hle hr hb
 obtain ⟨M, r, e, hb⟩ := loop t.kids.length 0 [] (List.replicate t.kids.length (.node 0 [] [] [])) (by omega) rfl (by omega) (by simp) (by simp [kbulk])
 exact ⟨r, kw (M + 1) _ _ _ ⟨_, kJ (by omega) (by omega), bl, hbl, jN M _ _ _ _ ⟨by omega, by simpa using e⟩⟩, hb⟩
theorem AU (t : Tree) (ht : tbulk t ≤ 1000000) : ∃ u, cz t u ∧ tbulk u ≤ 25 * tbulk t ∧ (u.kind = t.kind ∨ u.kind = 0) := by
 have h1 := mF t (by omega)
 have := bz t
 cases hs : shapeK t with
 | false => rw [hs] at h1; exact ⟨.node 0 [] [] [], gp 0 _ _ ⟨_, h1, fun _ => rfl, fun h => (by cases h)⟩, by rw [tb0]; simp; omega, .inr rfl⟩
 | true =>
  rw [hs] at h1
  obtain ⟨u, hu, hb, hkk⟩ := zU t ht hs [] (by simp)
  exact ⟨u, gp 0 _ _ ⟨_, h1, fun h => (by cases h), fun _ => ⟨u, hu, rfl⟩⟩, by omega, .inl hkk⟩
theorem uS : ∀ (l : List (List UInt8)) (i : Nat) (x : List UInt8), lsum (l.set i x) ≤ lsum l + x.length
 | [], i, x => by simp [lsum]
 | y :: r, 0, x => by simp only [List.set_cons_zero, lsum]; omega
 | y :: r, i + 1, x => by have := uS r i x; simp only [List.set_cons_succ, lsum]; omega
theorem Bg {L : List Int} : ∀ t : Tree, tbulk t ≤ 1000000 → ∀ {a : Int}, Dc L a → Gt L (fun u a' => gc L a t u L a' ∧ u.kind = t.kind) (6 * tbulk t) := dc fun t ih ht a hd => by
 have hk := da t
 have hl := mA t
 have hbt := bu t
 have kids : ∀ k i (done : List Tree) (ls : List (List UInt8)) (a : Int), t.kids.length - i ≤ k → i ≤ t.kids.length → done.length = i → kbulk done ≤ 6 * kbulk (t.kids.take i) → lsum ls ≤ 6 * lsum t.leads → Dc L a → ∃ M, Gt L (fun u a' => ef M t L a (done ++ t.kids.drop i) i ls u L a' ∧ u.kind = t.kind) (6 * tbulk t) := fun k => by
  have last : ∀ i (done : List Tree) (ls : List (List UInt8)) (a : Int), ¬ i < t.kids.length → i ≤ t.kids.length → done.length = i → kbulk done ≤ 6 * kbulk (t.kids.take i) → lsum ls ≤ 6 * lsum t.leads → Dc L a → ∃ M, Gt L (fun u a' => ef M t L a (done ++ t.kids.drop i) i ls u L a' ∧ u.kind = t.kind) (6 * tbulk t) := fun i done ls a hi hle hdn hb hls hd => by
   rw [List.drop_of_length_le (by omega), List.append_nil]
   rw [List.take_of_length_le (by omega)] at hb
   exact ⟨1, _, a, ⟨lw 0 _ _ _ _ _ _ _ _ _ ⟨fun h => absurd h (by omega), fun _ => ⟨rfl, rfl, rfl⟩⟩, rfl⟩, hd, by simp only [tbulk]; omega⟩
  induction k with
  | zero => intro i done ls a hi hle hdn hb hls hd; exact last i done ls a (by omega) hle hdn hb hls hd
  | succ k ihk =>
   intro i done ls a hi hle hdn hb hls hd
   obtain ⟨u, hu, hul⟩ | h' := aH t.kids i
   ·have hbu := cJ hu
    obtain ⟨v, a1, ⟨q1, _⟩, q2, q3⟩ := ih i u hu (by omega) hd
    obtain ⟨M, hM⟩ := ihk (i + 1) (done ++ [v]) ls a1 (by omega) (by omega) (by simp [hdn]) (by rw [nS hu, dU]; simp only [kbulk]; omega) hls q2
    have hg : (done ++ t.kids.drop i)[i]? = some u := by rw [List.getElem?_append_right (by omega), hdn]; simpa using hu
    refine ⟨M + 1, hM.map (Nat.le_refl _) fun w b ⟨h, hw⟩ => ⟨lw M _ _ _ _ _ _ _ _ _ ⟨fun _ => ⟨u, hg, _, _, _, q1, u, hg, ?_⟩, fun h' => absurd (by simp [hdn]; omega) h'⟩, hw⟩⟩
    have : (done ++ t.kids.drop i).set i v = done ++ [v] ++ t.kids.drop (i + 1) := by rw [bE hu]; simp [← hdn]
    rw [this]; exact h
   ·exact last i done ls a h' hle hdn hb hls hd
 have lead : ∀ k i (ls : List (List UInt8)) (a : Int), t.leads.length - i ≤ k → i ≤ t.leads.length → ls.length = t.leads.length → lsum ls ≤ lsum t.leads + 5 * i → Dc L a → ∃ M, Gt L (fun u a' => df M t L a ls i u L a' ∧ u.kind = t.kind) (6 * tbulk t) := fun k => by
  have hll := iq t.leads
  have last : ∀ i (ls : List (List UInt8)) (a : Int), ¬ i < t.leads.length → i ≤ t.leads.length → ls.length = t.leads.length → lsum ls ≤ lsum t.leads + 5 * i → Dc L a → ∃ M, Gt L (fun u a' => df M t L a ls i u L a' ∧ u.kind = t.kind) (6 * tbulk t) := fun i ls a hi hle hlen hb hd => by
   obtain ⟨M, hM⟩ := kids t.kids.length 0 [] ls a (by omega) (by omega) rfl (by simp [kbulk]) (by omega) hd
   exact ⟨M + 1, hM.map (Nat.le_refl _) fun w b ⟨h, hw⟩ => ⟨iB M _ _ _ _ _ _ _ _ ⟨fun h' => absurd h' (by omega), fun _ => ⟨by omega, by simpa using h⟩⟩, hw⟩⟩
  induction k with
  | zero => intro i ls a hi hle hlen hb hd; exact last i ls a (by omega) hle hlen hb hd
  | succ k ihk =>
   intro i ls a hi hle hlen hb hd
   obtain ⟨x, hx, hxl⟩ | h' := aH ls i
   ·obtain ⟨n, a1, h1, h2, h3⟩ := eI hd (n := 9) (by omega) (by omega)
    by_cases hn : n = 1
    ·obtain ⟨s, a2, g1, g2, g3⟩ := ii h3 [[32, 35, 32, 99, 10], [32, 32], [10, 9], [35, 10]] (by decide) (by decide)
     have hs5 := fZ g2 (by decide)
     have := uS ls i s
     obtain ⟨M, hM⟩ := ihk (i + 1) (ls.set i s) a2 (by omega) (by omega) (by simpa using hlen) (by omega) g3
     exact ⟨M + 1, hM.map (Nat.le_refl _) fun w b ⟨h, hw⟩ => ⟨iB M _ _ _ _ _ _ _ _ ⟨fun _ => ⟨_, _, _, h1, fun _ => ⟨_, _, _, g1, x, hx, h⟩, fun h' => absurd hn h'⟩, fun h' => absurd hxl h'⟩, hw⟩⟩
    ·obtain ⟨M, hM⟩ := ihk (i + 1) ls a1 (by omega) (by omega) hlen (by omega) h3
     exact ⟨M + 1, hM.map (Nat.le_refl _) fun w b ⟨h, hw⟩ => ⟨iB M _ _ _ _ _ _ _ _ ⟨fun _ => ⟨_, _, _, h1, fun h' => absurd h' hn, fun _ => h⟩, fun h' => absurd hxl h'⟩, hw⟩⟩
   ·exact last i ls a (by omega) hle hlen hb hd
 obtain ⟨M, hM⟩ := lead t.leads.length 0 t.leads a (by omega) (by omega) rfl (by omega) hd
 exact hM.map (Nat.le_refl _) fun w b ⟨h, hw⟩ => ⟨pY M _ _ _ _ _ _ ⟨by omega, h⟩, hw⟩
theorem BA {L : List Int} {a : Int} (hd : Dc L a) (name : List UInt8) (hname : name.length ≤ 5) : Gt L (fun t a' => iJ L a name t L a' ∧ (t.kind = 1 ∨ t.kind = 0)) 300000 := by
 obtain ⟨n, a1, h1, h2, h3⟩ := eI hd (n := 4) (by omega) (by omega)
 have loop : ∀ (k : Nat) (a : Int) (l : List Tree), Dc L a → l.length + k ≤ 100 → kbulk l + k * 500 ≤ 1500 → Gt L (fun t a' => fk (k + 1) name L a l (k : Int) t L a' ∧ (t.kind = 1 ∨ t.kind = 0)) 300000 := fun k => by
  induction k with
  | zero =>
   intro a l hd hl hb
   have ht : tbulk (.node 1 name [] l) ≤ 1506 := by rw [tbK]; omega
   obtain ⟨u, hu, hub, huk⟩ := AU (.node 1 name [] l) (by omega)
   obtain ⟨z, a2, g1, g2, g3⟩ := eI hd (n := 2) (by omega) (by omega)
   by_cases hz : z = 0
   ·exact (Bg u (by omega) g3).map (by omega) fun w b ⟨h, hw⟩ => ⟨ik 0 _ _ _ _ _ _ _ _ ⟨fun h' => by omega, fun _ => ⟨u, hu, _, _, _, g1, fun _ => ⟨_, _, _, h, rfl, rfl, rfl⟩, fun h' => absurd hz h'⟩⟩, by rw [hw]; exact huk⟩
   ·exact ⟨u, a2, ⟨ik 0 _ _ _ _ _ _ _ _ ⟨fun h' => by omega, fun _ => ⟨u, hu, _, _, _, g1, fun h' => absurd h' hz, fun _ => ⟨rfl, rfl, rfl⟩⟩⟩, huk⟩, g3, by omega⟩
  | succ k ihk =>
   intro a l hd hl hb
   obtain ⟨t, b, q1, q2, q3⟩ := FC hd
   exact (ihk b (l ++ [t]) q2 (by simp; omega) (by rw [dU]; simp only [kbulk]; omega)).map (Nat.le_refl _) fun w c ⟨h, hw⟩ => ⟨ik (k + 1) _ _ _ _ _ _ _ _ ⟨fun _ => ⟨_, _, _, q1, by simp; omega, by omega, by rw [show ((k + 1 : Nat) : Int) - 1 = (k : Int) by omega]; exact h⟩, fun h => by omega⟩, hw⟩
 exact (loop n.toNat a1 [] h3 (by simp; omega) (by simp only [kbulk]; omega)).map (Nat.le_refl _) fun w b ⟨h, hw⟩ => ⟨pC (n.toNat + 1) _ _ _ _ _ _ ⟨_, _, _, h1, by rw [show n = ((n.toNat : Nat) : Int) by omega]; exact h⟩, hw⟩
def Mok (p : List Tree) : Prop := ∀ t ∈ p, t.kind = 1 ∧ shapeK t = true
theorem sR (l : List Int) (hl : l.length ≤ 1000000) : ∃ p, fh l p ∧ kbulk p ≤ 1000000 ∧ Mok p := by
 have hd0 : Dc l 0 := ⟨by omega, by omega, by omega⟩
 obtain ⟨n, a1, h1, h2, h3⟩ := eI hd0 (n := 4) (by omega) (by omega)
 have loop : ∀ (k : Nat) (a : Int) (p : List Tree), Dc l a → p.length + k ≤ 3 → kbulk p + k * 300001 ≤ 900003 → Mok p → ∃ r, bv (k + 1) l a p (k : Int) r ∧ kbulk r ≤ 900003 ∧ Mok r := fun k => by
  induction k with
  | zero => intro a p hd hp hb hmk; exact ⟨p, gN 0 _ _ _ _ _ ⟨fun h => by omega, fun _ => rfl⟩, by omega, hmk⟩
  | succ k ihk =>
   intro a p hd hp hb hmk
   have hb2 : kbulk p + k * 300001 + 300001 ≤ 900003 := Nat.le_trans (Nat.le_of_eq (by rw [Nat.succ_mul, Nat.add_assoc])) hb
   have hb3 : kbulk p + k * 300001 ≤ 900003 := Nat.le_trans (Nat.le_add_right _ _) hb2
   obtain ⟨x, hx, _⟩ | h' := aH [[(65 : UInt8)], [66], [67]] p.length
   rotate_left
   ·simp at h'; omega
   have hx5 : x.length ≤ 5 := fZ (List.mem_of_getElem? hx) (by decide)
   obtain ⟨t, a2, ⟨q1, qk⟩, q2, q3⟩ := BA hd x hx5
   obtain ⟨z, a3, g1, g2, g3⟩ := eI q2 (n := 8) (by omega) (by omega)
   have step : ∀ u : Tree, tbulk u ≤ 300001 → (u.kind = 1 ∨ u.kind = 0) → ∃ b r, en u b ∧ ((b = true) → (p ++ [u]).length ≤ 1000000000 ∧ InI (((k + 1 : Nat) : Int) - 1) ∧ bv (k + 1) l a3 (p ++ [u]) (((k + 1 : Nat) : Int) - 1) r) ∧ ((b = false) → InI (((k + 1 : Nat) : Int) - 1) ∧ bv (k + 1) l a3 p (((k + 1 : Nat) : Int) - 1) r) ∧ kbulk r ≤ 900003 ∧ Mok r := fun u hu huk => by
    obtain ⟨b, hb', hbs⟩ := AY u (by omega)
    have e : ((k + 1 : Nat) : Int) - 1 = (k : Int) := by omega
    rw [e]
    cases b with
    | true =>
     have hus := hbs rfl
     have hu1 : u.kind = 1 := by
      rcases huk with h | h
      ·exact h
      ·have := kR hus; rw [h] at this; simp [bb] at this
     obtain ⟨r, hr, hrb⟩ := ihk a3 (p ++ [u]) g3 (by simp; omega) (by clear hb; rw [dU]; simp only [kbulk]; omega) (fun t ht => by
      rcases List.mem_append.1 ht with h | h
      ·exact hmk t h
      ·rw [List.mem_singleton] at h; subst h; exact ⟨hu1, hus⟩)
     exact ⟨true, r, hb', fun _ => ⟨by simp; omega, by omega, hr⟩, fun h => (by cases h), hrb⟩
    | false =>
     obtain ⟨r, hr, hrb⟩ := ihk a3 p g3 (by omega) hb3 hmk
     exact ⟨false, r, hb', fun h => (by cases h), fun _ => ⟨by omega, hr⟩, hrb⟩
   by_cases hz : z = 7
   ·have hub : tbulk (.node t.kind [65] t.leads t.kids) ≤ 300001 := by have := bu t; simp only [tbulk, List.length_cons, List.length_nil]; omega
    obtain ⟨b, r, e1, e2, e3, e4⟩ := step _ hub qk
    exact ⟨r, gN (k + 1) _ _ _ _ _ ⟨fun _ => ⟨x, hx, _, _, _, q1, _, _, _, g1, fun _ => ⟨b, e1, e2, e3⟩, fun h => absurd hz h⟩, fun h => by omega⟩, e4⟩
   ·obtain ⟨b, r, e1, e2, e3, e4⟩ := step t (by omega) qk
    exact ⟨r, gN (k + 1) _ _ _ _ _ ⟨fun _ => ⟨x, hx, _, _, _, q1, _, _, _, g1, fun h => absurd h hz, fun _ => ⟨b, e1, e2, e3⟩⟩, fun h => by omega⟩, e4⟩
 obtain ⟨r, hr, hrb, hrm⟩ := loop n.toNat a1 [] h3 (by simp; omega) (by simp only [kbulk]; omega) (fun t h => by cases h)
 exact ⟨r, oK (n.toNat + 1) _ _ ⟨_, _, qf 0 _ _ _ ⟨by omega, rfl, rfl⟩, _, _, _, h1, by rw [show n = ((n.toNat : Nat) : Int) by omega]; exact hr⟩, by omega, hrm⟩
end Go.Proofs.YtpnpdlnpikkeaaaGreat
namespace Go.Proofs.YtpnpdlnpikkeaaaGreat
open Go.RowKit Lx Sx
set_option maxRecDepth 100000
set_option maxHeartbeats 1000000
theorem Ah {n : Int} (h0 : 0 ≤ n) (h1 : n ≤ 100000000) : ff n (List.replicate n.toNat [32]) := by
 have loop : ∀ k i, n.toNat - i ≤ k → i ≤ n.toNat → ∃ M, dy M n (List.replicate i [32]) i (List.replicate n.toNat [32]) := fun k => by
  induction k with
  | zero => intro i hi hle; rw [show i = n.toNat by omega]; exact ⟨1, cr 0 _ _ _ _ ⟨fun h => by omega, fun _ => rfl⟩⟩
  | succ k ih =>
   intro i hi hle
   by_cases h : (i : Int) < n
   ·obtain ⟨M, hM⟩ := ih (i + 1) (by omega) (by omega)
    refine ⟨M + 1, cr M _ _ _ _ ⟨fun _ => ⟨by simp; omega, by omega, ?_⟩, fun h' => absurd h h'⟩⟩
    rw [show List.replicate i [32] ++ [[32]] = List.replicate (i + 1) ([32] : List UInt8) from List.replicate_succ'.symm]; exact hM
   ·rw [show i = n.toNat by omega]; exact ⟨1, cr 0 _ _ _ _ ⟨fun h => by omega, fun _ => rfl⟩⟩
 obtain ⟨M, hM⟩ := loop n.toNat 0 (by omega) (by omega)
 exact ld M _ _ hM
theorem Af (t : Tree) (i : Nat) (f : List UInt8) : jB t i f = if i = 0 then bgK t.kind t.kids.length f else rsK t.kind := by
 unfold jB bgK rsK
 by_cases hi : i = 0
 ·subst hi
  simp only [if_true, show ¬ (0 : Int) < ((0 : Nat) : Int) from by decide, if_false]
  by_cases h1 : t.kind = 1
  ·simp [h1]
  ·by_cases h2 : t.kind = 2
   ·simp [h2]
   ·simp only [h1, h2, if_false]
    by_cases h3 : t.kind = 8 ∨ t.kind = 22 ∨ t.kind = 16 ∨ t.kind = 18
    ·have h4 : t.kind = 8 ∨ t.kind = 16 ∨ t.kind = 18 ∨ t.kind = 22 := by omega
     rw [if_pos h3, if_pos h4]
    ·have h4 : ¬ (t.kind = 8 ∨ t.kind = 16 ∨ t.kind = 18 ∨ t.kind = 22) := by omega
     rw [if_neg h3, if_neg h4]
 ·have h0 : (0 : Int) < (i : Int) := by omega
  simp only [if_neg hi, h0, if_true]
theorem tR : ∀ (ks : List Tree) (b c : List UInt8) (i : Nat) (u : Tree), ks[i]? = some u → (arrTs ks b c)[i]? = some (arrT u (if i = 0 then b else c))
 | [], b, c, i, u, h => by simp at h
 | t :: r, b, c, 0, u, h => by simp at h; subst h; simp [arrTs]
 | t :: r, b, c, i + 1, u, h => by
  have := tR r c c i u (by simpa using h)
  simp only [arrTs, List.getElem?_cons_succ, this]
  split <;> simp
theorem xh (l : List (List UInt8)) (i : Nat) (h : i < l.length) : (l.set i []).take (i + 1) ++ List.replicate (l.length - (i + 1)) [] = l.take i ++ List.replicate (l.length - i) [] := by
 rw [List.take_add_one, List.getElem?_set_self h, List.take_set_of_le (Nat.le_refl i), List.append_assoc, show l.length - i = (l.length - (i + 1)) + 1 by omega, List.replicate_succ]; rfl
theorem BB (t : Tree) (us : List Tree) : ∀ (j i : Nat) (l : List (List UInt8)), l.length - i ≤ j → ∃ M, cu M t l i us (.node t.kind t.text (l.take i ++ List.replicate (l.length - i) []) us) := fun j => by
 have last : ∀ (i : Nat) (l : List (List UInt8)), ¬ i < l.length → ∃ M, cu M t l i us (.node t.kind t.text (l.take i ++ List.replicate (l.length - i) []) us) := fun i l hi => by
  rw [List.take_of_length_le (by omega), show l.length - i = 0 by omega]
  exact ⟨1, cX 0 _ _ _ _ _ ⟨fun h => absurd h hi, fun _ => by simp⟩⟩
 induction j with
 | zero => intro i l hi; exact last i l (by omega)
 | succ j ih =>
  intro i l hi
  obtain ⟨s, hs, hlt⟩ | hge := aH l i
  ·obtain ⟨M, hM⟩ := ih (i + 1) (l.set i []) (by rw [List.length_set]; omega)
   rw [List.length_set, xh l i hlt] at hM
   exact ⟨M + 1, cX M _ _ _ _ _ ⟨fun _ => ⟨s, hs, hM⟩, fun h => absurd hlt h⟩⟩
  ·exact last i l hge
theorem vS (t : Tree) (us : List Tree) : ∀ (j i : Nat) (l : List (List UInt8)), l.length - i ≤ j → ∃ M, bZ M t l i us (.node t.kind t.text (l.take i ++ List.replicate (l.length - i) []) us) := fun j => by
 have last : ∀ (i : Nat) (l : List (List UInt8)), ¬ i < l.length → ∃ M, bZ M t l i us (.node t.kind t.text (l.take i ++ List.replicate (l.length - i) []) us) := fun i l hi => by
  rw [List.take_of_length_le (by omega), show l.length - i = 0 by omega]
  exact ⟨1, cZ 0 _ _ _ _ _ ⟨fun h => absurd h hi, fun _ => by simp⟩⟩
 induction j with
 | zero => intro i l hi; exact last i l (by omega)
 | succ j ih =>
  intro i l hi
  obtain ⟨s, hs, hlt⟩ | hge := aH l i
  ·obtain ⟨M, hM⟩ := ih (i + 1) (l.set i []) (by rw [List.length_set]; omega)
   rw [List.length_set, xh l i hlt] at hM
   exact ⟨M + 1, cZ M _ _ _ _ _ ⟨fun _ => ⟨s, hs, hM⟩, fun h => absurd hlt h⟩⟩
  ·exact last i l hge
theorem ER {k n : Int} (h : 0 ≤ bb k n) : ((k = 1 ∨ k = 3 ∨ k = 19) → bb k n = 3) ∧ ((k = 4 ∨ k = 8 ∨ k = 22) → bb k n = 2) ∧ (k = 20 → bb k n = 4) ∧ (k = 21 → bb k n = 1) ∧ (k = 17 → bb k n = 0) ∧ (k = 16 → 3 ≤ bb k n) ∧ (k = 18 → 2 ≤ bb k n) ∧ (k = 2 → 6 ≤ bb k n) ∧ ((k ≠ 1 ∧ k ≠ 3 ∧ k ≠ 19 ∧ k ≠ 4 ∧ k ≠ 8 ∧ k ≠ 22 ∧ k ≠ 20 ∧ k ≠ 21 ∧ k ≠ 17 ∧ k ≠ 16 ∧ k ≠ 18 ∧ k ≠ 2) → bb k n = 1) := by
 revert h
 unfold bb f0
 repeat' split
 all_goals (intro h; refine ⟨fun _ => ?_, fun _ => ?_, fun _ => ?_, fun _ => ?_, fun _ => ?_, fun _ => ?_, fun _ => ?_, fun _ => ?_, fun _ => ?_⟩ <;> omega)
theorem xS : ∀ t : Tree, tbulk t ≤ 40000000 → shapeK t = true → ∀ f, dC t f (arrT t f) := dc fun t ih ht hs f => by
 have hk := da t
 have hbt := bu t
 have hld := kR hs
 obtain ⟨g1, g2, g3, g4, g5, g6, g7, g8, g9⟩ := ER hld
 have hmax := tD t.kind (n := t.kids.length) (by omega)
 obtain ⟨N, hN⟩ : ∃ N : Nat, bb t.kind t.kids.length = N := ⟨(bb t.kind t.kids.length).toNat, by omega⟩
 have hNt : (bb t.kind t.kids.length).toNat = N := by omega
 rw [hN] at g1 g2 g3 g4 g5 g6 g7 g8 g9 hmax
 rw [tu]
 obtain ⟨U, hU⟩ : ∃ U, arrTs t.kids (bgK t.kind t.kids.length f) (rsK t.kind) = U := ⟨_, rfl⟩
 have hUl : U.length = t.kids.length := by rw [← hU, nY]
 have hUg : ∀ (i : Nat) (u : Tree), t.kids[i]? = some u → U[i]? = some (arrT u (jB t i f)) := fun i u h => by
  rw [← hU, tR _ _ _ _ _ h, Af]
 rw [hU]
 obtain ⟨l0, hl0⟩ : ∃ l0 : List (List UInt8), l0 = (if t.kind = 17 ∨ t.kind = 21 then List.replicate N [32] else (List.replicate N ([32] : List UInt8)).set 0 f) := ⟨_, rfl⟩
 suffices h2 : ∃ M, ct M t l0 U (.node t.kind t.text (ldA t.kind t.kids.length f) U) by
  obtain ⟨M2, hM2⟩ := h2
  have kids : ∀ j i (us : List Tree), t.kids.length - i ≤ j → us.length = t.kids.length → us.take i = U.take i → ∃ M, ca M t f (List.replicate N [32]) us i (.node t.kind t.text (ldA t.kind t.kids.length f) U) := fun j => by
   have last : ∀ i (us : List Tree), ¬ i < t.kids.length → us.length = t.kids.length → us.take i = U.take i → ∃ M, ca M t f (List.replicate N [32]) us i (.node t.kind t.text (ldA t.kind t.kids.length f) U) := fun i us hi hul he => by
    rw [List.take_of_length_le (by omega), List.take_of_length_le (by omega)] at he
    subst he
    by_cases h17 : t.kind = 17
    ·rw [if_pos (.inl h17)] at hl0
     rw [hl0] at hM2
     exact ⟨M2 + 1, bx M2 _ _ _ _ _ _ ⟨fun h => absurd h hi, fun _ => ⟨fun h => absurd h17 h, fun _ => hM2⟩⟩⟩
    ·by_cases h21 : t.kind = 21
     ·rw [if_pos (.inr h21)] at hl0
      rw [hl0] at hM2
      exact ⟨M2 + 1, bx M2 _ _ _ _ _ _ ⟨fun h => absurd h hi, fun _ => ⟨fun _ => ⟨fun h => absurd h21 h, fun _ => hM2⟩, fun h => absurd h h17⟩⟩⟩
     ·rw [if_neg (by omega)] at hl0
      rw [hl0] at hM2
      have hN0 : 0 < N := by omega
      exact ⟨M2 + 1, bx M2 _ _ _ _ _ _ ⟨fun h => absurd h hi, fun _ => ⟨fun _ => ⟨fun _ => ⟨[32], by rw [List.getElem?_replicate, if_pos hN0], hM2⟩, fun h => absurd h h21⟩, fun h => absurd h h17⟩⟩⟩
   induction j with
   | zero => intro i us hi hul he; exact last i us (by omega) hul he
   | succ j ihj =>
    intro i us hi hul he
    obtain ⟨u, hu, hlt⟩ | hge := aH t.kids i
    ·have hub := cJ hu
     have hc := ih i u hu (by omega) (kQ hs hu).1 (jB t i f)
     obtain ⟨v, hv, _⟩ | h' := aH us i
     ·obtain ⟨M, hM⟩ := ihj (i + 1) (us.set i (arrT u (jB t i f))) (by omega) (by rw [List.length_set, hul]) (by
       rw [List.take_add_one, List.take_add_one, List.getElem?_set_self (by omega), List.take_set_of_le (Nat.le_refl i), he, hUg i u hu])
      exact ⟨M + 1, bx M _ _ _ _ _ _ ⟨fun _ => ⟨u, hu, _, wc t i f, _, hc, v, hv, by omega, hM⟩, fun h => absurd hlt h⟩⟩
     ·omega
    ·exact last i us hge hul he
  obtain ⟨M, hM⟩ := kids t.kids.length 0 (List.replicate t.kids.length (.node 0 [] [] [])) (by omega) (by simp) (by simp)
  exact kw (M + 1) _ _ _ ⟨_, kJ (by omega) (by omega), _, Ah (by omega) (by omega), by rw [hNt]; exact jN M _ _ _ _ ⟨by omega, hM⟩⟩
 have hA : ldA t.kind t.kids.length f = (if t.kind = 21 ∨ t.kind = 17 then ld0 t.kind t.kids.length else (ld0 t.kind t.kids.length).set 0 f) := rfl
 by_cases h1 : t.kind = 1
 ·obtain rfl : N = 3 := by omega
  have e : ld0 t.kind t.kids.length = ld0 t.kind t.kids.length := rfl
  unfold ld0 at hA; rw [hNt, h1] at hA
  rw [h1] at hl0
  have hl1 : l0 = [f, [32], [32]] := hl0
  have hA1 : ldA 1 t.kids.length f = [f, [32], [10]] := hA
  rw [h1, hA1]; rw [hl1]
  exact ⟨1, ar 0 _ _ _ _ ⟨fun _ => ⟨[32], rfl, by rw [h1]; rfl⟩, fun h => absurd h1 h⟩⟩
 by_cases h4 : t.kind = 4
 ·obtain rfl : N = 2 := by omega
  have e : ld0 t.kind t.kids.length = ld0 t.kind t.kids.length := rfl
  unfold ld0 at hA; rw [hNt, h4] at hA
  rw [h4] at hl0
  have hl1 : l0 = [f, [32]] := hl0
  have hA1 : ldA 4 t.kids.length f = [f, []] := hA
  rw [h4, hA1]; rw [hl1]
  exact ⟨1, ar 0 _ _ _ _ ⟨fun h => absurd (h4.symm.trans h) (by decide), fun _ => ⟨fun h => absurd (h4.symm.trans h) (by decide), fun _ => ⟨fun _ => ⟨[32], rfl, by rw [h4]; rfl⟩, fun h => absurd h4 h⟩⟩⟩⟩
 by_cases h8 : t.kind = 8
 ·obtain rfl : N = 2 := by omega
  have e : ld0 t.kind t.kids.length = ld0 t.kind t.kids.length := rfl
  unfold ld0 at hA; rw [hNt, h8] at hA
  rw [h8] at hl0
  have hl1 : l0 = [f, [32]] := hl0
  have hA1 : ldA 8 t.kids.length f = [f, []] := hA
  rw [h8, hA1]; rw [hl1]
  exact ⟨1, ar 0 _ _ _ _ ⟨fun h => absurd (h8.symm.trans h) (by decide), fun _ => ⟨fun h => absurd (h8.symm.trans h) (by decide), fun _ => ⟨fun h => absurd (h8.symm.trans h) (by decide), fun _ => ⟨fun _ => ⟨[32], rfl, by rw [h8]; rfl⟩, fun h => absurd h8 h⟩⟩⟩⟩⟩
 by_cases h22 : t.kind = 22
 ·obtain rfl : N = 2 := by omega
  have e : ld0 t.kind t.kids.length = ld0 t.kind t.kids.length := rfl
  unfold ld0 at hA; rw [hNt, h22] at hA
  rw [h22] at hl0
  have hl1 : l0 = [f, [32]] := hl0
  have hA1 : ldA 22 t.kids.length f = [f, []] := hA
  rw [h22, hA1]; rw [hl1]
  exact ⟨1, ar 0 _ _ _ _ ⟨fun h => absurd (h22.symm.trans h) (by decide), fun _ => ⟨fun h => absurd (h22.symm.trans h) (by decide), fun _ => ⟨fun h => absurd (h22.symm.trans h) (by decide), fun _ => ⟨fun h => absurd (h22.symm.trans h) (by decide), fun _ => ⟨fun _ => ⟨[32], rfl, by rw [h22]; rfl⟩, fun h => absurd h22 h⟩⟩⟩⟩⟩⟩
 by_cases h3 : t.kind = 3
 ·obtain rfl : N = 3 := by omega
  have e : ld0 t.kind t.kids.length = ld0 t.kind t.kids.length := rfl
  unfold ld0 at hA; rw [hNt, h3] at hA
  rw [h3] at hl0
  have hl1 : l0 = [f, [32], [32]] := hl0
  have hA1 : ldA 3 t.kids.length f = [f, [32], [32]] := hA
  rw [h3, hA1]; rw [hl1]
  exact ⟨1, ar 0 _ _ _ _ ⟨fun h => absurd (h3.symm.trans h) (by decide), fun _ => ⟨fun h => absurd (h3.symm.trans h) (by decide), fun _ => ⟨fun h => absurd (h3.symm.trans h) (by decide), fun _ => ⟨fun h => absurd (h3.symm.trans h) (by decide), fun _ => ⟨fun h => absurd (h3.symm.trans h) (by decide), fun _ => ⟨fun h => absurd (h3.symm.trans h) (by decide), fun _ => ⟨fun h => absurd (h3.symm.trans h) (by decide), fun _ => by rw [h3]⟩⟩⟩⟩⟩⟩⟩⟩
 by_cases h19 : t.kind = 19
 ·obtain rfl : N = 3 := by omega
  have e : ld0 t.kind t.kids.length = ld0 t.kind t.kids.length := rfl
  unfold ld0 at hA; rw [hNt, h19] at hA
  rw [h19] at hl0
  have hl1 : l0 = [f, [32], [32]] := hl0
  have hA1 : ldA 19 t.kids.length f = [f, [32], [32]] := hA
  rw [h19, hA1]; rw [hl1]
  exact ⟨1, ar 0 _ _ _ _ ⟨fun h => absurd (h19.symm.trans h) (by decide), fun _ => ⟨fun h => absurd (h19.symm.trans h) (by decide), fun _ => ⟨fun h => absurd (h19.symm.trans h) (by decide), fun _ => ⟨fun h => absurd (h19.symm.trans h) (by decide), fun _ => ⟨fun h => absurd (h19.symm.trans h) (by decide), fun _ => ⟨fun h => absurd (h19.symm.trans h) (by decide), fun _ => ⟨fun h => absurd (h19.symm.trans h) (by decide), fun _ => by rw [h19]⟩⟩⟩⟩⟩⟩⟩⟩
 by_cases h20 : t.kind = 20
 ·obtain rfl : N = 4 := by omega
  have e : ld0 t.kind t.kids.length = ld0 t.kind t.kids.length := rfl
  unfold ld0 at hA; rw [hNt, h20] at hA
  rw [h20] at hl0
  have hl1 : l0 = [f, [32], [32], [32]] := hl0
  have hA1 : ldA 20 t.kids.length f = [f, [32], [32], [32]] := hA
  rw [h20, hA1]; rw [hl1]
  exact ⟨1, ar 0 _ _ _ _ ⟨fun h => absurd (h20.symm.trans h) (by decide), fun _ => ⟨fun h => absurd (h20.symm.trans h) (by decide), fun _ => ⟨fun h => absurd (h20.symm.trans h) (by decide), fun _ => ⟨fun h => absurd (h20.symm.trans h) (by decide), fun _ => ⟨fun h => absurd (h20.symm.trans h) (by decide), fun _ => ⟨fun h => absurd (h20.symm.trans h) (by decide), fun _ => ⟨fun h => absurd (h20.symm.trans h) (by decide), fun _ => by rw [h20]⟩⟩⟩⟩⟩⟩⟩⟩
 by_cases h21 : t.kind = 21
 ·obtain rfl : N = 1 := by omega
  have e : ld0 t.kind t.kids.length = ld0 t.kind t.kids.length := rfl
  unfold ld0 at hA; rw [hNt, h21] at hA
  rw [h21] at hl0
  have hl1 : l0 = [[32]] := hl0
  have hA1 : ldA 21 t.kids.length f = [[32]] := hA
  rw [h21, hA1]; rw [hl1]
  exact ⟨1, ar 0 _ _ _ _ ⟨fun h => absurd (h21.symm.trans h) (by decide), fun _ => ⟨fun h => absurd (h21.symm.trans h) (by decide), fun _ => ⟨fun h => absurd (h21.symm.trans h) (by decide), fun _ => ⟨fun h => absurd (h21.symm.trans h) (by decide), fun _ => ⟨fun h => absurd (h21.symm.trans h) (by decide), fun _ => ⟨fun h => absurd (h21.symm.trans h) (by decide), fun _ => ⟨fun h => absurd (h21.symm.trans h) (by decide), fun _ => by rw [h21]⟩⟩⟩⟩⟩⟩⟩⟩
 by_cases h17 : t.kind = 17
 ·obtain rfl : N = 0 := by omega
  have e : ld0 t.kind t.kids.length = ld0 t.kind t.kids.length := rfl
  unfold ld0 at hA; rw [hNt, h17] at hA
  rw [h17] at hl0
  have hl1 : l0 = [] := hl0
  have hA1 : ldA 17 t.kids.length f = [] := hA
  rw [h17, hA1]; rw [hl1]
  exact ⟨1, ar 0 _ _ _ _ ⟨fun h => absurd (h17.symm.trans h) (by decide), fun _ => ⟨fun h => absurd (h17.symm.trans h) (by decide), fun _ => ⟨fun h => absurd (h17.symm.trans h) (by decide), fun _ => ⟨fun h => absurd (h17.symm.trans h) (by decide), fun _ => ⟨fun h => absurd (h17.symm.trans h) (by decide), fun _ => ⟨fun h => absurd (h17.symm.trans h) (by decide), fun _ => ⟨fun h => absurd (h17.symm.trans h) (by decide), fun _ => by rw [h17]⟩⟩⟩⟩⟩⟩⟩⟩
 by_cases h16 : t.kind = 16
 ·obtain ⟨m, rfl⟩ : ∃ m, N = m + 1 := ⟨N - 1, by omega⟩
  unfold ld0 at hA; rw [hNt, h16] at hA
  rw [h16] at hl0
  have hl1 : l0 = f :: List.replicate m [32] := hl0
  have hA1 : ldA 16 t.kids.length f = f :: List.replicate m [] := hA
  obtain ⟨M, hM⟩ := vS t U l0.length 1 l0 (by omega)
  rw [h16, hA1]
  rw [hl1] at hM ⊢
  refine ⟨M + 1, ar M _ _ _ _ ⟨fun h => absurd (h16.symm.trans h) (by decide), fun _ => ⟨fun h => absurd (h16.symm.trans h) (by decide), fun _ => ⟨fun h => absurd (h16.symm.trans h) (by decide), fun _ => ⟨fun h => absurd (h16.symm.trans h) (by decide), fun _ => ⟨fun h => absurd (h16.symm.trans h) (by decide), fun _ => ⟨fun _ => ?_, fun h => absurd h16 h⟩⟩⟩⟩⟩⟩⟩
  rw [h16] at hM
  simpa using hM
 by_cases h18 : t.kind = 18
 ·obtain ⟨m, rfl⟩ : ∃ m, N = m + 1 := ⟨N - 1, by omega⟩
  unfold ld0 at hA; rw [hNt, h18] at hA
  rw [h18] at hl0
  have hl1 : l0 = f :: List.replicate m [32] := hl0
  have hA1 : ldA 18 t.kids.length f = f :: List.replicate m [] := hA
  obtain ⟨M, hM⟩ := vS t U l0.length 1 l0 (by omega)
  rw [h18, hA1]
  rw [hl1] at hM ⊢
  refine ⟨M + 1, ar M _ _ _ _ ⟨fun h => absurd (h18.symm.trans h) (by decide), fun _ => ⟨fun h => absurd (h18.symm.trans h) (by decide), fun _ => ⟨fun h => absurd (h18.symm.trans h) (by decide), fun _ => ⟨fun h => absurd (h18.symm.trans h) (by decide), fun _ => ⟨fun h => absurd (h18.symm.trans h) (by decide), fun _ => ⟨fun h => absurd (h18.symm.trans h) (by decide), fun _ => ⟨fun _ => ?_, fun h => absurd h18 h⟩⟩⟩⟩⟩⟩⟩⟩
  rw [h18] at hM
  simpa using hM
 by_cases h2 : t.kind = 2
 ·obtain ⟨m, rfl⟩ : ∃ m, N = m + 6 := ⟨N - 6, by omega⟩
  unfold ld0 at hA; rw [hNt, h2] at hA
  rw [h2] at hl0
  have hl1 : l0 = f :: [32] :: [32] :: [32] :: [32] :: [32] :: List.replicate m [32] := hl0
  have hA1 : ldA 2 t.kids.length f = f :: [32] :: [] :: [] :: [] :: [32] :: List.replicate m [] := hA
  obtain ⟨M, hM⟩ := BB t U (((l0.set 2 []).set 3 []).set 4 []).length 6 (((l0.set 2 []).set 3 []).set 4 []) (by omega)
  rw [h2, hA1]
  rw [hl1] at hM ⊢
  refine ⟨M + 1, ar M _ _ _ _ ⟨fun h => absurd (h2.symm.trans h) (by decide), fun _ => ⟨fun _ => ⟨[32], rfl, [32], rfl, [32], rfl, ?_⟩, fun h => absurd h2 h⟩⟩⟩
  rw [h2] at hM
  simpa using hM
 obtain rfl : N = 1 := by omega
 have hl1 : l0 = [f] := by rw [hl0, if_neg (by omega)]; rfl
 have hA1 : ldA t.kind t.kids.length f = [f] := by
  unfold ldA ld0
  rw [hNt]
  simp only [h1, h2, h3, h19, h20, h21, h17, or_self, if_false]; rfl
 rw [hA1, hl1]
 exact ⟨1, ar 0 _ _ _ _ ⟨fun h => absurd h h1, fun _ => ⟨fun h => absurd h h2, fun _ => ⟨fun h => absurd h h4, fun _ => ⟨fun h => absurd h h8, fun _ => ⟨fun h => absurd h h22, fun _ => ⟨fun h => absurd h h16, fun _ => ⟨fun h => absurd h h18, fun _ => rfl⟩⟩⟩⟩⟩⟩⟩⟩
theorem tk (t : Tree) (ht : tbulk t ≤ 40000000) : cz t (iK t) := by
 refine gp 0 _ _ ⟨_, mF t (by omega), fun h => ?_, fun h => ⟨_, xS t ht h [], ?_⟩⟩
 ·unfold iK; rw [if_neg (by rw [h]; decide)]
 ·unfold iK; rw [if_pos h]
theorem wQ : ∀ t u : Tree, eJ t u (eqT t u) := dc fun t ih u => by
 have kids : t.kids.length = u.kids.length → ∀ j i, t.kids.length - i ≤ j → ∃ M, em M t u i (eqTs (t.kids.drop i) (u.kids.drop i)) := fun hlen j => by
  have last : ∀ i, ¬ i < t.kids.length → ∃ M, em M t u i (eqTs (t.kids.drop i) (u.kids.drop i)) := fun i hi => by
   rw [List.drop_of_length_le (by omega)]
   exact ⟨1, lA 0 _ _ _ _ ⟨fun h => absurd h hi, fun _ => rfl⟩⟩
  induction j with
  | zero => intro i hi; exact last i (by omega)
  | succ j ihj =>
   intro i hi
   obtain ⟨x, hx, hlt⟩ | hge := aH t.kids i
   ·obtain ⟨y, hy, _⟩ | h' := aH u.kids i
    ·have hc := ih i x hx y
     obtain ⟨M, hM⟩ := ihj (i + 1) (by omega)
     rw [bE hx, bE hy, eqTs]
     refine ⟨M + 1, lA M _ _ _ _ ⟨fun _ => ⟨x, hx, y, hy, _, hc, fun e => by rw [e]; rfl, fun e => ?_⟩, fun h => absurd hlt h⟩⟩
     rw [e]; exact hM
    ·omega
   ·exact last i hge
 rw [uU]
 by_cases h1 : t.kind = u.kind
 ·by_cases h2 : t.text = u.text
  ·have hS := rr t.leads u.leads
   by_cases h3 : t.kids.length = u.kids.length
   ·obtain ⟨M, hM⟩ := kids h3 t.kids.length 0 (by omega)
    refine fN M _ _ _ ⟨fun h => absurd h1 h, fun _ => ⟨fun h => absurd h2 h, fun _ => ⟨_, hS, fun e => ?_, fun e => ⟨fun h => absurd h3 h, fun _ => ?_⟩⟩⟩⟩
    ·rw [e]; simp
    ·rw [e, decide_eq_true h1, decide_eq_true h2, decide_eq_true h3]; exact hM
   ·refine fN 0 _ _ _ ⟨fun h => absurd h1 h, fun _ => ⟨fun h => absurd h2 h, fun _ => ⟨_, hS, fun e => ?_, fun e => ⟨fun _ => ?_, fun h => absurd h h3⟩⟩⟩⟩
    ·simp [h3]
    ·simp [h3]
  ·exact fN 0 _ _ _ ⟨fun h => absurd h1 h, fun _ => ⟨fun _ => by simp [h2], fun h => absurd h h2⟩⟩
 ·exact fN 0 _ _ _ ⟨fun _ => by simp [h1], fun h => absurd h h1⟩
end Go.Proofs.YtpnpdlnpikkeaaaGreat
namespace Go.Proofs.YtpnpdlnpikkeaaaGreat
open Go.RowKit Lx Sx
set_option maxRecDepth 100000
set_option maxHeartbeats 1000000
theorem wf (t : Tree) (ht : tbulk t ≤ 40000000) : fU t (shapeK t && eqT t (iK t)) := by
 refine nd 0 _ _ ⟨_, mF t (by omega), fun h => ⟨_, tk t ht, _, wQ t _, ?_⟩, fun h => ?_⟩
 ·rw [h]; rfl
 ·rw [h]; rfl
theorem pO (l : List Int) : gb l (decide (((l.length : Nat) : Int) ≤ 120)) := qc 0 _ _ rfl
theorem BT (l : List Int) : gX l true := by
 by_cases hl : ((l.length : Nat) : Int) ≤ 120
 rotate_left
 ·exact gO 0 _ _ ⟨_, pO l, fun _ => ⟨_, lV, rfl⟩, fun h => absurd (of_decide_eq_true h) hl⟩
 obtain ⟨p, hp, hb, hm⟩ := sR l (by omega)
 have loop : ∀ k i, p.length - i ≤ k → ∃ M, cb M p i true := fun k => by
  have last : ∀ i, ¬ i < p.length → ∃ M, cb M p i true := fun i hi => ⟨1, ga 0 _ _ _ ⟨fun h => absurd h hi, fun _ => ⟨_, lV, rfl⟩⟩⟩
  induction k with
  | zero => intro i hi; exact last i (by omega)
  | succ k ih =>
   intro i hi
   obtain ⟨t, ht, hlt⟩ | hge := aH p i
   ·have htb := kS ht
    obtain ⟨M, hM⟩ := ih (i + 1) (by omega)
    refine ⟨M + 1, ga M _ _ _ ⟨fun _ => ⟨t, ht, t, ht, _, lq t (by omega), _, tk t (by omega), _, wQ _ _, fun e => ?_, fun _ => ⟨t, ht, t, ht, _, ro t (by omega), _, wB t (by omega), _, rr _ _, fun e => ?_, fun _ => ⟨t, ht, t, ht, _, ni t (by omega), _, wf t (by omega), fun e => absurd rfl e, fun _ => hM⟩⟩⟩, fun h => absurd hlt h⟩⟩
    ·rw [eqT_refl] at e; cases e
    ·simp at e
   ·exact last i hge
 obtain ⟨M, hM⟩ := loop p.length 0 (by omega)
 exact gO M _ _ ⟨_, pO l, fun _ => ⟨_, lV, rfl⟩, fun _ => ⟨p, hp, hM⟩⟩
mutual
def bareT : Tree → Tree
 | .node k x _ ks => .node k x [] (bareTs ks)
def bareTs : List Tree → List Tree
 | [] => []
 | t :: r => bareT t :: bareTs r
end
theorem Cg (t : Tree) : bareT t = .node t.kind t.text [] (bareTs t.kids) := by cases t; simp only [bareT]; rfl
theorem pK : ∀ l : List Tree, bareTs l = l.map bareT
 | [] => rfl
 | t :: r => by simp [bareTs, pK r]
theorem xv : ∀ t : Tree, tbulk t ≤ 900000000 → kh t (bareT t) := dc fun t ih ht => by
 have hk := da t
 obtain ⟨U, hU⟩ : ∃ U, bareTs t.kids = U := ⟨_, rfl⟩
 have hUl : U.length = t.kids.length := by rw [← hU, pK, List.length_map]
 have hUg : ∀ (i : Nat) (u : Tree), t.kids[i]? = some u → U[i]? = some (bareT u) := fun i u h => by rw [← hU, pK, List.getElem?_map, h]; rfl
 rw [Cg, hU]
 have kids : ∀ j i (us : List Tree), t.kids.length - i ≤ j → us.length = t.kids.length → us.take i = U.take i → ∃ M, ia M t us i (.node t.kind t.text [] U) := fun j => by
  have last : ∀ i (us : List Tree), ¬ i < t.kids.length → us.length = t.kids.length → us.take i = U.take i → ∃ M, ia M t us i (.node t.kind t.text [] U) := fun i us hi hul he => by
   rw [List.take_of_length_le (by omega), List.take_of_length_le (by omega)] at he
   subst he
   exact ⟨1, pQ 0 _ _ _ _ ⟨fun h => absurd h hi, fun _ => rfl⟩⟩
  induction j with
  | zero => intro i us hi hul he; exact last i us (by omega) hul he
  | succ j ihj =>
   intro i us hi hul he
   obtain ⟨u, hu, hlt⟩ | hge := aH t.kids i
   ·have hub := cJ hu
    obtain ⟨v, hv, _⟩ | h' := aH us i
    ·obtain ⟨M, hM⟩ := ihj (i + 1) (us.set i (bareT u)) (by omega) (by rw [List.length_set, hul]) (by
      rw [List.take_add_one, List.take_add_one, List.getElem?_set_self (by omega), List.take_set_of_le (Nat.le_refl i), he, hUg i u hu])
     exact ⟨M + 1, pQ M _ _ _ _ ⟨fun _ => ⟨u, hu, _, ih i u hu (by omega), v, hv, by omega, hM⟩, fun h => absurd hlt h⟩⟩
    ·omega
   ·exact last i us hge hul he
 by_cases h0 : 0 < ((t.kids.length : Nat) : Int)
 ·obtain ⟨M, hM⟩ := kids t.kids.length 0 (List.replicate t.kids.length (.node 0 [] [] [])) (by omega) (by simp) (by simp)
  exact qo M _ _ ⟨fun _ => ⟨by omega, hM⟩, fun h => absurd h0 h⟩
 ·obtain ⟨M, hM⟩ := kids t.kids.length 0 [] (by omega) (by simp; omega) (by simp)
  exact qo M _ _ ⟨fun h => absurd h h0, fun _ => hM⟩
theorem AV (t : Tree) (f : List UInt8) : (arrT t f).kind = t.kind ∧ (arrT t f).text = t.text := by rw [tu]; exact ⟨rfl, rfl⟩
mutual
theorem bare_arr : ∀ (t : Tree) (f : List UInt8), bareT (arrT t f) = bareT t
 | .node k x ls ks, f => by simp only [arrT, bareT, bare_arrs ks]
theorem bare_arrs : ∀ (l : List Tree) (b c : List UInt8), bareTs (arrTs l b c) = bareTs l
 | [], b, c => rfl
 | t :: r, b, c => by simp only [arrTs, bareTs, bare_arr t b, bare_arrs r c c]
end
mutual
theorem shape_arr : ∀ (t : Tree) (f : List UInt8), shapeK (arrT t f) = shapeK t
 | .node k x ls ks, f => by simp only [arrT, shapeK, nY, shape_arrs ks]
theorem shape_arrs : ∀ (l : List Tree) (b c : List UInt8) (k n : Int) (i : Nat), shapeKs k n i (arrTs l b c) = shapeKs k n i l
 | [], b, c, k, n, i => rfl
 | t :: r, b, c, k, n, i => by simp only [arrTs, shapeKs, (AV t b).1, shape_arr t b, shape_arrs r c c]
end
mutual
theorem arr_arr : ∀ (t : Tree) (f g : List UInt8), arrT (arrT t f) g = arrT t g
 | .node k x ls ks, f, g => by simp only [arrT, nY, arr_arrs ks]
theorem arr_arrs : ∀ (l : List Tree) (b c b' c' : List UInt8), arrTs (arrTs l b c) b' c' = arrTs l b' c'
 | [], b, c, b', c' => rfl
 | t :: r, b, c, b', c' => by simp only [arrTs, arr_arr t b b', arr_arrs r c c c' c']
end
def NH (x : List UInt8) : Prop := ldM false [] x = []
def NHl (l : List (List UInt8)) : Prop := ∀ x ∈ l, NH x
theorem nhn : NHl [] := fun x h => by cases h
theorem nhc {a : List UInt8} {l : List (List UInt8)} (h : NH a) (hl : NHl l) : NHl (a :: l) := fun x hx => by rcases List.mem_cons.1 hx with rfl | hx; exact h; exact hl x hx
theorem nha {a b : List (List UInt8)} (h : NHl a) (hl : NHl b) : NHl (a ++ b) := fun x hx => by rcases List.mem_append.1 hx with hx | hx; exact h x hx; exact hl x hx
theorem nhd {gs : List (List (List UInt8))} (h : ∀ g ∈ gs, NHl g) (i : Nat) : NHl (gs.getD i []) := by
 rw [List.getD_eq_getElem?_getD]
 cases e : gs[i]? with
 | none => exact nhn
 | some g => exact h g (List.mem_of_getElem? e)
theorem nhf : ∀ {gs : List (List (List UInt8))}, (∀ g ∈ gs, NHl g) → NHl gs.flatten
 | [], h => nhn
 | g :: r, h => nha (h g (by simp)) (nhf fun x hx => h x (by simp [hx]))
theorem nhr {ls : List (List UInt8)} (hl : ∀ i, NH (ls.getD i [])) (c : Nat) : ∀ {gs : List (List (List UInt8))} (i : Nat), (∀ g ∈ gs, NHl g) → NHl (jn ls c gs i)
 | [], i, h => nhn
 | g :: r, i, h => by
  rw [jn]
  refine nha ?_ (nha (h g (by simp)) (nhr hl c (i + 1) fun x hx => h x (by simp [hx])))
  split
  ·exact nhc (hl _) nhn
  ·exact nhn
theorem nhi {c : Prop} [Decidable c] {a b : List (List UInt8)} (ha : NHl a) (hb : NHl b) : NHl (if c then a else b) := by
 by_cases h : c
 ·rw [if_pos h]; exact ha
 ·rw [if_neg h]; exact hb
theorem Dp {k : Int} {ls : List (List UInt8)} {gs : List (List (List UInt8))} (hl : ∀ i, NH (ls.getD i [])) (hg : ∀ g ∈ gs, NHl g) : NHl (bN k ls gs) := by
 unfold bN
 repeat' first | exact nhn | refine nhi ?_ ?_ | exact nhd hg _ | exact nhf hg | exact nhr hl _ _ hg | exact nhr hl _ _ (fun g h => hg g (List.mem_of_mem_take h)) | exact nhc (hl _) nhn | refine nhc (hl _) ?_ | refine nha ?_ ?_
theorem DD {k n : Int} {f : List UInt8} (hf : NH f) (i : Nat) : NH ((ldA k n f).getD i []) := by
 have key : ∀ x ∈ ldA k n f, NH x := by
  have n0 : NH [] := rfl
  have n1 : NH [32] := rfl
  have n2 : NH [10] := rfl
  have r : ∀ N, ∀ x ∈ List.replicate N ([] : List UInt8), NH x := fun N x hx => by rw [List.eq_of_mem_replicate hx]; exact n0
  have s : ∀ (l : List (List UInt8)) (j : Nat) (a : List UInt8), (∀ x ∈ l, NH x) → NH a → ∀ x ∈ l.set j a, NH x := fun l j a hl ha x hx => by
   rcases List.mem_or_eq_of_mem_set hx with h | rfl
   ·exact hl x h
   ·exact ha
  have h0 : ∀ x ∈ ld0 k n, NH x := by
   unfold ld0
   dsimp only
   repeat' split
   ·exact s _ _ _ (s _ _ _ (r _) n1) n2
   ·exact s _ _ _ (s _ _ _ (r _) n1) n1
   ·exact s _ _ _ (s _ _ _ (r _) n1) n1
   ·exact s _ _ _ (s _ _ _ (s _ _ _ (r _) n1) n1) n1
   ·exact s _ _ _ (r _) n1
   ·exact r _
  unfold ldA
  split
  ·exact h0
  ·exact s _ _ _ h0 hf
 rw [List.getD_eq_getElem?_getD]
 cases e : (ldA k n f)[i]? with
 | none => rfl
 | some g => exact key g (List.mem_of_getElem? e)
theorem Ct {k n : Int} {f : List UInt8} (hf : NH f) : NH (bgK k n f) ∧ NH (rsK k) := by
 constructor
 ·unfold bgK
  repeat' split
  all_goals first | exact hf | rfl
 ·unfold rsK
  split <;> rfl
mutual
theorem nh_arr : ∀ (t : Tree) (f : List UInt8), NH f → NHl (ldT (arrT t f))
 | .node k x ls ks, f, hf => by
  simp only [arrT, ldT]
  exact Dp (DD hf) (nh_arrs ks _ _ (Ct hf).1 (Ct (n := 0) hf).2)
theorem nh_arrs : ∀ (l : List Tree) (b c : List UInt8), NH b → NH c → ∀ g ∈ ldTs (arrTs l b c), NHl g
 | [], b, c, hb, hc, g, h => by simp [arrTs, ldTs] at h
 | t :: r, b, c, hb, hc, g, h => by
  simp only [arrTs, ldTs] at h
  rcases List.mem_cons.1 h with rfl | h
  ·exact nh_arr t b hb
  ·exact nh_arrs r c c hc hc g h
end
theorem Cw : ∀ {l : List (List UInt8)}, NHl l → cl l = []
 | [], _ => rfl
 | a :: r, h => by rw [eQ, show ldM false [] a = [] from h a (by simp), Cw fun x hx => h x (by simp [hx])]; rfl
theorem vn (t : Tree) (f : List UInt8) (hf : NH f) : jx (arrT t f) = [] := by
 unfold jx
 split
 ·exact Cw (nh_arr t f hf)
 ·rfl
theorem Aj : ∀ {l : List (List UInt8)}, (∀ x ∈ l, x.length ≤ 2) → lsum l ≤ 3 * l.length
 | [], _ => Nat.le_refl _
 | a :: r, h => by
  have h1 := h a (by simp)
  have h2 := Aj (l := r) fun x hx => h x (by simp [hx])
  simp only [lsum, List.length_cons]; omega
theorem CL (k n : Int) (f : List UInt8) : (ldA k n f).length = (bb k n).toNat := by
 have h : (ld0 k n).length = (bb k n).toNat := by
  unfold ld0
  dsimp only
  repeat' split
  all_goals simp only [List.length_set, List.length_replicate]
 unfold ldA
 split
 ·exact h
 ·rw [List.length_set, h]
theorem zn {k n : Int} {f : List UInt8} (hf : f.length ≤ 2) : ∀ x ∈ ldA k n f, x.length ≤ 2 := by
 have r : ∀ N, ∀ x ∈ List.replicate N ([] : List UInt8), x.length ≤ 2 := fun N x hx => by rw [List.eq_of_mem_replicate hx]; decide
 have s : ∀ (l : List (List UInt8)) (j : Nat) (a : List UInt8), (∀ x ∈ l, x.length ≤ 2) → a.length ≤ 2 → ∀ x ∈ l.set j a, x.length ≤ 2 := fun l j a hl ha x hx => by
  rcases List.mem_or_eq_of_mem_set hx with h | rfl
  ·exact hl x h
  ·exact ha
 have h0 : ∀ x ∈ ld0 k n, x.length ≤ 2 := by
  unfold ld0
  dsimp only
  repeat' split
  ·exact s _ _ _ (s _ _ _ (r _) (by decide)) (by decide)
  ·exact s _ _ _ (s _ _ _ (r _) (by decide)) (by decide)
  ·exact s _ _ _ (s _ _ _ (r _) (by decide)) (by decide)
  ·exact s _ _ _ (s _ _ _ (s _ _ _ (r _) (by decide)) (by decide)) (by decide)
  ·exact s _ _ _ (r _) (by decide)
  ·exact r _
 unfold ldA
 split
 ·exact h0
 ·exact s _ _ _ h0 hf
theorem vI {k n : Int} {f : List UInt8} (hf : f.length ≤ 2) : (bgK k n f).length ≤ 2 ∧ (rsK k).length ≤ 2 := by
 constructor
 ·unfold bgK
  repeat' split
  all_goals first | exact hf | decide
 ·unfold rsK
  split <;> decide
mutual
theorem arr_bulk : ∀ (t : Tree) (f : List UInt8), f.length ≤ 2 → tbulk (arrT t f) + 3 ≤ 25 * tbulk t
 | .node k x ls ks, f, hf => by
  have h1 := arrs_bulk ks (bgK k ks.length f) (rsK k) (vI hf).1 (vI (n := 0) hf).2
  have h2 := Aj (zn (k := k) (n := ks.length) hf)
  rw [CL] at h2
  have h3 := tD k (n := ks.length) (by omega)
  simp only [arrT, tbulk]
  omega
theorem arrs_bulk : ∀ (l : List Tree) (b c : List UInt8), b.length ≤ 2 → c.length ≤ 2 → kbulk (arrTs l b c) + 3 * l.length ≤ 25 * kbulk l
 | [], b, c, hb, hc => by simp [arrTs, kbulk]
 | t :: r, b, c, hb, hc => by
  have h1 := arr_bulk t b hb
  have h2 := arrs_bulk r c c hc hc
  simp only [arrTs, kbulk, List.length_cons]
  omega
end
mutual
theorem bare_bulk : ∀ t : Tree, tbulk (bareT t) ≤ tbulk t
 | .node k x ls ks => by have := bares_bulk ks; simp only [bareT, tbulk, lsum]; omega
theorem bares_bulk : ∀ l : List Tree, kbulk (bareTs l) ≤ kbulk l
 | [] => Nat.le_refl _
 | t :: r => by have h1 := bare_bulk t; have h2 := bares_bulk r; simp only [bareTs, kbulk]; omega
end
theorem DC (l : List Int) : iU l true := by
 by_cases hl : ((l.length : Nat) : Int) ≤ 120
 rotate_left
 ·exact iF 0 _ _ ⟨_, pO l, fun _ => ⟨_, lV, rfl⟩, fun h => absurd (of_decide_eq_true h) hl⟩
 obtain ⟨p, hp, hb, hm⟩ := sR l (by omega)
 have loop : ∀ k i, p.length - i ≤ k → ∃ M, cp M p i true := fun k => by
  have last : ∀ i, ¬ i < p.length → ∃ M, cp M p i true := fun i hi => ⟨1, im 0 _ _ _ ⟨fun h => absurd h hi, fun _ => ⟨_, lV, rfl⟩⟩⟩
  induction k with
  | zero => intro i hi; exact last i (by omega)
  | succ k ih =>
   intro i hi
   obtain ⟨t, ht, hlt⟩ | hge := aH p i
   ·have htb := kS ht
    have hs : shapeK t = true := (hm t (List.mem_of_getElem? ht)).2
    have ea : iK t = arrT t [] := by unfold iK; rw [if_pos hs]
    have hab := arr_bulk t [] (by decide)
    have e2 : iK (arrT t []) = arrT t [] := by unfold iK; rw [shape_arr, if_pos hs, arr_arr]
    have hA := lq t (by omega)
    rw [ea] at hA
    have hA2 := lq (arrT t []) (by omega)
    rw [e2] at hA2
    have hC := ni (arrT t []) (by omega)
    rw [e2, eqT_refl, shape_arr, hs] at hC
    have hM0 := qG (arrT t []) (by omega) (by rw [vn t [] rfl]; simp)
    rw [vn t [] rfl] at hM0
    have hB := xv (arrT t []) (by omega)
    rw [bare_arr] at hB
    have hB2 := xv t (by omega)
    have hbb : tbulk (bareT t) ≤ 900000000 := by have := bare_bulk t; omega
    have hS1 := pN (bareT t) hbb (bareT t)
    rw [eqT_refl] at hS1
    have hS2 := pN (arrT t []) (by omega) (arrT t [])
    rw [eqT_refl] at hS2
    obtain ⟨M, hM⟩ := ih (i + 1) (by omega)
    exact ⟨M + 1, im M _ _ _ ⟨fun _ => ⟨t, ht, _, hA, t, ht, _, hB, _, hB2, _, hS1, fun e => (by cases e), fun _ => ⟨_, hA2, _, hS2, fun e => (by cases e), fun _ => ⟨_, hC, fun e => (by cases e), fun _ => ⟨_, hM0, fun e => absurd rfl e, fun _ => hM⟩⟩⟩⟩, fun h => absurd hlt h⟩⟩
   ·exact last i hge
 obtain ⟨M, hM⟩ := loop p.length 0 (by omega)
 exact iF M _ _ ⟨_, pO l, fun _ => ⟨_, lV, rfl⟩, fun _ => ⟨p, hp, hM⟩⟩
end Go.Proofs.YtpnpdlnpikkeaaaGreat
namespace Go.Proofs.YtpnpdlnpikkeaaaGreat
open Go.RowKit Go.ChangeShapes Go.WideShapes Go.Deep
theorem zo : Tryz.prog.cellsOf 3 = 1 := by kernel_rfl
theorem EV {H : Type} {enc : TypeId × Value → H} {W : World} {a0 : Option Addr} {len cap : Nat} {d : DataW H} {p : List MemPlace} (h : DataW.Trod enc Tryz.prog W 0 (fun _ => true) true 22 (.slice a0 len cap) d p) :
  ∃ zs : List Int, len = zs.length ∧ len ≤ cap ∧ cap ≤ maxLen ∧ RowIn Any W 1 a0 zs.length (zs.map fun z => .int .i64 z) := by
 obtain ⟨fuel, hf⟩ := h
 rcases open_ints Tryz.underlying22 Tryz.underlying3 zo hf with ⟨hcs, hx⟩ | ⟨a, len', cap', zs, hcs, hb, hl, hm, hlen, hx, hcell, hwf⟩
 ·simp [Value.cells] at hcs
  obtain ⟨rfl, rfl, rfl⟩ := hcs
  exact ⟨[], rfl, Nat.le_refl _, Nat.zero_le _, RowIn.none_⟩
 ·simp [Value.cells] at hcs
  obtain ⟨rfl, rfl, rfl⟩ := hcs
  simp only [if_true] at hlen
  have hlt : (zs.take len).length = len := by simp; omega
  refine ⟨zs.take len, hlt.symm, hl, hm, by simp, fun h0 => ?_⟩
  rw [hlt] at h0 ⊢
  have hs : a.spot = none := World.cell?_spot (a := a) (by have := hcell 0 (by omega); simpa [Addr.add] using this)
  obtain ⟨b, off, spot⟩ := a
  simp only at hs
  subst hs
  have hadd : ∀ k, (⟨b, off, none⟩ : Addr).add k = ⟨b, off + k, none⟩ := fun k => by unfold Addr.add; split <;> simp_all
  refine ⟨b, off, rfl, trivial, ?_, fun j hj => ?_⟩
  ·have := hcell 0 (by omega)
   exact World.block_lt_of_cell? W ⟨b, off, none⟩ (by simpa [Addr.add] using this)
  ·have hj' : j < len := by omega
   have := hcell j (by omega)
   rw [hadd] at this
   rw [this]
   simp [hj', List.getD_eq_getElem?_getD, show j < zs.length from by omega]
end Go.Proofs.YtpnpdlnpikkeaaaGreat
