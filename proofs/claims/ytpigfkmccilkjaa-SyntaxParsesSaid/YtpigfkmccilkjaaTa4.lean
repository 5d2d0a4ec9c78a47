/- Contracts of the functions that the law reaches, part 4. -/
import Derived.Test.YtpigfkmccilkjaaTa3
set_option linter.unusedVariables false
set_option linter.unusedSimpArgs false
namespace Go.Proofs.Ytpigfkmccilkjaa
open Go.RowKit Lx Sx
set_option maxRecDepth 100000
set_option maxHeartbeats 1000000
def cmS (most : Nat) (beg : TokZ → Bool) (ks : List Tree) (s : PS) : PS := if ks.length = most ∧ beg (ab (ac s)) = true then aV 3 (ac s) else ac s
theorem cn {s : PS} (h : s.toks ≠ []) : (ac s).toks.length < s.toks.length := by
 cases he : s.toks with
 | nil => exact absurd he h
 | cons t r => have := pp he; rw [he] at this; exact this
theorem mR {item : PS → Tree × PS} {most : Nat} {beg : TokZ → Bool} (base : List (List UInt8)) (n : Nat) (Q : Nat → PS → List (List UInt8) → List Tree → Prop)
    (hlen : ∀ s, (item s).2.toks.length ≤ s.toks.length)
    (step : ∀ M s ls ks, (ab s).text = [44] → s.toks.length ≤ n → Pk s → ls.length ≤ 2000000 → ks.length ≤ 2000000 → Pk (item (cmS most beg ks s)).2 ∧ (Q M (item (cmS most beg ks s)).2 (ls ++ [(ab s).lead]) (ks ++ [(item (cmS most beg ks s)).1]) → Q (M + 1) s ls ks)) :
    ∀ (fuel : Nat) (s : PS) (cs : List (List UInt8)) (ks : List Tree), s.toks.length < fuel → s.toks.length ≤ n → Pk s → (base ++ cs).length + s.toks.length ≤ 2000000 → ks.length + s.toks.length ≤ 2000000 →
      Pk (commaF item most beg fuel cs ks s).2.2 ∧ ¬ (ab (commaF item most beg fuel cs ks s).2.2).text = [44] ∧ (commaF item most beg fuel cs ks s).2.2.toks.length ≤ s.toks.length ∧ (commaF item most beg fuel cs ks s).2.1.length ≤ ks.length + s.toks.length ∧
      ((∃ M, Q M (commaF item most beg fuel cs ks s).2.2 (base ++ (commaF item most beg fuel cs ks s).1) (commaF item most beg fuel cs ks s).2.1) → ∃ M, Q M s (base ++ cs) ks)
  | 0, s, cs, ks, h, _, _, _, _ => by omega
  | fuel + 1, s, cs, ks, h, hn, hk, b1, b2 => by
    by_cases h1 : (ab s).text = [44]
    · have e : commaF item most beg (fuel + 1) cs ks s = commaF item most beg fuel (cs ++ [(ab s).lead]) (ks ++ [(item (cmS most beg ks s)).1]) (item (cmS most beg ks s)).2 := by
        rw [commaF, if_pos h1]; rfl
      have hne := aT (s := s) (.inl (by rw [h1]; decide))
      have l1 := cn hne
      have l2 : (cmS most beg ks s).toks.length ≤ (ac s).toks.length := by
        unfold cmS
        split
        · exact ep 3 _
        · exact Nat.le_refl _
      have l3 := hlen (cmS most beg ks s)
      obtain ⟨k1, q1⟩ := step 0 s (base ++ cs) ks h1 hn hk (by omega) (by omega)
      obtain ⟨g1, g2, g3, g4, g5⟩ := mR base n Q hlen step fuel (item (cmS most beg ks s)).2 (cs ++ [(ab s).lead]) (ks ++ [(item (cmS most beg ks s)).1]) (by omega) (by omega) k1 (by simp only [List.length_append, List.length_cons, List.length_nil] at b1 ⊢; omega) (by simp only [List.length_append, List.length_cons, List.length_nil]; omega)
      rw [e]
      refine ⟨g1, g2, by omega, by simp only [List.length_append, List.length_cons, List.length_nil] at g4; omega, fun hQ => ?_⟩
      obtain ⟨M, hM⟩ := g5 hQ
      rw [← List.append_assoc] at hM
      exact ⟨M + 1, (step M s (base ++ cs) ks h1 hn hk (by omega) (by omega)).2 hM⟩
    · have e : commaF item most beg (fuel + 1) cs ks s = (cs, ks, s) := by rw [commaF, if_neg h1]
      rw [e]
      exact ⟨hk, h1, Nat.le_refl _, Nat.le_add_right _ _, id⟩
abbrev Pex := fun (a : List GToken) (o s f z : Int) (x : Tree) (b : List GToken) (o' s' f' z' : Int) => aG a o s f z x b o' s' f' z'
abbrev Pun := fun (a : List GToken) (o s f z : Int) (x : Tree) (b : List GToken) (o' s' f' z' : Int) => fw a o s f z x b o' s' f' z'
abbrev Pus := fun (a : List GToken) (o s f z : Int) (x : Tree) (b : List GToken) (o' s' f' z' : Int) => fZ a o s f z x b o' s' f' z'
abbrev Pli := fun (a : List GToken) (o s f z : Int) (x : Tree) (b : List GToken) (o' s' f' z' : Int) => ie a o s f z x b o' s' f' z'
abbrev Par := fun (a : List GToken) (o s f z : Int) (x : Tree) (b : List GToken) (o' s' f' z' : Int) => cR a o s f z x b o' s' f' z'
section
variable {n : Nat} {E : PS → Tree × PS} (hE : ∀ s, s.toks.length < n → Pk s → Ag Pex s (E s)) (hL : ∀ s, (E s).2.toks.length ≤ s.toks.length)
include hE
theorem uO {s : PS} (h : s.toks.length < n) (hk : Pk s) : Ag Par s (cy E s) := by
 obtain ⟨q, k⟩ := hE s h hk
 exact ⟨lU 0 _ _ _ _ _ _ _ _ _ _ _ ⟨_, _, _, _, _, _, q, rfl, rfl, rfl, rfl, rfl, rfl⟩, k⟩
include hL
theorem zA {s : PS} (ht : (ab s).text = [91]) (h : s.toks.length ≤ n) (hn : n ≤ 1000000) (hk : Pk s) : Ag Pli s (mJ E s) := by
 have l1 := kR (x := [91]) (by decide) ht
 have l2 := hL (ai [91] s).2
 obtain ⟨q1, k1⟩ := dS (x := [91]) (by decide) hk
 obtain ⟨q2, k2⟩ := hE (ai [91] s).2 (by omega) k1
 obtain ⟨s1, es1⟩ : ∃ s1, s1 = (ai [91] s).2 := ⟨_, rfl⟩
 obtain ⟨r, er⟩ : ∃ r, r = commaF E 16 aA ((E s1).2.toks.length + 1) [] [(E s1).1] (E s1).2 := ⟨_, rfl⟩
 rw [← es1] at k1 k2 l1 l2
 obtain ⟨z, ez⟩ : ∃ z, z = ai [93] r.2.2 := ⟨_, rfl⟩
 have e : mJ E s = (.node 18 [] ([(ai [91] s).1, z.1] ++ r.1) r.2.1, z.2) := by rw [ez, er, es1]; rfl
 obtain ⟨g1, g2, g3, g4, g5⟩ := mR (item := E) (most := 16) (beg := aA) [(ai [91] s).1, []] (n - 1) (fun M u ls ks => dj M (gt u) u.off u.size u.failed u.place ls ks (.node 18 [] ([(ai [91] s).1, z.1] ++ r.1) r.2.1) (gt z.2) z.2.off z.2.size z.2.failed z.2.place) hL
  (fun M u ls ks hu hun huk b1 b2 => by
   have hne := aT (s := u) (.inl (by rw [hu]; decide))
   have lt := cn hne
   obtain ⟨t1, t2⟩ := ei hne huk
   have lc : (ls ++ [(gTk (ab u)).Lead]).length ≤ 1000000000 := by simp only [List.length_append, List.length_cons, List.length_nil]; omega
   have lk : ∀ x : Tree, (ks ++ [x]).length ≤ 1000000000 := fun x => by simp only [List.length_append, List.length_cons, List.length_nil]; omega
   unfold cmS
   by_cases hb : ks.length = 16 ∧ aA (ab (ac u)) = true
   ·rw [if_pos hb]
    obtain ⟨f1, f2⟩ := ln 3 t2
    obtain ⟨i1, i2⟩ := hE (aV 3 (ac u)) (by have := ep 3 (ac u); omega) f2
    exact ⟨i2, fun hQ => gu M _ _ _ _ _ _ _ _ _ _ _ _ _ ⟨_, _, _, _, _, _, bD u, fun _ => ⟨_, _, _, _, _, _, t1, lc, fun _ => ⟨_, _, _, _, _, _, bD (ac u), _, nX _, fun _ => ⟨_, _, _, _, _, f1, _, _, _, _, _, _, i1, lk _, hQ⟩, fun e => by rw [hb.2] at e; cases e⟩, fun e => absurd (by rw [hb.1]; rfl) e⟩, fun e => absurd hu e⟩⟩
   ·rw [if_neg hb]
    obtain ⟨i1, i2⟩ := hE (ac u) (by omega) t2
    exact ⟨i2, fun hQ => gu M _ _ _ _ _ _ _ _ _ _ _ _ _ ⟨_, _, _, _, _, _, bD u, fun _ => ⟨_, _, _, _, _, _, t1, lc, fun h16 => ⟨_, _, _, _, _, _, bD (ac u), _, nX _, fun e => absurd ⟨by omega, e⟩ hb, fun _ => ⟨_, _, _, _, _, _, i1, lk _, hQ⟩⟩, fun _ => ⟨_, _, _, _, _, _, i1, lk _, hQ⟩⟩, fun e => absurd hu e⟩⟩)
  ((E s1).2.toks.length + 1) (E s1).2 [] [(E s1).1] (by omega) (by omega) k2 (by simp only [List.length_append, List.length_cons, List.length_nil]; omega) (by simp only [List.length_cons, List.length_nil]; omega)
 rw [← er] at g1 g2 g3 g4 g5
 obtain ⟨q3, k3⟩ := dS (x := [93]) (by decide) g1
 rw [← ez] at q3 k3
 obtain ⟨M, hM⟩ := g5 ⟨1, gu 0 _ _ _ _ _ _ _ _ _ _ _ _ _ ⟨_, _, _, _, _, _, bD r.2.2, fun e => absurd e g2, fun _ => ⟨_, _, _, _, _, _, q3, _, rfl, rfl, rfl, rfl, rfl, rfl, rfl⟩⟩⟩
 rw [e]
 rw [← es1] at q1 q2
 exact ⟨nn M _ _ _ _ _ _ _ _ _ _ _ ⟨by decide, _, _, _, _, _, _, q1, _, rfl, _, _, _, _, _, _, q2, hM⟩, k3⟩
theorem AB {s : PS} (hk13 : (ab s).kind = 1 ∨ (ab s).kind = 3) (h : s.toks.length ≤ n) (hn : n ≤ 1000000) (hk : Pk s) : Ag Pus s (jb E s) := by
 have hne := aT (s := s) (.inr (by omega))
 have l0 := cn hne
 obtain ⟨t1, t2⟩ := ei hne hk
 by_cases hv : (ab s).kind = 1 ∧ ¬ (ab (ac s)).text = [40]
 ·have e : jb E s = (.node 12 (ab s).text [(ab s).lead] [], ac s) := by unfold jb; rw [if_pos hv]
  rw [e]
  exact ⟨jT 0 _ _ _ _ _ _ _ _ _ _ _ ⟨_, _, _, _, _, _, t1, fun _ => ⟨_, _, _, _, _, _, bD (ac s), fun _ => ⟨rfl, rfl, rfl, rfl, rfl, rfl⟩, fun e => absurd e hv.2⟩, fun e => absurd hv.1 e⟩, t2⟩
 have l1 := aw [40] (ac s)
 obtain ⟨q1, k1⟩ := dS (x := [40]) (by decide) t2
 obtain ⟨a, ea⟩ : ∃ a, a = ai [40] (ac s) := ⟨_, rfl⟩
 rw [← ea] at l1 q1 k1
 obtain ⟨r, er⟩ : ∃ r, r = cJ (cy E) 8 aA a.2 := ⟨_, rfl⟩
 obtain ⟨z, ez⟩ : ∃ z, z = ai [41] r.2.2 := ⟨_, rfl⟩
 have e : jb E s = (.node 16 (ab s).text ([(ab s).lead, a.1, z.1] ++ r.1) r.2.1, z.2) := by
  unfold jb; rw [if_neg hv, ez, er, ea]
 have hLa : ∀ s, (cy E s).2.toks.length ≤ s.toks.length := fun s => hL s
 have main : Pk z.2 ∧ ∃ M, fD M (gTk (ab s)) (gt (ac s)) (ac s).off (ac s).size (ac s).failed (ac s).place (.node 16 (ab s).text ([(ab s).lead, a.1, z.1] ++ r.1) r.2.1) (gt z.2) z.2.off z.2.size z.2.failed z.2.place := by
  by_cases hc : (ab a.2).text = [41]
  ·have er' : r = ([], [], a.2) := by rw [er]; unfold cJ; rw [if_pos hc]
   rw [er'] at ez ⊢
   obtain ⟨q3, k3⟩ := dS (x := [41]) (by decide) k1
   rw [ez]
   exact ⟨k3, 2, jK 1 _ _ _ _ _ _ _ _ _ _ _ _ ⟨by decide, jO 0 _ _ _ _ _ _ _ _ _ _ _ _ ⟨_, rfl, _, _, _, _, _, _, q1, _, rfl, _, _, _, _, _, _, bD a.2, fun e => absurd hc e, fun _ => ⟨_, _, _, _, _, _, q3, _, rfl, rfl, rfl, rfl, rfl, rfl, rfl⟩⟩⟩⟩
  ·have er' : r = commaF (cy E) 8 aA ((cy E a.2).2.toks.length + 1) [] [(cy E a.2).1] (cy E a.2).2 := by rw [er]; unfold cJ; rw [if_neg hc]
   obtain ⟨q2, k2⟩ := uO hE (s := a.2) (by omega) k1
   have l2 := hLa a.2
   obtain ⟨g1, g2, g3, g4, g5⟩ := mR (item := cy E) (most := 8) (beg := aA) [(ab s).lead, a.1, []] (n - 1) (fun M u ls ks => dz M (gTk (ab s)) (gt u) u.off u.size u.failed u.place ls ks (.node 16 (ab s).text ([(ab s).lead, a.1, z.1] ++ r.1) r.2.1) (gt z.2) z.2.off z.2.size z.2.failed z.2.place) hLa
    (fun M u ls ks hu hun huk b1 b2 => by
     have hne := aT (s := u) (.inl (by rw [hu]; decide))
     have lt := cn hne
     obtain ⟨t1, t2⟩ := ei hne huk
     have lc : (ls ++ [(gTk (ab u)).Lead]).length ≤ 1000000000 := by simp only [List.length_append, List.length_cons, List.length_nil]; omega
     have lk : ∀ x : Tree, (ks ++ [x]).length ≤ 1000000000 := fun x => by simp only [List.length_append, List.length_cons, List.length_nil]; omega
     unfold cmS
     by_cases hb : ks.length = 8 ∧ aA (ab (ac u)) = true
     ·rw [if_pos hb]
      obtain ⟨f1, f2⟩ := ln 3 t2
      obtain ⟨i1, i2⟩ := uO hE (s := aV 3 (ac u)) (by have := ep 3 (ac u); omega) f2
      exact ⟨i2, fun hQ => hJ M _ _ _ _ _ _ _ _ _ _ _ _ _ _ ⟨_, _, _, _, _, _, bD u, fun _ => ⟨_, _, _, _, _, _, t1, lc, fun _ => ⟨_, _, _, _, _, _, bD (ac u), _, nX _, fun _ => ⟨_, _, _, _, _, f1, _, _, _, _, _, _, i1, lk _, hQ⟩, fun e => by rw [hb.2] at e; cases e⟩, fun e => absurd (by rw [hb.1]; rfl) e⟩, fun e => absurd hu e⟩⟩
     ·rw [if_neg hb]
      obtain ⟨i1, i2⟩ := uO hE (s := ac u) (by omega) t2
      exact ⟨i2, fun hQ => hJ M _ _ _ _ _ _ _ _ _ _ _ _ _ _ ⟨_, _, _, _, _, _, bD u, fun _ => ⟨_, _, _, _, _, _, t1, lc, fun h16 => ⟨_, _, _, _, _, _, bD (ac u), _, nX _, fun e => absurd ⟨by omega, e⟩ hb, fun _ => ⟨_, _, _, _, _, _, i1, lk _, hQ⟩⟩, fun _ => ⟨_, _, _, _, _, _, i1, lk _, hQ⟩⟩, fun e => absurd hu e⟩⟩)
    ((cy E a.2).2.toks.length + 1) (cy E a.2).2 [] [(cy E a.2).1] (by omega) (by omega) k2 (by simp only [List.length_append, List.length_cons, List.length_nil]; omega) (by simp only [List.length_cons, List.length_nil]; omega)
   rw [← er'] at g1 g2 g3 g4 g5
   obtain ⟨q3, k3⟩ := dS (x := [41]) (by decide) g1
   rw [← ez] at q3 k3
   obtain ⟨M, hM⟩ := g5 ⟨1, hJ 0 _ _ _ _ _ _ _ _ _ _ _ _ _ _ ⟨_, _, _, _, _, _, bD r.2.2, fun e => absurd e g2, fun _ => ⟨_, _, _, _, _, _, q3, _, rfl, rfl, rfl, rfl, rfl, rfl, rfl⟩⟩⟩
   exact ⟨k3, M + 2, jK (M + 1) _ _ _ _ _ _ _ _ _ _ _ _ ⟨by decide, jO M _ _ _ _ _ _ _ _ _ _ _ _ ⟨_, rfl, _, _, _, _, _, _, q1, _, rfl, _, _, _, _, _, _, bD a.2, fun _ => ⟨_, _, _, _, _, _, q2, hM⟩, fun e => absurd e hc⟩⟩⟩
 obtain ⟨kz, M, hM⟩ := main
 rw [e]
 refine ⟨jT M _ _ _ _ _ _ _ _ _ _ _ ⟨_, _, _, _, _, _, t1, fun h1 => ⟨_, _, _, _, _, _, bD (ac s), fun e => absurd ⟨h1, e⟩ hv, fun _ => hM⟩, fun _ => hM⟩, kz⟩
theorem vt {s : PS} (h : s.toks.length ≤ n) (hn : n ≤ 1000000) (hk : Pk s) : Ag Pun s (aP E s) := by
 by_cases h13 : (ab s).kind = 1 ∨ (ab s).kind = 3
 ·have e : aP E s = jb E s := by unfold aP; rw [if_pos h13]
  obtain ⟨q, k⟩ := AB hE hL h13 h hn hk
  rw [e]
  exact ⟨jL 0 _ _ _ _ _ _ _ _ _ _ _ ⟨_, _, _, _, _, _, bD s, fun e => absurd e (show ¬ (ab s).kind = 5 by omega), fun _ => ⟨fun e => absurd e (show ¬ (ab s).kind = 6 by omega), fun _ => ⟨fun _ => ⟨_, _, _, _, _, _, q, rfl, rfl, rfl, rfl, rfl, rfl⟩, fun h1 => ⟨fun _ => ⟨_, _, _, _, _, _, q, rfl, rfl, rfl, rfl, rfl, rfl⟩, fun h3 => absurd h13 (fun o => o.elim h1 h3)⟩⟩⟩⟩, k⟩
 have top : ∀ {x : Tree} {s' : PS} (c : ∀ i : Nat, (i = if (ab s).kind = 5 then 10 else if (ab s).kind = 6 then 11 else 0) → ∃ M, dl M (gTk (ab s)) (gt s) s.off s.size s.failed s.place i x (gt s') s'.off s'.size s'.failed s'.place), Pun (gt s) s.off s.size s.failed s.place x (gt s') s'.off s'.size s'.failed s'.place := fun {x s'} c => by
  obtain ⟨M, hM⟩ := c _ rfl
  refine jL M _ _ _ _ _ _ _ _ _ _ _ ⟨_, _, _, _, _, _, bD s, fun h5 => ?_, fun h5 => ⟨fun h6 => ?_, fun h6 => ⟨fun e => absurd (.inl e) h13, fun _ => ⟨fun e => absurd (.inr e) h13, fun _ => ?_⟩⟩⟩⟩
  ·rw [if_pos (show (ab s).kind = 5 from h5)] at hM; exact hM
  ·rw [if_neg (show ¬ (ab s).kind = 5 from h5), if_pos (show (ab s).kind = 6 from h6)] at hM; exact hM
  ·rw [if_neg (show ¬ (ab s).kind = 5 from h5), if_neg (show ¬ (ab s).kind = 6 from h6)] at hM; exact hM
 unfold aP
 rw [if_neg h13]
 by_cases c1 : (ab s).text = gD
 ·obtain ⟨q, k⟩ := ei (aT (.inl (by rw [c1]; decide))) hk
  rw [if_pos c1]
  exact ⟨top fun i _ => ⟨2, cZ 1 _ _ _ _ _ _ _ _ _ _ _ _ _ ⟨fun _ => da 0 _ _ _ _ _ _ _ _ _ _ _ _ _ ⟨fun e => by simp at e, fun _ => ⟨_, _, _, _, _, _, q, rfl, rfl, rfl, rfl, rfl, rfl⟩⟩, fun e => absurd c1 e⟩⟩, k⟩
 rw [if_neg c1]
 by_cases c2 : (ab s).text = fM
 ·obtain ⟨q, k⟩ := ei (aT (.inl (by rw [c2]; decide))) hk
  rw [if_pos c2]
  exact ⟨top fun i _ => ⟨2, cZ 1 _ _ _ _ _ _ _ _ _ _ _ _ _ ⟨fun e => absurd e c1, fun _ => ⟨fun _ => da 0 _ _ _ _ _ _ _ _ _ _ _ _ _ ⟨fun e => by simp at e, fun _ => ⟨_, _, _, _, _, _, q, rfl, rfl, rfl, rfl, rfl, rfl⟩⟩, fun e => absurd c2 e⟩⟩⟩, k⟩
 rw [if_neg c2]
 by_cases c3 : (ab s).text = [63]
 ·obtain ⟨q, k⟩ := ei (aT (.inl (by rw [c3]; decide))) hk
  rw [if_pos c3]
  exact ⟨top fun i _ => ⟨2, cZ 1 _ _ _ _ _ _ _ _ _ _ _ _ _ ⟨fun e => absurd e c1, fun _ => ⟨fun e => absurd e c2, fun _ => ⟨fun _ => da 0 _ _ _ _ _ _ _ _ _ _ _ _ _ ⟨fun e => by simp at e, fun _ => ⟨_, _, _, _, _, _, q, rfl, rfl, rfl, rfl, rfl, rfl⟩⟩, fun e => absurd c3 e⟩⟩⟩⟩, k⟩
 rw [if_neg c3]
 by_cases c4 : (ab s).text = [91]
 ·obtain ⟨q, k⟩ := zA hE hL c4 h hn hk
  rw [if_pos c4]
  exact ⟨top fun i _ => ⟨1, cZ 0 _ _ _ _ _ _ _ _ _ _ _ _ _ ⟨fun e => absurd e c1, fun _ => ⟨fun e => absurd e c2, fun _ => ⟨fun e => absurd e c3, fun _ => ⟨fun _ => ⟨_, _, _, _, _, _, q, rfl, rfl, rfl, rfl, rfl, rfl⟩, fun e => absurd c4 e⟩⟩⟩⟩⟩, k⟩
 rw [if_neg c4]
 by_cases c5 : (ab s).text = [40]
 ·have hne := aT (s := s) (.inl (by rw [c5]; decide))
  have l1 := cn hne
  obtain ⟨q, k⟩ := ei hne hk
  obtain ⟨q2, k2⟩ := hE (ac s) (by omega) k
  obtain ⟨q3, k3⟩ := dS (x := [41]) (by decide) k2
  rw [if_pos c5]
  exact ⟨top fun i _ => ⟨1, cZ 0 _ _ _ _ _ _ _ _ _ _ _ _ _ ⟨fun e => absurd e c1, fun _ => ⟨fun e => absurd e c2, fun _ => ⟨fun e => absurd e c3, fun _ => ⟨fun e => absurd e c4, fun _ => ⟨fun _ => ⟨by decide, _, _, _, _, _, _, q, _, rfl, _, _, _, _, _, _, q2, _, _, _, _, _, _, q3, _, rfl, rfl, rfl, rfl, rfl, rfl, rfl⟩, fun e => absurd c5 e⟩⟩⟩⟩⟩⟩, k3⟩
 rw [if_neg c5]
 have tail : ∀ {i : Nat} {x : Tree} {s' : PS}, dk 1 (gt s) s.off s.size s.failed s.place i (ab s).text x (gt s') s'.off s'.size s'.failed s'.place → dl 2 (gTk (ab s)) (gt s) s.off s.size s.failed s.place i x (gt s') s'.off s'.size s'.failed s'.place := fun hL1 => cZ 1 _ _ _ _ _ _ _ _ _ _ _ _ _ ⟨fun e => absurd e c1, fun _ => ⟨fun e => absurd e c2, fun _ => ⟨fun e => absurd e c3, fun _ => ⟨fun e => absurd e c4, fun _ => ⟨fun e => absurd e c5, fun _ => hL1⟩⟩⟩⟩⟩
 by_cases c6 : (ab s).kind = 5
 ·obtain ⟨q, k⟩ := ei (aT (s := s) (.inr (by omega))) hk
  rw [if_pos c6]
  exact ⟨top fun i hi => ⟨2, by rw [hi, if_pos c6]; exact tail (da 0 _ _ _ _ _ _ _ _ _ _ _ _ _ ⟨fun e => by simp at e, fun _ => ⟨_, _, _, _, _, _, q, rfl, rfl, rfl, rfl, rfl, rfl⟩⟩)⟩, k⟩
 rw [if_neg c6]
 by_cases c7 : (ab s).kind = 6
 ·obtain ⟨q, k⟩ := ei (aT (s := s) (.inr (by omega))) hk
  rw [if_pos c7]
  exact ⟨top fun i hi => ⟨2, by rw [hi, if_neg c6, if_pos c7]; exact tail (da 0 _ _ _ _ _ _ _ _ _ _ _ _ _ ⟨fun e => by simp at e, fun _ => ⟨_, _, _, _, _, _, q, rfl, rfl, rfl, rfl, rfl, rfl⟩⟩)⟩, k⟩
 rw [if_neg c7]
 obtain ⟨q, k⟩ := ln 2 hk
 exact ⟨top fun i hi => ⟨2, by rw [hi, if_neg c6, if_neg c7]; exact tail (da 0 _ _ _ _ _ _ _ _ _ _ _ _ _ ⟨fun _ => ⟨_, _, _, _, _, q, rfl, rfl, rfl, rfl, rfl, rfl⟩, fun e => absurd rfl e⟩)⟩, k⟩
theorem yf : ∀ (fuel : Nat) (t : Tree) (s : PS), s.toks.length < fuel → s.toks.length ≤ n → n ≤ 1000000 → Pk s → Pk (ff (aP E) fuel t s).2 ∧ ∃ M, dJ M (gt s) s.off s.size s.failed s.place t (ff (aP E) fuel t s).1 (gt (ff (aP E) fuel t s).2) (ff (aP E) fuel t s).2.off (ff (aP E) fuel t s).2.size (ff (aP E) fuel t s).2.failed (ff (aP E) fuel t s).2.place
 | 0, t, s, h, _, _, _ => by omega
 | fuel + 1, t, s, h, hn', hn, hk => by
  have hop : mY (ab s).text = rM (ab s).text := rfl
  have ho := qh (ab s).text
  rw [ff]
  by_cases c : mY (ab s).text = true
  ·rw [if_pos c]
   have hne := aT (s := s) (.inl (fun e => by rw [e] at c; revert c; decide))
   have l1 := cn hne
   have l2 := jM hL (ac s)
   obtain ⟨q, k⟩ := ei hne hk
   obtain ⟨q2, k2⟩ := vt hE hL (s := ac s) (by omega) hn k
   obtain ⟨k3, M, hM⟩ := yf fuel (.node 21 (ab s).text [(ab s).lead] [t, (aP E (ac s)).1]) (aP E (ac s)).2 (by omega) (by omega) hn k2
   exact ⟨k3, M + 2, gQ (M + 1) _ _ _ _ _ _ _ _ _ _ _ _ ⟨_, _, _, _, _, _, bD s, _, ho, fun _ => ⟨_, _, _, _, _, _, q, _, _, _, _, _, _, q2, lb M _ _ _ _ _ _ _ _ _ _ _ _ _ hM⟩, fun e => by rw [← hop, c] at e; cases e⟩⟩
  ·rw [if_neg c]
   exact ⟨hk, 1, gQ 0 _ _ _ _ _ _ _ _ _ _ _ _ ⟨_, _, _, _, _, _, bD s, _, ho, fun e => absurd (hop.trans e) c, fun _ => ⟨rfl, rfl, rfl, rfl, rfl, rfl⟩⟩⟩
theorem yL {s : PS} (h : s.toks.length ≤ n) (hn : n ≤ 1000000) (hk : Pk s) : Ag Pex s (gy E s) := by
 unfold gy
 by_cases c1 : (ab s).text = mx
 ·have hne := aT (s := s) (.inl (by rw [c1]; decide))
  have l0 := cn hne
  have l1 := bY 1 1 (ac s)
  have l2 := aw [61] (aL 1 1 (ac s)).2.2
  have l3 := hL (ai [61] (aL 1 1 (ac s)).2.2).2
  have l4 := aw wIn (E (ai [61] (aL 1 1 (ac s)).2.2).2).2
  obtain ⟨q0, k0⟩ := ei hne hk
  obtain ⟨q1, k1⟩ := nl 1 1 k0
  obtain ⟨q2, k2⟩ := dS (x := [61]) (by decide) k1
  obtain ⟨q3, k3⟩ := hE (ai [61] (aL 1 1 (ac s)).2.2).2 (by omega) k2
  obtain ⟨q4, k4⟩ := dS (x := wIn) (by decide) k3
  obtain ⟨q5, k5⟩ := hE (ai wIn (E (ai [61] (aL 1 1 (ac s)).2.2).2).2).2 (by omega) k4
  rw [if_pos c1]
  exact ⟨eZ 0 _ _ _ _ _ _ _ _ _ _ _ ⟨_, _, _, _, _, _, bD s, fun _ => ⟨by decide, _, _, _, _, _, _, q0, _, rfl, _, _, _, _, _, _, _, q1, _, rfl, _, _, _, _, _, _, q2, _, rfl, _, _, _, _, _, _, q3, _, _, _, _, _, _, q4, _, rfl, _, _, _, _, _, _, q5, by simp, rfl, rfl, rfl, rfl, rfl, rfl⟩, fun e => absurd c1 e⟩, k5⟩
 rw [if_neg c1]
 by_cases c2 : (ab s).text = wIf
 ·have hne := aT (s := s) (.inl (by rw [c2]; decide))
  have l0 := cn hne
  have l1 := hL (ac s)
  have l2 := aw dH (E (ac s)).2
  have l3 := hL (ai dH (E (ac s)).2).2
  have l4 := aw ii (E (ai dH (E (ac s)).2).2).2
  obtain ⟨q0, k0⟩ := ei hne hk
  obtain ⟨q1, k1⟩ := hE (ac s) (by omega) k0
  obtain ⟨q2, k2⟩ := dS (x := dH) (by decide) k1
  obtain ⟨q3, k3⟩ := hE (ai dH (E (ac s)).2).2 (by omega) k2
  obtain ⟨q4, k4⟩ := dS (x := ii) (by decide) k3
  obtain ⟨q5, k5⟩ := hE (ai ii (E (ai dH (E (ac s)).2).2).2).2 (by omega) k4
  rw [if_pos c2]
  exact ⟨eZ 0 _ _ _ _ _ _ _ _ _ _ _ ⟨_, _, _, _, _, _, bD s, fun e => absurd e c1, fun _ => ⟨fun _ => ⟨by decide, _, _, _, _, _, _, q0, _, rfl, _, _, _, _, _, _, q1, _, _, _, _, _, _, q2, _, rfl, _, _, _, _, _, _, q3, by simp, _, _, _, _, _, _, q4, _, rfl, _, _, _, _, _, _, q5, by simp, rfl, rfl, rfl, rfl, rfl, rfl⟩, fun e => absurd c2 e⟩⟩, k5⟩
 rw [if_neg c2]
 have l1 := jM hL s
 obtain ⟨q1, k1⟩ := vt hE hL h hn hk
 obtain ⟨k2, M, hM⟩ := yf hE hL ((aP E s).2.toks.length + 1) (aP E s).1 (aP E s).2 (by omega) (by omega) hn k1
 exact ⟨eZ M _ _ _ _ _ _ _ _ _ _ _ ⟨_, _, _, _, _, _, bD s, fun e => absurd e c1, fun _ => ⟨fun e => absurd e c2, fun _ => ⟨_, _, _, _, _, _, q1, hM⟩⟩⟩, k2⟩
end
theorem vP : ∀ (n : Nat), n ≤ 1000000 → ∀ (s : PS), s.toks.length < n → Pk s → Ag Pex s (eD n s)
 | 0, _, s, h, hk => by omega
 | n + 1, hn, s, h, hk => yL (n := n) (fun s hs hk => vP n (by omega) s hs hk) (mI n) (by omega) (by omega) hk
open Go.RowKit Lx
def py : Bool → List UInt8 → Bool
 | c, [] => c
 | c, x :: r => py (if x.toNat = 10 then false else if x.toNat = 35 then true else c) r
theorem jg : ∀ (b : Bool) (l : List UInt8) (n m : Nat), aE b l (n + m) = ((aE b l n).1 + m, (aE b l n).2.map (· + m))
 | b, [], n, m => by cases b <;> simp [aE]
 | false, c :: r, n, m => by
  have h1 := jg false r (n + 1) m
  have h2 := jg true r (n + 1) m
  unfold aE
  split
  ·rw [← h1]; congr 1; omega
  ·split
   ·rw [← h2]; congr 1; omega
   ·simp
 | true, c :: r, n, m => by
  have h1 := jg false r (n + 1) m
  have h2 := jg true r (n + 1) m
  unfold aE
  split
  ·rw [← h1]; congr 1; omega
  ·split
   ·simp
   ·rw [← h2]; congr 1; omega
def iS (c : Bool) (l : List UInt8) : Bool := (aE c l 0).2.isNone && (aE c l 0).1 == l.length
theorem lh {c d : Bool} {x : UInt8} {r : List UInt8} (h : aE c (x :: r) 0 = aE d r 1) : iS c (x :: r) = iS d r := by
 unfold iS
 rw [h, show (1 : Nat) = 0 + 1 from rfl, jg]
 simp
theorem qn : ∀ (l : List UInt8) (c fin : Bool), cS c l fin = (iS c l && (!py c l || fin))
 | [], c, fin => by cases c <;> cases fin <;> rfl
 | x :: r, c, fin => by
  have ih := qn r
  unfold cS py
  cases c with
  | true =>
   by_cases ha : aN x = false
   ·have h10 : ¬ x.toNat = 10 := fun h => by simp [aN, bX, h] at ha
    have : iS true (x :: r) = false := by simp [iS, aE, h10, ha]
    rw [if_pos ha, this]; rfl
   ·have ha' : aN x = true := by simpa using ha
    rw [if_neg ha, if_pos rfl, ih]
    by_cases h10 : x.toNat = 10
    ·rw [lh (d := false) (by simp [aE, h10])]; simp [h10]
    ·have hb : (x.toNat == 10) = false := by simpa using h10
     rw [lh (d := true) (by simp [aE, h10, ha']), hb]; simp [h10]
  | false =>
   by_cases ha : aN x = false
   ·have hw : bX x = false := by cases h : bX x <;> simp_all [aN]
    have h35 : ¬ x.toNat = 35 := fun h => by simp [aN, dR, h] at ha
    have : iS false (x :: r) = false := by simp [iS, aE, hw, h35]
    rw [if_pos ha, this]; rfl
   ·rw [if_neg ha, if_neg (by simp)]
    by_cases h35 : x.toNat = 35
    ·have hw : bX x = false := by simp [bX, h35]
     rw [if_pos h35, ih, lh (d := true) (by simp [aE, h35, hw])]; simp [h35]
    ·rw [if_neg h35]
     by_cases hw : bX x = false
     ·have : iS false (x :: r) = false := by simp [iS, aE, hw, h35]
      rw [if_pos hw, this]; rfl
     ·have hw' : bX x = true := by simpa using hw
      rw [if_neg hw, ih, lh (d := false) (by simp [aE, hw'])]
      by_cases h10 : x.toNat = 10 <;> simp [h10, h35]
theorem rZ {l : List UInt8} {k : Nat} {x : UInt8} {c fin : Bool} (h : k < l.length) (hc : l[k] = x) : cS c (l.drop k) fin =
  if aN x = false then false else if c = true then cS (!(x.toNat == 10)) (l.drop (k + 1)) fin else if x.toNat = 35 then cS true (l.drop (k + 1)) fin else if bX x = false then false else cS c (l.drop (k + 1)) fin := by
 rw [List.drop_eq_getElem_cons h, hc]; rfl
theorem tu {l : List UInt8} {k : Nat} {c fin : Bool} (h : l.length ≤ k) : cS c (l.drop k) fin = (!c || fin) := by
 rw [List.drop_of_length_le h]; rfl
theorem Ay (x : UInt8) : ((x.toNat : Int) != 10) = !(x.toNat == 10) := by rw [Bool.eq_iff_iff]; simp; omega
open Lx
theorem jX (p : UInt8 → Bool) : ∀ (l : List UInt8) (m : Nat), spanN p l ≤ m → spanN p (l.take m) = spanN p l
 | [], m, _ => by simp [spanN]
 | c :: r, 0, h => by
  have : spanN p (c :: r) = 0 := by omega
  rw [this]; simp [spanN]
 | c :: r, m + 1, h => by
  unfold spanN at *
  simp only [List.take_succ_cons, List.takeWhile_cons] at *
  split at h
  ·rename_i hp
   simp only [hp, if_true, List.length_cons] at *
   have := jX p r m (by unfold spanN; omega)
   unfold spanN at this
   omega
  ·rename_i hp; simp [hp]
theorem hW (l : List UInt8) (m k : Nat) (h : k < m) : (l.take m).getD k 0 = l.getD k 0 := by
 simp only [List.getD]
 rw [List.getElem?_take_of_lt h]
theorem oz {c : UInt8} (h : bj c = true) : aU c = true := by simp [aU, h]
theorem re {l : List UInt8} (h : cb l = true) : upperB (l.getD 0 0) = true ∧ gk (l.take (spanN aU l)) = false ∧ spanN aU l + 1 < l.length ∧ (l.getD (spanN aU l) 0).toNat = 46 ∧ bj (l.getD (spanN aU l + 1) 0) = true := by
 unfold cb at h
 simp only [Bool.and_eq_true, decide_eq_true_eq, beq_iff_eq, Bool.not_eq_true'] at h
 obtain ⟨⟨⟨⟨h1, h2⟩, h3⟩, h4⟩, h5⟩ := h
 exact ⟨h1, h2, h3, h4, h5⟩
theorem tB {l : List UInt8} {n : Nat} (hn : spanN aU l = n) (h1 : upperB (l.getD 0 0) = true) (h2 : gk (l.take n) = false) (h3 : n + 1 < l.length) (h4 : (l.getD n 0).toNat = 46) (h5 : bj (l.getD (n + 1) 0) = true) : cb l = true := by
 subst hn
 unfold cb
 rw [h1, h2, h5]
 simp [h3, h4, -List.getD_eq_getElem?_getD]
theorem vd {l : List UInt8} {k m : Nat} (h0 : 0 < l.length) (hc : bj (l.getD 0 0) = true) (h : bQ l = (k, m, 0)) : bQ (l.take m) = (k, m, 0) := by
 have hpos : 0 < spanN aU l := jQ h0 (oz hc)
 have hle := gq aU l
 unfold bQ at h
 by_cases hcond : cb l = true
 ·rw [if_pos hcond] at h
  obtain ⟨c1, c2, c3, c4, c5⟩ := re hcond
  generalize hn : spanN aU l = n at *
  generalize hm' : spanN aU (l.drop (n + 1)) = m' at *
  have hm0 : 0 < m' := by rw [← hm']; exact jQ (by simp; omega) (by rw [mN]; exact oz c5)
  have hm : m = n + 1 + m' := by
   unfold dC at h
   split at h
   ·simp at h
   ·split at h
    ·simp at h
    ·split at h <;> (simp at h; omega)
  have hml : n + 1 + m' ≤ l.length := by have := gq aU (l.drop (n + 1)); rw [hm'] at this; simp at this; omega
  have e1 : spanN aU (l.take m) = n := by rw [jX _ _ _ (by omega), hn]
  have e2 : (l.take m).take n = l.take n := by rw [List.take_take]; congr 1; omega
  have hc' : cb (l.take m) = true := tB e1 (by rw [hW _ _ _ (by omega)]; exact c1) (by rw [e2]; exact c2) (by simp; omega) (by rw [hW _ _ _ (by omega)]; exact c4) (by rw [hW _ _ _ (by omega)]; exact c5)
  have e3 : spanN aU ((l.take m).drop (n + 1)) = m' := by rw [List.drop_take, jX _ _ _ (by omega), hm']
  rw [oF e1 e3 hc', ← h]
  unfold dC
  rw [List.drop_take, List.take_take, hW _ _ _ (by omega)]
  have : min m' (m - (n + 1)) = m' := by omega
  rw [this]
 ·rw [if_neg hcond] at h
  generalize hn : spanN aU l = n at *
  have hm : m = n := by
   unfold bO at h
   split at h
   ·simp at h
   ·split at h
    ·simp at h; omega
    ·split at h <;> (simp at h; omega)
  subst hm
  have e1 : spanN aU (l.take m) = m := by rw [jX _ _ _ (by omega), hn]
  have hc' : cb (l.take m) = false := tf e1 (by simp; omega)
  rw [fS e1 hc', ← h]
  unfold bO
  rw [List.take_take, hW _ _ _ (by omega), Nat.min_self]
theorem oD : ∀ (r : List UInt8) (i m : Nat), quotedT r i = (i + m, 0) → quotedT (r.take m) i = (i + m, 0)
 | [], i, m, h => by simp [quotedT] at h
 | c :: r, i, 0, h => by
  have := (ni (c :: r) i).2 (by rw [h])
  rw [h] at this
  simp at this
 | c :: r, i, m + 1, h => by
  simp only [List.take_succ_cons]
  unfold quotedT at h ⊢
  split
  ·rename_i ha; rw [if_pos ha] at h; simp at h
  ·rename_i ha; rw [if_neg ha] at h
   split
   ·rename_i hq; rw [if_pos hq] at h; simpa using h
   ·rename_i hq; rw [if_neg hq] at h
    split
    ·rename_i hb; rw [if_pos hb] at h; simp at h
    ·rename_i hb; rw [if_neg hb] at h
     have := oD r (i + 1) m (by rw [h]; congr 1; omega)
     rw [this]; congr 1; omega
theorem sY {l : List UInt8} {m : Nat} (h0 : 0 < spanN bx l) (h : dn l = (m, 0)) : dn (l.take m) = (m, 0) := by
 have hn : m = spanN bx l := by
  unfold dn at h
  simp only at h
  split at h
  ·simp at h
  ·split at h
   ·simp at h
   ·simpa using h.symm
 subst hn
 have e1 : spanN bx (l.take (spanN bx l)) = spanN bx l := jX _ _ _ (Nat.le_refl _)
 unfold dn at h ⊢
 rw [e1, hW _ _ _ h0]
 exact h
theorem tq {l : List UInt8} {k m : Nat} (h0 : 0 < l.length) (h : tokenT l = (k, m, 0)) : tokenT (l.take m) = (k, m, 0) := by
 have hlen := jW h0
 rw [h] at hlen
 simp only at hlen
 have hm0 : 0 < m := hlen.2 trivial
 have hg : (l.take m).getD 0 0 = l.getD 0 0 := hW _ _ _ hm0
 have ht0 : 0 < (l.take m).length := by simp; omega
 have hpos : 0 < l.length := h0
 unfold tokenT at h ⊢
 simp only at h ⊢
 rw [hg]
 by_cases ha : aN (l.getD 0 0) = false
 ·rw [if_pos ha] at h; simp at h
 rw [if_neg ha] at h ⊢
 by_cases hl : bj (l.getD 0 0) = true
 ·rw [if_pos hl] at h ⊢; exact vd h0 hl h
 rw [if_neg hl] at h ⊢
 by_cases hd : bx (l.getD 0 0) = true
 ·rw [if_pos hd] at h ⊢
  simp only [Prod.mk.injEq] at h
  rw [sY (m := m) (jQ h0 hd) h.2, h.1]
 rw [if_neg hd] at h ⊢
 by_cases hq : (l.getD 0 0).toNat = 34
 ·rw [if_pos hq] at h ⊢
  simp only [Prod.mk.injEq] at h
  have hr : quotedT l.tail 1 = (m, 0) := h.2
  have e : (l.take m).tail = l.tail.take (m - 1) := by
   cases l with
   | nil => simp
   | cons c r => obtain ⟨m', rfl⟩ : ∃ m', m = m' + 1 := ⟨m - 1, by omega⟩; simp
  rw [e, oD l.tail 1 (m - 1) (by rw [hr]; congr 1; omega), h.1]
  congr 2; omega
 rw [if_neg hq] at h ⊢
 by_cases he : (l.getD 0 0).toNat = 61 ∧ 1 < l.length ∧ (l.getD 1 0).toNat = 61
 ·rw [if_pos he] at h
  simp only [Prod.mk.injEq] at h
  obtain ⟨rfl, rfl, _⟩ := h
  rw [if_pos ⟨he.1, by simp; omega, by rw [hW _ _ _ (by omega)]; exact he.2.2⟩]
 ·rw [if_neg he] at h
  by_cases hs : signs.contains (l.getD 0 0) = true
  ·rw [if_pos hs] at h
   simp only [Prod.mk.injEq] at h
   obtain ⟨rfl, rfl, _⟩ := h
   rw [if_neg (by intro hh; have := hh.2.1; simp at this; omega), if_pos hs]
  ·rw [if_neg hs] at h; simp at h
theorem ve {l : List UInt8} {k m : Nat} (h : bQ l = (k, m, 0)) : k ≠ 0 := by
 unfold bQ at h
 split at h
 ·unfold dC at h
  split at h
  ·simp at h
  ·split at h
   ·simp at h
   ·split at h <;> (simp at h; omega)
 ·unfold bO at h
  split at h
  ·simp at h
  ·split at h
   ·simp at h; omega
   ·split at h <;> (simp at h; omega)
theorem tA {l : List UInt8} {k m : Nat} (h : tokenT l = (k, m, 0)) : k ≠ 0 := by
 unfold tokenT at h
 simp only at h
 split at h
 ·simp at h
 split at h
 ·exact ve h
 split at h
 ·simp at h; omega
 split at h
 ·simp at h; omega
 split at h
 ·simp at h; omega
 split at h
 ·simp at h; omega
 ·simp at h
theorem rg {l : List UInt8} {k m : Nat} (h0 : 0 < l.length) (h : tokenT l = (k, m, 0)) : bm (l.take m) = k := by
 have hlen := jW h0
 rw [h] at hlen
 simp only at hlen
 have hm0 : 0 < m := hlen.2 trivial
 have ht := tq h0 h
 have hne : l.take m ≠ [] := by intro e; have := congrArg List.length e; simp only [List.length_take, List.length_nil] at this; omega
 unfold bm
 rw [if_neg hne, ht, if_pos ⟨rfl, by simp; omega⟩]
theorem rk : ∀ (l : List UInt8) (c : Bool) (n : Nat), aE c l 0 = (n, none) → n < l.length → cS c (l.take n) false = true
 | [], c, n, h, hn => by simp at hn
 | x :: r, c, n, h, hn => by
  have ih := rk r
  have step : ∀ d : Bool, aE c (x :: r) 0 = aE d r 1 → ∃ n', n = n' + 1 ∧ aE d r 0 = (n', none) ∧ n' < r.length := fun d hd => by
   rw [hd, show (1 : Nat) = 0 + 1 from rfl, jg] at h
   simp only [Prod.mk.injEq, Option.map_eq_none_iff] at h
   refine ⟨(aE d r 0).1, h.1.symm, ?_, ?_⟩
   ·rw [← h.2]
   ·simp only [List.length_cons] at hn; omega
  cases c with
  | false =>
   by_cases hw : bX x = true
   ·obtain ⟨n', rfl, h1, h2⟩ := step false (by simp [aE, hw])
    have ha : aN x = true := by simp [aN, hw]
    have h35 : ¬ x.toNat = 35 := fun e => by simp [bX, e] at hw
    simp only [List.take_succ_cons, cS]
    rw [if_neg (by simp [ha]), if_neg (by simp), if_neg h35, if_neg (by simp [hw])]
    exact ih false n' h1 h2
   ·by_cases h35 : x.toNat = 35
    ·obtain ⟨n', rfl, h1, h2⟩ := step true (by simp [aE, hw, h35])
     have ha : aN x = true := by simp [aN, dR, h35]
     simp only [List.take_succ_cons, cS]
     rw [if_neg (by simp [ha]), if_neg (by simp), if_pos h35]
     exact ih true n' h1 h2
    ·have : aE false (x :: r) 0 = (0, none) := by simp [aE, hw, h35]
     rw [this] at h
     simp only [Prod.mk.injEq] at h
     rw [← h.1]; rfl
  | true =>
   by_cases h10 : x.toNat = 10
   ·obtain ⟨n', rfl, h1, h2⟩ := step false (by simp [aE, h10])
    have ha : aN x = true := by simp [aN, bX, h10]
    simp only [List.take_succ_cons, cS]
    rw [if_neg (by simp [ha]), if_pos trivial]
    simp only [h10, beq_self_eq_true, Bool.not_true]
    exact ih false n' h1 h2
   ·by_cases ha : aN x = true
    ·obtain ⟨n', rfl, h1, h2⟩ := step true (by simp [aE, h10, ha])
     simp only [List.take_succ_cons, cS]
     rw [if_neg (by simp [ha]), if_pos trivial]
     have : (!(x.toNat == 10)) = true := by simp [h10]
     rw [this]
     exact ih true n' h1 h2
    ·have : aE true (x :: r) 0 = (0, some 0) := by simp [aE, h10, ha]
     rw [this] at h
     simp at h
def tL (t : TokZ) : Prop := (bm t.text : Int) = t.kind ∧ t.kind ≠ 0 ∧ cS false t.lead false = true
theorem pf : ∀ (f : Nat) (l : List UInt8) (pos : Nat) (acc : List TokZ), l.length < f → (scanT f l pos acc).err = 0 →
  ∃ ts, (scanT f l pos acc).toks = acc ++ ts ∧ nS ts (scanT f l pos acc).tail = l ∧ (∀ t ∈ ts, tL t) ∧ cS false (scanT f l pos acc).tail true = true ∧ ts.length ≤ l.length
 | 0, l, pos, acc, hf, _ => by omega
 | f + 1, l, pos, acc, hf, he => by
  obtain ⟨n, b, hLd⟩ : ∃ n b, aE false l 0 = (n, b) := ⟨_, _, rfl⟩
  cases b with
  | some q => rw [oH hLd] at he; simp at he
  | none =>
   by_cases hn : n = l.length
   ·rw [mP hLd hn] at he ⊢
    refine ⟨[], by simp, rfl, by simp, ?_, by simp⟩
    rw [qn]
    simp [iS, hLd, hn]
   ·have hnl : n < l.length := by have h := kX false l 0; rw [hLd] at h; simp at h; omega
    have hd0 : 0 < (l.drop n).length := by simp; omega
    obtain ⟨k, m, e, hT⟩ : ∃ k m e, tokenT (l.drop n) = (k, m, e) := ⟨_, _, _, rfl⟩
    by_cases he0 : e = 0
    ·subst he0
     have hlen := jW hd0
     rw [hT] at hlen
     simp only [List.length_drop] at hlen
     have hm0 := hlen.2 trivial
     rw [oJ hLd hn hT] at he ⊢
     obtain ⟨ts, h1, h2, h3, h4, h5⟩ := pf f (l.drop (n + m)) (pos + n + m) (acc ++ [⟨k, l.take n, (l.drop n).take m⟩]) (by simp; omega) he
     refine ⟨⟨k, l.take n, (l.drop n).take m⟩ :: ts, by rw [h1]; simp, ?_, ?_, h4, by simp at h5 ⊢; omega⟩
     ·simp only [nS]
      rw [h2, ← List.drop_drop, List.append_assoc, List.take_append_drop, List.take_append_drop]
     ·intro t ht
      rcases List.mem_cons.1 ht with rfl | ht
      ·refine ⟨?_, ?_, rk l false n hLd hnl⟩
       ·simp only; rw [rg hd0 hT]
       ·simp only; have := tA hT; omega
      ·exact h3 t ht
    ·rw [oG hLd hn hT he0] at he; simp only at he; omega
theorem qp {l : List UInt8} (h : (scan l).err = 0) : nS (scan l).toks (scan l).tail = l ∧ (∀ t ∈ (scan l).toks, tL t) ∧ cS false (scan l).tail true = true ∧ (scan l).toks.length ≤ l.length ∧ l.length ≤ 4096 := by
 unfold scan at h ⊢
 by_cases h4 : 4096 < l.length
 ·rw [if_pos h4] at h; simp at h
 ·rw [if_neg h4] at h ⊢
  obtain ⟨ts, h1, h2, h3, h4', h5⟩ := pf _ l 0 [] (Nat.lt_succ_self _) h
  rw [List.nil_append] at h1
  rw [h1]
  exact ⟨h2, h3, h4', h5, by omega⟩
mutual
def depK : Tree → Nat
 | .node _ _ _ ks => depKs ks + 1
def depKs : List Tree → Nat
 | [] => 0
 | t :: r => max (depK t) (depKs r)
end
theorem yB (t : Tree) : depK t = depKs t.kids + 1 := by cases t; simp only [depK]; rfl
mutual
def cntK : Tree → Nat
 | .node _ _ _ ks => cntKs ks + 1
def cntKs : List Tree → Nat
 | [] => 0
 | t :: r => cntK t + cntKs r
end
theorem oW (t : Tree) : cntK t = cntKs t.kids + 1 := by cases t; simp only [cntK]; rfl
theorem tR : ∀ ks : List Tree, ks.length ≤ cntKs ks
 | [] => Nat.le_refl _
 | t :: r => by have := tR r; have := oW t; simp only [cntKs, List.length_cons]; omega
theorem oS : ∀ {ks : List Tree} {i : Nat} {u : Tree}, ks[i]? = some u → cntK u ≤ cntKs ks
 | [], i, t, h => by simp at h
 | u :: r, 0, t, h => by simp only [List.getElem?_cons_zero, Option.some.injEq] at h; subst h; simp only [cntKs]; omega
 | u :: r, i + 1, t, h => by have := oS (ks := r) (i := i) (by simpa using h); simp only [cntKs]; omega
mutual
theorem dep_cnt : ∀ t : Tree, depK t ≤ cntK t
 | .node _ _ _ ks => by have := dep_cnts ks; simp only [cntK, depK]; omega
theorem dep_cnts : ∀ ks : List Tree, depKs ks ≤ cntKs ks
 | [] => Nat.le_refl _
 | t :: r => by have := dep_cnt t; have := dep_cnts r; simp only [cntKs, depKs]; omega
end
theorem tI {L : Nat → Tree → Int → Nat → Int → Prop} {S : Tree → Int → Prop} (t : Tree) (ht : cntK t ≤ 1000000000) (hS : ∀ (i : Nat) (u : Tree), t.kids[i]? = some u → S u (depK u))
  (r : ∀ m (z : Int) (i : Nat) (x : Int), ((i < t.kids.length) → ∃ u, t.kids[i]? = some u ∧ ∃ n, S u n ∧ i + 1 ≤ 9223372036854775807 ∧ L m t (max z n) (i + 1) x) ∧ ((¬ i < t.kids.length) → InI (z + 1) ∧ z + 1 = x) → L (m + 1) t z i x) : ∃ m, L m t 0 0 (depK t) := by
 have hc := oW t
 have hl := tR t.kids
 have hd := dep_cnts t.kids
 have loop : ∀ k i (z : Nat), t.kids.length - i ≤ k → z ≤ 1000000000 → L (k + 1) t z i ((max z (depKs (t.kids.drop i)) + 1 : Nat) : Int) := fun k => by
  have fin : ∀ m i (z : Nat), ¬ i < t.kids.length → z ≤ 1000000000 → L (m + 1) t z i ((max z (depKs (t.kids.drop i)) + 1 : Nat) : Int) := fun m i z hi hz => r m _ _ _ ⟨fun h => absurd h hi, fun _ => ⟨by constructor <;> omega, by rw [List.drop_of_length_le (by omega)]; simp only [depKs]; omega⟩⟩
  induction k with
  | zero => intro i z hi hz; exact fin 0 i z (by omega) hz
  | succ k ihk =>
   intro i z hi hz
   obtain ⟨u, hu, hul⟩ | h' := lA t.kids i
   ·have h1 := oS hu
    have h2 := dep_cnt u
    have := ihk (i + 1) (max z (depK u)) (by omega) (by omega)
    refine r (k + 1) _ _ _ ⟨fun _ => ⟨u, hu, _, hS i u hu, by omega, ?_⟩, fun h => absurd hul h⟩
    rw [kP hu, depKs]
    rw [show max ((z : Nat) : Int) ((depK u : Nat) : Int) = ((max z (depK u) : Nat) : Int) by omega, ← Nat.max_assoc]
    exact this
   ·exact fin _ i z h' hz
 have := loop t.kids.length 0 0 (by omega) (by omega)
 rw [List.drop_zero, Nat.zero_max, ← yB] at this
 exact ⟨_, this⟩
theorem wE : ∀ t : Tree, cntK t ≤ 1000000000 → gN t (depK t) := kK fun t ih ht => by
 have hc := oW t
 obtain ⟨m, hm⟩ := tI (L := iR) (S := gN) t ht (fun i u hu => ih i u hu (by have := oS hu; omega)) (fun m z i x h => pT m t z i x h)
 exact qG m _ _ hm
theorem lp : ∀ (a b : List Tree), cntKs (a ++ b) = cntKs a + cntKs b
 | [], b => by simp [cntKs]
 | t :: r, b => by simp only [List.cons_append, cntKs, lp r b]; omega
theorem nY : ∀ (n : Nat) (s : PS), cntK (gd n s).1 + 30 * (gd n s).2.toks.length ≤ 30 * s.toks.length + 8
 | 0, s => by
  show cntKs [] + 1 + 30 * s.toks.length ≤ _
  simp only [cntKs]; omega
 | n + 1, s => by
  have h0 := gp s
  have h1 := bY 2 4 s
  have h2 := aw [93] (gd n (ac s)).2
  have h3 := nY n (ac s)
  unfold gd
  split
  ·simp only [cntK, cntKs]; omega
  split
  ·simp only [cntK, cntKs]; omega
  split
  ·simp only [cntK, cntKs]; omega
  split
  ·rename_i h
   have := cn (aT (s := s) (.inl (by rw [h]; decide)))
   simp only [cntK, cntKs]; omega
  ·simp only [cntK, cntKs]; omega
theorem uD (n : Nat) (s : PS) : cntK (aQ n s).1 + 30 * (aQ n s).2.toks.length ≤ 30 * s.toks.length + 10 := by
 have h1 := bY 1 1 s
 have h2 := aw [58] (aL 1 1 s).2.2
 have h3 := nY n (ai [58] (aL 1 1 s).2.2).2
 simp only [aQ, cntK, cntKs]; omega
theorem oa {item : PS → Tree × PS} (h : ∀ s, cntK (item s).1 + 30 * (item s).2.toks.length ≤ 30 * s.toks.length + 10) {most : Nat} {beg : TokZ → Bool} : ∀ (m : Nat) (cs : List (List UInt8)) (ks : List Tree) (s : PS), cntKs (commaF item most beg m cs ks s).2.1 + 30 * (commaF item most beg m cs ks s).2.2.toks.length ≤ cntKs ks + 30 * s.toks.length
 | 0, cs, ks, s => Nat.le_refl _
 | m + 1, cs, ks, s => by
  by_cases h1 : (ab s).text = [44]
  ·have e : commaF item most beg (m + 1) cs ks s = commaF item most beg m (cs ++ [(ab s).lead]) (ks ++ [(item (cmS most beg ks s)).1]) (item (cmS most beg ks s)).2 := by
    rw [commaF, if_pos h1]; rfl
   have h0 := cn (aT (s := s) (.inl (by rw [h1]; decide)))
   have h2 : (cmS most beg ks s).toks.length ≤ (ac s).toks.length := by
    unfold cmS
    split
    ·exact ep 3 _
    ·exact Nat.le_refl _
   have h3 := h (cmS most beg ks s)
   have h4 := oa h (most := most) (beg := beg) m (cs ++ [(ab s).lead]) (ks ++ [(item (cmS most beg ks s)).1]) (item (cmS most beg ks s)).2
   rw [lp] at h4
   simp only [cntKs] at h4
   rw [e]; omega
  ·rw [commaF, if_neg h1]; exact Nat.le_refl _
theorem sN {item : PS → Tree × PS} (h : ∀ s, cntK (item s).1 + 30 * (item s).2.toks.length ≤ 30 * s.toks.length + 10) {most : Nat} {beg : TokZ → Bool} (s : PS) : cntKs (cJ item most beg s).2.1 + 30 * (cJ item most beg s).2.2.toks.length ≤ 30 * s.toks.length + 10 := by
 unfold cJ
 split
 ·simp only [cntKs]; omega
 ·have h1 := h s
  have h2 := oa h (most := most) (beg := beg) ((item s).2.toks.length + 1) [] [(item s).1] (item s).2
  simp only [cntKs] at h2
  omega
section
variable {E : PS → Tree × PS} (h : ∀ s, cntK (E s).1 + 30 * (E s).2.toks.length ≤ 30 * s.toks.length + 8)
include h
theorem wX (s : PS) : cntK (cy E s).1 + 30 * (cy E s).2.toks.length ≤ 30 * s.toks.length + 10 := by
 have := h s
 simp only [cy, cntK, cntKs]; omega
theorem rq (s : PS) : cntK (aP E s).1 + 30 * (aP E s).2.toks.length ≤ 30 * s.toks.length + 8 := by
 have h0 := gp s
 have hf := ep 2 s
 have leaf : ∀ (k : Int) (x : List UInt8) (l : List (List UInt8)), cntK (.node k x l []) + 30 * (ac s).toks.length ≤ 30 * s.toks.length + 8 := fun k x l => by simp only [cntK, cntKs]; omega
 unfold aP
 simp only
 split
 ·rename_i h1
  have ht := cn (aT (s := s) (.inr (by omega)))
  unfold jb
  split
  ·exact leaf _ _ _
  ·have e1 := aw [40] (ac s)
   have e2 := sN (wX h) (most := 8) (beg := aA) (ai [40] (ac s)).2
   have e3 := aw [41] (cJ (cy E) 8 aA (ai [40] (ac s)).2).2.2
   simp only [cntK]; omega
 split
 ·exact leaf _ _ _
 split
 ·exact leaf _ _ _
 split
 ·exact leaf _ _ _
 split
 ·rename_i h4
  have e1 := kR (x := [91]) (by decide) h4
  have e2 := h (ai [91] s).2
  have e3 := oa (item := E) (fun s => Nat.le_trans (h s) (by omega)) (most := 16) (beg := aA) ((E (ai [91] s).2).2.toks.length + 1) [] [(E (ai [91] s).2).1] (E (ai [91] s).2).2
  have e4 := aw [93] (commaF E 16 aA ((E (ai [91] s).2).2.toks.length + 1) [] [(E (ai [91] s).2).1] (E (ai [91] s).2).2).2.2
  simp only [cntKs] at e3
  simp only [mJ, cntK]; omega
 split
 ·rename_i h5
  have ht := cn (aT (s := s) (.inl (by rw [h5]; decide)))
  have e1 := h (ac s)
  have e2 := aw [41] (E (ac s)).2
  simp only [qx, cntK, cntKs]; omega
 split
 ·exact leaf _ _ _
 split
 ·exact leaf _ _ _
 ·show cntKs [] + 1 + _ ≤ _
  simp only [cntKs]; omega
theorem rY : ∀ (m : Nat) (t : Tree) (s : PS), cntK (ff (aP E) m t s).1 + 30 * (ff (aP E) m t s).2.toks.length ≤ cntK t + 30 * s.toks.length
 | 0, t, s => Nat.le_refl _
 | m + 1, t, s => by
  rw [ff]
  split
  ·rename_i c
   have ht := cn (aT (s := s) (.inl (fun e => by rw [e] at c; revert c; decide)))
   have e1 := rq h (ac s)
   have e2 := rY m (.node 21 (ab s).text [(ab s).lead] [t, (aP E (ac s)).1]) (aP E (ac s)).2
   simp only [cntK, cntKs] at e2
   omega
  ·exact Nat.le_refl _
theorem vX (s : PS) : cntK (gy E s).1 + 30 * (gy E s).2.toks.length ≤ 30 * s.toks.length + 8 := by
 unfold gy
 split
 ·rename_i c
  have ht := cn (aT (s := s) (.inl (by rw [c]; decide)))
  have l1 := bY 1 1 (ac s)
  have l2 := aw [61] (aL 1 1 (ac s)).2.2
  have e1 := h (ai [61] (aL 1 1 (ac s)).2.2).2
  have l4 := aw wIn (E (ai [61] (aL 1 1 (ac s)).2.2).2).2
  have e2 := h (ai wIn (E (ai [61] (aL 1 1 (ac s)).2.2).2).2).2
  simp only [uy, cntK, cntKs]; omega
 split
 ·rename_i c
  have ht := cn (aT (s := s) (.inl (by rw [c]; decide)))
  have e1 := h (ac s)
  have l2 := aw dH (E (ac s)).2
  have e2 := h (ai dH (E (ac s)).2).2
  have l4 := aw ii (E (ai dH (E (ac s)).2).2).2
  have e3 := h (ai ii (E (ai dH (E (ac s)).2).2).2).2
  simp only [ifF, cntK, cntKs]; omega
 ·have e1 := rq h s
  have e2 := rY h ((aP E s).2.toks.length + 1) (aP E s).1 (aP E s).2
  omega
end
theorem rG : ∀ (n : Nat) (s : PS), cntK (eD n s).1 + 30 * (eD n s).2.toks.length ≤ 30 * s.toks.length + 8
 | 0, s => by
  show cntKs [] + 1 + 30 * s.toks.length ≤ _
  simp only [cntKs]; omega
 | n + 1, s => vX (rG n) s
theorem rJ {n : Nat} {s : PS} (hd : (ab s).text = dQ) : cntK (bI n s).1 + 30 * (bI n s).2.toks.length ≤ 30 * s.toks.length := by
 have l0 := kR (x := dQ) (by decide) hd
 obtain ⟨a, ea⟩ : ∃ a, a = ai dQ s := ⟨_, rfl⟩
 obtain ⟨b, eb⟩ : ∃ b, b = aL 1 1 a.2 := ⟨_, rfl⟩
 obtain ⟨c, ec⟩ : ∃ c, c = ai [40] b.2.2 := ⟨_, rfl⟩
 obtain ⟨r, er⟩ : ∃ r, r = cJ (aQ n) 8 (fun t => t.kind == 1) c.2 := ⟨_, rfl⟩
 obtain ⟨d, ed⟩ : ∃ d, d = ai [41] r.2.2 := ⟨_, rfl⟩
 obtain ⟨e, ee⟩ : ∃ e, e = ai [58] d.2 := ⟨_, rfl⟩
 obtain ⟨t, et⟩ : ∃ t, t = gd n e.2 := ⟨_, rfl⟩
 obtain ⟨g, eg⟩ : ∃ g, g = ai [61] t.2 := ⟨_, rfl⟩
 obtain ⟨x, ex⟩ : ∃ x, x = eD n g.2 := ⟨_, rfl⟩
 have ef : bI n s = (.node 2 b.1 ([a.1, b.2.1, c.1, d.1, e.1, g.1] ++ r.1) (r.2.1 ++ [t.1, x.1]), x.2) := by rw [ex, eg, et, ee, ed, er, ec, eb, ea]; rfl
 have l1 := bY 1 1 a.2
 have l2 := aw [40] b.2.2
 have l3 := sN (uD n) (most := 8) (beg := fun t => t.kind == 1) c.2
 have l4 := aw [41] r.2.2
 have l5 := aw [58] d.2
 have l6 := nY n e.2
 have l7 := aw [61] t.2
 have l8 := rG n g.2
 rw [← ea] at l0
 rw [← eb] at l1
 rw [← ec] at l2
 rw [← er] at l3
 rw [← ed] at l4
 rw [← ee] at l5
 rw [← et] at l6
 rw [← eg] at l7
 rw [← ex] at l8
 rw [ef]
 simp only [cntK, lp, cntKs]; omega
theorem uN {n : Nat} {s : PS} (hd : (ab s).text = cz) : cntK (fh n s).1 + 30 * (fh n s).2.toks.length ≤ 30 * s.toks.length := by
 have l0 := kR (x := cz) (by decide) hd
 have l1 := bY 2 2 (ai cz s).2
 have l2 := aw [61] (aL 2 2 (ai cz s).2).2.2
 have l3 := nY n (ai [61] (aL 2 2 (ai cz s).2).2.2).2
 simp only [fh, cntK, cntKs]; omega
theorem lr {n : Nat} : ∀ (m : Nat) (ks : List Tree) (s : PS), cntKs (cD n m ks s).1 ≤ cntKs ks + 30 * s.toks.length
 | 0, ks, s => Nat.le_add_right _ _
 | m + 1, ks, s => by
  have hf := fun e => ep e s
  rw [cD]
  split
  ·exact Nat.le_add_right _ _
  split
  ·have := lr (n := n) m ks (aV 2 s); have := hf 2; omega
  split
  ·have := lr (n := n) m ks (aV 3 s); have := hf 3; omega
  split
  ·rename_i hd
   have h1 := rJ (n := n) hd
   have h2 := lr (n := n) m (ks ++ [(bI n s).1]) (bI n s).2
   rw [lp] at h2
   simp only [cntKs] at h2
   omega
  ·rename_i h1 h2 h3 hd
   have hd' : (ab s).text = cz := Classical.byContradiction fun e => h2 ⟨hd, e⟩
   have h1 := uN (n := n) hd'
   have h2 := lr (n := n) m (ks ++ [(fh n s).1]) (fh n s).2
   rw [lp] at h2
   simp only [cntKs] at h2
   omega
mutual
theorem depthT_K : ∀ t : Tree, depthT t = depK t
 | .node _ _ _ ks => by simp only [depthT, depK, depthsT_K ks]
theorem depthsT_K : ∀ ks : List Tree, depthsT ks = depKs ks
 | [] => rfl
 | t :: r => by simp only [depthsT, depKs, depthT_K t, depthsT_K r]
end
abbrev Pfu := fun (a : List GToken) (o s f z : Int) (x : Tree) (b : List GToken) (o' s' f' z' : Int) => fT a o s f z x b o' s' f' z'
theorem vk {n : Nat} {s : PS} (h : s.toks.length < n) (hn : n ≤ 1000000) (hk : Pk s) : Ag Pfu s (bI n s) := by
 obtain ⟨a, ea⟩ : ∃ a, a = ai dQ s := ⟨_, rfl⟩
 obtain ⟨b, eb⟩ : ∃ b, b = aL 1 1 a.2 := ⟨_, rfl⟩
 obtain ⟨c, ec⟩ : ∃ c, c = ai [40] b.2.2 := ⟨_, rfl⟩
 obtain ⟨r, er⟩ : ∃ r, r = cJ (aQ n) 8 (fun t => t.kind == 1) c.2 := ⟨_, rfl⟩
 obtain ⟨d, ed⟩ : ∃ d, d = ai [41] r.2.2 := ⟨_, rfl⟩
 obtain ⟨e, ee⟩ : ∃ e, e = ai [58] d.2 := ⟨_, rfl⟩
 obtain ⟨t, et⟩ : ∃ t, t = gd n e.2 := ⟨_, rfl⟩
 obtain ⟨g, eg⟩ : ∃ g, g = ai [61] t.2 := ⟨_, rfl⟩
 obtain ⟨x, ex⟩ : ∃ x, x = eD n g.2 := ⟨_, rfl⟩
 have ef : bI n s = (.node 2 b.1 ([a.1, b.2.1, c.1, d.1, e.1, g.1] ++ r.1) (r.2.1 ++ [t.1, x.1]), x.2) := by rw [ex, eg, et, ee, ed, er, ec, eb, ea]; rfl
 have l0 := aw dQ s
 have l1 := bY 1 1 a.2
 have l2 := aw [40] b.2.2
 have l3 := nD (item := aQ n) (ig n) (most := 8) (beg := fun t => t.kind == 1) c.2
 have l4 := aw [41] r.2.2
 have l5 := aw [58] d.2
 have l6 := kZ n e.2
 have l7 := aw [61] t.2
 obtain ⟨q0, k0⟩ := dS (x := dQ) (by decide) hk
 rw [← ea] at l0 q0 k0
 obtain ⟨q1, k1⟩ := nl 1 1 k0
 rw [← eb] at l1 q1 k1
 obtain ⟨q2, k2⟩ := dS (x := [40]) (by decide) k1
 simp only at q2 k2
 rw [← ec] at l2 q2 k2
 rw [← er] at l3
 rw [← ed] at l4
 rw [← ee] at l5
 rw [← et] at l6
 rw [← eg] at l7
 have tail : Pk r.2.2 → r.2.1.length ≤ 1000000 → (Ag (Pw [41]) r.2.2 d ∧ Ag (Pw [58]) d.2 e ∧ Ag Pty e.2 t ∧ Ag (Pw [61]) t.2 g ∧ Ag Pex g.2 x) := fun kr _ => by
  have q4 := dS (x := [41]) (by decide) kr
  rw [← ed] at q4
  have q5 := dS (x := [58]) (by decide) q4.2
  rw [← ee] at q5
  have q6 := rV n e.2 (by omega) q5.2
  rw [← et] at q6
  have q7 := dS (x := [61]) (by decide) q6.2
  rw [← eg] at q7
  have q8 := vP n hn g.2 (by omega) q7.2
  rw [← ex] at q8
  exact ⟨q4, q5, q6, q7, q8⟩
 rw [ef]
 by_cases hc : (ab c.2).text = [41]
 ·have er' : r = ([], [], c.2) := by rw [er]; unfold cJ; rw [if_pos hc]
  obtain ⟨⟨q4, _⟩, ⟨q5, _⟩, ⟨q6, _⟩, ⟨q7, _⟩, q8, k8⟩ := tail (by rw [er']; exact k2) (by rw [er']; simp)
  rw [er'] at q4 ⊢
  exact ⟨iE 0 _ _ _ _ _ _ _ _ _ _ _ ⟨by decide, _, _, _, _, _, _, q0, _, rfl, _, _, _, _, _, _, _, q1, _, rfl, _, _, _, _, _, _, q2, _, rfl, _, _, _, _, _, _, bD c.2, fun h => absurd hc h, fun _ => ⟨_, _, _, _, _, _, q4, _, rfl, _, _, _, _, _, _, q5, _, rfl, _, _, _, _, _, _, q6, _, _, _, _, _, _, q7, _, rfl, _, _, _, _, _, _, q8, by simp, rfl, rfl, rfl, rfl, rfl, rfl⟩⟩, k8⟩
 ·have er' : r = commaF (aQ n) 8 (fun t => t.kind == 1) ((aQ n c.2).2.toks.length + 1) [] [(aQ n c.2).1] (aQ n c.2).2 := by rw [er]; unfold cJ; rw [if_neg hc]
  obtain ⟨q3, k3⟩ := qP (n := n) (s := c.2) (by omega) k2
  have l9 := ig n c.2
  obtain ⟨g1, g2, g3, g4, g5⟩ := mR (item := aQ n) (most := 8) (beg := fun t => t.kind == 1) [a.1, b.2.1, c.1, [], [], []] (n - 1) (fun M u ls ks => cC M b.1 (gt u) u.off u.size u.failed u.place ls ks (.node 2 b.1 ([a.1, b.2.1, c.1, d.1, e.1, g.1] ++ r.1) (r.2.1 ++ [t.1, x.1])) (gt x.2) x.2.off x.2.size x.2.failed x.2.place) (ig n)
   (fun M u ls ks hu hun huk b1 b2 => by
    have hne := aT (s := u) (.inl (by rw [hu]; decide))
    have lt := cn hne
    obtain ⟨t1, t2⟩ := ei hne huk
    have lc : (ls ++ [(gTk (ab u)).Lead]).length ≤ 1000000000 := by simp only [List.length_append, List.length_cons, List.length_nil]; omega
    have lk : ∀ x : Tree, (ks ++ [x]).length ≤ 1000000000 := fun x => by simp only [List.length_append, List.length_cons, List.length_nil]; omega
    unfold cmS
    by_cases hb : ks.length = 8 ∧ ((ab (ac u)).kind == 1) = true
    ·rw [if_pos hb]
     obtain ⟨f1, f2⟩ := ln 3 t2
     obtain ⟨i1, i2⟩ := qP (n := n) (s := aV 3 (ac u)) (by have := ep 3 (ac u); omega) f2
     exact ⟨i2, fun hQ => fp M _ _ _ _ _ _ _ _ _ _ _ _ _ _ ⟨_, _, _, _, _, _, bD u, fun _ => ⟨_, _, _, _, _, _, t1, lc, fun _ => ⟨_, _, _, _, _, _, bD (ac u), fun _ => ⟨_, _, _, _, _, f1, _, _, _, _, _, _, i1, lk _, hQ⟩, fun e => absurd (eq_of_beq hb.2) e⟩, fun e => absurd (by rw [hb.1]; rfl) e⟩, fun e => absurd hu e⟩⟩
    ·rw [if_neg hb]
     obtain ⟨i1, i2⟩ := qP (n := n) (s := ac u) (by omega) t2
     exact ⟨i2, fun hQ => fp M _ _ _ _ _ _ _ _ _ _ _ _ _ _ ⟨_, _, _, _, _, _, bD u, fun _ => ⟨_, _, _, _, _, _, t1, lc, fun h16 => ⟨_, _, _, _, _, _, bD (ac u), fun e => absurd ⟨by omega, beq_iff_eq.2 e⟩ hb, fun _ => ⟨_, _, _, _, _, _, i1, lk _, hQ⟩⟩, fun _ => ⟨_, _, _, _, _, _, i1, lk _, hQ⟩⟩, fun e => absurd hu e⟩⟩)
   ((aQ n c.2).2.toks.length + 1) (aQ n c.2).2 [] [(aQ n c.2).1] (by omega) (by omega) k3 (by simp only [List.length_append, List.length_cons, List.length_nil]; omega) (by simp only [List.length_cons, List.length_nil]; omega)
  rw [← er'] at g1 g2 g3 g4 g5
  have hrl : r.2.1.length ≤ 1000000 := by simp only [List.length_cons, List.length_nil] at g4; omega
  obtain ⟨⟨q4, _⟩, ⟨q5, _⟩, ⟨q6, _⟩, ⟨q7, _⟩, q8, k8⟩ := tail g1 hrl
  obtain ⟨M, hM⟩ := g5 ⟨1, fp 0 _ _ _ _ _ _ _ _ _ _ _ _ _ _ ⟨_, _, _, _, _, _, bD r.2.2, fun e => absurd e g2, fun _ => ⟨_, _, _, _, _, _, q4, _, rfl, _, _, _, _, _, _, q5, _, rfl, _, _, _, _, _, _, q6, by simp only [List.length_append, List.length_cons, List.length_nil]; omega, _, _, _, _, _, _, q7, _, rfl, _, _, _, _, _, _, q8, by simp only [List.length_append, List.length_cons, List.length_nil]; omega, by rw [List.append_assoc]; rfl, rfl, rfl, rfl, rfl, rfl⟩⟩⟩
  exact ⟨iE M _ _ _ _ _ _ _ _ _ _ _ ⟨by decide, _, _, _, _, _, _, q0, _, rfl, _, _, _, _, _, _, _, q1, _, rfl, _, _, _, _, _, _, q2, _, rfl, _, _, _, _, _, _, bD c.2, fun _ => ⟨_, _, _, _, _, _, q3, hM⟩, fun e => absurd e hc⟩, k8⟩
theorem oy {n : Nat} (hn : n ≤ 1000000) (x y z : List UInt8) : ∀ (fuel : Nat) (ks : List Tree) (s : PS), s.toks.length < fuel → s.toks.length < n → Pk s → ks.length + s.toks.length ≤ 2000000 → Pk (cD n fuel ks s).2 ∧ ∃ M, bT M x y z (gt s) s.off s.size s.failed s.place ks 1 y [x, z, []] (cD n fuel ks s).1 (gt (cD n fuel ks s).2) (cD n fuel ks s).2.off (cD n fuel ks s).2.size (cD n fuel ks s).2.failed (cD n fuel ks s).2.place
 | 0, ks, s, h, _, _, _ => by omega
 | fuel + 1, ks, s, h, h2, hk, hl => by
  rw [cD]
  by_cases h0 : s.toks = []
  ·rw [if_pos h0]
   exact ⟨hk, 1, jc 0 _ _ _ _ _ _ _ _ _ _ _ _ _ _ _ _ _ _ ⟨fun e => by rw [show gt s = [] by rw [gt, h0]; rfl] at e; simp at e, fun _ => ⟨rfl, rfl, rfl, rfl, rfl, rfl, rfl, rfl, rfl⟩⟩⟩
  rw [if_neg h0]
  have hpos : (0 : Int) < ((gt s).length : Nat) := by
   cases hs : s.toks with
   | nil => exact absurd hs h0
   | cons t r => rw [show gt s = (t :: r).map gTk by rw [gt, hs]]; simp
  have hfl : ∀ e, (aV e s).toks.length = 0 := fun e => by unfold aV; split <;> rfl
  have h1l : 1 ≤ s.toks.length := by
   cases hs : s.toks with
   | nil => exact absurd hs h0
   | cons t r => simp
  have go : ∀ (bb : Bool), (bb = if (ab s).text = dQ then false else ((ab s).text != cz)) → ∀ {M : Nat} {K : List Tree} {s' : PS}, eE M x y z (gTk (ab s)) (gt s) s.off s.size s.failed s.place bb ks 1 y [x, z, []] K (gt s') s'.off s'.size s'.failed s'.place → ∃ M, bT M x y z (gt s) s.off s.size s.failed s.place ks 1 y [x, z, []] K (gt s') s'.off s'.size s'.failed s'.place := fun bb hbb {M K s'} hM => by
   refine ⟨M + 1, jc M _ _ _ _ _ _ _ _ _ _ _ _ _ _ _ _ _ _ ⟨fun _ => ⟨_, _, _, _, _, _, bD s, fun hd => ?_, fun hd => ?_⟩, fun e => absurd hpos e⟩⟩
   ·rw [hbb, if_neg (show ¬ (ab s).text = dQ from hd)] at hM; exact hM
   ·rw [hbb, if_pos (show (ab s).text = dQ from hd)] at hM; exact hM
  by_cases c1 : ¬ (ab s).text = dQ ∧ ¬ (ab s).text = cz
  ·rw [if_pos c1]
   obtain ⟨f1, f2⟩ := ln 2 hk
   obtain ⟨k3, M, hM⟩ := oy hn x y z fuel ks (aV 2 s) (by rw [hfl]; omega) (by rw [hfl]; omega) f2 (by rw [hfl]; omega)
   refine ⟨k3, go true (by rw [if_neg c1.1]; simpa using c1.2) (M := M + 1) (eh M _ _ _ _ _ _ _ _ _ _ _ _ _ _ _ _ _ _ _ _ ⟨fun _ => ⟨_, _, _, _, _, f1, hM⟩, fun e => (by cases e)⟩)⟩
  rw [if_neg c1]
  have hbf : false = if (ab s).text = dQ then false else ((ab s).text != cz) := by
   by_cases hd : (ab s).text = dQ
   ·rw [if_pos hd]
   ·rw [if_neg hd]
    have : (ab s).text = cz := Classical.byContradiction fun e => c1 ⟨hd, e⟩
    rw [this]; decide
  by_cases c2 : ks.length = 40
  ·rw [if_pos c2]
   obtain ⟨f1, f2⟩ := ln 3 hk
   obtain ⟨k3, M, hM⟩ := oy hn x y z fuel ks (aV 3 s) (by rw [hfl]; omega) (by rw [hfl]; omega) f2 (by rw [hfl]; omega)
   exact ⟨k3, go false hbf (M := M + 1) (eh M _ _ _ _ _ _ _ _ _ _ _ _ _ _ _ _ _ _ _ _ ⟨fun e => (by cases e), fun _ => ⟨fun _ => ⟨_, _, _, _, _, f1, hM⟩, fun e => absurd (by rw [c2]; rfl) e⟩⟩)⟩
  rw [if_neg c2]
  have c2' : ¬ ((ks.length : Nat) : Int) = 40 := by omega
  have lk : ∀ x : Tree, (ks ++ [x]).length ≤ 1000000000 := fun x => by simp only [List.length_append, List.length_cons, List.length_nil]; omega
  by_cases c3 : (ab s).text = dQ
  ·rw [if_pos c3]
   have lt := om (n := n) c3
   obtain ⟨f1, f2⟩ := vk (n := n) h2 hn hk
   obtain ⟨k3, M, hM⟩ := oy hn x y z fuel (ks ++ [(bI n s).1]) (bI n s).2 (by omega) (by omega) f2 (by simp only [List.length_append, List.length_cons, List.length_nil]; omega)
   exact ⟨k3, go false hbf (M := M + 1) (eh M _ _ _ _ _ _ _ _ _ _ _ _ _ _ _ _ _ _ _ _ ⟨fun e => (by cases e), fun _ => ⟨fun e => absurd e c2', fun _ => ⟨fun _ => ⟨_, _, _, _, _, _, f1, lk _, hM⟩, fun e => absurd c3 e⟩⟩⟩)⟩
  ·rw [if_neg c3]
   have c4 : (ab s).text = cz := Classical.byContradiction fun e => c1 ⟨c3, e⟩
   have lt := pX (n := n) c4
   obtain ⟨f1, f2⟩ := yI (n := n) h2 hk
   obtain ⟨k3, M, hM⟩ := oy hn x y z fuel (ks ++ [(fh n s).1]) (fh n s).2 (by omega) (by omega) f2 (by simp only [List.length_append, List.length_cons, List.length_nil]; omega)
   exact ⟨k3, go false hbf (M := M + 1) (eh M _ _ _ _ _ _ _ _ _ _ _ _ _ _ _ _ _ _ _ _ ⟨fun e => (by cases e), fun _ => ⟨fun e => absurd e c2', fun _ => ⟨fun e => absurd e c3, fun _ => ⟨_, _, _, _, _, _, f1, lk _, hM⟩⟩⟩⟩)⟩
theorem qg (n : Nat) (s : PS) : ∃ x y z ks, (fi n s).1 = .node 1 y [x, z, []] ks ∧ cntKs ks ≤ 30 * s.toks.length := by
 refine ⟨_, _, _, _, rfl, ?_⟩
 have l0 := aw eo s
 have l1 := bY 2 2 (ai eo s).2
 have := lr (n := n) ((aL 2 2 (ai eo s).2).2.2.toks.length + 2) [] (aL 2 2 (ai eo s).2).2.2
 simp only [cntKs] at this
 omega
theorem zn {n : Nat} {s : PS} (h : s.toks.length < n) (hn : n ≤ 1000000) (hk : Pk s) : eQ (gt s) s.off s.size s.failed s.place (fi n s).1.kind (fi n s).1.text (fi n s).1.leads (fi n s).1.kids (gt (fi n s).2) (fi n s).2.off (fi n s).2.size (fi n s).2.failed (fi n s).2.place := by
 have l0 := aw eo s
 have l1 := bY 2 2 (ai eo s).2
 obtain ⟨q0, k0⟩ := dS (x := eo) (by decide) hk
 obtain ⟨q1, k1⟩ := nl 2 2 k0
 obtain ⟨k2, M, hM⟩ := oy hn (ai eo s).1 (aL 2 2 (ai eo s).2).1 (aL 2 2 (ai eo s).2).2.1 ((aL 2 2 (ai eo s).2).2.2.toks.length + 2) [] (aL 2 2 (ai eo s).2).2.2 (by omega) (by omega) k1 (by simp only [List.length_nil]; omega)
 exact mB M _ _ _ _ _ _ _ _ _ _ _ _ _ _ ⟨by decide, _, _, _, _, _, _, q0, _, rfl, _, _, _, _, _, _, _, q1, _, rfl, hM⟩
theorem pD {S : Nat → Prop} {w : World} {ρ : Nat → Option Value} : ∀ (l : List TokZ), CRel S w ρ 3 ((l.map gTk).map GToken.w) (bN l)
 | [] => by simp [bN, CRel]
 | t :: r => by
  rw [show bN (t :: r) = [.int .i64 t.kind, .string ⟨t.lead.toArray⟩, .string ⟨t.text.toArray⟩] ++ bN r from rfl]
  simp only [List.map_cons, CRel]
  exact ⟨.agg #[.int .i64 t.kind, .string ⟨t.lead.toArray⟩, .string ⟨t.text.toArray⟩], bN r, by simp [Value.cells], ⟨rfl, rfl⟩, by
   simp only [VRel, GToken.w, GToken.c, gTk]
   exact ⟨[.int .i64 t.kind, .string ⟨t.lead.toArray⟩, .string ⟨t.text.toArray⟩], rfl, by simp only [LRel, VRel]; exact ⟨_, _, rfl, rfl, _, _, rfl, rfl, _, _, rfl, rfl, rfl⟩⟩, pD r⟩
theorem zH (l : List UInt8) (hl : l.length ≤ 281474976710656) : qF l ((scan l).toks.map gTk) (scan l).tail ((scan l).place : Nat) ((scan l).err : Nat) := by
 refine ⟨rfl, ?_, fun S w ρ xs hr hx => ?_⟩
 ·simp only [V.pure, pureL, Bool.and_true]
  first | done | exact ch _ (fun _ => rfl) _
 simp only [LRel, VRel] at hx
 obtain ⟨x, ys, rfl, rfl, rfl⟩ := hx
 refine (wk l w hl).mono ?_
 rintro e w' ⟨v, rfl, ⟨A, c, rfl, hc, hm, hrow, hnew⟩, he⟩
 have hch : Chg [] w w' := qQ he
 have g := hr.chg0 hch
 refine ⟨_, fun b => S b ∨ (w.heap.size ≤ b ∧ b < w'.heap.size), ρ, _, ⟨0, []⟩, rfl, rfl, ⟨fun i => ?_, fun i b hb => ?_, fun i j b hb _ => ?_, fun b hb => hb.elim (g.slt b) (·.2)⟩, ⟨ChgP.of0 hch, fun _ h => .inl h, fun b hb => hb.elim .inl (fun h => .inr (.inr h.1)), fun id b hb => by rw [gG] at hb; exact hb.elim, fun id x h => ?_⟩, ?_⟩
 ·have := g.ob i; rw [gG] at this ⊢; exact this
 ·rw [gG] at hb; exact hb.elim
 ·rw [gG] at hb; exact hb.elim
 ·simp only [ng] at h
  split at h
  ·exact h
  ·cases h
 ·simp only [VRel]
  refine ⟨[.slice A (scan l).toks.length c, .string ⟨(scan l).tail.toArray⟩, .int .i64 ((scan l).place : Nat), .int .i64 ((scan l).err : Nat)], rfl, _, _, rfl, ?_, _, _, rfl, by simp only [VRel], _, _, rfl, by simp only [VRel], _, _, rfl, by simp only [VRel], rfl⟩
  simp only [VRel]
  refine ⟨A, c, bN (scan l).toks, by simp, by simpa using hc, hm, pD _, by simpa using hrow.1, fun hn => ?_⟩
  obtain ⟨b, off, e1, h1, h2⟩ := hrow.2 (by simpa using hn)
  obtain ⟨b', off', e2, h3⟩ := hnew (by simpa using hn)
  rw [e1] at e2
  injection e2 with e2
  injection e2 with e3 e4 e5
  subst e3
  exact ⟨b, off, e1, .inr ⟨h3, h1⟩, h1, by simpa using h2⟩
theorem pA : ∀ (l : List TokZ) (x : List UInt8), (nS l x).length = wA l + x.length
 | [], x => by simp [nS, wA]
 | t :: r, x => by simp only [nS, wA, List.length_append, pA r x]; omega
theorem tV {l : List UInt8} (h : (scan l).err = 0) : Pk (gI (scan l).toks l.length) ∧ (scan l).toks.length ≤ 4096 ∧ l.length ≤ 4096 := by
 obtain ⟨h1, _, _, h4, h5⟩ := qp h
 have h6 := pA (scan l).toks (scan l).tail
 rw [h1] at h6
 refine ⟨⟨?_, ?_⟩, by omega, h5⟩
 ·unfold gI
  cases hz : (scan l).toks with
  | nil => simp only [wT]; omega
  | cons t r => rw [hz] at h6; simp only [wT, wA] at h6 ⊢; omega
 ·simp only [gI]; omega
theorem sA (l : List UInt8) (hl : l.length ≤ 281474976710656) : je l (cO l).1 ((cO l).2.1 : Nat) ((cO l).2.2 : Nat) := by
 have hsc := zH l hl
 by_cases he : (scan l).err = 0
 rotate_left
 ·have e : cO l = (dh, (scan l).place, (scan l).err) := by unfold cO; simp only [he, not_false_eq_true, if_true]
  rw [e]
  exact mL 0 _ _ _ _ ⟨_, _, _, _, hsc, fun _ => ⟨rfl, rfl, rfl⟩, fun h => absurd (by omega) he⟩
 obtain ⟨s1, s2, s3⟩ := tV he
 obtain ⟨f, ef⟩ : ∃ f, f = fi ((scan l).toks.length + 1) (gI (scan l).toks l.length) := ⟨_, rfl⟩
 have hf := zn (n := (scan l).toks.length + 1) (s := gI (scan l).toks l.length) (by show (scan l).toks.length < _; omega) (by omega) s1
 rw [← ef] at hf
 obtain ⟨x, y, z, ks, e1, e2⟩ := qg ((scan l).toks.length + 1) (gI (scan l).toks l.length)
 rw [← ef] at e1
 have e2' : cntKs ks ≤ 30 * (scan l).toks.length := e2
 have hd := wE f.1 (by rw [e1]; simp only [cntK]; omega)
 have hdk := depthT_K f.1
 rw [e1] at hf hd
 have main : ∀ i : Nat, (i = match (scan l).toks with | [] => l.length | t :: _ => t.lead.length) → iL 1 l ((scan l).toks.map gTk) (scan l).tail i (cO l).1 ((cO l).2.1 : Nat) ((cO l).2.2 : Nat) := fun i hi => by
  have hst : (gI (scan l).toks l.length).off = i := hi.symm
  have hfi : eQ ((scan l).toks.map gTk) i l.length 0 0 1 y [x, z, []] ks (gt f.2) f.2.off f.2.size f.2.failed f.2.place := by
   rw [← hst]; exact hf
  refine pH 0 _ _ _ _ _ _ _ ⟨_, _, _, _, _, _, _, _, _, hfi, fun hn => ?_, fun hn => ⟨_, hd, fun h40 => ?_, fun h40 => ?_⟩⟩
  ·have e : cO l = (dh, f.2.place, f.2.failed) := by
    unfold cO
    simp only [he, not_true_eq_false, if_false]
    rw [← ef, if_pos (by omega)]
   rw [e]; exact ⟨rfl, rfl, rfl⟩
  ·have e : cO l = (dh, 0, 4) := by
    unfold cO
    simp only [he, not_true_eq_false, if_false]
    rw [← ef, if_neg (by omega), if_pos (by rw [hdk, e1]; omega)]
   rw [e]; exact ⟨rfl, rfl, rfl⟩
  ·have e : cO l = (.node f.1.kind f.1.text (f.1.leads.set 2 (scan l).tail) f.1.kids, 0, 0) := by
    unfold cO
    simp only [he, not_true_eq_false, if_false]
    rw [← ef, if_neg (by omega), if_neg (by rw [hdk, e1]; omega)]
   rw [e, e1]; exact ⟨_, rfl, rfl, rfl, rfl⟩
 refine mL 1 _ _ _ _ ⟨_, _, _, _, hsc, fun h => absurd (by rw [he]; rfl) h, fun _ => ⟨fun hp => ?_, fun hp => ?_⟩⟩
 ·cases hz : (scan l).toks with
  | nil => rw [hz] at hp; simp at hp
  | cons t r => exact ⟨gTk t, rfl, by have := main t.lead.length (by rw [hz]); rw [hz] at this; exact this⟩
 ·cases hz : (scan l).toks with
  | nil => have := main l.length (by rw [hz]); rw [hz] at this; exact this
  | cons t r => rw [hz] at hp; simp at hp
def Dd (s : PS) : Prop := s.failed ≠ 0 ∧ s.toks = []
def Sm (s s' : PS) : Prop := s'.failed = s.failed ∧ s'.place = s.place ∧ s'.toks = []
theorem Sm.dd {s s' : PS} (h : Sm s s') (d : Dd s) : Dd s' := ⟨by rw [h.1]; exact d.1, h.2.2⟩
theorem Sm.tr {s s1 s2 : PS} (h : Sm s s1) (k : Sm s1 s2) : Sm s s2 := ⟨k.1.trans h.1, k.2.1.trans h.2.1, k.2.2⟩
section
variable {s : PS} (d : Dd s)
include d
theorem fK : ab s = dK := by simp [ab, d.2]
theorem oN (e : Nat) : Sm s (aV e s) := by unfold aV; rw [if_neg d.1]; exact ⟨rfl, rfl, rfl⟩
theorem qY : Sm s s := ⟨rfl, rfl, d.2⟩
theorem bB {x : List UInt8} (hx : x ≠ []) : Sm s (ai x s).2 := by
 unfold ai
 rw [if_neg (by rw [fK d]; exact fun e => hx e.symm)]
 exact oN d 2
theorem ld (k o : Int) : Sm s (aL k o s).2.2 := by
 unfold aL
 rw [if_pos (.inl (by rw [fK d]; rfl))]
 exact oN d 2
end
theorem ny : ∀ (n : Nat) {s : PS}, Dd s → Sm s (gd n s).2
 | 0, s, d => qY d
 | n + 1, s, d => by
  unfold gd
  rw [fK d, if_neg (by decide), if_neg (by decide), if_neg (by decide), if_neg (by decide)]
  exact ld d 2 4
theorem mm (n : Nat) {s : PS} (d : Dd s) : Sm s (aQ n s).2 := by
 have h1 := ld d 1 1
 have h2 := bB (h1.dd d) (x := [58]) (by decide)
 exact h1.tr (h2.tr (ny n (h2.dd (h1.dd d))))
theorem nG {item : PS → Tree × PS} {most : Nat} {beg : TokZ → Bool} (m : Nat) (cs : List (List UInt8)) (ks : List Tree) {s : PS} (d : Dd s) : commaF item most beg m cs ks s = (cs, ks, s) := by
 cases m with
 | zero => rfl
 | succ m => rw [commaF, fK d, if_neg (by decide)]
theorem mi {item : PS → Tree × PS} {most : Nat} {beg : TokZ → Bool} (hi : ∀ {s}, Dd s → Sm s (item s).2) {s : PS} (d : Dd s) : Sm s (cJ item most beg s).2.2 := by
 unfold cJ
 rw [fK d, if_neg (by decide), nG _ _ _ ((hi d).dd d)]
 exact hi d
section
variable {E : PS → Tree × PS} {s : PS} (d : Dd s)
include d
theorem yR : aP E s = (dh, aV 2 s) := by
 simp [aP, fK d, dK, gD, fM]
theorem Af {U : PS → Tree × PS} (m : Nat) (t : Tree) : ff U m t s = (t, s) := by
 cases m with
 | zero => rfl
 | succ m => rw [ff, fK d, if_neg (by decide)]
theorem xV : Sm s (gy E s).2 := by
 have hf := oN d 2
 unfold gy
 rw [fK d, if_neg (by decide), if_neg (by decide), yR d]
 simp only
 rw [Af (hf.dd d)]
 exact hf
end
theorem oX : ∀ (n : Nat) {s : PS}, Dd s → Sm s (eD n s).2
 | 0, s, d => qY d
 | n + 1, s, d => xV d
theorem tp (n : Nat) {s : PS} (d : Dd s) : Sm s (bI n s).2 := by
 have h0 := bB d (x := dQ) (by decide)
 have d0 := h0.dd d
 have h1 := ld d0 1 1
 have d1 := h1.dd d0
 have h2 := bB d1 (x := [40]) (by decide)
 have d2 := h2.dd d1
 have h3 := mi (item := aQ n) (most := 8) (beg := fun t => t.kind == 1) (fun d => mm n d) d2
 have d3 := h3.dd d2
 have h4 := bB d3 (x := [41]) (by decide)
 have d4 := h4.dd d3
 have h5 := bB d4 (x := [58]) (by decide)
 have d5 := h5.dd d4
 have h6 := ny n d5
 have d6 := h6.dd d5
 have h7 := bB d6 (x := [61]) (by decide)
 have d7 := h7.dd d6
 exact h0.tr (h1.tr (h2.tr (h3.tr (h4.tr (h5.tr (h6.tr (h7.tr (oX n d7))))))))
theorem qK (n m : Nat) (ks : List Tree) {s : PS} (d : Dd s) : cD n m ks s = (ks, s) := by
 cases m with
 | zero => rfl
 | succ m => rw [cD, if_pos d.2]
def kS (L : List TokZ) (sz j : Nat) : Nat := if j < L.length then wA (L.take j) + (L.getD j dK).lead.length else sz
theorem ou : ∀ (a b : List TokZ), wA (a ++ b) = wA a + wA b
 | [], b => by simp [wA]
 | t :: r, b => by simp only [List.cons_append, wA, ou r b]; omega
def Lv (L : List TokZ) (sz : Nat) (s : PS) (k : Nat) : Prop := s.failed = 0 ∧ k ≤ L.length ∧ L.drop k = s.toks ∧ s.off = kS L sz k ∧ s.size = sz
def Ds (L : List TokZ) (sz : Nat) (s : PS) (j : Nat) : Prop := Dd s ∧ j ≤ L.length ∧ s.place = kS L sz j
theorem Lv.nil {L : List TokZ} {sz k : Nat} {s : PS} (h : Lv L sz s k) (e : s.toks = []) : k = L.length := by
 have := h.2.2.1
 rw [e, List.drop_eq_nil_iff] at this
 have := h.2.1
 omega
end Go.Proofs.Ytpigfkmccilkjaa
