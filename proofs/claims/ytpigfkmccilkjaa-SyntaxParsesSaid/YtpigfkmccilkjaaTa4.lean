/- Contracts of the functions that the law reaches, part 4. -/
import Derived.Test.YtpigfkmccilkjaaTa3
set_option linter.unusedVariables false
set_option linter.unusedSimpArgs false
namespace Go.Proofs.Ytpigfkmccilkjaa
open Go.RowKit Lx Sx
set_option maxRecDepth 100000
set_option maxHeartbeats 1000000
def cmS (most : Nat) (beg : TokZ → Bool) (ks : List Tree) (s : PS) : PS := if ks.length = most ∧ beg (ab (ac s)) = true then aV 3 (ac s) else ac s
theorem cn {s : PS} (h : s.toks ≠ []) : (ac s).toks.length < s.toks.length := by
 cases he : s.toks with
 | nil => exact absurd he h
 | cons t r => have := pp he; rw [he] at this; exact this
theorem mR {item : PS → Tree × PS} {most : Nat} {beg : TokZ → Bool} (base : List (List UInt8)) (n : Nat) (Q : Nat → PS → List (List UInt8) → List Tree → Prop)
    (hlen : ∀ s, (item s).2.toks.length ≤ s.toks.length)
    (step : ∀ M s ls ks, (ab s).text = [44] → s.toks.length ≤ n → Pk s → ls.length ≤ 2000000 → ks.length ≤ 2000000 → Pk (item (cmS most beg ks s)).2 ∧ (Q M (item (cmS most beg ks s)).2 (ls ++ [(ab s).lead]) (ks ++ [(item (cmS most beg ks s)).1]) → Q (M + 1) s ls ks)) :
    ∀ (fuel : Nat) (s : PS) (cs : List (List UInt8)) (ks : List Tree), s.toks.length < fuel → s.toks.length ≤ n → Pk s → (base ++ cs).length + s.toks.length ≤ 2000000 → ks.length + s.toks.length ≤ 2000000 →
      Pk (commaF item most beg fuel cs ks s).2.2 ∧ ¬ (ab (commaF item most beg fuel cs ks s).2.2).text = [44] ∧ (commaF item most beg fuel cs ks s).2.2.toks.length ≤ s.toks.length ∧ (commaF item most beg fuel cs ks s).2.1.length ≤ ks.length + s.toks.length ∧
      ((∃ M, Q M (commaF item most beg fuel cs ks s).2.2 (base ++ (commaF item most beg fuel cs ks s).1) (commaF item most beg fuel cs ks s).2.1) → ∃ M, Q M s (base ++ cs) ks)
  | 0, s, cs, ks, h, _, _, _, _ => by omega
  | fuel + 1, s, cs, ks, h, hn, hk, b1, b2 => by
    by_cases h1 : (ab s).text = [44]
    · have e : commaF item most beg (fuel + 1) cs ks s = commaF item most beg fuel (cs ++ [(ab s).lead]) (ks ++ [(item (cmS most beg ks s)).1]) (item (cmS most beg ks s)).2 := by
        rw [commaF, if_pos h1]; rfl
      have hne := aT (s := s) (.inl (by rw [h1]; decide))
      have l1 := cn hne
      have l2 : (cmS most beg ks s).toks.length ≤ (ac s).toks.length := by
        unfold cmS
        split
        · exact ep 3 _
        · exact Nat.le_refl _
      have l3 := hlen (cmS most beg ks s)
      obtain ⟨k1, q1⟩ := step 0 s (base ++ cs) ks h1 hn hk (by omega) (by omega)
      obtain ⟨g1, g2, g3, g4, g5⟩ := mR base n Q hlen step fuel (item (cmS most beg ks s)).2 (cs ++ [(ab s).lead]) (ks ++ [(item (cmS most beg ks s)).1]) (by omega) (by omega) k1 (by simp only [List.length_append, List.length_cons, List.length_nil] at b1 ⊢; omega) (by simp only [List.length_append, List.length_cons, List.length_nil]; omega)
      rw [e]
      refine ⟨g1, g2, by omega, by simp only [List.length_append, List.length_cons, List.length_nil] at g4; omega, fun hQ => ?_⟩
      obtain ⟨M, hM⟩ := g5 hQ
      rw [← List.append_assoc] at hM
      exact ⟨M + 1, (step M s (base ++ cs) ks h1 hn hk (by omega) (by omega)).2 hM⟩
    · have e : commaF item most beg (fuel + 1) cs ks s = (cs, ks, s) := by rw [commaF, if_neg h1]
      rw [e]
      exact ⟨hk, h1, Nat.le_refl _, Nat.le_add_right _ _, id⟩
abbrev Pex := fun (a : List GToken) (o s f z : Int) (x : Tree) (b : List GToken) (o' s' f' z' : Int) => aG a o s f z x b o' s' f' z'
abbrev Pun := fun (a : List GToken) (o s f z : Int) (x : Tree) (b : List GToken) (o' s' f' z' : Int) => fw a o s f z x b o' s' f' z'
abbrev Pus := fun (a : List GToken) (o s f z : Int) (x : Tree) (b : List GToken) (o' s' f' z' : Int) => fZ a o s f z x b o' s' f' z'
abbrev Pli := fun (a : List GToken) (o s f z : Int) (x : Tree) (b : List GToken) (o' s' f' z' : Int) => ie a o s f z x b o' s' f' z'
abbrev Par := fun (a : List GToken) (o s f z : Int) (x : Tree) (b : List GToken) (o' s' f' z' : Int) => cR a o s f z x b o' s' f' z'
section
variable {n : Nat} {E : PS → Tree × PS} (hE : ∀ s, s.toks.length < n → Pk s → Ag Pex s (E s)) (hL : ∀ s, (E s).2.toks.length ≤ s.toks.length)
include hE
theorem uO {s : PS} (h : s.toks.length < n) (hk : Pk s) : Ag Par s (cy E s) := by
 obtain ⟨q, k⟩ := hE s h hk
 exact ⟨lU 0 _ _ _ _ _ _ _ _ _ _ _ ⟨_, _, _, _, _, _, q, rfl, rfl, rfl, rfl, rfl, rfl⟩, k⟩
include hL
theorem zA {s : PS} (ht : (ab s).text = [91]) (h : s.toks.length ≤ n) (hn : n ≤ 1000000) (hk : Pk s) : Ag Pli s (mJ E s) := by
 have l1 := kR (x := [91]) (by decide) ht
 have l2 := hL (ai [91] s).2
 obtain ⟨q1, k1⟩ := dS (x := [91]) (by decide) hk
 obtain ⟨q2, k2⟩ := hE (ai [91] s).2 (by omega) k1
 obtain ⟨s1, es1⟩ : ∃ s1, s1 = (ai [91] s).2 := ⟨_, rfl⟩
 obtain ⟨r, er⟩ : ∃ r, r = commaF E 16 aA ((E s1).2.toks.length + 1) [] [(E s1).1] (E s1).2 := ⟨_, rfl⟩
 rw [← es1] at k1 k2 l1 l2
 obtain ⟨z, ez⟩ : ∃ z, z = ai [93] r.2.2 := ⟨_, rfl⟩
 have e : mJ E s = (.node 18 [] ([(ai [91] s).1, z.1] ++ r.1) r.2.1, z.2) := by rw [ez, er, es1]; rfl
 obtain ⟨g1, g2, g3, g4, g5⟩ := mR (item := E) (most := 16) (beg := aA) [(ai [91] s).1, []] (n - 1) (fun M u ls ks => dj M (gt u) u.off u.size u.failed u.place ls ks (.node 18 [] ([(ai [91] s).1, z.1] ++ r.1) r.2.1) (gt z.2) z.2.off z.2.size z.2.failed z.2.place) hL
  (fun M u ls ks hu hun huk b1 b2 => by
   have hne := aT (s := u) (.inl (by rw [hu]; decide))
   have lt := cn hne
   obtain ⟨t1, t2⟩ := ei hne huk
   have lc : (ls ++ [(gTk (ab u)).Lead]).length ≤ 1000000000 := by simp only [List.length_append, List.length_cons, List.length_nil]; omega
   have lk : ∀ x : Tree, (ks ++ [x]).length ≤ 1000000000 := fun x => by simp only [List.length_append, List.length_cons, List.length_nil]; omega
   unfold cmS
   by_cases hb : ks.length = 16 ∧ aA (ab (ac u)) = true
   ·rw [if_pos hb]
    obtain ⟨f1, f2⟩ := ln 3 t2
    obtain ⟨i1, i2⟩ := hE (aV 3 (ac u)) (by have := ep 3 (ac u); omega) f2
    exact ⟨i2, fun hQ => gu M _ _ _ _ _ _ _ _ _ _ _ _ _ ⟨_, _, _, _, _, _, bD u, fun _ => ⟨_, _, _, _, _, _, t1, lc, fun _ => ⟨_, _, _, _, _, _, bD (ac u), _, nX _, fun _ => ⟨_, _, _, _, _, f1, _, _, _, _, _, _, i1, lk _, hQ⟩, fun e => by rw [hb.2] at e; cases e⟩, fun e => absurd (by rw [hb.1]; rfl) e⟩, fun e => absurd hu e⟩⟩
   ·rw [if_neg hb]
    obtain ⟨i1, i2⟩ := hE (ac u) (by omega) t2
    exact ⟨i2, fun hQ => gu M _ _ _ _ _ _ _ _ _ _ _ _ _ ⟨_, _, _, _, _, _, bD u, fun _ => ⟨_, _, _, _, _, _, t1, lc, fun h16 => ⟨_, _, _, _, _, _, bD (ac u), _, nX _, fun e => absurd ⟨by omega, e⟩ hb, fun _ => ⟨_, _, _, _, _, _, i1, lk _, hQ⟩⟩, fun _ => ⟨_, _, _, _, _, _, i1, lk _, hQ⟩⟩, fun e => absurd hu e⟩⟩)
  ((E s1).2.toks.length + 1) (E s1).2 [] [(E s1).1] (by omega) (by omega) k2 (by simp only [List.length_append, List.length_cons, List.length_nil]; omega) (by simp only [List.length_cons, List.length_nil]; omega)
 rw [← er] at g1 g2 g3 g4 g5
 obtain ⟨q3, k3⟩ := dS (x := [93]) (by decide) g1
 rw [← ez] at q3 k3
 obtain ⟨M, hM⟩ := g5 ⟨1, gu 0 _ _ _ _ _ _ _ _ _ _ _ _ _ ⟨_, _, _, _, _, _, bD r.2.2, fun e => absurd e g2, fun _ => ⟨_, _, _, _, _, _, q3, _, rfl, rfl, rfl, rfl, rfl, rfl, rfl⟩⟩⟩
 rw [e]
 rw [← es1] at q1 q2
 exact ⟨nn M _ _ _ _ _ _ _ _ _ _ _ ⟨by decide, _, _, _, _, _, _, q1, _, rfl, _, _, _, _, _, _, q2, hM⟩, k3⟩
theorem AB {s : PS} (hk13 : (ab s).kind = 1 ∨ (ab s).kind = 3) (h : s.toks.length ≤ n) (hn : n ≤ 1000000) (hk : Pk s) : Ag Pus s (jb E s) := by
 have hne := aT (s := s) (.inr (by omega))
 have l0 := cn hne
 obtain ⟨t1, t2⟩ := ei hne hk
 by_cases hv : (ab s).kind = 1 ∧ ¬ (ab (ac s)).text = [40]
 ·have e : jb E s = (.node 12 (ab s).text [(ab s).lead] [], ac s) := by unfold jb; rw [if_pos hv]
  rw [e]
  exact ⟨jT 0 _ _ _ _ _ _ _ _ _ _ _ ⟨_, _, _, _, _, _, t1, fun _ => ⟨_, _, _, _, _, _, bD (ac s), fun _ => ⟨rfl, rfl, rfl, rfl, rfl, rfl⟩, fun e => absurd e hv.2⟩, fun e => absurd hv.1 e⟩, t2⟩
 have l1 := aw [40] (ac s)
 obtain ⟨q1, k1⟩ := dS (x := [40]) (by decide) t2
 obtain ⟨a, ea⟩ : ∃ a, a = ai [40] (ac s) := ⟨_, rfl⟩
 rw [← ea] at l1 q1 k1
 obtain ⟨r, er⟩ : ∃ r, r = cJ (cy E) 8 aA a.2 := ⟨_, rfl⟩
 obtain ⟨z, ez⟩ : ∃ z, z = ai [41] r.2.2 := ⟨_, rfl⟩
 have e : jb E s = (.node 16 (ab s).text ([(ab s).lead, a.1, z.1] ++ r.1) r.2.1, z.2) := by
  unfold jb; rw [if_neg hv, ez, er, ea]
 have hLa : ∀ s, (cy E s).2.toks.length ≤ s.toks.length := fun s => hL s
 have main : Pk z.2 ∧ ∃ M, fD M (gTk (ab s)) (gt (ac s)) (ac s).off (ac s).size (ac s).failed (ac s).place (.node 16 (ab s).text ([(ab s).lead, a.1, z.1] ++ r.1) r.2.1) (gt z.2) z.2.off z.2.size z.2.failed z.2.place := by
  by_cases hc : (ab a.2).text = [41]
  ·have er' : r = ([], [], a.2) := by rw [er]; unfold cJ; rw [if_pos hc]
   rw [er'] at ez ⊢
   obtain ⟨q3, k3⟩ := dS (x := [41]) (by decide) k1
   rw [ez]
   exact ⟨k3, 2, jK 1 _ _ _ _ _ _ _ _ _ _ _ _ ⟨by decide, jO 0 _ _ _ _ _ _ _ _ _ _ _ _ ⟨_, rfl, _, _, _, _, _, _, q1, _, rfl, _, _, _, _, _, _, bD a.2, fun e => absurd hc e, fun _ => ⟨_, _, _, _, _, _, q3, _, rfl, rfl, rfl, rfl, rfl, rfl, rfl⟩⟩⟩⟩
  ·have er' : r = commaF (cy E) 8 aA ((cy E a.2).2.toks.length + 1) [] [(cy E a.2).1] (cy E a.2).2 := by rw [er]; unfold cJ; rw [if_neg hc]
   obtain ⟨q2, k2⟩ := uO hE (s := a.2) (by omega) k1
   have l2 := hLa a.2
   obtain ⟨g1, g2, g3, g4, g5⟩ := mR (item := cy E) (most := 8) (beg := aA) [(ab s).lead, a.1, []] (n - 1) (fun M u ls ks => dz M (gTk (ab s)) (gt u) u.off u.size u.failed u.place ls ks (.node 16 (ab s).text ([(ab s).lead, a.1, z.1] ++ r.1) r.2.1) (gt z.2) z.2.off z.2.size z.2.failed z.2.place) hLa
    (fun M u ls ks hu hun huk b1 b2 => by
     have hne := aT (s := u) (.inl (by rw [hu]; decide))
     have lt := cn hne
     obtain ⟨t1, t2⟩ := ei hne huk
     have lc : (ls ++ [(gTk (ab u)).Lead]).length ≤ 1000000000 := by simp only [List.length_append, List.length_cons, List.length_nil]; omega
     have lk : ∀ x : Tree, (ks ++ [x]).length ≤ 1000000000 := fun x => by simp only [List.length_append, List.length_cons, List.length_nil]; omega
     unfold cmS
     by_cases hb : ks.length = 8 ∧ aA (ab (ac u)) = true
     ·rw [if_pos hb]
      obtain ⟨f1, f2⟩ := ln 3 t2
      obtain ⟨i1, i2⟩ := uO hE (s := aV 3 (ac u)) (by have := ep 3 (ac u); omega) f2
      exact ⟨i2, fun hQ => hJ M _ _ _ _ _ _ _ _ _ _ _ _ _ _ ⟨_, _, _, _, _, _, bD u, fun _ => ⟨_, _, _, _, _, _, t1, lc, fun _ => ⟨_, _, _, _, _, _, bD (ac u), _, nX _, fun _ => ⟨_, _, _, _, _, f1, _, _, _, _, _, _, i1, lk _, hQ⟩, fun e => by rw [hb.2] at e; cases e⟩, fun e => absurd (by rw [hb.1]; rfl) e⟩, fun e => absurd hu e⟩⟩
     ·rw [if_neg hb]
      obtain ⟨i1, i2⟩ := uO hE (s := ac u) (by omega) t2
      exact ⟨i2, fun hQ => hJ M _ _ _ _ _ _ _ _ _ _ _ _ _ _ ⟨_, _, _, _, _, _, bD u, fun _ => ⟨_, _, _, _, _, _, t1, lc, fun h16 => ⟨_, _, _, _, _, _, bD (ac u), _, nX _, fun e => absurd ⟨by omega, e⟩ hb, fun _ => ⟨_, _, _, _, _, _, i1, lk _, hQ⟩⟩, fun _ => ⟨_, _, _, _, _, _, i1, lk _, hQ⟩⟩, fun e => absurd hu e⟩⟩)
    ((cy E a.2).2.toks.length + 1) (cy E a.2).2 [] [(cy E a.2).1] (by omega) (by omega) k2 (by simp only [List.length_append, List.length_cons, List.length_nil]; omega) (by simp only [List.length_cons, List.length_nil]; omega)
   rw [← er'] at g1 g2 g3 g4 g5
   obtain ⟨q3, k3⟩ := dS (x := [41]) (by decide) g1
   rw [← ez] at q3 k3
   obtain ⟨M, hM⟩ := g5 ⟨1, hJ 0 _ _ _ _ _ _ _ _ _ _ _ _ _ _ ⟨_, _, _, _, _, _, bD r.2.2, fun e => absurd e g2, fun _ => ⟨_, _, _, _, _, _, q3, _, rfl, rfl, rfl, rfl, rfl, rfl, rfl⟩⟩⟩
   exact ⟨k3, M + 2, jK (M + 1) _ _ _ _ _ _ _ _ _ _ _ _ ⟨by decide, jO M _ _ _ _ _ _ _ _ _ _ _ _ ⟨_, rfl, _, _, _, _, _, _, q1, _, rfl, _, _, _, _, _, _, bD a.2, fun _ => ⟨_, _, _, _, _, _, q2, hM⟩, fun e => absurd e hc⟩⟩⟩
 obtain ⟨kz, M, hM⟩ := main
 rw [e]
 refine ⟨jT M _ _ _ _ _ _ _ _ _ _ _ ⟨_, _, _, _, _, _, t1, fun h1 => ⟨_, _, _, _, _, _, bD (ac s), fun e => absurd ⟨h1, e⟩ hv, fun _ => hM⟩, fun _ => hM⟩, kz⟩
theorem vt {s : PS} (h : s.toks.length ≤ n) (hn : n ≤ 1000000) (hk : Pk s) : Ag Pun s (aP E s) := by
 by_cases h13 : (ab s).kind = 1 ∨ (ab s).kind = 3
 ·have e : aP E s = jb E s := by unfold aP; rw [if_pos h13]
  obtain ⟨q, k⟩ := AB hE hL h13 h hn hk
  rw [e]
  exact ⟨jL 0 _ _ _ _ _ _ _ _ _ _ _ ⟨_, _, _, _, _, _, bD s, fun e => absurd e (show ¬ (ab s).kind = 5 by omega), fun _ => ⟨fun e => absurd e (show ¬ (ab s).kind = 6 by omega), fun _ => ⟨fun _ => ⟨_, _, _, _, _, _, q, rfl, rfl, rfl, rfl, rfl, rfl⟩, fun h1 => ⟨fun _ => ⟨_, _, _, _, _, _, q, rfl, rfl, rfl, rfl, rfl, rfl⟩, fun h3 => absurd h13 (fun o => o.elim h1 h3)⟩⟩⟩⟩, k⟩
 have top : ∀ {x : Tree} {s' : PS} (c : ∀ i : Nat, (i = if (ab s).kind = 5 then 10 else if (ab s).kind = 6 then 11 else 0) → ∃ M, dl M (gTk (ab s)) (gt s) s.off s.size s.failed s.place i x (gt s') s'.off s'.size s'.failed s'.place), Pun (gt s) s.off s.size s.failed s.place x (gt s') s'.off s'.size s'.failed s'.place := fun {x s'} c => by
  obtain ⟨M, hM⟩ := c _ rfl
  refine jL M _ _ _ _ _ _ _ _ _ _ _ ⟨_, _, _, _, _, _, bD s, fun h5 => ?_, fun h5 => ⟨fun h6 => ?_, fun h6 => ⟨fun e => absurd (.inl e) h13, fun _ => ⟨fun e => absurd (.inr e) h13, fun _ => ?_⟩⟩⟩⟩
  ·rw [if_pos (show (ab s).kind = 5 from h5)] at hM; exact hM
  ·rw [if_neg (show ¬ (ab s).kind = 5 from h5), if_pos (show (ab s).kind = 6 from h6)] at hM; exact hM
  ·rw [if_neg (show ¬ (ab s).kind = 5 from h5), if_neg (show ¬ (ab s).kind = 6 from h6)] at hM; exact hM
 unfold aP
 rw [if_neg h13]
 by_cases c1 : (ab s).text = gD
 ·obtain ⟨q, k⟩ := ei (aT (.inl (by rw [c1]; decide))) hk
  rw [if_pos c1]
  exact ⟨top fun i _ => ⟨2, cZ 1 _ _ _ _ _ _ _ _ _ _ _ _ _ ⟨fun _ => da 0 _ _ _ _ _ _ _ _ _ _ _ _ _ ⟨fun e => by simp at e, fun _ => ⟨_, _, _, _, _, _, q, rfl, rfl, rfl, rfl, rfl, rfl⟩⟩, fun e => absurd c1 e⟩⟩, k⟩
 rw [if_neg c1]
 by_cases c2 : (ab s).text = fM
 ·obtain ⟨q, k⟩ := ei (aT (.inl (by rw [c2]; decide))) hk
  rw [if_pos c2]
  exact ⟨top fun i _ => ⟨2, cZ 1 _ _ _ _ _ _ _ _ _ _ _ _ _ ⟨fun e => absurd e c1, fun _ => ⟨fun _ => da 0 _ _ _ _ _ _ _ _ _ _ _ _ _ ⟨fun e => by simp at e, fun _ => ⟨_, _, _, _, _, _, q, rfl, rfl, rfl, rfl, rfl, rfl⟩⟩, fun e => absurd c2 e⟩⟩⟩, k⟩
 rw [if_neg c2]
 by_cases c3 : (ab s).text = [63]
 ·obtain ⟨q, k⟩ := ei (aT (.inl (by rw [c3]; decide))) hk
  rw [if_pos c3]
  exact ⟨top fun i _ => ⟨2, cZ 1 _ _ _ _ _ _ _ _ _ _ _ _ _ ⟨fun e => absurd e c1, fun _ => ⟨fun e => absurd e c2, fun _ => ⟨fun _ => da 0 _ _ _ _ _ _ _ _ _ _ _ _ _ ⟨fun e => by simp at e, fun _ => ⟨_, _, _, _, _, _, q, rfl, rfl, rfl, rfl, rfl, rfl⟩⟩, fun e => absurd c3 e⟩⟩⟩⟩, k⟩
 rw [if_neg c3]
 by_cases c4 : (ab s).text = [91]
 ·obtain ⟨q, k⟩ := zA hE hL c4 h hn hk
  rw [if_pos c4]
  exact ⟨top fun i _ => ⟨1, cZ 0 _ _ _ _ _ _ _ _ _ _ _ _ _ ⟨fun e => absurd e c1, fun _ => ⟨fun e => absurd e c2, fun _ => ⟨fun e => absurd e c3, fun _ => ⟨fun _ => ⟨_, _, _, _, _, _, q, rfl, rfl, rfl, rfl, rfl, rfl⟩, fun e => absurd c4 e⟩⟩⟩⟩⟩, k⟩
 rw [if_neg c4]
 by_cases c5 : (ab s).text = [40]
 ·have hne := aT (s := s) (.inl (by rw [c5]; decide))
  have l1 := cn hne
  obtain ⟨q, k⟩ := ei hne hk
  obtain ⟨q2, k2⟩ := hE (ac s) (by omega) k
  obtain ⟨q3, k3⟩ := dS (x := [41]) (by decide) k2
  rw [if_pos c5]
  exact ⟨top fun i _ => ⟨1, cZ 0 _ _ _ _ _ _ _ _ _ _ _ _ _ ⟨fun e => absurd e c1, fun _ => ⟨fun e => absurd e c2, fun _ => ⟨fun e => absurd e c3, fun _ => ⟨fun e => absurd e c4, fun _ => ⟨fun _ => ⟨by decide, _, _, _, _, _, _, q, _, rfl, _, _, _, _, _, _, q2, _, _, _, _, _, _, q3, _, rfl, rfl, rfl, rfl, rfl, rfl, rfl⟩, fun e => absurd c5 e⟩⟩⟩⟩⟩⟩, k3⟩
 rw [if_neg c5]
 have tail : ∀ {i : Nat} {x : Tree} {s' : PS}, dk 1 (gt s) s.off s.size s.failed s.place i (ab s).text x (gt s') s'.off s'.size s'.failed s'.place → dl 2 (gTk (ab s)) (gt s) s.off s.size s.failed s.place i x (gt s') s'.off s'.size s'.failed s'.place := fun hL1 => cZ 1 _ _ _ _ _ _ _ _ _ _ _ _ _ ⟨fun e => absurd e c1, fun _ => ⟨fun e => absurd e c2, fun _ => ⟨fun e => absurd e c3, fun _ => ⟨fun e => absurd e c4, fun _ => ⟨fun e => absurd e c5, fun _ => hL1⟩⟩⟩⟩⟩
 by_cases c6 : (ab s).kind = 5
 ·obtain ⟨q, k⟩ := ei (aT (s := s) (.inr (by omega))) hk
  rw [if_pos c6]
  exact ⟨top fun i hi => ⟨2, by rw [hi, if_pos c6]; exact tail (da 0 _ _ _ _ _ _ _ _ _ _ _ _ _ ⟨fun e => by simp at e, fun _ => ⟨_, _, _, _, _, _, q, rfl, rfl, rfl, rfl, rfl, rfl⟩⟩)⟩, k⟩
 rw [if_neg c6]
 by_cases c7 : (ab s).kind = 6
 ·obtain ⟨q, k⟩ := ei (aT (s := s) (.inr (by omega))) hk
  rw [if_pos c7]
  exact ⟨top fun i hi => ⟨2, by rw [hi, if_neg c6, if_pos c7]; exact tail (da 0 _ _ _ _ _ _ _ _ _ _ _ _ _ ⟨fun e => by simp at e, fun _ => ⟨_, _, _, _, _, _, q, rfl, rfl, rfl, rfl, rfl, rfl⟩⟩)⟩, k⟩
 rw [if_neg c7]
 obtain ⟨q, k⟩ := ln 2 hk
 exact ⟨top fun i hi => ⟨2, by rw [hi, if_neg c6, if_neg c7]; exact tail (da 0 _ _ _ _ _ _ _ _ _ _ _ _ _ ⟨fun _ => ⟨_, _, _, _, _, q, rfl, rfl, rfl, rfl, rfl, rfl⟩, fun e => absurd rfl e⟩)⟩, k⟩
theorem yf : ∀ (fuel : Nat) (t : Tree) (s : PS), s.toks.length < fuel → s.toks.length ≤ n → n ≤ 1000000 → Pk s → Pk (ff (aP E) fuel t s).2 ∧ ∃ M, dJ M (gt s) s.off s.size s.failed s.place t (ff (aP E) fuel t s).1 (gt (ff (aP E) fuel t s).2) (ff (aP E) fuel t s).2.off (ff (aP E) fuel t s).2.size (ff (aP E) fuel t s).2.failed (ff (aP E) fuel t s).2.place
 | 0, t, s, h, _, _, _ => by omega
 | fuel + 1, t, s, h, hn', hn, hk => by
  have hop : mY (ab s).text = rM (ab s).text := rfl
  have ho := qh (ab s).text
  rw [ff]
  by_cases c : mY (ab s).text = true
  ·rw [if_pos c]
   have hne := aT (s := s) (.inl (fun e => by rw [e] at c; revert c; decide))
   have l1 := cn hne
   have l2 := jM hL (ac s)
   obtain ⟨q, k⟩ := ei hne hk
   obtain ⟨q2, k2⟩ := vt hE hL (s := ac s) (by omega) hn k
   obtain ⟨k3, M, hM⟩ := yf fuel (.node 21 (ab s).text [(ab s).lead] [t, (aP E (ac s)).1]) (aP E (ac s)).2 (by omega) (by omega) hn k2
   exact ⟨k3, M + 2, gQ (M + 1) _ _ _ _ _ _ _ _ _ _ _ _ ⟨_, _, _, _, _, _, bD s, _, ho, fun _ => ⟨_, _, _, _, _, _, q, _, _, _, _, _, _, q2, lb M _ _ _ _ _ _ _ _ _ _ _ _ _ hM⟩, fun e => by rw [← hop, c] at e; cases e⟩⟩
  ·rw [if_neg c]
   exact ⟨hk, 1, gQ 0 _ _ _ _ _ _ _ _ _ _ _ _ ⟨_, _, _, _, _, _, bD s, _, ho, fun e => absurd (hop.trans e) c, fun _ => ⟨rfl, rfl, rfl, rfl, rfl, rfl⟩⟩⟩
theorem yL {s : PS} (h : s.toks.length ≤ n) (hn : n ≤ 1000000) (hk : Pk s) : Ag Pex s (gy E s) := by
 unfold gy
 by_cases c1 : (ab s).text = mx
 ·have hne := aT (s := s) (.inl (by rw [c1]; decide))
  have l0 := cn hne
  have l1 := bY 1 1 (ac s)
  have l2 := aw [61] (aL 1 1 (ac s)).2.2
  have l3 := hL (ai [61] (aL 1 1 (ac s)).2.2).2
  have l4 := aw wIn (E (ai [61] (aL 1 1 (ac s)).2.2).2).2
  obtain ⟨q0, k0⟩ := ei hne hk
  obtain ⟨q1, k1⟩ := nl 1 1 k0
  obtain ⟨q2, k2⟩ := dS (x := [61]) (by decide) k1
  obtain ⟨q3, k3⟩ := hE (ai [61] (aL 1 1 (ac s)).2.2).2 (by omega) k2
  obtain ⟨q4, k4⟩ := dS (x := wIn) (by decide) k3
  obtain ⟨q5, k5⟩ := hE (ai wIn (E (ai [61] (aL 1 1 (ac s)).2.2).2).2).2 (by omega) k4
  rw [if_pos c1]
  exact ⟨eZ 0 _ _ _ _ _ _ _ _ _ _ _ ⟨_, _, _, _, _, _, bD s, fun _ => ⟨by decide, _, _, _, _, _, _, q0, _, rfl, _, _, _, _, _, _, _, q1, _, rfl, _, _, _, _, _, _, q2, _, rfl, _, _, _, _, _, _, q3, _, _, _, _, _, _, q4, _, rfl, _, _, _, _, _, _, q5, by simp, rfl, rfl, rfl, rfl, rfl, rfl⟩, fun e => absurd c1 e⟩, k5⟩
 rw [if_neg c1]
 by_cases c2 : (ab s).text = wIf
 ·have hne := aT (s := s) (.inl (by rw [c2]; decide))
  have l0 := cn hne
  have l1 := hL (ac s)
  have l2 := aw dH (E (ac s)).2
  have l3 := hL (ai dH (E (ac s)).2).2
  have l4 := aw ii (E (ai dH (E (ac s)).2).2).2
  obtain ⟨q0, k0⟩ := ei hne hk
  obtain ⟨q1, k1⟩ := hE (ac s) (by omega) k0
  obtain ⟨q2, k2⟩ := dS (x := dH) (by decide) k1
  obtain ⟨q3, k3⟩ := hE (ai dH (E (ac s)).2).2 (by omega) k2
  obtain ⟨q4, k4⟩ := dS (x := ii) (by decide) k3
  obtain ⟨q5, k5⟩ := hE (ai ii (E (ai dH (E (ac s)).2).2).2).2 (by omega) k4
  rw [if_pos c2]
  exact ⟨eZ 0 _ _ _ _ _ _ _ _ _ _ _ ⟨_, _, _, _, _, _, bD s, fun e => absurd e c1, fun _ => ⟨fun _ => ⟨by decide, _, _, _, _, _, _, q0, _, rfl, _, _, _, _, _, _, q1, _, _, _, _, _, _, q2, _, rfl, _, _, _, _, _, _, q3, by simp, _, _, _, _, _, _, q4, _, rfl, _, _, _, _, _, _, q5, by simp, rfl, rfl, rfl, rfl, rfl, rfl⟩, fun e => absurd c2 e⟩⟩, k5⟩
 rw [if_neg c2]
 have l1 := jM hL s
 obtain ⟨q1, k1⟩ := vt hE hL h hn hk
 obtain ⟨k2, M, hM⟩ := yf hE hL ((aP E s).2.toks.length + 1) (aP E s).1 (aP E s).2 (by omega) (by omega) hn k1
 exact ⟨eZ M _ _ _ _ _ _ _ _ _ _ _ ⟨_, _, _, _, _, _, bD s, fun e => absurd e c1, fun _ => ⟨fun e => absurd e c2, fun _ => ⟨_, _, _, _, _, _, q1, hM⟩⟩⟩, k2⟩
end
theorem vP : ∀ (n : Nat), n ≤ 1000000 → ∀ (s : PS), s.toks.length < n → Pk s → Ag Pex s (eD n s)
 | 0, _, s, h, hk => by omega
 | n + 1, hn, s, h, hk => yL (n := n) (fun s hs hk => vP n (by omega) s hs hk) (mI n) (by omega) (by omega) hk
open Go.RowKit Lx
def py : Bool → List UInt8 → Bool
 | c, [] => c
 | c, x :: r => py (if x.toNat = 10 then false else if x.toNat = 35 then true else c) r
theorem jg : ∀ (b : Bool) (l : List UInt8) (n m : Nat), aE b l (n + m) = ((aE b l n).1 + m, (aE b l n).2.map (· + m))
 | b, [], n, m => by cases b <;> simp [aE]
 | false, c :: r, n, m => by
  have h1 := jg false r (n + 1) m
  have h2 := jg true r (n + 1) m
  unfold aE
  split
  ·rw [← h1]; congr 1; omega
  ·split
   ·rw [← h2]; congr 1; omega
   ·simp
 | true, c :: r, n, m => by
  have h1 := jg false r (n + 1) m
  have h2 := jg true r (n + 1) m
  unfold aE
  split
  ·rw [← h1]; congr 1; omega
  ·split
   ·simp
   ·rw [← h2]; congr 1; omega
def iS (c : Bool) (l : List UInt8) : Bool := (aE c l 0).2.isNone && (aE c l 0).1 == l.length
theorem lh {c d : Bool} {x : UInt8} {r : List UInt8} (h : aE c (x :: r) 0 = aE d r 1) : iS c (x :: r) = iS d r := by
 unfold iS
 rw [h, show (1 : Nat) = 0 + 1 from rfl, jg]
 simp
theorem qn : ∀ (l : List UInt8) (c fin : Bool), cS c l fin = (iS c l && (!py c l || fin))
 | [], c, fin => by cases c <;> cases fin <;> rfl
 | x :: r, c, fin => by
  have ih := qn r
  unfold cS py
  cases c with
  | true =>
   by_cases ha : aN x = false
   ·have h10 : ¬ x.toNat = 10 := fun h => by simp [aN, bX, h] at ha
    have : iS true (x :: r) = false := by simp [iS, aE, h10, ha]
    rw [if_pos ha, this]; rfl
   ·have ha' : aN x = true := by simpa using ha
    rw [if_neg ha, if_pos rfl, ih]
    by_cases h10 : x.toNat = 10
    ·rw [lh (d := false) (by simp [aE, h10])]; simp [h10]
    ·have hb : (x.toNat == 10) = false := by simpa using h10
     rw [lh (d := true) (by simp [aE, h10, ha']), hb]; simp [h10]
  | false =>
   by_cases ha : aN x = false
   ·have hw : bX x = false := by cases h : bX x <;> simp_all [aN]
    have h35 : ¬ x.toNat = 35 := fun h => by simp [aN, dR, h] at ha
    have : iS false (x :: r) = false := by simp [iS, aE, hw, h35]
    rw [if_pos ha, this]; rfl
   ·rw [if_neg ha, if_neg (by simp)]
    by_cases h35 : x.toNat = 35
    ·have hw : bX x = false := by simp [bX, h35]
     rw [if_pos h35, ih, lh (d := true) (by simp [aE, h35, hw])]; simp [h35]
    ·rw [if_neg h35]
     by_cases hw : bX x = false
     ·have : iS false (x :: r) = false := by simp [iS, aE, hw, h35]
      rw [if_pos hw, this]; rfl
     ·have hw' : bX x = true := by simpa using hw
      rw [if_neg hw, ih, lh (d := false) (by simp [aE, hw'])]
      by_cases h10 : x.toNat = 10 <;> simp [h10, h35]
theorem rZ {l : List UInt8} {k : Nat} {x : UInt8} {c fin : Bool} (h : k < l.length) (hc : l[k] = x) : cS c (l.drop k) fin =
  if aN x = false then false else if c = true then cS (!(x.toNat == 10)) (l.drop (k + 1)) fin else if x.toNat = 35 then cS true (l.drop (k + 1)) fin else if bX x = false then false else cS c (l.drop (k + 1)) fin := by
 rw [List.drop_eq_getElem_cons h, hc]; rfl
theorem tu {l : List UInt8} {k : Nat} {c fin : Bool} (h : l.length ≤ k) : cS c (l.drop k) fin = (!c || fin) := by
 rw [List.drop_of_length_le h]; rfl
theorem Ay (x : UInt8) : ((x.toNat : Int) != 10) = !(x.toNat == 10) := by rw [Bool.eq_iff_iff]; simp; omega
open Lx
theorem jX (p : UInt8 → Bool) : ∀ (l : List UInt8) (m : Nat), spanN p l ≤ m → spanN p (l.take m) = spanN p l
 | [], m, _ => by simp [spanN]
 | c :: r, 0, h => by
  have : spanN p (c :: r) = 0 := by omega
  rw [this]; simp [spanN]
 | c :: r, m + 1, h => by
  unfold spanN at *
  simp only [List.take_succ_cons, List.takeWhile_cons] at *
  split at h
  ·rename_i hp
   simp only [hp, if_true, List.length_cons] at *
   have := jX p r m (by unfold spanN; omega)
   unfold spanN at this
   omega
  ·rename_i hp; simp [hp]
theorem hW (l : List UInt8) (m k : Nat) (h : k < m) : (l.take m).getD k 0 = l.getD k 0 := by
 simp only [List.getD]
 rw [List.getElem?_take_of_lt h]
theorem oz {c : UInt8} (h : bj c = true) : aU c = true := by simp [aU, h]
theorem re {l : List UInt8} (h : cb l = true) : upperB (l.getD 0 0) = true ∧ gk (l.take (spanN aU l)) = false ∧ spanN aU l + 1 < l.length ∧ (l.getD (spanN aU l) 0).toNat = 46 ∧ bj (l.getD (spanN aU l + 1) 0) = true := by
 unfold cb at h
 simp only [Bool.and_eq_true, decide_eq_true_eq, beq_iff_eq, Bool.not_eq_true'] at h
 obtain ⟨⟨⟨⟨h1, h2⟩, h3⟩, h4⟩, h5⟩ := h
 exact ⟨h1, h2, h3, h4, h5⟩
theorem tB {l : List UInt8} {n : Nat} (hn : spanN aU l = n) (h1 : upperB (l.getD 0 0) = true) (h2 : gk (l.take n) = false) (h3 : n + 1 < l.length) (h4 : (l.getD n 0).toNat = 46) (h5 : bj (l.getD (n + 1) 0) = true) : cb l = true := by
 subst hn
 unfold cb
 rw [h1, h2, h5]
 simp [h3, h4, -List.getD_eq_getElem?_getD]
theorem vd {l : List UInt8} {k m : Nat} (h0 : 0 < l.length) (hc : bj (l.getD 0 0) = true) (h : bQ l = (k, m, 0)) : bQ (l.take m) = (k, m, 0) := by
 have hpos : 0 < spanN aU l := jQ h0 (oz hc)
 have hle := gq aU l
 unfold bQ at h
 by_cases hcond : cb l = true
 ·rw [if_pos hcond] at h
  obtain ⟨c1, c2, c3, c4, c5⟩ := re hcond
  generalize hn : spanN aU l = n at *
  generalize hm' : spanN aU (l.drop (n + 1)) = m' at *
  have hm0 : 0 < m' := by rw [← hm']; exact jQ (by simp; omega) (by rw [mN]; exact oz c5)
  have hm : m = n + 1 + m' := by
   unfold dC at h
   split at h
   ·simp at h
   ·split at h
    ·simp at h
    ·split at h <;> (simp at h; omega)
  have hml : n + 1 + m' ≤ l.length := by have := gq aU (l.drop (n + 1)); rw [hm'] at this; simp at this; omega
  have e1 : spanN aU (l.take m) = n := by rw [jX _ _ _ (by omega), hn]
  have e2 : (l.take m).take n = l.take n := by rw [List.take_take]; congr 1; omega
  have hc' : cb (l.take m) = true := tB e1 (by rw [hW _ _ _ (by omega)]; exact c1) (by rw [e2]; exact c2) (by simp; omega) (by rw [hW _ _ _ (by omega)]; exact c4) (by rw [hW _ _ _ (by omega)]; exact c5)
  have e3 : spanN aU ((l.take m).drop (n + 1)) = m' := by rw [List.drop_take, jX _ _ _ (by omega), hm']
  rw [oF e1 e3 hc', ← h]
  unfold dC
  rw [List.drop_take, List.take_take, hW _ _ _ (by omega)]
  have : min m' (m - (n + 1)) = m' := by omega
  rw [this]
 ·rw [if_neg hcond] at h
  generalize hn : spanN aU l = n at *
  have hm : m = n := by
   unfold bO at h
   split at h
   ·simp at h
   ·split at h
    ·simp at h; omega
    ·split at h <;> (simp at h; omega)
  subst hm
  have e1 : spanN aU (l.take m) = m := by rw [jX _ _ _ (by omega), hn]
  have hc' : cb (l.take m) = false := tf e1 (by simp; omega)
  rw [fS e1 hc', ← h]
  unfold bO
  rw [List.take_take, hW _ _ _ (by omega), Nat.min_self]
theorem oD : ∀ (r : List UInt8) (i m : Nat), quotedT r i = (i + m, 0) → quotedT (r.take m) i = (i + m, 0)
 | [], i, m, h => by simp [quotedT] at h
 | c :: r, i, 0, h => by
  have := (ni (c :: r) i).2 (by rw [h])
  rw [h] at this
  simp at this
 | c :: r, i, m + 1, h => by
  simp only [List.take_succ_cons]
  unfold quotedT at h ⊢
  split
  ·rename_i ha; rw [if_pos ha] at h; simp at h
  ·rename_i ha; rw [if_neg ha] at h
   split
   ·rename_i hq; rw [if_pos hq] at h; simpa using h
   ·rename_i hq; rw [if_neg hq] at h
    split
    ·rename_i hb; rw [if_pos hb] at h; simp at h
    ·rename_i hb; rw [if_neg hb] at h
     have := oD r (i + 1) m (by rw [h]; congr 1; omega)
     rw [this]; congr 1; omega
theorem sY {l : List UInt8} {m : Nat} (h0 : 0 < spanN bx l) (h : dn l = (m, 0)) : dn (l.take m) = (m, 0) := by
 have hn : m = spanN bx l := by
  unfold dn at h
  simp only at h
  split at h
  ·simp at h
  ·split at h
   ·simp at h
   ·simpa using h.symm
 subst hn
 have e1 : spanN bx (l.take (spanN bx l)) = spanN bx l := jX _ _ _ (Nat.le_refl _)
 unfold dn at h ⊢
 rw [e1, hW _ _ _ h0]
 exact h
theorem tq {l : List UInt8} {k m : Nat} (h0 : 0 < l.length) (h : tokenT l = (k, m, 0)) : tokenT (l.take m) = (k, m, 0) := by
 have hlen := jW h0
 rw [h] at hlen
 simp only at hlen
 have hm0 : 0 < m := hlen.2 trivial
 have hg : (l.take m).getD 0 0 = l.getD 0 0 := hW _ _ _ hm0
 have ht0 : 0 < (l.take m).length := by simp; omega
 have hpos : 0 < l.length := h0
 unfold tokenT at h ⊢
 simp only at h ⊢
 rw [hg]
 by_cases ha : aN (l.getD 0 0) = false
 ·rw [if_pos ha] at h; simp at h
 rw [if_neg ha] at h ⊢
 by_cases hl : bj (l.getD 0 0) = true
 ·rw [if_pos hl] at h ⊢; exact vd h0 hl h
 rw [if_neg hl] at h ⊢
 by_cases hd : bx (l.getD 0 0) = true
 ·rw [if_pos hd] at h ⊢
  simp only [Prod.mk.injEq] at h
  rw [sY (m := m) (jQ h0 hd) h.2, h.1]
 rw [if_neg hd] at h ⊢
 by_cases hq : (l.getD 0 0).toNat = 34
 ·rw [if_pos hq] at h ⊢
  simp only [Prod.mk.injEq] at h
  have hr : quotedT l.tail 1 = (m, 0) := h.2
  have e : (l.take m).tail = l.tail.take (m - 1) := by
   cases l with
   | nil => simp
   | cons c r => obtain ⟨m', rfl⟩ : ∃ m', m = m' + 1 := ⟨m - 1, by omega⟩; simp
  rw [e, oD l.tail 1 (m - 1) (by rw [hr]; congr 1; omega), h.1]
  congr 2; omega
 rw [if_neg hq] at h ⊢
 by_cases he : (l.getD 0 0).toNat = 61 ∧ 1 < l.length ∧ (l.getD 1 0).toNat = 61
 ·rw [if_pos he] at h
  simp only [Prod.mk.injEq] at h
  obtain ⟨rfl, rfl, _⟩ := h
  rw [if_pos ⟨he.1, by simp; omega, by rw [hW _ _ _ (by omega)]; exact he.2.2⟩]
 ·rw [if_neg he] at h
  by_cases hs : signs.contains (l.getD 0 0) = true
  ·rw [if_pos hs] at h
   simp only [Prod.mk.injEq] at h
   obtain ⟨rfl, rfl, _⟩ := h
   rw [if_neg (by intro hh; have := hh.2.1; simp at this; omega), if_pos hs]
  ·rw [if_neg hs] at h; simp at h
theorem ve {l : List UInt8} {k m : Nat} (h : bQ l = (k, m, 0)) : k ≠ 0 := by
 unfold bQ at h
 split at h
 ·unfold dC at h
  split at h
  ·simp at h
  ·split at h
   ·simp at h
   ·split at h <;> (simp at h; omega)
 ·unfold bO at h
  split at h
  ·simp at h
  ·split at h
   ·simp at h; omega
   ·split at h <;> (simp at h; omega)
theorem tA {l : List UInt8} {k m : Nat} (h : tokenT l = (k, m, 0)) : k ≠ 0 := by
 unfold tokenT at h
 simp only at h
 split at h
 ·simp at h
 split at h
 ·exact ve h
 split at h
 ·simp at h; omega
 split at h
 ·simp at h; omega
 split at h
 ·simp at h; omega
 split at h
 ·simp at h; omega
 ·simp at h
theorem rg {l : List UInt8} {k m : Nat} (h0 : 0 < l.length) (h : tokenT l = (k, m, 0)) : bm (l.take m) = k := by
 have hlen := jW h0
 rw [h] at hlen
 simp only at hlen
 have hm0 : 0 < m := hlen.2 trivial
 have ht := tq h0 h
 have hne : l.take m ≠ [] := by intro e; have := congrArg List.length e; simp only [List.length_take, List.length_nil] at this; omega
 unfold bm
 rw [if_neg hne, ht, if_pos ⟨rfl, by simp; omega⟩]
theorem rk : ∀ (l : List UInt8) (c : Bool) (n : Nat), aE c l 0 = (n, none) → n < l.length → cS c (l.take n) false = true
 | [], c, n, h, hn => by simp at hn
 | x :: r, c, n, h, hn => by
  have ih := rk r
  have step : ∀ d : Bool, aE c (x :: r) 0 = aE d r 1 → ∃ n', n = n' + 1 ∧ aE d r 0 = (n', none) ∧ n' < r.length := fun d hd => by
   rw [hd, show (1 : Nat) = 0 + 1 from rfl, jg] at h
   simp only [Prod.mk.injEq, Option.map_eq_none_iff] at h
   refine ⟨(aE d r 0).1, h.1.symm, ?_, ?_⟩
   ·rw [← h.2]
   ·simp only [List.length_cons] at hn; omega
  cases c with
  | false =>
   by_cases hw : bX x = true
   ·obtain ⟨n', rfl, h1, h2⟩ := step false (by simp [aE, hw])
    have ha : aN x = true := by simp [aN, hw]
    have h35 : ¬ x.toNat = 35 := fun e => by simp [bX, e] at hw
    simp only [List.take_succ_cons, cS]
    rw [if_neg (by simp [ha]), if_neg (by simp), if_neg h35, if_neg (by simp [hw])]
    exact ih false n' h1 h2
   ·by_cases h35 : x.toNat = 35
    ·obtain ⟨n', rfl, h1, h2⟩ := step true (by simp [aE, hw, h35])
     have ha : aN x = true := by simp [aN, dR, h35]
     simp only [List.take_succ_cons, cS]
     rw [if_neg (by simp [ha]), if_neg (by simp), if_pos h35]
     exact ih true n' h1 h2
    ·have : aE false (x :: r) 0 = (0, none) := by simp [aE, hw, h35]
     rw [this] at h
     simp only [Prod.mk.injEq] at h
     rw [← h.1]; rfl
  | true =>
   by_cases h10 : x.toNat = 10
   ·obtain ⟨n', rfl, h1, h2⟩ := step false (by simp [aE, h10])
    have ha : aN x = true := by simp [aN, bX, h10]
    simp only [List.take_succ_cons, cS]
    rw [if_neg (by simp [ha]), if_pos trivial]
    simp only [h10, beq_self_eq_true, Bool.not_true]
    exact ih false n' h1 h2
   ·by_cases ha : aN x = true
    ·obtain ⟨n', rfl, h1, h2⟩ := step true (by simp [aE, h10, ha])
     simp only [List.take_succ_cons, cS]
     rw [if_neg (by simp [ha]), if_pos trivial]
     have : (!(x.toNat == 10)) = true := by simp [h10]
     rw [this]
     exact ih true n' h1 h2
    ·have : aE true (x :: r) 0 = (0, some 0) := by simp [aE, h10, ha]
     rw [this] at h
     simp at h
def tL (t : TokZ) : Prop := (bm t.text : Int) = t.kind ∧ t.kind ≠ 0 ∧ cS false t.lead false = true
theorem pf : ∀ (f : Nat) (l : List UInt8) (pos : Nat) (acc : List TokZ), l.length < f → (scanT f l pos acc).err = 0 →
  ∃ ts, (scanT f l pos acc).toks = acc ++ ts ∧ nS ts (scanT f l pos acc).tail = l ∧ (∀ t ∈ ts, tL t) ∧ cS false (scanT f l pos acc).tail true = true ∧ ts.length ≤ l.length
 | 0, l, pos, acc, hf, _ => by omega
 | f + 1, l, pos, acc, hf, he => by
  obtain ⟨n, b, hLd⟩ : ∃ n b, aE false l 0 = (n, b) := ⟨_, _, rfl⟩
  cases b with
  | some q => rw [oH hLd] at he; simp at he
  | none =>
   by_cases hn : n = l.length
   ·rw [mP hLd hn] at he ⊢
    refine ⟨[], by simp, rfl, by simp, ?_, by simp⟩
    rw [qn]
    simp [iS, hLd, hn]
   ·have hnl : n < l.length := by have h := kX false l 0; rw [hLd] at h; simp at h; omega
    have hd0 : 0 < (l.drop n).length := by simp; omega
    obtain ⟨k, m, e, hT⟩ : ∃ k m e, tokenT (l.drop n) = (k, m, e) := ⟨_, _, _, rfl⟩
    by_cases he0 : e = 0
    ·subst he0
     have hlen := jW hd0
     rw [hT] at hlen
     simp only [List.length_drop] at hlen
     have hm0 := hlen.2 trivial
     rw [oJ hLd hn hT] at he ⊢
     obtain ⟨ts, h1, h2, h3, h4, h5⟩ := pf f (l.drop (n + m)) (pos + n + m) (acc ++ [⟨k, l.take n, (l.drop n).take m⟩]) (by simp; omega) he
     refine ⟨⟨k, l.take n, (l.drop n).take m⟩ :: ts, by rw [h1]; simp, ?_, ?_, h4, by simp at h5 ⊢; omega⟩
     ·simp only [nS]
      rw [h2, ← List.drop_drop, List.append_assoc, List.take_append_drop, List.take_append_drop]
     ·intro t ht
      rcases List.mem_cons.1 ht with rfl | ht
      ·refine ⟨?_, ?_, rk l false n hLd hnl⟩
       ·simp only; rw [rg hd0 hT]
       ·simp only; have := tA hT; omega
      ·exact h3 t ht
    ·rw [oG hLd hn hT he0] at he; simp only at he; omega
theorem qp {l : List UInt8} (h : (scan l).err = 0) : nS (scan l).toks (scan l).tail = l ∧ (∀ t ∈ (scan l).toks, tL t) ∧ cS false (scan l).tail true = true ∧ (scan l).toks.length ≤ l.length ∧ l.length ≤ 4096 := by
 unfold scan at h ⊢
 by_cases h4 : 4096 < l.length
 ·rw [if_pos h4] at h; simp at h
 ·rw [if_neg h4] at h ⊢
  obtain ⟨ts, h1, h2, h3, h4', h5⟩ := pf _ l 0 [] (Nat.lt_succ_self _) h
  rw [List.nil_append] at h1
  rw [h1]
  exact ⟨h2, h3, h4', h5, by omega⟩
mutual
def depK : Tree → Nat
 | .node _ _ _ ks => depKs ks + 1
def depKs : List Tree → Nat
 | [] => 0
 | t :: r => max (depK t) (depKs r)
end
theorem yB (t : Tree) : depK t = depKs t.kids + 1 := by cases t; simp only [depK]; rfl
mutual
def cntK : Tree → Nat
 | .node _ _ _ ks => cntKs ks + 1
def cntKs : List Tree → Nat
 | [] => 0
 | t :: r => cntK t + cntKs r
end
theorem oW (t : Tree) : cntK t = cntKs t.kids + 1 := by cases t; simp only [cntK]; rfl
theorem tR : ∀ ks : List Tree, ks.length ≤ cntKs ks
 | [] => Nat.le_refl _
 | t :: r => by have := tR r; have := oW t; simp only [cntKs, List.length_cons]; omega
theorem oS : ∀ {ks : List Tree} {i : Nat} {u : Tree}, ks[i]? = some u → cntK u ≤ cntKs ks
 | [], i, t, h => by simp at h
 | u :: r, 0, t, h => by simp only [List.getElem?_cons_zero, Option.some.injEq] at h; subst h; simp only [cntKs]; omega
 | u :: r, i + 1, t, h => by have := oS (ks := r) (i := i) (by simpa using h); simp only [cntKs]; omega
mutual
theorem dep_cnt : ∀ t : Tree, depK t ≤ cntK t
 | .node _ _ _ ks => by have := dep_cnts ks; simp only [cntK, depK]; omega
theorem dep_cnts : ∀ ks : List Tree, depKs ks ≤ cntKs ks
 | [] => Nat.le_refl _
 | t :: r => by have := dep_cnt t; have := dep_cnts r; simp only [cntKs, depKs]; omega
end
theorem tI {L : Nat → Tree → Int → Nat → Int → Prop} {S : Tree → Int → Prop} (t : Tree) (ht : cntK t ≤ 1000000000) (hS : ∀ (i : Nat) (u : Tree), t.kids[i]? = some u → S u (depK u))
  (r : ∀ m (z : Int) (i : Nat) (x : Int), ((i < t.kids.length) → ∃ u, t.kids[i]? = some u ∧ ∃ n, S u n ∧ i + 1 ≤ 9223372036854775807 ∧ L m t (max z n) (i + 1) x) ∧ ((¬ i < t.kids.length) → InI (z + 1) ∧ z + 1 = x) → L (m + 1) t z i x) : ∃ m, L m t 0 0 (depK t) := by
 have hc := oW t
 have hl := tR t.kids
 have hd := dep_cnts t.kids
 have loop : ∀ k i (z : Nat), t.kids.length - i ≤ k → z ≤ 1000000000 → L (k + 1) t z i ((max z (depKs (t.kids.drop i)) + 1 : Nat) : Int) := fun k => by
  have fin : ∀ m i (z : Nat), ¬ i < t.kids.length → z ≤ 1000000000 → L (m + 1) t z i ((max z (depKs (t.kids.drop i)) + 1 : Nat) : Int) := fun m i z hi hz => r m _ _ _ ⟨fun h => absurd h hi, fun _ => ⟨by constructor <;> omega, by rw [List.drop_of_length_le (by omega)]; simp only [depKs]; omega⟩⟩
  induction k with
  | zero => intro i z hi hz; exact fin 0 i z (by omega) hz
  | succ k ihk =>
   intro i z hi hz
   obtain ⟨u, hu, hul⟩ | h' := lA t.kids i
   ·have h1 := oS hu
    have h2 := dep_cnt u
    have := ihk (i + 1) (max z (depK u)) (by omega) (by omega)
    refine r (k + 1) _ _ _ ⟨fun _ => ⟨u, hu, _, hS i u hu, by omega, ?_⟩, fun h => absurd hul h⟩
    rw [kP hu, depKs]
    rw [show max ((z : Nat) : Int) ((depK u : Nat) : Int) = ((max z (depK u) : Nat) : Int) by omega, ← Nat.max_assoc]
    exact this
   ·exact fin _ i z h' hz
 have := loop t.kids.length 0 0 (by omega) (by omega)
 rw [List.drop_zero, Nat.zero_max, ← yB] at this
 exact ⟨_, this⟩
theorem wE : ∀ t : Tree, cntK t ≤ 1000000000 → gN t (depK t) := kK fun t ih ht => by
 have hc := oW t
 obtain ⟨m, hm⟩ := tI (L := iR) (S := gN) t ht (fun i u hu => ih i u hu (by have := oS hu; omega)) (fun m z i x h => pT m t z i x h)
 exact qG m _ _ hm
theorem lp : ∀ (a b : List Tree), cntKs (a ++ b) = cntKs a + cntKs b
 | [], b => by simp [cntKs]
 | t :: r, b => by simp only [List.cons_append, cntKs, lp r b]; omega
theorem nY : ∀ (n : Nat) (s : PS), cntK (gd n s).1 + 30 * (gd n s).2.toks.length ≤ 30 * s.toks.length + 8
 | 0, s => by
  show cntKs [] + 1 + 30 * s.toks.length ≤ _
  simp only [cntKs]; omega
 | n + 1, s => by
  have h0 := gp s
  have h1 := bY 2 4 s
  have h2 := aw [93] (gd n (ac s)).2
  have h3 := nY n (ac s)
  unfold gd
  split
  ·simp only [cntK, cntKs]; omega
  split
  ·simp only [cntK, cntKs]; omega
  split
  ·simp only [cntK, cntKs]; omega
  split
  ·rename_i h
   have := cn (aT (s := s) (.inl (by rw [h]; decide)))
   simp only [cntK, cntKs]; omega
  ·simp only [cntK, cntKs]; omega
theorem uD (n : Nat) (s : PS) : cntK (aQ n s).1 + 30 * (aQ n s).2.toks.length ≤ 30 * s.toks.length + 10 := by
 have h1 := bY 1 1 s
 have h2 := aw [58] (aL 1 1 s).2.2
 have h3 := nY n (ai [58] (aL 1 1 s).2.2).2
 simp only [aQ, cntK, cntKs]; omega
theorem oa {item : PS → Tree × PS} (h : ∀ s, cntK (item s).1 + 30 * (item s).2.toks.length ≤ 30 * s.toks.length + 10) {most : Nat} {beg : TokZ → Bool} : ∀ (m : Nat) (cs : List (List UInt8)) (ks : List Tree) (s : PS), cntKs (commaF item most beg m cs ks s).2.1 + 30 * (commaF item most beg m cs ks s).2.2.toks.length ≤ cntKs ks + 30 * s.toks.length
 | 0, cs, ks, s => Nat.le_refl _
 | m + 1, cs, ks, s => by
  by_cases h1 : (ab s).text = [44]
  ·have e : commaF item most beg (m + 1) cs ks s = commaF item most beg m (cs ++ [(ab s).lead]) (ks ++ [(item (cmS most beg ks s)).1]) (item (cmS most beg ks s)).2 := by
    rw [commaF, if_pos h1]; rfl
   have h0 := cn (aT (s := s) (.inl (by rw [h1]; decide)))
   have h2 : (cmS most beg ks s).toks.length ≤ (ac s).toks.length := by
    unfold cmS
    split
    ·exact ep 3 _
    ·exact Nat.le_refl _
   have h3 := h (cmS most beg ks s)
   have h4 := oa h (most := most) (beg := beg) m (cs ++ [(ab s).lead]) (ks ++ [(item (cmS most beg ks s)).1]) (item (cmS most beg ks s)).2
   rw [lp] at h4
   simp only [cntKs] at h4
   rw [e]; omega
  ·rw [commaF, if_neg h1]; exact Nat.le_refl _
theorem sN {item : PS → Tree × PS} (h : ∀ s, cntK (item s).1 + 30 * (item s).2.toks.length ≤ 30 * s.toks.length + 10) {most : Nat} {beg : TokZ → Bool} (s : PS) : cntKs (cJ item most beg s).2.1 + 30 * (cJ item most beg s).2.2.toks.length ≤ 30 * s.toks.length + 10 := by
 unfold cJ
 split
 ·simp only [cntKs]; omega
 ·have h1 := h s
  have h2 := oa h (most := most) (beg := beg) ((item s).2.toks.length + 1) [] [(item s).1] (item s).2
  simp only [cntKs] at h2
  omega
section
variable {E : PS → Tree × PS} (h : ∀ s, cntK (E s).1 + 30 * (E s).2.toks.length ≤ 30 * s.toks.length + 8)
include h
theorem wX (s : PS) : cntK (cy E s).1 + 30 * (cy E s).2.toks.length ≤ 30 * s.toks.length + 10 := by
 have := h s
 simp only [cy, cntK, cntKs]; omega
theorem rq (s : PS) : cntK (aP E s).1 + 30 * (aP E s).2.toks.length ≤ 30 * s.toks.length + 8 := by
 have h0 := gp s
 have hf := ep 2 s
 have leaf : ∀ (k : Int) (x : List UInt8) (l : List (List UInt8)), cntK (.node k x l []) + 30 * (ac s).toks.length ≤ 30 * s.toks.length + 8 := fun k x l => by simp only [cntK, cntKs]; omega
 unfold aP
 simp only
 split
 ·rename_i h1
  have ht := cn (aT (s := s) (.inr (by omega)))
  unfold jb
  split
  ·exact leaf _ _ _
  ·have e1 := aw [40] (ac s)
   have e2 := sN (wX h) (most := 8) (beg := aA) (ai [40] (ac s)).2
   have e3 := aw [41] (cJ (cy E) 8 aA (ai [40] (ac s)).2).2.2
   simp only [cntK]; omega
 split
 ·exact leaf _ _ _
 split
 ·exact leaf _ _ _
 split
 ·exact leaf _ _ _
 split
 ·rename_i h4
  have e1 := kR (x := [91]) (by decide) h4
  have e2 := h (ai [91] s).2
  have e3 := oa (item := E) (fun s => Nat.le_trans (h s) (by omega)) (most := 16) (beg := aA) ((E (ai [91] s).2).2.toks.length + 1) [] [(E (ai [91] s).2).1] (E (ai [91] s).2).2
  have e4 := aw [93] (commaF E 16 aA ((E (ai [91] s).2).2.toks.length + 1) [] [(E (ai [91] s).2).1] (E (ai [91] s).2).2).2.2
  simp only [cntKs] at e3
  simp only [mJ, cntK]; omega
 split
 ·rename_i h5
  have ht := cn (aT (s := s) (.inl (by rw [h5]; decide)))
  have e1 := h (ac s)
  have e2 := aw [41] (E (ac s)).2
  simp only [qx, cntK, cntKs]; omega
 split
 ·exact leaf _ _ _
 split
 ·exact leaf _ _ _
 ·show cntKs [] + 1 + _ ≤ _
  simp only [cntKs]; omega
theorem rY : ∀ (m : Nat) (t : Tree) (s : PS), cntK (ff (aP E) m t s).1 + 30 * (ff (aP E) m t s).2.toks.length ≤ cntK t + 30 * s.toks.length
 | 0, t, s => Nat.le_refl _
 | m + 1, t, s => by
  rw [ff]
  split
  ·rename_i c
   have ht := cn (aT (s := s) (.inl (fun e => by rw [e] at c; revert c; decide)))
   have e1 := rq h (ac s)
   have e2 := rY m (.node 21 (ab s).text [(ab s).lead] [t, (aP E (ac s)).1]) (aP E (ac s)).2
   simp only [cntK, cntKs] at e2
   omega
  ·exact Nat.le_refl _
theorem vX (s : PS) : cntK (gy E s).1 + 30 * (gy E s).2.toks.length ≤ 30 * s.toks.length + 8 := by
 unfold gy
 split
 ·rename_i c
  have ht := cn (aT (s := s) (.inl (by rw [c]; decide)))
  have l1 := bY 1 1 (ac s)
  have l2 := aw [61] (aL 1 1 (ac s)).2.2
  have e1 := h (ai [61] (aL 1 1 (ac s)).2.2).2
  have l4 := aw wIn (E (ai [61] (aL 1 1 (ac s)).2.2).2).2
  have e2 := h (ai wIn (E (ai [61] (aL 1 1 (ac s)).2.2).2).2).2
  simp only [uy, cntK, cntKs]; omega
 split
 ·rename_i c
  have ht := cn (aT (s := s) (.inl (by rw [c]; decide)))
  have e1 := h (ac s)
  have l2 := aw dH (E (ac s)).2
  have e2 := h (ai dH (E (ac s)).2).2
  have l4 := aw ii (E (ai dH (E (ac s)).2).2).2
  have e3 := h (ai ii (E (ai dH (E (ac s)).2).2).2).2
  simp only [ifF, cntK, cntKs]; omega
 ·have e1 := rq h s
  have e2 := rY h ((aP E s).2.toks.length + 1) (aP E s).1 (aP E s).2
  omega
end
theorem rG : ∀ (n : Nat) (s : PS), cntK (eD n s).1 + 30 * (eD n s).2.toks.length ≤ 30 * s.toks.length + 8
 | 0, s => by
  show cntKs [] + 1 + 30 * s.toks.length ≤ _
  simp only [cntKs]; omega
 | n + 1, s => vX (rG n) s
theorem rJ {n : Nat} {s : PS} (hd : (ab s).text = dQ) : cntK (bI n s).1 + 30 * (bI n s).2.toks.length ≤ 30 * s.toks.length := by
 have l0 := kR (x := dQ) (by decide) hd
 obtain ⟨a, ea⟩ : ∃ a, a = ai dQ s := ⟨_, rfl⟩
 obtain ⟨b, eb⟩ : ∃ b, b = aL 1 1 a.2 := ⟨_, rfl⟩
 obtain ⟨c, ec⟩ : ∃ c, c = ai [40] b.2.2 := ⟨_, rfl⟩
 obtain ⟨r, er⟩ : ∃ r, r = cJ (aQ n) 8 (fun t => t.kind == 1) c.2 := ⟨_, rfl⟩
 obtain ⟨d, ed⟩ : ∃ d, d = ai [41] r.2.2 := ⟨_, rfl⟩
 obtain ⟨e, ee⟩ : ∃ e, e = ai [58] d.2 := ⟨_, rfl⟩
 obtain ⟨t, et⟩ : ∃ t, t = gd n e.2 := ⟨_, rfl⟩
 obtain ⟨g, eg⟩ : ∃ g, g = ai [61] t.2 := ⟨_, rfl⟩
 obtain ⟨x, ex⟩ : ∃ x, x = eD n g.2 := ⟨_, rfl⟩
 have ef : bI n s = (.node 2 b.1 ([a.1, b.2.1, c.1, d.1, e.1, g.1] ++ r.1) (r.2.1 ++ [t.1, x.1]), x.2) := by rw [ex, eg, et, ee, ed, er, ec, eb, ea]; rfl
 have l1 := bY 1 1 a.2
 have l2 := aw [40] b.2.2
 have l3 := sN (uD n) (most := 8) (beg := fun t => t.kind == 1) c.2
 have l4 := aw [41] r.2.2
 have l5 := aw [58] d.2
 have l6 := nY n e.2
 have l7 := aw [61] t.2
 have l8 := rG n g.2
 rw [← ea] at l0
 rw [← eb] at l1
 rw [← ec] at l2
 rw [← er] at l3
 rw [← ed] at l4
 rw [← ee] at l5
 rw [← et] at l6
 rw [← eg] at l7
 rw [← ex] at l8
 rw [ef]
 simp only [cntK, lp, cntKs]; omega
theorem uN {n : Nat} {s : PS} (hd : (ab s).text = cz) : cntK (fh n s).1 + 30 * (fh n s).2.toks.length ≤ 30 * s.toks.length := by
 have l0 := kR (x := cz) (by decide) hd
 have l1 := bY 2 2 (ai cz s).2
 have l2 := aw [61] (aL 2 2 (ai cz s).2).2.2
 have l3 := nY n (ai [61] (aL 2 2 (ai cz s).2).2.2).2
 simp only [fh, cntK, cntKs]; omega
theorem lr {n : Nat} : ∀ (m : Nat) (ks : List Tree) (s : PS), cntKs (cD n m ks s).1 ≤ cntKs ks + 30 * s.toks.length
 | 0, ks, s => Nat.le_add_right _ _
 | m + 1, ks, s => by
  have hf := fun e => ep e s
  rw [cD]
  split
  ·exact Nat.le_add_right _ _
  split
  ·have := lr (n := n) m ks (aV 2 s); have := hf 2; omega
  split
  ·have := lr (n := n) m ks (aV 3 s); have := hf 3; omega
  split
  ·rename_i hd
   have h1 := rJ (n := n) hd
   have h2 := lr (n := n) m (ks ++ [(bI n s).1]) (bI n s).2
   rw [lp] at h2
   simp only [cntKs] at h2
   omega
  ·rename_i h1 h2 h3 hd
   have hd' : (ab s).text = cz := Classical.byContradiction fun e => h2 ⟨hd, e⟩
   have h1 := uN (n := n) hd'
   have h2 := lr (n := n) m (ks ++ [(fh n s).1]) (fh n s).2
   rw [lp] at h2
   simp only [cntKs] at h2
   omega
mutual
theorem depthT_K : ∀ t : Tree, depthT t = depK t
 | .node _ _ _ ks => by simp only [depthT, depK, depthsT_K ks]
theorem depthsT_K : ∀ ks : List Tree, depthsT ks = depKs ks
 | [] => rfl
 | t :: r => by simp only [depthsT, depKs, depthT_K t, depthsT_K r]
end
abbrev Pfu := fun (a : List GToken) (o s f z : Int) (x : Tree) (b : List GToken) (o' s' f' z' : Int) => fT a o s f z x b o' s' f' z'
theorem vk {n : Nat} {s : PS} (h : s.toks.length < n) (hn : n ≤ 1000000) (hk : Pk s) : Ag Pfu s (bI n s) := by
 obtain ⟨a, ea⟩ : ∃ a, a = ai dQ s := ⟨_, rfl⟩
 obtain ⟨b, eb⟩ : ∃ b, b = aL 1 1 a.2 := ⟨_, rfl⟩
 obtain ⟨c, ec⟩ : ∃ c, c = ai [40] b.2.2 := ⟨_, rfl⟩
 obtain ⟨r, er⟩ : ∃ r, r = cJ (aQ n) 8 (fun t => t.kind == 1) c.2 := ⟨_, rfl⟩
 obtain ⟨d, ed⟩ : ∃ d, d = ai [41] r.2.2 := ⟨_, rfl⟩
 obtain ⟨e, ee⟩ : ∃ e, e = ai [58] d.2 := ⟨_, rfl⟩
 obtain ⟨t, et⟩ : ∃ t, t = gd n e.2 := ⟨_, rfl⟩
 obtain ⟨g, eg⟩ : ∃ g, g = ai [61] t.2 := ⟨_, rfl⟩
 obtain ⟨x, ex⟩ : ∃ x, x = eD n g.2 := ⟨_, rfl⟩
 have ef : bI n s = (.node 2 b.1 ([a.1, b.2.1, c.1, d.1, e.1, g.1] ++ r.1) (r.2.1 ++ [t.1, x.1]), x.2) := by rw [ex, eg, et, ee, ed, er, ec, eb, ea]; rfl
 have l0 := aw dQ s
 have l1 := bY 1 1 a.2
 have l2 := aw [40] b.2.2
 have l3 := nD (item := aQ n) (ig n) (most := 8) (beg := fun t => t.kind == 1) c.2
 have l4 := aw [41] r.2.2
 have l5 := aw [58] d.2
 have l6 := kZ n e.2
 have l7 := aw [61] t.2
 obtain ⟨q0, k0⟩ := dS (x := dQ) (by decide) hk
 rw [← ea] at l0 q0 k0
 obtain ⟨q1, k1⟩ := nl 1 1 k0
 rw [← eb] at l1 q1 k1
 obtain ⟨q2, k2⟩ := dS (x := [40]) (by decide) k1
 simp only at q2 k2
 rw [← ec] at l2 q2 k2
 rw [← er] at l3
 rw [← ed] at l4
 rw [← ee] at l5
 rw [← et] at l6
 rw [← eg] at l7
 have tail : Pk r.2.2 → r.2.1.length ≤ 1000000 → (Ag (Pw [41]) r.2.2 d ∧ Ag (Pw [58]) d.2 e ∧ Ag Pty e.2 t ∧ Ag (Pw [61]) t.2 g ∧ Ag Pex g.2 x) := fun kr _ => by
  have q4 := dS (x := [41]) (by decide) kr
  rw [← ed] at q4
  have q5 := dS (x := [58]) (by decide) q4.2
  rw [← ee] at q5
  have q6 := rV n e.2 (by omega) q5.2
  rw [← et] at q6
  have q7 := dS (x := [61]) (by decide) q6.2
  rw [← eg] at q7
  have q8 := vP n hn g.2 (by omega) q7.2
  rw [← ex] at q8
  exact ⟨q4, q5, q6, q7, q8⟩
 rw [ef]
 by_cases hc : (ab c.2).text = [41]
 ·have er' : r = ([], [], c.2) := by rw [er]; unfold cJ; rw [if_pos hc]
  obtain ⟨⟨q4, _⟩, ⟨q5, _⟩, ⟨q6, _⟩, ⟨q7, _⟩, q8, k8⟩ := tail (by rw [er']; exact k2) (by rw [er']; simp)
  rw [er'] at q4 ⊢
  exact ⟨iE 0 _ _ _ _ _ _ _ _ _ _ _ ⟨by decide, _, _, _, _, _, _, q0, _, rfl, _, _, _, _, _, _, _, q1, _, rfl, _, _, _, _, _, _, q2, _, rfl, _, _, _, _, _, _, bD c.2, fun h => absurd hc h, fun _ => ⟨_, _, _, _, _, _, q4, _, rfl, _, _, _, _, _, _, q5, _, rfl, _, _, _, _, _, _, q6, _, _, _, _, _, _, q7, _, rfl, _, _, _, _, _, _, q8, by simp, rfl, rfl, rfl, rfl, rfl, rfl⟩⟩, k8⟩
 ·have er' : r = commaF (aQ n) 8 (fun t => t.kind == 1) ((aQ n c.2).2.toks.length + 1) [] [(aQ n c.2).1] (aQ n c.2).2 := by rw [er]; unfold cJ; rw [if_neg hc]
  obtain ⟨q3, k3⟩ := qP (n := n) (s := c.2) (by omega) k2
  have l9 := ig n c.2
  obtain ⟨g1, g2, g3, g4, g5⟩ := mR (item := aQ n) (most := 8) (beg := fun t => t.kind == 1) [a.1, b.2.1, c.1, [], [], []] (n - 1) (fun M u ls ks => cC M b.1 (gt u) u.off u.size u.failed u.place ls ks (.node 2 b.1 ([a.1, b.2.1, c.1, d.1, e.1, g.1] ++ r.1) (r.2.1 ++ [t.1, x.1])) (gt x.2) x.2.off x.2.size x.2.failed x.2.place) (ig n)
   (fun M u ls ks hu hun huk b1 b2 => by
    have hne := aT (s := u) (.inl (by rw [hu]; decide))
    have lt := cn hne
    obtain ⟨t1, t2⟩ := ei hne huk
    have lc : (ls ++ [(gTk (ab u)).Lead]).length ≤ 1000000000 := by simp only [List.length_append, List.length_cons, List.length_nil]; omega
    have lk : ∀ x : Tree, (ks ++ [x]).length ≤ 1000000000 := fun x => by simp only [List.length_append, List.length_cons, List.length_nil]; omega
    unfold cmS
    by_cases hb : ks.length = 8 ∧ ((ab (ac u)).kind == 1) = true
    ·rw [if_pos hb]
     obtain ⟨f1, f2⟩ := ln 3 t2
     obtain ⟨i1, i2⟩ := qP (n := n) (s := aV 3 (ac u)) (by have := ep 3 (ac u); omega) f2
     exact ⟨i2, fun hQ => fp M _ _ _ _ _ _ _ _ _ _ _ _ _ _ ⟨_, _, _, _, _, _, bD u, fun _ => ⟨_, _, _, _, _, _, t1, lc, fun _ => ⟨_, _, _, _, _, _, bD (ac u), fun _ => ⟨_, _, _, _, _, f1, _, _, _, _, _, _, i1, lk _, hQ⟩, fun e => absurd (eq_of_beq hb.2) e⟩, fun e => absurd (by rw [hb.1]; rfl) e⟩, fun e => absurd hu e⟩⟩
    ·rw [if_neg hb]
     obtain ⟨i1, i2⟩ := qP (n := n) (s := ac u) (by omega) t2
     exact ⟨i2, fun hQ => fp M _ _ _ _ _ _ _ _ _ _ _ _ _ _ ⟨_, _, _, _, _, _, bD u, fun _ => ⟨_, _, _, _, _, _, t1, lc, fun h16 => ⟨_, _, _, _, _, _, bD (ac u), fun e => absurd ⟨by omega, beq_iff_eq.2 e⟩ hb, fun _ => ⟨_, _, _, _, _, _, i1, lk _, hQ⟩⟩, fun _ => ⟨_, _, _, _, _, _, i1, lk _, hQ⟩⟩, fun e => absurd hu e⟩⟩)
   ((aQ n c.2).2.toks.length + 1) (aQ n c.2).2 [] [(aQ n c.2).1] (by omega) (by omega) k3 (by simp only [List.length_append, List.length_cons, List.length_nil]; omega) (by simp only [List.length_cons, List.length_nil]; omega)
  rw [← er'] at g1 g2 g3 g4 g5
  have hrl : r.2.1.length ≤ 1000000 := by simp only [List.length_cons, List.length_nil] at g4; omega
  obtain ⟨⟨q4, _⟩, ⟨q5, _⟩, ⟨q6, _⟩, ⟨q7, _⟩, q8, k8⟩ := tail g1 hrl
  obtain ⟨M, hM⟩ := g5 ⟨1, fp 0 _ _ _ _ _ _ _ _ _ _ _ _ _ _ ⟨_, _, _, _, _, _, bD r.2.2, fun e => absurd e g2, fun _ => ⟨_, _, _, _, _, _, q4, _, rfl, _, _, _, _, _, _, q5, _, rfl, _, _, _, _, _, _, q6, by simp only [List.length_append, List.length_cons, List.length_nil]; omega, _, _, _, _, _, _, q7, _, rfl, _, _, _, _, _, _, q8, by simp only [List.length_append, List.length_cons, List.length_nil]; omega, by rw [List.append_assoc]; rfl, rfl, rfl, rfl, rfl, rfl⟩⟩⟩
  exact ⟨iE M _ _ _ _ _ _ _ _ _ _ _ ⟨by decide, _, _, _, _, _, _, q0, _, rfl, _, _, _, _, _, _, _, q1, _, rfl, _, _, _, _, _, _, q2, _, rfl, _, _, _, _, _, _, bD c.2, fun _ => ⟨_, _, _, _, _, _, q3, hM⟩, fun e => absurd e hc⟩, k8⟩
theorem oy {n : Nat} (hn : n ≤ 1000000) (x y z : List UInt8) : ∀ (fuel : Nat) (ks : List Tree) (s : PS), s.toks.length < fuel → s.toks.length < n → Pk s → ks.length + s.toks.length ≤ 2000000 → Pk (cD n fuel ks s).2 ∧ ∃ M, bT M x y z (gt s) s.off s.size s.failed s.place ks 1 y [x, z, []] (cD n fuel ks s).1 (gt (cD n fuel ks s).2) (cD n fuel ks s).2.off (cD n fuel ks s).2.size (cD n fuel ks s).2.failed (cD n fuel ks s).2.place
 | 0, ks, s, h, _, _, _ => by omega
 | fuel + 1, ks, s, h, h2, hk, hl => by
  rw [cD]
  by_cases h0 : s.toks = []
  ·rw [if_pos h0]
   exact ⟨hk, 1, jc 0 _ _ _ _ _ _ _ _ _ _ _ _ _ _ _ _ _ _ ⟨fun e => by rw [show gt s = [] by rw [gt, h0]; rfl] at e; simp at e, fun _ => ⟨rfl, rfl, rfl, rfl, rfl, rfl, rfl, rfl, rfl⟩⟩⟩
  rw [if_neg h0]
  have hpos : (0 : Int) < ((gt s).length : Nat) := by
   cases hs : s.toks with
   | nil => exact absurd hs h0
   | cons t r => rw [show gt s = (t :: r).map gTk by rw [gt, hs]]; simp
  have hfl : ∀ e, (aV e s).toks.length = 0 := fun e => by unfold aV; split <;> rfl
  have h1l : 1 ≤ s.toks.length := by
   cases hs : s.toks with
   | nil => exact absurd hs h0
   | cons t r => simp
  have go : ∀ (bb : Bool), (bb = if (ab s).text = dQ then false else ((ab s).text != cz)) → ∀ {M : Nat} {K : List Tree} {s' : PS}, eE M x y z (gTk (ab s)) (gt s) s.off s.size s.failed s.place bb ks 1 y [x, z, []] K (gt s') s'.off s'.size s'.failed s'.place → ∃ M, bT M x y z (gt s) s.off s.size s.failed s.place ks 1 y [x, z, []] K (gt s') s'.off s'.size s'.failed s'.place := fun bb hbb {M K s'} hM => by
   refine ⟨M + 1, jc M _ _ _ _ _ _ _ _ _ _ _ _ _ _ _ _ _ _ ⟨fun _ => ⟨_, _, _, _, _, _, bD s, fun hd => ?_, fun hd => ?_⟩, fun e => absurd hpos e⟩⟩
   ·rw [hbb, if_neg (show ¬ (ab s).text = dQ from hd)] at hM; exact hM
   ·rw [hbb, if_pos (show (ab s).text = dQ from hd)] at hM; exact hM
  by_cases c1 : ¬ (ab s).text = dQ ∧ ¬ (ab s).text = cz
  ·rw [if_pos c1]
   obtain ⟨f1, f2⟩ := ln 2 hk
   obtain ⟨k3, M, hM⟩ := oy hn x y z fuel ks (aV 2 s) (by rw [hfl]; omega) (by rw [hfl]; omega) f2 (by rw [hfl]; omega)
   refine ⟨k3, go true (by rw [if_neg c1.1]; simpa using c1.2) (M := M + 1) (eh M _ _ _ _ _ _ _ _ _ _ _ _ _ _ _ _ _ _ _ _ ⟨fun _ => ⟨_, _, _, _, _, f1, hM⟩, fun e => (by cases e)⟩)⟩
  rw [if_neg c1]
  have hbf : false = if (ab s).text = dQ then false else ((ab s).text != cz) := by
   by_cases hd : (ab s).text = dQ
   ·rw [if_pos hd]
   ·rw [if_neg hd]
    have : (ab s).text = cz := Classical.byContradiction fun e => c1 ⟨hd, e⟩
    rw [this]; decide
  by_cases c2 : ks.length = 40
  ·rw [if_pos c2]
   obtain ⟨f1, f2⟩ := ln 3 hk
   obtain ⟨k3, M, hM⟩ := oy hn x y z fuel ks (aV 3 s) (by rw [hfl]; omega) (by rw [hfl]; omega) f2 (by rw [hfl]; omega)
   exact ⟨k3, go false hbf (M := M + 1) (eh M _ _ _ _ _ _ _ _ _ _ _ _ _ _ _ _ _ _ _ _ ⟨fun e => (by cases e), fun _ => ⟨fun _ => ⟨_, _, _, _, _, f1, hM⟩, fun e => absurd (by rw [c2]; rfl) e⟩⟩)⟩
  rw [if_neg c2]
  have c2' : ¬ ((ks.length : Nat) : Int) = 40 := by omega
  have lk : ∀ x : Tree, (ks ++ [x]).length ≤ 1000000000 := fun x => by simp only [List.length_append, List.length_cons, List.length_nil]; omega
  by_cases c3 : (ab s).text = dQ
  ·rw [if_pos c3]
   have lt := om (n := n) c3
   obtain ⟨f1, f2⟩ := vk (n := n) h2 hn hk
   obtain ⟨k3, M, hM⟩ := oy hn x y z fuel (ks ++ [(bI n s).1]) (bI n s).2 (by omega) (by omega) f2 (by simp only [List.length_append, List.length_cons, List.length_nil]; omega)
   exact ⟨k3, go false hbf (M := M + 1) (eh M _ _ _ _ _ _ _ _ _ _ _ _ _ _ _ _ _ _ _ _ ⟨fun e => (by cases e), fun _ => ⟨fun e => absurd e c2', fun _ => ⟨fun _ => ⟨_, _, _, _, _, _, f1, lk _, hM⟩, fun e => absurd c3 e⟩⟩⟩)⟩
  ·rw [if_neg c3]
   have c4 : (ab s).text = cz := Classical.byContradiction fun e => c1 ⟨c3, e⟩
   have lt := pX (n := n) c4
   obtain ⟨f1, f2⟩ := yI (n := n) h2 hk
   obtain ⟨k3, M, hM⟩ := oy hn x y z fuel (ks ++ [(fh n s).1]) (fh n s).2 (by omega) (by omega) f2 (by simp only [List.length_append, List.length_cons, List.length_nil]; omega)
   exact ⟨k3, go false hbf (M := M + 1) (eh M _ _ _ _ _ _ _ _ _ _ _ _ _ _ _ _ _ _ _ _ ⟨fun e => (by cases e), fun _ => ⟨fun e => absurd e c2', fun _ => ⟨fun e => absurd e c3, fun _ => ⟨_, _, _, _, _, _, f1, lk _, hM⟩⟩⟩⟩)⟩
theorem qg (n : Nat) (s : PS) : ∃ x y z ks, (fi n s).1 = .node 1 y [x, z, []] ks ∧ cntKs ks ≤ 30 * s.toks.length := by
 refine ⟨_, _, _, _, rfl, ?_⟩
 have l0 := aw eo s
 have l1 := bY 2 2 (ai eo s).2
 have := lr (n := n) ((aL 2 2 (ai eo s).2).2.2.toks.length + 2) [] (aL 2 2 (ai eo s).2).2.2
 simp only [cntKs] at this
 omega
theorem zn {n : Nat} {s : PS} (h : s.toks.length < n) (hn : n ≤ 1000000) (hk : Pk s) : eQ (gt s) s.off s.size s.failed s.place (fi n s).1.kind (fi n s).1.text (fi n s).1.leads (fi n s).1.kids (gt (fi n s).2) (fi n s).2.off (fi n s).2.size (fi n s).2.failed (fi n s).2.place := by
 have l0 := aw eo s
 have l1 := bY 2 2 (ai eo s).2
 obtain ⟨q0, k0⟩ := dS (x := eo) (by decide) hk
 obtain ⟨q1, k1⟩ := nl 2 2 k0
 obtain ⟨k2, M, hM⟩ := oy hn (ai eo s).1 (aL 2 2 (ai eo s).2).1 (aL 2 2 (ai eo s).2).2.1 ((aL 2 2 (ai eo s).2).2.2.toks.length + 2) [] (aL 2 2 (ai eo s).2).2.2 (by omega) (by omega) k1 (by simp only [List.length_nil]; omega)
 exact mB M _ _ _ _ _ _ _ _ _ _ _ _ _ _ ⟨by decide, _, _, _, _, _, _, q0, _, rfl, _, _, _, _, _, _, _, q1, _, rfl, hM⟩
theorem pD {S : Nat → Prop} {w : World} {ρ : Nat → Option Value} : ∀ (l : List TokZ), CRel S w ρ 3 ((l.map gTk).map GToken.w) (bN l)
 | [] => by simp [bN, CRel]
 | t :: r => by
  rw [show bN (t :: r) = [.int .i64 t.kind, .string ⟨t.lead.toArray⟩, .string ⟨t.text.toArray⟩] ++ bN r from rfl]
  simp only [List.map_cons, CRel]
  exact ⟨.agg #[.int .i64 t.kind, .string ⟨t.lead.toArray⟩, .string ⟨t.text.toArray⟩], bN r, by simp [Value.cells], ⟨rfl, rfl⟩, by
   simp only [VRel, GToken.w, GToken.c, gTk]
   exact ⟨[.int .i64 t.kind, .string ⟨t.lead.toArray⟩, .string ⟨t.text.toArray⟩], rfl, by simp only [LRel, VRel]; exact ⟨_, _, rfl, rfl, _, _, rfl, rfl, _, _, rfl, rfl, rfl⟩⟩, pD r⟩
theorem zH (l : List UInt8) (hl : l.length ≤ 281474976710656) : qF l ((scan l).toks.map gTk) (scan l).tail ((scan l).place : Nat) ((scan l).err : Nat) := by
 refine ⟨rfl, ?_, fun S w ρ xs hr hx => ?_⟩
 ·simp only [V.pure, pureL, Bool.and_true]
  first | done | exact ch _ (fun _ => rfl) _
 simp only [LRel, VRel] at hx
 obtain ⟨x, ys, rfl, rfl, rfl⟩ := hx
 refine (wk l w hl).mono ?_
 rintro e w' ⟨v, rfl, ⟨A, c, rfl, hc, hm, hrow, hnew⟩, he⟩
 have hch : Chg [] w w' := qQ he
 have g := hr.chg0 hch
 refine ⟨_, fun b => S b ∨ (w.heap.size ≤ b ∧ b < w'.heap.size), ρ, _, ⟨0, []⟩, rfl, rfl, ⟨fun i => ?_, fun i b hb => ?_, fun i j b hb _ => ?_, fun b hb => hb.elim (g.slt b) (·.2)⟩, ⟨ChgP.of0 hch, fun _ h => .inl h, fun b hb => hb.elim .inl (fun h => .inr (.inr h.1)), fun id b hb => by rw [gG] at hb; exact hb.elim, fun id x h => ?_⟩, ?_⟩
 ·have := g.ob i; rw [gG] at this ⊢; exact this
 ·rw [gG] at hb; exact hb.elim
 ·rw [gG] at hb; exact hb.elim
 ·simp only [ng] at h
  split at h
  ·exact h
  ·cases h
 ·simp only [VRel]
  refine ⟨[.slice A (scan l).toks.length c, .string ⟨(scan l).tail.toArray⟩, .int .i64 ((scan l).place : Nat), .int .i64 ((scan l).err : Nat)], rfl, _, _, rfl, ?_, _, _, rfl, by simp only [VRel], _, _, rfl, by simp only [VRel], _, _, rfl, by simp only [VRel], rfl⟩
  simp only [VRel]
  refine ⟨A, c, bN (scan l).toks, by simp, by simpa using hc, hm, pD _, by simpa using hrow.1, fun hn => ?_⟩
  obtain ⟨b, off, e1, h1, h2⟩ := hrow.2 (by simpa using hn)
  obtain ⟨b', off', e2, h3⟩ := hnew (by simpa using hn)
  rw [e1] at e2
  injection e2 with e2
  injection e2 with e3 e4 e5
  subst e3
  exact ⟨b, off, e1, .inr ⟨h3, h1⟩, h1, by simpa using h2⟩
theorem pA : ∀ (l : List TokZ) (x : List UInt8), (nS l x).length = wA l + x.length
 | [], x => by simp [nS, wA]
 | t :: r, x => by simp only [nS, wA, List.length_append, pA r x]; omega
theorem tV {l : List UInt8} (h : (scan l).err = 0) : Pk (gI (scan l).toks l.length) ∧ (scan l).toks.length ≤ 4096 ∧ l.length ≤ 4096 := by
 obtain ⟨h1, _, _, h4, h5⟩ := qp h
 have h6 := pA (scan l).toks (scan l).tail
 rw [h1] at h6
 refine ⟨⟨?_, ?_⟩, by omega, h5⟩
 ·unfold gI
  cases hz : (scan l).toks with
  | nil => simp only [wT]; omega
  | cons t r => rw [hz] at h6; simp only [wT, wA] at h6 ⊢; omega
 ·simp only [gI]; omega
theorem sA (l : List UInt8) (hl : l.length ≤ 281474976710656) : je l (cO l).1 ((cO l).2.1 : Nat) ((cO l).2.2 : Nat) := by
 have hsc := zH l hl
 by_cases he : (scan l).err = 0
 rotate_left
 ·have e : cO l = (dh, (scan l).place, (scan l).err) := by unfold cO; simp only [he, not_false_eq_true, if_true]
  rw [e]
  exact mL 0 _ _ _ _ ⟨_, _, _, _, hsc, fun _ => ⟨rfl, rfl, rfl⟩, fun h => absurd (by omega) he⟩
 obtain ⟨s1, s2, s3⟩ := tV he
 obtain ⟨f, ef⟩ : ∃ f, f = fi ((scan l).toks.length + 1) (gI (scan l).toks l.length) := ⟨_, rfl⟩
 have hf := zn (n := (scan l).toks.length + 1) (s := gI (scan l).toks l.length) (by show (scan l).toks.length < _; omega) (by omega) s1
 rw [← ef] at hf
 obtain ⟨x, y, z, ks, e1, e2⟩ := qg ((scan l).toks.length + 1) (gI (scan l).toks l.length)
 rw [← ef] at e1
 have e2' : cntKs ks ≤ 30 * (scan l).toks.length := e2
 have hd := wE f.1 (by rw [e1]; simp only [cntK]; omega)
 have hdk := depthT_K f.1
 rw [e1] at hf hd
 have main : ∀ i : Nat, (i = match (scan l).toks with | [] => l.length | t :: _ => t.lead.length) → iL 1 l ((scan l).toks.map gTk) (scan l).tail i (cO l).1 ((cO l).2.1 : Nat) ((cO l).2.2 : Nat) := fun i hi => by
  have hst : (gI (scan l).toks l.length).off = i := hi.symm
  have hfi : eQ ((scan l).toks.map gTk) i l.length 0 0 1 y [x, z, []] ks (gt f.2) f.2.off f.2.size f.2.failed f.2.place := by
   rw [← hst]; exact hf
  refine pH 0 _ _ _ _ _ _ _ ⟨_, _, _, _, _, _, _, _, _, hfi, fun hn => ?_, fun hn => ⟨_, hd, fun h40 => ?_, fun h40 => ?_⟩⟩
  ·have e : cO l = (dh, f.2.place, f.2.failed) := by
    unfold cO
    simp only [he, not_true_eq_false, if_false]
    rw [← ef, if_pos (by omega)]
   rw [e]; exact ⟨rfl, rfl, rfl⟩
  ·have e : cO l = (dh, 0, 4) := by
    unfold cO
    simp only [he, not_true_eq_false, if_false]
    rw [← ef, if_neg (by omega), if_pos (by rw [hdk, e1]; omega)]
   rw [e]; exact ⟨rfl, rfl, rfl⟩
  ·have e : cO l = (.node f.1.kind f.1.text (f.1.leads.set 2 (scan l).tail) f.1.kids, 0, 0) := by
    unfold cO
    simp only [he, not_true_eq_false, if_false]
    rw [← ef, if_neg (by omega), if_neg (by rw [hdk, e1]; omega)]
   rw [e, e1]; exact ⟨_, rfl, rfl, rfl, rfl⟩
 refine mL 1 _ _ _ _ ⟨_, _, _, _, hsc, fun h => absurd (by rw [he]; rfl) h, fun _ => ⟨fun hp => ?_, fun hp => ?_⟩⟩
 ·cases hz : (scan l).toks with
  | nil => rw [hz] at hp; simp at hp
  | cons t r => exact ⟨gTk t, rfl, by have := main t.lead.length (by rw [hz]); rw [hz] at this; exact this⟩
 ·cases hz : (scan l).toks with
  | nil => have := main l.length (by rw [hz]); rw [hz] at this; exact this
  | cons t r => rw [hz] at hp; simp at hp
def Dd (s : PS) : Prop := s.failed ≠ 0 ∧ s.toks = []
def Sm (s s' : PS) : Prop := s'.failed = s.failed ∧ s'.place = s.place ∧ s'.toks = []
theorem Sm.dd {s s' : PS} (h : Sm s s') (d : Dd s) : Dd s' := ⟨by rw [h.1]; exact d.1, h.2.2⟩
theorem Sm.tr {s s1 s2 : PS} (h : Sm s s1) (k : Sm s1 s2) : Sm s s2 := ⟨k.1.trans h.1, k.2.1.trans h.2.1, k.2.2⟩
section
variable {s : PS} (d : Dd s)
include d
theorem fK : ab s = dK := by simp [ab, d.2]
theorem oN (e : Nat) : Sm s (aV e s) := by unfold aV; rw [if_neg d.1]; exact ⟨rfl, rfl, rfl⟩
theorem qY : Sm s s := ⟨rfl, rfl, d.2⟩
theorem bB {x : List UInt8} (hx : x ≠ []) : Sm s (ai x s).2 := by
 unfold ai
 rw [if_neg (by rw [fK d]; exact fun e => hx e.symm)]
 exact oN d 2
theorem ld (k o : Int) : Sm s (aL k o s).2.2 := by
 unfold aL
 rw [if_pos (.inl (by rw [fK d]; rfl))]
 exact oN d 2
end
theorem ny : ∀ (n : Nat) {s : PS}, Dd s → Sm s (gd n s).2
 | 0, s, d => qY d
 | n + 1, s, d => by
  unfold gd
  rw [fK d, if_neg (by decide), if_neg (by decide), if_neg (by decide), if_neg (by decide)]
  exact ld d 2 4
theorem mm (n : Nat) {s : PS} (d : Dd s) : Sm s (aQ n s).2 := by
 have h1 := ld d 1 1
 have h2 := bB (h1.dd d) (x := [58]) (by decide)
 exact h1.tr (h2.tr (ny n (h2.dd (h1.dd d))))
theorem nG {item : PS → Tree × PS} {most : Nat} {beg : TokZ → Bool} (m : Nat) (cs : List (List UInt8)) (ks : List Tree) {s : PS} (d : Dd s) : commaF item most beg m cs ks s = (cs, ks, s) := by
 cases m with
 | zero => rfl
 | succ m => rw [commaF, fK d, if_neg (by decide)]
theorem mi {item : PS → Tree × PS} {most : Nat} {beg : TokZ → Bool} (hi : ∀ {s}, Dd s → Sm s (item s).2) {s : PS} (d : Dd s) : Sm s (cJ item most beg s).2.2 := by
 unfold cJ
 rw [fK d, if_neg (by decide), nG _ _ _ ((hi d).dd d)]
 exact hi d
section
variable {E : PS → Tree × PS} {s : PS} (d : Dd s)
include d
theorem yR : aP E s = (dh, aV 2 s) := by
 simp [aP, fK d, dK, gD, fM]
theorem Af {U : PS → Tree × PS} (m : Nat) (t : Tree) : ff U m t s = (t, s) := by
 cases m with
 | zero => rfl
 | succ m => rw [ff, fK d, if_neg (by decide)]
theorem xV : Sm s (gy E s).2 := by
 have hf := oN d 2
 unfold gy
 rw [fK d, if_neg (by decide), if_neg (by decide), yR d]
 simp only
 rw [Af (hf.dd d)]
 exact hf
end
theorem oX : ∀ (n : Nat) {s : PS}, Dd s → Sm s (eD n s).2
 | 0, s, d => qY d
 | n + 1, s, d => xV d
theorem tp (n : Nat) {s : PS} (d : Dd s) : Sm s (bI n s).2 := by
 have h0 := bB d (x := dQ) (by decide)
 have d0 := h0.dd d
 have h1 := ld d0 1 1
 have d1 := h1.dd d0
 have h2 := bB d1 (x := [40]) (by decide)
 have d2 := h2.dd d1
 have h3 := mi (item := aQ n) (most := 8) (beg := fun t => t.kind == 1) (fun d => mm n d) d2
 have d3 := h3.dd d2
 have h4 := bB d3 (x := [41]) (by decide)
 have d4 := h4.dd d3
 have h5 := bB d4 (x := [58]) (by decide)
 have d5 := h5.dd d4
 have h6 := ny n d5
 have d6 := h6.dd d5
 have h7 := bB d6 (x := [61]) (by decide)
 have d7 := h7.dd d6
 exact h0.tr (h1.tr (h2.tr (h3.tr (h4.tr (h5.tr (h6.tr (h7.tr (oX n d7))))))))
theorem qK (n m : Nat) (ks : List Tree) {s : PS} (d : Dd s) : cD n m ks s = (ks, s) := by
 cases m with
 | zero => rfl
 | succ m => rw [cD, if_pos d.2]
def kS (L : List TokZ) (sz j : Nat) : Nat := if j < L.length then wA (L.take j) + (L.getD j dK).lead.length else sz
theorem ou : ∀ (a b : List TokZ), wA (a ++ b) = wA a + wA b
 | [], b => by simp [wA]
 | t :: r, b => by simp only [List.cons_append, wA, ou r b]; omega
def Lv (L : List TokZ) (sz : Nat) (s : PS) (k : Nat) : Prop := s.failed = 0 ∧ k ≤ L.length ∧ L.drop k = s.toks ∧ s.off = kS L sz k ∧ s.size = sz
def Ds (L : List TokZ) (sz : Nat) (s : PS) (j : Nat) : Prop := Dd s ∧ j ≤ L.length ∧ s.place = kS L sz j
theorem Lv.nil {L : List TokZ} {sz k : Nat} {s : PS} (h : Lv L sz s k) (e : s.toks = []) : k = L.length := by
 have := h.2.2.1
 rw [e, List.drop_eq_nil_iff] at this
 have := h.2.1
 omega
theorem Lv.get {L : List TokZ} {sz k : Nat} {s : PS} (h : Lv L sz s k) (e : s.toks ≠ []) : L[k]? = some (ab s) ∧ k < L.length := by
 cases hs : s.toks with
 | nil => exact absurd hs e
 | cons t r =>
  have hd := h.2.2.1
  have hk : k < L.length := Nat.lt_of_not_le fun hc => by rw [List.drop_of_length_le hc, hs] at hd; cases hd
  rw [List.drop_eq_getElem_cons hk, hs] at hd
  have : ab s = t := by simp [ab, hs]
  rw [this, List.getElem?_eq_getElem hk]
  injection hd with h1 h2
  exact ⟨congrArg some h1, hk⟩
theorem Lv.fail {L : List TokZ} {sz k : Nat} {s : PS} (h : Lv L sz s k) {e : Nat} (he : e ≠ 0) : Ds L sz (aV e s) k ∧ (aV e s).failed = e := by
 unfold aV
 rw [if_pos h.1]
 exact ⟨⟨⟨he, rfl⟩, h.2.1, h.2.2.2.1⟩, rfl⟩
theorem Lv.take {L : List TokZ} {sz k : Nat} {s : PS} (h : Lv L sz s k) (e : s.toks ≠ []) : Lv L sz (ac s) (k + 1) := by
 obtain ⟨hf, hk, hd, ho, hsz⟩ := h
 obtain ⟨hg, hlt⟩ := Lv.get ⟨hf, hk, hd, ho, hsz⟩ e
 obtain ⟨ts, o, z, f, p⟩ := s
 simp only at hf hd ho hsz e
 have hdr : L.drop (k + 1) = ts.tail := by rw [← hd, ← List.drop_one, List.drop_drop]
 have htk : wA (L.take (k + 1)) = wA (L.take k) + ((L.getD k dK).lead.length + (L.getD k dK).text.length) := by
  rw [List.take_add_one, ou, List.getD_eq_getElem?_getD, hg]
  simp [wA]
 have hgd : L.getD k dK = ab ⟨ts, o, z, f, p⟩ := by rw [List.getD_eq_getElem?_getD, hg]; rfl
 unfold kS at ho
 rw [if_pos hlt] at ho
 match ts, e with
 | [t], _ =>
  have hl : k + 1 = L.length := by
   have := congrArg List.length hdr
   simp at this; omega
  refine ⟨hf, by omega, by rw [hdr]; rfl, ?_, hsz⟩
  show z = kS L sz (k + 1)
  unfold kS
  rw [if_neg (by omega)]; exact hsz
 | t :: u :: r, _ =>
  have hl : k + 1 < L.length := by
   have := congrArg List.length hdr
   simp at this; omega
  refine ⟨hf, by omega, by rw [hdr]; rfl, ?_, hsz⟩
  show o + (t.text.length + u.lead.length) = kS L sz (k + 1)
  have hu : L.getD (k + 1) dK = u := by
   have := List.drop_eq_getElem_cons hl
   rw [hdr] at this
   injection this with h1 _
   rw [List.getD_eq_getElem?_getD, List.getElem?_eq_getElem hl, ← h1]; rfl
  have ht : L.getD k dK = t := hgd
  unfold kS
  rw [if_pos hl, htk, hu]
  rw [ht] at ho ⊢
  omega
section
variable {P : Program} {n : Nat} {F : Fm} {H : Hp}
end
section
variable {P : Program} {T : Tab} {K : Ctx} {Q : Exit → Act → World → Prop} {s : List EI} {n : Nat} {F : Fm} {H : Hp}
end
section
variable {P : Program} {K : Ctx} {Q : Exit → Act → World → Prop} {p : EP} {s : List EI} {n : Nat} {F : Fm} {H H1 : Hp}
theorem gHX {e : TypeId} {sz : Nat} {els : List V} (id : Nat) (els' : List V) (ho : H.get id = .row e sz els) (he : ak els els') (h2 : H.ap (.set id (.row e sz els')) _root_.id = H1) (k : Go P K Q p s n F H1) : Go P K Q p s n F H := by
 rw [Hp.ap_eq] at h2; subst h2
 have hg : (H.app (.set id (.row e sz els'))).get = dx H.get id (.row e sz els') := Hp.get_app (by exact ⟨by rw [ho]; simp, by rw [ho]; simp⟩)
 intro S w ρ a hr hi hF
 have how : ∀ i b, own ρ i (dx H.get id (.row e sz els') i) b ↔ own ρ i (H.get i) b := fun i b => by
  by_cases hi : i = id
  ·subst hi; rw [cj, ho]; rfl
  ·rw [dp _ _ hi]
 refine k S w ρ a ?_ ?_ hF
 ·rw [id_eq, hg]
  refine ⟨fun i => ?_, fun i b hb => hr.sep i b ((how i b).1 hb), fun i j b h1 h2 => hr.dis i j b ((how i b).1 h1) ((how j b).1 h2), hr.slt⟩
  by_cases hii : i = id
  ·subst hii
   rw [cj]
   obtain ⟨v, xs, h1, h2, h3⟩ := jv hr ho
   exact ⟨v, xs, h1, by rw [he.len]; exact h2, h3.sub he⟩
  ·rw [dp _ _ hii]; exact hr.ob i
 ·rw [id_eq, hg]
  exact ⟨hi.chg, hi.s0, hi.s1, fun i b hb => hi.ow i b ((how i b).1 hb), hi.pin⟩
end
set_option maxHeartbeats 4000000
abbrev vA (a0 : List GToken) (a1 : Int) (a2 : List UInt8) (a3 : Int) (a4 : Int) : Ob := .var 46 [.row 3 (List.map GToken.w a0), .int .i64 a1, .str a2, .int .i64 a3, .int .i64 a4]
def aZ (g : List GToken) (e : Int) (a : List UInt8) (b i p1 : Int) (j : List GToken) (f : Int) (c : List UInt8) (d k : Int) : Prop := bW [] Try.prog 33 [.ptr 0 0, .int .i64 p1] ⟨1, [(0, vA g e a b i)]⟩ (fun u G => u = .tup [] ∧ G = ⟨1, [(0, vA j f c d k)]⟩)
def aq (g : List GToken) (e : Int) (a : List UInt8) (b i : Int) (p1 : List UInt8) (r0 : Bool) (j : List GToken) (f : Int) (c : List UInt8) (d k : Int) : Prop := bW [] Try.prog 32 [.ptr 0 0, .str p1] ⟨1, [(0, vA g e a b i)]⟩ (fun u G => u = .bool r0 ∧ G = ⟨1, [(0, vA j f c d k)]⟩)
def aH (g : List GToken) (e : Int) (a : List UInt8) (b i r0 : Int) (j : List GToken) (f : Int) (c : List UInt8) (d k : Int) : Prop := bW [] Try.prog 53 [.ptr 0 0] ⟨1, [(0, vA g e a b i)]⟩ (fun u G => u = .int .i64 r0 ∧ G = ⟨1, [(0, vA j f c d k)]⟩)
def cG (i : List GToken) (f : Int) (a : List UInt8) (b j : Int) (r0 : GToken) (k : List GToken) (g : Int) (d : List UInt8) (e l : Int) : Prop := bW [] Try.prog 52 [.ptr 0 0] ⟨1, [(0, vA i f a b j)]⟩ (fun u G => u = .agg (GToken.c r0) ∧ G = ⟨2, [(0, vA k g d e l)]⟩)
def al (q : List GToken) (o : Int) (c : List UInt8) (d r e : Int) (f : List UInt8) (a : (List (List UInt8))) (g : List Tree) (p2 : List UInt8) (s : List GToken) (p : Int) (i : List UInt8) (j t k : Int) (l : List UInt8) (b : (List (List UInt8))) (n : List Tree) : Prop := bW [] Try.prog 30 [.ptr 0 0, .ptr 1 0, .str p2] ⟨4, [(3, .row 26 4 (kidsV g)), (2, .row 9 1 (List.map V.str a)), (1, .var 26 [.int .i64 e, .str f, .sl 2, .sl 3]), (0, vA q o c d r)]⟩ (fun u G => u = .tup [] ∧ G = ⟨4, [(3, .row 26 4 (kidsV n)), (2, .row 9 1 (List.map V.str b)), (1, .var 26 [.int .i64 k, .str l, .sl 2, .sl 3]), (0, vA s p i j t)]⟩)
def aS (q : List GToken) (o : Int) (c : List UInt8) (d r e : Int) (f : List UInt8) (a : (List (List UInt8))) (g : List Tree) (p2 : Int) (s : List GToken) (p : Int) (i : List UInt8) (j t k : Int) (l : List UInt8) (b : (List (List UInt8))) (n : List Tree) : Prop := bW [] Try.prog 31 [.ptr 0 0, .ptr 1 0, .int .i64 p2] ⟨4, [(3, .row 26 4 (kidsV g)), (2, .row 9 1 (List.map V.str a)), (1, .var 26 [.int .i64 e, .str f, .sl 2, .sl 3]), (0, vA q o c d r)]⟩ (fun u G => u = .tup [] ∧ G = ⟨4, [(3, .row 26 4 (kidsV n)), (2, .row 9 1 (List.map V.str b)), (1, .var 26 [.int .i64 k, .str l, .sl 2, .sl 3]), (0, vA s p i j t)]⟩)
def bJ (g : List GToken) (e : Int) (a : List UInt8) (b i p1 : Int) (r0 : Tree) (j : List GToken) (f : Int) (c : List UInt8) (d k : Int) : Prop := bW [] Try.prog 79 [.ptr 0 0, .int .i64 p1] ⟨1, [(0, vA g e a b i)]⟩ (fun u G => u = .agg (ar r0) ∧ G = ⟨2, [(0, vA j f c d k)]⟩)
def cg (g : List GToken) (e : Int) (a : List UInt8) (b i : Int) (r0 : Tree) (j : List GToken) (f : Int) (c : List UInt8) (d k : Int) : Prop := bW [] Try.prog 54 [.ptr 0 0] ⟨1, [(0, vA g e a b i)]⟩ (fun u G => u = .agg (ar r0) ∧ G = ⟨2, [(0, vA j f c d k)]⟩)
def fa (g : List GToken) (e : Int) (a : List UInt8) (b i : Int) (r0 : Bool) (j : List GToken) (f : Int) (c : List UInt8) (d k : Int) : Prop := bW [] Try.prog 94 [.ptr 0 0] ⟨1, [(0, vA g e a b i)]⟩ (fun u G => u = .bool r0 ∧ G = ⟨1, [(0, vA j f c d k)]⟩)
theorem ij (m : Nat) (g : List GToken) (a : Int) (b : List UInt8) (c i p1 : Int) (j : List GToken) (f : Int) (d : List UInt8) (e k : Int) (h : ((i = 0) → g = j ∧ a = f ∧ b = d ∧ a = e ∧ p1 = k) ∧ ((i ≠ 0) → g = j ∧ a = f ∧ b = d ∧ c = e ∧ i = k)) : aZ g a b c i p1 j f d e k := by
 refine az 20 [0] Try.func33 rfl rfl rfl (bg rfl) fun K hK => ?_
 refine gR 9 rfl <| qBe 8 rfl rfl rfl h (fun h => ?_) fun h => ?_
 refine gR 16 rfl ?_
 obtain ⟨rfl, rfl, rfl, rfl, rfl⟩ := h
 exact go_sub (F' := (mkF 20 0 [])) (H' := ⟨1, [(0, vA g a b a p1)]⟩) [0] [0] rfl hK trivial (pqo1 rfl rfl) rfl <| go_endD [] aa (rs := []) rfl rfl ⟨rfl, rfl⟩
 refine gR 2 rfl ?_
 obtain ⟨rfl, rfl, rfl, rfl, rfl⟩ := h
 exact go_sub (F' := (mkF 20 0 [])) (H' := ⟨1, [(0, vA g a b c i)]⟩) [0] [0] rfl hK trivial (pqo1 rfl rfl) rfl <| go_endD [] aa (rs := []) rfl rfl ⟨rfl, rfl⟩
theorem fO (m : Nat) (d : List GToken) (a : Int) (b : List UInt8) (c e : Int) (p1 : List UInt8) (r0 : Bool) (k : List GToken) (j : Int) (g : List UInt8) (i l : Int) (h : ((e = 0) → ((a < (d.length : Int)) → ∃ n, a = ((n : Nat) : Int) ∧ ∃ o, d[n]? = some o ∧ ((o.Kind = 7) → ∃ p, a = ((p : Nat) : Int) ∧ ∃ q, d[p]? = some q ∧ (q.Text == p1) = r0 ∧ d = k ∧ a = j ∧ b = g ∧ c = i ∧ e = l) ∧ ((o.Kind ≠ 7) → ∃ r, a = ((r : Nat) : Int) ∧ ∃ s, d[r]? = some s ∧ ((s.Kind = 8) → ∃ t, a = ((t : Nat) : Int) ∧ ∃ v, d[t]? = some v ∧ (v.Text == p1) = r0 ∧ d = k ∧ a = j ∧ b = g ∧ c = i ∧ e = l) ∧ ((s.Kind ≠ 8) → false = r0 ∧ d = k ∧ a = j ∧ b = g ∧ c = i ∧ e = l))) ∧ ((¬ a < (d.length : Int)) → false = r0 ∧ d = k ∧ a = j ∧ b = g ∧ c = i ∧ e = l)) ∧ ((e ≠ 0) → false = r0 ∧ d = k ∧ a = j ∧ b = g ∧ c = i ∧ e = l)) : aq d a b c e p1 r0 k j g i l := by
 refine az 65 [0] Try.func32 rfl rfl rfl (bg rfl) fun K hK => ?_
 refine gR 6 rfl <| gDs [0] 60 61 rfl (by kernel_rfl) (by kernel_rfl) <| gDr [(0, 0), (1, 0), (2, 0), (3, 0), (4, 0), (5, 0)] (by kernel_rfl) rfl rfl <| qBeZ 10 9 rfl rfl rfl rfl h (fun h => ?_) fun h => ?_
 refine gDr [(6, 2), (7, 2), (8, 2), (9, 3), (10, 0), (11, 0), (12, 0), (13, 0), (14, 0)] (by kernel_rfl) rfl rfl <| gV 19 (.int .i64 (d.length : Int)) rfl (bC (cQ GToken.w _)) rfl <| gLB 18 rfl (cQ GToken.w _) fun hl8 => gDr [(15, 0), (16, 0), (17, 0)] (by kernel_rfl) rfl rfl <| qBdZ 22 21 rfl rfl rfl rfl h (fun h => ?_) fun h => ?_
 refine gDr [(18, 2), (19, 2), (20, 2), (21, 3), (22, 0), (23, 0), (24, 0), (25, 0)] (by kernel_rfl) rfl rfl ?_
 obtain ⟨n, x, h⟩ := h
 refine gV 30 (.int .i64 ((n : Nat) : Int)) rfl (iF x) rfl ?_
 obtain ⟨o, hxx0_2, h⟩ := h
 refine cu 26 rfl (by kernel_rfl) (aY (mapget (f := GToken.w) hxx0_2) aa rfl rfl rfl rfl) rfl rfl ?_
 refine gDr [(27, 0), (28, 0), (29, 0), (30, 0)] (by kernel_rfl) rfl rfl <| qBeZ 35 34 rfl rfl rfl rfl h (fun h => ?_) fun h => ?_
 refine gDr [(31, 2), (32, 2), (33, 2), (34, 2), (35, 0), (36, 0), (37, 0), (38, 0), (39, 0), (40, 0), (41, 0), (42, 0), (43, 0), (44, 0), (45, 0), (46, 2), (47, 2), (48, 2), (49, 3), (50, 2), (51, 2), (52, 2), (53, 3)] (by kernel_rfl) rfl rfl ?_
 obtain ⟨p, y, h⟩ := h
 refine gV 58 (.int .i64 ((p : Nat) : Int)) rfl (iF y) rfl ?_
 obtain ⟨q, hxx0_4, h⟩ := h
 refine gYd 54 rfl (by kernel_rfl) (aY (mapget (f := GToken.w) hxx0_4) aa rfl rfl rfl rfl) rfl rfl <| gDr [(55, 2), (56, 2), (57, 0), (58, 0), (59, 0), (60, 1)] (by kernel_rfl) rfl rfl <| gDe (by kernel_rfl) <| gR 2 rfl ?_
 obtain ⟨rfl, rfl, rfl, rfl, rfl, rfl⟩ := h
 exact go_sub (F' := (mkF 65 0 [(4, .bool (q.Text == p1))])) (H' := ⟨1, [(0, vA d a b c e)]⟩) [0] [0] rfl hK pq1 (pqo1 rfl rfl) rfl <| go_endD [] aa (rs := [.tmp 4]) rfl rfl ⟨rfl, rfl⟩
 refine gDr [(31, 2), (32, 2), (33, 2), (34, 3), (35, 0), (36, 0), (37, 0), (38, 0)] (by kernel_rfl) rfl rfl ?_
 obtain ⟨r, z, h⟩ := h
 refine gV 43 (.int .i64 ((r : Nat) : Int)) rfl (iF z) rfl ?_
 obtain ⟨s, hxx0_6, h⟩ := h
 refine cu 39 rfl (by kernel_rfl) (aY (mapget (f := GToken.w) hxx0_6) aa rfl rfl rfl rfl) rfl rfl ?_
 refine gDr [(40, 0), (41, 0), (42, 0), (43, 0), (44, 0), (45, 0)] (by kernel_rfl) rfl rfl <| qBeZ 50 49 rfl rfl rfl rfl h (fun h => ?_) fun h => ?_
 refine gDr [(46, 2), (47, 2), (48, 2), (49, 3), (50, 2), (51, 2), (52, 2), (53, 3)] (by kernel_rfl) rfl rfl ?_
 obtain ⟨t, α, h⟩ := h
 refine gV 58 (.int .i64 ((t : Nat) : Int)) rfl (iF α) rfl ?_
 obtain ⟨v, hxx0_8, h⟩ := h
 refine gYd 54 rfl (by kernel_rfl) (aY (mapget (f := GToken.w) hxx0_8) aa rfl rfl rfl rfl) rfl rfl <| gDr [(55, 2), (56, 2), (57, 0), (58, 0), (59, 0), (60, 1)] (by kernel_rfl) rfl rfl <| gDe (by kernel_rfl) <| gR 2 rfl ?_
 obtain ⟨rfl, rfl, rfl, rfl, rfl, rfl⟩ := h
 exact go_sub (F' := (mkF 65 0 [(4, .bool (v.Text == p1))])) (H' := ⟨1, [(0, vA d a b c e)]⟩) [0] [0] rfl hK pq1 (pqo1 rfl rfl) rfl <| go_endD [] aa (rs := [.tmp 4]) rfl rfl ⟨rfl, rfl⟩
 refine gDr [(46, 2), (47, 2), (48, 2), (49, 2), (50, 2), (51, 2), (52, 2), (53, 2), (54, 2), (55, 2), (56, 2), (57, 0), (58, 0), (59, 0), (60, 1)] (by kernel_rfl) rfl rfl <| gDe (by kernel_rfl) <| gR 2 rfl ?_
 obtain ⟨rfl, rfl, rfl, rfl, rfl, rfl⟩ := h
 exact go_sub (F' := (mkF 65 0 [(4, .bool false)])) (H' := ⟨1, [(0, vA d a b c e)]⟩) [0] [0] rfl hK pq1 (pqo1 rfl rfl) rfl <| go_endD [] aa (rs := [.tmp 4]) rfl rfl ⟨rfl, rfl⟩
 refine gDr [(18, 2), (19, 2), (20, 2), (21, 2), (22, 0), (23, 0), (24, 0), (25, 0), (26, 0), (27, 0), (28, 0), (29, 0), (30, 0), (31, 2), (32, 2), (33, 2), (34, 2), (35, 0), (36, 0), (37, 0), (38, 0), (39, 0), (40, 0), (41, 0), (42, 0), (43, 0), (44, 0), (45, 0), (46, 2), (47, 2), (48, 2), (49, 2), (50, 2), (51, 2), (52, 2), (53, 2), (54, 2), (55, 2), (56, 2), (57, 0), (58, 0), (59, 0), (60, 1)] (by kernel_rfl) rfl rfl <| gDe (by kernel_rfl) <| gR 2 rfl ?_
 obtain ⟨rfl, rfl, rfl, rfl, rfl, rfl⟩ := h
 exact go_sub (F' := (mkF 65 0 [(4, .bool false)])) (H' := ⟨1, [(0, vA d a b c e)]⟩) [0] [0] rfl hK pq1 (pqo1 rfl rfl) rfl <| go_endD [] aa (rs := [.tmp 4]) rfl rfl ⟨rfl, rfl⟩
 refine gDr [(6, 2), (7, 2), (8, 2), (9, 2), (10, 0), (11, 0), (12, 0), (13, 0), (14, 0), (15, 0), (16, 0), (17, 0), (18, 2), (19, 2), (20, 2), (21, 2), (22, 0), (23, 0), (24, 0), (25, 0), (26, 0), (27, 0), (28, 0), (29, 0), (30, 0), (31, 2), (32, 2), (33, 2), (34, 2), (35, 0), (36, 0), (37, 0), (38, 0), (39, 0), (40, 0), (41, 0), (42, 0), (43, 0), (44, 0), (45, 0), (46, 2), (47, 2), (48, 2), (49, 2), (50, 2), (51, 2), (52, 2), (53, 2), (54, 2), (55, 2), (56, 2), (57, 0), (58, 0), (59, 0), (60, 1)] (by kernel_rfl) rfl rfl <| gDe (by kernel_rfl) <| gR 2 rfl ?_
 obtain ⟨rfl, rfl, rfl, rfl, rfl, rfl⟩ := h
 exact go_sub (F' := (mkF 65 0 [(4, .bool false)])) (H' := ⟨1, [(0, vA d a b c e)]⟩) [0] [0] rfl hK pq1 (pqo1 rfl rfl) rfl <| go_endD [] aa (rs := [.tmp 4]) rfl rfl ⟨rfl, rfl⟩
theorem fo (m : Nat) (d : List GToken) (a : Int) (b : List UInt8) (c e r0 : Int) (k : List GToken) (j : Int) (g : List UInt8) (i l : Int) (h : ((e ≠ 0) → 0 = r0 ∧ d = k ∧ a = j ∧ b = g ∧ c = i ∧ e = l) ∧ ((e = 0) → (((d.length : Int) ≤ a) → 0 = r0 ∧ d = k ∧ a = j ∧ b = g ∧ c = i ∧ e = l) ∧ ((¬ (d.length : Int) ≤ a) → ∃ n, a = ((n : Nat) : Int) ∧ ∃ o, d[n]? = some o ∧ o.Kind = r0 ∧ d = k ∧ a = j ∧ b = g ∧ c = i ∧ e = l))) : aH d a b c e r0 k j g i l := by
 refine az 31 [0] Try.func53 rfl rfl rfl (bg rfl) fun K hK => ?_
 refine gR 7 rfl <| gDs [0] 17 17 rfl (by kernel_rfl) (by kernel_rfl) <| gDr [(0, 0), (1, 0), (2, 0), (3, 0), (4, 0), (5, 0)] (by kernel_rfl) rfl rfl <| qBhZ 8 7 rfl rfl rfl rfl h fB dY (fun h => ?_) fun h => ?_
 refine gDr [(6, 2), (7, 2), (8, 2), (9, 2), (10, 0), (11, 0), (12, 0), (13, 0), (14, 0), (15, 0), (16, 0)] (by kernel_rfl) rfl rfl <| gDe (by kernel_rfl) <| gR 9 rfl ?_
 obtain ⟨rfl, rfl, rfl, rfl, rfl, rfl⟩ := h
 exact go_sub (F' := (mkF 31 0 [(2, .int .i64 0)])) (H' := ⟨1, [(0, vA d a b c e)]⟩) [0] [0] rfl hK pq1 (pqo1 rfl rfl) rfl <| go_endD [] aa (rs := [.tmp 2]) rfl rfl ⟨rfl, rfl⟩
 refine gDr [(6, 2), (7, 2), (8, 2), (9, 3), (10, 0), (11, 0), (12, 0), (13, 0), (14, 0)] (by kernel_rfl) rfl rfl <| gV 17 (.int .i64 (d.length : Int)) rfl (bC (cQ GToken.w _)) rfl <| gLB 16 rfl (cQ GToken.w _) fun hl8 => gDr [(15, 0), (16, 0)] (by kernel_rfl) rfl rfl <| gDe (by kernel_rfl) <| gR 1 rfl <| qBd 19 rfl rfl rfl h (fun h => ?_) fun h => ?_
 refine gR 8 rfl ?_
 obtain ⟨rfl, rfl, rfl, rfl, rfl, rfl⟩ := h
 exact go_sub (F' := (mkF 31 0 [(2, .int .i64 0)])) (H' := ⟨1, [(0, vA d a b c e)]⟩) [0] [0] rfl hK pq1 (pqo1 rfl rfl) rfl <| go_endD [] aa (rs := [.tmp 2]) rfl rfl ⟨rfl, rfl⟩
 refine gR 4 rfl <| gDs [0] 8 12 rfl (by kernel_rfl) (by kernel_rfl) <| gDr [(0, 2), (1, 2), (2, 2), (3, 3), (4, 0), (5, 0), (6, 0), (7, 0)] (by kernel_rfl) rfl rfl ?_
 obtain ⟨n, p, h⟩ := h
 refine gV 27 (.int .i64 ((n : Nat) : Int)) rfl (iF p) rfl ?_
 obtain ⟨o, hxx0_2, h⟩ := h
 refine cu 8 rfl (by kernel_rfl) (aY (mapget (f := GToken.w) hxx0_2) aa rfl rfl rfl rfl) rfl rfl ?_
 refine gDr [(9, 1), (10, 1), (11, 1)] (by kernel_rfl) rfl rfl <| gDe (by kernel_rfl) <| gR 2 rfl ?_
 obtain ⟨rfl, rfl, rfl, rfl, rfl, rfl⟩ := h
 exact go_sub (F' := (mkF 31 0 [(2, .int .i64 o.Kind)])) (H' := ⟨1, [(0, vA d a b c e)]⟩) [0] [0] rfl hK pq1 (pqo1 rfl rfl) rfl <| go_endD [] aa (rs := [.tmp 2]) rfl rfl ⟨rfl, rfl⟩
theorem lO (m : Nat) (d : List GToken) (a : Int) (b : List UInt8) (c k : Int) (r0 : GToken) (o : List GToken) (j : Int) (e : List UInt8) (g p : Int) (h : ((k ≠ 0) → ∃ q r s t v, aZ d a b c k 2 q r s t v ∧ (GToken.mk 0 [] []) = r0 ∧ q = o ∧ r = j ∧ s = e ∧ t = g ∧ v = p) ∧ ((k = 0) → (((d.length : Int) ≤ a) → ∃ x y z α l, aZ d a b c k 2 x y z α l ∧ (GToken.mk 0 [] []) = r0 ∧ x = o ∧ y = j ∧ z = e ∧ α = g ∧ l = p) ∧ ((¬ (d.length : Int) ≤ a) → InI (a + 1) ∧ InI ((a + 1) - 1) ∧ ∃ n, ((a + 1) - 1) = ((n : Nat) : Int) ∧ ∃ i, d[n]? = some i ∧ i = r0 ∧ d = o ∧ (a + 1) = j ∧ b = e ∧ c = g ∧ k = p))) : cG d a b c k r0 o j e g p := by
 refine az 41 [0] Try.func52 rfl rfl rfl (bg rfl) fun K hK => ?_
 refine gR 7 rfl <| gDs [0] 17 17 rfl (by kernel_rfl) (by kernel_rfl) <| gDr [(0, 0), (1, 0), (2, 0), (3, 0), (4, 0), (5, 0)] (by kernel_rfl) rfl rfl <| qBhZ 8 7 rfl rfl rfl rfl h fB dY (fun h => ?_) fun h => ?_
 refine gDr [(6, 2), (7, 2), (8, 2), (9, 2), (10, 0), (11, 0), (12, 0), (13, 0), (14, 0), (15, 0), (16, 0)] (by kernel_rfl) rfl rfl <| gDe (by kernel_rfl) <| gR 5 rfl ?_
 obtain ⟨q, r, s, t, v, hs10, h⟩ := h
 refine gCY hs10 [0] ?_
 refine gR 10 rfl ?_
 obtain ⟨rfl, rfl, rfl, rfl, rfl, rfl⟩ := h
 exact go_sub (F' := (mkF 41 0 [(2, .ptr 1 0)])) (H' := ⟨2, [(1, .var 41 [.int .i64 ((GToken.mk 0 [] []).Kind), .str ((GToken.mk 0 [] []).Lead), .str ((GToken.mk 0 [] []).Text)]), (0, vA q r s t v)]⟩) [0, 1] [0] rfl hK pq1 (pqo2 rfl rfl rfl rfl) rfl <| go_endD [1] aa (rs := [.cell 2 41]) rfl rfl ⟨rfl, rfl⟩
 refine gDr [(6, 2), (7, 2), (8, 2), (9, 3), (10, 0), (11, 0), (12, 0), (13, 0), (14, 0)] (by kernel_rfl) rfl rfl <| gV 17 (.int .i64 (d.length : Int)) rfl (bC (cQ GToken.w _)) rfl <| gLB 16 rfl (cQ GToken.w _) fun hl11 => gDr [(15, 0), (16, 0)] (by kernel_rfl) rfl rfl <| gDe (by kernel_rfl) <| gR 1 rfl <| qBd 19 rfl rfl rfl h (fun h => ?_) fun h => ?_
 refine gR 4 rfl ?_
 obtain ⟨x, y, z, α, l, hs12, h⟩ := h
 refine gCY hs12 [0] ?_
 refine gR 10 rfl ?_
 obtain ⟨rfl, rfl, rfl, rfl, rfl, rfl⟩ := h
 exact go_sub (F' := (mkF 41 0 [(2, .ptr 1 0)])) (H' := ⟨2, [(1, .var 41 [.int .i64 ((GToken.mk 0 [] []).Kind), .str ((GToken.mk 0 [] []).Lead), .str ((GToken.mk 0 [] []).Text)]), (0, vA x y z α l)]⟩) [0, 1] [0] rfl hK pq1 (pqo2 rfl rfl rfl rfl) rfl <| go_endD [1] aa (rs := [.cell 2 41]) rfl rfl ⟨rfl, rfl⟩
 refine gR 9 rfl ?_
 obtain ⟨hb, h⟩ := h
 refine gR 1 rfl <| gV 27 (.int .i64 (a + 1)) rfl (cM hb rfl) rfl <| gR 6 rfl <| gDs [0] 11 12 rfl (by kernel_rfl) (by kernel_rfl) <| gDr [(0, 2), (1, 2), (2, 2), (3, 3), (4, 0), (5, 0), (6, 0), (7, 0)] (by kernel_rfl) rfl rfl ?_
 obtain ⟨hb, h⟩ := h
 refine gDr [(8, 0)] (by kernel_rfl) rfl rfl <| gV 38 (.int .i64 ((a + 1) - 1)) rfl (cM hb rfl) rfl ?_
 obtain ⟨n, β, h⟩ := h
 refine gV 38 (.int .i64 ((n : Nat) : Int)) rfl (iF β) rfl ?_
 obtain ⟨i, hxx0_12, h⟩ := h
 refine cu 9 rfl (by kernel_rfl) (aY (mapget (f := GToken.w) hxx0_12) aa rfl rfl rfl rfl) rfl rfl ?_
 refine gDr [(10, 0), (11, 1)] (by kernel_rfl) rfl rfl <| gDe (by kernel_rfl) <| gR 2 rfl ?_
 obtain ⟨rfl, rfl, rfl, rfl, rfl, rfl⟩ := h
 exact go_sub (F' := (mkF 41 0 [(2, .ptr 1 0)])) (H' := ⟨2, [(1, .var 41 (GToken.c i)), (0, vA d (a + 1) b c k)]⟩) [0, 1] [0] rfl hK pq1 (pqo2 rfl rfl rfl rfl) rfl <| go_endD [1] aa (rs := [.cell 2 41]) rfl rfl ⟨rfl, rfl⟩
theorem iq (m : Nat) (ν : List GToken) (z : Int) (x : List UInt8) (y ξ c : Int) (d : List UInt8) (a : (List (List UInt8))) (b : List Tree) (p2 : List UInt8) (κ : List GToken) (n : Int) (g : List UInt8) (i μ j : Int) (k : List UInt8) (f : (List (List UInt8))) (l : List Tree) (h : ∃ α β γ δ ε ζ, aq ν z x y ξ p2 α β γ δ ε ζ ∧ ((α = false) → ∃ η θ ι o p, aZ β γ δ ε ζ 2 η θ ι o p ∧ η = κ ∧ θ = n ∧ ι = g ∧ o = i ∧ p = μ ∧ c = j ∧ d = k ∧ a = f ∧ b = l) ∧ ((α = true) → ∃ e q r s t v, cG β γ δ ε ζ e q r s t v ∧ (a ++ [e.Lead]).length ≤ 1000000000 ∧ q = κ ∧ r = n ∧ s = g ∧ t = i ∧ v = μ ∧ c = j ∧ d = k ∧ (a ++ [e.Lead]) = f ∧ b = l)) : al ν z x y ξ c d a b p2 κ n g i μ j k f l := by
 refine az 24 [1, 0] Try.func30 rfl rfl rfl (bg rfl) fun K hK => ?_
 refine gR 5 rfl ?_
 obtain ⟨α, β, γ, δ, ε, ζ, hs4, h⟩ := h
 refine gCY hs4 [0] ?_
 refine gR 3 rfl <| qBh 9 rfl rfl rfl h iQ iO (fun h => ?_) fun h => ?_
 refine gR 4 rfl ?_
 obtain ⟨η, θ, ι, o, p, hs5, h⟩ := h
 refine gCY hs5 [0] ?_
 refine gR 4 rfl ?_
 obtain ⟨rfl, rfl, rfl, rfl, rfl, rfl, rfl, rfl, rfl⟩ := h
 exact go_sub (F' := (mkF 24 0 [])) (H' := ⟨4, [(3, .row 26 4 (kidsV b)), (2, .row 9 1 (List.map V.str a)), (1, .var 26 [.int .i64 c, .str d, .sl 2, .sl 3]), (0, vA η θ ι o p)]⟩) [0, 1, 2, 3] [1, 0] rfl hK trivial ⟨⟨_, rfl, rfl, rfl, (ah _ b).symm⟩, ⟨_, rfl, rfl, rfl, (vI _ a).symm⟩, (pqo2 rfl rfl rfl rfl)⟩ rfl <| go_endD [] aa (rs := []) rfl rfl ⟨rfl, rfl⟩
 refine gR 3 rfl <| gDs [1] 12 13 rfl (by kernel_rfl) (by kernel_rfl) <| gDr [(0, 2), (1, 2), (2, 2), (3, 2), (4, 3), (5, 0)] (by kernel_rfl) rfl rfl ?_
 obtain ⟨e, q, r, s, t, v, hs6, h⟩ := h
 refine gDCY 6 hs6 [0] rfl ?_
 refine gDr [(7, 0), (8, 0)] (by kernel_rfl) rfl rfl ?_
 obtain ⟨hb, h⟩ := h
 refine ax 9 (.repl 2 (.row 9 1 (List.map V.str (a ++ [e.Lead])))) rfl (by kernel_rfl) (bu aa rfl rfl rfl rfl rfl (apM V.str a e.Lead) (by rw [cQ]; exact hb)) (okR rfl) rfl (by kernel_rfl) rfl rfl ?_
 refine gDr [(10, 0), (11, 0), (12, 1)] (by kernel_rfl) rfl rfl <| gDe (by kernel_rfl) ?_
 obtain ⟨rfl, rfl, rfl, rfl, rfl, rfl, rfl, rfl, rfl⟩ := h
 exact go_sub (F' := (mkF 24 0 [])) (H' := ⟨4, [(3, .row 26 4 (kidsV b)), (2, .row 9 1 (List.map V.str (a ++ [e.Lead]))), (1, .var 26 [.int .i64 c, .str d, .sl 2, .sl 3]), (0, vA q r s t v)]⟩) [0, 1, 8, 3] [1, 0] rfl hK trivial ⟨⟨_, rfl, rfl, rfl, (ah _ b).symm⟩, ⟨_, rfl, rfl, rfl, (vI _ (a ++ [e.Lead])).symm⟩, (pqo2 rfl rfl rfl rfl)⟩ rfl <| go_endD [] aa (rs := []) rfl rfl ⟨rfl, rfl⟩
theorem iu (m : Nat) (ν : List GToken) (z : Int) (x : List UInt8) (y ξ d : Int) (f : List UInt8) (a : (List (List UInt8))) (b : List Tree) (p2 : Int) (κ : List GToken) (n : Int) (g : List UInt8) (i μ j : Int) (k : List UInt8) (e : (List (List UInt8))) (l : List Tree) (h : ∃ α β γ δ ε ζ, aH ν z x y ξ α β γ δ ε ζ ∧ ((α ≠ p2) → ∃ η θ ι o p, aZ β γ δ ε ζ 2 η θ ι o p ∧ η = κ ∧ θ = n ∧ ι = g ∧ o = i ∧ p = μ ∧ d = j ∧ f = k ∧ a = e ∧ b = l) ∧ ((α = p2) → ∃ c q r s t v, cG β γ δ ε ζ c q r s t v ∧ (a ++ [c.Lead]).length ≤ 1000000000 ∧ q = κ ∧ r = n ∧ s = g ∧ t = i ∧ v = μ ∧ d = j ∧ c.Text = k ∧ (a ++ [c.Lead]) = e ∧ b = l)) : aS ν z x y ξ d f a b p2 κ n g i μ j k e l := by
 refine az 31 [1, 0] Try.func31 rfl rfl rfl (bg rfl) fun K hK => ?_
 refine gR 4 rfl ?_
 obtain ⟨α, β, γ, δ, ε, ζ, hs4, h⟩ := h
 refine gCY hs4 [0] ?_
 refine gR 4 rfl <| qBh 10 rfl rfl rfl h fB dY (fun h => ?_) fun h => ?_
 refine gR 4 rfl ?_
 obtain ⟨η, θ, ι, o, p, hs5, h⟩ := h
 refine gCY hs5 [0] ?_
 refine gR 4 rfl ?_
 obtain ⟨rfl, rfl, rfl, rfl, rfl, rfl, rfl, rfl, rfl⟩ := h
 exact go_sub (F' := (mkF 31 0 [])) (H' := ⟨4, [(3, .row 26 4 (kidsV b)), (2, .row 9 1 (List.map V.str a)), (1, .var 26 [.int .i64 d, .str f, .sl 2, .sl 3]), (0, vA η θ ι o p)]⟩) [0, 1, 2, 3] [1, 0] rfl hK trivial ⟨⟨_, rfl, rfl, rfl, (ah _ b).symm⟩, ⟨_, rfl, rfl, rfl, (vI _ a).symm⟩, (pqo2 rfl rfl rfl rfl)⟩ rfl <| go_endD [] aa (rs := []) rfl rfl ⟨rfl, rfl⟩
 refine gR 6 rfl ?_
 obtain ⟨c, q, r, s, t, v, hs6, h⟩ := h
 refine gCY hs6 [0] ?_
 refine gR 14 rfl <| gDs [1, 7] 11 12 rfl (by kernel_rfl) (by kernel_rfl) <| gDr [(0, 2), (1, 2), (2, 2), (3, 2), (4, 3), (5, 0), (6, 0), (7, 0)] (by kernel_rfl) rfl rfl ?_
 obtain ⟨hb, h⟩ := h
 refine ax 8 (.repl 2 (.row 9 1 (List.map V.str (a ++ [c.Lead])))) rfl (by kernel_rfl) (bu aa rfl rfl rfl rfl rfl (apM V.str a c.Lead) (by rw [cQ]; exact hb)) (okR rfl) rfl (by kernel_rfl) rfl rfl ?_
 refine gDr [(9, 0), (10, 0), (11, 1)] (by kernel_rfl) rfl rfl <| gDe (by kernel_rfl) ?_
 obtain ⟨rfl, rfl, rfl, rfl, rfl, rfl, rfl, rfl, rfl⟩ := h
 exact go_sub (F' := (mkF 31 0 [])) (H' := ⟨4, [(3, .row 26 4 (kidsV b)), (2, .row 9 1 (List.map V.str (a ++ [c.Lead]))), (1, .var 26 [.int .i64 d, .str c.Text, .sl 2, .sl 3]), (0, vA q r s t v)]⟩) [0, 1, 9, 3] [1, 0] rfl hK trivial ⟨⟨_, rfl, rfl, rfl, (ah _ b).symm⟩, ⟨_, rfl, rfl, rfl, (vI _ (a ++ [c.Lead])).symm⟩, (pqo2 rfl rfl rfl rfl)⟩ rfl <| go_endD [] aa (rs := []) rfl rfl ⟨rfl, rfl⟩
theorem lD (m : Nat) (o : List GToken) (f : Int) (b : List UInt8) (c p p1 : Int) (r0 : Tree) (q : List GToken) (g : Int) (d : List UInt8) (e r : Int) (h : ∃ a i j k l n, cG o f b c p a i j k l n ∧ (Tree.node p1 [] [a.Lead] []) = r0 ∧ i = q ∧ j = g ∧ k = d ∧ l = e ∧ n = r) : bJ o f b c p p1 r0 q g d e r := by
 refine az 11 [0] Try.func79 rfl rfl rfl (bg rfl) fun K hK => ?_
 refine gR 9 rfl ?_
 obtain ⟨a, i, j, k, l, n, hs2, h⟩ := h
 refine gCY hs2 [0] ?_
 refine gR 7 rfl <| gFR 4 rfl rfl rfl rfl ?_
 obtain ⟨rfl, rfl, rfl, rfl, rfl, rfl⟩ := h
 exact go_sub (F' := (mkF 11 0 [(4, .ptr 1 0)])) (H' := ⟨2, [(1, vF ((Tree.node p1 [] [a.Lead] []).kind) ((Tree.node p1 [] [a.Lead] []).text) ((Tree.node p1 [] [a.Lead] []).leads) ((Tree.node p1 [] [a.Lead] []).kids)), (0, vA i j k l n)]⟩) [0, 1] [0] rfl hK pq1 ⟨⟨_, rfl, rfl, (.cons .rfl (.cons .rfl (.cons .rfl (.cons (.nil 4) .nil))))⟩, (pqo1 rfl rfl)⟩ rfl <| go_endD [1] aa (rs := [.cell 4 26]) rfl rfl ⟨rfl, rfl⟩
def iJ (m : Nat) (e : Int) (f : List UInt8) (g : (List (List UInt8))) (a : List Tree) (i : Tree) (j : List GToken) (k : Int) (l : List UInt8) (n o : Int) (r0 : Tree) (p : List GToken) (d : Int) (b : List UInt8) (c q : Int) : Prop := ∀ (K : Ctx), aR K [0] → Go Try.prog K (bodyPost Try.prog Try.f54 (SP K (fun u G => u = .agg (ar r0) ∧ G = ⟨2, [(0, vA p d b c q)]⟩))) (.ex .normal) [.seq (xC (xA (aj Try.f54)))] 56 (mkF 56 0 [(0, .ptr 0 0), (2, .ptr 1 0), (4, .ptr 2 0)]) ⟨5, [(4, .row 26 4 (kidsV ((a ++ [(Tree.node 0 [] [] [])]).set a.length i))), (3, .row 9 1 (List.map V.str g)), (2, vD e f), (1, vB 0 []), (0, vA j k l n o)]⟩
theorem bV (m : Nat) (p0_l : List GToken) (p0_at_ : Int) (p0_tail : List UInt8) (p0_stop p0_e : Int) (r0 : Tree) (ο : List GToken) (k : Int) (d : List UInt8) (e π : Int) (h : ∃ b0_1 r0_2 n0_3 s0_4 n0_5 n0_6, aq p0_l p0_at_ p0_tail p0_stop p0_e [73, 110, 116] b0_1 r0_2 n0_3 s0_4 n0_5 n0_6 ∧ ((b0_1 = true) → ∃ τ r0_8 n0_9 s0_10 n0_11 n0_12, bJ r0_2 n0_3 s0_4 n0_5 n0_6 5 τ r0_8 n0_9 s0_10 n0_11 n0_12 ∧ τ = r0 ∧ r0_8 = ο ∧ n0_9 = k ∧ s0_10 = d ∧ n0_11 = e ∧ n0_12 = π) ∧ ((b0_1 = false) → ∃ b0_13 r0_14 n0_15 s0_16 n0_17 n0_18, aq r0_2 n0_3 s0_4 n0_5 n0_6 [84, 101, 120, 116] b0_13 r0_14 n0_15 s0_16 n0_17 n0_18 ∧ ((b0_13 = true) → ∃ x r0_20 n0_21 s0_22 n0_23 n0_24, bJ r0_14 n0_15 s0_16 n0_17 n0_18 6 x r0_20 n0_21 s0_22 n0_23 n0_24 ∧ x = r0 ∧ r0_20 = ο ∧ n0_21 = k ∧ s0_22 = d ∧ n0_23 = e ∧ n0_24 = π) ∧ ((b0_13 = false) → ∃ b0_25 δ ε ζ η θ, aq r0_14 n0_15 s0_16 n0_17 n0_18 [66, 111, 111, 108] b0_25 δ ε ζ η θ ∧ ((b0_25 = true) → ∃ y r0_32 n0_33 s0_34 n0_35 n0_36, bJ δ ε ζ η θ 7 y r0_32 n0_33 s0_34 n0_35 n0_36 ∧ y = r0 ∧ r0_32 = ο ∧ n0_33 = k ∧ s0_34 = d ∧ n0_35 = e ∧ n0_36 = π) ∧ ((b0_25 = false) → ∃ n0_37 υ φ χ ψ ω, aH δ ε ζ η θ n0_37 υ φ χ ψ ω ∧ ((n0_37 = 2) → ∃ n0_43 r0_44 n0_45 s0_46 n0_47 n0_48, aH υ φ χ ψ ω n0_43 r0_44 n0_45 s0_46 n0_47 n0_48 ∧ ∃ r0_49 n0_50 s0_51 n0_52 n0_53 z α n o, aS r0_44 n0_45 s0_46 n0_47 n0_48 9 [] ([] : List (List UInt8)) ([] : List Tree) n0_43 r0_49 n0_50 s0_51 n0_52 n0_53 z α n o ∧ (Tree.node z α n o) = r0 ∧ r0_49 = ο ∧ n0_50 = k ∧ s0_51 = d ∧ n0_52 = e ∧ n0_53 = π) ∧ ((n0_37 ≠ 2) → ∃ n0_58 ι κ μ ν ξ, aH υ φ χ ψ ω n0_58 ι κ μ ν ξ ∧ ((n0_58 = 4) → ∃ n0_64 r0_65 n0_66 s0_67 n0_68 n0_69, aH ι κ μ ν ξ n0_64 r0_65 n0_66 s0_67 n0_68 n0_69 ∧ ∃ r0_70 n0_71 s0_72 n0_73 n0_74 β γ p q, aS r0_65 n0_66 s0_67 n0_68 n0_69 9 [] ([] : List (List UInt8)) ([] : List Tree) n0_64 r0_70 n0_71 s0_72 n0_73 n0_74 β γ p q ∧ (Tree.node β γ p q) = r0 ∧ r0_70 = ο ∧ n0_71 = k ∧ s0_72 = d ∧ n0_73 = e ∧ n0_74 = π) ∧ ((n0_58 ≠ 4) → ∃ r s t v l f g b a, al ι κ μ ν ξ 8 [] ([] : List (List UInt8)) ([] : List Tree) [91] r s t v l f g b a ∧ ((l ≠ 0) → (Tree.node f g b a) = r0 ∧ r = ο ∧ s = k ∧ t = d ∧ v = e ∧ l = π) ∧ ((l = 0) → ∃ c r0_89 n0_90 s0_91 n0_92 n0_93, cg r s t v l c r0_89 n0_90 s0_91 n0_92 n0_93 ∧ (a ++ [(Tree.node 0 [] [] [])]).length ≤ 1000000000 ∧ ∃ t0_94, (a ++ [(Tree.node 0 [] [] [])])[a.length]? = some t0_94 ∧ iJ m f g b a c r0_89 n0_90 s0_91 n0_92 n0_93 r0 ο k d e π))))))) : cg p0_l p0_at_ p0_tail p0_stop p0_e r0 ο k d e π := by
 refine az 56 [0] Try.func54 rfl rfl rfl (bg rfl) fun K hK => ?_
 refine gR 10 rfl ?_
 obtain ⟨b0_1, r0_2, n0_3, s0_4, n0_5, n0_6, hs39, h⟩ := h
 refine gCY hs39 [0] ?_
 refine gR 3 rfl <| qBiZ 5 7 rfl rfl rfl rfl h (fun h => ?_) fun h => ?_
 refine gR 4 rfl ?_
 obtain ⟨τ, r0_8, n0_9, s0_10, n0_11, n0_12, hs40, h⟩ := h
 refine gCY hs40 [0] ?_
 refine gR 6 rfl ?_
 obtain ⟨rfl, rfl, rfl, rfl, rfl, rfl⟩ := h
 exact go_sub (F' := (mkF 56 0 [(2, .ptr 1 0)])) (H' := ⟨2, [(1, vF τ.kind τ.text τ.leads τ.kids), (0, vA r0_8 n0_9 s0_10 n0_11 n0_12)]⟩) [0, 1] [0] rfl hK pq1 (pqo2 rfl rfl rfl rfl) rfl <| go_endD [1] aa (rs := [.cell 2 26]) rfl rfl ⟨rfl, rfl⟩
 refine gR 4 rfl ?_
 obtain ⟨b0_13, r0_14, n0_15, s0_16, n0_17, n0_18, hs41, h⟩ := h
 refine gCY hs41 [0] ?_
 refine gR 3 rfl <| qBiZ 10 12 rfl rfl rfl rfl h (fun h => ?_) fun h => ?_
 refine gR 4 rfl ?_
 obtain ⟨x, r0_20, n0_21, s0_22, n0_23, n0_24, hs42, h⟩ := h
 refine gCY hs42 [0] ?_
 refine gR 6 rfl ?_
 obtain ⟨rfl, rfl, rfl, rfl, rfl, rfl⟩ := h
 exact go_sub (F' := (mkF 56 0 [(2, .ptr 1 0)])) (H' := ⟨2, [(1, vF x.kind x.text x.leads x.kids), (0, vA r0_20 n0_21 s0_22 n0_23 n0_24)]⟩) [0, 1] [0] rfl hK pq1 (pqo2 rfl rfl rfl rfl) rfl <| go_endD [1] aa (rs := [.cell 2 26]) rfl rfl ⟨rfl, rfl⟩
 refine gR 4 rfl ?_
 obtain ⟨b0_25, δ, ε, ζ, η, θ, hs43, h⟩ := h
 refine gCY hs43 [0] ?_
 refine gR 3 rfl <| qBiZ 15 17 rfl rfl rfl rfl h (fun h => ?_) fun h => ?_
 refine gR 1 rfl <| go_sub (F' := (mkF 56 0 [(0, .ptr 0 0), (2, .ptr 1 0)])) (H' := ⟨2, [(1, vB 0 []), (0, vA δ ε ζ η θ)]⟩) [0, 1] [0] rfl hK pq2 (pqo2 rfl rfl rfl rfl) rfl <| gR 3 rfl ?_
 obtain ⟨y, r0_32, n0_33, s0_34, n0_35, n0_36, hs44, h⟩ := h
 refine gCY hs44 [0] ?_
 refine gR 6 rfl ?_
 obtain ⟨rfl, rfl, rfl, rfl, rfl, rfl⟩ := h
 exact go_sub (F' := (mkF 56 0 [(2, .ptr 1 0)])) (H' := ⟨2, [(1, vF y.kind y.text y.leads y.kids), (0, vA r0_32 n0_33 s0_34 n0_35 n0_36)]⟩) [0, 1] [0] rfl hK pq1 (pqo2 rfl rfl rfl rfl) rfl <| go_endD [1] aa (rs := [.cell 2 26]) rfl rfl ⟨rfl, rfl⟩
 refine gR 1 rfl <| go_sub (F' := (mkF 56 0 [(0, .ptr 0 0), (2, .ptr 1 0)])) (H' := ⟨2, [(1, vB 0 []), (0, vA δ ε ζ η θ)]⟩) [0, 1] [0] rfl hK pq2 (pqo2 rfl rfl rfl rfl) rfl <| gR 3 rfl ?_
 obtain ⟨n0_37, υ, φ, χ, ψ, ω, hs45, h⟩ := h
 refine gCY hs45 [0] ?_
 refine gR 2 rfl <| qBeZ 24 23 rfl rfl rfl rfl h (fun h => ?_) fun h => ?_
 refine gR 8 rfl <| go_sub (F' := (mkF 56 0 [(0, .ptr 0 0), (2, .ptr 1 0)])) (H' := ⟨2, [(1, vB 0 []), (0, vA υ φ χ ψ ω)]⟩) [0, 1] [0] rfl hK pq2 (pqo2 rfl rfl rfl rfl) rfl <| gR 11 rfl ?_
 obtain ⟨n0_43, r0_44, n0_45, s0_46, n0_47, n0_48, hs46, h⟩ := h
 refine gCY hs46 [0] ?_
 refine gNC 2 2 9 1 rfl rfl rfl rfl <| gNC 2 3 26 4 rfl rfl rfl rfl ?_
 obtain ⟨r0_49, n0_50, s0_51, n0_52, n0_53, z, α, n, o, hs47, h⟩ := h
 refine gCZ hs47 [0, 2, 4, 5] ⟨⟨_, rfl, ⟨rfl, rfl, rfl⟩⟩, ⟨⟨_, rfl, ⟨rfl, rfl, rfl⟩⟩, ⟨⟨_, rfl, ⟨rfl, ak.rfl⟩⟩, ⟨⟨_, rfl, ⟨rfl, ak.rfl⟩⟩, trivial⟩⟩⟩⟩ ?_
 refine gHR 8 (List.map V.str n) rfl (vI _ n) rfl <| gHR 9 (kidsV o) rfl (ah _ o) rfl <| gR 11 rfl <| gFR 8 rfl (ch _ (fun _ => rfl) _) rfl rfl <| gFR 9 rfl (cm _) rfl rfl ?_
 obtain ⟨rfl, rfl, rfl, rfl, rfl, rfl⟩ := h
 exact go_sub (F' := (mkF 56 0 [(2, .ptr 1 0)])) (H' := ⟨2, [(1, vF ((Tree.node z α n o).kind) ((Tree.node z α n o).text) ((Tree.node z α n o).leads) ((Tree.node z α n o).kids)), (0, vA r0_49 n0_50 s0_51 n0_52 n0_53)]⟩) [0, 1] [0] rfl hK pq1 (pqo2 rfl rfl rfl rfl) rfl <| go_endD [1] aa (rs := [.cell 2 26]) rfl rfl ⟨rfl, rfl⟩
 refine gR 1 rfl ?_
 obtain ⟨n0_58, ι, κ, μ, ν, ξ, hs48, h⟩ := h
 refine gCY hs48 [0] ?_
 refine gR 5 rfl <| qBeZ 20 28 rfl rfl rfl rfl h (fun h => ?_) fun h => ?_
 refine gR 1 rfl <| go_sub (F' := (mkF 56 0 [(0, .ptr 0 0), (2, .ptr 1 0)])) (H' := ⟨2, [(1, vB 0 []), (0, vA ι κ μ ν ξ)]⟩) [0, 1] [0] rfl hK pq2 (pqo2 rfl rfl rfl rfl) rfl <| gR 11 rfl ?_
 obtain ⟨n0_64, r0_65, n0_66, s0_67, n0_68, n0_69, hs49, h⟩ := h
 refine gCY hs49 [0] ?_
 refine gNC 2 2 9 1 rfl rfl rfl rfl <| gNC 2 3 26 4 rfl rfl rfl rfl ?_
 obtain ⟨r0_70, n0_71, s0_72, n0_73, n0_74, β, γ, p, q, hs50, h⟩ := h
 refine gCZ hs50 [0, 2, 4, 5] ⟨⟨_, rfl, ⟨rfl, rfl, rfl⟩⟩, ⟨⟨_, rfl, ⟨rfl, rfl, rfl⟩⟩, ⟨⟨_, rfl, ⟨rfl, ak.rfl⟩⟩, ⟨⟨_, rfl, ⟨rfl, ak.rfl⟩⟩, trivial⟩⟩⟩⟩ ?_
 refine gHR 8 (List.map V.str p) rfl (vI _ p) rfl <| gHR 9 (kidsV q) rfl (ah _ q) rfl <| gR 11 rfl <| gFR 8 rfl (ch _ (fun _ => rfl) _) rfl rfl <| gFR 9 rfl (cm _) rfl rfl ?_
 obtain ⟨rfl, rfl, rfl, rfl, rfl, rfl⟩ := h
 exact go_sub (F' := (mkF 56 0 [(2, .ptr 1 0)])) (H' := ⟨2, [(1, vF ((Tree.node β γ p q).kind) ((Tree.node β γ p q).text) ((Tree.node β γ p q).leads) ((Tree.node β γ p q).kids)), (0, vA r0_70 n0_71 s0_72 n0_73 n0_74)]⟩) [0, 1] [0] rfl hK pq1 (pqo2 rfl rfl rfl rfl) rfl <| go_endD [1] aa (rs := [.cell 2 26]) rfl rfl ⟨rfl, rfl⟩
 refine gR 4 rfl <| go_sub (F' := (mkF 56 0 [(0, .ptr 0 0), (2, .ptr 1 0)])) (H' := ⟨2, [(1, vB 0 []), (0, vA ι κ μ ν ξ)]⟩) [0, 1] [0] rfl hK pq2 (pqo2 rfl rfl rfl rfl) rfl <| gR 10 rfl <| gNC 2 2 9 1 rfl rfl rfl rfl <| gNC 2 3 26 4 rfl rfl rfl rfl ?_
 obtain ⟨r, s, t, v, l, f, g, b, a, hs51, h⟩ := h
 refine gCZ hs51 [0, 2, 3, 4] ⟨⟨_, rfl, ⟨rfl, rfl, rfl⟩⟩, ⟨⟨_, rfl, ⟨rfl, rfl, rfl⟩⟩, ⟨⟨_, rfl, ⟨rfl, ak.rfl⟩⟩, ⟨⟨_, rfl, ⟨rfl, ak.rfl⟩⟩, trivial⟩⟩⟩⟩ ?_
 refine gHR 7 (List.map V.str b) rfl (vI _ b) rfl <| gHR 8 (kidsV a) rfl (ah _ a) rfl <| gR 12 rfl <| qBh 42 rfl rfl rfl h fB dY (fun h => ?_) fun h => ?_
 refine gR 1 rfl <| go_sub (F' := (mkF 56 0 [(2, .ptr 1 0), (4, .ptr 2 0)])) (H' := ⟨5, [(4, .row 26 4 (kidsV a)), (3, .row 9 1 (List.map V.str b)), (2, vD f g), (1, vB 0 []), (0, vA r s t v l)]⟩) [0, 1, 2, 7, 8] [0] rfl hK pq2 ⟨⟨_, rfl, rfl, rfl, (ah _ a).symm⟩, ⟨_, rfl, rfl, rfl, (vI _ b).symm⟩, (pqo3 rfl rfl rfl rfl rfl rfl)⟩ rfl <| gR 8 rfl <| gFR 3 rfl (ch _ (fun _ => rfl) _) rfl rfl <| gFR 4 rfl (cm _) rfl rfl ?_
 obtain ⟨rfl, rfl, rfl, rfl, rfl, rfl⟩ := h
 exact go_sub (F' := (mkF 56 0 [(2, .ptr 1 0)])) (H' := ⟨2, [(1, vF ((Tree.node f g b a).kind) ((Tree.node f g b a).text) ((Tree.node f g b a).leads) ((Tree.node f g b a).kids)), (0, vA r s t v l)]⟩) [0, 1] [0] rfl hK pq1 (pqo2 rfl rfl rfl rfl) rfl <| go_endD [1] aa (rs := [.cell 2 26]) rfl rfl ⟨rfl, rfl⟩
 refine gR 3 rfl <| go_sub (F' := (mkF 56 0 [(0, .ptr 0 0), (2, .ptr 1 0), (4, .ptr 2 0)])) (H' := ⟨5, [(4, .row 26 4 (kidsV a)), (3, .row 9 1 (List.map V.str b)), (2, vD f g), (1, vB 0 []), (0, vA r s t v l)]⟩) [0, 1, 2, 7, 8] [0] rfl hK pq3 ⟨⟨_, rfl, rfl, rfl, (ah _ a).symm⟩, ⟨_, rfl, rfl, rfl, (vI _ b).symm⟩, (pqo3 rfl rfl rfl rfl rfl rfl)⟩ rfl <| gR 1 rfl <| gDs [2] 6 11 rfl (by kernel_rfl) (by kernel_rfl) <| gDr [(0, 2), (1, 3), (2, 2), (4, 2)] (by kernel_rfl) rfl rfl <| gV 48 (.int .i64 (a.length : Int)) rfl (bC (av _)) rfl ?_
 refine gLO 4 rfl (av _) fun hl55 => ?_
 obtain ⟨c, r0_89, n0_90, s0_91, n0_92, n0_93, hs56, h⟩ := h
 apply aF (i := 3) (j := 5) (by kernel_rfl) rfl rfl rfl rfl
 exact (de (L' := [2]) (by kernel_rfl) rfl rfl (df (H := ⟨5, [(4, .row 26 4 (kidsV a)), (3, .row 9 1 (List.map V.str b)), (2, vD f g), (1, vB 0 []), (0, vA r s t v l)]⟩) hs56 [0] .rfl ⟨⟨_, rfl, ⟨rfl, ak.rfl⟩⟩, trivial⟩ rfl [2] rfl) (.inl rfl))
 exact (aD aa rfl rfl)
 refine gDr [(5, 0)] (by kernel_rfl) rfl rfl <| gHX 7 [.agg [.int .i64 0, .str [], .row 1 [], .row 4 (kidsV [])]] rfl (.cons (.agg (.cons .rfl (.cons .rfl (.cons (.nil 1) (.cons (.nil 4) .nil))))) .nil) rfl <| gHR 7 (kidsV [(Tree.node 0 [] [] [])]) rfl (bv (Tree.node 0 [] [] [])) rfl ?_
 obtain ⟨hb, h⟩ := h
 refine ax 6 (.repl 4 (.row 26 4 (kidsV (a ++ [(Tree.node 0 [] [] [])])))) rfl (by kernel_rfl) (bu aa rfl rfl rfl rfl rfl (aC a [(Tree.node 0 [] [] [])]).symm (by rw [av]; exact hb)) (okR rfl) rfl (by kernel_rfl) rfl rfl ?_
 obtain ⟨t0_94, hxt0_94, h⟩ := h
 refine gYd 7 rfl (by kernel_rfl) (yIO aa rfl rfl rfl rfl (by have := (ae hxt0_94); exact (List.getElem?_eq_some_iff.1 this).1)) rfl rfl ?_
 refine gDr [(9, 2)] (by kernel_rfl) rfl rfl ?_
 apply aF (i := 8) (j := 10) (by kernel_rfl) rfl rfl rfl rfl
 exact (ba (.set 8 (.row 26 4 (kidsV ((a ++ [(Tree.node 0 [] [] [])]).set a.length c)))) (dSe aa rfl rfl rfl rfl (ae hxt0_94) rfl (bp (a ++ [(Tree.node 0 [] [] [])]) a.length c)) (okS rfl) (by kernel_rfl))
 exact (aD aa rfl rfl)
 exact gDr [(10, 1)] (by kernel_rfl) rfl rfl <| gDe (by kernel_rfl) <| gJ (h K hK) [0, 1, 2, 3, 8] [0] rfl hK pq3 ⟨⟨_, rfl, rfl, rfl, (ah _ ((a ++ [(Tree.node 0 [] [] [])]).set a.length c)).symm⟩, ⟨_, rfl, rfl, rfl, (vI _ b).symm⟩, (pqo3 rfl rfl rfl rfl rfl rfl)⟩ rfl
 refine ax 8 (.set 8 (.row 26 4 (kidsV ((a ++ [(Tree.node 0 [] [] [])]).set a.length c)))) rfl (by kernel_rfl) (dSe aa rfl rfl rfl rfl (ae hxt0_94) rfl (bp (a ++ [(Tree.node 0 [] [] [])]) a.length c)) (okS rfl) rfl (by kernel_rfl) rfl rfl ?_
 exact gDe (by kernel_rfl) <| gJ (h K hK) [0, 1, 2, 3, 8] [0] rfl hK pq3 ⟨⟨_, rfl, rfl, rfl, (ah _ ((a ++ [(Tree.node 0 [] [] [])]).set a.length c)).symm⟩, ⟨_, rfl, rfl, rfl, (vI _ b).symm⟩, (pqo3 rfl rfl rfl rfl rfl rfl)⟩ rfl
 refine gHX 5 [.agg [.int .i64 0, .str [], .row 1 [], .row 4 (kidsV [])]] rfl (.cons (.agg (.cons .rfl (.cons .rfl (.cons (.nil 1) (.cons (.nil 4) .nil))))) .nil) rfl ?_
 refine gHR 5 (kidsV [(Tree.node 0 [] [] [])]) rfl (bv (Tree.node 0 [] [] [])) rfl <| gDCY 3 hs56 [0] rfl ?_
 obtain ⟨hb, h⟩ := h
 refine ax 6 (.repl 4 (.row 26 4 (kidsV (a ++ [(Tree.node 0 [] [] [])])))) rfl (by kernel_rfl) (bu aa rfl rfl rfl rfl rfl (aC a [(Tree.node 0 [] [] [])]).symm (by rw [av]; exact hb)) (okR rfl) rfl (by kernel_rfl) rfl rfl ?_
 obtain ⟨t0_94, hxt0_94, h⟩ := h
 refine gYd 7 rfl (by kernel_rfl) (yIO aa rfl rfl rfl rfl (by have := (ae hxt0_94); exact (List.getElem?_eq_some_iff.1 this).1)) rfl rfl ?_
 refine gDr [(9, 2)] (by kernel_rfl) rfl rfl ?_
 apply aF (i := 8) (j := 10) (by kernel_rfl) rfl rfl rfl rfl
 exact (ba (.set 8 (.row 26 4 (kidsV ((a ++ [(Tree.node 0 [] [] [])]).set a.length c)))) (dSe aa rfl rfl rfl rfl (ae hxt0_94) rfl (bp (a ++ [(Tree.node 0 [] [] [])]) a.length c)) (okS rfl) (by kernel_rfl))
 exact (aD aa rfl rfl)
 exact gDr [(10, 1)] (by kernel_rfl) rfl rfl <| gDe (by kernel_rfl) <| gJ (h K hK) [0, 1, 2, 3, 8] [0] rfl hK pq3 ⟨⟨_, rfl, rfl, rfl, (ah _ ((a ++ [(Tree.node 0 [] [] [])]).set a.length c)).symm⟩, ⟨_, rfl, rfl, rfl, (vI _ b).symm⟩, (pqo3 rfl rfl rfl rfl rfl rfl)⟩ rfl
 refine ax 8 (.set 8 (.row 26 4 (kidsV ((a ++ [(Tree.node 0 [] [] [])]).set a.length c)))) rfl (by kernel_rfl) (dSe aa rfl rfl rfl rfl (ae hxt0_94) rfl (bp (a ++ [(Tree.node 0 [] [] [])]) a.length c)) (okS rfl) rfl (by kernel_rfl) rfl rfl ?_
 exact gDe (by kernel_rfl) <| gJ (h K hK) [0, 1, 2, 3, 8] [0] rfl hK pq3 ⟨⟨_, rfl, rfl, rfl, (ah _ ((a ++ [(Tree.node 0 [] [] [])]).set a.length c)).symm⟩, ⟨_, rfl, rfl, rfl, (vI _ b).symm⟩, (pqo3 rfl rfl rfl rfl rfl rfl)⟩ rfl
theorem lF (m : Nat) (r : Int) (s : List UInt8) (i : (List (List UInt8))) (c : List Tree) (j : Tree) (t : List GToken) (v : Int) (x : List UInt8) (y z : Int) (r0 : Tree) (α : List GToken) (k : Int) (f : List UInt8) (g β : Int) (h : ∃ l n o p q d e a b, al t v x y z r s i ((c ++ [(Tree.node 0 [] [] [])]).set c.length j) [93] l n o p q d e a b ∧ (Tree.node d e a b) = r0 ∧ l = α ∧ n = k ∧ o = f ∧ p = g ∧ q = β) : iJ (m + 1) r s i c j t v x y z r0 α k f g β := by
 intro K hK
 refine gR 4 rfl ?_
 obtain ⟨l, n, o, p, q, d, e, a, b, hs57, h⟩ := h
 refine gCZ hs57 [0, 2, 3, 4] ⟨⟨_, rfl, ⟨rfl, rfl, (ah _ ((c ++ [(Tree.node 0 [] [] [])]).set c.length j)).symm⟩⟩, ⟨⟨_, rfl, ⟨rfl, rfl, (vI _ i).symm⟩⟩, ⟨⟨_, rfl, ⟨rfl, ak.rfl⟩⟩, ⟨⟨_, rfl, ⟨rfl, ak.rfl⟩⟩, trivial⟩⟩⟩⟩ ?_
 refine gHR 7 (List.map V.str a) rfl (vI _ a) rfl <| gHR 8 (kidsV b) rfl (ah _ b) rfl <| gR 9 rfl <| gFR 7 rfl (ch _ (fun _ => rfl) _) rfl rfl <| gFR 8 rfl (cm _) rfl rfl ?_
 obtain ⟨rfl, rfl, rfl, rfl, rfl, rfl⟩ := h
 exact go_sub (F' := (mkF 56 0 [(2, .ptr 1 0)])) (H' := ⟨2, [(1, vF ((Tree.node d e a b).kind) ((Tree.node d e a b).text) ((Tree.node d e a b).leads) ((Tree.node d e a b).kids)), (0, vA l n o p q)]⟩) [0, 1] [0] rfl hK pq1 (pqo2 rfl rfl rfl rfl) rfl <| go_endD [1] aa (rs := [.cell 2 26]) rfl rfl ⟨rfl, rfl⟩
theorem kH (m : Nat) (p0_l : List GToken) (p0_at_ : Int) (p0_tail : List UInt8) (p0_stop p0_e : Int) (r0 : Bool) (d : List GToken) (c : Int) (a : List UInt8) (b e : Int) (h : ∃ l f g i j k, aH p0_l p0_at_ p0_tail p0_stop p0_e l f g i j k ∧ ((l = 5) → true = r0 ∧ f = d ∧ g = c ∧ i = a ∧ j = b ∧ k = e) ∧ ((l ≠ 5) → ((l = 6) → true = r0 ∧ f = d ∧ g = c ∧ i = a ∧ j = b ∧ k = e) ∧ ((l ≠ 6) → ((l = 1) → true = r0 ∧ f = d ∧ g = c ∧ i = a ∧ j = b ∧ k = e) ∧ ((l ≠ 1) → ((l = 3) → true = r0 ∧ f = d ∧ g = c ∧ i = a ∧ j = b ∧ k = e) ∧ ((l ≠ 3) → ∃ b0_7 r0_8 n0_9 n o p, aq f g i j k [108, 101, 116] b0_7 r0_8 n0_9 n o p ∧ ((b0_7 = true) → true = r0 ∧ r0_8 = d ∧ n0_9 = c ∧ n = a ∧ o = b ∧ p = e) ∧ ((b0_7 = false) → ∃ φ q r s t v, aq r0_8 n0_9 n o p [105, 102] φ q r s t v ∧ ((φ = true) → true = r0 ∧ q = d ∧ r = c ∧ s = a ∧ t = b ∧ v = e) ∧ ((φ = false) → ∃ χ x y z α β, aq q r s t v [116, 114, 117, 101] χ x y z α β ∧ ((χ = true) → true = r0 ∧ x = d ∧ y = c ∧ z = a ∧ α = b ∧ β = e) ∧ ((χ = false) → ∃ ψ γ δ ε ζ η, aq x y z α β [102, 97, 108, 115, 101] ψ γ δ ε ζ η ∧ ((ψ = true) → true = r0 ∧ γ = d ∧ δ = c ∧ ε = a ∧ ζ = b ∧ η = e) ∧ ((ψ = false) → ∃ ω θ ι κ μ ν, aq γ δ ε ζ η [63] ω θ ι κ μ ν ∧ ((ω = true) → true = r0 ∧ θ = d ∧ ι = c ∧ κ = a ∧ μ = b ∧ ν = e) ∧ ((ω = false) → ∃ b0_37 ξ ο π τ υ, aq θ ι κ μ ν [40] b0_37 ξ ο π τ υ ∧ ((b0_37 = true) → true = r0 ∧ ξ = d ∧ ο = c ∧ π = a ∧ τ = b ∧ υ = e) ∧ ((b0_37 = false) → ∃ b0_43 r0_44 n0_45 s0_46 n0_47 n0_48, aq ξ ο π τ υ [91] b0_43 r0_44 n0_45 s0_46 n0_47 n0_48 ∧ b0_43 = r0 ∧ r0_44 = d ∧ n0_45 = c ∧ s0_46 = a ∧ n0_47 = b ∧ n0_48 = e))))))))))) : fa p0_l p0_at_ p0_tail p0_stop p0_e r0 d c a b e := by
 refine az 48 [0] Try.func94 rfl rfl rfl (bg rfl) fun K hK => ?_
 refine gR 8 rfl ?_
 obtain ⟨l, f, g, i, j, k, hs9, h⟩ := h
 refine gCY hs9 [0] ?_
 refine gR 8 rfl <| qBeZ 8 7 rfl rfl rfl rfl h (fun h => ?_) fun h => ?_
 refine gR 43 rfl ?_
 obtain ⟨rfl, rfl, rfl, rfl, rfl, rfl⟩ := h
 exact go_sub (F' := (mkF 48 0 [(2, .bool true)])) (H' := ⟨1, [(0, vA f g i j k)]⟩) [0] [0] rfl hK pq1 (pqo1 rfl rfl) rfl <| go_endD [] aa (rs := [.tmp 2]) rfl rfl ⟨rfl, rfl⟩
 refine gR 4 rfl <| qBeZ 12 11 rfl rfl rfl rfl h (fun h => ?_) fun h => ?_
 refine gR 39 rfl ?_
 obtain ⟨rfl, rfl, rfl, rfl, rfl, rfl⟩ := h
 exact go_sub (F' := (mkF 48 0 [(2, .bool true)])) (H' := ⟨1, [(0, vA f g i j k)]⟩) [0] [0] rfl hK pq1 (pqo1 rfl rfl) rfl <| go_endD [] aa (rs := [.tmp 2]) rfl rfl ⟨rfl, rfl⟩
 refine gR 4 rfl <| qBeZ 16 15 rfl rfl rfl rfl h (fun h => ?_) fun h => ?_
 refine gR 35 rfl ?_
 obtain ⟨rfl, rfl, rfl, rfl, rfl, rfl⟩ := h
 exact go_sub (F' := (mkF 48 0 [(2, .bool true)])) (H' := ⟨1, [(0, vA f g i j k)]⟩) [0] [0] rfl hK pq1 (pqo1 rfl rfl) rfl <| go_endD [] aa (rs := [.tmp 2]) rfl rfl ⟨rfl, rfl⟩
 refine gR 4 rfl <| qBeZ 20 19 rfl rfl rfl rfl h (fun h => ?_) fun h => ?_
 refine gR 31 rfl ?_
 obtain ⟨rfl, rfl, rfl, rfl, rfl, rfl⟩ := h
 exact go_sub (F' := (mkF 48 0 [(2, .bool true)])) (H' := ⟨1, [(0, vA f g i j k)]⟩) [0] [0] rfl hK pq1 (pqo1 rfl rfl) rfl <| go_endD [] aa (rs := [.tmp 2]) rfl rfl ⟨rfl, rfl⟩
 refine gR 1 rfl ?_
 obtain ⟨b0_7, r0_8, n0_9, n, o, p, hs10, h⟩ := h
 refine gCY hs10 [0] ?_
 refine gR 2 rfl <| qBiZ 24 23 rfl rfl rfl rfl h (fun h => ?_) fun h => ?_
 refine gR 27 rfl ?_
 obtain ⟨rfl, rfl, rfl, rfl, rfl, rfl⟩ := h
 exact go_sub (F' := (mkF 48 0 [(2, .bool true)])) (H' := ⟨1, [(0, vA r0_8 n0_9 n o p)]⟩) [0] [0] rfl hK pq1 (pqo1 rfl rfl) rfl <| go_endD [] aa (rs := [.tmp 2]) rfl rfl ⟨rfl, rfl⟩
 refine gR 1 rfl ?_
 obtain ⟨φ, q, r, s, t, v, hs11, h⟩ := h
 refine gCY hs11 [0] ?_
 refine gR 2 rfl <| qBiZ 28 27 rfl rfl rfl rfl h (fun h => ?_) fun h => ?_
 refine gR 23 rfl ?_
 obtain ⟨rfl, rfl, rfl, rfl, rfl, rfl⟩ := h
 exact go_sub (F' := (mkF 48 0 [(2, .bool true)])) (H' := ⟨1, [(0, vA q r s t v)]⟩) [0] [0] rfl hK pq1 (pqo1 rfl rfl) rfl <| go_endD [] aa (rs := [.tmp 2]) rfl rfl ⟨rfl, rfl⟩
 refine gR 1 rfl ?_
 obtain ⟨χ, x, y, z, α, β, hs12, h⟩ := h
 refine gCY hs12 [0] ?_
 refine gR 2 rfl <| qBiZ 32 31 rfl rfl rfl rfl h (fun h => ?_) fun h => ?_
 refine gR 19 rfl ?_
 obtain ⟨rfl, rfl, rfl, rfl, rfl, rfl⟩ := h
 exact go_sub (F' := (mkF 48 0 [(2, .bool true)])) (H' := ⟨1, [(0, vA x y z α β)]⟩) [0] [0] rfl hK pq1 (pqo1 rfl rfl) rfl <| go_endD [] aa (rs := [.tmp 2]) rfl rfl ⟨rfl, rfl⟩
 refine gR 1 rfl ?_
 obtain ⟨ψ, γ, δ, ε, ζ, η, hs13, h⟩ := h
 refine gCY hs13 [0] ?_
 refine gR 2 rfl <| qBiZ 36 35 rfl rfl rfl rfl h (fun h => ?_) fun h => ?_
 refine gR 15 rfl ?_
 obtain ⟨rfl, rfl, rfl, rfl, rfl, rfl⟩ := h
 exact go_sub (F' := (mkF 48 0 [(2, .bool true)])) (H' := ⟨1, [(0, vA γ δ ε ζ η)]⟩) [0] [0] rfl hK pq1 (pqo1 rfl rfl) rfl <| go_endD [] aa (rs := [.tmp 2]) rfl rfl ⟨rfl, rfl⟩
 refine gR 1 rfl ?_
 obtain ⟨ω, θ, ι, κ, μ, ν, hs14, h⟩ := h
 refine gCY hs14 [0] ?_
 refine gR 2 rfl <| qBiZ 40 39 rfl rfl rfl rfl h (fun h => ?_) fun h => ?_
 refine gR 11 rfl ?_
 obtain ⟨rfl, rfl, rfl, rfl, rfl, rfl⟩ := h
 exact go_sub (F' := (mkF 48 0 [(2, .bool true)])) (H' := ⟨1, [(0, vA θ ι κ μ ν)]⟩) [0] [0] rfl hK pq1 (pqo1 rfl rfl) rfl <| go_endD [] aa (rs := [.tmp 2]) rfl rfl ⟨rfl, rfl⟩
 refine gR 1 rfl ?_
 obtain ⟨b0_37, ξ, ο, π, τ, υ, hs15, h⟩ := h
 refine gCY hs15 [0] ?_
 refine gR 2 rfl <| qBiZ 44 43 rfl rfl rfl rfl h (fun h => ?_) fun h => ?_
 refine gR 7 rfl ?_
 obtain ⟨rfl, rfl, rfl, rfl, rfl, rfl⟩ := h
 exact go_sub (F' := (mkF 48 0 [(2, .bool true)])) (H' := ⟨1, [(0, vA ξ ο π τ υ)]⟩) [0] [0] rfl hK pq1 (pqo1 rfl rfl) rfl <| go_endD [] aa (rs := [.tmp 2]) rfl rfl ⟨rfl, rfl⟩
 refine gR 1 rfl ?_
 obtain ⟨b0_43, r0_44, n0_45, s0_46, n0_47, n0_48, hs16, h⟩ := h
 refine gCY hs16 [0] ?_
 refine gR 5 rfl ?_
 obtain ⟨rfl, rfl, rfl, rfl, rfl, rfl⟩ := h
 exact go_sub (F' := (mkF 48 0 [(2, .bool b0_43)])) (H' := ⟨1, [(0, vA r0_44 n0_45 s0_46 n0_47 n0_48)]⟩) [0] [0] rfl hK pq1 (pqo1 rfl rfl) rfl <| go_endD [] aa (rs := [.tmp 2]) rfl rfl ⟨rfl, rfl⟩
structure RS where
 at_ : Int
 stop : Int
 e : Int
def Rl (L : List TokZ) (sz : Nat) (s : PS) (st : RS) : Prop := (∃ k : Nat, Lv L sz s k ∧ st = ⟨k, -1, 0⟩) ∨ (∃ j : Nat, Ds L sz s j ∧ st.stop = j ∧ st.e = (s.failed : Nat))
def Gl (L : List TokZ) : Prop := ∀ t ∈ L, t.kind = (bm t.text : Nat)
theorem fP {e : Nat} (he : e ≠ 0) (s : PS) : (aV e s).failed ≠ 0 := by
 unfold aV
 split
 ·exact he
 ·assumption
section
variable {L : List TokZ} {sz : Nat} {s : PS} {st : RS} (h : Rl L sz s st)
include h
theorem Rl.e0 : st.e = 0 ↔ s.failed = 0 := by
 rcases h with ⟨k, lv, rfl⟩ | ⟨j, ds, _, he⟩
 ·simp [lv.1]
 ·rw [he]; omega
theorem Rl.dd (hf : s.failed ≠ 0) : Dd s := by
 rcases h with ⟨k, lv, rfl⟩ | ⟨j, ds, _, he⟩
 ·exact absurd lv.1 hf
 ·exact ds.1
theorem Rl.lv (hn : s.toks ≠ []) : ∃ k : Nat, Lv L sz s k ∧ st = ⟨k, -1, 0⟩ := by
 rcases h with h | ⟨j, ds, _, he⟩
 ·exact h
 ·exact absurd ds.1.2 hn
theorem Rl.good (hg : Gl L) : (ab s).kind = (bm (ab s).text : Nat) := by
 by_cases hn : s.toks = []
 ·have : ab s = dK := by simp [ab, hn]
  rw [this]; rfl
 ·obtain ⟨k, lv, _⟩ := h.lv hn
  obtain ⟨hk, _⟩ := lv.get hn
  exact hg _ (List.mem_of_getElem? hk)
theorem Rl.up {s' : PS} (hd : Dd s → Sm s s') (h0 : s'.failed = 0) : s.failed = 0 := Classical.byContradiction fun hf => by
 have := (hd (h.dd hf)).1
 omega
end
abbrev gl (L : List TokZ) : List GToken := L.map gTk
theorem iW {L : List TokZ} {k : Nat} {t : TokZ} (h : L[k]? = some t) : (gl L)[k]? = some (gTk t) := by rw [gl, List.getElem?_map, h]; rfl
theorem jZ (L : List TokZ) : (((gl L).length : Nat) : Int) = (L.length : Nat) := by simp [gl]
theorem qV (a b : List UInt8) : (a == b) = decide (a = b) := by rw [Bool.eq_iff_iff]; simp
section
variable {L : List TokZ} {tl : List UInt8} {sz : Nat} (hg : Gl L)
include hg
theorem kG {s : PS} {st : RS} (x : List UInt8) (hx : bm x = 7 ∨ bm x = 8) (h : Rl L sz s st) : aq (gl L) st.at_ tl st.stop st.e x (decide ((ab s).text = x)) (gl L) st.at_ tl st.stop st.e := by
 have hx0 : x ≠ [] := by
  rintro rfl
  rcases hx with e | e <;> cases e
 have good := h.good hg
 rcases h with ⟨k, lv, rfl⟩ | ⟨j, ds, hs, he⟩
 ·by_cases hn : s.toks = []
  ·have hk := lv.nil hn
   have : ab s = dK := by simp [ab, hn]
   rw [this]
   have hd : decide (dK.text = x) = false := decide_eq_false fun e => hx0 e.symm
   rw [hd]
   exact fO 0 _ _ _ _ _ _ _ _ _ _ _ _ ⟨fun _ => ⟨fun hc => absurd hc (by rw [jZ, hk]; simp), fun _ => ⟨rfl, rfl, rfl, rfl, rfl, rfl⟩⟩, fun e => absurd rfl e⟩
  ·obtain ⟨hk, hlt⟩ := lv.get hn
   refine fO 0 _ _ _ _ _ _ _ _ _ _ _ _ ⟨fun _ => ⟨fun _ => ⟨k, rfl, _, iW hk, fun _ => ⟨k, rfl, _, iW hk, qV _ _, rfl, rfl, rfl, rfl, rfl⟩, fun h7 => ⟨k, rfl, _, iW hk, fun _ => ⟨k, rfl, _, iW hk, qV _ _, rfl, rfl, rfl, rfl, rfl⟩, fun h8 => ⟨(decide_eq_false fun e => ?_).symm, rfl, rfl, rfl, rfl, rfl⟩⟩⟩, fun hc => absurd (by rw [jZ]; show (k : Int) < _; omega) hc⟩, fun e => absurd rfl e⟩
   have h7' : (ab s).kind ≠ 7 := h7
   have h8' : (ab s).kind ≠ 8 := h8
   rw [e] at good
   omega
 ·have : ab s = dK := fK ds.1
  rw [this]
  have hd : decide (dK.text = x) = false := decide_eq_false fun e => hx0 e.symm
  rw [hd]
  have := ds.1.1
  exact fO 0 _ _ _ _ _ _ _ _ _ _ _ _ ⟨fun e => absurd e (by rw [he]; omega), fun _ => ⟨rfl, rfl, rfl, rfl, rfl, rfl⟩⟩
omit hg in
theorem lq {s : PS} {st : RS} (h : Rl L sz s st) : aH (gl L) st.at_ tl st.stop st.e (ab s).kind (gl L) st.at_ tl st.stop st.e := by
 rcases h with ⟨k, lv, rfl⟩ | ⟨j, ds, hs, he⟩
 ·by_cases hn : s.toks = []
  ·have hk := lv.nil hn
   have : ab s = dK := by simp [ab, hn]
   rw [this]
   exact fo 0 _ _ _ _ _ _ _ _ _ _ _ ⟨fun e => absurd rfl e, fun _ => ⟨fun _ => ⟨rfl, rfl, rfl, rfl, rfl, rfl⟩, fun hc => absurd (by rw [jZ, hk]; exact Int.le_refl _) hc⟩⟩
  ·obtain ⟨hk, hlt⟩ := lv.get hn
   exact fo 0 _ _ _ _ _ _ _ _ _ _ _ ⟨fun e => absurd rfl e, fun _ => ⟨fun hc => absurd hc (by rw [jZ]; show ¬ _ ≤ (k : Int); omega), fun _ => ⟨k, rfl, _, iW hk, rfl, rfl, rfl, rfl, rfl, rfl⟩⟩⟩
 ·have : ab s = dK := fK ds.1
  rw [this]
  have := ds.1.1
  exact fo 0 _ _ _ _ _ _ _ _ _ _ _ ⟨fun _ => ⟨rfl, rfl, rfl, rfl, rfl, rfl⟩, fun e => absurd e (by rw [he]; omega)⟩
omit hg in
theorem nm {s : PS} {st : RS} {e : Nat} (he : e ≠ 0) (h : Rl L sz s st) : ∃ st' : RS, aZ (gl L) st.at_ tl st.stop st.e e (gl L) st'.at_ tl st'.stop st'.e ∧ Rl L sz (aV e s) st' := by
 rcases h with ⟨k, lv, rfl⟩ | ⟨j, ds, hs, hee⟩
 ·obtain ⟨d, f⟩ := lv.fail he
  exact ⟨⟨k, k, e⟩, ij 0 _ _ _ _ _ _ _ _ _ _ _ ⟨fun _ => ⟨rfl, rfl, rfl, rfl, rfl⟩, fun e => absurd rfl e⟩, .inr ⟨k, d, rfl, by rw [f]⟩⟩
 ·have := ds.1.1
  have sm := oN ds.1 e
  exact ⟨st, ij 0 _ _ _ _ _ _ _ _ _ _ _ ⟨fun e => absurd e (by rw [hee]; omega), fun _ => ⟨rfl, rfl, rfl, rfl, rfl⟩⟩, .inr ⟨j, ⟨sm.dd ds.1, ds.2.1, by rw [sm.2.1]; exact ds.2.2⟩, hs, by rw [sm.1]; exact hee⟩⟩
variable (hL : L.length ≤ 1000000)
include hL
omit hg in
theorem qt {s : PS} {st : RS} (hn : s.toks ≠ []) (h : Rl L sz s st) : ∃ st' : RS, cG (gl L) st.at_ tl st.stop st.e (gTk (ab s)) (gl L) st'.at_ tl st'.stop st'.e ∧ Rl L sz (ac s) st' := by
 obtain ⟨k, lv, rfl⟩ := h.lv hn
 obtain ⟨hk, hlt⟩ := lv.get hn
 refine ⟨⟨(k : Int) + 1, -1, 0⟩, lO 0 _ _ _ _ _ _ _ _ _ _ _ ⟨fun e => absurd rfl e, fun _ => ⟨fun hc => absurd hc (by rw [jZ]; show ¬ _ ≤ (k : Int); omega), fun _ => ⟨?_, ?_, k, by show (k : Int) + 1 - 1 = k; omega, _, iW hk, rfl, rfl, rfl, rfl, rfl, rfl⟩⟩⟩, .inl ⟨k + 1, lv.take hn, by rw [RS.mk.injEq]; exact ⟨by omega, rfl, rfl⟩⟩⟩
 ·show InI ((k : Int) + 1); constructor <;> omega
 ·show InI ((k : Int) + 1 - 1); constructor <;> omega
theorem bZ {s : PS} {st : RS} (K : Int) (X : List UInt8) (ls : List (List UInt8)) (ks : List Tree) (x : List UInt8) (hx : bm x = 7 ∨ bm x = 8) (hl : ls.length ≤ 1000) (h : Rl L sz s st) :
  ∃ (st' : RS) (ls' : List (List UInt8)), al (gl L) st.at_ tl st.stop st.e K X ls ks x (gl L) st'.at_ tl st'.stop st'.e K X ls' ks ∧ Rl L sz (ai x s).2 st' ∧ ls'.length ≤ ls.length + 1 ∧ ((ai x s).2.failed = 0 → ls' = ls ++ [(ai x s).1]) := by
 have hx0 : x ≠ [] := by
  rintro rfl
  rcases hx with e | e <;> cases e
 have i := kG (tl := tl) hg x hx h
 by_cases c : (ab s).text = x
 ·have e : ai x s = ((ab s).lead, ac s) := by simp [ai, c]
  obtain ⟨st', q, r⟩ := qt (tl := tl) hL (aT (.inl (by rw [c]; exact hx0))) h
  rw [decide_eq_true c] at i
  rw [e]
  exact ⟨st', ls ++ [(ab s).lead], iq 0 _ _ _ _ _ _ _ _ _ _ _ _ _ _ _ _ _ _ _ ⟨_, _, _, _, _, _, i, fun e => (by cases e), fun _ => ⟨_, _, _, _, _, _, q, by simp only [List.length_append, List.length_cons, List.length_nil]; omega, rfl, rfl, rfl, rfl, rfl, rfl, rfl, rfl, rfl⟩⟩, r, by simp, fun _ => rfl⟩
 ·have e : ai x s = ([], aV 2 s) := by simp [ai, c]
  obtain ⟨st', q, r⟩ := nm (tl := tl) (e := 2) (by decide) h
  rw [decide_eq_false c] at i
  rw [e]
  exact ⟨st', ls, iq 0 _ _ _ _ _ _ _ _ _ _ _ _ _ _ _ _ _ _ _ ⟨_, _, _, _, _, _, i, fun _ => ⟨_, _, _, _, _, q, rfl, rfl, rfl, rfl, rfl, rfl, rfl, rfl, rfl⟩, fun e => (by cases e)⟩, r, Nat.le_succ _, fun h0 => absurd h0 (fP (by decide) s)⟩
omit hg in
theorem jx {s : PS} {st : RS} (K : Int) (X : List UInt8) (ls : List (List UInt8)) (ks : List Tree) (k : Int) (hk : k ≠ 0) (hl : ls.length ≤ 1000) (h : Rl L sz s st) :
  ∃ (st' : RS) (X' : List UInt8) (ls' : List (List UInt8)), aS (gl L) st.at_ tl st.stop st.e K X ls ks k (gl L) st'.at_ tl st'.stop st'.e K X' ls' ks ∧ Rl L sz (aL k k s).2.2 st' ∧ ls'.length ≤ ls.length + 1 ∧ ((aL k k s).2.2.failed = 0 → X' = (aL k k s).1 ∧ ls' = ls ++ [(aL k k s).2.1]) := by
 have i := lq (tl := tl) h
 by_cases c : (ab s).kind = k
 ·have e : aL k k s = ((ab s).text, (ab s).lead, ac s) := by unfold aL; rw [if_neg (by omega)]
  obtain ⟨st', q, r⟩ := qt (tl := tl) hL (aT (.inr (by omega))) h
  rw [e]
  exact ⟨st', (ab s).text, ls ++ [(ab s).lead], iu 0 _ _ _ _ _ _ _ _ _ _ _ _ _ _ _ _ _ _ _ ⟨_, _, _, _, _, _, i, fun e => absurd c e, fun _ => ⟨_, _, _, _, _, _, q, by simp only [List.length_append, List.length_cons, List.length_nil]; omega, rfl, rfl, rfl, rfl, rfl, rfl, rfl, rfl, rfl⟩⟩, r, by simp, fun _ => ⟨rfl, rfl⟩⟩
 ·have e : aL k k s = ([], [], aV 2 s) := by unfold aL; rw [if_pos (.inr ⟨c, c⟩)]
  obtain ⟨st', q, r⟩ := nm (tl := tl) (e := 2) (by decide) h
  rw [e]
  exact ⟨st', X, ls, iu 0 _ _ _ _ _ _ _ _ _ _ _ _ _ _ _ _ _ _ _ ⟨_, _, _, _, _, _, i, fun _ => ⟨_, _, _, _, _, q, rfl, rfl, rfl, rfl, rfl, rfl, rfl, rfl, rfl⟩, fun e => absurd e c⟩, r, Nat.le_succ _, fun h0 => absurd h0 (fP (by decide) s)⟩
omit hg in
theorem no {s : PS} {st : RS} (k : Int) (hn : s.toks ≠ []) (h : Rl L sz s st) : ∃ st' : RS, bJ (gl L) st.at_ tl st.stop st.e k (.node k [] [(ab s).lead] []) (gl L) st'.at_ tl st'.stop st'.e ∧ Rl L sz (ac s) st' := by
 obtain ⟨st', q, r⟩ := qt (tl := tl) hL hn h
 exact ⟨st', lD 0 _ _ _ _ _ _ _ _ _ _ _ _ ⟨_, _, _, _, _, _, q, rfl, rfl, rfl, rfl, rfl, rfl⟩, r⟩
omit hL in
theorem sw {s : PS} {st : RS} (h : Rl L sz s st) : fa (gl L) st.at_ tl st.stop st.e (aA (ab s)) (gl L) st.at_ tl st.stop st.e := by
 have k := lq (tl := tl) h
 have i := fun x hx => kG (tl := tl) hg x hx h
 have T : ∀ {p : Prop}, p → (p → aA (ab s) = true) → true = aA (ab s) ∧ gl L = gl L ∧ st.at_ = st.at_ ∧ tl = tl ∧ st.stop = st.stop ∧ st.e = st.e := fun hp f => ⟨(f hp).symm, rfl, rfl, rfl, rfl, rfl⟩
 refine kH 0 _ _ _ _ _ _ _ _ _ _ _ ⟨_, _, _, _, _, _, k, fun h5 => T h5 fun h5 => by simp [aA, h5], fun h5 => ⟨fun h6 => T h6 fun h6 => by simp [aA, h6], fun h6 => ⟨fun h1 => T h1 fun h1 => by simp [aA, h1], fun h1 => ⟨fun h3 => T h3 fun h3 => by simp [aA, h3], fun h3 => ⟨_, _, _, _, _, _, i mx (by decide), fun c => T (of_decide_eq_true c) fun c => by simp [aA, c], fun c1 => ⟨_, _, _, _, _, _, i wIf (by decide), fun c => T (of_decide_eq_true c) fun c => by simp [aA, c], fun c2 => ⟨_, _, _, _, _, _, i gD (by decide), fun c => T (of_decide_eq_true c) fun c => by simp [aA, c], fun c3 => ⟨_, _, _, _, _, _, i fM (by decide), fun c => T (of_decide_eq_true c) fun c => by simp [aA, c], fun c4 => ⟨_, _, _, _, _, _, i [63] (by decide), fun c => T (of_decide_eq_true c) fun c => by simp [aA, c], fun c5 => ⟨_, _, _, _, _, _, i [40] (by decide), fun c => T (of_decide_eq_true c) fun c => by simp [aA, c], fun c6 => ⟨_, _, _, _, _, _, i [91] (by decide), ?_⟩⟩⟩⟩⟩⟩⟩⟩⟩⟩⟩
 refine ⟨?_, rfl, rfl, rfl, rfl, rfl⟩
 have b := fun (k : Int) (e : (ab s).kind ≠ k) => beq_eq_false_iff_ne.2 e
 have d := fun (w : List UInt8) (e : decide ((ab s).text = w) = false) => (show ((ab s).text == w) = false from beq_eq_false_iff_ne.2 (of_decide_eq_false e))
 rw [aA, b 5 h5, b 6 h6, b 1 h1, b 3 h3, d _ c1, d _ c2, d _ c3, d _ c4, d _ c5, d _ c6, qV]
 simp
end
theorem Rl.f0 {L : List TokZ} {sz : Nat} {s : PS} {st : RS} (h : Rl L sz s st) (hn : s.toks ≠ []) : s.failed = 0 := by
 obtain ⟨k, lv, _⟩ := h.lv hn
 exact lv.1
theorem Rl.sm {L : List TokZ} {sz : Nat} {s s' : PS} {st : RS} (h : Rl L sz s st) (d : Dd s) (k : Sm s s') : Rl L sz s' st := by
 rcases h with ⟨_, lv, rfl⟩ | ⟨j, ds, hs, he⟩
 ·exact absurd lv.1 d.1
 ·exact .inr ⟨j, ⟨k.dd d, ds.2.1, by rw [k.2.1]; exact ds.2.2⟩, hs, by rw [k.1]; exact he⟩
theorem Rl.kx {L : List TokZ} {sz : Nat} {s : PS} {st : RS} (h : Rl L sz s st) (hg : Gl L) {x : List UInt8} (hx : bm x = 7 ∨ bm x = 8) (e : (ab s).text = x) : (ab s).kind = 7 ∨ (ab s).kind = 8 := by
 have := h.good hg
 rw [e] at this
 omega
abbrev SPr := List GToken → Int → List UInt8 → Int → Int → Tree → List GToken → Int → List UInt8 → Int → Int → Prop
def Ar (L : List TokZ) (tl : List UInt8) (sz : Nat) (S : SPr) (st : RS) (r : Tree × PS) : Prop := ∃ (x : Tree) (st' : RS), S (gl L) st.at_ tl st.stop st.e x (gl L) st'.at_ tl st'.stop st'.e ∧ Rl L sz r.2 st' ∧ (r.2.failed = 0 → x = r.1)
theorem jd {x : List UInt8} {s : PS} (h : (ab s).text = x) : ai x s = ((ab s).lead, ac s) := by simp [ai, h]
theorem kJ {x : List UInt8} {s : PS} (h : ¬ (ab s).text = x) : ai x s = ([], aV 2 s) := by simp [ai, h]
theorem nt {k o : Int} {s : PS} (h : (ab s).kind = k) (hk : k ≠ 0) : aL k o s = ((ab s).text, (ab s).lead, ac s) := by
 unfold aL
 rw [if_neg (by omega)]
theorem tJ {k o : Int} {s : PS} (h : (ab s).kind = o) (hk : o ≠ 0) : aL k o s = ((ab s).text, (ab s).lead, ac s) := by
 unfold aL
 rw [if_neg (by omega)]
theorem fe {s : PS} : (ac s).failed = s.failed := by
 unfold ac
 split <;> rfl
section
variable {L : List TokZ} {tl : List UInt8} {sz : Nat} (hg : Gl L) (hL : L.length ≤ 1000000)
include hg hL
theorem rU : ∀ (n : Nat) (s : PS) (st : RS), s.toks.length < n → Rl L sz s st → Ar L tl sz cg st (gd n s)
 | 0, s, st, h, _ => by omega
 | n + 1, s, st, h, hr => by
  have i := fun x hx => kG (tl := tl) hg x hx hr
  have k := lq (tl := tl) hr
  unfold gd
  by_cases h1 : (ab s).text = nh
  ·obtain ⟨st', q, r⟩ := no (tl := tl) hL 5 (aT (.inl (by rw [h1]; decide))) hr
   rw [if_pos h1]
   exact ⟨_, st', bV 0 _ _ _ _ _ _ _ _ _ _ _ ⟨_, _, _, _, _, _, i nh (by decide), fun _ => ⟨_, _, _, _, _, _, q, rfl, rfl, rfl, rfl, rfl, rfl⟩, fun e => absurd h1 (of_decide_eq_false e)⟩, r, fun _ => rfl⟩
  rw [if_neg h1]
  by_cases h2 : (ab s).text = lR
  ·obtain ⟨st', q, r⟩ := no (tl := tl) hL 6 (aT (.inl (by rw [h2]; decide))) hr
   rw [if_pos h2]
   exact ⟨_, st', bV 0 _ _ _ _ _ _ _ _ _ _ _ ⟨_, _, _, _, _, _, i nh (by decide), fun e => absurd (of_decide_eq_true e) h1, fun _ => ⟨_, _, _, _, _, _, i lR (by decide), fun _ => ⟨_, _, _, _, _, _, q, rfl, rfl, rfl, rfl, rfl, rfl⟩, fun e => absurd h2 (of_decide_eq_false e)⟩⟩, r, fun _ => rfl⟩
  rw [if_neg h2]
  by_cases h3 : (ab s).text = mK
  ·obtain ⟨st', q, r⟩ := no (tl := tl) hL 7 (aT (.inl (by rw [h3]; decide))) hr
   rw [if_pos h3]
   exact ⟨_, st', bV 0 _ _ _ _ _ _ _ _ _ _ _ ⟨_, _, _, _, _, _, i nh (by decide), fun e => absurd (of_decide_eq_true e) h1, fun _ => ⟨_, _, _, _, _, _, i lR (by decide), fun e => absurd (of_decide_eq_true e) h2, fun _ => ⟨_, _, _, _, _, _, i mK (by decide), fun _ => ⟨_, _, _, _, _, _, q, rfl, rfl, rfl, rfl, rfl, rfl⟩, fun e => absurd h3 (of_decide_eq_false e)⟩⟩⟩, r, fun _ => rfl⟩
  rw [if_neg h3]
  by_cases h4 : (ab s).text = [91]
  ·have hn := aT (s := s) (.inl (by rw [h4]; decide))
   have f0 := hr.f0 hn
   have k78 := hr.kx hg (x := [91]) (by decide) h4
   have lt := cn hn
   obtain ⟨st1, l1, q1, r1, b1, e1⟩ := bZ (tl := tl) hg hL 8 [] [] [] [91] (by decide) (by decide) hr
   rw [jd h4] at r1 e1
   have g1 : st1.e = 0 := r1.e0.2 (by rw [fe]; exact f0)
   obtain ⟨x2, st2, q2, r2, e2⟩ := rU n (ac s) st1 (by omega) r1
   obtain ⟨st3, l3, q3, r3, b3, e3⟩ := bZ (tl := tl) hg hL 8 [] l1 [x2] [93] (by decide) (by simp only [List.length_nil] at b1; omega) r2
   rw [if_pos h4]
   refine ⟨.node 8 [] l3 [x2], st3, bV 1 _ _ _ _ _ _ _ _ _ _ _ ⟨_, _, _, _, _, _, i nh (by decide), fun e => absurd (of_decide_eq_true e) h1, fun _ => ⟨_, _, _, _, _, _, i lR (by decide), fun e => absurd (of_decide_eq_true e) h2, fun _ => ⟨_, _, _, _, _, _, i mK (by decide), fun e => absurd (of_decide_eq_true e) h3, fun _ => ⟨_, _, _, _, _, _, k, fun e => by omega, fun _ => ⟨_, _, _, _, _, _, k, fun e => by omega, fun _ => ⟨_, _, _, _, _, _, _, _, _, q1, fun e => absurd g1 e, fun _ => ⟨_, _, _, _, _, _, q2, Nat.le_of_ble_eq_true rfl, _, rfl, lF 0 _ _ _ _ _ _ _ _ _ _ _ _ _ _ _ _ ⟨_, _, _, _, _, _, _, _, _, q3, rfl, rfl, rfl, rfl, rfl, rfl⟩⟩⟩⟩⟩⟩⟩⟩, r3, fun h0 => ?_⟩
   have f2 := r2.up (fun d => bB d (x := [93]) (by decide)) h0
   rw [e3 h0, e1 (by rw [fe]; exact f0), e2 f2]
   rfl
  rw [if_neg h4]
  by_cases h5 : (ab s).kind = 2
  ·have a := nt (o := 4) h5 (by decide)
   have a2 := nt (o := 2) h5 (by decide)
   obtain ⟨st', X, ls, q, r, b, e⟩ := jx (tl := tl) hL 9 [] [] [] (ab s).kind (by omega) (by decide) hr
   rw [h5, a2] at r e
   rw [a]
   exact ⟨_, st', bV 1 _ _ _ _ _ _ _ _ _ _ _ ⟨_, _, _, _, _, _, i nh (by decide), fun e => absurd (of_decide_eq_true e) h1, fun _ => ⟨_, _, _, _, _, _, i lR (by decide), fun e => absurd (of_decide_eq_true e) h2, fun _ => ⟨_, _, _, _, _, _, i mK (by decide), fun e => absurd (of_decide_eq_true e) h3, fun _ => ⟨_, _, _, _, _, _, k, fun _ => ⟨_, _, _, _, _, _, k, _, _, _, _, _, _, _, _, _, q, rfl, rfl, rfl, rfl, rfl, rfl⟩, fun e => absurd h5 e⟩⟩⟩⟩, r, fun h0 => by rw [(e h0).1, (e h0).2]; rfl⟩
  by_cases h6 : (ab s).kind = 4
  ·have a := tJ (k := 2) h6 (by decide)
   have a2 := tJ (k := 4) h6 (by decide)
   obtain ⟨st', X, ls, q, r, b, e⟩ := jx (tl := tl) hL 9 [] [] [] (ab s).kind (by omega) (by decide) hr
   rw [h6, a2] at r e
   rw [a]
   exact ⟨_, st', bV 1 _ _ _ _ _ _ _ _ _ _ _ ⟨_, _, _, _, _, _, i nh (by decide), fun e => absurd (of_decide_eq_true e) h1, fun _ => ⟨_, _, _, _, _, _, i lR (by decide), fun e => absurd (of_decide_eq_true e) h2, fun _ => ⟨_, _, _, _, _, _, i mK (by decide), fun e => absurd (of_decide_eq_true e) h3, fun _ => ⟨_, _, _, _, _, _, k, fun e => absurd e h5, fun _ => ⟨_, _, _, _, _, _, k, fun _ => ⟨_, _, _, _, _, _, k, _, _, _, _, _, _, _, _, _, q, rfl, rfl, rfl, rfl, rfl, rfl⟩, fun e => absurd h6 e⟩⟩⟩⟩⟩, r, fun h0 => by rw [(e h0).1, (e h0).2]; rfl⟩
  ·obtain ⟨st1, l1, q1, r1, b1, e1⟩ := bZ (tl := tl) hg hL 8 [] [] [] [91] (by decide) (by decide) hr
   rw [kJ h4] at r1 e1
   have a : aL 2 4 s = ([], [], aV 2 s) := by unfold aL; rw [if_pos (.inr ⟨h5, h6⟩)]
   have hf := fP (e := 2) (by decide) s
   have g1 : st1.e ≠ 0 := fun e => hf (r1.e0.1 e)
   rw [a]
   exact ⟨_, st1, bV 1 _ _ _ _ _ _ _ _ _ _ _ ⟨_, _, _, _, _, _, i nh (by decide), fun e => absurd (of_decide_eq_true e) h1, fun _ => ⟨_, _, _, _, _, _, i lR (by decide), fun e => absurd (of_decide_eq_true e) h2, fun _ => ⟨_, _, _, _, _, _, i mK (by decide), fun e => absurd (of_decide_eq_true e) h3, fun _ => ⟨_, _, _, _, _, _, k, fun e => absurd e h5, fun _ => ⟨_, _, _, _, _, _, k, fun e => absurd e h6, fun _ => ⟨_, _, _, _, _, _, _, _, _, q1, fun _ => ⟨rfl, rfl, rfl, rfl, rfl, rfl⟩, fun e => absurd e g1⟩⟩⟩⟩⟩⟩, r1, fun h0 => absurd h0 hf⟩
end
abbrev vH (a0 : Int) (a1 : List UInt8) : Ob := .var 26 [.int .i64 a0, .str a1, .sl 4, .sl 5]
def bh (g : List GToken) (e : Int) (a : List UInt8) (b i : Int) (r0 : Tree) (j : List GToken) (f : Int) (c : List UInt8) (d k : Int) : Prop := bW [] Try.prog 55 [.ptr 0 0] ⟨1, [(0, vA g e a b i)]⟩ (fun u G => u = .agg (ar r0) ∧ G = ⟨2, [(0, vA j f c d k)]⟩)
def dX (g : List GToken) (e : Int) (a : List UInt8) (b i : Int) (r0 : Tree) (j : List GToken) (f : Int) (c : List UInt8) (d k : Int) : Prop := bW [] Try.prog 80 [.ptr 0 0] ⟨1, [(0, vA g e a b i)]⟩ (fun u G => u = .agg (ar r0) ∧ G = ⟨2, [(0, vA j f c d k)]⟩)
def co (l : List GToken) (j : Int) (b : List UInt8) (c n d : Int) (e : List UInt8) (a : (List (List UInt8))) (f : List Tree) (p2 : List UInt8) (p3 : Int) (r0 : Tree) (o : List GToken) (k : Int) (g : List UInt8) (i p : Int) : Prop := bW [] Try.prog 89 [.ptr 0 0, .agg [.int .i64 d, .str e, .sl 1, .sl 2], .str p2, .int .i64 p3] ⟨3, [(2, .row 26 4 (kidsV f)), (1, .row 9 1 (List.map V.str a)), (0, vA l j b c n)]⟩ (fun u G => u = .agg (ar r0) ∧ G = ⟨4, [(0, vA o k g i p)]⟩)
def ip (m : Nat) (e : Int) (f : List UInt8) (g : (List (List UInt8))) (a : List Tree) (i : Tree) (j : List GToken) (k : Int) (l : List UInt8) (n o : Int) (r0 : Tree) (p : List GToken) (d : Int) (b : List UInt8) (c q : Int) : Prop := ∀ (K : Ctx), aR K [0] → Go Try.prog K (bodyPost Try.prog Try.f55 (SP K (fun u G => u = .agg (ar r0) ∧ G = ⟨2, [(0, vA p d b c q)]⟩))) (.ex .normal) [.seq (xC (cB (xJ (cK (cA (cB (aj Try.f55))))))), .blk 0, .seq (xA (aj Try.f55))] 113 (mkF 113 0 [(0, .ptr 0 0), (2, .ptr 1 0), (3, .ptr 2 0)]) ⟨5, [(4, .row 26 4 (kidsV ((a ++ [(Tree.node 0 [] [] [])]).set a.length i))), (3, .row 9 1 (List.map V.str g)), (2, vD e f), (1, vB 0 []), (0, vA j k l n o)]⟩
def be (m : Nat) (e : List GToken) (f : Int) (g : List UInt8) (i j k : Int) (l : List UInt8) (n : (List (List UInt8))) (o : List Tree) (d : Nat) (r0 : Tree) (p : List GToken) (c : Int) (a : List UInt8) (b q : Int) : Prop := ∀ (K : Ctx) (j1 : Nat), aR K [0] → m ≤ j1 → qLG K Try.f55 (fun u G => u = .agg (ar r0) ∧ G = ⟨2, [(0, vA p c a b q)]⟩) (xL (xA (xJ (xB (cK (cA (cB (aj Try.f55)))))))) [.loop (xL (xA (xJ (xB (cK (cA (cB (aj Try.f55)))))))) j1, .blk 1, .seq (xF (xJ (xB (cK (cA (cB (aj Try.f55))))))), .blk 0, .seq (xA (aj Try.f55))] 113 (mkF 113 0 [(0, .ptr 0 0), (2, .ptr 1 0), (4, .ptr 2 0), (5, .box [.str [105, 102], .str [116, 104, 101, 110], .str [101, 108, 115, 101]] 0), (6, .int .i64 (d : Int))]) ⟨5, [(4, .row 26 4 (kidsV o)), (3, .row 9 1 (List.map V.str n)), (2, vD k l), (1, vB 0 []), (0, vA e f g i j)]⟩
def dN (m : Nat) (e : List GToken) (f : Int) (g : List UInt8) (i j : Int) (d r0 : Tree) (k : List GToken) (c : Int) (a : List UInt8) (b l : Int) : Prop := ∀ (K : Ctx) (j1 : Nat), aR K [0] → m ≤ j1 → qLG K Try.f55 (fun u G => u = .agg (ar r0) ∧ G = ⟨2, [(0, vA k c a b l)]⟩) (xG (xF (aj Try.f55))) [.loop (xG (xF (aj Try.f55))) j1, .blk 3, .seq (xC (aj Try.f55))] 113 (mkF 113 0 [(0, .ptr 0 0), (2, .ptr 1 0), (7, .ptr 2 0)]) ⟨3, [(2, .var 26 (ar d)), (1, vB 0 []), (0, vA e f g i j)]⟩
def iv (m : Nat) (l : Int) (n : List UInt8) (o : (List (List UInt8))) (d : List Tree) (e : Tree) (f : List GToken) (g : Int) (i : List UInt8) (j k : Int) (r0 : Tree) (p : List GToken) (c : Int) (a : List UInt8) (b q : Int) : Prop := ∀ (K : Ctx), aR K [0] → Go Try.prog K (bodyPost Try.prog Try.f55 (SP K (fun u G => u = .agg (ar r0) ∧ G = ⟨2, [(0, vA p c a b q)]⟩))) (.ex .normal) [.seq (xC (xF (xJ (cK (cA (cB (aj Try.f55))))))), .blk 0, .seq (xA (aj Try.f55))] 113 (mkF 113 0 [(2, .ptr 1 0), (3, .ptr 2 0)]) ⟨5, [(4, .row 26 4 (kidsV ((d ++ [(Tree.node 0 [] [] [])]).set d.length e))), (3, .row 9 1 (List.map V.str o)), (2, vD l n), (1, vB 0 []), (0, vA f g i j k)]⟩
def il (m : Nat) (e : List GToken) (f : Int) (g : List UInt8) (i j k : Int) (l : List UInt8) (n : (List (List UInt8))) (o : List Tree) (d : Nat) (r0 : Tree) (p : List GToken) (c : Int) (a : List UInt8) (b q : Int) : Prop := ∀ (K : Ctx) (j1 : Nat), aR K [0] → m ≤ j1 → Go Try.prog K (bodyPost Try.prog Try.f55 (SP K (fun u G => u = .agg (ar r0) ∧ G = ⟨2, [(0, vA p c a b q)]⟩))) (.ex .normal) [.blk 2, .seq (xA (xL (xA (xJ (xB (cK (cA (cB (aj Try.f55))))))))), .loop (xL (xA (xJ (xB (cK (cA (cB (aj Try.f55)))))))) j1, .blk 1, .seq (xF (xJ (xB (cK (cA (cB (aj Try.f55))))))), .blk 0, .seq (xA (aj Try.f55))] 113 (mkF 113 0 [(0, .ptr 0 0), (2, .ptr 1 0), (4, .ptr 2 0), (5, .box [.str [105, 102], .str [116, 104, 101, 110], .str [101, 108, 115, 101]] 0), (6, .int .i64 (d : Int))]) ⟨5, [(4, .row 26 4 (kidsV o)), (3, .row 9 1 (List.map V.str n)), (2, vD k l), (1, vB 0 []), (0, vA e f g i j)]⟩
def ir (m : Nat) (d : List GToken) (e : Int) (f : List UInt8) (g i : Int) (j : Bool) (k r0 : Tree) (l : List GToken) (c : Int) (a : List UInt8) (b n : Int) : Prop := ∀ (K : Ctx) (j1 : Nat), aR K [0] → m ≤ j1 → Go Try.prog K (bodyPost Try.prog Try.f55 (SP K (fun u G => u = .agg (ar r0) ∧ G = ⟨2, [(0, vA l c a b n)]⟩))) (.ex .normal) [.seq (xH (xG (xF (aj Try.f55)))), .seq (cB (xG (xF (aj Try.f55)))), .loop (xG (xF (aj Try.f55))) j1, .blk 3, .seq (xC (aj Try.f55))] 113 (mkF 113 0 [(0, .ptr 0 0), (2, .ptr 1 0), (7, .ptr 2 0), (99, .bool j)]) ⟨3, [(2, .var 26 (ar k)), (1, vB 0 []), (0, vA d e f g i)]⟩
def io (m : Nat) (d : GToken) (i : List GToken) (j : Int) (e : List UInt8) (f g : Int) (k : List Tree) (r0 : Tree) (l : List GToken) (c : Int) (a : List UInt8) (b n : Int) : Prop := ∀ (K : Ctx) (j1 : Nat), aR K [0] → m ≤ j1 → Go Try.prog K (bodyPost Try.prog Try.f55 (SP K (fun u G => u = .agg (ar r0) ∧ G = ⟨2, [(0, vA l c a b n)]⟩))) (.ex .normal) [.blk 4, .loop (xG (xF (aj Try.f55))) j1, .blk 3, .seq (xC (aj Try.f55))] 113 (mkF 113 0 [(0, .ptr 0 0), (2, .ptr 1 0), (7, .ptr 2 0)]) ⟨5, [(4, .row 26 4 (kidsV k)), (3, .row 9 1 [.str d.Lead]), (2, vD 21 d.Text), (1, vB 0 []), (0, vA i j e f g)]⟩
theorem dO (m : Nat) (p0_l : List GToken) (p0_at_ : Int) (ο : List UInt8) (π p0_e : Int) (r0 : Tree) (q0_l : List GToken) (n : Int) (f : List UInt8) (g q0_e : Int) (h : ∃ b0_1 r0_2 n0_3 s0_4 n0_5 n0_6, aq p0_l p0_at_ ο π p0_e [108, 101, 116] b0_1 r0_2 n0_3 s0_4 n0_5 n0_6 ∧ ((b0_1 = true) → ∃ r0_7 n0_8 s0_9 γ δ ε ζ d e, al r0_2 n0_3 s0_4 n0_5 n0_6 20 [] ([] : List (List UInt8)) ([] : List Tree) [108, 101, 116] r0_7 n0_8 s0_9 γ δ ε ζ d e ∧ ∃ τ υ φ χ ψ ω s0_22 k l, aS r0_7 n0_8 s0_9 γ δ ε ζ d e 1 τ υ φ χ ψ ω s0_22 k l ∧ ∃ o p q r s t v c a, al τ υ φ χ ψ ω s0_22 k l [61] o p q r s t v c a ∧ ∃ b r0_35 n0_36 s0_37 n0_38 n0_39, bh o p q r s b r0_35 n0_36 s0_37 n0_38 n0_39 ∧ (a ++ [(Tree.node 0 [] [] [])]).length ≤ 1000000000 ∧ ∃ t0_40, (a ++ [(Tree.node 0 [] [] [])])[a.length]? = some t0_40 ∧ ip m t v c a b r0_35 n0_36 s0_37 n0_38 n0_39 r0 q0_l n f g q0_e) ∧ ((b0_1 = false) → ∃ η x y z α β, aq r0_2 n0_3 s0_4 n0_5 n0_6 [105, 102] η x y z α β ∧ ((η = true) → be m x y z α β 19 [] ([] : List (List UInt8)) ([] : List Tree) 0 r0 q0_l n f g q0_e) ∧ ((η = false) → ∃ θ ι κ μ ν ξ, dX x y z α β θ ι κ μ ν ξ ∧ dN m ι κ μ ν ξ θ r0 q0_l n f g q0_e))) : bh p0_l p0_at_ ο π p0_e r0 q0_l n f g q0_e := by
 refine az 113 [0] Try.func55 rfl rfl rfl (bg rfl) fun K hK => ?_
 refine gR 10 rfl ?_
 obtain ⟨b0_1, r0_2, n0_3, s0_4, n0_5, n0_6, hs85, h⟩ := h
 refine gCY hs85 [0] ?_
 refine gR 3 rfl <| gB 9 rfl rfl rfl ?_ ?_ <;> intro hd
 refine gT 11 rfl hd rfl ?_
 replace h := h.1 hd
 refine gR 11 rfl <| gNC 3 2 9 1 rfl rfl rfl rfl <| gNC 3 3 26 4 rfl rfl rfl rfl ?_
 obtain ⟨r0_7, n0_8, s0_9, γ, δ, ε, ζ, d, e, hs86, h⟩ := h
 refine gCZ hs86 [0, 3, 4, 5] ⟨⟨_, rfl, ⟨rfl, rfl, rfl⟩⟩, ⟨⟨_, rfl, ⟨rfl, rfl, rfl⟩⟩, ⟨⟨_, rfl, ⟨rfl, ak.rfl⟩⟩, ⟨⟨_, rfl, ⟨rfl, ak.rfl⟩⟩, trivial⟩⟩⟩⟩ ?_
 refine gHR 8 (List.map V.str d) rfl (vI _ d) rfl <| gHR 9 (kidsV e) rfl (ah _ e) rfl <| gR 2 rfl <| go_sub (F' := (mkF 113 0 [(0, .ptr 0 0), (2, .ptr 1 0), (3, .ptr 2 0)])) (H' := ⟨5, [(4, .row 26 4 (kidsV e)), (3, .row 9 1 (List.map V.str d)), (2, vD ε ζ), (1, vB 0 []), (0, vA r0_7 n0_8 s0_9 γ δ)]⟩) [0, 1, 3, 8, 9] [0] rfl hK pq3 ⟨⟨_, rfl, rfl, rfl, (ah _ e).symm⟩, ⟨_, rfl, rfl, rfl, (vI _ d).symm⟩, (pqo3 rfl rfl rfl rfl rfl rfl)⟩ rfl <| gR 3 rfl ?_
 obtain ⟨τ, υ, φ, χ, ψ, ω, s0_22, k, l, hs87, h⟩ := h
 refine gCZ hs87 [0, 2, 3, 4] ⟨⟨_, rfl, ⟨rfl, rfl, (ah _ e).symm⟩⟩, ⟨⟨_, rfl, ⟨rfl, rfl, (vI _ d).symm⟩⟩, ⟨⟨_, rfl, ⟨rfl, ak.rfl⟩⟩, ⟨⟨_, rfl, ⟨rfl, ak.rfl⟩⟩, trivial⟩⟩⟩⟩ ?_
 refine gHR 7 (List.map V.str k) rfl (vI _ k) rfl <| gHR 8 (kidsV l) rfl (ah _ l) rfl <| gR 5 rfl ?_
 obtain ⟨o, p, q, r, s, t, v, c, a, hs88, h⟩ := h
 refine gCZ hs88 [0, 2, 7, 8] ⟨⟨_, rfl, ⟨rfl, rfl, (ah _ l).symm⟩⟩, ⟨⟨_, rfl, ⟨rfl, rfl, (vI _ k).symm⟩⟩, ⟨⟨_, rfl, ⟨rfl, ak.rfl⟩⟩, ⟨⟨_, rfl, ⟨rfl, ak.rfl⟩⟩, trivial⟩⟩⟩⟩ ?_
 refine gHR 11 (List.map V.str c) rfl (vI _ c) rfl <| gHR 12 (kidsV a) rfl (ah _ a) rfl <| gR 3 rfl <| go_sub (F' := (mkF 113 0 [(0, .ptr 0 0), (2, .ptr 1 0), (3, .ptr 2 0)])) (H' := ⟨5, [(4, .row 26 4 (kidsV a)), (3, .row 9 1 (List.map V.str c)), (2, vD t v), (1, vB 0 []), (0, vA o p q r s)]⟩) [0, 1, 2, 11, 12] [0] rfl hK pq3 ⟨⟨_, rfl, rfl, rfl, (ah _ a).symm⟩, ⟨_, rfl, rfl, rfl, (vI _ c).symm⟩, (pqo3 rfl rfl rfl rfl rfl rfl)⟩ rfl <| gDs [2] 6 11 rfl (by kernel_rfl) (by kernel_rfl) ?_
 refine gDr [(0, 2), (1, 3), (2, 2), (4, 2)] (by kernel_rfl) rfl rfl <| gV 23 (.int .i64 (a.length : Int)) rfl (bC (av _)) rfl <| gLO 4 rfl (av _) fun hl92 => ?_
 obtain ⟨b, r0_35, n0_36, s0_37, n0_38, n0_39, hs93, h⟩ := h
 apply aF (i := 3) (j := 5) (by kernel_rfl) rfl rfl rfl rfl
 exact (de (L' := [2]) (by kernel_rfl) rfl rfl (df (H := ⟨5, [(4, .row 26 4 (kidsV a)), (3, .row 9 1 (List.map V.str c)), (2, vD t v), (1, vB 0 []), (0, vA o p q r s)]⟩) hs93 [0] .rfl ⟨⟨_, rfl, ⟨rfl, ak.rfl⟩⟩, trivial⟩ rfl [2] rfl) (.inl rfl))
 exact (aD aa rfl rfl)
 refine gDr [(5, 0)] (by kernel_rfl) rfl rfl <| gHX 7 [.agg [.int .i64 0, .str [], .row 1 [], .row 4 (kidsV [])]] rfl (.cons (.agg (.cons .rfl (.cons .rfl (.cons (.nil 1) (.cons (.nil 4) .nil))))) .nil) rfl <| gHR 7 (kidsV [(Tree.node 0 [] [] [])]) rfl (bv (Tree.node 0 [] [] [])) rfl ?_
 obtain ⟨hb, h⟩ := h
 refine ax 6 (.repl 4 (.row 26 4 (kidsV (a ++ [(Tree.node 0 [] [] [])])))) rfl (by kernel_rfl) (bu aa rfl rfl rfl rfl rfl (aC a [(Tree.node 0 [] [] [])]).symm (by rw [av]; exact hb)) (okR rfl) rfl (by kernel_rfl) rfl rfl ?_
 obtain ⟨t0_40, hxt0_40, h⟩ := h
 refine gYd 7 rfl (by kernel_rfl) (yIO aa rfl rfl rfl rfl (by have := (ae hxt0_40); exact (List.getElem?_eq_some_iff.1 this).1)) rfl rfl ?_
 refine gDr [(9, 2)] (by kernel_rfl) rfl rfl ?_
 apply aF (i := 8) (j := 10) (by kernel_rfl) rfl rfl rfl rfl
 exact (ba (.set 8 (.row 26 4 (kidsV ((a ++ [(Tree.node 0 [] [] [])]).set a.length b)))) (dSe aa rfl rfl rfl rfl (ae hxt0_40) rfl (bp (a ++ [(Tree.node 0 [] [] [])]) a.length b)) (okS rfl) (by kernel_rfl))
 exact (aD aa rfl rfl)
 exact gDr [(10, 1)] (by kernel_rfl) rfl rfl <| gDe (by kernel_rfl) <| gJ (h K hK) [0, 1, 2, 3, 8] [0] rfl hK pq3 ⟨⟨_, rfl, rfl, rfl, (ah _ ((a ++ [(Tree.node 0 [] [] [])]).set a.length b)).symm⟩, ⟨_, rfl, rfl, rfl, (vI _ c).symm⟩, (pqo3 rfl rfl rfl rfl rfl rfl)⟩ rfl
 refine ax 8 (.set 8 (.row 26 4 (kidsV ((a ++ [(Tree.node 0 [] [] [])]).set a.length b)))) rfl (by kernel_rfl) (dSe aa rfl rfl rfl rfl (ae hxt0_40) rfl (bp (a ++ [(Tree.node 0 [] [] [])]) a.length b)) (okS rfl) rfl (by kernel_rfl) rfl rfl ?_
 exact gDe (by kernel_rfl) <| gJ (h K hK) [0, 1, 2, 3, 8] [0] rfl hK pq3 ⟨⟨_, rfl, rfl, rfl, (ah _ ((a ++ [(Tree.node 0 [] [] [])]).set a.length b)).symm⟩, ⟨_, rfl, rfl, rfl, (vI _ c).symm⟩, (pqo3 rfl rfl rfl rfl rfl rfl)⟩ rfl
 refine gHX 5 [.agg [.int .i64 0, .str [], .row 1 [], .row 4 (kidsV [])]] rfl (.cons (.agg (.cons .rfl (.cons .rfl (.cons (.nil 1) (.cons (.nil 4) .nil))))) .nil) rfl ?_
 refine gHR 5 (kidsV [(Tree.node 0 [] [] [])]) rfl (bv (Tree.node 0 [] [] [])) rfl <| gDCY 3 hs93 [0] rfl ?_
 obtain ⟨hb, h⟩ := h
 refine ax 6 (.repl 4 (.row 26 4 (kidsV (a ++ [(Tree.node 0 [] [] [])])))) rfl (by kernel_rfl) (bu aa rfl rfl rfl rfl rfl (aC a [(Tree.node 0 [] [] [])]).symm (by rw [av]; exact hb)) (okR rfl) rfl (by kernel_rfl) rfl rfl ?_
 obtain ⟨t0_40, hxt0_40, h⟩ := h
 refine gYd 7 rfl (by kernel_rfl) (yIO aa rfl rfl rfl rfl (by have := (ae hxt0_40); exact (List.getElem?_eq_some_iff.1 this).1)) rfl rfl ?_
 refine gDr [(9, 2)] (by kernel_rfl) rfl rfl ?_
 apply aF (i := 8) (j := 10) (by kernel_rfl) rfl rfl rfl rfl
 exact (ba (.set 8 (.row 26 4 (kidsV ((a ++ [(Tree.node 0 [] [] [])]).set a.length b)))) (dSe aa rfl rfl rfl rfl (ae hxt0_40) rfl (bp (a ++ [(Tree.node 0 [] [] [])]) a.length b)) (okS rfl) (by kernel_rfl))
 exact (aD aa rfl rfl)
 exact gDr [(10, 1)] (by kernel_rfl) rfl rfl <| gDe (by kernel_rfl) <| gJ (h K hK) [0, 1, 2, 3, 8] [0] rfl hK pq3 ⟨⟨_, rfl, rfl, rfl, (ah _ ((a ++ [(Tree.node 0 [] [] [])]).set a.length b)).symm⟩, ⟨_, rfl, rfl, rfl, (vI _ c).symm⟩, (pqo3 rfl rfl rfl rfl rfl rfl)⟩ rfl
 refine ax 8 (.set 8 (.row 26 4 (kidsV ((a ++ [(Tree.node 0 [] [] [])]).set a.length b)))) rfl (by kernel_rfl) (dSe aa rfl rfl rfl rfl (ae hxt0_40) rfl (bp (a ++ [(Tree.node 0 [] [] [])]) a.length b)) (okS rfl) rfl (by kernel_rfl) rfl rfl ?_
 exact gDe (by kernel_rfl) <| gJ (h K hK) [0, 1, 2, 3, 8] [0] rfl hK pq3 ⟨⟨_, rfl, rfl, rfl, (ah _ ((a ++ [(Tree.node 0 [] [] [])]).set a.length b)).symm⟩, ⟨_, rfl, rfl, rfl, (vI _ c).symm⟩, (pqo3 rfl rfl rfl rfl rfl rfl)⟩ rfl
 refine gF 11 rfl hd rfl ?_
 replace h := h.2 hd
 refine gR 4 rfl ?_
 obtain ⟨η, x, y, z, α, β, hs94, h⟩ := h
 refine gCY hs94 [0] ?_
 refine gR 3 rfl <| gB 45 rfl rfl rfl ?_ ?_ <;> intro hd
 refine gT 47 rfl hd rfl ?_
 replace h := h.1 hd
 exact gR 8 rfl <| go_sub (F' := (mkF 113 0 [(0, .ptr 0 0), (2, .ptr 1 0), (4, .ptr 2 0)])) (H' := ⟨3, [(2, vB 19 []), (1, vB 0 []), (0, vA x y z α β)]⟩) [0, 1, 4] [0] rfl hK pq3 (pqo3 rfl rfl rfl rfl rfl rfl) rfl <| gR 14 rfl <| go_loop m <| gNC 2 2 9 1 rfl rfl rfl rfl <| gNC 2 3 26 4 rfl rfl rfl rfl <| gFP 3 rfl rfl rfl rfl <| gJ (h K _ hK (by omega)) [0, 1, 2, 4, 5] [0] rfl hK pq5 ⟨⟨_, rfl, rfl, rfl, rfl⟩, ⟨_, rfl, rfl, rfl, rfl⟩, (pqo3 rfl rfl rfl rfl rfl rfl)⟩ rfl
 refine gF 47 rfl hd rfl ?_
 replace h := h.2 hd
 refine gR 7 rfl ?_
 obtain ⟨θ, ι, κ, μ, ν, ξ, hs95, h⟩ := h
 refine gCY hs95 [0] ?_
 exact gR 4 rfl <| go_sub (F' := (mkF 113 0 [(0, .ptr 0 0), (2, .ptr 1 0), (7, .ptr 2 0)])) (H' := ⟨3, [(2, .var 26 (ar θ)), (1, vB 0 []), (0, vA ι κ μ ν ξ)]⟩) [0, 1, 6] [0] rfl hK pq3 (pqo3 rfl rfl rfl rfl rfl rfl) rfl <| gR 2 rfl <| go_loop m <| gJ (h K _ hK (by omega)) [0, 1, 2] [0] rfl hK pq3 (pqo3 rfl rfl rfl rfl rfl rfl) rfl
theorem hZ (m : Nat) (γ : Int) (δ : List UInt8) (s : (List (List UInt8))) (g : List Tree) (t : Tree) (ε : List GToken) (ζ : Int) (η : List UInt8) (θ ι : Int) (r0 : Tree) (κ : List GToken) (r : Int) (k : List UInt8) (l μ : Int) (h : ∃ n o p q f d e c a, al ε ζ η θ ι γ δ s ((g ++ [(Tree.node 0 [] [] [])]).set g.length t) [105, 110] n o p q f d e c a ∧ ((f = 0) → ∃ b v x y z α, bh n o p q f b v x y z α ∧ (a ++ [(Tree.node 0 [] [] [])]).length ≤ 1000000000 ∧ ∃ β, (a ++ [(Tree.node 0 [] [] [])])[a.length]? = some β ∧ iv m d e c a b v x y z α r0 κ r k l μ) ∧ ((f ≠ 0) → (Tree.node d e c a) = r0 ∧ n = κ ∧ o = r ∧ p = k ∧ q = l ∧ f = μ)) : ip (m + 1) γ δ s g t ε ζ η θ ι r0 κ r k l μ := by
 intro K hK
 refine gR 4 rfl ?_
 obtain ⟨n, o, p, q, f, d, e, c, a, hs96, h⟩ := h
 refine gCZ hs96 [0, 2, 3, 4] ⟨⟨_, rfl, ⟨rfl, rfl, (ah _ ((g ++ [(Tree.node 0 [] [] [])]).set g.length t)).symm⟩⟩, ⟨⟨_, rfl, ⟨rfl, rfl, (vI _ s).symm⟩⟩, ⟨⟨_, rfl, ⟨rfl, ak.rfl⟩⟩, ⟨⟨_, rfl, ⟨rfl, ak.rfl⟩⟩, trivial⟩⟩⟩⟩ ?_
 refine gHR 7 (List.map V.str c) rfl (vI _ c) rfl <| gHR 8 (kidsV a) rfl (ah _ a) rfl <| gR 12 rfl <| qBe 34 rfl rfl rfl h (fun h => ?_) fun h => ?_
 refine gR 1 rfl <| go_sub (F' := (mkF 113 0 [(0, .ptr 0 0), (2, .ptr 1 0), (3, .ptr 2 0)])) (H' := ⟨5, [(4, .row 26 4 (kidsV a)), (3, .row 9 1 (List.map V.str c)), (2, vD d e), (1, vB 0 []), (0, vA n o p q f)]⟩) [0, 1, 2, 7, 8] [0] rfl hK pq3 ⟨⟨_, rfl, rfl, rfl, (ah _ a).symm⟩, ⟨_, rfl, rfl, rfl, (vI _ c).symm⟩, (pqo3 rfl rfl rfl rfl rfl rfl)⟩ rfl <| gDs [2] 6 11 rfl (by kernel_rfl) (by kernel_rfl) <| gDr [(0, 2), (1, 3), (2, 2), (4, 2)] (by kernel_rfl) rfl rfl <| gV 39 (.int .i64 (a.length : Int)) rfl (bC (av _)) rfl ?_
 refine gLO 4 rfl (av _) fun hl100 => ?_
 obtain ⟨b, v, x, y, z, α, hs101, h⟩ := h
 apply aF (i := 3) (j := 5) (by kernel_rfl) rfl rfl rfl rfl
 exact (de (L' := [2]) (by kernel_rfl) rfl rfl (df (H := ⟨5, [(4, .row 26 4 (kidsV a)), (3, .row 9 1 (List.map V.str c)), (2, vD d e), (1, vB 0 []), (0, vA n o p q f)]⟩) hs101 [0] .rfl ⟨⟨_, rfl, ⟨rfl, ak.rfl⟩⟩, trivial⟩ rfl [2] rfl) (.inl rfl))
 exact (aD aa rfl rfl)
 refine gDr [(5, 0)] (by kernel_rfl) rfl rfl <| gHX 7 [.agg [.int .i64 0, .str [], .row 1 [], .row 4 (kidsV [])]] rfl (.cons (.agg (.cons .rfl (.cons .rfl (.cons (.nil 1) (.cons (.nil 4) .nil))))) .nil) rfl <| gHR 7 (kidsV [(Tree.node 0 [] [] [])]) rfl (bv (Tree.node 0 [] [] [])) rfl ?_
 obtain ⟨hb, h⟩ := h
 refine ax 6 (.repl 4 (.row 26 4 (kidsV (a ++ [(Tree.node 0 [] [] [])])))) rfl (by kernel_rfl) (bu aa rfl rfl rfl rfl rfl (aC a [(Tree.node 0 [] [] [])]).symm (by rw [av]; exact hb)) (okR rfl) rfl (by kernel_rfl) rfl rfl ?_
 obtain ⟨β, hxt1_16, h⟩ := h
 refine gYd 7 rfl (by kernel_rfl) (yIO aa rfl rfl rfl rfl (by have := (ae hxt1_16); exact (List.getElem?_eq_some_iff.1 this).1)) rfl rfl ?_
 refine gDr [(9, 2)] (by kernel_rfl) rfl rfl ?_
 apply aF (i := 8) (j := 10) (by kernel_rfl) rfl rfl rfl rfl
 exact (ba (.set 8 (.row 26 4 (kidsV ((a ++ [(Tree.node 0 [] [] [])]).set a.length b)))) (dSe aa rfl rfl rfl rfl (ae hxt1_16) rfl (bp (a ++ [(Tree.node 0 [] [] [])]) a.length b)) (okS rfl) (by kernel_rfl))
 exact (aD aa rfl rfl)
 exact gDr [(10, 1)] (by kernel_rfl) rfl rfl <| gDe (by kernel_rfl) <| gJ (h K hK) [0, 1, 2, 3, 8] [0] rfl hK pq2 ⟨⟨_, rfl, rfl, rfl, (ah _ ((a ++ [(Tree.node 0 [] [] [])]).set a.length b)).symm⟩, ⟨_, rfl, rfl, rfl, (vI _ c).symm⟩, (pqo3 rfl rfl rfl rfl rfl rfl)⟩ rfl
 refine ax 8 (.set 8 (.row 26 4 (kidsV ((a ++ [(Tree.node 0 [] [] [])]).set a.length b)))) rfl (by kernel_rfl) (dSe aa rfl rfl rfl rfl (ae hxt1_16) rfl (bp (a ++ [(Tree.node 0 [] [] [])]) a.length b)) (okS rfl) rfl (by kernel_rfl) rfl rfl ?_
 exact gDe (by kernel_rfl) <| gJ (h K hK) [0, 1, 2, 3, 8] [0] rfl hK pq2 ⟨⟨_, rfl, rfl, rfl, (ah _ ((a ++ [(Tree.node 0 [] [] [])]).set a.length b)).symm⟩, ⟨_, rfl, rfl, rfl, (vI _ c).symm⟩, (pqo3 rfl rfl rfl rfl rfl rfl)⟩ rfl
 refine gHX 5 [.agg [.int .i64 0, .str [], .row 1 [], .row 4 (kidsV [])]] rfl (.cons (.agg (.cons .rfl (.cons .rfl (.cons (.nil 1) (.cons (.nil 4) .nil))))) .nil) rfl ?_
 refine gHR 5 (kidsV [(Tree.node 0 [] [] [])]) rfl (bv (Tree.node 0 [] [] [])) rfl <| gDCY 3 hs101 [0] rfl ?_
 obtain ⟨hb, h⟩ := h
 refine ax 6 (.repl 4 (.row 26 4 (kidsV (a ++ [(Tree.node 0 [] [] [])])))) rfl (by kernel_rfl) (bu aa rfl rfl rfl rfl rfl (aC a [(Tree.node 0 [] [] [])]).symm (by rw [av]; exact hb)) (okR rfl) rfl (by kernel_rfl) rfl rfl ?_
 obtain ⟨β, hxt1_16, h⟩ := h
 refine gYd 7 rfl (by kernel_rfl) (yIO aa rfl rfl rfl rfl (by have := (ae hxt1_16); exact (List.getElem?_eq_some_iff.1 this).1)) rfl rfl ?_
 refine gDr [(9, 2)] (by kernel_rfl) rfl rfl ?_
 apply aF (i := 8) (j := 10) (by kernel_rfl) rfl rfl rfl rfl
 exact (ba (.set 8 (.row 26 4 (kidsV ((a ++ [(Tree.node 0 [] [] [])]).set a.length b)))) (dSe aa rfl rfl rfl rfl (ae hxt1_16) rfl (bp (a ++ [(Tree.node 0 [] [] [])]) a.length b)) (okS rfl) (by kernel_rfl))
 exact (aD aa rfl rfl)
 exact gDr [(10, 1)] (by kernel_rfl) rfl rfl <| gDe (by kernel_rfl) <| gJ (h K hK) [0, 1, 2, 3, 8] [0] rfl hK pq2 ⟨⟨_, rfl, rfl, rfl, (ah _ ((a ++ [(Tree.node 0 [] [] [])]).set a.length b)).symm⟩, ⟨_, rfl, rfl, rfl, (vI _ c).symm⟩, (pqo3 rfl rfl rfl rfl rfl rfl)⟩ rfl
 refine ax 8 (.set 8 (.row 26 4 (kidsV ((a ++ [(Tree.node 0 [] [] [])]).set a.length b)))) rfl (by kernel_rfl) (dSe aa rfl rfl rfl rfl (ae hxt1_16) rfl (bp (a ++ [(Tree.node 0 [] [] [])]) a.length b)) (okS rfl) rfl (by kernel_rfl) rfl rfl ?_
 exact gDe (by kernel_rfl) <| gJ (h K hK) [0, 1, 2, 3, 8] [0] rfl hK pq2 ⟨⟨_, rfl, rfl, rfl, (ah _ ((a ++ [(Tree.node 0 [] [] [])]).set a.length b)).symm⟩, ⟨_, rfl, rfl, rfl, (vI _ c).symm⟩, (pqo3 rfl rfl rfl rfl rfl rfl)⟩ rfl
 refine gR 12 rfl <| gFR 7 rfl (ch _ (fun _ => rfl) _) rfl rfl <| gFR 8 rfl (cm _) rfl rfl ?_
 obtain ⟨rfl, rfl, rfl, rfl, rfl, rfl⟩ := h
 exact go_sub (F' := (mkF 113 0 [(2, .ptr 1 0)])) (H' := ⟨2, [(1, vF ((Tree.node d e c a).kind) ((Tree.node d e c a).text) ((Tree.node d e c a).leads) ((Tree.node d e c a).kids)), (0, vA n o p q f)]⟩) [0, 1] [0] rfl hK pq1 (pqo2 rfl rfl rfl rfl) rfl <| go_endD [1] aa (rs := [.cell 2 26]) rfl rfl ⟨rfl, rfl⟩
theorem cV (m : Nat) (r : List GToken) (s : Int) (t : List UInt8) (v o f : Int) (g : List UInt8) (c : (List (List UInt8))) (d : List Tree) (n : Nat) (r0 : Tree) (ζ : List GToken) (x : Int) (p : List UInt8) (q η : Int) (h : (((n : Int) < 3) → ((o = 0) → ∃ ο, [[105, 102], [116, 104, 101, 110], [101, 108, 115, 101]][n]? = some ο ∧ ∃ z α β γ y δ ε k a, al r s t v o f g c d ο z α β γ y δ ε k a ∧ ((y = 0) → ∃ b θ ι κ μ ν, bh z α β γ y b θ ι κ μ ν ∧ (a ++ [(Tree.node 0 [] [] [])]).length ≤ 1000000000 ∧ ∃ ξ, (a ++ [(Tree.node 0 [] [] [])])[a.length]? = some ξ ∧ il m θ ι κ μ ν δ ε k ((a ++ [(Tree.node 0 [] [] [])]).set a.length b) n r0 ζ x p q η) ∧ ((y ≠ 0) → n + 1 ≤ 9223372036854775807 ∧ be m z α β γ y δ ε k a (n + 1) r0 ζ x p q η)) ∧ ((o ≠ 0) → (Tree.node f g c d) = r0 ∧ r = ζ ∧ s = x ∧ t = p ∧ v = q ∧ o = η)) ∧ ((¬ (n : Int) < 3) → (Tree.node f g c d) = r0 ∧ r = ζ ∧ s = x ∧ t = p ∧ v = q ∧ o = η)) : be (m + 1) r s t v o f g c d n r0 ζ x p q η := by
 intro K j1 hK hj1
 obtain ⟨j1, rfl⟩ : ∃ j, j1 = j + 1 := ⟨j1 - 1, by omega⟩
 refine gR 6 rfl <| gB 52 rfl rfl rfl ?_ ?_ <;> intro hd
 refine gT 51 rfl hd rfl ?_
 replace hd := (of_decide_eq_true hd)
 replace h := h.1 hd
 refine gR 8 rfl <| gB 58 rfl rfl rfl ?_ ?_ <;> intro hd
 replace hd := (eq_of_beq hd)
 replace h := h.1 hd
 refine gR 3 rfl <| go_sub (F' := (mkF 113 0 [(0, .ptr 0 0), (2, .ptr 1 0), (4, .ptr 2 0), (5, .box [.str [105, 102], .str [116, 104, 101, 110], .str [101, 108, 115, 101]] 0), (6, .int .i64 (n : Int))])) (H' := ⟨5, [(4, .row 26 4 (kidsV d)), (3, .row 9 1 (List.map V.str c)), (2, vD f g), (1, vB 0 []), (0, vA r s t v o)]⟩) [0, 1, 2, 3, 4] [0] rfl hK pq5 ⟨⟨_, rfl, rfl, rfl, (ah _ d).symm⟩, ⟨_, rfl, rfl, rfl, (vI _ c).symm⟩, (pqo3 rfl rfl rfl rfl rfl rfl)⟩ rfl <| gR 6 rfl ?_
 obtain ⟨ο, hxs2_1, h⟩ := h
 refine gY (yIA (len := 3) (e := 9) (sz := 1) aa rfl rfl rfl rfl rfl rfl (uk (l := [[105, 102], [116, 104, 101, 110], [101, 108, 115, 101]]) hxs2_1).2.2 (uk (l := [[105, 102], [116, 104, 101, 110], [101, 108, 115, 101]]) hxs2_1).1 (uk (l := [[105, 102], [116, 104, 101, 110], [101, 108, 115, 101]]) hxs2_1).2.1) rfl rfl <| gR 1 rfl ?_
 obtain ⟨z, α, β, γ, y, δ, ε, k, a, hs102, h⟩ := h
 refine gCZ hs102 [0, 2, 3, 4] ⟨⟨_, rfl, ⟨rfl, rfl, (ah _ d).symm⟩⟩, ⟨⟨_, rfl, ⟨rfl, rfl, (vI _ c).symm⟩⟩, ⟨⟨_, rfl, ⟨rfl, ak.rfl⟩⟩, ⟨⟨_, rfl, ⟨rfl, ak.rfl⟩⟩, trivial⟩⟩⟩⟩ ?_
 refine gHR 7 (List.map V.str k) rfl (vI _ k) rfl <| gHR 8 (kidsV a) rfl (ah _ a) rfl <| gR 11 rfl <| gB 70 rfl rfl rfl ?_ ?_ <;> intro hd
 replace hd := (eq_of_beq hd)
 replace h := h.1 hd
 refine gR 1 rfl <| go_sub (F' := (mkF 113 0 [(0, .ptr 0 0), (2, .ptr 1 0), (4, .ptr 2 0), (5, .box [.str [105, 102], .str [116, 104, 101, 110], .str [101, 108, 115, 101]] 0), (6, .int .i64 (n : Int))])) (H' := ⟨5, [(4, .row 26 4 (kidsV a)), (3, .row 9 1 (List.map V.str k)), (2, vD δ ε), (1, vB 0 []), (0, vA z α β γ y)]⟩) [0, 1, 2, 7, 8] [0] rfl hK pq5 ⟨⟨_, rfl, rfl, rfl, (ah _ a).symm⟩, ⟨_, rfl, rfl, rfl, (vI _ k).symm⟩, (pqo3 rfl rfl rfl rfl rfl rfl)⟩ rfl <| gDs [2] 6 11 rfl (by kernel_rfl) (by kernel_rfl) ?_
 refine gDr [(0, 2), (1, 3), (2, 2), (4, 2)] (by kernel_rfl) rfl rfl <| gV 75 (.int .i64 (a.length : Int)) rfl (bC (av _)) rfl <| gLO 4 rfl (av _) fun hl106 => ?_
 obtain ⟨b, θ, ι, κ, μ, ν, hs107, h⟩ := h
 apply aF (i := 3) (j := 5) (by kernel_rfl) rfl rfl rfl rfl
 exact (de (L' := [2]) (by kernel_rfl) rfl rfl (df (H := ⟨5, [(4, .row 26 4 (kidsV a)), (3, .row 9 1 (List.map V.str k)), (2, vD δ ε), (1, vB 0 []), (0, vA z α β γ y)]⟩) hs107 [0] .rfl ⟨⟨_, rfl, ⟨rfl, ak.rfl⟩⟩, trivial⟩ rfl [2] rfl) (.inl rfl))
 exact (aD aa rfl rfl)
 refine gDr [(5, 0)] (by kernel_rfl) rfl rfl <| gHX 7 [.agg [.int .i64 0, .str [], .row 1 [], .row 4 (kidsV [])]] rfl (.cons (.agg (.cons .rfl (.cons .rfl (.cons (.nil 1) (.cons (.nil 4) .nil))))) .nil) rfl <| gHR 7 (kidsV [(Tree.node 0 [] [] [])]) rfl (bv (Tree.node 0 [] [] [])) rfl ?_
 obtain ⟨hb, h⟩ := h
 refine ax 6 (.repl 4 (.row 26 4 (kidsV (a ++ [(Tree.node 0 [] [] [])])))) rfl (by kernel_rfl) (bu aa rfl rfl rfl rfl rfl (aC a [(Tree.node 0 [] [] [])]).symm (by rw [av]; exact hb)) (okR rfl) rfl (by kernel_rfl) rfl rfl ?_
 obtain ⟨ξ, hxt2_17, h⟩ := h
 refine gYd 7 rfl (by kernel_rfl) (yIO aa rfl rfl rfl rfl (by have := (ae hxt2_17); exact (List.getElem?_eq_some_iff.1 this).1)) rfl rfl ?_
 refine gDr [(9, 2)] (by kernel_rfl) rfl rfl ?_
 apply aF (i := 8) (j := 10) (by kernel_rfl) rfl rfl rfl rfl
 exact (ba (.set 8 (.row 26 4 (kidsV ((a ++ [(Tree.node 0 [] [] [])]).set a.length b)))) (dSe aa rfl rfl rfl rfl (ae hxt2_17) rfl (bp (a ++ [(Tree.node 0 [] [] [])]) a.length b)) (okS rfl) (by kernel_rfl))
 exact (aD aa rfl rfl)
 exact gDr [(10, 1)] (by kernel_rfl) rfl rfl <| gDe (by kernel_rfl) <| gJ (h K _ hK (by omega)) [0, 1, 2, 3, 8] [0] rfl hK pq5 ⟨⟨_, rfl, rfl, rfl, (ah _ ((a ++ [(Tree.node 0 [] [] [])]).set a.length b)).symm⟩, ⟨_, rfl, rfl, rfl, (vI _ k).symm⟩, (pqo3 rfl rfl rfl rfl rfl rfl)⟩ rfl
 refine ax 8 (.set 8 (.row 26 4 (kidsV ((a ++ [(Tree.node 0 [] [] [])]).set a.length b)))) rfl (by kernel_rfl) (dSe aa rfl rfl rfl rfl (ae hxt2_17) rfl (bp (a ++ [(Tree.node 0 [] [] [])]) a.length b)) (okS rfl) rfl (by kernel_rfl) rfl rfl ?_
 exact gDe (by kernel_rfl) <| gJ (h K _ hK (by omega)) [0, 1, 2, 3, 8] [0] rfl hK pq5 ⟨⟨_, rfl, rfl, rfl, (ah _ ((a ++ [(Tree.node 0 [] [] [])]).set a.length b)).symm⟩, ⟨_, rfl, rfl, rfl, (vI _ k).symm⟩, (pqo3 rfl rfl rfl rfl rfl rfl)⟩ rfl
 refine gHX 5 [.agg [.int .i64 0, .str [], .row 1 [], .row 4 (kidsV [])]] rfl (.cons (.agg (.cons .rfl (.cons .rfl (.cons (.nil 1) (.cons (.nil 4) .nil))))) .nil) rfl ?_
 refine gHR 5 (kidsV [(Tree.node 0 [] [] [])]) rfl (bv (Tree.node 0 [] [] [])) rfl <| gDCY 3 hs107 [0] rfl ?_
 obtain ⟨hb, h⟩ := h
 refine ax 6 (.repl 4 (.row 26 4 (kidsV (a ++ [(Tree.node 0 [] [] [])])))) rfl (by kernel_rfl) (bu aa rfl rfl rfl rfl rfl (aC a [(Tree.node 0 [] [] [])]).symm (by rw [av]; exact hb)) (okR rfl) rfl (by kernel_rfl) rfl rfl ?_
 obtain ⟨ξ, hxt2_17, h⟩ := h
 refine gYd 7 rfl (by kernel_rfl) (yIO aa rfl rfl rfl rfl (by have := (ae hxt2_17); exact (List.getElem?_eq_some_iff.1 this).1)) rfl rfl ?_
 refine gDr [(9, 2)] (by kernel_rfl) rfl rfl ?_
 apply aF (i := 8) (j := 10) (by kernel_rfl) rfl rfl rfl rfl
 exact (ba (.set 8 (.row 26 4 (kidsV ((a ++ [(Tree.node 0 [] [] [])]).set a.length b)))) (dSe aa rfl rfl rfl rfl (ae hxt2_17) rfl (bp (a ++ [(Tree.node 0 [] [] [])]) a.length b)) (okS rfl) (by kernel_rfl))
 exact (aD aa rfl rfl)
 exact gDr [(10, 1)] (by kernel_rfl) rfl rfl <| gDe (by kernel_rfl) <| gJ (h K _ hK (by omega)) [0, 1, 2, 3, 8] [0] rfl hK pq5 ⟨⟨_, rfl, rfl, rfl, (ah _ ((a ++ [(Tree.node 0 [] [] [])]).set a.length b)).symm⟩, ⟨_, rfl, rfl, rfl, (vI _ k).symm⟩, (pqo3 rfl rfl rfl rfl rfl rfl)⟩ rfl
 refine ax 8 (.set 8 (.row 26 4 (kidsV ((a ++ [(Tree.node 0 [] [] [])]).set a.length b)))) rfl (by kernel_rfl) (dSe aa rfl rfl rfl rfl (ae hxt2_17) rfl (bp (a ++ [(Tree.node 0 [] [] [])]) a.length b)) (okS rfl) rfl (by kernel_rfl) rfl rfl ?_
 exact gDe (by kernel_rfl) <| gJ (h K _ hK (by omega)) [0, 1, 2, 3, 8] [0] rfl hK pq5 ⟨⟨_, rfl, rfl, rfl, (ah _ ((a ++ [(Tree.node 0 [] [] [])]).set a.length b)).symm⟩, ⟨_, rfl, rfl, rfl, (vI _ k).symm⟩, (pqo3 rfl rfl rfl rfl rfl rfl)⟩ rfl
 replace hd := (ne_of_beq_false hd)
 replace h := h.2 hd
 refine gR 6 rfl ?_
 obtain ⟨hb, h⟩ := h
 exact gR 1 rfl <| gV 60 (.int .i64 ((n + 1 : Nat) : Int)) rfl (cM (by omega) (by omega)) rfl <| gR 2 rfl <| go_xloop <| gJ (h K _ hK (by omega)) [0, 1, 2, 7, 8] [0] rfl hK pq5 ⟨⟨_, rfl, rfl, rfl, (ah _ a).symm⟩, ⟨_, rfl, rfl, rfl, (vI _ k).symm⟩, (pqo3 rfl rfl rfl rfl rfl rfl)⟩ rfl
 replace hd := (ne_of_beq_false hd)
 replace h := h.2 hd
 refine gR 3 rfl <| go_xloopE <| gR 2 rfl <| go_sub (F' := (mkF 113 0 [(2, .ptr 1 0), (4, .ptr 2 0)])) (H' := ⟨5, [(4, .row 26 4 (kidsV d)), (3, .row 9 1 (List.map V.str c)), (2, vD f g), (1, vB 0 []), (0, vA r s t v o)]⟩) [0, 1, 2, 3, 4] [0] rfl hK pq2 ⟨⟨_, rfl, rfl, rfl, (ah _ d).symm⟩, ⟨_, rfl, rfl, rfl, (vI _ c).symm⟩, (pqo3 rfl rfl rfl rfl rfl rfl)⟩ rfl <| gR 9 rfl <| gFR 3 rfl (ch _ (fun _ => rfl) _) rfl rfl <| gFR 4 rfl (cm _) rfl rfl ?_
 obtain ⟨rfl, rfl, rfl, rfl, rfl, rfl⟩ := h
 exact go_sub (F' := (mkF 113 0 [(2, .ptr 1 0)])) (H' := ⟨2, [(1, vF ((Tree.node f g c d).kind) ((Tree.node f g c d).text) ((Tree.node f g c d).leads) ((Tree.node f g c d).kids)), (0, vA r s t v o)]⟩) [0, 1] [0] rfl hK pq1 (pqo2 rfl rfl rfl rfl) rfl <| go_endD [1] aa (rs := [.cell 2 26]) rfl rfl ⟨rfl, rfl⟩
 refine gF 51 rfl hd rfl ?_
 replace hd := (of_decide_eq_false hd)
 replace h := h.2 hd
 refine gR 11 rfl <| go_xloopE <| gR 2 rfl <| go_sub (F' := (mkF 113 0 [(2, .ptr 1 0), (4, .ptr 2 0)])) (H' := ⟨5, [(4, .row 26 4 (kidsV d)), (3, .row 9 1 (List.map V.str c)), (2, vD f g), (1, vB 0 []), (0, vA r s t v o)]⟩) [0, 1, 2, 3, 4] [0] rfl hK pq2 ⟨⟨_, rfl, rfl, rfl, (ah _ d).symm⟩, ⟨_, rfl, rfl, rfl, (vI _ c).symm⟩, (pqo3 rfl rfl rfl rfl rfl rfl)⟩ rfl <| gR 9 rfl <| gFR 3 rfl (ch _ (fun _ => rfl) _) rfl rfl <| gFR 4 rfl (cm _) rfl rfl ?_
 obtain ⟨rfl, rfl, rfl, rfl, rfl, rfl⟩ := h
 exact go_sub (F' := (mkF 113 0 [(2, .ptr 1 0)])) (H' := ⟨2, [(1, vF ((Tree.node f g c d).kind) ((Tree.node f g c d).text) ((Tree.node f g c d).leads) ((Tree.node f g c d).kids)), (0, vA r s t v o)]⟩) [0, 1] [0] rfl hK pq1 (pqo2 rfl rfl rfl rfl) rfl <| go_endD [1] aa (rs := [.cell 2 26]) rfl rfl ⟨rfl, rfl⟩
theorem fg (m : Nat) (x : List GToken) (y : Int) (z : List UInt8) (α β : Int) (a r0 : Tree) (t : List GToken) (o : Int) (b : List UInt8) (c v : Int) (h : ∃ q d e g k l, aH x y z α β q d e g k l ∧ ((q = 8) → ∃ n, e = ((n : Nat) : Int) ∧ ∃ r, d[n]? = some r ∧ ∃ s, fW r.Text s ∧ ir m d e g k l s a r0 t o b c v) ∧ ((q ≠ 8) → a = r0 ∧ d = t ∧ e = o ∧ g = b ∧ k = c ∧ l = v)) : dN (m + 1) x y z α β a r0 t o b c v := by
 intro K j1 hK hj1
 obtain ⟨j1, rfl⟩ : ∃ j, j1 = j + 1 := ⟨j1 - 1, by omega⟩
 refine gR 2 rfl <| gDs [] 17 17 rfl (by kernel_rfl) (by kernel_rfl) <| gDr [(0, 0)] (by kernel_rfl) rfl rfl ?_
 obtain ⟨q, d, e, g, k, l, hs108, h⟩ := h
 refine gDCY 1 hs108 [0] rfl ?_
 refine gDr [(2, 0), (3, 0)] (by kernel_rfl) rfl rfl <| gB 86 rfl rfl rfl ?_ ?_ <;> intro hd
 refine gT 85 rfl hd rfl ?_
 replace hd := (eq_of_beq hd)
 replace h := h.1 hd
 refine gDr [(4, 2), (5, 2), (6, 2), (8, 2), (9, 2), (10, 2)] (by kernel_rfl) rfl rfl ?_
 apply aF (i := 7) (j := 11) (by kernel_rfl) rfl rfl rfl rfl
 exact (aD aa rfl rfl)
 exact (aD aa rfl rfl)
 refine gDr [(11, 0)] (by kernel_rfl) rfl rfl ?_
 obtain ⟨n, p, h⟩ := h
 refine gV 94 (.int .i64 ((n : Nat) : Int)) rfl (iF p) rfl ?_
 obtain ⟨r, hxx3_8, h⟩ := h
 refine cu 12 rfl (by kernel_rfl) (aY (mapget (f := GToken.w) hxx3_8) aa rfl rfl rfl rfl) rfl rfl ?_
 refine gDr [(13, 0), (14, 0)] (by kernel_rfl) rfl rfl ?_
 obtain ⟨s, hs109, h⟩ := h
 refine sU 15 hs109 (by kernel_rfl) rfl (by kernel_rfl) rfl rfl .rfl rfl rfl ?_
 exact gDr [(16, 0)] (by kernel_rfl) rfl rfl <| gDe (by kernel_rfl) <| gJ (h K _ hK (by omega)) [0, 1, 2] [0] rfl hK pq4 (pqo3 rfl rfl rfl rfl rfl rfl) rfl
 refine gDr [(7, 0)] (by kernel_rfl) rfl rfl ?_
 obtain ⟨n, p, h⟩ := h
 refine gV 94 (.int .i64 ((n : Nat) : Int)) rfl (iF p) rfl ?_
 obtain ⟨r, hxx3_8, h⟩ := h
 refine cu 12 rfl (by kernel_rfl) (aY (mapget (f := GToken.w) hxx3_8) aa rfl rfl rfl rfl) rfl rfl ?_
 refine gDr [(13, 0), (14, 0)] (by kernel_rfl) rfl rfl ?_
 obtain ⟨s, hs110, h⟩ := h
 refine sU 15 hs110 (by kernel_rfl) rfl (by kernel_rfl) rfl rfl .rfl rfl rfl ?_
 exact gDr [(16, 0)] (by kernel_rfl) rfl rfl <| gDe (by kernel_rfl) <| gJ (h K _ hK (by omega)) [0, 1, 2] [0] rfl hK pq4 (pqo3 rfl rfl rfl rfl rfl rfl) rfl
 refine gF 85 rfl hd rfl ?_
 replace hd := (ne_of_beq_false hd)
 replace h := h.2 hd
 refine gDr [(4, 2), (5, 2), (6, 2), (7, 2), (8, 0), (9, 0), (10, 0), (11, 0), (12, 0), (13, 0), (14, 0), (15, 0), (16, 0)] (by kernel_rfl) rfl rfl <| gDe (by kernel_rfl) <| gR 4 rfl <| go_xloopE <| gR 2 rfl <| go_sub (F' := (mkF 113 0 [(2, .ptr 1 0), (7, .ptr 2 0)])) (H' := ⟨3, [(2, .var 26 (ar a)), (1, vB 0 []), (0, vA d e g k l)]⟩) [0, 1, 2] [0] rfl hK pq2 (pqo3 rfl rfl rfl rfl rfl rfl) rfl <| gR 7 rfl ?_
 obtain ⟨rfl, rfl, rfl, rfl, rfl, rfl⟩ := h
 exact go_sub (F' := (mkF 113 0 [(2, .ptr 1 0)])) (H' := ⟨2, [(1, vF a.kind a.text a.leads a.kids), (0, vA d e g k l)]⟩) [0, 1] [0] rfl hK pq1 (pqo2 rfl rfl rfl rfl) rfl <| go_endD [1] aa (rs := [.cell 2 26]) rfl rfl ⟨rfl, rfl⟩
theorem lw (m : Nat) (c : Int) (d : List UInt8) (e : (List (List UInt8))) (a : List Tree) (b : Tree) (i : List GToken) (j : Int) (k : List UInt8) (l n : Int) (r0 : Tree) (p : List GToken) (o : Int) (f : List UInt8) (g q : Int) (h : (Tree.node c d e ((a ++ [(Tree.node 0 [] [] [])]).set a.length b)) = r0 ∧ i = p ∧ j = o ∧ k = f ∧ l = g ∧ n = q) : iv (m + 1) c d e a b i j k l n r0 p o f g q := by
 intro K hK
 refine gR 10 rfl <| gFR 3 rfl (ch _ (fun _ => rfl) _) rfl rfl <| gFR 4 rfl (cm _) rfl rfl ?_
 obtain ⟨rfl, rfl, rfl, rfl, rfl, rfl⟩ := h
 exact go_sub (F' := (mkF 113 0 [(2, .ptr 1 0)])) (H' := ⟨2, [(1, vF ((Tree.node c d e ((a ++ [(Tree.node 0 [] [] [])]).set a.length b)).kind) ((Tree.node c d e ((a ++ [(Tree.node 0 [] [] [])]).set a.length b)).text) ((Tree.node c d e ((a ++ [(Tree.node 0 [] [] [])]).set a.length b)).leads) ((Tree.node c d e ((a ++ [(Tree.node 0 [] [] [])]).set a.length b)).kids)), (0, vA i j k l n)]⟩) [0, 1] [0] rfl hK pq1 (pqo2 rfl rfl rfl rfl) rfl <| go_endD [1] aa (rs := [.cell 2 26]) rfl rfl ⟨rfl, rfl⟩
theorem lC (m : Nat) (g : List GToken) (i : Int) (k : List UInt8) (l n o : Int) (p : List UInt8) (e : (List (List UInt8))) (f : List Tree) (a : Nat) (r0 : Tree) (q : List GToken) (d : Int) (b : List UInt8) (c r : Int) (h : a + 1 ≤ 9223372036854775807 ∧ be m g i k l n o p e f (a + 1) r0 q d b c r) : il (m + 1) g i k l n o p e f a r0 q d b c r := by
 intro K j1 hK hj1
 obtain ⟨j1, rfl⟩ : ∃ j, j1 = j + 1 := ⟨j1 - 1, by omega⟩
 refine gR 4 rfl ?_
 obtain ⟨hb, h⟩ := h
 exact gR 1 rfl <| gV 60 (.int .i64 ((a + 1 : Nat) : Int)) rfl (cM (by omega) (by omega)) rfl <| gR 2 rfl <| go_xloop <| gJ (h K _ hK (by omega)) [0, 1, 2, 3, 4] [0] rfl hK pq5 ⟨⟨_, rfl, rfl, rfl, (ah _ f).symm⟩, ⟨_, rfl, rfl, rfl, (vI _ e).symm⟩, (pqo3 rfl rfl rfl rfl rfl rfl)⟩ rfl
theorem hU (m : Nat) (t : List GToken) (v : Int) (x : List UInt8) (y z : Int) (α : Bool) (a r0 : Tree) (β : List GToken) (f : Int) (d : List UInt8) (e γ : Int) (h : ((α = true) → ∃ g k l n o p, cG t v x y z g k l n o p ∧ ∃ b δ ε q r s, dX k l n o p b δ ε q r s ∧ io m g δ ε q r s [a, b] r0 β f d e γ) ∧ ((α = false) → a = r0 ∧ t = β ∧ v = f ∧ x = d ∧ y = e ∧ z = γ)) : ir (m + 1) t v x y z α a r0 β f d e γ := by
 intro K j1 hK hj1
 obtain ⟨j1, rfl⟩ : ∃ j, j1 = j + 1 := ⟨j1 - 1, by omega⟩
 refine gR 1 rfl <| gB 99 rfl rfl rfl ?_ ?_ <;> intro hd
 replace h := h.1 hd
 refine gR 7 rfl ?_
 obtain ⟨g, k, l, n, o, p, hs111, h⟩ := h
 refine gCY hs111 [0] ?_
 refine gR 4 rfl <| go_sub (F' := (mkF 113 0 [(0, .ptr 0 0), (2, .ptr 1 0), (7, .ptr 2 0), (8, .ptr 3 0)])) (H' := ⟨4, [(3, .var 41 (GToken.c g)), (2, .var 26 (ar a)), (1, vB 0 []), (0, vA k l n o p)]⟩) [0, 1, 2, 5] [0] rfl hK pq4 (pqo4 rfl rfl rfl rfl rfl rfl rfl rfl) rfl <| gDs [3, 2] 10 11 rfl (by kernel_rfl) (by kernel_rfl) <| gDr [(0, 2), (1, 3), (2, 2), (3, 3), (5, 3), (6, 2)] (by kernel_rfl) rfl rfl ?_
 obtain ⟨b, δ, ε, q, r, s, hs112, h⟩ := h
 apply aF (i := 4) (j := 7) (by kernel_rfl) rfl rfl rfl rfl
 exact (aD aa rfl rfl)
 exact (de (L' := [3, 2]) (by kernel_rfl) rfl rfl (df (H := ⟨4, [(3, .var 41 (GToken.c g)), (2, .var 26 (ar a)), (1, vB 0 []), (0, vA k l n o p)]⟩) hs112 [0] .rfl ⟨⟨_, rfl, ⟨rfl, ak.rfl⟩⟩, trivial⟩ rfl [3, 2] rfl) (.inl rfl))
 refine gDCY 7 hs112 [0] rfl ?_
 exact gDr [(8, 0)] (by kernel_rfl) rfl rfl <| gHR 7 (kidsV [a, b]) rfl (qR [a, b]) rfl <| gDr [(9, 0), (10, 1)] (by kernel_rfl) rfl rfl <| gDe (by kernel_rfl) <| gJ (h K _ hK (by omega)) [0, 1, 2, 4, 7] [0] rfl hK pq3 ⟨⟨_, rfl, rfl, rfl, (ah _ [a, b]).symm⟩, ⟨_, rfl, rfl, rfl, rfl⟩, (pqo3 rfl rfl rfl rfl rfl rfl)⟩ rfl
 apply aF (i := 4) (j := 8) (by kernel_rfl) rfl rfl rfl rfl
 exact (aD aa rfl rfl)
 exact (aD aa rfl rfl)
 exact gDr [(8, 0)] (by kernel_rfl) rfl rfl <| gHR 7 (kidsV [a, b]) rfl (qR [a, b]) rfl <| gDr [(9, 0), (10, 1)] (by kernel_rfl) rfl rfl <| gDe (by kernel_rfl) <| gJ (h K _ hK (by omega)) [0, 1, 2, 6, 7] [0] rfl hK pq3 ⟨⟨_, rfl, rfl, rfl, (ah _ [a, b]).symm⟩, ⟨_, rfl, rfl, rfl, rfl⟩, (pqo3 rfl rfl rfl rfl rfl rfl)⟩ rfl
 exact gHR 6 (kidsV [a, b]) rfl (qR [a, b]) rfl <| gDr [(4, 0), (9, 0), (10, 1)] (by kernel_rfl) rfl rfl <| gDe (by kernel_rfl) <| gJ (h K _ hK (by omega)) [0, 1, 2, 7, 6] [0] rfl hK pq3 ⟨⟨_, rfl, rfl, rfl, (ah _ [a, b]).symm⟩, ⟨_, rfl, rfl, rfl, rfl⟩, (pqo3 rfl rfl rfl rfl rfl rfl)⟩ rfl
 replace h := h.2 hd
 refine gR 3 rfl <| go_xloopE <| gR 9 rfl ?_
 obtain ⟨rfl, rfl, rfl, rfl, rfl, rfl⟩ := h
 exact go_sub (F' := (mkF 113 0 [(2, .ptr 1 0)])) (H' := ⟨2, [(1, vF a.kind a.text a.leads a.kids), (0, vA t v x y z)]⟩) [0, 1] [0] rfl hK pq1 (pqo2 rfl rfl rfl rfl) rfl <| go_endD [1] aa (rs := [.cell 2 26]) rfl rfl ⟨rfl, rfl⟩
theorem lx (m : Nat) (d : GToken) (i : List GToken) (k : Int) (e : List UInt8) (f g : Int) (l : List Tree) (r0 : Tree) (n : List GToken) (c : Int) (a : List UInt8) (b o : Int) (h : dN m i k e f g (Tree.node 21 d.Text [d.Lead] l) r0 n c a b o) : io (m + 1) d i k e f g l r0 n c a b o := by
 intro K j1 hK hj1
 obtain ⟨j1, rfl⟩ : ∃ j, j1 = j + 1 := ⟨j1 - 1, by omega⟩
 exact gR 1 rfl <| go_xloop <| gFR 3 rfl rfl rfl rfl <| gFR 4 rfl (cm _) rfl rfl <| gJ (h K _ hK (by omega)) [0, 1, 2] [0] rfl hK pq3 (pqo3 rfl rfl rfl rfl rfl rfl) rfl
def im (m : Nat) (e : Int) (f : List UInt8) (g : (List (List UInt8))) (a : List Tree) (i : Tree) (j : List GToken) (k : Int) (l : List UInt8) (n o : Int) (r0 : Tree) (p : List GToken) (d : Int) (b : List UInt8) (c q : Int) : Prop := ∀ (K : Ctx), aR K [0] → Go Try.prog K (bodyPost Try.prog Try.f80 (SP K (fun u G => u = .agg (ar r0) ∧ G = ⟨2, [(0, vA p d b c q)]⟩))) (.ex .normal) [.seq (xF (xJ (xK (xB (cK (cA (cB (aj Try.f80)))))))), .blk 0, .seq (xA (aj Try.f80))] 99 (mkF 99 0 [(0, .ptr 0 0), (2, .ptr 1 0), (5, .ptr 2 0)]) ⟨5, [(4, .row 26 4 (kidsV ((a ++ [(Tree.node 0 [] [] [])]).set a.length i))), (3, .row 9 1 (List.map V.str g)), (2, vD e f), (1, vB 0 []), (0, vA j k l n o)]⟩
def cX (m : Nat) (d : List GToken) (e : Int) (f : List UInt8) (g i : Int) (j : Bool) (r0 : Tree) (k : List GToken) (c : Int) (a : List UInt8) (b l : Int) : Prop := ∀ (K : Ctx), aR K [0] → qLG K Try.f80 (fun u G => u = .agg (ar r0) ∧ G = ⟨2, [(0, vA k c a b l)]⟩) (cB (xK (xD (xB (cK (cA (cB (aj Try.f80)))))))) [.blk 0, .seq (xA (aj Try.f80))] 99 (mkF 99 0 [(0, .ptr 0 0), (2, .ptr 1 0), (67, .bool j)]) ⟨2, [(1, vB 0 []), (0, vA d e f g i)]⟩
theorem bf (m : Nat) (p0_l : List GToken) (p0_at_ : Int) (p0_tail : List UInt8) (p0_stop p0_e : Int) (r0 : Tree) (t : List GToken) (e : Int) (b : List UInt8) (c v : Int) (h : ∃ n0_1 r0_2 n0_3 s0_4 n0_5 n0_6, aH p0_l p0_at_ p0_tail p0_stop p0_e n0_1 r0_2 n0_3 s0_4 n0_5 n0_6 ∧ ((n0_1 = 5) → ∃ r0_7 n0_8 s0_9 n0_10 n0_11 p q g k, aS r0_2 n0_3 s0_4 n0_5 n0_6 10 [] ([] : List (List UInt8)) ([] : List Tree) 5 r0_7 n0_8 s0_9 n0_10 n0_11 p q g k ∧ (Tree.node p q g k) = r0 ∧ r0_7 = t ∧ n0_8 = e ∧ s0_9 = b ∧ n0_10 = c ∧ n0_11 = v) ∧ ((n0_1 ≠ 5) → ∃ n0_16 γ δ ε ζ η, aH r0_2 n0_3 s0_4 n0_5 n0_6 n0_16 γ δ ε ζ η ∧ ((n0_16 = 6) → ∃ r0_22 n0_23 s0_24 n0_25 n0_26 x y l n, aS γ δ ε ζ η 11 [] ([] : List (List UInt8)) ([] : List Tree) 6 r0_22 n0_23 s0_24 n0_25 n0_26 x y l n ∧ (Tree.node x y l n) = r0 ∧ r0_22 = t ∧ n0_23 = e ∧ s0_24 = b ∧ n0_25 = c ∧ n0_26 = v) ∧ ((n0_16 ≠ 6) → ∃ b0_31 r0_32 n0_33 s0_34 n0_35 n0_36, aq γ δ ε ζ η [116, 114, 117, 101] b0_31 r0_32 n0_33 s0_34 n0_35 n0_36 ∧ ((b0_31 = true) → ∃ z r0_38 n0_39 s0_40 n0_41 n0_42, bJ r0_32 n0_33 s0_34 n0_35 n0_36 13 z r0_38 n0_39 s0_40 n0_41 n0_42 ∧ z = r0 ∧ r0_38 = t ∧ n0_39 = e ∧ s0_40 = b ∧ n0_41 = c ∧ n0_42 = v) ∧ ((b0_31 = false) → ∃ b0_43 r0_44 n0_45 s0_46 n0_47 n0_48, aq r0_32 n0_33 s0_34 n0_35 n0_36 [102, 97, 108, 115, 101] b0_43 r0_44 n0_45 s0_46 n0_47 n0_48 ∧ ((b0_43 = true) → ∃ α r0_50 n0_51 s0_52 n0_53 n0_54, bJ r0_44 n0_45 s0_46 n0_47 n0_48 14 α r0_50 n0_51 s0_52 n0_53 n0_54 ∧ α = r0 ∧ r0_50 = t ∧ n0_51 = e ∧ s0_52 = b ∧ n0_53 = c ∧ n0_54 = v) ∧ ((b0_43 = false) → ∃ b0_55 θ ι κ μ ν, aq r0_44 n0_45 s0_46 n0_47 n0_48 [63] b0_55 θ ι κ μ ν ∧ ((b0_55 = true) → ∃ β r0_62 n0_63 s0_64 n0_65 n0_66, bJ θ ι κ μ ν 15 β r0_62 n0_63 s0_64 n0_65 n0_66 ∧ β = r0 ∧ r0_62 = t ∧ n0_63 = e ∧ s0_64 = b ∧ n0_65 = c ∧ n0_66 = v) ∧ ((b0_55 = false) → ∃ b0_67 r0_68 n0_69 s0_70 n0_71 n0_72, aq θ ι κ μ ν [40] b0_67 r0_68 n0_69 s0_70 n0_71 n0_72 ∧ ((b0_67 = true) → ∃ r0_73 n0_74 s0_75 n0_76 n0_77 n0_78 s0_79 f a, al r0_68 n0_69 s0_70 n0_71 n0_72 22 [] ([] : List (List UInt8)) ([] : List Tree) [40] r0_73 n0_74 s0_75 n0_76 n0_77 n0_78 s0_79 f a ∧ ∃ d r0_83 n0_84 s0_85 n0_86 n0_87, bh r0_73 n0_74 s0_75 n0_76 n0_77 d r0_83 n0_84 s0_85 n0_86 n0_87 ∧ (a ++ [(Tree.node 0 [] [] [])]).length ≤ 1000000000 ∧ ∃ t0_88, (a ++ [(Tree.node 0 [] [] [])])[a.length]? = some t0_88 ∧ im m n0_78 s0_79 f a d r0_83 n0_84 s0_85 n0_86 n0_87 r0 t e b c v) ∧ ((b0_67 = false) → ∃ b0_89 r0_90 n0_91 s0_92 n0_93 n0_94, aq r0_68 n0_69 s0_70 n0_71 n0_72 [91] b0_89 r0_90 n0_91 s0_92 n0_93 n0_94 ∧ ((b0_89 = true) → ∃ r0_95 n0_96 s0_97 n0_98 n0_99 n0_100 s0_101 r s, al r0_90 n0_91 s0_92 n0_93 n0_94 18 [] ([] : List (List UInt8)) ([] : List Tree) [91] r0_95 n0_96 s0_97 n0_98 n0_99 n0_100 s0_101 r s ∧ ∃ o ξ ο π τ υ, co r0_95 n0_96 s0_97 n0_98 n0_99 n0_100 s0_101 r s [93] 16 o ξ ο π τ υ ∧ o = r0 ∧ ξ = t ∧ ο = e ∧ π = b ∧ τ = c ∧ υ = v) ∧ ((b0_89 = false) → ∃ φ χ ψ ω n0_114 n0_115, aH r0_90 n0_91 s0_92 n0_93 n0_94 φ χ ψ ω n0_114 n0_115 ∧ ((φ = 1) → cX m χ ψ ω n0_114 n0_115 true r0 t e b c v) ∧ ((φ ≠ 1) → ∃ n0_116 r0_117 n0_118 s0_119 n0_120 n0_121, aH χ ψ ω n0_114 n0_115 n0_116 r0_117 n0_118 s0_119 n0_120 n0_121 ∧ cX m r0_117 n0_118 s0_119 n0_120 n0_121 (n0_116 == 3) r0 t e b c v))))))))) : dX p0_l p0_at_ p0_tail p0_stop p0_e r0 t e b c v := by
 refine az 99 [0] Try.func80 rfl rfl rfl (bg rfl) fun K hK => ?_
 refine gR 10 rfl ?_
 obtain ⟨n0_1, r0_2, n0_3, s0_4, n0_5, n0_6, hs92, h⟩ := h
 refine gCY hs92 [0] ?_
 refine gR 4 rfl <| qBeZ 9 12 rfl rfl rfl rfl h (fun h => ?_) fun h => ?_
 refine gR 11 rfl <| gNC 3 2 9 1 rfl rfl rfl rfl <| gNC 3 3 26 4 rfl rfl rfl rfl ?_
 obtain ⟨r0_7, n0_8, s0_9, n0_10, n0_11, p, q, g, k, hs93, h⟩ := h
 refine gCZ hs93 [0, 3, 4, 5] ⟨⟨_, rfl, ⟨rfl, rfl, rfl⟩⟩, ⟨⟨_, rfl, ⟨rfl, rfl, rfl⟩⟩, ⟨⟨_, rfl, ⟨rfl, ak.rfl⟩⟩, ⟨⟨_, rfl, ⟨rfl, ak.rfl⟩⟩, trivial⟩⟩⟩⟩ ?_
 refine gHR 8 (List.map V.str g) rfl (vI _ g) rfl <| gHR 9 (kidsV k) rfl (ah _ k) rfl <| gR 2 rfl <| go_sub (F' := (mkF 99 0 [(2, .ptr 1 0), (3, .ptr 2 0)])) (H' := ⟨5, [(4, .row 26 4 (kidsV k)), (3, .row 9 1 (List.map V.str g)), (2, vD p q), (1, vB 0 []), (0, vA r0_7 n0_8 s0_9 n0_10 n0_11)]⟩) [0, 1, 3, 8, 9] [0] rfl hK pq2 ⟨⟨_, rfl, rfl, rfl, (ah _ k).symm⟩, ⟨_, rfl, rfl, rfl, (vI _ g).symm⟩, (pqo3 rfl rfl rfl rfl rfl rfl)⟩ rfl <| gR 9 rfl <| gFR 3 rfl (ch _ (fun _ => rfl) _) rfl rfl ?_
 refine gFR 4 rfl (cm _) rfl rfl ?_
 obtain ⟨rfl, rfl, rfl, rfl, rfl, rfl⟩ := h
 exact go_sub (F' := (mkF 99 0 [(2, .ptr 1 0)])) (H' := ⟨2, [(1, vF ((Tree.node p q g k).kind) ((Tree.node p q g k).text) ((Tree.node p q g k).leads) ((Tree.node p q g k).kids)), (0, vA r0_7 n0_8 s0_9 n0_10 n0_11)]⟩) [0, 1] [0] rfl hK pq1 (pqo2 rfl rfl rfl rfl) rfl <| go_endD [1] aa (rs := [.cell 2 26]) rfl rfl ⟨rfl, rfl⟩
 refine gR 4 rfl ?_
 obtain ⟨n0_16, γ, δ, ε, ζ, η, hs94, h⟩ := h
 refine gCY hs94 [0] ?_
 refine gR 4 rfl <| qBeZ 17 20 rfl rfl rfl rfl h (fun h => ?_) fun h => ?_
 refine gR 1 rfl <| go_sub (F' := (mkF 99 0 [(0, .ptr 0 0), (2, .ptr 1 0)])) (H' := ⟨2, [(1, vB 0 []), (0, vA γ δ ε ζ η)]⟩) [0, 1] [0] rfl hK pq2 (pqo2 rfl rfl rfl rfl) rfl <| gR 10 rfl <| gNC 2 2 9 1 rfl rfl rfl rfl <| gNC 2 3 26 4 rfl rfl rfl rfl ?_
 obtain ⟨r0_22, n0_23, s0_24, n0_25, n0_26, x, y, l, n, hs95, h⟩ := h
 refine gCZ hs95 [0, 2, 3, 4] ⟨⟨_, rfl, ⟨rfl, rfl, rfl⟩⟩, ⟨⟨_, rfl, ⟨rfl, rfl, rfl⟩⟩, ⟨⟨_, rfl, ⟨rfl, ak.rfl⟩⟩, ⟨⟨_, rfl, ⟨rfl, ak.rfl⟩⟩, trivial⟩⟩⟩⟩ ?_
 refine gHR 7 (List.map V.str l) rfl (vI _ l) rfl <| gHR 8 (kidsV n) rfl (ah _ n) rfl <| gR 11 rfl <| gFR 7 rfl (ch _ (fun _ => rfl) _) rfl rfl <| gFR 8 rfl (cm _) rfl rfl ?_
 obtain ⟨rfl, rfl, rfl, rfl, rfl, rfl⟩ := h
 exact go_sub (F' := (mkF 99 0 [(2, .ptr 1 0)])) (H' := ⟨2, [(1, vF ((Tree.node x y l n).kind) ((Tree.node x y l n).text) ((Tree.node x y l n).leads) ((Tree.node x y l n).kids)), (0, vA r0_22 n0_23 s0_24 n0_25 n0_26)]⟩) [0, 1] [0] rfl hK pq1 (pqo2 rfl rfl rfl rfl) rfl <| go_endD [1] aa (rs := [.cell 2 26]) rfl rfl ⟨rfl, rfl⟩
 refine gR 1 rfl <| go_sub (F' := (mkF 99 0 [(0, .ptr 0 0), (2, .ptr 1 0)])) (H' := ⟨2, [(1, vB 0 []), (0, vA γ δ ε ζ η)]⟩) [0, 1] [0] rfl hK pq2 (pqo2 rfl rfl rfl rfl) rfl <| gR 3 rfl ?_
 obtain ⟨b0_31, r0_32, n0_33, s0_34, n0_35, n0_36, hs96, h⟩ := h
 refine gCY hs96 [0] ?_
 refine gR 3 rfl <| qBiZ 25 27 rfl rfl rfl rfl h (fun h => ?_) fun h => ?_
 refine gR 4 rfl ?_
 obtain ⟨z, r0_38, n0_39, s0_40, n0_41, n0_42, hs97, h⟩ := h
 refine gCY hs97 [0] ?_
 refine gR 6 rfl ?_
 obtain ⟨rfl, rfl, rfl, rfl, rfl, rfl⟩ := h
 exact go_sub (F' := (mkF 99 0 [(2, .ptr 1 0)])) (H' := ⟨2, [(1, vF z.kind z.text z.leads z.kids), (0, vA r0_38 n0_39 s0_40 n0_41 n0_42)]⟩) [0, 1] [0] rfl hK pq1 (pqo2 rfl rfl rfl rfl) rfl <| go_endD [1] aa (rs := [.cell 2 26]) rfl rfl ⟨rfl, rfl⟩
 refine gR 4 rfl ?_
 obtain ⟨b0_43, r0_44, n0_45, s0_46, n0_47, n0_48, hs98, h⟩ := h
 refine gCY hs98 [0] ?_
 refine gR 3 rfl <| qBiZ 30 32 rfl rfl rfl rfl h (fun h => ?_) fun h => ?_
 refine gR 4 rfl ?_
 obtain ⟨α, r0_50, n0_51, s0_52, n0_53, n0_54, hs99, h⟩ := h
 refine gCY hs99 [0] ?_
 refine gR 6 rfl ?_
 obtain ⟨rfl, rfl, rfl, rfl, rfl, rfl⟩ := h
 exact go_sub (F' := (mkF 99 0 [(2, .ptr 1 0)])) (H' := ⟨2, [(1, vF α.kind α.text α.leads α.kids), (0, vA r0_50 n0_51 s0_52 n0_53 n0_54)]⟩) [0, 1] [0] rfl hK pq1 (pqo2 rfl rfl rfl rfl) rfl <| go_endD [1] aa (rs := [.cell 2 26]) rfl rfl ⟨rfl, rfl⟩
 refine gR 4 rfl ?_
 obtain ⟨b0_55, θ, ι, κ, μ, ν, hs100, h⟩ := h
 refine gCY hs100 [0] ?_
 refine gR 3 rfl <| qBiZ 35 37 rfl rfl rfl rfl h (fun h => ?_) fun h => ?_
 refine gR 1 rfl <| go_sub (F' := (mkF 99 0 [(0, .ptr 0 0), (2, .ptr 1 0)])) (H' := ⟨2, [(1, vB 0 []), (0, vA θ ι κ μ ν)]⟩) [0, 1] [0] rfl hK pq2 (pqo2 rfl rfl rfl rfl) rfl <| gR 3 rfl ?_
 obtain ⟨β, r0_62, n0_63, s0_64, n0_65, n0_66, hs101, h⟩ := h
 refine gCY hs101 [0] ?_
 refine gR 6 rfl ?_
 obtain ⟨rfl, rfl, rfl, rfl, rfl, rfl⟩ := h
 exact go_sub (F' := (mkF 99 0 [(2, .ptr 1 0)])) (H' := ⟨2, [(1, vF β.kind β.text β.leads β.kids), (0, vA r0_62 n0_63 s0_64 n0_65 n0_66)]⟩) [0, 1] [0] rfl hK pq1 (pqo2 rfl rfl rfl rfl) rfl <| go_endD [1] aa (rs := [.cell 2 26]) rfl rfl ⟨rfl, rfl⟩
 refine gR 1 rfl <| go_sub (F' := (mkF 99 0 [(0, .ptr 0 0), (2, .ptr 1 0)])) (H' := ⟨2, [(1, vB 0 []), (0, vA θ ι κ μ ν)]⟩) [0, 1] [0] rfl hK pq2 (pqo2 rfl rfl rfl rfl) rfl <| gR 3 rfl ?_
 obtain ⟨b0_67, r0_68, n0_69, s0_70, n0_71, n0_72, hs102, h⟩ := h
 refine gCY hs102 [0] ?_
 refine gR 3 rfl <| qBiZ 40 42 rfl rfl rfl rfl h (fun h => ?_) fun h => ?_
 refine gR 11 rfl <| gNC 3 2 9 1 rfl rfl rfl rfl <| gNC 3 3 26 4 rfl rfl rfl rfl ?_
 obtain ⟨r0_73, n0_74, s0_75, n0_76, n0_77, n0_78, s0_79, f, a, hs103, h⟩ := h
 refine gCZ hs103 [0, 3, 4, 5] ⟨⟨_, rfl, ⟨rfl, rfl, rfl⟩⟩, ⟨⟨_, rfl, ⟨rfl, rfl, rfl⟩⟩, ⟨⟨_, rfl, ⟨rfl, ak.rfl⟩⟩, ⟨⟨_, rfl, ⟨rfl, ak.rfl⟩⟩, trivial⟩⟩⟩⟩ ?_
 refine gHR 8 (List.map V.str f) rfl (vI _ f) rfl <| gHR 9 (kidsV a) rfl (ah _ a) rfl <| gR 3 rfl <| go_sub (F' := (mkF 99 0 [(0, .ptr 0 0), (2, .ptr 1 0), (5, .ptr 2 0)])) (H' := ⟨5, [(4, .row 26 4 (kidsV a)), (3, .row 9 1 (List.map V.str f)), (2, vD n0_78 s0_79), (1, vB 0 []), (0, vA r0_73 n0_74 s0_75 n0_76 n0_77)]⟩) [0, 1, 3, 8, 9] [0] rfl hK pq3 ⟨⟨_, rfl, rfl, rfl, (ah _ a).symm⟩, ⟨_, rfl, rfl, rfl, (vI _ f).symm⟩, (pqo3 rfl rfl rfl rfl rfl rfl)⟩ rfl <| gDs [2] 6 11 rfl (by kernel_rfl) (by kernel_rfl) ?_
 refine gDr [(0, 2), (1, 3), (2, 2), (4, 2)] (by kernel_rfl) rfl rfl <| gV 50 (.int .i64 (a.length : Int)) rfl (bC (av _)) rfl <| gLO 4 rfl (av _) fun hl107 => ?_
 obtain ⟨d, r0_83, n0_84, s0_85, n0_86, n0_87, hs108, h⟩ := h
 apply aF (i := 3) (j := 5) (by kernel_rfl) rfl rfl rfl rfl
 exact (de (L' := [2]) (by kernel_rfl) rfl rfl (df (H := ⟨5, [(4, .row 26 4 (kidsV a)), (3, .row 9 1 (List.map V.str f)), (2, vD n0_78 s0_79), (1, vB 0 []), (0, vA r0_73 n0_74 s0_75 n0_76 n0_77)]⟩) hs108 [0] .rfl ⟨⟨_, rfl, ⟨rfl, ak.rfl⟩⟩, trivial⟩ rfl [2] rfl) (.inl rfl))
 exact (aD aa rfl rfl)
 refine gDr [(5, 0)] (by kernel_rfl) rfl rfl <| gHX 7 [.agg [.int .i64 0, .str [], .row 1 [], .row 4 (kidsV [])]] rfl (.cons (.agg (.cons .rfl (.cons .rfl (.cons (.nil 1) (.cons (.nil 4) .nil))))) .nil) rfl <| gHR 7 (kidsV [(Tree.node 0 [] [] [])]) rfl (bv (Tree.node 0 [] [] [])) rfl ?_
 obtain ⟨hb, h⟩ := h
 refine ax 6 (.repl 4 (.row 26 4 (kidsV (a ++ [(Tree.node 0 [] [] [])])))) rfl (by kernel_rfl) (bu aa rfl rfl rfl rfl rfl (aC a [(Tree.node 0 [] [] [])]).symm (by rw [av]; exact hb)) (okR rfl) rfl (by kernel_rfl) rfl rfl ?_
 obtain ⟨t0_88, hxt0_88, h⟩ := h
 refine gYd 7 rfl (by kernel_rfl) (yIO aa rfl rfl rfl rfl (by have := (ae hxt0_88); exact (List.getElem?_eq_some_iff.1 this).1)) rfl rfl ?_
 refine gDr [(9, 2)] (by kernel_rfl) rfl rfl ?_
 apply aF (i := 8) (j := 10) (by kernel_rfl) rfl rfl rfl rfl
 exact (ba (.set 8 (.row 26 4 (kidsV ((a ++ [(Tree.node 0 [] [] [])]).set a.length d)))) (dSe aa rfl rfl rfl rfl (ae hxt0_88) rfl (bp (a ++ [(Tree.node 0 [] [] [])]) a.length d)) (okS rfl) (by kernel_rfl))
 exact (aD aa rfl rfl)
 exact gDr [(10, 1)] (by kernel_rfl) rfl rfl <| gDe (by kernel_rfl) <| gJ (h K hK) [0, 1, 2, 3, 8] [0] rfl hK pq3 ⟨⟨_, rfl, rfl, rfl, (ah _ ((a ++ [(Tree.node 0 [] [] [])]).set a.length d)).symm⟩, ⟨_, rfl, rfl, rfl, (vI _ f).symm⟩, (pqo3 rfl rfl rfl rfl rfl rfl)⟩ rfl
 refine ax 8 (.set 8 (.row 26 4 (kidsV ((a ++ [(Tree.node 0 [] [] [])]).set a.length d)))) rfl (by kernel_rfl) (dSe aa rfl rfl rfl rfl (ae hxt0_88) rfl (bp (a ++ [(Tree.node 0 [] [] [])]) a.length d)) (okS rfl) rfl (by kernel_rfl) rfl rfl ?_
 exact gDe (by kernel_rfl) <| gJ (h K hK) [0, 1, 2, 3, 8] [0] rfl hK pq3 ⟨⟨_, rfl, rfl, rfl, (ah _ ((a ++ [(Tree.node 0 [] [] [])]).set a.length d)).symm⟩, ⟨_, rfl, rfl, rfl, (vI _ f).symm⟩, (pqo3 rfl rfl rfl rfl rfl rfl)⟩ rfl
 refine gHX 5 [.agg [.int .i64 0, .str [], .row 1 [], .row 4 (kidsV [])]] rfl (.cons (.agg (.cons .rfl (.cons .rfl (.cons (.nil 1) (.cons (.nil 4) .nil))))) .nil) rfl ?_
 refine gHR 5 (kidsV [(Tree.node 0 [] [] [])]) rfl (bv (Tree.node 0 [] [] [])) rfl <| gDCY 3 hs108 [0] rfl ?_
 obtain ⟨hb, h⟩ := h
 refine ax 6 (.repl 4 (.row 26 4 (kidsV (a ++ [(Tree.node 0 [] [] [])])))) rfl (by kernel_rfl) (bu aa rfl rfl rfl rfl rfl (aC a [(Tree.node 0 [] [] [])]).symm (by rw [av]; exact hb)) (okR rfl) rfl (by kernel_rfl) rfl rfl ?_
 obtain ⟨t0_88, hxt0_88, h⟩ := h
 refine gYd 7 rfl (by kernel_rfl) (yIO aa rfl rfl rfl rfl (by have := (ae hxt0_88); exact (List.getElem?_eq_some_iff.1 this).1)) rfl rfl ?_
 refine gDr [(9, 2)] (by kernel_rfl) rfl rfl ?_
 apply aF (i := 8) (j := 10) (by kernel_rfl) rfl rfl rfl rfl
 exact (ba (.set 8 (.row 26 4 (kidsV ((a ++ [(Tree.node 0 [] [] [])]).set a.length d)))) (dSe aa rfl rfl rfl rfl (ae hxt0_88) rfl (bp (a ++ [(Tree.node 0 [] [] [])]) a.length d)) (okS rfl) (by kernel_rfl))
 exact (aD aa rfl rfl)
 exact gDr [(10, 1)] (by kernel_rfl) rfl rfl <| gDe (by kernel_rfl) <| gJ (h K hK) [0, 1, 2, 3, 8] [0] rfl hK pq3 ⟨⟨_, rfl, rfl, rfl, (ah _ ((a ++ [(Tree.node 0 [] [] [])]).set a.length d)).symm⟩, ⟨_, rfl, rfl, rfl, (vI _ f).symm⟩, (pqo3 rfl rfl rfl rfl rfl rfl)⟩ rfl
 refine ax 8 (.set 8 (.row 26 4 (kidsV ((a ++ [(Tree.node 0 [] [] [])]).set a.length d)))) rfl (by kernel_rfl) (dSe aa rfl rfl rfl rfl (ae hxt0_88) rfl (bp (a ++ [(Tree.node 0 [] [] [])]) a.length d)) (okS rfl) rfl (by kernel_rfl) rfl rfl ?_
 exact gDe (by kernel_rfl) <| gJ (h K hK) [0, 1, 2, 3, 8] [0] rfl hK pq3 ⟨⟨_, rfl, rfl, rfl, (ah _ ((a ++ [(Tree.node 0 [] [] [])]).set a.length d)).symm⟩, ⟨_, rfl, rfl, rfl, (vI _ f).symm⟩, (pqo3 rfl rfl rfl rfl rfl rfl)⟩ rfl
 refine gR 4 rfl ?_
 obtain ⟨b0_89, r0_90, n0_91, s0_92, n0_93, n0_94, hs109, h⟩ := h
 refine gCY hs109 [0] ?_
 refine gR 3 rfl <| qBiZ 58 60 rfl rfl rfl rfl h (fun h => ?_) fun h => ?_
 refine gR 8 rfl <| go_sub (F' := (mkF 99 0 [(0, .ptr 0 0), (2, .ptr 1 0), (6, .ptr 2 0)])) (H' := ⟨3, [(2, vB 18 []), (1, vB 0 []), (0, vA r0_90 n0_91 s0_92 n0_93 n0_94)]⟩) [0, 1, 4] [0] rfl hK pq3 (pqo3 rfl rfl rfl rfl rfl rfl) rfl <| gR 3 rfl <| gNC 2 2 9 1 rfl rfl rfl rfl <| gNC 2 3 26 4 rfl rfl rfl rfl ?_
 obtain ⟨r0_95, n0_96, s0_97, n0_98, n0_99, n0_100, s0_101, r, s, hs110, h⟩ := h
 refine gCZ hs110 [0, 2, 3, 4] ⟨⟨_, rfl, ⟨rfl, rfl, rfl⟩⟩, ⟨⟨_, rfl, ⟨rfl, rfl, rfl⟩⟩, ⟨⟨_, rfl, ⟨rfl, ak.rfl⟩⟩, ⟨⟨_, rfl, ⟨rfl, ak.rfl⟩⟩, trivial⟩⟩⟩⟩ ?_
 refine gHR 7 (List.map V.str r) rfl (vI _ r) rfl <| gHR 8 (kidsV s) rfl (ah _ s) rfl <| gR 6 rfl ?_
 obtain ⟨o, ξ, ο, π, τ, υ, hs111, h⟩ := h
 refine gCZ hs111 [0, 7, 8] ⟨⟨_, rfl, ⟨rfl, rfl, (ah _ s).symm⟩⟩, ⟨⟨_, rfl, ⟨rfl, rfl, (vI _ r).symm⟩⟩, ⟨⟨_, rfl, ⟨rfl, ak.rfl⟩⟩, trivial⟩⟩⟩ ?_
 refine gR 6 rfl ?_
 obtain ⟨rfl, rfl, rfl, rfl, rfl, rfl⟩ := h
 exact go_sub (F' := (mkF 99 0 [(2, .ptr 1 0)])) (H' := ⟨2, [(1, vF o.kind o.text o.leads o.kids), (0, vA ξ ο π τ υ)]⟩) [0, 1] [0] rfl hK pq1 (pqo2 rfl rfl rfl rfl) rfl <| go_endD [1] aa (rs := [.cell 2 26]) rfl rfl ⟨rfl, rfl⟩
 refine gR 4 rfl ?_
 obtain ⟨φ, χ, ψ, ω, n0_114, n0_115, hs112, h⟩ := h
 refine gCY hs112 [0] ?_
 refine gR 2 rfl <| qBeZ 71 70 rfl rfl rfl rfl h (fun h => ?_) fun h => ?_
 exact gR 7 rfl <| gJ (h K hK) [0, 1] [0] rfl hK pq3 (pqo2 rfl rfl rfl rfl) rfl
 refine gR 1 rfl ?_
 obtain ⟨n0_116, r0_117, n0_118, s0_119, n0_120, n0_121, hs113, h⟩ := h
 refine gCY hs113 [0] ?_
 exact gR 5 rfl <| gJ (h K hK) [0, 1] [0] rfl hK pq3 (pqo2 rfl rfl rfl rfl) rfl
theorem ly (m : Nat) (r : Int) (s : List UInt8) (i : (List (List UInt8))) (c : List Tree) (j : Tree) (t : List GToken) (v : Int) (x : List UInt8) (y z : Int) (r0 : Tree) (α : List GToken) (k : Int) (f : List UInt8) (g β : Int) (h : ∃ l n o p q d e a b, al t v x y z r s i ((c ++ [(Tree.node 0 [] [] [])]).set c.length j) [41] l n o p q d e a b ∧ (Tree.node d e a b) = r0 ∧ l = α ∧ n = k ∧ o = f ∧ p = g ∧ q = β) : im (m + 1) r s i c j t v x y z r0 α k f g β := by
 intro K hK
 refine gR 4 rfl ?_
 obtain ⟨l, n, o, p, q, d, e, a, b, hs114, h⟩ := h
 refine gCZ hs114 [0, 2, 3, 4] ⟨⟨_, rfl, ⟨rfl, rfl, (ah _ ((c ++ [(Tree.node 0 [] [] [])]).set c.length j)).symm⟩⟩, ⟨⟨_, rfl, ⟨rfl, rfl, (vI _ i).symm⟩⟩, ⟨⟨_, rfl, ⟨rfl, ak.rfl⟩⟩, ⟨⟨_, rfl, ⟨rfl, ak.rfl⟩⟩, trivial⟩⟩⟩⟩ ?_
 refine gHR 7 (List.map V.str a) rfl (vI _ a) rfl <| gHR 8 (kidsV b) rfl (ah _ b) rfl <| gR 11 rfl <| gFR 7 rfl (ch _ (fun _ => rfl) _) rfl rfl <| gFR 8 rfl (cm _) rfl rfl ?_
 obtain ⟨rfl, rfl, rfl, rfl, rfl, rfl⟩ := h
 exact go_sub (F' := (mkF 99 0 [(2, .ptr 1 0)])) (H' := ⟨2, [(1, vF ((Tree.node d e a b).kind) ((Tree.node d e a b).text) ((Tree.node d e a b).leads) ((Tree.node d e a b).kids)), (0, vA l n o p q)]⟩) [0, 1] [0] rfl hK pq1 (pqo2 rfl rfl rfl rfl) rfl <| go_endD [1] aa (rs := [.cell 2 26]) rfl rfl ⟨rfl, rfl⟩
theorem fc (m : Nat) (l2v1 : List GToken) (z2v2 : Int) (s2v3 : List UInt8) (z2v4 z2v5 : Int) (b2v6 : Bool) (r0 : Tree) (χ : List GToken) (j : Int) (d : List UInt8) (e ψ : Int) (h : ((b2v6 = true) → ∃ y r2_2 n2_3 s2_4 n2_5 n2_6, aH l2v1 z2v2 s2v3 z2v4 z2v5 y r2_2 n2_3 s2_4 n2_5 n2_6 ∧ ∃ z α β k l f c a b, aS r2_2 n2_3 s2_4 n2_5 n2_6 12 [] ([] : List (List UInt8)) ([] : List Tree) y z α β k l f c a b ∧ ((y = 1) → ∃ γ n o p q r, aq z α β k l [40] γ n o p q r ∧ ((γ = false) → (Tree.node f c a b) = r0 ∧ n = χ ∧ o = j ∧ p = d ∧ q = e ∧ r = ψ) ∧ ((γ = true) → ∃ ω n2_23 s2_24 n2_25 n2_26 n2_27 s2_28 s t, al n o p q r 16 c a b [40] ω n2_23 s2_24 n2_25 n2_26 n2_27 s2_28 s t ∧ ∃ g δ ε ζ η θ, co ω n2_23 s2_24 n2_25 n2_26 n2_27 s2_28 s t [41] 8 g δ ε ζ η θ ∧ g = r0 ∧ δ = χ ∧ ε = j ∧ ζ = d ∧ η = e ∧ θ = ψ)) ∧ ((y ≠ 1) → ∃ r2_37 n2_38 s2_39 n2_40 n2_41 n2_42 s2_43 v x, al z α β k l 16 c a b [40] r2_37 n2_38 s2_39 n2_40 n2_41 n2_42 s2_43 v x ∧ ∃ i ι κ μ ν ξ, co r2_37 n2_38 s2_39 n2_40 n2_41 n2_42 s2_43 v x [41] 8 i ι κ μ ν ξ ∧ i = r0 ∧ ι = χ ∧ κ = j ∧ μ = d ∧ ν = e ∧ ξ = ψ)) ∧ ((b2v6 = false) → ∃ ο π τ υ φ, aZ l2v1 z2v2 s2v3 z2v4 z2v5 2 ο π τ υ φ ∧ (Tree.node 0 [] [] []) = r0 ∧ ο = χ ∧ π = j ∧ τ = d ∧ υ = e ∧ φ = ψ)) : cX (m + 1) l2v1 z2v2 s2v3 z2v4 z2v5 b2v6 r0 χ j d e ψ := by
 intro K hK
 refine qBi 67 rfl rfl rfl h (fun h => ?_) fun h => ?_
 refine gR 11 rfl ?_
 obtain ⟨y, r2_2, n2_3, s2_4, n2_5, n2_6, hs115, h⟩ := h
 refine gCY hs115 [0] ?_
 refine gR 7 rfl <| gNC 2 2 9 1 rfl rfl rfl rfl <| gNC 2 3 26 4 rfl rfl rfl rfl ?_
 obtain ⟨z, α, β, k, l, f, c, a, b, hs116, h⟩ := h
 refine gCZ hs116 [0, 2, 4, 5] ⟨⟨_, rfl, ⟨rfl, rfl, rfl⟩⟩, ⟨⟨_, rfl, ⟨rfl, rfl, rfl⟩⟩, ⟨⟨_, rfl, ⟨rfl, ak.rfl⟩⟩, ⟨⟨_, rfl, ⟨rfl, ak.rfl⟩⟩, trivial⟩⟩⟩⟩ ?_
 refine gHR 8 (List.map V.str a) rfl (vI _ a) rfl <| gHR 9 (kidsV b) rfl (ah _ b) rfl <| gR 2 rfl <| go_sub (F' := (mkF 99 0 [(0, .ptr 0 0), (2, .ptr 1 0), (7, .ptr 2 0), (8, .int .i64 y)])) (H' := ⟨5, [(4, .row 26 4 (kidsV b)), (3, .row 9 1 (List.map V.str a)), (2, vD f c), (1, vB 0 []), (0, vA z α β k l)]⟩) [0, 1, 2, 8, 9] [0] rfl hK pq4 ⟨⟨_, rfl, rfl, rfl, (ah _ b).symm⟩, ⟨_, rfl, rfl, rfl, (vI _ a).symm⟩, (pqo3 rfl rfl rfl rfl rfl rfl)⟩ rfl ?_
 refine gR 6 rfl <| qBeZ 84 83 rfl rfl rfl rfl h (fun h => ?_) fun h => ?_
 refine gR 1 rfl ?_
 obtain ⟨γ, n, o, p, q, r, hs117, h⟩ := h
 refine gCY hs117 [0] ?_
 refine gR 4 rfl <| qBh 88 rfl rfl rfl h iQ iO (fun h => ?_) fun h => ?_
 refine gR 11 rfl <| gFR 3 rfl (ch _ (fun _ => rfl) _) rfl rfl <| gFR 4 rfl (cm _) rfl rfl ?_
 obtain ⟨rfl, rfl, rfl, rfl, rfl, rfl⟩ := h
 exact go_sub (F' := (mkF 99 0 [(2, .ptr 1 0)])) (H' := ⟨2, [(1, vF ((Tree.node f c a b).kind) ((Tree.node f c a b).text) ((Tree.node f c a b).leads) ((Tree.node f c a b).kids)), (0, vA n o p q r)]⟩) [0, 1] [0] rfl hK pq1 (pqo2 rfl rfl rfl rfl) rfl <| go_endD [1] aa (rs := [.cell 2 26]) rfl rfl ⟨rfl, rfl⟩
 refine gR 9 rfl <| go_sub (F' := (mkF 99 0 [(0, .ptr 0 0), (2, .ptr 1 0), (7, .ptr 2 0)])) (H' := ⟨5, [(4, .row 26 4 (kidsV b)), (3, .row 9 1 (List.map V.str a)), (2, vD 16 c), (1, vB 0 []), (0, vA n o p q r)]⟩) [0, 1, 2, 3, 4] [0] rfl hK pq3 ⟨⟨_, rfl, rfl, rfl, (ah _ b).symm⟩, ⟨_, rfl, rfl, rfl, (vI _ a).symm⟩, (pqo3 rfl rfl rfl rfl rfl rfl)⟩ rfl <| gR 3 rfl ?_
 obtain ⟨ω, n2_23, s2_24, n2_25, n2_26, n2_27, s2_28, s, t, hs118, h⟩ := h
 refine gCZ hs118 [0, 2, 3, 4] ⟨⟨_, rfl, ⟨rfl, rfl, (ah _ b).symm⟩⟩, ⟨⟨_, rfl, ⟨rfl, rfl, (vI _ a).symm⟩⟩, ⟨⟨_, rfl, ⟨rfl, ak.rfl⟩⟩, ⟨⟨_, rfl, ⟨rfl, ak.rfl⟩⟩, trivial⟩⟩⟩⟩ ?_
 refine gHR 7 (List.map V.str s) rfl (vI _ s) rfl <| gHR 8 (kidsV t) rfl (ah _ t) rfl <| gR 6 rfl ?_
 obtain ⟨g, δ, ε, ζ, η, θ, hs119, h⟩ := h
 refine gCZ hs119 [0, 7, 8] ⟨⟨_, rfl, ⟨rfl, rfl, (ah _ t).symm⟩⟩, ⟨⟨_, rfl, ⟨rfl, rfl, (vI _ s).symm⟩⟩, ⟨⟨_, rfl, ⟨rfl, ak.rfl⟩⟩, trivial⟩⟩⟩ ?_
 refine gR 6 rfl ?_
 obtain ⟨rfl, rfl, rfl, rfl, rfl, rfl⟩ := h
 exact go_sub (F' := (mkF 99 0 [(2, .ptr 1 0)])) (H' := ⟨2, [(1, vF g.kind g.text g.leads g.kids), (0, vA δ ε ζ η θ)]⟩) [0, 1] [0] rfl hK pq1 (pqo2 rfl rfl rfl rfl) rfl <| go_endD [1] aa (rs := [.cell 2 26]) rfl rfl ⟨rfl, rfl⟩
 refine gR 15 rfl <| go_sub (F' := (mkF 99 0 [(0, .ptr 0 0), (2, .ptr 1 0), (7, .ptr 2 0)])) (H' := ⟨5, [(4, .row 26 4 (kidsV b)), (3, .row 9 1 (List.map V.str a)), (2, vD 16 c), (1, vB 0 []), (0, vA z α β k l)]⟩) [0, 1, 2, 3, 4] [0] rfl hK pq3 ⟨⟨_, rfl, rfl, rfl, (ah _ b).symm⟩, ⟨_, rfl, rfl, rfl, (vI _ a).symm⟩, (pqo3 rfl rfl rfl rfl rfl rfl)⟩ rfl <| gR 3 rfl ?_
 obtain ⟨r2_37, n2_38, s2_39, n2_40, n2_41, n2_42, s2_43, v, x, hs120, h⟩ := h
 refine gCZ hs120 [0, 2, 3, 4] ⟨⟨_, rfl, ⟨rfl, rfl, (ah _ b).symm⟩⟩, ⟨⟨_, rfl, ⟨rfl, rfl, (vI _ a).symm⟩⟩, ⟨⟨_, rfl, ⟨rfl, ak.rfl⟩⟩, ⟨⟨_, rfl, ⟨rfl, ak.rfl⟩⟩, trivial⟩⟩⟩⟩ ?_
 refine gHR 7 (List.map V.str v) rfl (vI _ v) rfl <| gHR 8 (kidsV x) rfl (ah _ x) rfl <| gR 6 rfl ?_
 obtain ⟨i, ι, κ, μ, ν, ξ, hs121, h⟩ := h
 refine gCZ hs121 [0, 7, 8] ⟨⟨_, rfl, ⟨rfl, rfl, (ah _ x).symm⟩⟩, ⟨⟨_, rfl, ⟨rfl, rfl, (vI _ v).symm⟩⟩, ⟨⟨_, rfl, ⟨rfl, ak.rfl⟩⟩, trivial⟩⟩⟩ ?_
 refine gR 6 rfl ?_
 obtain ⟨rfl, rfl, rfl, rfl, rfl, rfl⟩ := h
 exact go_sub (F' := (mkF 99 0 [(2, .ptr 1 0)])) (H' := ⟨2, [(1, vF i.kind i.text i.leads i.kids), (0, vA ι κ μ ν ξ)]⟩) [0, 1] [0] rfl hK pq1 (pqo2 rfl rfl rfl rfl) rfl <| go_endD [1] aa (rs := [.cell 2 26]) rfl rfl ⟨rfl, rfl⟩
 refine gR 7 rfl ?_
 obtain ⟨ο, π, τ, υ, φ, hs122, h⟩ := h
 refine gCY hs122 [0] ?_
 refine gR 9 rfl ?_
 obtain ⟨rfl, rfl, rfl, rfl, rfl, rfl⟩ := h
 exact go_sub (F' := (mkF 99 0 [(2, .ptr 1 0)])) (H' := ⟨2, [(1, vF ((Tree.node 0 [] [] []).kind) ((Tree.node 0 [] [] []).text) ((Tree.node 0 [] [] []).leads) ((Tree.node 0 [] [] []).kids)), (0, vA ο π τ υ φ)]⟩) [0, 1] [0] rfl hK pq1 ⟨⟨_, rfl, rfl, (.cons .rfl (.cons .rfl (.cons (.nil 1) (.cons (.nil 4) .nil))))⟩, (pqo1 rfl rfl)⟩ rfl <| go_endD [1] aa (rs := [.cell 2 26]) rfl rfl ⟨rfl, rfl⟩
def dF (m : Nat) (b : Int) (c : List UInt8) (a : (List (List UInt8))) (p2 : List UInt8) (p3 : Int) (g : List GToken) (i : Int) (j : List UInt8) (k l : Int) (n : List Tree) (o : (List (List UInt8))) (r0 : Tree) (p : List GToken) (f : Int) (d : List UInt8) (e q : Int) : Prop := ∀ (K : Ctx) (j1 : Nat), aR K [0] → m ≤ j1 → qLG K Try.f89 (fun u G => u = .agg (ar r0) ∧ G = ⟨4, [(0, vA p f d e q)]⟩) (xG (xA (aj Try.f89))) [.loop (xG (xA (aj Try.f89))) j1, .blk 0, .seq (xF (aj Try.f89))] 87 (mkF 87 0 [(0, .ptr 0 0), (2, .str p2), (3, .int .i64 p3), (5, .ptr 1 0), (8, .ptr 2 0), (9, .sl 3)]) ⟨6, [(5, .row 26 4 (kidsV n)), (4, .row 9 1 (List.map V.str a)), (3, .row 9 1 (List.map V.str o)), (2, vB 0 []), (1, vH b c), (0, vA g i j k l)]⟩
def dG (m : Nat) (b : Int) (c : List UInt8) (a : (List (List UInt8))) (p2 : List UInt8) (p3 : Int) (g : List GToken) (i : Int) (j : List UInt8) (k l : Int) (n : List Tree) (o : (List (List UInt8))) (r0 : Tree) (p : List GToken) (f : Int) (d : List UInt8) (e q : Int) : Prop := ∀ (K : Ctx) (j1 : Nat), aR K [0] → m ≤ j1 → qLG K Try.f89 (fun u G => u = .agg (ar r0) ∧ G = ⟨4, [(0, vA p f d e q)]⟩) (cB (xG (xA (aj Try.f89)))) [.loop (xG (xA (aj Try.f89))) j1, .blk 0, .seq (xF (aj Try.f89))] 87 (mkF 87 0 [(0, .ptr 0 0), (2, .str p2), (3, .int .i64 p3), (5, .ptr 1 0), (8, .ptr 2 0), (9, .sl 3)]) ⟨6, [(5, .row 26 4 (kidsV n)), (4, .row 9 1 (List.map V.str a)), (3, .row 9 1 (List.map V.str o)), (2, vB 0 []), (1, vH b c), (0, vA g i j k l)]⟩
def eW (m : Nat) (b : Int) (c : List UInt8) (a : (List (List UInt8))) (p2 : List UInt8) (p3 : Int) (g : List GToken) (i : Int) (j : List UInt8) (k l : Int) (n : (List (List UInt8))) (o : List Tree) (r0 : Tree) (p : List GToken) (f : Int) (d : List UInt8) (e q : Int) : Prop := ∀ (K : Ctx) (j1 : Nat), aR K [0] → m ≤ j1 → qLG K Try.f89 (fun u G => u = .agg (ar r0) ∧ G = ⟨4, [(0, vA p f d e q)]⟩) (cB (cK (cB (xG (xA (aj Try.f89)))))) [.blk 1, .loop (xG (xA (aj Try.f89))) j1, .blk 0, .seq (xF (aj Try.f89))] 87 (mkF 87 0 [(0, .ptr 0 0), (2, .str p2), (3, .int .i64 p3), (5, .ptr 1 0), (8, .ptr 2 0), (9, .sl 3)]) ⟨6, [(5, .row 26 4 (kidsV o)), (4, .row 9 1 (List.map V.str a)), (3, .row 9 1 (List.map V.str n)), (2, vB 0 []), (1, vH b c), (0, vA g i j k l)]⟩
def bP (m : Nat) (b : Int) (c : List UInt8) (a : (List (List UInt8))) (p2 : List UInt8) (p3 : Int) (g : (List (List UInt8))) (i : List GToken) (j : Int) (k : List UInt8) (l n : Int) (o : List Tree) (r0 : Tree) (p : List GToken) (f : Int) (d : List UInt8) (e q : Int) : Prop := ∀ (K : Ctx) (j1 : Nat), aR K [0] → m ≤ j1 → qLG K Try.f89 (fun u G => u = .agg (ar r0) ∧ G = ⟨4, [(0, vA p f d e q)]⟩) (xA (cK (cB (xG (xA (aj Try.f89)))))) [.blk 1, .loop (xG (xA (aj Try.f89))) j1, .blk 0, .seq (xF (aj Try.f89))] 87 (mkF 87 0 [(0, .ptr 0 0), (2, .str p2), (3, .int .i64 p3), (5, .ptr 1 0), (8, .ptr 2 0), (9, .sl 3)]) ⟨6, [(5, .row 26 4 (kidsV o)), (4, .row 9 1 (List.map V.str a)), (3, .row 9 1 (List.map V.str g)), (2, vB 0 []), (1, vH b c), (0, vA i j k l n)]⟩
def eY (m : Nat) (b : Int) (c : List UInt8) (a : (List (List UInt8))) (p2 : List UInt8) (p3 : Int) (g : (List (List UInt8))) (i : List GToken) (j : Int) (k : List UInt8) (l n : Int) (o : List Tree) (r0 : Tree) (p : List GToken) (f : Int) (d : List UInt8) (e q : Int) : Prop := ∀ (K : Ctx) (j1 : Nat), aR K [0] → m ≤ j1 → Go Try.prog K (bodyPost Try.prog Try.f89 (SP K (fun u G => u = .agg (ar r0) ∧ G = ⟨4, [(0, vA p f d e q)]⟩))) (.ex .normal) [.blk 1, .loop (xG (xA (aj Try.f89))) j1, .blk 0, .seq (xF (aj Try.f89))] 87 (mkF 87 0 [(0, .ptr 0 0), (2, .str p2), (3, .int .i64 p3), (5, .ptr 1 0), (8, .ptr 2 0), (9, .sl 3)]) ⟨6, [(5, .row 26 4 (kidsV o)), (4, .row 9 1 (List.map V.str a)), (3, .row 9 1 (List.map V.str g)), (2, vB 0 []), (1, vH b c), (0, vA i j k l n)]⟩
theorem dI (m : Nat) (l : List GToken) (j : Int) (c : List UInt8) (d n e : Int) (f : List UInt8) (a : (List (List UInt8))) (b : List Tree) (p2 : List UInt8) (p3 : Int) (r0 : Tree) (o : List GToken) (k : Int) (g : List UInt8) (i p : Int) (h : dF m e f a p2 p3 l j c d n b ([] : List (List UInt8)) r0 o k g i p) : co l j c d n e f a b p2 p3 r0 o k g i p := by
 refine az 87 [0] Try.func89 rfl rfl rfl (bg rfl) fun K hK => ?_
 exact gR 13 rfl <| go_loop m <| gNS 9 9 1 rfl rfl rfl rfl <| gJ (h K _ hK (by omega)) [0, 3, 4, 5, 1, 2] [0] rfl hK pq6 ⟨⟨_, rfl, rfl, rfl, (ah _ b).symm⟩, ⟨_, rfl, rfl, rfl, (vI _ a).symm⟩, ⟨_, rfl, rfl, rfl, rfl⟩, (pqo3 rfl rfl rfl rfl rfl rfl)⟩ rfl
theorem aW (m : Nat) (c : Int) (e : List UInt8) (a : (List (List UInt8))) (p2 : List UInt8) (p3 : Int) (ω : List GToken) (z1v2 : Int) (s1v3 : List UInt8) (z1v4 α : Int) (d : List Tree) (b : (List (List UInt8))) (r0 : Tree) (β : List GToken) (r : Int) (l : List UInt8) (n γ : Int) (h : ((α = 0) → ((c = 18) → (((d.length : Int) = 0) → dG m c e a p2 p3 ω z1v2 s1v3 z1v4 α d b r0 β r l n γ) ∧ (((d.length : Int) ≠ 0) → ∃ b1_1 r1_2 n1_3 s1_4 n1_5 n1_6, aq ω z1v2 s1v3 z1v4 α p2 b1_1 r1_2 n1_3 s1_4 n1_5 n1_6 ∧ ((b1_1 = false) → dG m c e a p2 p3 r1_2 n1_3 s1_4 n1_5 n1_6 d b r0 β r l n γ) ∧ ((b1_1 = true) → ∃ r1_7 n1_8 s1_9 δ ε s t g o, al r1_2 n1_3 s1_4 n1_5 n1_6 c e a d p2 r1_7 n1_8 s1_9 δ ε s t g o ∧ (g ++ b).length ≤ 1000000000 ∧ (Tree.node s t (g ++ b) o) = r0 ∧ r1_7 = β ∧ n1_8 = r ∧ s1_9 = l ∧ δ = n ∧ ε = γ))) ∧ ((c ≠ 18) → ∃ b1_16 ζ η θ ι κ, aq ω z1v2 s1v3 z1v4 α p2 b1_16 ζ η θ ι κ ∧ ((b1_16 = false) → dG m c e a p2 p3 ζ η θ ι κ d b r0 β r l n γ) ∧ ((b1_16 = true) → ∃ μ ν ξ ο π v x i p, al ζ η θ ι κ c e a d p2 μ ν ξ ο π v x i p ∧ (i ++ b).length ≤ 1000000000 ∧ (Tree.node v x (i ++ b) p) = r0 ∧ μ = β ∧ ν = r ∧ ξ = l ∧ ο = n ∧ π = γ))) ∧ ((α ≠ 0) → ∃ τ υ φ χ ψ y z k q, al ω z1v2 s1v3 z1v4 α c e a d p2 τ υ φ χ ψ y z k q ∧ (k ++ b).length ≤ 1000000000 ∧ (Tree.node y z (k ++ b) q) = r0 ∧ τ = β ∧ υ = r ∧ φ = l ∧ χ = n ∧ ψ = γ)) : dF (m + 1) c e a p2 p3 ω z1v2 s1v3 z1v4 α d b r0 β r l n γ := by
 intro K j1 hK hj1
 obtain ⟨j1, rfl⟩ : ∃ j, j1 = j + 1 := ⟨j1 - 1, by omega⟩
 refine gR 9 rfl <| gB 17 rfl rfl rfl ?_ ?_ <;> intro hd
 refine gT 16 rfl hd rfl ?_
 replace hd := (eq_of_beq hd)
 replace h := h.1 hd
 refine gR 4 rfl <| gB 21 rfl rfl rfl ?_ ?_ <;> intro hd
 refine gT 20 rfl hd rfl ?_
 replace hd := (eq_of_beq hd)
 replace h := h.1 hd
 refine gR 3 rfl <| gV 24 (.int .i64 (d.length : Int)) rfl (bC (av _)) rfl <| gLO 5 rfl (av _) fun hl73 => gR 3 rfl <| gB 27 rfl rfl rfl ?_ ?_ <;> intro hd
 refine gT 26 rfl hd rfl ?_
 replace hd := (eq_of_beq hd)
 replace h := h.1 hd
 exact gR 11 rfl <| gJ (h K _ hK (by omega)) [0, 1, 2, 3, 4, 5] [0] rfl hK pq6 ⟨⟨_, rfl, rfl, rfl, (ah _ d).symm⟩, ⟨_, rfl, rfl, rfl, (vI _ a).symm⟩, ⟨_, rfl, rfl, rfl, (vI _ b).symm⟩, (pqo3 rfl rfl rfl rfl rfl rfl)⟩ rfl
 refine gF 26 rfl hd rfl ?_
 replace hd := (ne_of_beq_false hd)
 replace h := h.2 hd
 refine gR 2 rfl ?_
 obtain ⟨b1_1, r1_2, n1_3, s1_4, n1_5, n1_6, hs74, h⟩ := h
 refine gCY hs74 [0] ?_
 refine gR 5 rfl <| gB 33 rfl rfl rfl ?_ ?_ <;> intro hd
 replace hd := (iQ hd)
 replace h := h.1 hd
 exact gR 3 rfl <| gJ (h K _ hK (by omega)) [0, 1, 2, 3, 4, 5] [0] rfl hK pq6 ⟨⟨_, rfl, rfl, rfl, (ah _ d).symm⟩, ⟨_, rfl, rfl, rfl, (vI _ a).symm⟩, ⟨_, rfl, rfl, rfl, (vI _ b).symm⟩, (pqo3 rfl rfl rfl rfl rfl rfl)⟩ rfl
 replace hd := (iO hd)
 replace h := h.2 hd
 refine gR 3 rfl <| go_xloopE <| gR 2 rfl <| go_sub (F' := (mkF 87 0 [(0, .ptr 0 0), (2, .str p2), (5, .ptr 1 0), (8, .ptr 2 0), (9, .sl 3)])) (H' := ⟨6, [(5, .row 26 4 (kidsV d)), (4, .row 9 1 (List.map V.str a)), (3, .row 9 1 (List.map V.str b)), (2, vB 0 []), (1, vH c e), (0, vA r1_2 n1_3 s1_4 n1_5 n1_6)]⟩) [0, 1, 2, 3, 4, 5] [0] rfl hK pq5 ⟨⟨_, rfl, rfl, rfl, (ah _ d).symm⟩, ⟨_, rfl, rfl, rfl, (vI _ a).symm⟩, ⟨_, rfl, rfl, rfl, (vI _ b).symm⟩, (pqo3 rfl rfl rfl rfl rfl rfl)⟩ rfl ?_
 refine gR 4 rfl ?_
 obtain ⟨r1_7, n1_8, s1_9, δ, ε, s, t, g, o, hs75, h⟩ := h
 refine gCZ hs75 [0, 1, 4, 5] ⟨⟨_, rfl, ⟨rfl, rfl, (ah _ d).symm⟩⟩, ⟨⟨_, rfl, ⟨rfl, rfl, (vI _ a).symm⟩⟩, ⟨⟨_, rfl, ⟨rfl, ak.rfl⟩⟩, ⟨⟨_, rfl, ⟨rfl, ak.rfl⟩⟩, trivial⟩⟩⟩⟩ ?_
 refine gHR 8 (List.map V.str g) rfl (vI _ g) rfl <| gHR 9 (kidsV o) rfl (ah _ o) rfl <| gR 7 rfl ?_
 obtain ⟨hb, h⟩ := h
 refine gDo (.repl 8 (.row 9 1 (List.map V.str (g ++ b)))) (bu aa rfl rfl rfl rfl rfl (List.map_append (f := V.str) (l₁ := g) (l₂ := b)).symm (by rw [cQ]; exact hb)) (okR rfl) rfl rfl rfl <| gR 4 rfl <| go_sub (F' := (mkF 87 0 [(5, .ptr 1 0), (8, .ptr 2 0)])) (H' := ⟨5, [(4, .row 26 4 (kidsV o)), (3, .row 9 1 (List.map V.str (g ++ b))), (2, vB 0 []), (1, vD s t), (0, vA r1_7 n1_8 s1_9 δ ε)]⟩) [0, 1, 2, 10, 9] [0] rfl hK pq2 ⟨⟨_, rfl, rfl, rfl, (ah _ o).symm⟩, ⟨_, rfl, rfl, rfl, (vI _ (g ++ b)).symm⟩, (pqo3 rfl rfl rfl rfl rfl rfl)⟩ rfl ?_
 refine gR 7 rfl <| gFR 3 rfl (ch _ (fun _ => rfl) _) rfl rfl <| gFR 4 rfl (cm _) rfl rfl ?_
 obtain ⟨rfl, rfl, rfl, rfl, rfl, rfl⟩ := h
 exact go_sub (F' := (mkF 87 0 [(8, .ptr 3 0)])) (H' := ⟨4, [(3, vF ((Tree.node s t (g ++ b) o).kind) ((Tree.node s t (g ++ b) o).text) ((Tree.node s t (g ++ b) o).leads) ((Tree.node s t (g ++ b) o).kids)), (0, vA r1_7 n1_8 s1_9 δ ε)]⟩) [0, 1001, 1002, 2] [0] rfl hK pq1 (pqo2 rfl rfl rfl rfl) rfl <| go_endD [3] aa (rs := [.cell 8 26]) rfl rfl ⟨rfl, rfl⟩
 refine gF 20 rfl hd rfl ?_
 replace hd := (ne_of_beq_false hd)
 replace h := h.2 hd
 refine gR 8 rfl ?_
 obtain ⟨b1_16, ζ, η, θ, ι, κ, hs76, h⟩ := h
 refine gCY hs76 [0] ?_
 refine gR 5 rfl <| gB 33 rfl rfl rfl ?_ ?_ <;> intro hd
 replace hd := (iQ hd)
 replace h := h.1 hd
 exact gR 3 rfl <| gJ (h K _ hK (by omega)) [0, 1, 2, 3, 4, 5] [0] rfl hK pq6 ⟨⟨_, rfl, rfl, rfl, (ah _ d).symm⟩, ⟨_, rfl, rfl, rfl, (vI _ a).symm⟩, ⟨_, rfl, rfl, rfl, (vI _ b).symm⟩, (pqo3 rfl rfl rfl rfl rfl rfl)⟩ rfl
 replace hd := (iO hd)
 replace h := h.2 hd
 refine gR 3 rfl <| go_xloopE <| gR 2 rfl <| go_sub (F' := (mkF 87 0 [(0, .ptr 0 0), (2, .str p2), (5, .ptr 1 0), (8, .ptr 2 0), (9, .sl 3)])) (H' := ⟨6, [(5, .row 26 4 (kidsV d)), (4, .row 9 1 (List.map V.str a)), (3, .row 9 1 (List.map V.str b)), (2, vB 0 []), (1, vH c e), (0, vA ζ η θ ι κ)]⟩) [0, 1, 2, 3, 4, 5] [0] rfl hK pq5 ⟨⟨_, rfl, rfl, rfl, (ah _ d).symm⟩, ⟨_, rfl, rfl, rfl, (vI _ a).symm⟩, ⟨_, rfl, rfl, rfl, (vI _ b).symm⟩, (pqo3 rfl rfl rfl rfl rfl rfl)⟩ rfl ?_
 refine gR 4 rfl ?_
 obtain ⟨μ, ν, ξ, ο, π, v, x, i, p, hs77, h⟩ := h
 refine gCZ hs77 [0, 1, 4, 5] ⟨⟨_, rfl, ⟨rfl, rfl, (ah _ d).symm⟩⟩, ⟨⟨_, rfl, ⟨rfl, rfl, (vI _ a).symm⟩⟩, ⟨⟨_, rfl, ⟨rfl, ak.rfl⟩⟩, ⟨⟨_, rfl, ⟨rfl, ak.rfl⟩⟩, trivial⟩⟩⟩⟩ ?_
 refine gHR 8 (List.map V.str i) rfl (vI _ i) rfl <| gHR 9 (kidsV p) rfl (ah _ p) rfl <| gR 7 rfl ?_
 obtain ⟨hb, h⟩ := h
 refine gDo (.repl 8 (.row 9 1 (List.map V.str (i ++ b)))) (bu aa rfl rfl rfl rfl rfl (List.map_append (f := V.str) (l₁ := i) (l₂ := b)).symm (by rw [cQ]; exact hb)) (okR rfl) rfl rfl rfl <| gR 4 rfl <| go_sub (F' := (mkF 87 0 [(5, .ptr 1 0), (8, .ptr 2 0)])) (H' := ⟨5, [(4, .row 26 4 (kidsV p)), (3, .row 9 1 (List.map V.str (i ++ b))), (2, vB 0 []), (1, vD v x), (0, vA μ ν ξ ο π)]⟩) [0, 1, 2, 10, 9] [0] rfl hK pq2 ⟨⟨_, rfl, rfl, rfl, (ah _ p).symm⟩, ⟨_, rfl, rfl, rfl, (vI _ (i ++ b)).symm⟩, (pqo3 rfl rfl rfl rfl rfl rfl)⟩ rfl ?_
 refine gR 7 rfl <| gFR 3 rfl (ch _ (fun _ => rfl) _) rfl rfl <| gFR 4 rfl (cm _) rfl rfl ?_
 obtain ⟨rfl, rfl, rfl, rfl, rfl, rfl⟩ := h
 exact go_sub (F' := (mkF 87 0 [(8, .ptr 3 0)])) (H' := ⟨4, [(3, vF ((Tree.node v x (i ++ b) p).kind) ((Tree.node v x (i ++ b) p).text) ((Tree.node v x (i ++ b) p).leads) ((Tree.node v x (i ++ b) p).kids)), (0, vA μ ν ξ ο π)]⟩) [0, 1001, 1002, 2] [0] rfl hK pq1 (pqo2 rfl rfl rfl rfl) rfl <| go_endD [3] aa (rs := [.cell 8 26]) rfl rfl ⟨rfl, rfl⟩
 refine gF 16 rfl hd rfl ?_
 replace hd := (ne_of_beq_false hd)
 replace h := h.2 hd
 refine gR 21 rfl <| go_xloopE <| gR 2 rfl <| go_sub (F' := (mkF 87 0 [(0, .ptr 0 0), (2, .str p2), (5, .ptr 1 0), (8, .ptr 2 0), (9, .sl 3)])) (H' := ⟨6, [(5, .row 26 4 (kidsV d)), (4, .row 9 1 (List.map V.str a)), (3, .row 9 1 (List.map V.str b)), (2, vB 0 []), (1, vH c e), (0, vA ω z1v2 s1v3 z1v4 α)]⟩) [0, 1, 2, 3, 4, 5] [0] rfl hK pq5 ⟨⟨_, rfl, rfl, rfl, (ah _ d).symm⟩, ⟨_, rfl, rfl, rfl, (vI _ a).symm⟩, ⟨_, rfl, rfl, rfl, (vI _ b).symm⟩, (pqo3 rfl rfl rfl rfl rfl rfl)⟩ rfl ?_
 refine gR 4 rfl ?_
 obtain ⟨τ, υ, φ, χ, ψ, y, z, k, q, hs78, h⟩ := h
 refine gCZ hs78 [0, 1, 4, 5] ⟨⟨_, rfl, ⟨rfl, rfl, (ah _ d).symm⟩⟩, ⟨⟨_, rfl, ⟨rfl, rfl, (vI _ a).symm⟩⟩, ⟨⟨_, rfl, ⟨rfl, ak.rfl⟩⟩, ⟨⟨_, rfl, ⟨rfl, ak.rfl⟩⟩, trivial⟩⟩⟩⟩ ?_
 refine gHR 8 (List.map V.str k) rfl (vI _ k) rfl <| gHR 9 (kidsV q) rfl (ah _ q) rfl <| gR 7 rfl ?_
 obtain ⟨hb, h⟩ := h
 refine gDo (.repl 8 (.row 9 1 (List.map V.str (k ++ b)))) (bu aa rfl rfl rfl rfl rfl (List.map_append (f := V.str) (l₁ := k) (l₂ := b)).symm (by rw [cQ]; exact hb)) (okR rfl) rfl rfl rfl <| gR 4 rfl <| go_sub (F' := (mkF 87 0 [(5, .ptr 1 0), (8, .ptr 2 0)])) (H' := ⟨5, [(4, .row 26 4 (kidsV q)), (3, .row 9 1 (List.map V.str (k ++ b))), (2, vB 0 []), (1, vD y z), (0, vA τ υ φ χ ψ)]⟩) [0, 1, 2, 10, 9] [0] rfl hK pq2 ⟨⟨_, rfl, rfl, rfl, (ah _ q).symm⟩, ⟨_, rfl, rfl, rfl, (vI _ (k ++ b)).symm⟩, (pqo3 rfl rfl rfl rfl rfl rfl)⟩ rfl ?_
 refine gR 7 rfl <| gFR 3 rfl (ch _ (fun _ => rfl) _) rfl rfl <| gFR 4 rfl (cm _) rfl rfl ?_
 obtain ⟨rfl, rfl, rfl, rfl, rfl, rfl⟩ := h
 exact go_sub (F' := (mkF 87 0 [(8, .ptr 3 0)])) (H' := ⟨4, [(3, vF ((Tree.node y z (k ++ b) q).kind) ((Tree.node y z (k ++ b) q).text) ((Tree.node y z (k ++ b) q).leads) ((Tree.node y z (k ++ b) q).kids)), (0, vA τ υ φ χ ψ)]⟩) [0, 1001, 1002, 2] [0] rfl hK pq1 (pqo2 rfl rfl rfl rfl) rfl <| go_endD [3] aa (rs := [.cell 8 26]) rfl rfl ⟨rfl, rfl⟩
theorem br (m : Nat) (e : Int) (g : List UInt8) (a : (List (List UInt8))) (p2 : List UInt8) (p3 : Int) (o : List GToken) (p : Int) (q : List UInt8) (r s : Int) (c : List Tree) (d : (List (List UInt8))) (r0 : Tree) (t : List GToken) (l : Int) (i : List UInt8) (k v : Int) (h : ((0 < (c.length : Int)) → ∃ w x y z α β γ b n, al o p q r s 0 [] ([] : List (List UInt8)) ([] : List Tree) [44] w x y z α β γ b n ∧ (d ++ b).length ≤ 1000000000 ∧ eW m e g a p2 p3 w x y z α (d ++ b) c r0 t l i k v) ∧ ((¬ 0 < (c.length : Int)) → eW m e g a p2 p3 o p q r s d c r0 t l i k v)) : dG (m + 1) e g a p2 p3 o p q r s c d r0 t l i k v := by
 intro K j1 hK hj1
 obtain ⟨j1, rfl⟩ : ∃ j, j1 = j + 1 := ⟨j1 - 1, by omega⟩
 refine gR 7 rfl <| gV 36 (.int .i64 (c.length : Int)) rfl (bC (av _)) rfl <| gLO 5 rfl (av _) fun hl79 => gR 3 rfl <| gB 37 rfl rfl rfl ?_ ?_ <;> intro hd
 replace hd := (of_decide_eq_true hd)
 replace h := h.1 hd
 refine gR 11 rfl <| gNC 6 2 9 1 rfl rfl rfl rfl <| gNC 6 3 26 4 rfl rfl rfl rfl ?_
 obtain ⟨w, x, y, z, α, β, γ, b, n, hs80, h⟩ := h
 refine gCZ hs80 [0, 6, 7, 8] ⟨⟨_, rfl, ⟨rfl, rfl, rfl⟩⟩, ⟨⟨_, rfl, ⟨rfl, rfl, rfl⟩⟩, ⟨⟨_, rfl, ⟨rfl, ak.rfl⟩⟩, ⟨⟨_, rfl, ⟨rfl, ak.rfl⟩⟩, trivial⟩⟩⟩⟩ ?_
 refine gHR 11 (List.map V.str b) rfl (vI _ b) rfl <| gHR 12 (kidsV n) rfl (ah _ n) rfl <| gR 6 rfl ?_
 obtain ⟨hb, h⟩ := h
 exact gDo (.repl 3 (.row 9 1 (List.map V.str (d ++ b)))) (bu aa rfl rfl rfl rfl rfl (List.map_append (f := V.str) (l₁ := d) (l₂ := b)).symm (by rw [cQ]; exact hb)) (okR rfl) rfl rfl rfl <| gR 3 rfl <| gJ (h K _ hK (by omega)) [0, 1, 2, 13, 4, 5] [0] rfl hK pq6 ⟨⟨_, rfl, rfl, rfl, (ah _ c).symm⟩, ⟨_, rfl, rfl, rfl, (vI _ a).symm⟩, ⟨_, rfl, rfl, rfl, (vI _ (d ++ b)).symm⟩, (pqo3 rfl rfl rfl rfl rfl rfl)⟩ rfl
 replace hd := (of_decide_eq_false hd)
 replace h := h.2 hd
 exact gR 3 rfl <| gJ (h K _ hK (by omega)) [0, 1, 2, 3, 4, 5] [0] rfl hK pq6 ⟨⟨_, rfl, rfl, rfl, (ah _ c).symm⟩, ⟨_, rfl, rfl, rfl, (vI _ a).symm⟩, ⟨_, rfl, rfl, rfl, (vI _ d).symm⟩, (pqo3 rfl rfl rfl rfl rfl rfl)⟩ rfl
theorem bq (m : Nat) (c : Int) (d : List UInt8) (a : (List (List UInt8))) (p2 : List UInt8) (p3 : Int) (w : List GToken) (x : Int) (y : List UInt8) (z α : Int) (i : (List (List UInt8))) (b : List Tree) (r0 : Tree) (n : List GToken) (g : Int) (e : List UInt8) (f o : Int) (h : (((b.length : Int) = p3) → ∃ p q r s t v, fa w x y z α p q r s t v ∧ ((p = true) → ∃ β γ δ k l, aZ q r s t v 3 β γ δ k l ∧ bP m c d a p2 p3 i β γ δ k l b r0 n g e f o) ∧ ((p = false) → bP m c d a p2 p3 i q r s t v b r0 n g e f o)) ∧ (((b.length : Int) ≠ p3) → bP m c d a p2 p3 i w x y z α b r0 n g e f o)) : eW (m + 1) c d a p2 p3 w x y z α i b r0 n g e f o := by
 intro K j1 hK hj1
 obtain ⟨j1, rfl⟩ : ∃ j, j1 = j + 1 := ⟨j1 - 1, by omega⟩
 refine gR 6 rfl <| gV 47 (.int .i64 (b.length : Int)) rfl (bC (av _)) rfl <| gLO 5 rfl (av _) fun hl81 => gR 3 rfl <| gB 50 rfl rfl rfl ?_ ?_ <;> intro hd
 refine gT 49 rfl hd rfl ?_
 replace hd := (eq_of_beq hd)
 replace h := h.1 hd
 refine gR 1 rfl ?_
 obtain ⟨p, q, r, s, t, v, hs82, h⟩ := h
 refine gCY hs82 [0] ?_
 refine gR 3 rfl <| gB 53 rfl rfl rfl ?_ ?_ <;> intro hd
 replace h := h.1 hd
 refine gR 3 rfl ?_
 obtain ⟨β, γ, δ, k, l, hs83, h⟩ := h
 refine gCY hs83 [0] ?_
 exact gR 2 rfl <| gJ (h K _ hK (by omega)) [0, 1, 2, 3, 4, 5] [0] rfl hK pq6 ⟨⟨_, rfl, rfl, rfl, (ah _ b).symm⟩, ⟨_, rfl, rfl, rfl, (vI _ a).symm⟩, ⟨_, rfl, rfl, rfl, (vI _ i).symm⟩, (pqo3 rfl rfl rfl rfl rfl rfl)⟩ rfl
 replace h := h.2 hd
 exact gR 3 rfl <| gJ (h K _ hK (by omega)) [0, 1, 2, 3, 4, 5] [0] rfl hK pq6 ⟨⟨_, rfl, rfl, rfl, (ah _ b).symm⟩, ⟨_, rfl, rfl, rfl, (vI _ a).symm⟩, ⟨_, rfl, rfl, rfl, (vI _ i).symm⟩, (pqo3 rfl rfl rfl rfl rfl rfl)⟩ rfl
 refine gF 49 rfl hd rfl ?_
 replace hd := (ne_of_beq_false hd)
 replace h := h.2 hd
 exact gR 8 rfl <| gJ (h K _ hK (by omega)) [0, 1, 2, 3, 4, 5] [0] rfl hK pq6 ⟨⟨_, rfl, rfl, rfl, (ah _ b).symm⟩, ⟨_, rfl, rfl, rfl, (vI _ a).symm⟩, ⟨_, rfl, rfl, rfl, (vI _ i).symm⟩, (pqo3 rfl rfl rfl rfl rfl rfl)⟩ rfl
theorem bK (m : Nat) (c : Int) (d : List UInt8) (b : (List (List UInt8))) (p2 : List UInt8) (p3 : Int) (f : (List (List UInt8))) (t : List GToken) (v : Int) (x : List UInt8) (y s : Int) (a : List Tree) (r0 : Tree) (z : List GToken) (l : Int) (g : List UInt8) (k α : Int) (h : ((s ≠ 0) → (Tree.node c d b a) = r0 ∧ t = z ∧ v = l ∧ x = g ∧ y = k ∧ s = α) ∧ ((s = 0) → ∃ e n o p q r, bh t v x y s e n o p q r ∧ ((c = 16) → (a ++ [(Tree.node 0 [] [] [])]).length ≤ 1000000000 ∧ ∃ β, (a ++ [(Tree.node 0 [] [] [])])[a.length]? = some β ∧ eY m c d b p2 p3 f n o p q r ((a ++ [(Tree.node 0 [] [] [])]).set a.length (Tree.node 17 [] [] [e])) r0 z l g k α) ∧ ((c ≠ 16) → (a ++ [(Tree.node 0 [] [] [])]).length ≤ 1000000000 ∧ ∃ γ, (a ++ [(Tree.node 0 [] [] [])])[a.length]? = some γ ∧ eY m c d b p2 p3 f n o p q r ((a ++ [(Tree.node 0 [] [] [])]).set a.length e) r0 z l g k α))) : bP (m + 1) c d b p2 p3 f t v x y s a r0 z l g k α := by
 intro K j1 hK hj1
 obtain ⟨j1, rfl⟩ : ∃ j, j1 = j + 1 := ⟨j1 - 1, by omega⟩
 refine gR 10 rfl <| gB 60 rfl rfl rfl ?_ ?_ <;> intro hd
 replace hd := (fB hd)
 replace h := h.1 hd
 refine gR 10 rfl <| go_xloopR <| gR 2 rfl <| gFR 4 rfl (ch _ (fun _ => rfl) _) rfl rfl <| gFR 5 rfl (cm _) rfl rfl ?_
 obtain ⟨rfl, rfl, rfl, rfl, rfl, rfl⟩ := h
 exact go_sub (F' := (mkF 87 0 [(8, .ptr 3 0)])) (H' := ⟨4, [(3, vF ((Tree.node c d b a).kind) ((Tree.node c d b a).text) ((Tree.node c d b a).leads) ((Tree.node c d b a).kids)), (0, vA t v x y s)]⟩) [0, 1001, 1002, 2] [0] rfl hK pq1 (pqo2 rfl rfl rfl rfl) rfl <| go_endD [3] aa (rs := [.cell 8 26]) rfl rfl ⟨rfl, rfl⟩
 replace hd := (dY hd)
 replace h := h.2 hd
 refine gR 6 rfl ?_
 obtain ⟨e, n, o, p, q, r, hs84, h⟩ := h
 refine gCY hs84 [0] ?_
 refine gR 4 rfl <| go_sub (F' := (mkF 87 0 [(0, .ptr 0 0), (2, .str p2), (3, .int .i64 p3), (5, .ptr 1 0), (8, .ptr 2 0), (9, .sl 3), (11, .ptr 4 0)])) (H' := ⟨7, [(6, .row 26 4 (kidsV a)), (5, .row 9 1 (List.map V.str b)), (4, .var 26 (ar e)), (3, .row 9 1 (List.map V.str f)), (2, vB 0 []), (1, .var 26 [.int .i64 c, .str d, .sl 5, .sl 6]), (0, vA n o p q r)]⟩) [0, 1, 2, 3, 8, 4, 5] [0] rfl hK pq7 ⟨⟨_, rfl, rfl, rfl, (ah _ a).symm⟩, ⟨_, rfl, rfl, rfl, (vI _ b).symm⟩, pqo rfl rfl, ⟨_, rfl, rfl, rfl, (vI _ f).symm⟩, (pqo3 rfl rfl rfl rfl rfl rfl)⟩ rfl ?_
 refine gR 8 rfl <| gB 66 rfl rfl rfl ?_ ?_ <;> intro hd
 replace hd := (eq_of_beq hd)
 replace h := h.1 hd
 refine gR 4 rfl <| gHR 7 (kidsV [e]) rfl (bv e) rfl <| gR 4 rfl <| go_sub (F' := (mkF 87 0 [(0, .ptr 0 0), (2, .str p2), (3, .int .i64 p3), (5, .ptr 1 0), (8, .ptr 2 0), (9, .sl 3), (11, .ptr 4 0)])) (H' := ⟨8, [(7, .row 26 4 (kidsV [e])), (6, .row 26 4 (kidsV a)), (5, .row 9 1 (List.map V.str b)), (4, .var 26 [.int .i64 17, .str [], .nils, .sl 7]), (3, .row 9 1 (List.map V.str f)), (2, vB 0 []), (1, .var 26 [.int .i64 c, .str d, .sl 5, .sl 6]), (0, vA n o p q r)]⟩) [0, 1, 2, 3, 4, 5, 6, 7] [0] rfl hK pq7 ⟨⟨_, rfl, rfl, rfl, (ah _ [e]).symm⟩, ⟨_, rfl, rfl, rfl, (ah _ a).symm⟩, ⟨_, rfl, rfl, rfl, (vI _ b).symm⟩, pqo rfl rfl, ⟨_, rfl, rfl, rfl, (vI _ f).symm⟩, (pqo3 rfl rfl rfl rfl rfl rfl)⟩ rfl ?_
 refine gDs [1, 4] 5 10 rfl (by kernel_rfl) (by kernel_rfl) ?_
 refine gDr [(0, 2), (1, 3), (2, 3), (3, 2)] (by kernel_rfl) rfl rfl <| gV 73 (.int .i64 (a.length : Int)) rfl (bC (av _)) rfl <| gLO 6 rfl (av _) fun hl88 => gDr [(4, 0)] (by kernel_rfl) rfl rfl <| gHX 8 [.agg [.int .i64 0, .str [], .row 1 [], .row 4 (kidsV [])]] rfl (.cons (.agg (.cons .rfl (.cons .rfl (.cons (.nil 1) (.cons (.nil 4) .nil))))) .nil) rfl <| gHR 8 (kidsV [(Tree.node 0 [] [] [])]) rfl (bv (Tree.node 0 [] [] [])) rfl ?_
 obtain ⟨hb, h⟩ := h
 refine ax 5 (.repl 6 (.row 26 4 (kidsV (a ++ [(Tree.node 0 [] [] [])])))) rfl (by kernel_rfl) (bu aa rfl rfl rfl rfl rfl (aC a [(Tree.node 0 [] [] [])]).symm (by rw [av]; exact hb)) (okR rfl) rfl (by kernel_rfl) rfl rfl ?_
 obtain ⟨β, hxt4_7, h⟩ := h
 refine gYd 6 rfl (by kernel_rfl) (yIO aa rfl rfl rfl rfl (by have := (ae hxt4_7); exact (List.getElem?_eq_some_iff.1 this).1)) rfl rfl ?_
 refine gDr [(8, 2)] (by kernel_rfl) rfl rfl <| gFR 7 rfl (cm _) rfl rfl <| gS 72 (.agg [.int .i64 17, .str [], .row 1 [], .row 4 (kidsV [e])]) rfl (.agg (.cons .rfl (.cons .rfl (.cons (.nil 1) (.cons .rfl .nil))))) rfl ?_
 apply aF (i := 7) (j := 9) (by kernel_rfl) rfl rfl rfl rfl
 exact (ba (.set 9 (.row 26 4 (kidsV ((a ++ [(Tree.node 0 [] [] [])]).set a.length (Tree.node 17 [] [] [e]))))) (dSe aa rfl rfl rfl rfl (ae hxt4_7) rfl (bp (a ++ [(Tree.node 0 [] [] [])]) a.length (Tree.node 17 [] [] [e]))) (okS rfl) (by kernel_rfl))
 exact (aD aa rfl rfl)
 exact gDr [(9, 1)] (by kernel_rfl) rfl rfl <| gDe (by kernel_rfl) <| gJ (h K _ hK (by omega)) [0, 1, 2, 3, 5, 9] [0] rfl hK pq6 ⟨⟨_, rfl, rfl, rfl, (ah _ ((a ++ [(Tree.node 0 [] [] [])]).set a.length (Tree.node 17 [] [] [e]))).symm⟩, ⟨_, rfl, rfl, rfl, (vI _ b).symm⟩, ⟨_, rfl, rfl, rfl, (vI _ f).symm⟩, (pqo3 rfl rfl rfl rfl rfl rfl)⟩ rfl
 refine ax 7 (.set 9 (.row 26 4 (kidsV ((a ++ [(Tree.node 0 [] [] [])]).set a.length (Tree.node 17 [] [] [e]))))) rfl (by kernel_rfl) (dSe aa rfl rfl rfl rfl (ae hxt4_7) rfl (bp (a ++ [(Tree.node 0 [] [] [])]) a.length (Tree.node 17 [] [] [e]))) (okS rfl) rfl (by kernel_rfl) rfl rfl ?_
 exact gDe (by kernel_rfl) <| gJ (h K _ hK (by omega)) [0, 1, 2, 3, 5, 9] [0] rfl hK pq6 ⟨⟨_, rfl, rfl, rfl, (ah _ ((a ++ [(Tree.node 0 [] [] [])]).set a.length (Tree.node 17 [] [] [e]))).symm⟩, ⟨_, rfl, rfl, rfl, (vI _ b).symm⟩, ⟨_, rfl, rfl, rfl, (vI _ f).symm⟩, (pqo3 rfl rfl rfl rfl rfl rfl)⟩ rfl
 replace hd := (ne_of_beq_false hd)
 replace h := h.2 hd
 refine gR 3 rfl <| go_sub (F' := (mkF 87 0 [(0, .ptr 0 0), (2, .str p2), (3, .int .i64 p3), (5, .ptr 1 0), (8, .ptr 2 0), (9, .sl 3), (11, .ptr 4 0)])) (H' := ⟨7, [(6, .row 26 4 (kidsV a)), (5, .row 9 1 (List.map V.str b)), (4, .var 26 (ar e)), (3, .row 9 1 (List.map V.str f)), (2, vB 0 []), (1, .var 26 [.int .i64 c, .str d, .sl 5, .sl 6]), (0, vA n o p q r)]⟩) [0, 1, 2, 3, 4, 5, 6] [0] rfl hK pq7 ⟨⟨_, rfl, rfl, rfl, (ah _ a).symm⟩, ⟨_, rfl, rfl, rfl, (vI _ b).symm⟩, pqo rfl rfl, ⟨_, rfl, rfl, rfl, (vI _ f).symm⟩, (pqo3 rfl rfl rfl rfl rfl rfl)⟩ rfl ?_
 refine gDs [1, 4] 5 10 rfl (by kernel_rfl) (by kernel_rfl) ?_
 refine gDr [(0, 2), (1, 3), (2, 3), (3, 2)] (by kernel_rfl) rfl rfl <| gV 73 (.int .i64 (a.length : Int)) rfl (bC (av _)) rfl <| gLO 6 rfl (av _) fun hl92 => gDr [(4, 0)] (by kernel_rfl) rfl rfl <| gHX 7 [.agg [.int .i64 0, .str [], .row 1 [], .row 4 (kidsV [])]] rfl (.cons (.agg (.cons .rfl (.cons .rfl (.cons (.nil 1) (.cons (.nil 4) .nil))))) .nil) rfl <| gHR 7 (kidsV [(Tree.node 0 [] [] [])]) rfl (bv (Tree.node 0 [] [] [])) rfl ?_
 obtain ⟨hb, h⟩ := h
 refine ax 5 (.repl 6 (.row 26 4 (kidsV (a ++ [(Tree.node 0 [] [] [])])))) rfl (by kernel_rfl) (bu aa rfl rfl rfl rfl rfl (aC a [(Tree.node 0 [] [] [])]).symm (by rw [av]; exact hb)) (okR rfl) rfl (by kernel_rfl) rfl rfl ?_
 obtain ⟨γ, hxt4_8, h⟩ := h
 refine gYd 6 rfl (by kernel_rfl) (yIO aa rfl rfl rfl rfl (by have := (ae hxt4_8); exact (List.getElem?_eq_some_iff.1 this).1)) rfl rfl ?_
 refine gDr [(8, 2)] (by kernel_rfl) rfl rfl ?_
 apply aF (i := 7) (j := 9) (by kernel_rfl) rfl rfl rfl rfl
 exact (ba (.set 8 (.row 26 4 (kidsV ((a ++ [(Tree.node 0 [] [] [])]).set a.length e)))) (dSe aa rfl rfl rfl rfl (ae hxt4_8) rfl (bp (a ++ [(Tree.node 0 [] [] [])]) a.length e)) (okS rfl) (by kernel_rfl))
 exact (aD aa rfl rfl)
 exact gDr [(9, 1)] (by kernel_rfl) rfl rfl <| gDe (by kernel_rfl) <| gJ (h K _ hK (by omega)) [0, 1, 2, 3, 5, 8] [0] rfl hK pq6 ⟨⟨_, rfl, rfl, rfl, (ah _ ((a ++ [(Tree.node 0 [] [] [])]).set a.length e)).symm⟩, ⟨_, rfl, rfl, rfl, (vI _ b).symm⟩, ⟨_, rfl, rfl, rfl, (vI _ f).symm⟩, (pqo3 rfl rfl rfl rfl rfl rfl)⟩ rfl
 refine ax 7 (.set 8 (.row 26 4 (kidsV ((a ++ [(Tree.node 0 [] [] [])]).set a.length e)))) rfl (by kernel_rfl) (dSe aa rfl rfl rfl rfl (ae hxt4_8) rfl (bp (a ++ [(Tree.node 0 [] [] [])]) a.length e)) (okS rfl) rfl (by kernel_rfl) rfl rfl ?_
 exact gDe (by kernel_rfl) <| gJ (h K _ hK (by omega)) [0, 1, 2, 3, 5, 8] [0] rfl hK pq6 ⟨⟨_, rfl, rfl, rfl, (ah _ ((a ++ [(Tree.node 0 [] [] [])]).set a.length e)).symm⟩, ⟨_, rfl, rfl, rfl, (vI _ b).symm⟩, ⟨_, rfl, rfl, rfl, (vI _ f).symm⟩, (pqo3 rfl rfl rfl rfl rfl rfl)⟩ rfl
theorem dB (m : Nat) (b : Int) (c : List UInt8) (a : (List (List UInt8))) (p2 : List UInt8) (p3 : Int) (g : (List (List UInt8))) (k : List GToken) (l : Int) (n : List UInt8) (o p : Int) (i : List Tree) (r0 : Tree) (q : List GToken) (f : Int) (d : List UInt8) (e r : Int) (h : dF m b c a p2 p3 k l n o p i g r0 q f d e r) : eY (m + 1) b c a p2 p3 g k l n o p i r0 q f d e r := by
 intro K j1 hK hj1
 obtain ⟨j1, rfl⟩ : ∃ j, j1 = j + 1 := ⟨j1 - 1, by omega⟩
 exact gR 1 rfl <| go_xloop <| gJ (h K _ hK (by omega)) [0, 1, 2, 3, 4, 5] [0] rfl hK pq6 ⟨⟨_, rfl, rfl, rfl, (ah _ i).symm⟩, ⟨_, rfl, rfl, rfl, (vI _ a).symm⟩, ⟨_, rfl, rfl, rfl, (vI _ g).symm⟩, (pqo3 rfl rfl rfl rfl rfl rfl)⟩ rfl
end Go.Proofs.Ytpigfkmccilkjaa
