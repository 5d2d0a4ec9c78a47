/- Contracts of the functions that the law reaches, part 6. -/
import Derived.Test.YtpigfkmccilkjaaTa5
set_option linter.unusedVariables false
set_option linter.unusedSimpArgs false
namespace Go.Proofs.Ytpigfkmccilkjaa
open Go.RowKit Lx Sx
set_option maxRecDepth 100000
set_option maxHeartbeats 2000000
theorem qo (x : List UInt8) : fW x (mY x) := by
 refine lV 0 _ _ ?_
 repeat' (refine And.intro (fun _ => ?_) (fun _ => ?_))
 all_goals simp_all [mY]
theorem AU {x : List UInt8} (h : mY x = true) : bm x = 8 := by
 simp only [mY, Bool.or_eq_true, beq_iff_eq] at h
 rcases h with (((rfl | rfl) | rfl) | rfl) | rfl <;> decide
theorem fN (ks : List Tree) (z y : Tree) : (ks ++ [z]).set ks.length y = ks ++ [y] := by simp
theorem fR (ks : List Tree) (z : Tree) : (ks ++ [z])[ks.length]? = some z := by simp
section
variable {L : List TokZ} {tl : List UInt8} {sz : Nat} (hg : Gl L) (hL : L.length ≤ 1000000) {n : Nat} {E : PS → Tree × PS}
  (hE : ∀ (s : PS) (st : RS), s.toks.length < n → Rl L sz s st → Ar L tl sz bh st (E s)) (hEd : ∀ {s : PS}, Dd s → Sm s (E s).2) (hEl : ∀ s : PS, (E s).2.toks.length ≤ s.toks.length)
include hg hL hE hEd hEl
theorem sH {K : Int} {item : PS → Tree × PS} (hi : (K = 16 ∧ item = cy E) ∨ (K = 18 ∧ item = E)) (X : List UInt8) (ls : List (List UInt8)) (hls : ls.length ≤ 5) {en : List UInt8} (hen : bm en = 8) (hne : en ≠ [44]) (most : Nat) (hm : most ≠ 0) :
    ∀ (fuel : Nat) (s : PS) (st : RS) (cs' : List (List UInt8)) (ks' : List Tree) (cs : List (List UInt8)) (ks : List Tree), s.toks.length < fuel → s.toks.length ≤ n → Rl L sz s st → ks' ≠ [] → ks'.length + s.toks.length ≤ 2000000 → cs'.length + s.toks.length ≤ 2000000 → (s.failed = 0 → cs' = cs ∧ ks' = ks) →
      ∃ (M : Nat) (x : Tree) (st' : RS), dF M K X ls en most (gl L) st.at_ tl st.stop st.e ks' cs' x (gl L) st'.at_ tl st'.stop st'.e ∧ Rl L sz (ai en (commaF item most aA fuel cs ks s).2.2).2 st' ∧
        ((ai en (commaF item most aA fuel cs ks s).2.2).2.failed = 0 → x = .node K X (ls ++ [(ai en (commaF item most aA fuel cs ks s).2.2).1] ++ (commaF item most aA fuel cs ks s).1) (commaF item most aA fuel cs ks s).2.1)
  | 0, s, st, cs', ks', cs, ks, h, _, _, _, _, _, _ => by omega
  | fuel + 1, s, st, cs', ks', cs, ks, h, hn, hr, hk0, hkl', hcl, hk => by
    have hkl : ¬ ((ks'.length : Nat) : Int) = 0 := fun e => hk0 (List.length_eq_zero_iff.1 (by omega))
    have hid : ∀ {s : PS}, Dd s → Sm s (item s).2 := by
      rcases hi with ⟨_, rfl⟩ | ⟨_, rfl⟩
      · exact fun d => hEd d
      · exact hEd
    have hen0 : en ≠ [] := by rintro rfl; cases hen
    by_cases f0 : s.failed = 0
    · obtain ⟨rfl, rfl⟩ := hk f0
      have g0 : st.e = 0 := hr.e0.2 f0
      have i := kG (tl := tl) hg en (.inr hen) hr
      by_cases ce : (ab s).text = en
      · have e1 : commaF item most aA (fuel + 1) cs' ks' s = (cs', ks', s) := by rw [commaF, if_neg (by rw [ce]; exact hne)]
        obtain ⟨st', l', q, r, b, e⟩ := bZ (tl := tl) hg hL K X ls ks' en (.inr hen) (by omega) hr
        rw [e1]
        refine ⟨1, .node K X (l' ++ cs') ks', st', (aW 0 _ _ _ _ _ _ _ _ _ _ _ _ _ _ _ _ _ _ ⟨fun _ => ⟨fun _ => ⟨fun hz => absurd hz hkl, fun _ => ⟨_, _, _, _, _, _, i, fun e => absurd ce (of_decide_eq_false e), fun _ => ⟨_, _, _, _, _, _, _, _, _, q, by simp only [List.length_append]; omega, rfl, rfl, rfl, rfl, rfl, rfl⟩⟩⟩, fun _ => ⟨_, _, _, _, _, _, i, fun e => absurd ce (of_decide_eq_false e), fun _ => ⟨_, _, _, _, _, _, _, _, _, q, by simp only [List.length_append]; omega, rfl, rfl, rfl, rfl, rfl, rfl⟩⟩⟩, fun e => absurd g0 e⟩), r, fun h0 => by rw [e h0]⟩
      · by_cases c44 : (ab s).text = [44]
        · have hnn := aT (s := s) (.inl (by rw [c44]; decide))
          have lt := cn hnn
          obtain ⟨st1, l1, q1, r1, b1, e1⟩ := bZ (tl := tl) hg hL 0 [] [] [] [44] (by decide) (by decide) hr
          rw [jd c44] at r1 e1
          have f1 : (ac s).failed = 0 := by rw [fe]; exact f0
          have el : l1 = [(ab s).lead] := e1 f1
          subst el
          have g1 : st1.e = 0 := r1.e0.2 f1
          have kb := sw (tl := tl) hg r1
          by_cases hb : ks'.length = most ∧ aA (ab (ac s)) = true
          · obtain ⟨st2, q2, r2⟩ := nm (tl := tl) (e := 3) (by decide) r1
            have d2 := r2.dd (fP (by decide) _)
            have g2 : st2.e ≠ 0 := fun e => d2.1 (r2.e0.1 e)
            have e2 : commaF item most aA (fuel + 1) cs' ks' s = (cs' ++ [(ab s).lead], ks' ++ [(item (aV 3 (ac s))).1], (item (aV 3 (ac s))).2) := by
              rw [commaF, if_pos c44]
              simp only [if_pos hb]
              exact nG _ _ _ ((hid d2).dd d2)
            have sm := (hid d2).tr (bB ((hid d2).dd d2) hen0)
            rw [e2]
            exact ⟨4, .node K X ls ks', st2, (aW 3 _ _ _ _ _ _ _ _ _ _ _ _ _ _ _ _ _ _ ⟨fun _ => ⟨fun _ => ⟨fun hz => absurd hz hkl, fun _ => ⟨_, _, _, _, _, _, i, fun _ => (br 2 _ _ _ _ _ _ _ _ _ _ _ _ _ _ _ _ _ _ ⟨fun _ => ⟨_, _, _, _, _, _, _, _, _, q1, by simp only [List.length_append, List.length_cons, List.length_nil]; omega, (bq 1 _ _ _ _ _ _ _ _ _ _ _ _ _ _ _ _ _ _ ⟨fun _ => ⟨_, _, _, _, _, _, kb, fun _ => ⟨_, _, _, _, _, q2, (bK 0 _ _ _ _ _ _ _ _ _ _ _ _ _ _ _ _ _ _ ⟨fun _ => ⟨rfl, rfl, rfl, rfl, rfl, rfl⟩, fun e => absurd e g2⟩)⟩, fun e => (by rw [hb.2] at e; cases e)⟩, fun e => absurd (by rw [hb.1]) e⟩)⟩, fun e => absurd (show (0 : Int) < ((ks'.length : Nat) : Int) by omega) e⟩), fun e => absurd (of_decide_eq_true e) ce⟩⟩, fun _ => ⟨_, _, _, _, _, _, i, fun _ => (br 2 _ _ _ _ _ _ _ _ _ _ _ _ _ _ _ _ _ _ ⟨fun _ => ⟨_, _, _, _, _, _, _, _, _, q1, by simp only [List.length_append, List.length_cons, List.length_nil]; omega, (bq 1 _ _ _ _ _ _ _ _ _ _ _ _ _ _ _ _ _ _ ⟨fun _ => ⟨_, _, _, _, _, _, kb, fun _ => ⟨_, _, _, _, _, q2, (bK 0 _ _ _ _ _ _ _ _ _ _ _ _ _ _ _ _ _ _ ⟨fun _ => ⟨rfl, rfl, rfl, rfl, rfl, rfl⟩, fun e => absurd e g2⟩)⟩, fun e => (by rw [hb.2] at e; cases e)⟩, fun e => absurd (by rw [hb.1]) e⟩)⟩, fun e => absurd (show (0 : Int) < ((ks'.length : Nat) : Int) by omega) e⟩), fun e => absurd (of_decide_eq_true e) ce⟩⟩, fun e => absurd g0 e⟩), r2.sm d2 sm, fun h0 => absurd (sm.1.symm.trans h0) d2.1⟩
          · obtain ⟨x1, st2, q2, r2, e2⟩ := hE (ac s) st1 (by omega) r1
            have l2 := hEl (ac s)
            have lc : (cs' ++ [(ab s).lead]).length ≤ 1000000000 := by simp only [List.length_append, List.length_cons, List.length_nil]; omega
            have lk : (ks' ++ [Tree.node 0 [] [] []]).length ≤ 1000000000 := by simp only [List.length_append, List.length_cons, List.length_nil]; omega
            have ec : commaF item most aA (fuel + 1) cs' ks' s = commaF item most aA fuel (cs' ++ [(ab s).lead]) (ks' ++ [(item (ac s)).1]) (item (ac s)).2 := by
              rw [commaF, if_pos c44]
              simp only [if_neg hb]
            rw [ec]
            have ih := sH hi X ls hls hen hne most hm fuel
            rcases hi with ⟨rfl, rfl⟩ | ⟨rfl, rfl⟩
            · obtain ⟨M, x, st', Q, r, e⟩ := ih (cy E (ac s)).2 st2 (cs' ++ [(ab s).lead]) (ks' ++ [(.node 17 [] [] [x1])]) (cs' ++ [(ab s).lead]) (ks' ++ [(cy E (ac s)).1]) (by show (E (ac s)).2.toks.length < _; omega) (by show (E (ac s)).2.toks.length ≤ _; omega) r2 (by simp) (by show _ + (E (ac s)).2.toks.length ≤ _; simp only [List.length_append, List.length_cons, List.length_nil]; omega) (by show _ + (E (ac s)).2.toks.length ≤ _; simp only [List.length_append, List.length_cons, List.length_nil]; omega) (fun h0 => ⟨rfl, by rw [e2 h0]; rfl⟩)
              have L4 := (dB M _ _ _ _ _ _ _ _ _ _ _ _ _ _ _ _ _ _ Q)
              have L3 := (bK (M + 1) _ _ _ _ _ _ _ _ _ _ _ _ _ _ _ _ _ _ ⟨fun e => absurd g1 e, fun _ => ⟨_, _, _, _, _, _, q2, fun _ => ⟨lk, _, fR _ _, by rw [fN]; exact L4⟩, fun e => absurd rfl e⟩⟩)
              exact ⟨M + 5, x, st', (aW (M + 4) _ _ _ _ _ _ _ _ _ _ _ _ _ _ _ _ _ _ ⟨fun _ => ⟨fun e => absurd e (by decide), fun _ => ⟨_, _, _, _, _, _, i, fun _ => (br (M + 3) _ _ _ _ _ _ _ _ _ _ _ _ _ _ _ _ _ _ ⟨fun _ => ⟨_, _, _, _, _, _, _, _, _, q1, lc, (bq (M + 2) _ _ _ _ _ _ _ _ _ _ _ _ _ _ _ _ _ _ ⟨fun hl => ⟨_, _, _, _, _, _, kb, fun e => absurd ⟨by omega, e⟩ hb, fun _ => L3⟩, fun _ => L3⟩)⟩, fun e => absurd (show (0 : Int) < ((ks'.length : Nat) : Int) by omega) e⟩), fun e => absurd (of_decide_eq_true e) ce⟩⟩, fun e => absurd g0 e⟩), r, e⟩
            · obtain ⟨M, x, st', Q, r, e⟩ := ih (item (ac s)).2 st2 (cs' ++ [(ab s).lead]) (ks' ++ [x1]) (cs' ++ [(ab s).lead]) (ks' ++ [(item (ac s)).1]) (by omega) (by omega) r2 (by simp) (by simp only [List.length_append, List.length_cons, List.length_nil]; omega) (by simp only [List.length_append, List.length_cons, List.length_nil]; omega) (fun h0 => ⟨rfl, by rw [e2 h0]⟩)
              have L4 := (dB M _ _ _ _ _ _ _ _ _ _ _ _ _ _ _ _ _ _ Q)
              have L3 := (bK (M + 1) _ _ _ _ _ _ _ _ _ _ _ _ _ _ _ _ _ _ ⟨fun e => absurd g1 e, fun _ => ⟨_, _, _, _, _, _, q2, fun e => absurd e (by decide : ¬ (18 : Int) = 16), fun _ => ⟨lk, _, fR _ _, by rw [fN]; exact L4⟩⟩⟩)
              exact ⟨M + 5, x, st', (aW (M + 4) _ _ _ _ _ _ _ _ _ _ _ _ _ _ _ _ _ _ ⟨fun _ => ⟨fun _ => ⟨fun hz => absurd hz hkl, fun _ => ⟨_, _, _, _, _, _, i, fun _ => (br (M + 3) _ _ _ _ _ _ _ _ _ _ _ _ _ _ _ _ _ _ ⟨fun _ => ⟨_, _, _, _, _, _, _, _, _, q1, lc, (bq (M + 2) _ _ _ _ _ _ _ _ _ _ _ _ _ _ _ _ _ _ ⟨fun hl => ⟨_, _, _, _, _, _, kb, fun e => absurd ⟨by omega, e⟩ hb, fun _ => L3⟩, fun _ => L3⟩)⟩, fun e => absurd (show (0 : Int) < ((ks'.length : Nat) : Int) by omega) e⟩), fun e => absurd (of_decide_eq_true e) ce⟩⟩, fun e => absurd rfl e⟩, fun e => absurd g0 e⟩), r, e⟩
        · obtain ⟨st1, l1, q1, r1, b1, e1⟩ := bZ (tl := tl) hg hL 0 [] [] [] [44] (by decide) (by decide) hr
          rw [kJ c44] at r1 e1
          have d1 := r1.dd (fP (by decide) _)
          have g1 : st1.e ≠ 0 := fun e => d1.1 (r1.e0.1 e)
          have kb := sw (tl := tl) hg r1
          rw [fK d1] at kb
          have e2 : commaF item most aA (fuel + 1) cs' ks' s = (cs', ks', s) := by rw [commaF, if_neg c44]
          rw [e2, kJ ce]
          simp only [List.length_nil] at b1
          have L3 : ∀ cc, bP 1 K X ls en most cc (gl L) st1.at_ tl st1.stop st1.e ks' (.node K X ls ks') (gl L) st1.at_ tl st1.stop st1.e := fun cc => (bK 0 _ _ _ _ _ _ _ _ _ _ _ _ _ _ _ _ _ _ ⟨fun _ => ⟨rfl, rfl, rfl, rfl, rfl, rfl⟩, fun e => absurd e g1⟩)
          exact ⟨4, .node K X ls ks', st1, (aW 3 _ _ _ _ _ _ _ _ _ _ _ _ _ _ _ _ _ _ ⟨fun _ => ⟨fun _ => ⟨fun hz => absurd hz hkl, fun _ => ⟨_, _, _, _, _, _, i, fun _ => (br 2 _ _ _ _ _ _ _ _ _ _ _ _ _ _ _ _ _ _ ⟨fun _ => ⟨_, _, _, _, _, _, _, _, _, q1, by simp only [List.length_append]; omega, (bq 1 _ _ _ _ _ _ _ _ _ _ _ _ _ _ _ _ _ _ ⟨fun _ => ⟨_, _, _, _, _, _, kb, fun e => (by cases e), fun _ => L3 _⟩, fun _ => L3 _⟩)⟩, fun e => absurd (show (0 : Int) < ((ks'.length : Nat) : Int) by omega) e⟩), fun e => absurd (of_decide_eq_true e) ce⟩⟩, fun _ => ⟨_, _, _, _, _, _, i, fun _ => (br 2 _ _ _ _ _ _ _ _ _ _ _ _ _ _ _ _ _ _ ⟨fun _ => ⟨_, _, _, _, _, _, _, _, _, q1, by simp only [List.length_append]; omega, (bq 1 _ _ _ _ _ _ _ _ _ _ _ _ _ _ _ _ _ _ ⟨fun _ => ⟨_, _, _, _, _, _, kb, fun e => (by cases e), fun _ => L3 _⟩, fun _ => L3 _⟩)⟩, fun e => absurd (show (0 : Int) < ((ks'.length : Nat) : Int) by omega) e⟩), fun e => absurd (of_decide_eq_true e) ce⟩⟩, fun e => absurd g0 e⟩), r1, fun h0 => absurd h0 d1.1⟩
    · have d := hr.dd f0
      have g0 : st.e ≠ 0 := fun e => f0 (hr.e0.1 e)
      obtain ⟨st', l', q, r, b, e⟩ := bZ (tl := tl) hg hL K X ls ks' en (.inr hen) (by omega) hr
      have sm := bB d hen0
      rw [nG _ _ _ d]
      exact ⟨1, .node K X (l' ++ cs') ks', st', (aW 0 _ _ _ _ _ _ _ _ _ _ _ _ _ _ _ _ _ _ ⟨fun e => absurd e g0, fun _ => ⟨_, _, _, _, _, _, _, _, _, q, by simp only [List.length_append]; omega, rfl, rfl, rfl, rfl, rfl, rfl⟩⟩), r, fun h0 => absurd (sm.1.symm.trans h0) d.1⟩
theorem zg (X : List UInt8) (ls : List (List UInt8)) (hls : ls.length ≤ 5) (s : PS) (st : RS) (hn : s.toks.length < n) (hn2 : n ≤ 1000000) (hr : Rl L sz s st) :
    ∃ (x : Tree) (st' : RS), co (gl L) st.at_ tl st.stop st.e 16 X ls [] [41] 8 x (gl L) st'.at_ tl st'.stop st'.e ∧ Rl L sz (ai [41] (cJ (cy E) 8 aA s).2.2).2 st' ∧
      ((ai [41] (cJ (cy E) 8 aA s).2.2).2.failed = 0 → x = .node 16 X (ls ++ [(ai [41] (cJ (cy E) 8 aA s).2.2).1] ++ (cJ (cy E) 8 aA s).1) (cJ (cy E) 8 aA s).2.1) := by
  have hid : ∀ {s : PS}, Dd s → Sm s (cy E s).2 := fun d => hEd d
  by_cases f0 : s.failed = 0
  · have g0 : st.e = 0 := hr.e0.2 f0
    have i := kG (tl := tl) hg [41] (by decide) hr
    by_cases ce : (ab s).text = [41]
    · have e1 : cJ (cy E) 8 aA s = ([], [], s) := by rw [cJ, if_pos ce]
      obtain ⟨st', l', q, r, b, e⟩ := bZ (tl := tl) hg hL 16 X ls [] [41] (by decide) (by omega) hr
      rw [e1]
      refine ⟨.node 16 X (l' ++ []) [], st', (dI 1 _ _ _ _ _ _ _ _ _ _ _ _ _ _ _ _ _ (aW 0 _ _ _ _ _ _ _ _ _ _ _ _ _ _ _ _ _ _ ⟨fun _ => ⟨fun e => absurd e (by decide), fun _ => ⟨_, _, _, _, _, _, i, fun e => absurd ce (of_decide_eq_false e), fun _ => ⟨_, _, _, _, _, _, _, _, _, q, by simp only [List.length_append, List.length_nil]; omega, rfl, rfl, rfl, rfl, rfl, rfl⟩⟩⟩, fun e => absurd g0 e⟩)), r, fun h0 => by rw [e h0]⟩
    · obtain ⟨x1, st2, q2, r2, e2⟩ := hE s st hn hr
      have l2 := hEl s
      have ec : cJ (cy E) 8 aA s = commaF (cy E) 8 aA ((cy E s).2.toks.length + 1) [] [(cy E s).1] (cy E s).2 := by rw [cJ, if_neg ce]
      obtain ⟨M, x, st', Q, r, e⟩ := sH hg hL hE hEd hEl (.inl ⟨rfl, rfl⟩) X ls hls (en := [41]) (by decide) (by decide) 8 (by decide) ((cy E s).2.toks.length + 1) (cy E s).2 st2 [] [.node 17 [] [] [x1]] [] [(cy E s).1] (by omega) (by show (E s).2.toks.length ≤ _; omega) r2 (by simp) (by show _ + (E s).2.toks.length ≤ _; simp only [List.length_cons, List.length_nil]; omega) (by show _ + (E s).2.toks.length ≤ _; simp only [List.length_nil]; omega) (fun h0 => ⟨rfl, by rw [e2 h0]; rfl⟩)
      rw [← ec] at r e
      have L3 : bP (M + 2) 16 X ls [41] 8 [] (gl L) st.at_ tl st.stop st.e [] x (gl L) st'.at_ tl st'.stop st'.e := (bK (M + 1) _ _ _ _ _ _ _ _ _ _ _ _ _ _ _ _ _ _ ⟨fun e => absurd g0 e, fun _ => ⟨_, _, _, _, _, _, q2, fun _ => ⟨by decide, _, rfl, (dB M _ _ _ _ _ _ _ _ _ _ _ _ _ _ _ _ _ _ Q)⟩, fun e => absurd rfl e⟩⟩)
      exact ⟨x, st', (dI (M + 5) _ _ _ _ _ _ _ _ _ _ _ _ _ _ _ _ _ (aW (M + 4) _ _ _ _ _ _ _ _ _ _ _ _ _ _ _ _ _ _ ⟨fun _ => ⟨fun e => absurd e (by decide), fun _ => ⟨_, _, _, _, _, _, i, fun _ => (br (M + 3) _ _ _ _ _ _ _ _ _ _ _ _ _ _ _ _ _ _ ⟨fun e => absurd e (by decide), fun _ => (bq (M + 2) _ _ _ _ _ _ _ _ _ _ _ _ _ _ _ _ _ _ ⟨fun e => absurd e (by decide), fun _ => L3⟩)⟩), fun e => absurd (of_decide_eq_true e) ce⟩⟩, fun e => absurd g0 e⟩)), r, e⟩
  · have d := hr.dd f0
    have g0 : st.e ≠ 0 := fun e => f0 (hr.e0.1 e)
    obtain ⟨st', l', q, r, b, e⟩ := bZ (tl := tl) hg hL 16 X ls [] [41] (by decide) (by omega) hr
    have sm := mi (item := cy E) (most := 8) (beg := aA) hid d
    have sm2 := sm.tr (bB (sm.dd d) (x := [41]) (by decide))
    have sm3 := bB d (x := [41]) (by decide)
    have r' : Rl L sz (ai [41] (cJ (cy E) 8 aA s).2.2).2 st' := r.sm (sm3.dd d) ⟨sm2.1.trans sm3.1.symm, sm2.2.1.trans sm3.2.1.symm, sm2.2.2⟩
    exact ⟨.node 16 X (l' ++ []) [], st', (dI 1 _ _ _ _ _ _ _ _ _ _ _ _ _ _ _ _ _ (aW 0 _ _ _ _ _ _ _ _ _ _ _ _ _ _ _ _ _ _ ⟨fun e => absurd e g0, fun _ => ⟨_, _, _, _, _, _, _, _, _, q, by simp only [List.length_append, List.length_nil]; omega, rfl, rfl, rfl, rfl, rfl, rfl⟩⟩)), r', fun h0 => absurd (sm2.1.symm.trans h0) d.1⟩
theorem yv (ls : List (List UInt8)) (hls : ls.length ≤ 5) (s : PS) (st : RS) (hn : s.toks.length < n) (hn2 : n ≤ 1000000) (f0 : s.failed = 0) (hr : Rl L sz s st) :
    ∃ (x : Tree) (st' : RS), co (gl L) st.at_ tl st.stop st.e 18 [] ls [] [93] 16 x (gl L) st'.at_ tl st'.stop st'.e ∧ Rl L sz (ai [93] (commaF E 16 aA ((E s).2.toks.length + 1) [] [(E s).1] (E s).2).2.2).2 st' ∧
      ((ai [93] (commaF E 16 aA ((E s).2.toks.length + 1) [] [(E s).1] (E s).2).2.2).2.failed = 0 → x = .node 18 [] (ls ++ [(ai [93] (commaF E 16 aA ((E s).2.toks.length + 1) [] [(E s).1] (E s).2).2.2).1] ++ (commaF E 16 aA ((E s).2.toks.length + 1) [] [(E s).1] (E s).2).1) (commaF E 16 aA ((E s).2.toks.length + 1) [] [(E s).1] (E s).2).2.1) := by
  have g0 : st.e = 0 := hr.e0.2 f0
  obtain ⟨x1, st2, q2, r2, e2⟩ := hE s st hn hr
  have l2 := hEl s
  obtain ⟨M, x, st', Q, r, e⟩ := sH hg hL hE hEd hEl (.inr ⟨rfl, rfl⟩) [] ls hls (en := [93]) (by decide) (by decide) 16 (by decide) ((E s).2.toks.length + 1) (E s).2 st2 [] [x1] [] [(E s).1] (by omega) (by omega) r2 (by simp) (by simp only [List.length_cons, List.length_nil]; omega) (by simp only [List.length_nil]; omega) (fun h0 => ⟨rfl, by rw [e2 h0]⟩)
  have L3 : bP (M + 2) 18 [] ls [93] 16 [] (gl L) st.at_ tl st.stop st.e [] x (gl L) st'.at_ tl st'.stop st'.e := (bK (M + 1) _ _ _ _ _ _ _ _ _ _ _ _ _ _ _ _ _ _ ⟨fun e => absurd g0 e, fun _ => ⟨_, _, _, _, _, _, q2, fun e => absurd e (by decide), fun _ => ⟨by decide, _, rfl, (dB M _ _ _ _ _ _ _ _ _ _ _ _ _ _ _ _ _ _ Q)⟩⟩⟩)
  exact ⟨x, st', (dI (M + 5) _ _ _ _ _ _ _ _ _ _ _ _ _ _ _ _ _ (aW (M + 4) _ _ _ _ _ _ _ _ _ _ _ _ _ _ _ _ _ _ ⟨fun _ => ⟨fun _ => ⟨fun _ => (br (M + 3) _ _ _ _ _ _ _ _ _ _ _ _ _ _ _ _ _ _ ⟨fun e => absurd e (by decide), fun _ => (bq (M + 2) _ _ _ _ _ _ _ _ _ _ _ _ _ _ _ _ _ _ ⟨fun e => absurd e (by decide), fun _ => L3⟩)⟩), fun e => absurd rfl e⟩, fun e => absurd rfl e⟩, fun e => absurd g0 e⟩)), r, e⟩
theorem vQ (hn2 : n ≤ 1000000) (s : PS) (st : RS) (hn : s.toks.length ≤ n) (hr : Rl L sz s st) : Ar L tl sz dX st (aP E s) := by
 have i := fun x hx => kG (tl := tl) hg x hx hr
 have k := lq (tl := tl) hr
 by_cases a5 : (ab s).kind = 5
 ·have nx : ∀ x, (bm x = 7 ∨ bm x = 8) → ¬ (ab s).text = x := fun x hx e => by
   have := hr.kx hg hx e
   omega
  have e : aP E s = (.node 10 (ab s).text [(ab s).lead] [], ac s) := by
   dsimp only [aP]
   rw [if_neg (by omega), if_neg (nx _ (by decide)), if_neg (nx _ (by decide)), if_neg (nx _ (by decide)), if_neg (nx _ (by decide)), if_neg (nx _ (by decide)), if_pos a5]
  have a2 := nt (o := 5) a5 (by decide)
  obtain ⟨st', X, ls, q, r, b, e'⟩ := jx (tl := tl) hL 10 [] [] [] 5 (by decide) (by decide) hr
  rw [a2] at r e'
  rw [e]
  exact ⟨_, st', (bf 0 _ _ _ _ _ _ _ _ _ _ _ ⟨_, _, _, _, _, _, k, fun _ => ⟨_, _, _, _, _, _, _, _, _, q, rfl, rfl, rfl, rfl, rfl, rfl⟩, fun e => absurd a5 e⟩), r, fun h0 => by rw [(e' h0).1, (e' h0).2]; rfl⟩
 by_cases a6 : (ab s).kind = 6
 ·have nx : ∀ x, (bm x = 7 ∨ bm x = 8) → ¬ (ab s).text = x := fun x hx e => by
   have := hr.kx hg hx e
   omega
  have e : aP E s = (.node 11 (ab s).text [(ab s).lead] [], ac s) := by
   dsimp only [aP]
   rw [if_neg (by omega), if_neg (nx _ (by decide)), if_neg (nx _ (by decide)), if_neg (nx _ (by decide)), if_neg (nx _ (by decide)), if_neg (nx _ (by decide)), if_neg a5, if_pos a6]
  have a2 := nt (o := 6) a6 (by decide)
  obtain ⟨st', X, ls, q, r, b, e'⟩ := jx (tl := tl) hL 11 [] [] [] 6 (by decide) (by decide) hr
  rw [a2] at r e'
  rw [e]
  exact ⟨_, st', (bf 0 _ _ _ _ _ _ _ _ _ _ _ ⟨_, _, _, _, _, _, k, fun e => absurd e a5, fun _ => ⟨_, _, _, _, _, _, k, fun _ => ⟨_, _, _, _, _, _, _, _, _, q, rfl, rfl, rfl, rfl, rfl, rfl⟩, fun e => absurd a6 e⟩⟩), r, fun h0 => by rw [(e' h0).1, (e' h0).2]; rfl⟩
 by_cases cT : (ab s).text = gD
 ·have k78 := hr.kx hg (x := gD) (by decide) cT
  have e : aP E s = (.node 13 [] [(ab s).lead] [], ac s) := by
   dsimp only [aP]
   rw [if_neg (by omega), if_pos cT]
  obtain ⟨st', q, r⟩ := no (tl := tl) hL 13 (aT (.inl (by rw [cT]; decide))) hr
  rw [e]
  exact ⟨_, st', (bf 0 _ _ _ _ _ _ _ _ _ _ _ ⟨_, _, _, _, _, _, k, fun e => absurd e a5, fun _ => ⟨_, _, _, _, _, _, k, fun e => absurd e a6, fun _ => ⟨_, _, _, _, _, _, i gD (by decide), fun _ => ⟨_, _, _, _, _, _, q, rfl, rfl, rfl, rfl, rfl, rfl⟩, fun e => absurd cT (of_decide_eq_false e)⟩⟩⟩), r, fun _ => rfl⟩
 by_cases cF : (ab s).text = fM
 ·have k78 := hr.kx hg (x := fM) (by decide) cF
  have e : aP E s = (.node 14 [] [(ab s).lead] [], ac s) := by
   dsimp only [aP]
   rw [if_neg (by omega), if_neg cT, if_pos cF]
  obtain ⟨st', q, r⟩ := no (tl := tl) hL 14 (aT (.inl (by rw [cF]; decide))) hr
  rw [e]
  exact ⟨_, st', (bf 0 _ _ _ _ _ _ _ _ _ _ _ ⟨_, _, _, _, _, _, k, fun e => absurd e a5, fun _ => ⟨_, _, _, _, _, _, k, fun e => absurd e a6, fun _ => ⟨_, _, _, _, _, _, i gD (by decide), fun e => absurd (of_decide_eq_true e) cT, fun _ => ⟨_, _, _, _, _, _, i fM (by decide), fun _ => ⟨_, _, _, _, _, _, q, rfl, rfl, rfl, rfl, rfl, rfl⟩, fun e => absurd cF (of_decide_eq_false e)⟩⟩⟩⟩), r, fun _ => rfl⟩
 by_cases cH : (ab s).text = [63]
 ·have k78 := hr.kx hg (x := [63]) (by decide) cH
  have e : aP E s = (.node 15 [] [(ab s).lead] [], ac s) := by
   dsimp only [aP]
   rw [if_neg (by omega), if_neg cT, if_neg cF, if_pos cH]
  obtain ⟨st', q, r⟩ := no (tl := tl) hL 15 (aT (.inl (by rw [cH]; decide))) hr
  rw [e]
  exact ⟨_, st', (bf 0 _ _ _ _ _ _ _ _ _ _ _ ⟨_, _, _, _, _, _, k, fun e => absurd e a5, fun _ => ⟨_, _, _, _, _, _, k, fun e => absurd e a6, fun _ => ⟨_, _, _, _, _, _, i gD (by decide), fun e => absurd (of_decide_eq_true e) cT, fun _ => ⟨_, _, _, _, _, _, i fM (by decide), fun e => absurd (of_decide_eq_true e) cF, fun _ => ⟨_, _, _, _, _, _, i [63] (by decide), fun _ => ⟨_, _, _, _, _, _, q, rfl, rfl, rfl, rfl, rfl, rfl⟩, fun e => absurd cH (of_decide_eq_false e)⟩⟩⟩⟩⟩), r, fun _ => rfl⟩
 by_cases cP : (ab s).text = [40]
 ·have hnn := aT (s := s) (.inl (by rw [cP]; decide))
  have f0 := hr.f0 hnn
  have k78 := hr.kx hg (x := [40]) (by decide) cP
  have cL : ¬ (ab s).text = [91] := fun e => by rw [cP] at e; cases e
  have lt := cn hnn
  have e : aP E s = qx E s := by
   dsimp only [aP]
   rw [if_neg (by omega), if_neg cT, if_neg cF, if_neg cH, if_neg cL, if_pos cP]
  obtain ⟨st1, l1, q1, r1, b1, e1⟩ := bZ (tl := tl) hg hL 22 [] [] [] [40] (by decide) (by decide) hr
  rw [jd cP] at r1 e1
  have f1 : (ac s).failed = 0 := by rw [fe]; exact f0
  obtain ⟨x2, st2, q2, r2, e2⟩ := hE (ac s) st1 (by omega) r1
  simp only [List.length_nil] at b1
  obtain ⟨st3, l3, q3, r3, b3, e3⟩ := bZ (tl := tl) hg hL 22 [] l1 [x2] [41] (by decide) (by omega) r2
  rw [e]
  refine ⟨.node 22 [] l3 [x2], st3, (bf 1 _ _ _ _ _ _ _ _ _ _ _ ⟨_, _, _, _, _, _, k, fun e => absurd e a5, fun _ => ⟨_, _, _, _, _, _, k, fun e => absurd e a6, fun _ => ⟨_, _, _, _, _, _, i gD (by decide), fun e => absurd (of_decide_eq_true e) cT, fun _ => ⟨_, _, _, _, _, _, i fM (by decide), fun e => absurd (of_decide_eq_true e) cF, fun _ => ⟨_, _, _, _, _, _, i [63] (by decide), fun e => absurd (of_decide_eq_true e) cH, fun _ => ⟨_, _, _, _, _, _, i [40] (by decide), fun _ => ⟨_, _, _, _, _, _, _, _, _, q1, _, _, _, _, _, _, q2, Nat.le_of_ble_eq_true rfl, _, rfl, (ly 0 _ _ _ _ _ _ _ _ _ _ _ _ _ _ _ _ ⟨_, _, _, _, _, _, _, _, _, q3, rfl, rfl, rfl, rfl, rfl, rfl⟩)⟩, fun e => absurd cP (of_decide_eq_false e)⟩⟩⟩⟩⟩⟩), r3, fun h0 => ?_⟩
  have f2 := r2.up (fun d => bB d (x := [41]) (by decide)) h0
  rw [e3 h0, e1 f1, e2 f2]
  rfl
 by_cases cL : (ab s).text = [91]
 ·have hnn := aT (s := s) (.inl (by rw [cL]; decide))
  have f0 := hr.f0 hnn
  have k78 := hr.kx hg (x := [91]) (by decide) cL
  have lt := cn hnn
  have e : aP E s = mJ E s := by
   dsimp only [aP]
   rw [if_neg (by omega), if_neg cT, if_neg cF, if_neg cH, if_pos cL]
  have e' : mJ E s = (.node 18 [] ([(ab s).lead, (ai [93] (commaF E 16 aA ((E (ac s)).2.toks.length + 1) [] [(E (ac s)).1] (E (ac s)).2).2.2).1] ++ (commaF E 16 aA ((E (ac s)).2.toks.length + 1) [] [(E (ac s)).1] (E (ac s)).2).1) (commaF E 16 aA ((E (ac s)).2.toks.length + 1) [] [(E (ac s)).1] (E (ac s)).2).2.1, (ai [93] (commaF E 16 aA ((E (ac s)).2.toks.length + 1) [] [(E (ac s)).1] (E (ac s)).2).2.2).2) := by
   unfold mJ
   rw [jd cL]
  obtain ⟨st1, l1, q1, r1, b1, e1⟩ := bZ (tl := tl) hg hL 18 [] [] [] [91] (by decide) (by decide) hr
  rw [jd cL] at r1 e1
  have f1 : (ac s).failed = 0 := by rw [fe]; exact f0
  simp only [List.length_nil] at b1
  obtain ⟨x2, st2, q2, r2, e2⟩ := yv hg hL hE hEd hEl l1 (by omega) (ac s) st1 (by omega) hn2 f1 r1
  rw [e, e']
  refine ⟨x2, st2, (bf 1 _ _ _ _ _ _ _ _ _ _ _ ⟨_, _, _, _, _, _, k, fun e => absurd e a5, fun _ => ⟨_, _, _, _, _, _, k, fun e => absurd e a6, fun _ => ⟨_, _, _, _, _, _, i gD (by decide), fun e => absurd (of_decide_eq_true e) cT, fun _ => ⟨_, _, _, _, _, _, i fM (by decide), fun e => absurd (of_decide_eq_true e) cF, fun _ => ⟨_, _, _, _, _, _, i [63] (by decide), fun e => absurd (of_decide_eq_true e) cH, fun _ => ⟨_, _, _, _, _, _, i [40] (by decide), fun e => absurd (of_decide_eq_true e) cP, fun _ => ⟨_, _, _, _, _, _, i [91] (by decide), fun _ => ⟨_, _, _, _, _, _, _, _, _, q1, _, _, _, _, _, _, q2, rfl, rfl, rfl, rfl, rfl, rfl⟩, fun e => absurd cL (of_decide_eq_false e)⟩⟩⟩⟩⟩⟩⟩), r2, fun h0 => ?_⟩
  rw [e2 h0, e1 f1]
  rfl
 by_cases a13 : (ab s).kind = 1 ∨ (ab s).kind = 3
 ·have hnn := aT (s := s) (.inr (by omega))
  have f0 := hr.f0 hnn
  have lt := cn hnn
  have e : aP E s = jb E s := by
   dsimp only [aP]
   rw [if_pos a13]
  obtain ⟨st1, X, l1, q1, r1, b1, e1⟩ := jx (tl := tl) hL 12 [] [] [] (ab s).kind (by omega) (by decide) hr
  rw [nt rfl (by omega)] at r1 e1
  have f1 : (ac s).failed = 0 := by rw [fe]; exact f0
  obtain ⟨rfl, rfl⟩ := e1 f1
  have i1 := kG (tl := tl) hg [40] (by decide) r1
  have l40 := aw [40] (ac s)
  obtain ⟨st2, l2, q2, r2, b2, e2⟩ := bZ (tl := tl) hg hL 16 (ab s).text ([] ++ [(ab s).lead]) [] [40] (by decide) (by simp) r1
  simp only [List.length_append, List.length_cons, List.length_nil] at b2
  obtain ⟨x3, st3, q3, r3, e3⟩ := zg hg hL hE hEd hEl (ab s).text l2 (by omega) (ai [40] (ac s)).2 st2 (by omega) hn2 r2
  rw [e]
  suffices go : ∃ (x : Tree) (st' : RS), cX 1 (gl L) st.at_ tl st.stop st.e true x (gl L) st'.at_ tl st'.stop st'.e ∧ Rl L sz (jb E s).2 st' ∧ ((jb E s).2.failed = 0 → x = (jb E s).1) by
   obtain ⟨x, st', Q, r, e⟩ := go
   by_cases a1 : (ab s).kind = 1
   ·exact ⟨x, st', (bf 1 _ _ _ _ _ _ _ _ _ _ _ ⟨_, _, _, _, _, _, k, fun e => absurd e a5, fun _ => ⟨_, _, _, _, _, _, k, fun e => absurd e a6, fun _ => ⟨_, _, _, _, _, _, i gD (by decide), fun e => absurd (of_decide_eq_true e) cT, fun _ => ⟨_, _, _, _, _, _, i fM (by decide), fun e => absurd (of_decide_eq_true e) cF, fun _ => ⟨_, _, _, _, _, _, i [63] (by decide), fun e => absurd (of_decide_eq_true e) cH, fun _ => ⟨_, _, _, _, _, _, i [40] (by decide), fun e => absurd (of_decide_eq_true e) cP, fun _ => ⟨_, _, _, _, _, _, i [91] (by decide), fun e => absurd (of_decide_eq_true e) cL, fun _ => ⟨_, _, _, _, _, _, k, fun _ => Q, fun e => absurd a1 e⟩⟩⟩⟩⟩⟩⟩⟩), r, e⟩
   ·have a3 : (ab s).kind = 3 := by omega
    have hb : ((ab s).kind == 3) = true := by rw [a3]; rfl
    exact ⟨x, st', (bf 1 _ _ _ _ _ _ _ _ _ _ _ ⟨_, _, _, _, _, _, k, fun e => absurd e a5, fun _ => ⟨_, _, _, _, _, _, k, fun e => absurd e a6, fun _ => ⟨_, _, _, _, _, _, i gD (by decide), fun e => absurd (of_decide_eq_true e) cT, fun _ => ⟨_, _, _, _, _, _, i fM (by decide), fun e => absurd (of_decide_eq_true e) cF, fun _ => ⟨_, _, _, _, _, _, i [63] (by decide), fun e => absurd (of_decide_eq_true e) cH, fun _ => ⟨_, _, _, _, _, _, i [40] (by decide), fun e => absurd (of_decide_eq_true e) cP, fun _ => ⟨_, _, _, _, _, _, i [91] (by decide), fun e => absurd (of_decide_eq_true e) cL, fun _ => ⟨_, _, _, _, _, _, k, fun e => absurd e a1, fun _ => ⟨_, _, _, _, _, _, k, by rw [hb]; exact Q⟩⟩⟩⟩⟩⟩⟩⟩⟩), r, e⟩
  by_cases cv : (ab s).kind = 1 ∧ ¬ (ab (ac s)).text = [40]
  ·have eu : jb E s = (.node 12 (ab s).text [(ab s).lead] [], ac s) := by rw [jb, if_pos cv]
   rw [eu]
   exact ⟨.node 12 (ab s).text ([] ++ [(ab s).lead]) [], st1, (fc 0 _ _ _ _ _ _ _ _ _ _ _ _ ⟨fun _ => ⟨_, _, _, _, _, _, k, _, _, _, _, _, _, _, _, _, q1, fun _ => ⟨_, _, _, _, _, _, i1, fun _ => ⟨rfl, rfl, rfl, rfl, rfl, rfl⟩, fun e => absurd (of_decide_eq_true e) cv.2⟩, fun e => absurd cv.1 e⟩, fun e => (by cases e)⟩), r1, fun _ => rfl⟩
  ·have eu : jb E s = (.node 16 (ab s).text ([(ab s).lead, (ai [40] (ac s)).1, (ai [41] (cJ (cy E) 8 aA (ai [40] (ac s)).2).2.2).1] ++ (cJ (cy E) 8 aA (ai [40] (ac s)).2).1) (cJ (cy E) 8 aA (ai [40] (ac s)).2).2.1, (ai [41] (cJ (cy E) 8 aA (ai [40] (ac s)).2).2.2).2) := by rw [jb, if_neg cv]
   rw [eu]
   refine ⟨x3, st3, (fc 0 _ _ _ _ _ _ _ _ _ _ _ _ ⟨fun _ => ⟨_, _, _, _, _, _, k, _, _, _, _, _, _, _, _, _, q1, fun h1 => ⟨_, _, _, _, _, _, i1, fun e => absurd ⟨h1, of_decide_eq_false e⟩ cv, fun _ => ⟨_, _, _, _, _, _, _, _, _, q2, _, _, _, _, _, _, q3, rfl, rfl, rfl, rfl, rfl, rfl⟩⟩, fun _ => ⟨_, _, _, _, _, _, _, _, _, q2, _, _, _, _, _, _, q3, rfl, rfl, rfl, rfl, rfl, rfl⟩⟩, fun e => (by cases e)⟩), r3, fun h0 => ?_⟩
   have f2 : (ai [40] (ac s)).2.failed = 0 := r2.up (fun d => (mi (item := cy E) (most := 8) (beg := aA) (fun d => hEd d) d).tr (bB ((mi (item := cy E) (most := 8) (beg := aA) (fun d => hEd d) d).dd d) (x := [41]) (by decide))) h0
   rw [e3 h0, e2 f2]
   rfl
 ·have hb : ((ab s).kind == 3) = false := beq_eq_false_iff_ne.2 (by omega)
  have e : aP E s = (dh, aV 2 s) := by
   dsimp only [aP]
   rw [if_neg a13, if_neg cT, if_neg cF, if_neg cH, if_neg cL, if_neg cP, if_neg a5, if_neg a6]
  obtain ⟨st', q, r⟩ := nm (tl := tl) (e := 2) (by decide) hr
  rw [e]
  have Q : cX 1 (gl L) st.at_ tl st.stop st.e false dh (gl L) st'.at_ tl st'.stop st'.e := (fc 0 _ _ _ _ _ _ _ _ _ _ _ _ ⟨fun e => (by cases e), fun _ => ⟨_, _, _, _, _, q, rfl, rfl, rfl, rfl, rfl, rfl⟩⟩)
  exact ⟨dh, st', (bf 1 _ _ _ _ _ _ _ _ _ _ _ ⟨_, _, _, _, _, _, k, fun e => absurd e a5, fun _ => ⟨_, _, _, _, _, _, k, fun e => absurd e a6, fun _ => ⟨_, _, _, _, _, _, i gD (by decide), fun e => absurd (of_decide_eq_true e) cT, fun _ => ⟨_, _, _, _, _, _, i fM (by decide), fun e => absurd (of_decide_eq_true e) cF, fun _ => ⟨_, _, _, _, _, _, i [63] (by decide), fun e => absurd (of_decide_eq_true e) cH, fun _ => ⟨_, _, _, _, _, _, i [40] (by decide), fun e => absurd (of_decide_eq_true e) cP, fun _ => ⟨_, _, _, _, _, _, i [91] (by decide), fun e => absurd (of_decide_eq_true e) cL, fun _ => ⟨_, _, _, _, _, _, k, fun e => absurd (.inl e) a13, fun _ => ⟨_, _, _, _, _, _, k, by rw [hb]; exact Q⟩⟩⟩⟩⟩⟩⟩⟩⟩), r, fun h0 => absurd h0 (fP (by decide) s)⟩
theorem yb (hn2 : n ≤ 1000000) : ∀ (fuel : Nat) (s : PS) (st : RS) (t' t : Tree), s.toks.length < fuel → s.toks.length ≤ n → Rl L sz s st → (s.failed = 0 → t' = t) →
  ∃ (M : Nat) (x : Tree) (st' : RS), dN M (gl L) st.at_ tl st.stop st.e t' x (gl L) st'.at_ tl st'.stop st'.e ∧ Rl L sz (ff (aP E) fuel t s).2 st' ∧ ((ff (aP E) fuel t s).2.failed = 0 → x = (ff (aP E) fuel t s).1)
 | 0, s, st, t', t, h, _, _, _ => by omega
 | fuel + 1, s, st, t', t, h, hn, hr, ht => by
  have k := lq (tl := tl) hr
  have good := hr.good hg
  by_cases c : mY (ab s).text = true
  ·have c8 := AU c
   have k8 : (ab s).kind = 8 := by omega
   have hnn := aT (s := s) (.inr (by omega))
   have lt := cn hnn
   obtain rfl := ht (hr.f0 hnn)
   obtain ⟨st1, q1, r1⟩ := qt (tl := tl) hL hnn hr
   obtain ⟨x2, st2, q2, r2, e2⟩ := vQ hg hL hE hEd hEl hn2 (ac s) st1 (by omega) r1
   have l2 := jM hEl (ac s)
   obtain ⟨M, x, st', Q, r, e⟩ := yb hn2 fuel (aP E (ac s)).2 st2 (.node 21 (ab s).text [(ab s).lead] [t', x2]) (.node 21 (ab s).text [(ab s).lead] [t', (aP E (ac s)).1]) (by omega) (by omega) r2 (fun h0 => by rw [e2 h0])
   have eb : ff (aP E) (fuel + 1) t' s = ff (aP E) fuel (.node 21 (ab s).text [(ab s).lead] [t', (aP E (ac s)).1]) (aP E (ac s)).2 := by rw [ff, if_pos c]
   rw [eb]
   obtain ⟨j, lv, rfl⟩ := hr.lv hnn
   obtain ⟨hj, _⟩ := lv.get hnn
   exact ⟨M + 3, x, st', (fg (M + 2) _ _ _ _ _ _ _ _ _ _ _ _ ⟨_, _, _, _, _, _, k, fun _ => ⟨j, rfl, _, iW hj, _, qo _, (hU (M + 1) _ _ _ _ _ _ _ _ _ _ _ _ _ ⟨fun _ => ⟨_, _, _, _, _, _, q1, _, _, _, _, _, _, q2, (lx M _ _ _ _ _ _ _ _ _ _ _ _ _ Q)⟩, fun e => absurd (c.symm.trans e) (by decide)⟩)⟩, fun e => absurd k8 e⟩), r, e⟩
  ·have eb : ff (aP E) (fuel + 1) t s = (t, s) := by rw [ff, if_neg c]
   rw [eb]
   by_cases k8 : (ab s).kind = 8
   ·have hnn := aT (s := s) (.inr (by omega))
    obtain ⟨j, lv, rfl⟩ := hr.lv hnn
    obtain ⟨hj, _⟩ := lv.get hnn
    exact ⟨2, t', _, (fg 1 _ _ _ _ _ _ _ _ _ _ _ _ ⟨_, _, _, _, _, _, k, fun _ => ⟨j, rfl, _, iW hj, _, qo _, (hU 0 _ _ _ _ _ _ _ _ _ _ _ _ _ ⟨fun e => absurd e c, fun _ => ⟨rfl, rfl, rfl, rfl, rfl, rfl⟩⟩)⟩, fun e => absurd k8 e⟩), hr, ht⟩
   ·exact ⟨1, t', _, (fg 0 _ _ _ _ _ _ _ _ _ _ _ _ ⟨_, _, _, _, _, _, k, fun e => absurd e k8, fun _ => ⟨rfl, rfl, rfl, rfl, rfl, rfl⟩⟩), hr, ht⟩
omit hEl in
theorem wG (w : List UInt8) (hw : bm w = 7 ∨ bm w = 8) (hw0 : w ≠ []) (i : Nat) (hi : i < 3) (hwi : ([[105, 102], [116, 104, 101, 110], [101, 108, 115, 101]] : List (List UInt8))[i]? = some w) (s : PS) (st : RS) (ls : List (List UInt8)) (ks : List Tree) (hls : ls.length ≤ 5) (hks : ks.length ≤ 5) (f0 : s.failed = 0) (hn : (ai w s).2.toks.length < n) (hr : Rl L sz s st) :
    ∃ (l1 : List (List UInt8)) (x2 : Tree) (st2 : RS), Rl L sz (E (ai w s).2).2 st2 ∧ l1.length ≤ ls.length + 1 ∧ ((E (ai w s).2).2.failed = 0 → l1 = ls ++ [(ai w s).1] ∧ x2 = (E (ai w s).2).1) ∧
      ((E (ai w s).2).2.failed ≠ 0 → ∃ x, be 3 (gl L) st.at_ tl st.stop st.e 19 [] ls ks i x (gl L) st2.at_ tl st2.stop st2.e) ∧
      ((E (ai w s).2).2.failed = 0 → ∀ (M : Nat) (x : Tree) (st' : RS), be M (gl L) st2.at_ tl st2.stop st2.e 19 [] l1 (ks ++ [x2]) (i + 1) x (gl L) st'.at_ tl st'.stop st'.e → be (M + 2) (gl L) st.at_ tl st.stop st.e 19 [] ls ks i x (gl L) st'.at_ tl st'.stop st'.e) := by
  have g0 : st.e = 0 := hr.e0.2 f0
  have hi3 : ((i : Nat) : Int) < 3 := by omega
  have hi9 : i + 1 ≤ 9223372036854775807 := by omega
  obtain ⟨st1, l1, q1, r1, b1, e1⟩ := bZ (tl := tl) hg hL 19 [] ls ks w hw (by omega) hr
  have lk : (ks ++ [Tree.node 0 [] [] []]).length ≤ 1000000000 := by simp only [List.length_append, List.length_cons, List.length_nil]; omega
  by_cases f1 : (ai w s).2.failed = 0
  · have g1 : st1.e = 0 := r1.e0.2 f1
    obtain ⟨x2, st2, q2, r2, e2⟩ := hE (ai w s).2 st1 hn r1
    have main : ∀ (M : Nat) (x : Tree) (st' : RS), be M (gl L) st2.at_ tl st2.stop st2.e 19 [] l1 (ks ++ [x2]) (i + 1) x (gl L) st'.at_ tl st'.stop st'.e → be (M + 2) (gl L) st.at_ tl st.stop st.e 19 [] ls ks i x (gl L) st'.at_ tl st'.stop st'.e := fun M x st' Q => (cV (M + 1) _ _ _ _ _ _ _ _ _ _ _ _ _ _ _ _ ⟨fun _ => ⟨fun _ => ⟨w, hwi, _, _, _, _, _, _, _, _, _, q1, fun _ => ⟨_, _, _, _, _, _, q2, lk, _, fR _ _, by rw [fN]; exact (lC M _ _ _ _ _ _ _ _ _ _ _ _ _ _ _ _ ⟨hi9, Q⟩)⟩, fun e => absurd g1 e⟩, fun e => absurd g0 e⟩, fun e => absurd hi3 e⟩)
    refine ⟨l1, x2, st2, r2, b1, fun h0 => ⟨e1 f1, e2 h0⟩, fun h0 => ?_, fun _ => main⟩
    have g2 : st2.e ≠ 0 := fun e => h0 (r2.e0.1 e)
    exact ⟨.node 19 [] l1 (ks ++ [x2]), main 1 _ _ (cV 0 _ _ _ _ _ _ _ _ _ _ _ _ _ _ _ _ ⟨fun _ => ⟨fun e => absurd e g2, fun _ => ⟨rfl, rfl, rfl, rfl, rfl, rfl⟩⟩, fun _ => ⟨rfl, rfl, rfl, rfl, rfl, rfl⟩⟩)⟩
  · have d1 := r1.dd f1
    have sm := hEd d1
    have g1 : st1.e ≠ 0 := fun e => f1 (r1.e0.1 e)
    have fE : ¬ (E (ai w s).2).2.failed = 0 := fun e => f1 (sm.1.symm.trans e)
    refine ⟨l1, dh, st1, r1.sm d1 sm, b1, fun h0 => absurd h0 fE, fun _ => ⟨.node 19 [] l1 ks, (cV 2 _ _ _ _ _ _ _ _ _ _ _ _ _ _ _ _ ⟨fun _ => ⟨fun _ => ⟨w, hwi, _, _, _, _, _, _, _, _, _, q1, fun e => absurd e g1, fun _ => ⟨hi9, (cV 1 _ _ _ _ _ _ _ _ _ _ _ _ _ _ _ _ ⟨fun _ => ⟨fun e => absurd e g1, fun _ => ⟨rfl, rfl, rfl, rfl, rfl, rfl⟩⟩, fun _ => ⟨rfl, rfl, rfl, rfl, rfl, rfl⟩⟩)⟩⟩, fun e => absurd g0 e⟩, fun e => absurd hi3 e⟩)⟩, fun h0 => absurd h0 fE⟩
theorem yE (hn2 : n ≤ 1000000) (s : PS) (st : RS) (hn : s.toks.length ≤ n) (hr : Rl L sz s st) : Ar L tl sz bh st (gy E s) := by
 have i := fun x hx => kG (tl := tl) hg x hx hr
 by_cases cl : (ab s).text = mx
 ·have hnn := aT (s := s) (.inl (by rw [cl]; decide))
  have f0 := hr.f0 hnn
  have lt := cn hnn
  have e : gy E s = uy E s := by rw [gy, if_pos cl]
  obtain ⟨st1, l1, q1, r1, b1, e1⟩ := bZ (tl := tl) hg hL 20 [] [] [] mx (by decide) (by decide) hr
  rw [jd cl] at r1 e1
  have f1 : (ac s).failed = 0 := by rw [fe]; exact f0
  have el := e1 f1
  subst el
  obtain ⟨st2, X, l2, q2, r2, b2, e2⟩ := jx (tl := tl) hL 20 [] ([] ++ [(ab s).lead]) [] 1 (by decide) (by simp) r1
  simp only [List.length_append, List.length_cons, List.length_nil] at b2
  obtain ⟨st3, l3, q3, r3, b3, e3⟩ := bZ (tl := tl) hg hL 20 X l2 [] [61] (by decide) (by omega) r2
  have n2 := bY 1 1 (ac s)
  have n3 := aw [61] (aL 1 1 (ac s)).2.2
  obtain ⟨x4, st4, q4, r4, e4⟩ := hE (ai [61] (aL 1 1 (ac s)).2.2).2 st3 (by omega) r3
  have n4 := hEl (ai [61] (aL 1 1 (ac s)).2.2).2
  obtain ⟨st5, l5, q5, r5, b5, e5⟩ := bZ (tl := tl) hg hL 20 X l3 [x4] wIn (by decide) (by omega) r4
  have n5 := aw wIn (E (ai [61] (aL 1 1 (ac s)).2.2).2).2
  rw [e]
  by_cases f5 : (ai wIn (E (ai [61] (aL 1 1 (ac s)).2.2).2).2).2.failed = 0
  ·have g5 : st5.e = 0 := r5.e0.2 f5
   obtain ⟨x6, st6, q6, r6, e6⟩ := hE (ai wIn (E (ai [61] (aL 1 1 (ac s)).2.2).2).2).2 st5 (by omega) r5
   refine ⟨.node 20 X l5 [x4, x6], st6, (dO 2 _ _ _ _ _ _ _ _ _ _ _ ⟨_, _, _, _, _, _, i mx (by decide), fun _ => ⟨_, _, _, _, _, _, _, _, _, q1, _, _, _, _, _, _, _, _, _, q2, _, _, _, _, _, _, _, _, _, q3, _, _, _, _, _, _, q4, Nat.le_of_ble_eq_true rfl, _, rfl, (hZ 1 _ _ _ _ _ _ _ _ _ _ _ _ _ _ _ _ ⟨_, _, _, _, _, _, _, _, _, q5, fun _ => ⟨_, _, _, _, _, _, q6, Nat.le_of_ble_eq_true rfl, _, rfl, (lw 0 _ _ _ _ _ _ _ _ _ _ _ _ _ _ _ _ ⟨rfl, rfl, rfl, rfl, rfl, rfl⟩)⟩, fun e => absurd g5 e⟩)⟩, fun e => absurd cl (of_decide_eq_false e)⟩), r6, fun h0 => ?_⟩
   have f4 := r4.up (fun d => bB d (x := wIn) (by decide)) f5
   have f3 := r3.up (fun d => hEd d) f4
   have f2 := r2.up (fun d => bB d (x := [61]) (by decide)) f3
   rw [e5 f5, e3 f3, (e2 f2).1, (e2 f2).2, e4 f4, e6 h0]
   rfl
  ·have g5 : st5.e ≠ 0 := fun e => f5 (r5.e0.1 e)
   have d5 := r5.dd f5
   have sm := hEd d5
   exact ⟨.node 20 X l5 [x4], st5, (dO 2 _ _ _ _ _ _ _ _ _ _ _ ⟨_, _, _, _, _, _, i mx (by decide), fun _ => ⟨_, _, _, _, _, _, _, _, _, q1, _, _, _, _, _, _, _, _, _, q2, _, _, _, _, _, _, _, _, _, q3, _, _, _, _, _, _, q4, Nat.le_of_ble_eq_true rfl, _, rfl, (hZ 1 _ _ _ _ _ _ _ _ _ _ _ _ _ _ _ _ ⟨_, _, _, _, _, _, _, _, _, q5, fun e => absurd e g5, fun _ => ⟨rfl, rfl, rfl, rfl, rfl, rfl⟩⟩)⟩, fun e => absurd cl (of_decide_eq_false e)⟩), r5.sm d5 sm, fun h0 => absurd (sm.1.symm.trans h0) f5⟩
 by_cases ci : (ab s).text = wIf
 ·have hnn := aT (s := s) (.inl (by rw [ci]; decide))
  have f0 := hr.f0 hnn
  have lt := cn hnn
  have e : gy E s = ifF E s := by rw [gy, if_neg cl, if_pos ci]
  have ew := jd ci
  suffices go : ∃ (M : Nat) (x : Tree) (st' : RS), be M (gl L) st.at_ tl st.stop st.e 19 [] [] [] 0 x (gl L) st'.at_ tl st'.stop st'.e ∧ Rl L sz (ifF E s).2 st' ∧ ((ifF E s).2.failed = 0 → x = (ifF E s).1) by
   obtain ⟨M, x, st', Q, r, ee⟩ := go
   rw [e]
   exact ⟨x, st', (dO M _ _ _ _ _ _ _ _ _ _ _ ⟨_, _, _, _, _, _, i mx (by decide), fun e => absurd (of_decide_eq_true e) cl, fun _ => ⟨_, _, _, _, _, _, i wIf (by decide), fun _ => Q, fun e => absurd ci (of_decide_eq_false e)⟩⟩), r, ee⟩
  obtain ⟨l1, x1, st1, r1, b1, e1, bad1, ok1⟩ := wG hg hL hE hEd wIf (by decide) (by decide) 0 (by decide) rfl s st [] [] (by decide) (by decide) f0 (by rw [ew]; show (ac s).toks.length < n; omega) hr
  rw [ew] at r1 e1 bad1 ok1
  simp only [List.length_nil] at b1
  have n1 := hEl (ac s)
  have n2 := aw dH (E (ac s)).2
  have n3 := hEl (ai dH (E (ac s)).2).2
  have n4 := aw ii (E (ai dH (E (ac s)).2).2).2
  have n5 := hEl (ai ii (E (ai dH (E (ac s)).2).2).2).2
  have S1 : ∀ {s : PS}, Dd s → Sm s (E (ai ii s).2).2 := fun d => (bB d (x := ii) (by decide)).tr (hEd ((bB d (x := ii) (by decide)).dd d))
  have S2 : ∀ {s : PS}, Dd s → Sm s (E (ai dH s).2).2 := fun d => (bB d (x := dH) (by decide)).tr (hEd ((bB d (x := dH) (by decide)).dd d))
  by_cases f1 : (E (ac s)).2.failed = 0
  ·obtain ⟨l2, x2, st2, r2, b2, e2, bad2, ok2⟩ := wG hg hL hE hEd dH (by decide) (by decide) 1 (by decide) rfl (E (ac s)).2 st1 l1 ([] ++ [x1]) (by omega) (Nat.le_of_ble_eq_true rfl) f1 (by omega) r1
   by_cases f2 : (E (ai dH (E (ac s)).2).2).2.failed = 0
   ·obtain ⟨l3, x3, st3, r3, b3, e3, bad3, ok3⟩ := wG hg hL hE hEd ii (by decide) (by decide) 2 (by decide) rfl (E (ai dH (E (ac s)).2).2).2 st2 l2 ([] ++ [x1] ++ [x2]) (by omega) (Nat.le_of_ble_eq_true rfl) f2 (by omega) r2
    by_cases f3 : (E (ai ii (E (ai dH (E (ac s)).2).2).2).2).2.failed = 0
    ·refine ⟨_, .node 19 [] l3 ([] ++ [x1] ++ [x2] ++ [x3]), st3, ok1 f1 _ _ _ (ok2 f2 _ _ _ (ok3 f3 _ _ _ (cV 0 _ _ _ _ _ _ _ _ _ _ _ _ _ _ _ _ ⟨fun e => absurd e (by decide), fun _ => ⟨rfl, rfl, rfl, rfl, rfl, rfl⟩⟩))), r3, fun _ => ?_⟩
     rw [(e3 f3).1, (e3 f3).2, (e2 f2).1, (e2 f2).2, (e1 f1).1, (e1 f1).2]
     rfl
    ·obtain ⟨x, Q⟩ := bad3 f3
     exact ⟨_, x, st3, ok1 f1 _ _ _ (ok2 f2 _ _ _ Q), r3, fun h0 => absurd h0 f3⟩
   ·obtain ⟨x, Q⟩ := bad2 f2
    have d2 := r2.dd f2
    exact ⟨_, x, st2, ok1 f1 _ _ _ Q, r2.sm d2 (S1 d2), fun h0 => absurd ((S1 d2).1.symm.trans h0) f2⟩
  ·obtain ⟨x, Q⟩ := bad1 f1
   have d1 := r1.dd f1
   have sm := (S2 d1).tr (S1 ((S2 d1).dd d1))
   exact ⟨_, x, st1, Q, r1.sm d1 sm, fun h0 => absurd (sm.1.symm.trans h0) f1⟩
 ·have e : gy E s = ff (aP E) ((aP E s).2.toks.length + 1) (aP E s).1 (aP E s).2 := by rw [gy, if_neg cl, if_neg ci]
  obtain ⟨x1, st1, q1, r1, e1⟩ := vQ hg hL hE hEd hEl hn2 s st hn hr
  have l1 := jM hEl s
  obtain ⟨M, x, st', Q, r, ee⟩ := yb hg hL hE hEd hEl hn2 ((aP E s).2.toks.length + 1) (aP E s).2 st1 x1 (aP E s).1 (by omega) (by omega) r1 e1
  rw [e]
  exact ⟨x, st', (dO M _ _ _ _ _ _ _ _ _ _ _ ⟨_, _, _, _, _, _, i mx (by decide), fun e => absurd (of_decide_eq_true e) cl, fun _ => ⟨_, _, _, _, _, _, i wIf (by decide), fun e => absurd (of_decide_eq_true e) ci, fun _ => ⟨_, _, _, _, _, _, q1, Q⟩⟩⟩), r, ee⟩
end
theorem vy {L : List TokZ} {tl : List UInt8} {sz : Nat} (hg : Gl L) (hL : L.length ≤ 1000000) : ∀ (n : Nat) (s : PS) (st : RS), n ≤ 1000000 → s.toks.length < n → Rl L sz s st → Ar L tl sz bh st (eD n s)
 | 0, s, st, _, h, _ => by omega
 | n + 1, s, st, h2, h, hr => by
  rw [eD]
  exact yE hg hL (n := n) (E := eD n) (fun s st hn hr => vy hg hL n s st (by omega) hn hr) (fun d => oX n d) (mI n) (by omega) s st (by omega) hr
set_option maxHeartbeats 4000000
def bz (g : List GToken) (e : Int) (a : List UInt8) (b i : Int) (r0 : Tree) (j : List GToken) (f : Int) (c : List UInt8) (d k : Int) : Prop := bW [] Try.prog 34 [.ptr 0 0] ⟨1, [(0, vA g e a b i)]⟩ (fun u G => u = .agg (ar r0) ∧ G = ⟨2, [(0, vA j f c d k)]⟩)
def eX (g : List GToken) (e : Int) (a : List UInt8) (b i : Int) (r0 : Tree) (j : List GToken) (f : Int) (c : List UInt8) (d k : Int) : Prop := bW [] Try.prog 14 [.ptr 0 0] ⟨1, [(0, vA g e a b i)]⟩ (fun u G => u = .agg (ar r0) ∧ G = ⟨2, [(0, vA j f c d k)]⟩)
def eI (p0 : Tree) (r0 : Int) : Prop := qS 15 [.agg (ar p0)] (.int .i64 r0)
def iy (p0 : List UInt8) (r0 : Tree) (r1 r2 : Int) : Prop := qS 6 [.str p0] (.tup [.agg (ar r0), .int .i64 r1, .int .i64 r2])
def iB (m : Nat) (e : Int) (f : List UInt8) (g : (List (List UInt8))) (a : List Tree) (i : Tree) (j : List GToken) (k : Int) (l : List UInt8) (n o : Int) (r0 : Tree) (p : List GToken) (d : Int) (b : List UInt8) (c q : Int) : Prop := ∀ (K : Ctx), aR K [0] → Go Try.prog K (bodyPost Try.prog Try.f34 (SP K (fun u G => u = .agg (ar r0) ∧ G = ⟨2, [(0, vA p d b c q)]⟩))) (.ex .normal) [.seq (xC (cB (cT (xH (cB (aj Try.f34)))))), .seq (xA (aj Try.f34))] 118 (mkF 118 0 [(2, .ptr 1 0), (3, .ptr 2 0)]) ⟨5, [(4, .row 26 4 (kidsV ((a ++ [(Tree.node 0 [] [] [])]).set a.length i))), (3, .row 9 1 (List.map V.str g)), (2, vD e f), (1, vB 0 []), (0, vA j k l n o)]⟩
def L1_semvcsref02_parser_def (m : Nat) (d : Int) (e : List UInt8) (f : (List (List UInt8))) (g : List GToken) (i : Int) (j : List UInt8) (k l : Int) (n : List Tree) (o : (List (List UInt8))) (r0 : Tree) (p : List GToken) (c : Int) (a : List UInt8) (b q : Int) : Prop := ∀ (K : Ctx) (j1 : Nat), aR K [0] → m ≤ j1 → qLG K Try.f34 (fun u G => u = .agg (ar r0) ∧ G = ⟨2, [(0, vA p c a b q)]⟩) (xG (xC (xF (aj Try.f34)))) [.loop (xG (xC (xF (aj Try.f34)))) j1, .blk 0, .seq (xC (xC (aj Try.f34)))] 118 (mkF 118 0 [(0, .ptr 0 0), (2, .ptr 1 0), (4, .ptr 2 0), (5, .sl 3)]) ⟨6, [(5, .row 26 4 (kidsV n)), (4, .row 9 1 (List.map V.str f)), (3, .row 9 1 (List.map V.str o)), (2, vH d e), (1, vB 0 []), (0, vA g i j k l)]⟩
def dZ (m : Nat) (d : Int) (e : List UInt8) (f : (List (List UInt8))) (g : List GToken) (i : Int) (j : List UInt8) (k l : Int) (n : (List (List UInt8))) (o : List Tree) (r0 : Tree) (p : List GToken) (c : Int) (a : List UInt8) (b q : Int) : Prop := ∀ (K : Ctx) (j1 : Nat), aR K [0] → m ≤ j1 → qLG K Try.f34 (fun u G => u = .agg (ar r0) ∧ G = ⟨2, [(0, vA p c a b q)]⟩) (cB (cK (cB (xG (xC (xF (aj Try.f34))))))) [.blk 1, .loop (xG (xC (xF (aj Try.f34)))) j1, .blk 0, .seq (xC (xC (aj Try.f34)))] 118 (mkF 118 0 [(0, .ptr 0 0), (2, .ptr 1 0), (4, .ptr 2 0), (5, .sl 3)]) ⟨6, [(5, .row 26 4 (kidsV o)), (4, .row 9 1 (List.map V.str f)), (3, .row 9 1 (List.map V.str n)), (2, vH d e), (1, vB 0 []), (0, vA g i j k l)]⟩
def dW (m : Nat) (d : Int) (e : List UInt8) (f : (List (List UInt8))) (g : List GToken) (i : Int) (j : List UInt8) (k l : Int) (n : List Tree) (o : (List (List UInt8))) (r0 : Tree) (p : List GToken) (c : Int) (a : List UInt8) (b q : Int) : Prop := ∀ (K : Ctx), aR K [0] → qLG K Try.f34 (fun u G => u = .agg (ar r0) ∧ G = ⟨2, [(0, vA p c a b q)]⟩) (xC (xC (aj Try.f34))) [] 118 (mkF 118 0 [(0, .ptr 0 0), (2, .ptr 1 0), (4, .ptr 2 0), (5, .sl 3)]) ⟨6, [(5, .row 26 4 (kidsV n)), (4, .row 9 1 (List.map V.str f)), (3, .row 9 1 (List.map V.str o)), (2, vH d e), (1, vB 0 []), (0, vA g i j k l)]⟩
def cI (m : Nat) (d : Int) (e : List UInt8) (f : (List (List UInt8))) (g : (List (List UInt8))) (i : List GToken) (j : Int) (k : List UInt8) (l n : Int) (o : List Tree) (r0 : Tree) (p : List GToken) (c : Int) (a : List UInt8) (b q : Int) : Prop := ∀ (K : Ctx) (j1 : Nat), aR K [0] → m ≤ j1 → qLG K Try.f34 (fun u G => u = .agg (ar r0) ∧ G = ⟨2, [(0, vA p c a b q)]⟩) (xA (cK (cB (xG (xC (xF (aj Try.f34))))))) [.blk 1, .loop (xG (xC (xF (aj Try.f34)))) j1, .blk 0, .seq (xC (xC (aj Try.f34)))] 118 (mkF 118 0 [(0, .ptr 0 0), (2, .ptr 1 0), (4, .ptr 2 0), (5, .sl 3)]) ⟨6, [(5, .row 26 4 (kidsV o)), (4, .row 9 1 (List.map V.str f)), (3, .row 9 1 (List.map V.str g)), (2, vH d e), (1, vB 0 []), (0, vA i j k l n)]⟩
def fx (m : Nat) (e : Int) (f : List UInt8) (g : (List (List UInt8))) (a : List Tree) (i : Tree) (j : List GToken) (k : Int) (l : List UInt8) (n o : Int) (p : (List (List UInt8))) (r0 : Tree) (q : List GToken) (d : Int) (b : List UInt8) (c r : Int) : Prop := ∀ (K : Ctx), aR K [0] → Go Try.prog K (bodyPost Try.prog Try.f34 (SP K (fun u G => u = .agg (ar r0) ∧ G = ⟨2, [(0, vA q d b c r)]⟩))) (.ex .normal) [.seq (xC (xC (xF (aj Try.f34))))] 118 (mkF 118 0 [(0, .ptr 0 0), (2, .ptr 1 0), (4, .ptr 2 0), (5, .sl 3)]) ⟨6, [(5, .row 26 4 (kidsV ((a ++ [(Tree.node 0 [] [] [])]).set a.length i))), (4, .row 9 1 (List.map V.str g)), (3, .row 9 1 (List.map V.str p)), (2, vH e f), (1, vB 0 []), (0, vA j k l n o)]⟩
def iD (m : Nat) (e : Int) (f : List UInt8) (g : (List (List UInt8))) (s : (List (List UInt8))) (i : Int) (j : List UInt8) (k : (List (List UInt8))) (a : List Tree) (l : Tree) (n : List GToken) (o : Int) (p : List UInt8) (q r : Int) (t : List Tree) (r0 : Tree) (v : List GToken) (d : Int) (b : List UInt8) (c x : Int) : Prop := ∀ (K : Ctx) (j1 : Nat), aR K [0] → m ≤ j1 → Go Try.prog K (bodyPost Try.prog Try.f34 (SP K (fun u G => u = .agg (ar r0) ∧ G = ⟨2, [(0, vA v d b c x)]⟩))) (.ex .normal) [.seq (xC (xA (cK (cB (xG (xC (xF (aj Try.f34)))))))), .blk 1, .loop (xG (xC (xF (aj Try.f34)))) j1, .blk 0, .seq (xC (xC (aj Try.f34)))] 118 (mkF 118 0 [(0, .ptr 0 0), (2, .ptr 1 0), (4, .ptr 2 0), (5, .sl 3), (7, .ptr 4 0)]) ⟨9, [(8, .row 26 4 (kidsV ((a ++ [(Tree.node 0 [] [] [])]).set a.length l))), (7, .row 9 1 (List.map V.str k)), (6, .row 26 4 (kidsV t)), (5, .row 9 1 (List.map V.str g)), (4, .var 26 [.int .i64 i, .str j, .sl 7, .sl 8]), (3, .row 9 1 (List.map V.str s)), (2, .var 26 [.int .i64 e, .str f, .sl 5, .sl 6]), (1, vB 0 []), (0, vA n o p q r)]⟩
def iP (m : Nat) (l : Int) (n : List UInt8) (o : (List (List UInt8))) (d : List Tree) (e : Tree) (f : List GToken) (g : Int) (i : List UInt8) (j k : Int) (p : (List (List UInt8))) (r0 : Tree) (q : List GToken) (c : Int) (a : List UInt8) (b r : Int) : Prop := ∀ (K : Ctx), aR K [0] → Go Try.prog K (bodyPost Try.prog Try.f34 (SP K (fun u G => u = .agg (ar r0) ∧ G = ⟨2, [(0, vA q c a b r)]⟩))) (.ex .normal) [.seq (xC (xC (xC (cB (aj Try.f34)))))] 118 (mkF 118 0 [(2, .ptr 1 0), (4, .ptr 2 0), (5, .sl 3)]) ⟨6, [(5, .row 26 4 (kidsV ((d ++ [(Tree.node 0 [] [] [])]).set d.length e))), (4, .row 9 1 (List.map V.str o)), (3, .row 9 1 (List.map V.str p)), (2, vH l n), (1, vB 0 []), (0, vA f g i j k)]⟩
def iz (m : Nat) (d : Int) (e : List UInt8) (f : (List (List UInt8))) (n : (List (List UInt8))) (g : List GToken) (i : Int) (j : List UInt8) (k l : Int) (o : List Tree) (r0 : Tree) (p : List GToken) (c : Int) (a : List UInt8) (b q : Int) : Prop := ∀ (K : Ctx) (j1 : Nat), aR K [0] → m ≤ j1 → Go Try.prog K (bodyPost Try.prog Try.f34 (SP K (fun u G => u = .agg (ar r0) ∧ G = ⟨2, [(0, vA p c a b q)]⟩))) (.ex .normal) [.blk 1, .loop (xG (xC (xF (aj Try.f34)))) j1, .blk 0, .seq (xC (xC (aj Try.f34)))] 118 (mkF 118 0 [(0, .ptr 0 0), (2, .ptr 1 0), (4, .ptr 2 0), (5, .sl 3)]) ⟨6, [(5, .row 26 4 (kidsV o)), (4, .row 9 1 (List.map V.str f)), (3, .row 9 1 (List.map V.str n)), (2, vH d e), (1, vB 0 []), (0, vA g i j k l)]⟩
theorem iC (m : Nat) (p0_l : List GToken) (p0_at_ : Int) (p0_tail : List UInt8) (p0_stop p0_e : Int) (r0 : Tree) (q0_l : List GToken) (θ : Int) (r : List UInt8) (s q0_e : Int) (h : ∃ b0_1 γ δ ε ζ η, aq p0_l p0_at_ p0_tail p0_stop p0_e [116, 121, 112, 101] b0_1 γ δ ε ζ η ∧ ((b0_1 = true) → ∃ r0_7 n0_8 s0_9 n0_10 n0_11 n0_12 s0_13 k l, al γ δ ε ζ η 3 [] ([] : List (List UInt8)) ([] : List Tree) [116, 121, 112, 101] r0_7 n0_8 s0_9 n0_10 n0_11 n0_12 s0_13 k l ∧ ∃ ι κ μ ν ξ ο π d e, aS r0_7 n0_8 s0_9 n0_10 n0_11 n0_12 s0_13 k l 2 ι κ μ ν ξ ο π d e ∧ ∃ t v x y z α β c a, al ι κ μ ν ξ ο π d e [61] t v x y z α β c a ∧ ∃ b r0_35 n0_36 s0_37 n0_38 n0_39, cg t v x y z b r0_35 n0_36 s0_37 n0_38 n0_39 ∧ (a ++ [(Tree.node 0 [] [] [])]).length ≤ 1000000000 ∧ ∃ t0_40, (a ++ [(Tree.node 0 [] [] [])])[a.length]? = some t0_40 ∧ iB m α β c a b r0_35 n0_36 s0_37 n0_38 n0_39 r0 q0_l θ r s q0_e) ∧ ((b0_1 = false) → ∃ r0_41 n0_42 s0_43 n0_44 n0_45 n0_46 s0_47 n o, al γ δ ε ζ η 2 [] ([] : List (List UInt8)) ([] : List Tree) [100, 101, 102] r0_41 n0_42 s0_43 n0_44 n0_45 n0_46 s0_47 n o ∧ ∃ τ υ φ χ ψ ω s0_56 f g, aS r0_41 n0_42 s0_43 n0_44 n0_45 n0_46 s0_47 n o 1 τ υ φ χ ψ ω s0_56 f g ∧ ∃ r0_59 n0_60 s0_61 n0_62 n0_63 n0_64 s0_65 p q, al τ υ φ χ ψ ω s0_56 f g [40] r0_59 n0_60 s0_61 n0_62 n0_63 n0_64 s0_65 p q ∧ L1_semvcsref02_parser_def m n0_64 s0_65 p r0_59 n0_60 s0_61 n0_62 n0_63 q ([] : List (List UInt8)) r0 q0_l θ r s q0_e)) : bz p0_l p0_at_ p0_tail p0_stop p0_e r0 q0_l θ r s q0_e := by
 refine az 118 [0] Try.func34 rfl rfl rfl (bg rfl) fun K hK => ?_
 refine gR 9 rfl ?_
 obtain ⟨b0_1, γ, δ, ε, ζ, η, hs190, h⟩ := h
 refine gCY hs190 [0] ?_
 refine gR 2 rfl <| gB 9 rfl rfl rfl ?_ ?_ <;> intro hd
 replace h := h.1 hd
 refine gR 8 rfl <| go_sub (F' := (mkF 118 0 [(0, .ptr 0 0), (2, .ptr 1 0), (3, .ptr 2 0)])) (H' := ⟨3, [(2, vB 3 []), (1, vB 0 []), (0, vA γ δ ε ζ η)]⟩) [0, 1, 3] [0] rfl hK pq3 (pqo3 rfl rfl rfl rfl rfl rfl) rfl <| gR 3 rfl <| gNC 2 2 9 1 rfl rfl rfl rfl <| gNC 2 3 26 4 rfl rfl rfl rfl ?_
 obtain ⟨r0_7, n0_8, s0_9, n0_10, n0_11, n0_12, s0_13, k, l, hs191, h⟩ := h
 refine gCZ hs191 [0, 2, 3, 4] ⟨⟨_, rfl, ⟨rfl, rfl, rfl⟩⟩, ⟨⟨_, rfl, ⟨rfl, rfl, rfl⟩⟩, ⟨⟨_, rfl, ⟨rfl, ak.rfl⟩⟩, ⟨⟨_, rfl, ⟨rfl, ak.rfl⟩⟩, trivial⟩⟩⟩⟩ ?_
 refine gHR 7 (List.map V.str k) rfl (vI _ k) rfl <| gHR 8 (kidsV l) rfl (ah _ l) rfl <| gR 5 rfl ?_
 obtain ⟨ι, κ, μ, ν, ξ, ο, π, d, e, hs192, h⟩ := h
 refine gCZ hs192 [0, 2, 7, 8] ⟨⟨_, rfl, ⟨rfl, rfl, (ah _ l).symm⟩⟩, ⟨⟨_, rfl, ⟨rfl, rfl, (vI _ k).symm⟩⟩, ⟨⟨_, rfl, ⟨rfl, ak.rfl⟩⟩, ⟨⟨_, rfl, ⟨rfl, ak.rfl⟩⟩, trivial⟩⟩⟩⟩ ?_
 refine gHR 11 (List.map V.str d) rfl (vI _ d) rfl <| gHR 12 (kidsV e) rfl (ah _ e) rfl <| gR 2 rfl <| go_sub (F' := (mkF 118 0 [(0, .ptr 0 0), (2, .ptr 1 0), (3, .ptr 2 0)])) (H' := ⟨5, [(4, .row 26 4 (kidsV e)), (3, .row 9 1 (List.map V.str d)), (2, vD ο π), (1, vB 0 []), (0, vA ι κ μ ν ξ)]⟩) [0, 1, 2, 11, 12] [0] rfl hK pq3 ⟨⟨_, rfl, rfl, rfl, (ah _ e).symm⟩, ⟨_, rfl, rfl, rfl, (vI _ d).symm⟩, (pqo3 rfl rfl rfl rfl rfl rfl)⟩ rfl <| gR 3 rfl ?_
 obtain ⟨t, v, x, y, z, α, β, c, a, hs193, h⟩ := h
 refine gCZ hs193 [0, 2, 3, 4] ⟨⟨_, rfl, ⟨rfl, rfl, (ah _ e).symm⟩⟩, ⟨⟨_, rfl, ⟨rfl, rfl, (vI _ d).symm⟩⟩, ⟨⟨_, rfl, ⟨rfl, ak.rfl⟩⟩, ⟨⟨_, rfl, ⟨rfl, ak.rfl⟩⟩, trivial⟩⟩⟩⟩ ?_
 refine gHR 7 (List.map V.str c) rfl (vI _ c) rfl <| gHR 8 (kidsV a) rfl (ah _ a) rfl <| gR 3 rfl <| go_sub (F' := (mkF 118 0 [(0, .ptr 0 0), (2, .ptr 1 0), (3, .ptr 2 0)])) (H' := ⟨5, [(4, .row 26 4 (kidsV a)), (3, .row 9 1 (List.map V.str c)), (2, vD α β), (1, vB 0 []), (0, vA t v x y z)]⟩) [0, 1, 2, 7, 8] [0] rfl hK pq3 ⟨⟨_, rfl, rfl, rfl, (ah _ a).symm⟩, ⟨_, rfl, rfl, rfl, (vI _ c).symm⟩, (pqo3 rfl rfl rfl rfl rfl rfl)⟩ rfl <| gDs [2] 6 11 rfl (by kernel_rfl) (by kernel_rfl) ?_
 refine gDr [(0, 2), (1, 3), (2, 2), (4, 2)] (by kernel_rfl) rfl rfl <| gV 21 (.int .i64 (a.length : Int)) rfl (bC (av _)) rfl <| gLO 4 rfl (av _) fun hl197 => ?_
 obtain ⟨b, r0_35, n0_36, s0_37, n0_38, n0_39, hs198, h⟩ := h
 apply aF (i := 3) (j := 5) (by kernel_rfl) rfl rfl rfl rfl
 exact (de (L' := [2]) (by kernel_rfl) rfl rfl (df (H := ⟨5, [(4, .row 26 4 (kidsV a)), (3, .row 9 1 (List.map V.str c)), (2, vD α β), (1, vB 0 []), (0, vA t v x y z)]⟩) hs198 [0] .rfl ⟨⟨_, rfl, ⟨rfl, ak.rfl⟩⟩, trivial⟩ rfl [2] rfl) (.inl rfl))
 exact (aD aa rfl rfl)
 refine gDr [(5, 0)] (by kernel_rfl) rfl rfl <| gHX 7 [.agg [.int .i64 0, .str [], .row 1 [], .row 4 (kidsV [])]] rfl (.cons (.agg (.cons .rfl (.cons .rfl (.cons (.nil 1) (.cons (.nil 4) .nil))))) .nil) rfl <| gHR 7 (kidsV [(Tree.node 0 [] [] [])]) rfl (bv (Tree.node 0 [] [] [])) rfl ?_
 obtain ⟨hb, h⟩ := h
 refine ax 6 (.repl 4 (.row 26 4 (kidsV (a ++ [(Tree.node 0 [] [] [])])))) rfl (by kernel_rfl) (bu aa rfl rfl rfl rfl rfl (aC a [(Tree.node 0 [] [] [])]).symm (by rw [av]; exact hb)) (okR rfl) rfl (by kernel_rfl) rfl rfl ?_
 obtain ⟨t0_40, hxt0_40, h⟩ := h
 refine gYd 7 rfl (by kernel_rfl) (yIO aa rfl rfl rfl rfl (by have := (ae hxt0_40); exact (List.getElem?_eq_some_iff.1 this).1)) rfl rfl ?_
 refine gDr [(9, 2)] (by kernel_rfl) rfl rfl ?_
 apply aF (i := 8) (j := 10) (by kernel_rfl) rfl rfl rfl rfl
 exact (ba (.set 8 (.row 26 4 (kidsV ((a ++ [(Tree.node 0 [] [] [])]).set a.length b)))) (dSe aa rfl rfl rfl rfl (ae hxt0_40) rfl (bp (a ++ [(Tree.node 0 [] [] [])]) a.length b)) (okS rfl) (by kernel_rfl))
 exact (aD aa rfl rfl)
 exact gDr [(10, 1)] (by kernel_rfl) rfl rfl <| gDe (by kernel_rfl) <| gJ (h K hK) [0, 1, 2, 3, 8] [0] rfl hK pq2 ⟨⟨_, rfl, rfl, rfl, (ah _ ((a ++ [(Tree.node 0 [] [] [])]).set a.length b)).symm⟩, ⟨_, rfl, rfl, rfl, (vI _ c).symm⟩, (pqo3 rfl rfl rfl rfl rfl rfl)⟩ rfl
 refine ax 8 (.set 8 (.row 26 4 (kidsV ((a ++ [(Tree.node 0 [] [] [])]).set a.length b)))) rfl (by kernel_rfl) (dSe aa rfl rfl rfl rfl (ae hxt0_40) rfl (bp (a ++ [(Tree.node 0 [] [] [])]) a.length b)) (okS rfl) rfl (by kernel_rfl) rfl rfl ?_
 exact gDe (by kernel_rfl) <| gJ (h K hK) [0, 1, 2, 3, 8] [0] rfl hK pq2 ⟨⟨_, rfl, rfl, rfl, (ah _ ((a ++ [(Tree.node 0 [] [] [])]).set a.length b)).symm⟩, ⟨_, rfl, rfl, rfl, (vI _ c).symm⟩, (pqo3 rfl rfl rfl rfl rfl rfl)⟩ rfl
 refine gHX 5 [.agg [.int .i64 0, .str [], .row 1 [], .row 4 (kidsV [])]] rfl (.cons (.agg (.cons .rfl (.cons .rfl (.cons (.nil 1) (.cons (.nil 4) .nil))))) .nil) rfl ?_
 refine gHR 5 (kidsV [(Tree.node 0 [] [] [])]) rfl (bv (Tree.node 0 [] [] [])) rfl <| gDCY 3 hs198 [0] rfl ?_
 obtain ⟨hb, h⟩ := h
 refine ax 6 (.repl 4 (.row 26 4 (kidsV (a ++ [(Tree.node 0 [] [] [])])))) rfl (by kernel_rfl) (bu aa rfl rfl rfl rfl rfl (aC a [(Tree.node 0 [] [] [])]).symm (by rw [av]; exact hb)) (okR rfl) rfl (by kernel_rfl) rfl rfl ?_
 obtain ⟨t0_40, hxt0_40, h⟩ := h
 refine gYd 7 rfl (by kernel_rfl) (yIO aa rfl rfl rfl rfl (by have := (ae hxt0_40); exact (List.getElem?_eq_some_iff.1 this).1)) rfl rfl ?_
 refine gDr [(9, 2)] (by kernel_rfl) rfl rfl ?_
 apply aF (i := 8) (j := 10) (by kernel_rfl) rfl rfl rfl rfl
 exact (ba (.set 8 (.row 26 4 (kidsV ((a ++ [(Tree.node 0 [] [] [])]).set a.length b)))) (dSe aa rfl rfl rfl rfl (ae hxt0_40) rfl (bp (a ++ [(Tree.node 0 [] [] [])]) a.length b)) (okS rfl) (by kernel_rfl))
 exact (aD aa rfl rfl)
 exact gDr [(10, 1)] (by kernel_rfl) rfl rfl <| gDe (by kernel_rfl) <| gJ (h K hK) [0, 1, 2, 3, 8] [0] rfl hK pq2 ⟨⟨_, rfl, rfl, rfl, (ah _ ((a ++ [(Tree.node 0 [] [] [])]).set a.length b)).symm⟩, ⟨_, rfl, rfl, rfl, (vI _ c).symm⟩, (pqo3 rfl rfl rfl rfl rfl rfl)⟩ rfl
 refine ax 8 (.set 8 (.row 26 4 (kidsV ((a ++ [(Tree.node 0 [] [] [])]).set a.length b)))) rfl (by kernel_rfl) (dSe aa rfl rfl rfl rfl (ae hxt0_40) rfl (bp (a ++ [(Tree.node 0 [] [] [])]) a.length b)) (okS rfl) rfl (by kernel_rfl) rfl rfl ?_
 exact gDe (by kernel_rfl) <| gJ (h K hK) [0, 1, 2, 3, 8] [0] rfl hK pq2 ⟨⟨_, rfl, rfl, rfl, (ah _ ((a ++ [(Tree.node 0 [] [] [])]).set a.length b)).symm⟩, ⟨_, rfl, rfl, rfl, (vI _ c).symm⟩, (pqo3 rfl rfl rfl rfl rfl rfl)⟩ rfl
 replace h := h.2 hd
 refine gR 10 rfl <| go_sub (F' := (mkF 118 0 [(0, .ptr 0 0), (2, .ptr 1 0), (4, .ptr 2 0)])) (H' := ⟨3, [(2, vB 2 []), (1, vB 0 []), (0, vA γ δ ε ζ η)]⟩) [0, 1, 3] [0] rfl hK pq3 (pqo3 rfl rfl rfl rfl rfl rfl) rfl <| gR 3 rfl <| gNC 2 2 9 1 rfl rfl rfl rfl <| gNC 2 3 26 4 rfl rfl rfl rfl ?_
 obtain ⟨r0_41, n0_42, s0_43, n0_44, n0_45, n0_46, s0_47, n, o, hs199, h⟩ := h
 refine gCZ hs199 [0, 2, 3, 4] ⟨⟨_, rfl, ⟨rfl, rfl, rfl⟩⟩, ⟨⟨_, rfl, ⟨rfl, rfl, rfl⟩⟩, ⟨⟨_, rfl, ⟨rfl, ak.rfl⟩⟩, ⟨⟨_, rfl, ⟨rfl, ak.rfl⟩⟩, trivial⟩⟩⟩⟩ ?_
 refine gHR 7 (List.map V.str n) rfl (vI _ n) rfl <| gHR 8 (kidsV o) rfl (ah _ o) rfl <| gR 5 rfl ?_
 obtain ⟨τ, υ, φ, χ, ψ, ω, s0_56, f, g, hs200, h⟩ := h
 refine gCZ hs200 [0, 2, 7, 8] ⟨⟨_, rfl, ⟨rfl, rfl, (ah _ o).symm⟩⟩, ⟨⟨_, rfl, ⟨rfl, rfl, (vI _ n).symm⟩⟩, ⟨⟨_, rfl, ⟨rfl, ak.rfl⟩⟩, ⟨⟨_, rfl, ⟨rfl, ak.rfl⟩⟩, trivial⟩⟩⟩⟩ ?_
 refine gHR 11 (List.map V.str f) rfl (vI _ f) rfl <| gHR 12 (kidsV g) rfl (ah _ g) rfl <| gR 2 rfl <| go_sub (F' := (mkF 118 0 [(0, .ptr 0 0), (2, .ptr 1 0), (4, .ptr 2 0)])) (H' := ⟨5, [(4, .row 26 4 (kidsV g)), (3, .row 9 1 (List.map V.str f)), (2, vD ω s0_56), (1, vB 0 []), (0, vA τ υ φ χ ψ)]⟩) [0, 1, 2, 11, 12] [0] rfl hK pq3 ⟨⟨_, rfl, rfl, rfl, (ah _ g).symm⟩, ⟨_, rfl, rfl, rfl, (vI _ f).symm⟩, (pqo3 rfl rfl rfl rfl rfl rfl)⟩ rfl <| gR 3 rfl ?_
 obtain ⟨r0_59, n0_60, s0_61, n0_62, n0_63, n0_64, s0_65, p, q, hs201, h⟩ := h
 refine gCZ hs201 [0, 2, 3, 4] ⟨⟨_, rfl, ⟨rfl, rfl, (ah _ g).symm⟩⟩, ⟨⟨_, rfl, ⟨rfl, rfl, (vI _ f).symm⟩⟩, ⟨⟨_, rfl, ⟨rfl, ak.rfl⟩⟩, ⟨⟨_, rfl, ⟨rfl, ak.rfl⟩⟩, trivial⟩⟩⟩⟩ ?_
 exact gHR 7 (List.map V.str p) rfl (vI _ p) rfl <| gHR 8 (kidsV q) rfl (ah _ q) rfl <| gR 9 rfl <| go_loop m <| gNS 5 9 1 rfl rfl rfl rfl <| gJ (h K _ hK (by omega)) [0, 1, 2, 9, 7, 8] [0] rfl hK pq4 ⟨⟨_, rfl, rfl, rfl, (ah _ q).symm⟩, ⟨_, rfl, rfl, rfl, (vI _ p).symm⟩, ⟨_, rfl, rfl, rfl, rfl⟩, (pqo3 rfl rfl rfl rfl rfl rfl)⟩ rfl
theorem lL (m : Nat) (b : Int) (c : List UInt8) (d : (List (List UInt8))) (a : List Tree) (e : Tree) (i : List GToken) (j : Int) (k : List UInt8) (l n : Int) (r0 : Tree) (p : List GToken) (o : Int) (f : List UInt8) (g q : Int) (h : (Tree.node b c d ((a ++ [(Tree.node 0 [] [] [])]).set a.length e)) = r0 ∧ i = p ∧ j = o ∧ k = f ∧ l = g ∧ n = q) : iB (m + 1) b c d a e i j k l n r0 p o f g q := by
 intro K hK
 refine gR 9 rfl <| gFR 3 rfl (ch _ (fun _ => rfl) _) rfl rfl <| gFR 4 rfl (cm _) rfl rfl ?_
 obtain ⟨rfl, rfl, rfl, rfl, rfl, rfl⟩ := h
 exact go_sub (F' := (mkF 118 0 [(2, .ptr 1 0)])) (H' := ⟨2, [(1, vF ((Tree.node b c d ((a ++ [(Tree.node 0 [] [] [])]).set a.length e)).kind) ((Tree.node b c d ((a ++ [(Tree.node 0 [] [] [])]).set a.length e)).text) ((Tree.node b c d ((a ++ [(Tree.node 0 [] [] [])]).set a.length e)).leads) ((Tree.node b c d ((a ++ [(Tree.node 0 [] [] [])]).set a.length e)).kids)), (0, vA i j k l n)]⟩) [0, 1] [0] rfl hK pq1 (pqo2 rfl rfl rfl rfl) rfl <| go_endD [1] aa (rs := [.cell 2 26]) rfl rfl ⟨rfl, rfl⟩
theorem bF (m : Nat) (i : Int) (k : List UInt8) (a : (List (List UInt8))) (β : List GToken) (γ : Int) (δ : List UInt8) (ε t : Int) (b : List Tree) (c : (List (List UInt8))) (r0 : Tree) (v : List GToken) (l : Int) (e : List UInt8) (g x : Int) (h : ((t = 0) → ∃ α n o p q r, aq β γ δ ε t [41] α n o p q r ∧ ((α = false) → ((0 < (b.length : Int)) → ∃ ζ η θ y z ι κ d s, al n o p q r 0 [] ([] : List (List UInt8)) ([] : List Tree) [44] ζ η θ y z ι κ d s ∧ (c ++ d).length ≤ 1000000000 ∧ dZ m i k a ζ η θ y z (c ++ d) b r0 v l e g x) ∧ ((¬ 0 < (b.length : Int)) → dZ m i k a n o p q r c b r0 v l e g x)) ∧ ((α = true) → dW m i k a n o p q r b c r0 v l e g x)) ∧ ((t ≠ 0) → dW m i k a β γ δ ε t b c r0 v l e g x)) : L1_semvcsref02_parser_def (m + 1) i k a β γ δ ε t b c r0 v l e g x := by
 intro K j1 hK hj1
 obtain ⟨j1, rfl⟩ : ∃ j, j1 = j + 1 := ⟨j1 - 1, by omega⟩
 refine gR 9 rfl <| gB 39 rfl rfl rfl ?_ ?_ <;> intro hd
 refine gT 38 rfl hd rfl ?_
 replace hd := (eq_of_beq hd)
 replace h := h.1 hd
 refine gR 1 rfl ?_
 obtain ⟨α, n, o, p, q, r, hs202, h⟩ := h
 refine gCY hs202 [0] ?_
 refine gR 4 rfl <| gB 43 rfl rfl rfl ?_ ?_ <;> intro hd
 replace hd := (iQ hd)
 replace h := h.1 hd
 refine gR 4 rfl <| go_sub (F' := (mkF 118 0 [(0, .ptr 0 0), (2, .ptr 1 0), (4, .ptr 2 0), (5, .sl 3)])) (H' := ⟨6, [(5, .row 26 4 (kidsV b)), (4, .row 9 1 (List.map V.str a)), (3, .row 9 1 (List.map V.str c)), (2, vH i k), (1, vB 0 []), (0, vA n o p q r)]⟩) [0, 1, 2, 3, 4, 5] [0] rfl hK pq4 ⟨⟨_, rfl, rfl, rfl, (ah _ b).symm⟩, ⟨_, rfl, rfl, rfl, (vI _ a).symm⟩, ⟨_, rfl, rfl, rfl, (vI _ c).symm⟩, (pqo3 rfl rfl rfl rfl rfl rfl)⟩ rfl <| gR 6 rfl <| gV 46 (.int .i64 (b.length : Int)) rfl (bC (av _)) rfl ?_
 refine gLO 5 rfl (av _) fun hl203 => gR 3 rfl <| gB 47 rfl rfl rfl ?_ ?_ <;> intro hd
 replace hd := (of_decide_eq_true hd)
 replace h := h.1 hd
 refine gR 1 rfl <| go_sub (F' := (mkF 118 0 [(0, .ptr 0 0), (2, .ptr 1 0), (4, .ptr 2 0), (5, .sl 3)])) (H' := ⟨6, [(5, .row 26 4 (kidsV b)), (4, .row 9 1 (List.map V.str a)), (3, .row 9 1 (List.map V.str c)), (2, vH i k), (1, vB 0 []), (0, vA n o p q r)]⟩) [0, 1, 2, 3, 4, 5] [0] rfl hK pq4 ⟨⟨_, rfl, rfl, rfl, (ah _ b).symm⟩, ⟨_, rfl, rfl, rfl, (vI _ a).symm⟩, ⟨_, rfl, rfl, rfl, (vI _ c).symm⟩, (pqo3 rfl rfl rfl rfl rfl rfl)⟩ rfl <| gR 10 rfl <| gNC 6 2 9 1 rfl rfl rfl rfl ?_
 refine gNC 6 3 26 4 rfl rfl rfl rfl ?_
 obtain ⟨ζ, η, θ, y, z, ι, κ, d, s, hs204, h⟩ := h
 refine gCZ hs204 [0, 6, 7, 8] ⟨⟨_, rfl, ⟨rfl, rfl, rfl⟩⟩, ⟨⟨_, rfl, ⟨rfl, rfl, rfl⟩⟩, ⟨⟨_, rfl, ⟨rfl, ak.rfl⟩⟩, ⟨⟨_, rfl, ⟨rfl, ak.rfl⟩⟩, trivial⟩⟩⟩⟩ ?_
 refine gHR 11 (List.map V.str d) rfl (vI _ d) rfl <| gHR 12 (kidsV s) rfl (ah _ s) rfl <| gR 6 rfl ?_
 obtain ⟨hb, h⟩ := h
 exact gDo (.repl 3 (.row 9 1 (List.map V.str (c ++ d)))) (bu aa rfl rfl rfl rfl rfl (List.map_append (f := V.str) (l₁ := c) (l₂ := d)).symm (by rw [cQ]; exact hb)) (okR rfl) rfl rfl rfl <| gR 3 rfl <| gJ (h K _ hK (by omega)) [0, 1, 2, 13, 4, 5] [0] rfl hK pq4 ⟨⟨_, rfl, rfl, rfl, (ah _ b).symm⟩, ⟨_, rfl, rfl, rfl, (vI _ a).symm⟩, ⟨_, rfl, rfl, rfl, (vI _ (c ++ d)).symm⟩, (pqo3 rfl rfl rfl rfl rfl rfl)⟩ rfl
 replace hd := (of_decide_eq_false hd)
 replace h := h.2 hd
 exact gR 3 rfl <| gJ (h K _ hK (by omega)) [0, 1, 2, 3, 4, 5] [0] rfl hK pq4 ⟨⟨_, rfl, rfl, rfl, (ah _ b).symm⟩, ⟨_, rfl, rfl, rfl, (vI _ a).symm⟩, ⟨_, rfl, rfl, rfl, (vI _ c).symm⟩, (pqo3 rfl rfl rfl rfl rfl rfl)⟩ rfl
 replace hd := (iO hd)
 replace h := h.2 hd
 exact gR 3 rfl <| go_xloopE <| gR 2 rfl <| gJ (h K hK) [0, 1, 2, 3, 4, 5] [0] rfl hK pq4 ⟨⟨_, rfl, rfl, rfl, (ah _ b).symm⟩, ⟨_, rfl, rfl, rfl, (vI _ a).symm⟩, ⟨_, rfl, rfl, rfl, (vI _ c).symm⟩, (pqo3 rfl rfl rfl rfl rfl rfl)⟩ rfl
 refine gF 38 rfl hd rfl ?_
 replace hd := (ne_of_beq_false hd)
 replace h := h.2 hd
 exact gR 9 rfl <| go_xloopE <| gR 2 rfl <| gJ (h K hK) [0, 1, 2, 3, 4, 5] [0] rfl hK pq4 ⟨⟨_, rfl, rfl, rfl, (ah _ b).symm⟩, ⟨_, rfl, rfl, rfl, (vI _ a).symm⟩, ⟨_, rfl, rfl, rfl, (vI _ c).symm⟩, (pqo3 rfl rfl rfl rfl rfl rfl)⟩ rfl
theorem dP (m : Nat) (g : Int) (i : List UInt8) (b : (List (List UInt8))) (z : List GToken) (α : Int) (β : List UInt8) (γ δ : Int) (f : (List (List UInt8))) (a : List Tree) (r0 : Tree) (s : List GToken) (e : Int) (c : List UInt8) (d t : Int) (h : ∃ v k l n o p, aH z α β γ δ v k l n o p ∧ ((v = 1) → (((a.length : Int) = 8) → ∃ w x y q r, aZ k l n o p 3 w x y q r ∧ cI m g i b f w x y q r a r0 s e c d t) ∧ (((a.length : Int) ≠ 8) → cI m g i b f k l n o p a r0 s e c d t)) ∧ ((v ≠ 1) → cI m g i b f k l n o p a r0 s e c d t)) : dZ (m + 1) g i b z α β γ δ f a r0 s e c d t := by
 intro K j1 hK hj1
 obtain ⟨j1, rfl⟩ : ∃ j, j1 = j + 1 := ⟨j1 - 1, by omega⟩
 refine gR 4 rfl ?_
 obtain ⟨v, k, l, n, o, p, hs205, h⟩ := h
 refine gCY hs205 [0] ?_
 refine gR 2 rfl <| gB 58 rfl rfl rfl ?_ ?_ <;> intro hd
 refine gT 57 rfl hd rfl ?_
 replace hd := (eq_of_beq hd)
 replace h := h.1 hd
 refine gR 3 rfl <| gV 61 (.int .i64 (a.length : Int)) rfl (bC (av _)) rfl <| gLO 5 rfl (av _) fun hl206 => gR 4 rfl <| gB 63 rfl rfl rfl ?_ ?_ <;> intro hd
 replace hd := (eq_of_beq hd)
 replace h := h.1 hd
 refine gR 3 rfl ?_
 obtain ⟨w, x, y, q, r, hs207, h⟩ := h
 refine gCY hs207 [0] ?_
 exact gR 2 rfl <| gJ (h K _ hK (by omega)) [0, 1, 2, 3, 4, 5] [0] rfl hK pq4 ⟨⟨_, rfl, rfl, rfl, (ah _ a).symm⟩, ⟨_, rfl, rfl, rfl, (vI _ b).symm⟩, ⟨_, rfl, rfl, rfl, (vI _ f).symm⟩, (pqo3 rfl rfl rfl rfl rfl rfl)⟩ rfl
 replace hd := (ne_of_beq_false hd)
 replace h := h.2 hd
 exact gR 3 rfl <| gJ (h K _ hK (by omega)) [0, 1, 2, 3, 4, 5] [0] rfl hK pq4 ⟨⟨_, rfl, rfl, rfl, (ah _ a).symm⟩, ⟨_, rfl, rfl, rfl, (vI _ b).symm⟩, ⟨_, rfl, rfl, rfl, (vI _ f).symm⟩, (pqo3 rfl rfl rfl rfl rfl rfl)⟩ rfl
 refine gF 57 rfl hd rfl ?_
 replace hd := (ne_of_beq_false hd)
 replace h := h.2 hd
 exact gR 10 rfl <| gJ (h K _ hK (by omega)) [0, 1, 2, 3, 4, 5] [0] rfl hK pq4 ⟨⟨_, rfl, rfl, rfl, (ah _ a).symm⟩, ⟨_, rfl, rfl, rfl, (vI _ b).symm⟩, ⟨_, rfl, rfl, rfl, (vI _ f).symm⟩, (pqo3 rfl rfl rfl rfl rfl rfl)⟩ rfl
theorem lE (m : Nat) (δ : Int) (ε : List UInt8) (t : (List (List UInt8))) (ο : List GToken) (π : Int) (τ : List UInt8) (υ φ : Int) (ζ : List Tree) (d : (List (List UInt8))) (r0 : Tree) (χ : List GToken) (γ : Int) (r : List UInt8) (s ψ : Int) (h : ∃ η θ ι κ μ ν ξ p q, al ο π τ υ φ δ ε t ζ [41] η θ ι κ μ ν ξ p q ∧ ∃ e f g k l n o c a, al η θ ι κ μ ν ξ p q [58] e f g k l n o c a ∧ ∃ b v x y z α, cg e f g k l b v x y z α ∧ (a ++ [(Tree.node 0 [] [] [])]).length ≤ 1000000000 ∧ ∃ β, (a ++ [(Tree.node 0 [] [] [])])[a.length]? = some β ∧ fx m n o c a b v x y z α d r0 χ γ r s ψ) : dW (m + 1) δ ε t ο π τ υ φ ζ d r0 χ γ r s ψ := by
 intro K hK
 refine gR 3 rfl ?_
 obtain ⟨η, θ, ι, κ, μ, ν, ξ, p, q, hs208, h⟩ := h
 refine gCZ hs208 [0, 2, 4, 5] ⟨⟨_, rfl, ⟨rfl, rfl, (ah _ ζ).symm⟩⟩, ⟨⟨_, rfl, ⟨rfl, rfl, (vI _ t).symm⟩⟩, ⟨⟨_, rfl, ⟨rfl, ak.rfl⟩⟩, ⟨⟨_, rfl, ⟨rfl, ak.rfl⟩⟩, trivial⟩⟩⟩⟩ ?_
 refine gHR 8 (List.map V.str p) rfl (vI _ p) rfl <| gHR 9 (kidsV q) rfl (ah _ q) rfl <| gR 5 rfl ?_
 obtain ⟨e, f, g, k, l, n, o, c, a, hs209, h⟩ := h
 refine gCZ hs209 [0, 2, 8, 9] ⟨⟨_, rfl, ⟨rfl, rfl, (ah _ q).symm⟩⟩, ⟨⟨_, rfl, ⟨rfl, rfl, (vI _ p).symm⟩⟩, ⟨⟨_, rfl, ⟨rfl, ak.rfl⟩⟩, ⟨⟨_, rfl, ⟨rfl, ak.rfl⟩⟩, trivial⟩⟩⟩⟩ ?_
 refine gHR 12 (List.map V.str c) rfl (vI _ c) rfl <| gHR 13 (kidsV a) rfl (ah _ a) rfl <| gR 2 rfl <| go_sub (F' := (mkF 118 0 [(0, .ptr 0 0), (2, .ptr 1 0), (4, .ptr 2 0), (5, .sl 3)])) (H' := ⟨6, [(5, .row 26 4 (kidsV a)), (4, .row 9 1 (List.map V.str c)), (3, .row 9 1 (List.map V.str d)), (2, vH n o), (1, vB 0 []), (0, vA e f g k l)]⟩) [0, 1, 2, 3, 12, 13] [0] rfl hK pq4 ⟨⟨_, rfl, rfl, rfl, (ah _ a).symm⟩, ⟨_, rfl, rfl, rfl, (vI _ c).symm⟩, ⟨_, rfl, rfl, rfl, (vI _ d).symm⟩, (pqo3 rfl rfl rfl rfl rfl rfl)⟩ rfl ?_
 refine gR 1 rfl <| gDs [2] 6 11 rfl (by kernel_rfl) (by kernel_rfl) <| gDr [(0, 2), (1, 3), (2, 2), (4, 2)] (by kernel_rfl) rfl rfl <| gV 96 (.int .i64 (a.length : Int)) rfl (bC (av _)) rfl <| gLO 5 rfl (av _) fun hl213 => ?_
 obtain ⟨b, v, x, y, z, α, hs214, h⟩ := h
 apply aF (i := 3) (j := 5) (by kernel_rfl) rfl rfl rfl rfl
 exact (de (L' := [2]) (by kernel_rfl) rfl rfl (df (H := ⟨6, [(5, .row 26 4 (kidsV a)), (4, .row 9 1 (List.map V.str c)), (3, .row 9 1 (List.map V.str d)), (2, vH n o), (1, vB 0 []), (0, vA e f g k l)]⟩) hs214 [0] .rfl ⟨⟨_, rfl, ⟨rfl, ak.rfl⟩⟩, trivial⟩ rfl [2] rfl) (.inl rfl))
 exact (aD aa rfl rfl)
 refine gDr [(5, 0)] (by kernel_rfl) rfl rfl <| gHX 8 [.agg [.int .i64 0, .str [], .row 1 [], .row 4 (kidsV [])]] rfl (.cons (.agg (.cons .rfl (.cons .rfl (.cons (.nil 1) (.cons (.nil 4) .nil))))) .nil) rfl <| gHR 8 (kidsV [(Tree.node 0 [] [] [])]) rfl (bv (Tree.node 0 [] [] [])) rfl ?_
 obtain ⟨hb, h⟩ := h
 refine ax 6 (.repl 5 (.row 26 4 (kidsV (a ++ [(Tree.node 0 [] [] [])])))) rfl (by kernel_rfl) (bu aa rfl rfl rfl rfl rfl (aC a [(Tree.node 0 [] [] [])]).symm (by rw [av]; exact hb)) (okR rfl) rfl (by kernel_rfl) rfl rfl ?_
 obtain ⟨β, hxt4_25, h⟩ := h
 refine gYd 7 rfl (by kernel_rfl) (yIO aa rfl rfl rfl rfl (by have := (ae hxt4_25); exact (List.getElem?_eq_some_iff.1 this).1)) rfl rfl ?_
 refine gDr [(9, 2)] (by kernel_rfl) rfl rfl ?_
 apply aF (i := 8) (j := 10) (by kernel_rfl) rfl rfl rfl rfl
 exact (ba (.set 9 (.row 26 4 (kidsV ((a ++ [(Tree.node 0 [] [] [])]).set a.length b)))) (dSe aa rfl rfl rfl rfl (ae hxt4_25) rfl (bp (a ++ [(Tree.node 0 [] [] [])]) a.length b)) (okS rfl) (by kernel_rfl))
 exact (aD aa rfl rfl)
 exact gDr [(10, 1)] (by kernel_rfl) rfl rfl <| gDe (by kernel_rfl) <| gJ (h K hK) [0, 1, 2, 3, 4, 9] [0] rfl hK pq4 ⟨⟨_, rfl, rfl, rfl, (ah _ ((a ++ [(Tree.node 0 [] [] [])]).set a.length b)).symm⟩, ⟨_, rfl, rfl, rfl, (vI _ c).symm⟩, ⟨_, rfl, rfl, rfl, (vI _ d).symm⟩, (pqo3 rfl rfl rfl rfl rfl rfl)⟩ rfl
 refine ax 8 (.set 9 (.row 26 4 (kidsV ((a ++ [(Tree.node 0 [] [] [])]).set a.length b)))) rfl (by kernel_rfl) (dSe aa rfl rfl rfl rfl (ae hxt4_25) rfl (bp (a ++ [(Tree.node 0 [] [] [])]) a.length b)) (okS rfl) rfl (by kernel_rfl) rfl rfl ?_
 exact gDe (by kernel_rfl) <| gJ (h K hK) [0, 1, 2, 3, 4, 9] [0] rfl hK pq4 ⟨⟨_, rfl, rfl, rfl, (ah _ ((a ++ [(Tree.node 0 [] [] [])]).set a.length b)).symm⟩, ⟨_, rfl, rfl, rfl, (vI _ c).symm⟩, ⟨_, rfl, rfl, rfl, (vI _ d).symm⟩, (pqo3 rfl rfl rfl rfl rfl rfl)⟩ rfl
 refine gHX 6 [.agg [.int .i64 0, .str [], .row 1 [], .row 4 (kidsV [])]] rfl (.cons (.agg (.cons .rfl (.cons .rfl (.cons (.nil 1) (.cons (.nil 4) .nil))))) .nil) rfl ?_
 refine gHR 6 (kidsV [(Tree.node 0 [] [] [])]) rfl (bv (Tree.node 0 [] [] [])) rfl <| gDCY 3 hs214 [0] rfl ?_
 obtain ⟨hb, h⟩ := h
 refine ax 6 (.repl 5 (.row 26 4 (kidsV (a ++ [(Tree.node 0 [] [] [])])))) rfl (by kernel_rfl) (bu aa rfl rfl rfl rfl rfl (aC a [(Tree.node 0 [] [] [])]).symm (by rw [av]; exact hb)) (okR rfl) rfl (by kernel_rfl) rfl rfl ?_
 obtain ⟨β, hxt4_25, h⟩ := h
 refine gYd 7 rfl (by kernel_rfl) (yIO aa rfl rfl rfl rfl (by have := (ae hxt4_25); exact (List.getElem?_eq_some_iff.1 this).1)) rfl rfl ?_
 refine gDr [(9, 2)] (by kernel_rfl) rfl rfl ?_
 apply aF (i := 8) (j := 10) (by kernel_rfl) rfl rfl rfl rfl
 exact (ba (.set 9 (.row 26 4 (kidsV ((a ++ [(Tree.node 0 [] [] [])]).set a.length b)))) (dSe aa rfl rfl rfl rfl (ae hxt4_25) rfl (bp (a ++ [(Tree.node 0 [] [] [])]) a.length b)) (okS rfl) (by kernel_rfl))
 exact (aD aa rfl rfl)
 exact gDr [(10, 1)] (by kernel_rfl) rfl rfl <| gDe (by kernel_rfl) <| gJ (h K hK) [0, 1, 2, 3, 4, 9] [0] rfl hK pq4 ⟨⟨_, rfl, rfl, rfl, (ah _ ((a ++ [(Tree.node 0 [] [] [])]).set a.length b)).symm⟩, ⟨_, rfl, rfl, rfl, (vI _ c).symm⟩, ⟨_, rfl, rfl, rfl, (vI _ d).symm⟩, (pqo3 rfl rfl rfl rfl rfl rfl)⟩ rfl
 refine ax 8 (.set 9 (.row 26 4 (kidsV ((a ++ [(Tree.node 0 [] [] [])]).set a.length b)))) rfl (by kernel_rfl) (dSe aa rfl rfl rfl rfl (ae hxt4_25) rfl (bp (a ++ [(Tree.node 0 [] [] [])]) a.length b)) (okS rfl) rfl (by kernel_rfl) rfl rfl ?_
 exact gDe (by kernel_rfl) <| gJ (h K hK) [0, 1, 2, 3, 4, 9] [0] rfl hK pq4 ⟨⟨_, rfl, rfl, rfl, (ah _ ((a ++ [(Tree.node 0 [] [] [])]).set a.length b)).symm⟩, ⟨_, rfl, rfl, rfl, (vI _ c).symm⟩, ⟨_, rfl, rfl, rfl, (vI _ d).symm⟩, (pqo3 rfl rfl rfl rfl rfl rfl)⟩ rfl
theorem lK (m : Nat) (l : Int) (n : List UInt8) (d : (List (List UInt8))) (e : (List (List UInt8))) (ο : List GToken) (π : Int) (τ : List UInt8) (υ φ : Int) (f : List Tree) (r0 : Tree) (χ : List GToken) (ζ : Int) (x : List UInt8) (y ψ : Int) (h : ∃ η θ ι κ μ ν ξ g k, aS ο π τ υ φ 4 [] ([] : List (List UInt8)) ([] : List Tree) 1 η θ ι κ μ ν ξ g k ∧ ∃ o p q r s t v c a, al η θ ι κ μ ν ξ g k [58] o p q r s t v c a ∧ ∃ b z α β γ δ, cg o p q r s b z α β γ δ ∧ (a ++ [(Tree.node 0 [] [] [])]).length ≤ 1000000000 ∧ ∃ ε, (a ++ [(Tree.node 0 [] [] [])])[a.length]? = some ε ∧ iD m l n d e t v c a b z α β γ δ f r0 χ ζ x y ψ) : cI (m + 1) l n d e ο π τ υ φ f r0 χ ζ x y ψ := by
 intro K j1 hK hj1
 obtain ⟨j1, rfl⟩ : ∃ j, j1 = j + 1 := ⟨j1 - 1, by omega⟩
 refine gR 10 rfl <| gNC 6 2 9 1 rfl rfl rfl rfl <| gNC 6 3 26 4 rfl rfl rfl rfl ?_
 obtain ⟨η, θ, ι, κ, μ, ν, ξ, g, k, hs215, h⟩ := h
 refine gCZ hs215 [0, 6, 7, 8] ⟨⟨_, rfl, ⟨rfl, rfl, rfl⟩⟩, ⟨⟨_, rfl, ⟨rfl, rfl, rfl⟩⟩, ⟨⟨_, rfl, ⟨rfl, ak.rfl⟩⟩, ⟨⟨_, rfl, ⟨rfl, ak.rfl⟩⟩, trivial⟩⟩⟩⟩ ?_
 refine gHR 11 (List.map V.str g) rfl (vI _ g) rfl <| gHR 12 (kidsV k) rfl (ah _ k) rfl <| gR 2 rfl <| go_sub (F' := (mkF 118 0 [(0, .ptr 0 0), (2, .ptr 1 0), (4, .ptr 2 0), (5, .sl 3), (7, .ptr 4 0)])) (H' := ⟨9, [(8, .row 26 4 (kidsV k)), (7, .row 9 1 (List.map V.str g)), (6, .row 26 4 (kidsV f)), (5, .row 9 1 (List.map V.str d)), (4, .var 26 [.int .i64 ν, .str ξ, .sl 7, .sl 8]), (3, .row 9 1 (List.map V.str e)), (2, .var 26 [.int .i64 l, .str n, .sl 5, .sl 6]), (1, vB 0 []), (0, vA η θ ι κ μ)]⟩) [0, 1, 2, 3, 6, 4, 5, 11, 12] [0] rfl hK pq5 ⟨⟨_, rfl, rfl, rfl, (ah _ k).symm⟩, ⟨_, rfl, rfl, rfl, (vI _ g).symm⟩, ⟨_, rfl, rfl, rfl, (ah _ f).symm⟩, ⟨_, rfl, rfl, rfl, (vI _ d).symm⟩, pqo rfl rfl, ⟨_, rfl, rfl, rfl, (vI _ e).symm⟩, (pqo3 rfl rfl rfl rfl rfl rfl)⟩ rfl ?_
 refine gR 3 rfl ?_
 obtain ⟨o, p, q, r, s, t, v, c, a, hs216, h⟩ := h
 refine gCZ hs216 [0, 4, 7, 8] ⟨⟨_, rfl, ⟨rfl, rfl, (ah _ k).symm⟩⟩, ⟨⟨_, rfl, ⟨rfl, rfl, (vI _ g).symm⟩⟩, ⟨⟨_, rfl, ⟨rfl, ak.rfl⟩⟩, ⟨⟨_, rfl, ⟨rfl, ak.rfl⟩⟩, trivial⟩⟩⟩⟩ ?_
 refine gHR 11 (List.map V.str c) rfl (vI _ c) rfl <| gHR 12 (kidsV a) rfl (ah _ a) rfl <| gR 3 rfl <| go_sub (F' := (mkF 118 0 [(0, .ptr 0 0), (2, .ptr 1 0), (4, .ptr 2 0), (5, .sl 3), (7, .ptr 4 0)])) (H' := ⟨9, [(8, .row 26 4 (kidsV a)), (7, .row 9 1 (List.map V.str c)), (6, .row 26 4 (kidsV f)), (5, .row 9 1 (List.map V.str d)), (4, .var 26 [.int .i64 t, .str v, .sl 7, .sl 8]), (3, .row 9 1 (List.map V.str e)), (2, .var 26 [.int .i64 l, .str n, .sl 5, .sl 6]), (1, vB 0 []), (0, vA o p q r s)]⟩) [0, 1, 2, 3, 4, 5, 6, 11, 12] [0] rfl hK pq5 ⟨⟨_, rfl, rfl, rfl, (ah _ a).symm⟩, ⟨_, rfl, rfl, rfl, (vI _ c).symm⟩, ⟨_, rfl, rfl, rfl, (ah _ f).symm⟩, ⟨_, rfl, rfl, rfl, (vI _ d).symm⟩, pqo rfl rfl, ⟨_, rfl, rfl, rfl, (vI _ e).symm⟩, (pqo3 rfl rfl rfl rfl rfl rfl)⟩ rfl ?_
 refine gDs [4] 6 11 rfl (by kernel_rfl) (by kernel_rfl) ?_
 refine gDr [(0, 2), (1, 3), (2, 2), (4, 2)] (by kernel_rfl) rfl rfl <| gV 75 (.int .i64 (a.length : Int)) rfl (bC (av _)) rfl <| gLO 8 rfl (av _) fun hl220 => ?_
 obtain ⟨b, z, α, β, γ, δ, hs221, h⟩ := h
 apply aF (i := 3) (j := 5) (by kernel_rfl) rfl rfl rfl rfl
 exact (de (L' := [4]) (by kernel_rfl) rfl rfl (df (H := ⟨9, [(8, .row 26 4 (kidsV a)), (7, .row 9 1 (List.map V.str c)), (6, .row 26 4 (kidsV f)), (5, .row 9 1 (List.map V.str d)), (4, .var 26 [.int .i64 t, .str v, .sl 7, .sl 8]), (3, .row 9 1 (List.map V.str e)), (2, .var 26 [.int .i64 l, .str n, .sl 5, .sl 6]), (1, vB 0 []), (0, vA o p q r s)]⟩) hs221 [0] .rfl ⟨⟨_, rfl, ⟨rfl, ak.rfl⟩⟩, trivial⟩ rfl [4] rfl) (.inl rfl))
 exact (aD aa rfl rfl)
 refine gDr [(5, 0)] (by kernel_rfl) rfl rfl <| gHX 11 [.agg [.int .i64 0, .str [], .row 1 [], .row 4 (kidsV [])]] rfl (.cons (.agg (.cons .rfl (.cons .rfl (.cons (.nil 1) (.cons (.nil 4) .nil))))) .nil) rfl <| gHR 11 (kidsV [(Tree.node 0 [] [] [])]) rfl (bv (Tree.node 0 [] [] [])) rfl ?_
 obtain ⟨hb, h⟩ := h
 refine ax 6 (.repl 8 (.row 26 4 (kidsV (a ++ [(Tree.node 0 [] [] [])])))) rfl (by kernel_rfl) (bu aa rfl rfl rfl rfl rfl (aC a [(Tree.node 0 [] [] [])]).symm (by rw [av]; exact hb)) (okR rfl) rfl (by kernel_rfl) rfl rfl ?_
 obtain ⟨ε, hxt5_25, h⟩ := h
 refine gYd 7 rfl (by kernel_rfl) (yIO aa rfl rfl rfl rfl (by have := (ae hxt5_25); exact (List.getElem?_eq_some_iff.1 this).1)) rfl rfl ?_
 refine gDr [(9, 2)] (by kernel_rfl) rfl rfl ?_
 apply aF (i := 8) (j := 10) (by kernel_rfl) rfl rfl rfl rfl
 exact (ba (.set 12 (.row 26 4 (kidsV ((a ++ [(Tree.node 0 [] [] [])]).set a.length b)))) (dSe aa rfl rfl rfl rfl (ae hxt5_25) rfl (bp (a ++ [(Tree.node 0 [] [] [])]) a.length b)) (okS rfl) (by kernel_rfl))
 exact (aD aa rfl rfl)
 exact gDr [(10, 1)] (by kernel_rfl) rfl rfl <| gDe (by kernel_rfl) <| gJ (h K _ hK (by omega)) [0, 1, 2, 3, 4, 5, 6, 7, 12] [0] rfl hK pq5 ⟨⟨_, rfl, rfl, rfl, (ah _ ((a ++ [(Tree.node 0 [] [] [])]).set a.length b)).symm⟩, ⟨_, rfl, rfl, rfl, (vI _ c).symm⟩, ⟨_, rfl, rfl, rfl, (ah _ f).symm⟩, ⟨_, rfl, rfl, rfl, (vI _ d).symm⟩, pqo rfl rfl, ⟨_, rfl, rfl, rfl, (vI _ e).symm⟩, (pqo3 rfl rfl rfl rfl rfl rfl)⟩ rfl
 refine ax 8 (.set 12 (.row 26 4 (kidsV ((a ++ [(Tree.node 0 [] [] [])]).set a.length b)))) rfl (by kernel_rfl) (dSe aa rfl rfl rfl rfl (ae hxt5_25) rfl (bp (a ++ [(Tree.node 0 [] [] [])]) a.length b)) (okS rfl) rfl (by kernel_rfl) rfl rfl ?_
 exact gDe (by kernel_rfl) <| gJ (h K _ hK (by omega)) [0, 1, 2, 3, 4, 5, 6, 7, 12] [0] rfl hK pq5 ⟨⟨_, rfl, rfl, rfl, (ah _ ((a ++ [(Tree.node 0 [] [] [])]).set a.length b)).symm⟩, ⟨_, rfl, rfl, rfl, (vI _ c).symm⟩, ⟨_, rfl, rfl, rfl, (ah _ f).symm⟩, ⟨_, rfl, rfl, rfl, (vI _ d).symm⟩, pqo rfl rfl, ⟨_, rfl, rfl, rfl, (vI _ e).symm⟩, (pqo3 rfl rfl rfl rfl rfl rfl)⟩ rfl
 refine gHX 9 [.agg [.int .i64 0, .str [], .row 1 [], .row 4 (kidsV [])]] rfl (.cons (.agg (.cons .rfl (.cons .rfl (.cons (.nil 1) (.cons (.nil 4) .nil))))) .nil) rfl ?_
 refine gHR 9 (kidsV [(Tree.node 0 [] [] [])]) rfl (bv (Tree.node 0 [] [] [])) rfl <| gDCY 3 hs221 [0] rfl ?_
 obtain ⟨hb, h⟩ := h
 refine ax 6 (.repl 8 (.row 26 4 (kidsV (a ++ [(Tree.node 0 [] [] [])])))) rfl (by kernel_rfl) (bu aa rfl rfl rfl rfl rfl (aC a [(Tree.node 0 [] [] [])]).symm (by rw [av]; exact hb)) (okR rfl) rfl (by kernel_rfl) rfl rfl ?_
 obtain ⟨ε, hxt5_25, h⟩ := h
 refine gYd 7 rfl (by kernel_rfl) (yIO aa rfl rfl rfl rfl (by have := (ae hxt5_25); exact (List.getElem?_eq_some_iff.1 this).1)) rfl rfl ?_
 refine gDr [(9, 2)] (by kernel_rfl) rfl rfl ?_
 apply aF (i := 8) (j := 10) (by kernel_rfl) rfl rfl rfl rfl
 exact (ba (.set 12 (.row 26 4 (kidsV ((a ++ [(Tree.node 0 [] [] [])]).set a.length b)))) (dSe aa rfl rfl rfl rfl (ae hxt5_25) rfl (bp (a ++ [(Tree.node 0 [] [] [])]) a.length b)) (okS rfl) (by kernel_rfl))
 exact (aD aa rfl rfl)
 exact gDr [(10, 1)] (by kernel_rfl) rfl rfl <| gDe (by kernel_rfl) <| gJ (h K _ hK (by omega)) [0, 1, 2, 3, 4, 5, 6, 7, 12] [0] rfl hK pq5 ⟨⟨_, rfl, rfl, rfl, (ah _ ((a ++ [(Tree.node 0 [] [] [])]).set a.length b)).symm⟩, ⟨_, rfl, rfl, rfl, (vI _ c).symm⟩, ⟨_, rfl, rfl, rfl, (ah _ f).symm⟩, ⟨_, rfl, rfl, rfl, (vI _ d).symm⟩, pqo rfl rfl, ⟨_, rfl, rfl, rfl, (vI _ e).symm⟩, (pqo3 rfl rfl rfl rfl rfl rfl)⟩ rfl
 refine ax 8 (.set 12 (.row 26 4 (kidsV ((a ++ [(Tree.node 0 [] [] [])]).set a.length b)))) rfl (by kernel_rfl) (dSe aa rfl rfl rfl rfl (ae hxt5_25) rfl (bp (a ++ [(Tree.node 0 [] [] [])]) a.length b)) (okS rfl) rfl (by kernel_rfl) rfl rfl ?_
 exact gDe (by kernel_rfl) <| gJ (h K _ hK (by omega)) [0, 1, 2, 3, 4, 5, 6, 7, 12] [0] rfl hK pq5 ⟨⟨_, rfl, rfl, rfl, (ah _ ((a ++ [(Tree.node 0 [] [] [])]).set a.length b)).symm⟩, ⟨_, rfl, rfl, rfl, (vI _ c).symm⟩, ⟨_, rfl, rfl, rfl, (ah _ f).symm⟩, ⟨_, rfl, rfl, rfl, (vI _ d).symm⟩, pqo rfl rfl, ⟨_, rfl, rfl, rfl, (vI _ e).symm⟩, (pqo3 rfl rfl rfl rfl rfl rfl)⟩ rfl
theorem lN (m : Nat) (δ : Int) (ε : List UInt8) (s : (List (List UInt8))) (e : List Tree) (t : Tree) (ζ : List GToken) (η : Int) (θ : List UInt8) (ι κ : Int) (d : (List (List UInt8))) (r0 : Tree) (μ : List GToken) (γ : Int) (f : List UInt8) (g ν : Int) (h : ∃ k l n o p q r c a, al ζ η θ ι κ δ ε s ((e ++ [(Tree.node 0 [] [] [])]).set e.length t) [61] k l n o p q r c a ∧ ∃ b v x y z α, bh k l n o p b v x y z α ∧ (a ++ [(Tree.node 0 [] [] [])]).length ≤ 1000000000 ∧ ∃ β, (a ++ [(Tree.node 0 [] [] [])])[a.length]? = some β ∧ iP m q r c a b v x y z α d r0 μ γ f g ν) : fx (m + 1) δ ε s e t ζ η θ ι κ d r0 μ γ f g ν := by
 intro K hK
 refine gR 4 rfl ?_
 obtain ⟨k, l, n, o, p, q, r, c, a, hs222, h⟩ := h
 refine gCZ hs222 [0, 2, 4, 5] ⟨⟨_, rfl, ⟨rfl, rfl, (ah _ ((e ++ [(Tree.node 0 [] [] [])]).set e.length t)).symm⟩⟩, ⟨⟨_, rfl, ⟨rfl, rfl, (vI _ s).symm⟩⟩, ⟨⟨_, rfl, ⟨rfl, ak.rfl⟩⟩, ⟨⟨_, rfl, ⟨rfl, ak.rfl⟩⟩, trivial⟩⟩⟩⟩ ?_
 refine gHR 8 (List.map V.str c) rfl (vI _ c) rfl <| gHR 9 (kidsV a) rfl (ah _ a) rfl <| gR 3 rfl <| go_sub (F' := (mkF 118 0 [(0, .ptr 0 0), (2, .ptr 1 0), (4, .ptr 2 0), (5, .sl 3)])) (H' := ⟨6, [(5, .row 26 4 (kidsV a)), (4, .row 9 1 (List.map V.str c)), (3, .row 9 1 (List.map V.str d)), (2, vH q r), (1, vB 0 []), (0, vA k l n o p)]⟩) [0, 1, 2, 3, 8, 9] [0] rfl hK pq4 ⟨⟨_, rfl, rfl, rfl, (ah _ a).symm⟩, ⟨_, rfl, rfl, rfl, (vI _ c).symm⟩, ⟨_, rfl, rfl, rfl, (vI _ d).symm⟩, (pqo3 rfl rfl rfl rfl rfl rfl)⟩ rfl ?_
 refine gDs [2] 6 11 rfl (by kernel_rfl) (by kernel_rfl) ?_
 refine gDr [(0, 2), (1, 3), (2, 2), (4, 2)] (by kernel_rfl) rfl rfl <| gV 107 (.int .i64 (a.length : Int)) rfl (bC (av _)) rfl <| gLO 5 rfl (av _) fun hl226 => ?_
 obtain ⟨b, v, x, y, z, α, hs227, h⟩ := h
 apply aF (i := 3) (j := 5) (by kernel_rfl) rfl rfl rfl rfl
 exact (de (L' := [2]) (by kernel_rfl) rfl rfl (df (H := ⟨6, [(5, .row 26 4 (kidsV a)), (4, .row 9 1 (List.map V.str c)), (3, .row 9 1 (List.map V.str d)), (2, vH q r), (1, vB 0 []), (0, vA k l n o p)]⟩) hs227 [0] .rfl ⟨⟨_, rfl, ⟨rfl, ak.rfl⟩⟩, trivial⟩ rfl [2] rfl) (.inl rfl))
 exact (aD aa rfl rfl)
 refine gDr [(5, 0)] (by kernel_rfl) rfl rfl <| gHX 8 [.agg [.int .i64 0, .str [], .row 1 [], .row 4 (kidsV [])]] rfl (.cons (.agg (.cons .rfl (.cons .rfl (.cons (.nil 1) (.cons (.nil 4) .nil))))) .nil) rfl <| gHR 8 (kidsV [(Tree.node 0 [] [] [])]) rfl (bv (Tree.node 0 [] [] [])) rfl ?_
 obtain ⟨hb, h⟩ := h
 refine ax 6 (.repl 5 (.row 26 4 (kidsV (a ++ [(Tree.node 0 [] [] [])])))) rfl (by kernel_rfl) (bu aa rfl rfl rfl rfl rfl (aC a [(Tree.node 0 [] [] [])]).symm (by rw [av]; exact hb)) (okR rfl) rfl (by kernel_rfl) rfl rfl ?_
 obtain ⟨β, hxt6_16, h⟩ := h
 refine gYd 7 rfl (by kernel_rfl) (yIO aa rfl rfl rfl rfl (by have := (ae hxt6_16); exact (List.getElem?_eq_some_iff.1 this).1)) rfl rfl ?_
 refine gDr [(9, 2)] (by kernel_rfl) rfl rfl ?_
 apply aF (i := 8) (j := 10) (by kernel_rfl) rfl rfl rfl rfl
 exact (ba (.set 9 (.row 26 4 (kidsV ((a ++ [(Tree.node 0 [] [] [])]).set a.length b)))) (dSe aa rfl rfl rfl rfl (ae hxt6_16) rfl (bp (a ++ [(Tree.node 0 [] [] [])]) a.length b)) (okS rfl) (by kernel_rfl))
 exact (aD aa rfl rfl)
 exact gDr [(10, 1)] (by kernel_rfl) rfl rfl <| gDe (by kernel_rfl) <| gJ (h K hK) [0, 1, 2, 3, 4, 9] [0] rfl hK pq3 ⟨⟨_, rfl, rfl, rfl, (ah _ ((a ++ [(Tree.node 0 [] [] [])]).set a.length b)).symm⟩, ⟨_, rfl, rfl, rfl, (vI _ c).symm⟩, ⟨_, rfl, rfl, rfl, (vI _ d).symm⟩, (pqo3 rfl rfl rfl rfl rfl rfl)⟩ rfl
 refine ax 8 (.set 9 (.row 26 4 (kidsV ((a ++ [(Tree.node 0 [] [] [])]).set a.length b)))) rfl (by kernel_rfl) (dSe aa rfl rfl rfl rfl (ae hxt6_16) rfl (bp (a ++ [(Tree.node 0 [] [] [])]) a.length b)) (okS rfl) rfl (by kernel_rfl) rfl rfl ?_
 exact gDe (by kernel_rfl) <| gJ (h K hK) [0, 1, 2, 3, 4, 9] [0] rfl hK pq3 ⟨⟨_, rfl, rfl, rfl, (ah _ ((a ++ [(Tree.node 0 [] [] [])]).set a.length b)).symm⟩, ⟨_, rfl, rfl, rfl, (vI _ c).symm⟩, ⟨_, rfl, rfl, rfl, (vI _ d).symm⟩, (pqo3 rfl rfl rfl rfl rfl rfl)⟩ rfl
 refine gHX 6 [.agg [.int .i64 0, .str [], .row 1 [], .row 4 (kidsV [])]] rfl (.cons (.agg (.cons .rfl (.cons .rfl (.cons (.nil 1) (.cons (.nil 4) .nil))))) .nil) rfl ?_
 refine gHR 6 (kidsV [(Tree.node 0 [] [] [])]) rfl (bv (Tree.node 0 [] [] [])) rfl <| gDCY 3 hs227 [0] rfl ?_
 obtain ⟨hb, h⟩ := h
 refine ax 6 (.repl 5 (.row 26 4 (kidsV (a ++ [(Tree.node 0 [] [] [])])))) rfl (by kernel_rfl) (bu aa rfl rfl rfl rfl rfl (aC a [(Tree.node 0 [] [] [])]).symm (by rw [av]; exact hb)) (okR rfl) rfl (by kernel_rfl) rfl rfl ?_
 obtain ⟨β, hxt6_16, h⟩ := h
 refine gYd 7 rfl (by kernel_rfl) (yIO aa rfl rfl rfl rfl (by have := (ae hxt6_16); exact (List.getElem?_eq_some_iff.1 this).1)) rfl rfl ?_
 refine gDr [(9, 2)] (by kernel_rfl) rfl rfl ?_
 apply aF (i := 8) (j := 10) (by kernel_rfl) rfl rfl rfl rfl
 exact (ba (.set 9 (.row 26 4 (kidsV ((a ++ [(Tree.node 0 [] [] [])]).set a.length b)))) (dSe aa rfl rfl rfl rfl (ae hxt6_16) rfl (bp (a ++ [(Tree.node 0 [] [] [])]) a.length b)) (okS rfl) (by kernel_rfl))
 exact (aD aa rfl rfl)
 exact gDr [(10, 1)] (by kernel_rfl) rfl rfl <| gDe (by kernel_rfl) <| gJ (h K hK) [0, 1, 2, 3, 4, 9] [0] rfl hK pq3 ⟨⟨_, rfl, rfl, rfl, (ah _ ((a ++ [(Tree.node 0 [] [] [])]).set a.length b)).symm⟩, ⟨_, rfl, rfl, rfl, (vI _ c).symm⟩, ⟨_, rfl, rfl, rfl, (vI _ d).symm⟩, (pqo3 rfl rfl rfl rfl rfl rfl)⟩ rfl
 refine ax 8 (.set 9 (.row 26 4 (kidsV ((a ++ [(Tree.node 0 [] [] [])]).set a.length b)))) rfl (by kernel_rfl) (dSe aa rfl rfl rfl rfl (ae hxt6_16) rfl (bp (a ++ [(Tree.node 0 [] [] [])]) a.length b)) (okS rfl) rfl (by kernel_rfl) rfl rfl ?_
 exact gDe (by kernel_rfl) <| gJ (h K hK) [0, 1, 2, 3, 4, 9] [0] rfl hK pq3 ⟨⟨_, rfl, rfl, rfl, (ah _ ((a ++ [(Tree.node 0 [] [] [])]).set a.length b)).symm⟩, ⟨_, rfl, rfl, rfl, (vI _ c).symm⟩, ⟨_, rfl, rfl, rfl, (vI _ d).symm⟩, (pqo3 rfl rfl rfl rfl rfl rfl)⟩ rfl
theorem lJ (m : Nat) (p : Int) (q : List UInt8) (g : (List (List UInt8))) (n : (List (List UInt8))) (c : Int) (d : List UInt8) (e : (List (List UInt8))) (b : List Tree) (f : Tree) (r : List GToken) (s : Int) (t : List UInt8) (v w : Int) (a : List Tree) (r0 : Tree) (x : List GToken) (o : Int) (k : List UInt8) (l y : Int) (h : (a ++ [(Tree.node 0 [] [] [])]).length ≤ 1000000000 ∧ ∃ z, (a ++ [(Tree.node 0 [] [] [])])[a.length]? = some z ∧ iz m p q g n r s t v w ((a ++ [(Tree.node 0 [] [] [])]).set a.length (Tree.node c d e ((b ++ [(Tree.node 0 [] [] [])]).set b.length f))) r0 x o k l y) : iD (m + 1) p q g n c d e b f r s t v w a r0 x o k l y := by
 intro K j1 hK hj1
 obtain ⟨j1, rfl⟩ : ∃ j, j1 = j + 1 := ⟨j1 - 1, by omega⟩
 refine gR 1 rfl <| gDs [2, 4] 5 10 rfl (by kernel_rfl) (by kernel_rfl) <| gDr [(0, 2), (1, 3), (2, 3), (3, 2)] (by kernel_rfl) rfl rfl <| gV 83 (.int .i64 (a.length : Int)) rfl (bC (av _)) rfl <| gLO 6 rfl (av _) fun hl231 => gDr [(4, 0)] (by kernel_rfl) rfl rfl <| gHX 9 [.agg [.int .i64 0, .str [], .row 1 [], .row 4 (kidsV [])]] rfl (.cons (.agg (.cons .rfl (.cons .rfl (.cons (.nil 1) (.cons (.nil 4) .nil))))) .nil) rfl <| gHR 9 (kidsV [(Tree.node 0 [] [] [])]) rfl (bv (Tree.node 0 [] [] [])) rfl ?_
 obtain ⟨hb, h⟩ := h
 refine ax 5 (.repl 6 (.row 26 4 (kidsV (a ++ [(Tree.node 0 [] [] [])])))) rfl (by kernel_rfl) (bu aa rfl rfl rfl rfl rfl (aC a [(Tree.node 0 [] [] [])]).symm (by rw [av]; exact hb)) (okR rfl) rfl (by kernel_rfl) rfl rfl ?_
 obtain ⟨z, hxt7_1, h⟩ := h
 refine gYd 6 rfl (by kernel_rfl) (yIO aa rfl rfl rfl rfl (by have := (ae hxt7_1); exact (List.getElem?_eq_some_iff.1 this).1)) rfl rfl ?_
 refine gDr [(8, 2)] (by kernel_rfl) rfl rfl <| gFR 7 rfl (ch _ (fun _ => rfl) _) rfl rfl <| gFR 8 rfl (cm _) rfl rfl ?_
 apply aF (i := 7) (j := 9) (by kernel_rfl) rfl rfl rfl rfl
 exact (ba (.set 10 (.row 26 4 (kidsV ((a ++ [(Tree.node 0 [] [] [])]).set a.length (Tree.node c d e ((b ++ [(Tree.node 0 [] [] [])]).set b.length f)))))) (dSe aa rfl rfl rfl rfl (ae hxt7_1) rfl (bp (a ++ [(Tree.node 0 [] [] [])]) a.length (Tree.node c d e ((b ++ [(Tree.node 0 [] [] [])]).set b.length f)))) (okS rfl) (by kernel_rfl))
 exact (aD aa rfl rfl)
 exact gDr [(9, 1)] (by kernel_rfl) rfl rfl <| gDe (by kernel_rfl) <| gJ (h K _ hK (by omega)) [0, 1, 2, 3, 5, 10] [0] rfl hK pq4 ⟨⟨_, rfl, rfl, rfl, (ah _ ((a ++ [(Tree.node 0 [] [] [])]).set a.length (Tree.node c d e ((b ++ [(Tree.node 0 [] [] [])]).set b.length f)))).symm⟩, ⟨_, rfl, rfl, rfl, (vI _ g).symm⟩, ⟨_, rfl, rfl, rfl, (vI _ n).symm⟩, (pqo3 rfl rfl rfl rfl rfl rfl)⟩ rfl
 refine ax 7 (.set 10 (.row 26 4 (kidsV ((a ++ [(Tree.node 0 [] [] [])]).set a.length (Tree.node c d e ((b ++ [(Tree.node 0 [] [] [])]).set b.length f)))))) rfl (by kernel_rfl) (dSe aa rfl rfl rfl rfl (ae hxt7_1) rfl (bp (a ++ [(Tree.node 0 [] [] [])]) a.length (Tree.node c d e ((b ++ [(Tree.node 0 [] [] [])]).set b.length f)))) (okS rfl) rfl (by kernel_rfl) rfl rfl ?_
 exact gDe (by kernel_rfl) <| gJ (h K _ hK (by omega)) [0, 1, 2, 3, 5, 10] [0] rfl hK pq4 ⟨⟨_, rfl, rfl, rfl, (ah _ ((a ++ [(Tree.node 0 [] [] [])]).set a.length (Tree.node c d e ((b ++ [(Tree.node 0 [] [] [])]).set b.length f)))).symm⟩, ⟨_, rfl, rfl, rfl, (vI _ g).symm⟩, ⟨_, rfl, rfl, rfl, (vI _ n).symm⟩, (pqo3 rfl rfl rfl rfl rfl rfl)⟩ rfl
theorem lG (m : Nat) (e : Int) (g : List UInt8) (b : (List (List UInt8))) (a : List Tree) (c : Tree) (i : List GToken) (j : Int) (k : List UInt8) (l n : Int) (d : (List (List UInt8))) (r0 : Tree) (r : List GToken) (q : Int) (o : List UInt8) (p s : Int) (h : (b ++ d).length ≤ 1000000000 ∧ (Tree.node e g (b ++ d) ((a ++ [(Tree.node 0 [] [] [])]).set a.length c)) = r0 ∧ i = r ∧ j = q ∧ k = o ∧ l = p ∧ n = s) : iP (m + 1) e g b a c i j k l n d r0 r q o p s := by
 intro K hK
 refine gR 6 rfl ?_
 obtain ⟨hb, h⟩ := h
 refine gDo (.repl 4 (.row 9 1 (List.map V.str (b ++ d)))) (bu aa rfl rfl rfl rfl rfl (List.map_append (f := V.str) (l₁ := b) (l₂ := d)).symm (by rw [cQ]; exact hb)) (okR rfl) rfl rfl rfl <| gR 4 rfl <| go_sub (F' := (mkF 118 0 [(2, .ptr 1 0), (4, .ptr 2 0)])) (H' := ⟨5, [(4, .row 26 4 (kidsV ((a ++ [(Tree.node 0 [] [] [])]).set a.length c))), (3, .row 9 1 (List.map V.str (b ++ d))), (2, vD e g), (1, vB 0 []), (0, vA i j k l n)]⟩) [0, 1, 2, 6, 5] [0] rfl hK pq2 ⟨⟨_, rfl, rfl, rfl, (ah _ ((a ++ [(Tree.node 0 [] [] [])]).set a.length c)).symm⟩, ⟨_, rfl, rfl, rfl, (vI _ (b ++ d)).symm⟩, (pqo3 rfl rfl rfl rfl rfl rfl)⟩ rfl ?_
 refine gR 7 rfl <| gFR 3 rfl (ch _ (fun _ => rfl) _) rfl rfl <| gFR 4 rfl (cm _) rfl rfl ?_
 obtain ⟨rfl, rfl, rfl, rfl, rfl, rfl⟩ := h
 refine go_sub (F' := (mkF 118 0 [(2, .ptr 1 0)])) (H' := ⟨2, [(1, vF ((Tree.node e g (b ++ d) ((a ++ [(Tree.node 0 [] [] [])]).set a.length c)).kind) ((Tree.node e g (b ++ d) ((a ++ [(Tree.node 0 [] [] [])]).set a.length c)).text) ((Tree.node e g (b ++ d) ((a ++ [(Tree.node 0 [] [] [])]).set a.length c)).leads) ((Tree.node e g (b ++ d) ((a ++ [(Tree.node 0 [] [] [])]).set a.length c)).kids)), (0, vA i j k l n)]⟩) [0, 1] [0] rfl hK pq1 (pqo2 rfl rfl rfl rfl) rfl ?_
 exact go_endD [1] aa (rs := [.cell 2 26]) rfl rfl ⟨rfl, rfl⟩
theorem lH (m : Nat) (e : Int) (f : List UInt8) (c : (List (List UInt8))) (g : (List (List UInt8))) (i : List GToken) (k : Int) (l : List UInt8) (n o : Int) (p : List Tree) (r0 : Tree) (q : List GToken) (d : Int) (a : List UInt8) (b r : Int) (h : L1_semvcsref02_parser_def m e f c i k l n o p g r0 q d a b r) : iz (m + 1) e f c g i k l n o p r0 q d a b r := by
 intro K j1 hK hj1
 obtain ⟨j1, rfl⟩ : ∃ j, j1 = j + 1 := ⟨j1 - 1, by omega⟩
 exact gR 1 rfl <| go_xloop <| gJ (h K _ hK (by omega)) [0, 1, 2, 3, 4, 5] [0] rfl hK pq4 ⟨⟨_, rfl, rfl, rfl, (ah _ p).symm⟩, ⟨_, rfl, rfl, rfl, (vI _ c).symm⟩, ⟨_, rfl, rfl, rfl, (vI _ g).symm⟩, (pqo3 rfl rfl rfl rfl rfl rfl)⟩ rfl
def dy (m : Nat) (d : Int) (e : List UInt8) (f : (List (List UInt8))) (g : List GToken) (i : Int) (j : List UInt8) (k l : Int) (n : List Tree) (r0 : Tree) (o : List GToken) (c : Int) (a : List UInt8) (b p : Int) : Prop := ∀ (K : Ctx) (j1 : Nat), aR K [0] → m ≤ j1 → qLG K Try.f14 (fun u G => u = .agg (ar r0) ∧ G = ⟨2, [(0, vA o c a b p)]⟩) (xG (xC (aj Try.f14))) [.loop (xG (xC (aj Try.f14))) j1, .blk 0, .seq (xC (cB (aj Try.f14)))] 59 (mkF 59 0 [(0, .ptr 0 0), (2, .ptr 1 0), (3, .ptr 2 0)]) ⟨5, [(4, .row 26 4 (kidsV n)), (3, .row 9 1 (List.map V.str f)), (2, vD d e), (1, vB 0 []), (0, vA g i j k l)]⟩
def bL (m : Nat) (d : Int) (e : List UInt8) (f : (List (List UInt8))) (g : List GToken) (i : Int) (j : List UInt8) (k l : Int) (n : List Tree) (r0 : Tree) (o : List GToken) (c : Int) (a : List UInt8) (b p : Int) : Prop := ∀ (K : Ctx) (j1 : Nat), aR K [0] → m ≤ j1 → Go Try.prog K (bodyPost Try.prog Try.f14 (SP K (fun u G => u = .agg (ar r0) ∧ G = ⟨2, [(0, vA o c a b p)]⟩))) (.ex .normal) [.blk 1, .loop (xG (xC (aj Try.f14))) j1, .blk 0, .seq (xC (cB (aj Try.f14)))] 59 (mkF 59 0 [(0, .ptr 0 0), (2, .ptr 1 0), (3, .ptr 2 0)]) ⟨5, [(4, .row 26 4 (kidsV n)), (3, .row 9 1 (List.map V.str f)), (2, vD d e), (1, vB 0 []), (0, vA g i j k l)]⟩
theorem kI (m : Nat) (t : List GToken) (g : Int) (c : List UInt8) (d v : Int) (r0 : Tree) (ε : List GToken) (s : Int) (q : List UInt8) (r ζ : Int) (h : ∃ x y z α β γ δ e f, al t g c d v 1 [] ([] : List (List UInt8)) ([] : List Tree) [109, 111, 100, 117, 108, 101] x y z α β γ δ e f ∧ ∃ i j k l n o p a b, aS x y z α β γ δ e f 2 i j k l n o p a b ∧ dy m o p a i j k l n b r0 ε s q r ζ) : eX t g c d v r0 ε s q r ζ := by
 refine az 59 [0] Try.func14 rfl rfl rfl (bg rfl) fun K hK => ?_
 refine gR 12 rfl <| go_sub (F' := (mkF 59 0 [(0, .ptr 0 0), (2, .ptr 1 0), (3, .ptr 2 0)])) (H' := ⟨3, [(2, vB 1 []), (1, vB 0 []), (0, vA t g c d v)]⟩) [0, 1, 2] [0] rfl hK pq3 (pqo3 rfl rfl rfl rfl rfl rfl) rfl <| gR 3 rfl <| gNC 2 2 9 1 rfl rfl rfl rfl <| gNC 2 3 26 4 rfl rfl rfl rfl ?_
 obtain ⟨x, y, z, α, β, γ, δ, e, f, hs43, h⟩ := h
 refine gCZ hs43 [0, 2, 3, 4] ⟨⟨_, rfl, ⟨rfl, rfl, rfl⟩⟩, ⟨⟨_, rfl, ⟨rfl, rfl, rfl⟩⟩, ⟨⟨_, rfl, ⟨rfl, ak.rfl⟩⟩, ⟨⟨_, rfl, ⟨rfl, ak.rfl⟩⟩, trivial⟩⟩⟩⟩ ?_
 refine gHR 7 (List.map V.str e) rfl (vI _ e) rfl <| gHR 8 (kidsV f) rfl (ah _ f) rfl <| gR 5 rfl ?_
 obtain ⟨i, j, k, l, n, o, p, a, b, hs44, h⟩ := h
 refine gCZ hs44 [0, 2, 7, 8] ⟨⟨_, rfl, ⟨rfl, rfl, (ah _ f).symm⟩⟩, ⟨⟨_, rfl, ⟨rfl, rfl, (vI _ e).symm⟩⟩, ⟨⟨_, rfl, ⟨rfl, ak.rfl⟩⟩, ⟨⟨_, rfl, ⟨rfl, ak.rfl⟩⟩, trivial⟩⟩⟩⟩ ?_
 refine gHR 11 (List.map V.str a) rfl (vI _ a) rfl <| gHR 12 (kidsV b) rfl (ah _ b) rfl <| gR 2 rfl <| go_sub (F' := (mkF 59 0 [(0, .ptr 0 0), (2, .ptr 1 0), (3, .ptr 2 0)])) (H' := ⟨5, [(4, .row 26 4 (kidsV b)), (3, .row 9 1 (List.map V.str a)), (2, vD o p), (1, vB 0 []), (0, vA i j k l n)]⟩) [0, 1, 2, 11, 12] [0] rfl hK pq3 ⟨⟨_, rfl, rfl, rfl, (ah _ b).symm⟩, ⟨_, rfl, rfl, rfl, (vI _ a).symm⟩, (pqo3 rfl rfl rfl rfl rfl rfl)⟩ rfl <| gR 2 rfl ?_
 refine go_loop m ?_
 exact gJ (h K _ hK (by omega)) [0, 1, 2, 3, 4] [0] rfl hK pq3 ⟨⟨_, rfl, rfl, rfl, (ah _ b).symm⟩, ⟨_, rfl, rfl, rfl, (vI _ a).symm⟩, (pqo3 rfl rfl rfl rfl rfl rfl)⟩ rfl
theorem bn (m : Nat) (c : Int) (d : List UInt8) (b : (List (List UInt8))) (q : List GToken) (s : Int) (e : List UInt8) (β t : Int) (a : List Tree) (r0 : Tree) (γ : List GToken) (r : Int) (o : List UInt8) (p δ : Int) (h : ((t = 0) → ((s < (q.length : Int)) → ∃ b1_1 ε ζ η θ ι, aq q s e β t [100, 101, 102] b1_1 ε ζ η θ ι ∧ ((b1_1 = true) → (((a.length : Int) = 40) → ∃ φ χ ψ κ μ, aZ ε ζ η θ ι 3 φ χ ψ κ μ ∧ ∃ f ω n1_14 s1_15 n1_16 n1_17, bz φ χ ψ κ μ f ω n1_14 s1_15 n1_16 n1_17 ∧ (a ++ [(Tree.node 0 [] [] [])]).length ≤ 1000000000 ∧ ∃ t1_18, (a ++ [(Tree.node 0 [] [] [])])[a.length]? = some t1_18 ∧ bL m c d b ω n1_14 s1_15 n1_16 n1_17 ((a ++ [(Tree.node 0 [] [] [])]).set a.length f) r0 γ r o p δ) ∧ (((a.length : Int) ≠ 40) → ∃ g r1_20 n1_21 s1_22 n1_23 n1_24, bz ε ζ η θ ι g r1_20 n1_21 s1_22 n1_23 n1_24 ∧ (a ++ [(Tree.node 0 [] [] [])]).length ≤ 1000000000 ∧ ∃ t1_25, (a ++ [(Tree.node 0 [] [] [])])[a.length]? = some t1_25 ∧ bL m c d b r1_20 n1_21 s1_22 n1_23 n1_24 ((a ++ [(Tree.node 0 [] [] [])]).set a.length g) r0 γ r o p δ)) ∧ ((b1_1 = false) → ∃ υ v x y z α, aq ε ζ η θ ι [116, 121, 112, 101] υ v x y z α ∧ ((υ = true) → (((a.length : Int) = 40) → ∃ ν ξ ο π τ, aZ v x y z α 3 ν ξ ο π τ ∧ ∃ k r1_38 n1_39 s1_40 n1_41 n1_42, bz ν ξ ο π τ k r1_38 n1_39 s1_40 n1_41 n1_42 ∧ (a ++ [(Tree.node 0 [] [] [])]).length ≤ 1000000000 ∧ ∃ t1_43, (a ++ [(Tree.node 0 [] [] [])])[a.length]? = some t1_43 ∧ bL m c d b r1_38 n1_39 s1_40 n1_41 n1_42 ((a ++ [(Tree.node 0 [] [] [])]).set a.length k) r0 γ r o p δ) ∧ (((a.length : Int) ≠ 40) → ∃ l r1_45 n1_46 s1_47 n1_48 n1_49, bz v x y z α l r1_45 n1_46 s1_47 n1_48 n1_49 ∧ (a ++ [(Tree.node 0 [] [] [])]).length ≤ 1000000000 ∧ ∃ t1_50, (a ++ [(Tree.node 0 [] [] [])])[a.length]? = some t1_50 ∧ bL m c d b r1_45 n1_46 s1_47 n1_48 n1_49 ((a ++ [(Tree.node 0 [] [] [])]).set a.length l) r0 γ r o p δ)) ∧ ((υ = false) → ∃ n r1_52 n1_53 s1_54 n1_55 n1_56, bz v x y z α n r1_52 n1_53 s1_54 n1_55 n1_56 ∧ (a ++ [(Tree.node 0 [] [] [])]).length ≤ 1000000000 ∧ ∃ t1_57, (a ++ [(Tree.node 0 [] [] [])])[a.length]? = some t1_57 ∧ bL m c d b r1_52 n1_53 s1_54 n1_55 n1_56 ((a ++ [(Tree.node 0 [] [] [])]).set a.length n) r0 γ r o p δ))) ∧ ((¬ s < (q.length : Int)) → (b ++ [e]).length ≤ 1000000000 ∧ (Tree.node c d (b ++ [e]) a) = r0 ∧ q = γ ∧ s = r ∧ e = o ∧ β = p ∧ t = δ)) ∧ ((t ≠ 0) → (b ++ [e]).length ≤ 1000000000 ∧ (Tree.node c d (b ++ [e]) a) = r0 ∧ q = γ ∧ s = r ∧ e = o ∧ β = p ∧ t = δ)) : dy (m + 1) c d b q s e β t a r0 γ r o p δ := by
 intro K j1 hK hj1
 obtain ⟨j1, rfl⟩ : ∃ j, j1 = j + 1 := ⟨j1 - 1, by omega⟩
 refine gR 2 rfl <| gDs [0] 17 17 rfl (by kernel_rfl) (by kernel_rfl) <| gDr [(0, 0), (1, 0), (2, 0), (3, 0), (4, 0), (5, 0)] (by kernel_rfl) rfl rfl <| gB 14 rfl rfl rfl ?_ ?_ <;> intro hd
 refine gT 13 rfl hd rfl ?_
 replace hd := (eq_of_beq hd)
 replace h := h.1 hd
 refine gDr [(6, 2), (7, 2), (8, 2), (9, 3), (10, 0), (11, 0), (12, 0), (13, 0), (14, 0)] (by kernel_rfl) rfl rfl <| gV 23 (.int .i64 (q.length : Int)) rfl (bC (cQ GToken.w _)) rfl <| gLB 22 rfl (cQ GToken.w _) fun hl48 => gDr [(15, 0), (16, 0)] (by kernel_rfl) rfl rfl <| gDe (by kernel_rfl) <| gR 1 rfl <| gB 25 rfl rfl rfl ?_ ?_ <;> intro hd
 replace hd := (of_decide_eq_true hd)
 replace h := h.1 hd
 refine gR 4 rfl <| go_sub (F' := (mkF 59 0 [(0, .ptr 0 0), (2, .ptr 1 0), (3, .ptr 2 0)])) (H' := ⟨5, [(4, .row 26 4 (kidsV a)), (3, .row 9 1 (List.map V.str b)), (2, vD c d), (1, vB 0 []), (0, vA q s e β t)]⟩) [0, 1, 2, 3, 4] [0] rfl hK pq3 ⟨⟨_, rfl, rfl, rfl, (ah _ a).symm⟩, ⟨_, rfl, rfl, rfl, (vI _ b).symm⟩, (pqo3 rfl rfl rfl rfl rfl rfl)⟩ rfl <| gR 4 rfl ?_
 obtain ⟨b1_1, ε, ζ, η, θ, ι, hs49, h⟩ := h
 refine gCY hs49 [0] ?_
 refine gR 1 rfl <| gB 28 rfl rfl rfl ?_ ?_ <;> intro hd
 refine gT 27 rfl hd rfl ?_
 replace h := h.1 hd
 refine gR 7 rfl <| gV 35 (.int .i64 (a.length : Int)) rfl (bC (av _)) rfl <| gLO 4 rfl (av _) fun hl50 => gR 4 rfl <| gB 37 rfl rfl rfl ?_ ?_ <;> intro hd
 replace hd := (eq_of_beq hd)
 replace h := h.1 hd
 refine gR 3 rfl ?_
 obtain ⟨φ, χ, ψ, κ, μ, hs51, h⟩ := h
 refine gCY hs51 [0] ?_
 refine gR 2 rfl <| go_sub (F' := (mkF 59 0 [(0, .ptr 0 0), (2, .ptr 1 0), (3, .ptr 2 0)])) (H' := ⟨5, [(4, .row 26 4 (kidsV a)), (3, .row 9 1 (List.map V.str b)), (2, vD c d), (1, vB 0 []), (0, vA φ χ ψ κ μ)]⟩) [0, 1, 2, 3, 4] [0] rfl hK pq3 ⟨⟨_, rfl, rfl, rfl, (ah _ a).symm⟩, ⟨_, rfl, rfl, rfl, (vI _ b).symm⟩, (pqo3 rfl rfl rfl rfl rfl rfl)⟩ rfl <| gDs [2] 6 11 rfl (by kernel_rfl) (by kernel_rfl) <| gDr [(0, 2), (1, 3), (2, 2), (4, 2)] (by kernel_rfl) rfl rfl <| gV 44 (.int .i64 (a.length : Int)) rfl (bC (av _)) rfl ?_
 obtain ⟨f, ω, n1_14, s1_15, n1_16, n1_17, hs52, h⟩ := h
 apply aF (i := 3) (j := 5) (by kernel_rfl) rfl rfl rfl rfl
 exact (de (L' := [2]) (by kernel_rfl) rfl rfl (df (H := ⟨5, [(4, .row 26 4 (kidsV a)), (3, .row 9 1 (List.map V.str b)), (2, vD c d), (1, vB 0 []), (0, vA φ χ ψ κ μ)]⟩) hs52 [0] .rfl ⟨⟨_, rfl, ⟨rfl, ak.rfl⟩⟩, trivial⟩ rfl [2] rfl) (.inl rfl))
 exact (aD aa rfl rfl)
 refine gDr [(5, 0)] (by kernel_rfl) rfl rfl <| gHX 7 [.agg [.int .i64 0, .str [], .row 1 [], .row 4 (kidsV [])]] rfl (.cons (.agg (.cons .rfl (.cons .rfl (.cons (.nil 1) (.cons (.nil 4) .nil))))) .nil) rfl <| gHR 7 (kidsV [(Tree.node 0 [] [] [])]) rfl (bv (Tree.node 0 [] [] [])) rfl ?_
 obtain ⟨hb, h⟩ := h
 refine ax 6 (.repl 4 (.row 26 4 (kidsV (a ++ [(Tree.node 0 [] [] [])])))) rfl (by kernel_rfl) (bu aa rfl rfl rfl rfl rfl (aC a [(Tree.node 0 [] [] [])]).symm (by rw [av]; exact hb)) (okR rfl) rfl (by kernel_rfl) rfl rfl ?_
 obtain ⟨t1_18, hxt1_18, h⟩ := h
 refine gYd 7 rfl (by kernel_rfl) (yIO aa rfl rfl rfl rfl (by have := (ae hxt1_18); exact (List.getElem?_eq_some_iff.1 this).1)) rfl rfl ?_
 refine gDr [(9, 2)] (by kernel_rfl) rfl rfl ?_
 apply aF (i := 8) (j := 10) (by kernel_rfl) rfl rfl rfl rfl
 exact (ba (.set 8 (.row 26 4 (kidsV ((a ++ [(Tree.node 0 [] [] [])]).set a.length f)))) (dSe aa rfl rfl rfl rfl (ae hxt1_18) rfl (bp (a ++ [(Tree.node 0 [] [] [])]) a.length f)) (okS rfl) (by kernel_rfl))
 exact (aD aa rfl rfl)
 exact gDr [(10, 1)] (by kernel_rfl) rfl rfl <| gDe (by kernel_rfl) <| gJ (h K _ hK (by omega)) [0, 1, 2, 3, 8] [0] rfl hK pq3 ⟨⟨_, rfl, rfl, rfl, (ah _ ((a ++ [(Tree.node 0 [] [] [])]).set a.length f)).symm⟩, ⟨_, rfl, rfl, rfl, (vI _ b).symm⟩, (pqo3 rfl rfl rfl rfl rfl rfl)⟩ rfl
 refine ax 8 (.set 8 (.row 26 4 (kidsV ((a ++ [(Tree.node 0 [] [] [])]).set a.length f)))) rfl (by kernel_rfl) (dSe aa rfl rfl rfl rfl (ae hxt1_18) rfl (bp (a ++ [(Tree.node 0 [] [] [])]) a.length f)) (okS rfl) rfl (by kernel_rfl) rfl rfl ?_
 exact gDe (by kernel_rfl) <| gJ (h K _ hK (by omega)) [0, 1, 2, 3, 8] [0] rfl hK pq3 ⟨⟨_, rfl, rfl, rfl, (ah _ ((a ++ [(Tree.node 0 [] [] [])]).set a.length f)).symm⟩, ⟨_, rfl, rfl, rfl, (vI _ b).symm⟩, (pqo3 rfl rfl rfl rfl rfl rfl)⟩ rfl
 refine gHX 5 [.agg [.int .i64 0, .str [], .row 1 [], .row 4 (kidsV [])]] rfl (.cons (.agg (.cons .rfl (.cons .rfl (.cons (.nil 1) (.cons (.nil 4) .nil))))) .nil) rfl ?_
 refine gHR 5 (kidsV [(Tree.node 0 [] [] [])]) rfl (bv (Tree.node 0 [] [] [])) rfl <| gDCY 3 hs52 [0] rfl ?_
 obtain ⟨hb, h⟩ := h
 refine ax 6 (.repl 4 (.row 26 4 (kidsV (a ++ [(Tree.node 0 [] [] [])])))) rfl (by kernel_rfl) (bu aa rfl rfl rfl rfl rfl (aC a [(Tree.node 0 [] [] [])]).symm (by rw [av]; exact hb)) (okR rfl) rfl (by kernel_rfl) rfl rfl ?_
 obtain ⟨t1_18, hxt1_18, h⟩ := h
 refine gYd 7 rfl (by kernel_rfl) (yIO aa rfl rfl rfl rfl (by have := (ae hxt1_18); exact (List.getElem?_eq_some_iff.1 this).1)) rfl rfl ?_
 refine gDr [(9, 2)] (by kernel_rfl) rfl rfl ?_
 apply aF (i := 8) (j := 10) (by kernel_rfl) rfl rfl rfl rfl
 exact (ba (.set 8 (.row 26 4 (kidsV ((a ++ [(Tree.node 0 [] [] [])]).set a.length f)))) (dSe aa rfl rfl rfl rfl (ae hxt1_18) rfl (bp (a ++ [(Tree.node 0 [] [] [])]) a.length f)) (okS rfl) (by kernel_rfl))
 exact (aD aa rfl rfl)
 exact gDr [(10, 1)] (by kernel_rfl) rfl rfl <| gDe (by kernel_rfl) <| gJ (h K _ hK (by omega)) [0, 1, 2, 3, 8] [0] rfl hK pq3 ⟨⟨_, rfl, rfl, rfl, (ah _ ((a ++ [(Tree.node 0 [] [] [])]).set a.length f)).symm⟩, ⟨_, rfl, rfl, rfl, (vI _ b).symm⟩, (pqo3 rfl rfl rfl rfl rfl rfl)⟩ rfl
 refine ax 8 (.set 8 (.row 26 4 (kidsV ((a ++ [(Tree.node 0 [] [] [])]).set a.length f)))) rfl (by kernel_rfl) (dSe aa rfl rfl rfl rfl (ae hxt1_18) rfl (bp (a ++ [(Tree.node 0 [] [] [])]) a.length f)) (okS rfl) rfl (by kernel_rfl) rfl rfl ?_
 exact gDe (by kernel_rfl) <| gJ (h K _ hK (by omega)) [0, 1, 2, 3, 8] [0] rfl hK pq3 ⟨⟨_, rfl, rfl, rfl, (ah _ ((a ++ [(Tree.node 0 [] [] [])]).set a.length f)).symm⟩, ⟨_, rfl, rfl, rfl, (vI _ b).symm⟩, (pqo3 rfl rfl rfl rfl rfl rfl)⟩ rfl
 replace hd := (ne_of_beq_false hd)
 replace h := h.2 hd
 refine gR 3 rfl <| go_sub (F' := (mkF 59 0 [(0, .ptr 0 0), (2, .ptr 1 0), (3, .ptr 2 0)])) (H' := ⟨5, [(4, .row 26 4 (kidsV a)), (3, .row 9 1 (List.map V.str b)), (2, vD c d), (1, vB 0 []), (0, vA ε ζ η θ ι)]⟩) [0, 1, 2, 3, 4] [0] rfl hK pq3 ⟨⟨_, rfl, rfl, rfl, (ah _ a).symm⟩, ⟨_, rfl, rfl, rfl, (vI _ b).symm⟩, (pqo3 rfl rfl rfl rfl rfl rfl)⟩ rfl <| gDs [2] 6 11 rfl (by kernel_rfl) (by kernel_rfl) <| gDr [(0, 2), (1, 3), (2, 2), (4, 2)] (by kernel_rfl) rfl rfl <| gV 44 (.int .i64 (a.length : Int)) rfl (bC (av _)) rfl ?_
 obtain ⟨g, r1_20, n1_21, s1_22, n1_23, n1_24, hs53, h⟩ := h
 apply aF (i := 3) (j := 5) (by kernel_rfl) rfl rfl rfl rfl
 exact (de (L' := [2]) (by kernel_rfl) rfl rfl (df (H := ⟨5, [(4, .row 26 4 (kidsV a)), (3, .row 9 1 (List.map V.str b)), (2, vD c d), (1, vB 0 []), (0, vA ε ζ η θ ι)]⟩) hs53 [0] .rfl ⟨⟨_, rfl, ⟨rfl, ak.rfl⟩⟩, trivial⟩ rfl [2] rfl) (.inl rfl))
 exact (aD aa rfl rfl)
 refine gDr [(5, 0)] (by kernel_rfl) rfl rfl <| gHX 7 [.agg [.int .i64 0, .str [], .row 1 [], .row 4 (kidsV [])]] rfl (.cons (.agg (.cons .rfl (.cons .rfl (.cons (.nil 1) (.cons (.nil 4) .nil))))) .nil) rfl <| gHR 7 (kidsV [(Tree.node 0 [] [] [])]) rfl (bv (Tree.node 0 [] [] [])) rfl ?_
 obtain ⟨hb, h⟩ := h
 refine ax 6 (.repl 4 (.row 26 4 (kidsV (a ++ [(Tree.node 0 [] [] [])])))) rfl (by kernel_rfl) (bu aa rfl rfl rfl rfl rfl (aC a [(Tree.node 0 [] [] [])]).symm (by rw [av]; exact hb)) (okR rfl) rfl (by kernel_rfl) rfl rfl ?_
 obtain ⟨t1_25, hxt1_25, h⟩ := h
 refine gYd 7 rfl (by kernel_rfl) (yIO aa rfl rfl rfl rfl (by have := (ae hxt1_25); exact (List.getElem?_eq_some_iff.1 this).1)) rfl rfl ?_
 refine gDr [(9, 2)] (by kernel_rfl) rfl rfl ?_
 apply aF (i := 8) (j := 10) (by kernel_rfl) rfl rfl rfl rfl
 exact (ba (.set 8 (.row 26 4 (kidsV ((a ++ [(Tree.node 0 [] [] [])]).set a.length g)))) (dSe aa rfl rfl rfl rfl (ae hxt1_25) rfl (bp (a ++ [(Tree.node 0 [] [] [])]) a.length g)) (okS rfl) (by kernel_rfl))
 exact (aD aa rfl rfl)
 exact gDr [(10, 1)] (by kernel_rfl) rfl rfl <| gDe (by kernel_rfl) <| gJ (h K _ hK (by omega)) [0, 1, 2, 3, 8] [0] rfl hK pq3 ⟨⟨_, rfl, rfl, rfl, (ah _ ((a ++ [(Tree.node 0 [] [] [])]).set a.length g)).symm⟩, ⟨_, rfl, rfl, rfl, (vI _ b).symm⟩, (pqo3 rfl rfl rfl rfl rfl rfl)⟩ rfl
 refine ax 8 (.set 8 (.row 26 4 (kidsV ((a ++ [(Tree.node 0 [] [] [])]).set a.length g)))) rfl (by kernel_rfl) (dSe aa rfl rfl rfl rfl (ae hxt1_25) rfl (bp (a ++ [(Tree.node 0 [] [] [])]) a.length g)) (okS rfl) rfl (by kernel_rfl) rfl rfl ?_
 exact gDe (by kernel_rfl) <| gJ (h K _ hK (by omega)) [0, 1, 2, 3, 8] [0] rfl hK pq3 ⟨⟨_, rfl, rfl, rfl, (ah _ ((a ++ [(Tree.node 0 [] [] [])]).set a.length g)).symm⟩, ⟨_, rfl, rfl, rfl, (vI _ b).symm⟩, (pqo3 rfl rfl rfl rfl rfl rfl)⟩ rfl
 refine gHX 5 [.agg [.int .i64 0, .str [], .row 1 [], .row 4 (kidsV [])]] rfl (.cons (.agg (.cons .rfl (.cons .rfl (.cons (.nil 1) (.cons (.nil 4) .nil))))) .nil) rfl ?_
 refine gHR 5 (kidsV [(Tree.node 0 [] [] [])]) rfl (bv (Tree.node 0 [] [] [])) rfl <| gDCY 3 hs53 [0] rfl ?_
 obtain ⟨hb, h⟩ := h
 refine ax 6 (.repl 4 (.row 26 4 (kidsV (a ++ [(Tree.node 0 [] [] [])])))) rfl (by kernel_rfl) (bu aa rfl rfl rfl rfl rfl (aC a [(Tree.node 0 [] [] [])]).symm (by rw [av]; exact hb)) (okR rfl) rfl (by kernel_rfl) rfl rfl ?_
 obtain ⟨t1_25, hxt1_25, h⟩ := h
 refine gYd 7 rfl (by kernel_rfl) (yIO aa rfl rfl rfl rfl (by have := (ae hxt1_25); exact (List.getElem?_eq_some_iff.1 this).1)) rfl rfl ?_
 refine gDr [(9, 2)] (by kernel_rfl) rfl rfl ?_
 apply aF (i := 8) (j := 10) (by kernel_rfl) rfl rfl rfl rfl
 exact (ba (.set 8 (.row 26 4 (kidsV ((a ++ [(Tree.node 0 [] [] [])]).set a.length g)))) (dSe aa rfl rfl rfl rfl (ae hxt1_25) rfl (bp (a ++ [(Tree.node 0 [] [] [])]) a.length g)) (okS rfl) (by kernel_rfl))
 exact (aD aa rfl rfl)
 exact gDr [(10, 1)] (by kernel_rfl) rfl rfl <| gDe (by kernel_rfl) <| gJ (h K _ hK (by omega)) [0, 1, 2, 3, 8] [0] rfl hK pq3 ⟨⟨_, rfl, rfl, rfl, (ah _ ((a ++ [(Tree.node 0 [] [] [])]).set a.length g)).symm⟩, ⟨_, rfl, rfl, rfl, (vI _ b).symm⟩, (pqo3 rfl rfl rfl rfl rfl rfl)⟩ rfl
 refine ax 8 (.set 8 (.row 26 4 (kidsV ((a ++ [(Tree.node 0 [] [] [])]).set a.length g)))) rfl (by kernel_rfl) (dSe aa rfl rfl rfl rfl (ae hxt1_25) rfl (bp (a ++ [(Tree.node 0 [] [] [])]) a.length g)) (okS rfl) rfl (by kernel_rfl) rfl rfl ?_
 exact gDe (by kernel_rfl) <| gJ (h K _ hK (by omega)) [0, 1, 2, 3, 8] [0] rfl hK pq3 ⟨⟨_, rfl, rfl, rfl, (ah _ ((a ++ [(Tree.node 0 [] [] [])]).set a.length g)).symm⟩, ⟨_, rfl, rfl, rfl, (vI _ b).symm⟩, (pqo3 rfl rfl rfl rfl rfl rfl)⟩ rfl
 refine gF 27 rfl hd rfl ?_
 replace h := h.2 hd
 refine gR 1 rfl ?_
 obtain ⟨υ, v, x, y, z, α, hs54, h⟩ := h
 refine gCY hs54 [0] ?_
 refine gR 2 rfl <| gB 32 rfl rfl rfl ?_ ?_ <;> intro hd
 refine gT 31 rfl hd rfl ?_
 replace h := h.1 hd
 refine gR 3 rfl <| gV 35 (.int .i64 (a.length : Int)) rfl (bC (av _)) rfl <| gLO 4 rfl (av _) fun hl55 => gR 4 rfl <| gB 37 rfl rfl rfl ?_ ?_ <;> intro hd
 replace hd := (eq_of_beq hd)
 replace h := h.1 hd
 refine gR 3 rfl ?_
 obtain ⟨ν, ξ, ο, π, τ, hs56, h⟩ := h
 refine gCY hs56 [0] ?_
 refine gR 2 rfl <| go_sub (F' := (mkF 59 0 [(0, .ptr 0 0), (2, .ptr 1 0), (3, .ptr 2 0)])) (H' := ⟨5, [(4, .row 26 4 (kidsV a)), (3, .row 9 1 (List.map V.str b)), (2, vD c d), (1, vB 0 []), (0, vA ν ξ ο π τ)]⟩) [0, 1, 2, 3, 4] [0] rfl hK pq3 ⟨⟨_, rfl, rfl, rfl, (ah _ a).symm⟩, ⟨_, rfl, rfl, rfl, (vI _ b).symm⟩, (pqo3 rfl rfl rfl rfl rfl rfl)⟩ rfl <| gDs [2] 6 11 rfl (by kernel_rfl) (by kernel_rfl) <| gDr [(0, 2), (1, 3), (2, 2), (4, 2)] (by kernel_rfl) rfl rfl <| gV 44 (.int .i64 (a.length : Int)) rfl (bC (av _)) rfl ?_
 obtain ⟨k, r1_38, n1_39, s1_40, n1_41, n1_42, hs57, h⟩ := h
 apply aF (i := 3) (j := 5) (by kernel_rfl) rfl rfl rfl rfl
 exact (de (L' := [2]) (by kernel_rfl) rfl rfl (df (H := ⟨5, [(4, .row 26 4 (kidsV a)), (3, .row 9 1 (List.map V.str b)), (2, vD c d), (1, vB 0 []), (0, vA ν ξ ο π τ)]⟩) hs57 [0] .rfl ⟨⟨_, rfl, ⟨rfl, ak.rfl⟩⟩, trivial⟩ rfl [2] rfl) (.inl rfl))
 exact (aD aa rfl rfl)
 refine gDr [(5, 0)] (by kernel_rfl) rfl rfl <| gHX 7 [.agg [.int .i64 0, .str [], .row 1 [], .row 4 (kidsV [])]] rfl (.cons (.agg (.cons .rfl (.cons .rfl (.cons (.nil 1) (.cons (.nil 4) .nil))))) .nil) rfl <| gHR 7 (kidsV [(Tree.node 0 [] [] [])]) rfl (bv (Tree.node 0 [] [] [])) rfl ?_
 obtain ⟨hb, h⟩ := h
 refine ax 6 (.repl 4 (.row 26 4 (kidsV (a ++ [(Tree.node 0 [] [] [])])))) rfl (by kernel_rfl) (bu aa rfl rfl rfl rfl rfl (aC a [(Tree.node 0 [] [] [])]).symm (by rw [av]; exact hb)) (okR rfl) rfl (by kernel_rfl) rfl rfl ?_
 obtain ⟨t1_43, hxt1_43, h⟩ := h
 refine gYd 7 rfl (by kernel_rfl) (yIO aa rfl rfl rfl rfl (by have := (ae hxt1_43); exact (List.getElem?_eq_some_iff.1 this).1)) rfl rfl ?_
 refine gDr [(9, 2)] (by kernel_rfl) rfl rfl ?_
 apply aF (i := 8) (j := 10) (by kernel_rfl) rfl rfl rfl rfl
 exact (ba (.set 8 (.row 26 4 (kidsV ((a ++ [(Tree.node 0 [] [] [])]).set a.length k)))) (dSe aa rfl rfl rfl rfl (ae hxt1_43) rfl (bp (a ++ [(Tree.node 0 [] [] [])]) a.length k)) (okS rfl) (by kernel_rfl))
 exact (aD aa rfl rfl)
 exact gDr [(10, 1)] (by kernel_rfl) rfl rfl <| gDe (by kernel_rfl) <| gJ (h K _ hK (by omega)) [0, 1, 2, 3, 8] [0] rfl hK pq3 ⟨⟨_, rfl, rfl, rfl, (ah _ ((a ++ [(Tree.node 0 [] [] [])]).set a.length k)).symm⟩, ⟨_, rfl, rfl, rfl, (vI _ b).symm⟩, (pqo3 rfl rfl rfl rfl rfl rfl)⟩ rfl
 refine ax 8 (.set 8 (.row 26 4 (kidsV ((a ++ [(Tree.node 0 [] [] [])]).set a.length k)))) rfl (by kernel_rfl) (dSe aa rfl rfl rfl rfl (ae hxt1_43) rfl (bp (a ++ [(Tree.node 0 [] [] [])]) a.length k)) (okS rfl) rfl (by kernel_rfl) rfl rfl ?_
 exact gDe (by kernel_rfl) <| gJ (h K _ hK (by omega)) [0, 1, 2, 3, 8] [0] rfl hK pq3 ⟨⟨_, rfl, rfl, rfl, (ah _ ((a ++ [(Tree.node 0 [] [] [])]).set a.length k)).symm⟩, ⟨_, rfl, rfl, rfl, (vI _ b).symm⟩, (pqo3 rfl rfl rfl rfl rfl rfl)⟩ rfl
 refine gHX 5 [.agg [.int .i64 0, .str [], .row 1 [], .row 4 (kidsV [])]] rfl (.cons (.agg (.cons .rfl (.cons .rfl (.cons (.nil 1) (.cons (.nil 4) .nil))))) .nil) rfl ?_
 refine gHR 5 (kidsV [(Tree.node 0 [] [] [])]) rfl (bv (Tree.node 0 [] [] [])) rfl <| gDCY 3 hs57 [0] rfl ?_
 obtain ⟨hb, h⟩ := h
 refine ax 6 (.repl 4 (.row 26 4 (kidsV (a ++ [(Tree.node 0 [] [] [])])))) rfl (by kernel_rfl) (bu aa rfl rfl rfl rfl rfl (aC a [(Tree.node 0 [] [] [])]).symm (by rw [av]; exact hb)) (okR rfl) rfl (by kernel_rfl) rfl rfl ?_
 obtain ⟨t1_43, hxt1_43, h⟩ := h
 refine gYd 7 rfl (by kernel_rfl) (yIO aa rfl rfl rfl rfl (by have := (ae hxt1_43); exact (List.getElem?_eq_some_iff.1 this).1)) rfl rfl ?_
 refine gDr [(9, 2)] (by kernel_rfl) rfl rfl ?_
 apply aF (i := 8) (j := 10) (by kernel_rfl) rfl rfl rfl rfl
 exact (ba (.set 8 (.row 26 4 (kidsV ((a ++ [(Tree.node 0 [] [] [])]).set a.length k)))) (dSe aa rfl rfl rfl rfl (ae hxt1_43) rfl (bp (a ++ [(Tree.node 0 [] [] [])]) a.length k)) (okS rfl) (by kernel_rfl))
 exact (aD aa rfl rfl)
 exact gDr [(10, 1)] (by kernel_rfl) rfl rfl <| gDe (by kernel_rfl) <| gJ (h K _ hK (by omega)) [0, 1, 2, 3, 8] [0] rfl hK pq3 ⟨⟨_, rfl, rfl, rfl, (ah _ ((a ++ [(Tree.node 0 [] [] [])]).set a.length k)).symm⟩, ⟨_, rfl, rfl, rfl, (vI _ b).symm⟩, (pqo3 rfl rfl rfl rfl rfl rfl)⟩ rfl
 refine ax 8 (.set 8 (.row 26 4 (kidsV ((a ++ [(Tree.node 0 [] [] [])]).set a.length k)))) rfl (by kernel_rfl) (dSe aa rfl rfl rfl rfl (ae hxt1_43) rfl (bp (a ++ [(Tree.node 0 [] [] [])]) a.length k)) (okS rfl) rfl (by kernel_rfl) rfl rfl ?_
 exact gDe (by kernel_rfl) <| gJ (h K _ hK (by omega)) [0, 1, 2, 3, 8] [0] rfl hK pq3 ⟨⟨_, rfl, rfl, rfl, (ah _ ((a ++ [(Tree.node 0 [] [] [])]).set a.length k)).symm⟩, ⟨_, rfl, rfl, rfl, (vI _ b).symm⟩, (pqo3 rfl rfl rfl rfl rfl rfl)⟩ rfl
 replace hd := (ne_of_beq_false hd)
 replace h := h.2 hd
 refine gR 3 rfl <| go_sub (F' := (mkF 59 0 [(0, .ptr 0 0), (2, .ptr 1 0), (3, .ptr 2 0)])) (H' := ⟨5, [(4, .row 26 4 (kidsV a)), (3, .row 9 1 (List.map V.str b)), (2, vD c d), (1, vB 0 []), (0, vA v x y z α)]⟩) [0, 1, 2, 3, 4] [0] rfl hK pq3 ⟨⟨_, rfl, rfl, rfl, (ah _ a).symm⟩, ⟨_, rfl, rfl, rfl, (vI _ b).symm⟩, (pqo3 rfl rfl rfl rfl rfl rfl)⟩ rfl <| gDs [2] 6 11 rfl (by kernel_rfl) (by kernel_rfl) <| gDr [(0, 2), (1, 3), (2, 2), (4, 2)] (by kernel_rfl) rfl rfl <| gV 44 (.int .i64 (a.length : Int)) rfl (bC (av _)) rfl ?_
 obtain ⟨l, r1_45, n1_46, s1_47, n1_48, n1_49, hs58, h⟩ := h
 apply aF (i := 3) (j := 5) (by kernel_rfl) rfl rfl rfl rfl
 exact (de (L' := [2]) (by kernel_rfl) rfl rfl (df (H := ⟨5, [(4, .row 26 4 (kidsV a)), (3, .row 9 1 (List.map V.str b)), (2, vD c d), (1, vB 0 []), (0, vA v x y z α)]⟩) hs58 [0] .rfl ⟨⟨_, rfl, ⟨rfl, ak.rfl⟩⟩, trivial⟩ rfl [2] rfl) (.inl rfl))
 exact (aD aa rfl rfl)
 refine gDr [(5, 0)] (by kernel_rfl) rfl rfl <| gHX 7 [.agg [.int .i64 0, .str [], .row 1 [], .row 4 (kidsV [])]] rfl (.cons (.agg (.cons .rfl (.cons .rfl (.cons (.nil 1) (.cons (.nil 4) .nil))))) .nil) rfl <| gHR 7 (kidsV [(Tree.node 0 [] [] [])]) rfl (bv (Tree.node 0 [] [] [])) rfl ?_
 obtain ⟨hb, h⟩ := h
 refine ax 6 (.repl 4 (.row 26 4 (kidsV (a ++ [(Tree.node 0 [] [] [])])))) rfl (by kernel_rfl) (bu aa rfl rfl rfl rfl rfl (aC a [(Tree.node 0 [] [] [])]).symm (by rw [av]; exact hb)) (okR rfl) rfl (by kernel_rfl) rfl rfl ?_
 obtain ⟨t1_50, hxt1_50, h⟩ := h
 refine gYd 7 rfl (by kernel_rfl) (yIO aa rfl rfl rfl rfl (by have := (ae hxt1_50); exact (List.getElem?_eq_some_iff.1 this).1)) rfl rfl ?_
 refine gDr [(9, 2)] (by kernel_rfl) rfl rfl ?_
 apply aF (i := 8) (j := 10) (by kernel_rfl) rfl rfl rfl rfl
 exact (ba (.set 8 (.row 26 4 (kidsV ((a ++ [(Tree.node 0 [] [] [])]).set a.length l)))) (dSe aa rfl rfl rfl rfl (ae hxt1_50) rfl (bp (a ++ [(Tree.node 0 [] [] [])]) a.length l)) (okS rfl) (by kernel_rfl))
 exact (aD aa rfl rfl)
 exact gDr [(10, 1)] (by kernel_rfl) rfl rfl <| gDe (by kernel_rfl) <| gJ (h K _ hK (by omega)) [0, 1, 2, 3, 8] [0] rfl hK pq3 ⟨⟨_, rfl, rfl, rfl, (ah _ ((a ++ [(Tree.node 0 [] [] [])]).set a.length l)).symm⟩, ⟨_, rfl, rfl, rfl, (vI _ b).symm⟩, (pqo3 rfl rfl rfl rfl rfl rfl)⟩ rfl
 refine ax 8 (.set 8 (.row 26 4 (kidsV ((a ++ [(Tree.node 0 [] [] [])]).set a.length l)))) rfl (by kernel_rfl) (dSe aa rfl rfl rfl rfl (ae hxt1_50) rfl (bp (a ++ [(Tree.node 0 [] [] [])]) a.length l)) (okS rfl) rfl (by kernel_rfl) rfl rfl ?_
 exact gDe (by kernel_rfl) <| gJ (h K _ hK (by omega)) [0, 1, 2, 3, 8] [0] rfl hK pq3 ⟨⟨_, rfl, rfl, rfl, (ah _ ((a ++ [(Tree.node 0 [] [] [])]).set a.length l)).symm⟩, ⟨_, rfl, rfl, rfl, (vI _ b).symm⟩, (pqo3 rfl rfl rfl rfl rfl rfl)⟩ rfl
 refine gHX 5 [.agg [.int .i64 0, .str [], .row 1 [], .row 4 (kidsV [])]] rfl (.cons (.agg (.cons .rfl (.cons .rfl (.cons (.nil 1) (.cons (.nil 4) .nil))))) .nil) rfl ?_
 refine gHR 5 (kidsV [(Tree.node 0 [] [] [])]) rfl (bv (Tree.node 0 [] [] [])) rfl <| gDCY 3 hs58 [0] rfl ?_
 obtain ⟨hb, h⟩ := h
 refine ax 6 (.repl 4 (.row 26 4 (kidsV (a ++ [(Tree.node 0 [] [] [])])))) rfl (by kernel_rfl) (bu aa rfl rfl rfl rfl rfl (aC a [(Tree.node 0 [] [] [])]).symm (by rw [av]; exact hb)) (okR rfl) rfl (by kernel_rfl) rfl rfl ?_
 obtain ⟨t1_50, hxt1_50, h⟩ := h
 refine gYd 7 rfl (by kernel_rfl) (yIO aa rfl rfl rfl rfl (by have := (ae hxt1_50); exact (List.getElem?_eq_some_iff.1 this).1)) rfl rfl ?_
 refine gDr [(9, 2)] (by kernel_rfl) rfl rfl ?_
 apply aF (i := 8) (j := 10) (by kernel_rfl) rfl rfl rfl rfl
 exact (ba (.set 8 (.row 26 4 (kidsV ((a ++ [(Tree.node 0 [] [] [])]).set a.length l)))) (dSe aa rfl rfl rfl rfl (ae hxt1_50) rfl (bp (a ++ [(Tree.node 0 [] [] [])]) a.length l)) (okS rfl) (by kernel_rfl))
 exact (aD aa rfl rfl)
 exact gDr [(10, 1)] (by kernel_rfl) rfl rfl <| gDe (by kernel_rfl) <| gJ (h K _ hK (by omega)) [0, 1, 2, 3, 8] [0] rfl hK pq3 ⟨⟨_, rfl, rfl, rfl, (ah _ ((a ++ [(Tree.node 0 [] [] [])]).set a.length l)).symm⟩, ⟨_, rfl, rfl, rfl, (vI _ b).symm⟩, (pqo3 rfl rfl rfl rfl rfl rfl)⟩ rfl
 refine ax 8 (.set 8 (.row 26 4 (kidsV ((a ++ [(Tree.node 0 [] [] [])]).set a.length l)))) rfl (by kernel_rfl) (dSe aa rfl rfl rfl rfl (ae hxt1_50) rfl (bp (a ++ [(Tree.node 0 [] [] [])]) a.length l)) (okS rfl) rfl (by kernel_rfl) rfl rfl ?_
 exact gDe (by kernel_rfl) <| gJ (h K _ hK (by omega)) [0, 1, 2, 3, 8] [0] rfl hK pq3 ⟨⟨_, rfl, rfl, rfl, (ah _ ((a ++ [(Tree.node 0 [] [] [])]).set a.length l)).symm⟩, ⟨_, rfl, rfl, rfl, (vI _ b).symm⟩, (pqo3 rfl rfl rfl rfl rfl rfl)⟩ rfl
 refine gF 31 rfl hd rfl ?_
 replace h := h.2 hd
 refine gR 10 rfl <| go_sub (F' := (mkF 59 0 [(0, .ptr 0 0), (2, .ptr 1 0), (3, .ptr 2 0)])) (H' := ⟨5, [(4, .row 26 4 (kidsV a)), (3, .row 9 1 (List.map V.str b)), (2, vD c d), (1, vB 0 []), (0, vA v x y z α)]⟩) [0, 1, 2, 3, 4] [0] rfl hK pq3 ⟨⟨_, rfl, rfl, rfl, (ah _ a).symm⟩, ⟨_, rfl, rfl, rfl, (vI _ b).symm⟩, (pqo3 rfl rfl rfl rfl rfl rfl)⟩ rfl <| gDs [2] 6 11 rfl (by kernel_rfl) (by kernel_rfl) <| gDr [(0, 2), (1, 3), (2, 2), (4, 2)] (by kernel_rfl) rfl rfl <| gV 44 (.int .i64 (a.length : Int)) rfl (bC (av _)) rfl ?_
 refine gLO 4 rfl (av _) fun hl62 => ?_
 obtain ⟨n, r1_52, n1_53, s1_54, n1_55, n1_56, hs63, h⟩ := h
 apply aF (i := 3) (j := 5) (by kernel_rfl) rfl rfl rfl rfl
 exact (de (L' := [2]) (by kernel_rfl) rfl rfl (df (H := ⟨5, [(4, .row 26 4 (kidsV a)), (3, .row 9 1 (List.map V.str b)), (2, vD c d), (1, vB 0 []), (0, vA v x y z α)]⟩) hs63 [0] .rfl ⟨⟨_, rfl, ⟨rfl, ak.rfl⟩⟩, trivial⟩ rfl [2] rfl) (.inl rfl))
 exact (aD aa rfl rfl)
 refine gDr [(5, 0)] (by kernel_rfl) rfl rfl <| gHX 7 [.agg [.int .i64 0, .str [], .row 1 [], .row 4 (kidsV [])]] rfl (.cons (.agg (.cons .rfl (.cons .rfl (.cons (.nil 1) (.cons (.nil 4) .nil))))) .nil) rfl <| gHR 7 (kidsV [(Tree.node 0 [] [] [])]) rfl (bv (Tree.node 0 [] [] [])) rfl ?_
 obtain ⟨hb, h⟩ := h
 refine ax 6 (.repl 4 (.row 26 4 (kidsV (a ++ [(Tree.node 0 [] [] [])])))) rfl (by kernel_rfl) (bu aa rfl rfl rfl rfl rfl (aC a [(Tree.node 0 [] [] [])]).symm (by rw [av]; exact hb)) (okR rfl) rfl (by kernel_rfl) rfl rfl ?_
 obtain ⟨t1_57, hxt1_57, h⟩ := h
 refine gYd 7 rfl (by kernel_rfl) (yIO aa rfl rfl rfl rfl (by have := (ae hxt1_57); exact (List.getElem?_eq_some_iff.1 this).1)) rfl rfl ?_
 refine gDr [(9, 2)] (by kernel_rfl) rfl rfl ?_
 apply aF (i := 8) (j := 10) (by kernel_rfl) rfl rfl rfl rfl
 exact (ba (.set 8 (.row 26 4 (kidsV ((a ++ [(Tree.node 0 [] [] [])]).set a.length n)))) (dSe aa rfl rfl rfl rfl (ae hxt1_57) rfl (bp (a ++ [(Tree.node 0 [] [] [])]) a.length n)) (okS rfl) (by kernel_rfl))
 exact (aD aa rfl rfl)
 exact gDr [(10, 1)] (by kernel_rfl) rfl rfl <| gDe (by kernel_rfl) <| gJ (h K _ hK (by omega)) [0, 1, 2, 3, 8] [0] rfl hK pq3 ⟨⟨_, rfl, rfl, rfl, (ah _ ((a ++ [(Tree.node 0 [] [] [])]).set a.length n)).symm⟩, ⟨_, rfl, rfl, rfl, (vI _ b).symm⟩, (pqo3 rfl rfl rfl rfl rfl rfl)⟩ rfl
 refine ax 8 (.set 8 (.row 26 4 (kidsV ((a ++ [(Tree.node 0 [] [] [])]).set a.length n)))) rfl (by kernel_rfl) (dSe aa rfl rfl rfl rfl (ae hxt1_57) rfl (bp (a ++ [(Tree.node 0 [] [] [])]) a.length n)) (okS rfl) rfl (by kernel_rfl) rfl rfl ?_
 exact gDe (by kernel_rfl) <| gJ (h K _ hK (by omega)) [0, 1, 2, 3, 8] [0] rfl hK pq3 ⟨⟨_, rfl, rfl, rfl, (ah _ ((a ++ [(Tree.node 0 [] [] [])]).set a.length n)).symm⟩, ⟨_, rfl, rfl, rfl, (vI _ b).symm⟩, (pqo3 rfl rfl rfl rfl rfl rfl)⟩ rfl
 refine gHX 5 [.agg [.int .i64 0, .str [], .row 1 [], .row 4 (kidsV [])]] rfl (.cons (.agg (.cons .rfl (.cons .rfl (.cons (.nil 1) (.cons (.nil 4) .nil))))) .nil) rfl ?_
 refine gHR 5 (kidsV [(Tree.node 0 [] [] [])]) rfl (bv (Tree.node 0 [] [] [])) rfl <| gDCY 3 hs63 [0] rfl ?_
 obtain ⟨hb, h⟩ := h
 refine ax 6 (.repl 4 (.row 26 4 (kidsV (a ++ [(Tree.node 0 [] [] [])])))) rfl (by kernel_rfl) (bu aa rfl rfl rfl rfl rfl (aC a [(Tree.node 0 [] [] [])]).symm (by rw [av]; exact hb)) (okR rfl) rfl (by kernel_rfl) rfl rfl ?_
 obtain ⟨t1_57, hxt1_57, h⟩ := h
 refine gYd 7 rfl (by kernel_rfl) (yIO aa rfl rfl rfl rfl (by have := (ae hxt1_57); exact (List.getElem?_eq_some_iff.1 this).1)) rfl rfl ?_
 refine gDr [(9, 2)] (by kernel_rfl) rfl rfl ?_
 apply aF (i := 8) (j := 10) (by kernel_rfl) rfl rfl rfl rfl
 exact (ba (.set 8 (.row 26 4 (kidsV ((a ++ [(Tree.node 0 [] [] [])]).set a.length n)))) (dSe aa rfl rfl rfl rfl (ae hxt1_57) rfl (bp (a ++ [(Tree.node 0 [] [] [])]) a.length n)) (okS rfl) (by kernel_rfl))
 exact (aD aa rfl rfl)
 exact gDr [(10, 1)] (by kernel_rfl) rfl rfl <| gDe (by kernel_rfl) <| gJ (h K _ hK (by omega)) [0, 1, 2, 3, 8] [0] rfl hK pq3 ⟨⟨_, rfl, rfl, rfl, (ah _ ((a ++ [(Tree.node 0 [] [] [])]).set a.length n)).symm⟩, ⟨_, rfl, rfl, rfl, (vI _ b).symm⟩, (pqo3 rfl rfl rfl rfl rfl rfl)⟩ rfl
 refine ax 8 (.set 8 (.row 26 4 (kidsV ((a ++ [(Tree.node 0 [] [] [])]).set a.length n)))) rfl (by kernel_rfl) (dSe aa rfl rfl rfl rfl (ae hxt1_57) rfl (bp (a ++ [(Tree.node 0 [] [] [])]) a.length n)) (okS rfl) rfl (by kernel_rfl) rfl rfl ?_
 exact gDe (by kernel_rfl) <| gJ (h K _ hK (by omega)) [0, 1, 2, 3, 8] [0] rfl hK pq3 ⟨⟨_, rfl, rfl, rfl, (ah _ ((a ++ [(Tree.node 0 [] [] [])]).set a.length n)).symm⟩, ⟨_, rfl, rfl, rfl, (vI _ b).symm⟩, (pqo3 rfl rfl rfl rfl rfl rfl)⟩ rfl
 replace hd := (of_decide_eq_false hd)
 replace h := h.2 hd
 refine gR 3 rfl <| go_xloopE <| gR 2 rfl <| go_sub (F' := (mkF 59 0 [(0, .ptr 0 0), (2, .ptr 1 0), (3, .ptr 2 0)])) (H' := ⟨5, [(4, .row 26 4 (kidsV a)), (3, .row 9 1 (List.map V.str b)), (2, vD c d), (1, vB 0 []), (0, vA q s e β t)]⟩) [0, 1, 2, 3, 4] [0] rfl hK pq3 ⟨⟨_, rfl, rfl, rfl, (ah _ a).symm⟩, ⟨_, rfl, rfl, rfl, (vI _ b).symm⟩, (pqo3 rfl rfl rfl rfl rfl rfl)⟩ rfl <| gR 1 rfl <| gDs [2, 0] 9 10 rfl (by kernel_rfl) (by kernel_rfl) <| gDr [(0, 2), (1, 3), (2, 0), (3, 0), (4, 0), (5, 0), (6, 0)] (by kernel_rfl) rfl rfl ?_
 obtain ⟨hb, h⟩ := h
 refine ax 7 (.repl 3 (.row 9 1 (List.map V.str (b ++ [e])))) rfl (by kernel_rfl) (bu aa rfl rfl rfl rfl rfl (apM V.str b e) (by rw [cQ]; exact hb)) (okR rfl) rfl (by kernel_rfl) rfl rfl ?_
 refine gDr [(8, 0), (9, 1)] (by kernel_rfl) rfl rfl <| gDe (by kernel_rfl) <| gR 1 rfl <| go_sub (F' := (mkF 59 0 [(2, .ptr 1 0), (3, .ptr 2 0)])) (H' := ⟨5, [(4, .row 26 4 (kidsV a)), (3, .row 9 1 (List.map V.str (b ++ [e]))), (2, vD c d), (1, vB 0 []), (0, vA q s e β t)]⟩) [0, 1, 2, 6, 4] [0] rfl hK pq2 ⟨⟨_, rfl, rfl, rfl, (ah _ a).symm⟩, ⟨_, rfl, rfl, rfl, (vI _ (b ++ [e])).symm⟩, (pqo3 rfl rfl rfl rfl rfl rfl)⟩ rfl <| gR 7 rfl <| gFR 3 rfl (ch _ (fun _ => rfl) _) rfl rfl ?_
 refine gFR 4 rfl (cm _) rfl rfl ?_
 obtain ⟨rfl, rfl, rfl, rfl, rfl, rfl⟩ := h
 exact go_sub (F' := (mkF 59 0 [(2, .ptr 1 0)])) (H' := ⟨2, [(1, vF ((Tree.node c d (b ++ [e]) a).kind) ((Tree.node c d (b ++ [e]) a).text) ((Tree.node c d (b ++ [e]) a).leads) ((Tree.node c d (b ++ [e]) a).kids)), (0, vA q s e β t)]⟩) [0, 1] [0] rfl hK pq1 (pqo2 rfl rfl rfl rfl) rfl <| go_endD [1] aa (rs := [.cell 2 26]) rfl rfl ⟨rfl, rfl⟩
 refine gF 13 rfl hd rfl ?_
 replace hd := (ne_of_beq_false hd)
 replace h := h.2 hd
 refine gDr [(6, 2), (7, 2), (8, 2), (9, 2), (10, 0), (11, 0), (12, 0), (13, 0), (14, 0), (15, 0), (16, 0)] (by kernel_rfl) rfl rfl <| gDe (by kernel_rfl) <| gR 4 rfl <| go_xloopE <| gR 2 rfl <| go_sub (F' := (mkF 59 0 [(0, .ptr 0 0), (2, .ptr 1 0), (3, .ptr 2 0)])) (H' := ⟨5, [(4, .row 26 4 (kidsV a)), (3, .row 9 1 (List.map V.str b)), (2, vD c d), (1, vB 0 []), (0, vA q s e β t)]⟩) [0, 1, 2, 3, 4] [0] rfl hK pq3 ⟨⟨_, rfl, rfl, rfl, (ah _ a).symm⟩, ⟨_, rfl, rfl, rfl, (vI _ b).symm⟩, (pqo3 rfl rfl rfl rfl rfl rfl)⟩ rfl ?_
 refine gR 1 rfl <| gDs [2, 0] 9 10 rfl (by kernel_rfl) (by kernel_rfl) <| gDr [(0, 2), (1, 3), (2, 0), (3, 0), (4, 0), (5, 0), (6, 0)] (by kernel_rfl) rfl rfl ?_
 obtain ⟨hb, h⟩ := h
 refine ax 7 (.repl 3 (.row 9 1 (List.map V.str (b ++ [e])))) rfl (by kernel_rfl) (bu aa rfl rfl rfl rfl rfl (apM V.str b e) (by rw [cQ]; exact hb)) (okR rfl) rfl (by kernel_rfl) rfl rfl ?_
 refine gDr [(8, 0), (9, 1)] (by kernel_rfl) rfl rfl <| gDe (by kernel_rfl) <| gR 1 rfl <| go_sub (F' := (mkF 59 0 [(2, .ptr 1 0), (3, .ptr 2 0)])) (H' := ⟨5, [(4, .row 26 4 (kidsV a)), (3, .row 9 1 (List.map V.str (b ++ [e]))), (2, vD c d), (1, vB 0 []), (0, vA q s e β t)]⟩) [0, 1, 2, 6, 4] [0] rfl hK pq2 ⟨⟨_, rfl, rfl, rfl, (ah _ a).symm⟩, ⟨_, rfl, rfl, rfl, (vI _ (b ++ [e])).symm⟩, (pqo3 rfl rfl rfl rfl rfl rfl)⟩ rfl <| gR 7 rfl <| gFR 3 rfl (ch _ (fun _ => rfl) _) rfl rfl ?_
 refine gFR 4 rfl (cm _) rfl rfl ?_
 obtain ⟨rfl, rfl, rfl, rfl, rfl, rfl⟩ := h
 exact go_sub (F' := (mkF 59 0 [(2, .ptr 1 0)])) (H' := ⟨2, [(1, vF ((Tree.node c d (b ++ [e]) a).kind) ((Tree.node c d (b ++ [e]) a).text) ((Tree.node c d (b ++ [e]) a).leads) ((Tree.node c d (b ++ [e]) a).kids)), (0, vA q s e β t)]⟩) [0, 1] [0] rfl hK pq1 (pqo2 rfl rfl rfl rfl) rfl <| go_endD [1] aa (rs := [.cell 2 26]) rfl rfl ⟨rfl, rfl⟩
theorem ey (m : Nat) (e : Int) (f : List UInt8) (c : (List (List UInt8))) (i : List GToken) (k : Int) (l : List UInt8) (n o : Int) (g : List Tree) (r0 : Tree) (p : List GToken) (d : Int) (a : List UInt8) (b q : Int) (h : dy m e f c i k l n o g r0 p d a b q) : bL (m + 1) e f c i k l n o g r0 p d a b q := by
 intro K j1 hK hj1
 obtain ⟨j1, rfl⟩ : ∃ j, j1 = j + 1 := ⟨j1 - 1, by omega⟩
 exact gR 1 rfl <| go_xloop <| gJ (h K _ hK (by omega)) [0, 1, 2, 3, 4] [0] rfl hK pq3 ⟨⟨_, rfl, rfl, rfl, (ah _ g).symm⟩, ⟨_, rfl, rfl, rfl, (vI _ c).symm⟩, (pqo3 rfl rfl rfl rfl rfl rfl)⟩ rfl
def fC (m : Nat) (p0 : Tree) (a : Int) (b : Nat) (r0 : Int) : Prop := ∀ (K : Ctx) (j1 : Nat), aR K [] → m ≤ j1 → qLG K Try.f15 (fun u _ => u = .int .i64 r0) (xL (xA (aj Try.f15))) [.loop (xL (xA (aj Try.f15))) j1, .blk 0, .seq (xF (aj Try.f15))] 22 (mkF 22 0 [(1, .box (ar p0) 0), (3, .int .i64 a), (4, .int .i64 (b : Int))]) ⟨0, []⟩
theorem nM (m : Nat) (p0 : Tree) (r0 : Int) (h : fC m p0 0 0 r0) : eI p0 r0 := by
 refine ⟨rfl, rfl, ?_⟩
 refine az 22 [] Try.func15 rfl rfl rfl (bg rfl) fun K hK => ?_
 exact gR 3 rfl <| gFP 0 rfl rfl rfl rfl <| gR 15 rfl <| go_loop m <| gJ (h K _ hK (by omega)) [] [] rfl hK pq3 trivial rfl
theorem nr (m : Nat) (p0 : Tree) (b : Int) (a : Nat) (r0 : Int) (h : ((a < p0.kids.length) → ∃ c, p0.kids[a]? = some c ∧ ∃ d, eI c d ∧ fC m p0 (max b d) (a + 1) r0) ∧ ((¬ a < p0.kids.length) → InI (b + 1) ∧ (b + 1) = r0)) : fC (m + 1) p0 b a r0 := by
 intro K j1 hK hj1
 obtain ⟨j1, rfl⟩ : ∃ j, j1 = j + 1 := ⟨j1 - 1, by omega⟩
 refine gR 7 rfl <| gV 8 (.int .i64 (p0.kids.length : Int)) rfl (bC (av _)) rfl <| gLB 7 rfl (av _) fun hl5 => gR 3 rfl <| gB 9 rfl rfl rfl ?_ ?_ <;> intro hd
 replace hd := (nP hd)
 replace h := h.1 hd
 refine gR 10 rfl ?_
 obtain ⟨c, hxt1_1, h⟩ := h
 refine gY (aY (ae hxt1_1) aa rfl rfl rfl rfl) rfl rfl <| gR 1 rfl ?_
 obtain ⟨d, hs6, h⟩ := h
 exact gC0 hs6 (by kernel_rfl) rfl rfl .rfl rfl <| gR 8 rfl <| gV 11 (.int .i64 ((a + 1 : Nat) : Int)) rfl (cM (by have := hl5; omega) (by omega)) rfl <| gR 2 rfl <| go_xloop <| gJ (h K _ hK (by omega)) [] [] rfl hK pq3 trivial rfl
 replace hd := (og hd)
 replace h := h.2 hd
 refine gR 3 rfl <| go_xloopE <| gR 5 rfl ?_
 obtain ⟨hb, h⟩ := h
 refine gR 1 rfl <| gV 21 (.int .i64 (b + 1)) rfl (cM hb rfl) rfl <| gR 4 rfl ?_
 subst h
 exact go_end aa (rs := [.tmp 2]) rfl rfl rfl
def fF (m : Nat) (p0 : List UInt8) (b c : List GToken) (d : Int) (e : List UInt8) (f a : Int) (g i : Nat) (r0 : Tree) (r1 r2 : Int) : Prop := ∀ (K : Ctx) (j1 : Nat), aR K [] → m ≤ j1 → qLG K Try.f6 (fun u _ => u = .tup [.agg (ar r0), .int .i64 r1, .int .i64 r2]) (xL (cB (cT (xH (xC (cB (aj Try.f6))))))) [.loop (xL (cB (cT (xH (xC (cB (aj Try.f6))))))) j1, .blk 0, .seq (xA (cT (xH (xC (cB (aj Try.f6)))))), .seq (xC (xA (aj Try.f6)))] 93 (mkF 93 0 [(0, .str p0), (2, .ptr 0 0), (5, .row 3 (List.map GToken.w b)), (7, .int .i64 (g : Int)), (9, .ptr 1 0), (11, .int .i64 (i : Int))]) ⟨2, [(1, vA c d e f a), (0, vB 0 [])]⟩
theorem fy (m : Nat) (p0 : List UInt8) (r0 : Tree) (r1 r2 : Int) (h : ∃ d g f c, lu p0 d g f c ∧ ((c ≠ 0) → (Tree.node 0 [] [] []) = r0 ∧ f = r1 ∧ c = r2) ∧ ((c = 0) → ∃ a i j k l b, eX d 0 g (-1) 0 a i j k l b ∧ ((b ≠ 0) → fF m p0 d i j k l b 0 0 r0 r1 r2) ∧ ((b = 0) → ∃ e, eI a e ∧ ((40 < e) → (Tree.node 0 [] [] []) = r0 ∧ 0 = r1 ∧ 4 = r2) ∧ ((¬ 40 < e) → a = r0 ∧ 0 = r1 ∧ 0 = r2)))) : iy p0 r0 r1 r2 := by
 refine ⟨rfl, rfl, ?_⟩
 refine az 93 [] Try.func6 rfl rfl rfl (bg rfl) fun K hK => ?_
 refine gR 10 rfl ?_
 obtain ⟨d, g, f, c, hs9, h⟩ := h
 refine gC0 hs9 (by kernel_rfl) rfl rfl .rfl rfl <| gR 11 rfl <| go_sub (F' := (mkF 93 0 [(0, .str p0), (2, .ptr 0 0), (5, .row 3 (List.map GToken.w d)), (6, .str g), (7, .int .i64 f), (8, .int .i64 c)])) (H' := ⟨1, [(0, vB 0 [])]⟩) [0] [] rfl hK pq6 (pqo1 rfl rfl) rfl <| gR 7 rfl <| gB 20 rfl rfl rfl ?_ ?_ <;> intro hd
 replace hd := (fB hd)
 replace h := h.1 hd
 refine gR 13 rfl ?_
 obtain ⟨rfl, rfl, rfl⟩ := h
 exact go_sub (F' := (mkF 93 0 [(2, .ptr 0 0), (3, .int .i64 f), (4, .int .i64 c)])) (H' := ⟨1, [(0, vF ((Tree.node 0 [] [] []).kind) ((Tree.node 0 [] [] []).text) ((Tree.node 0 [] [] []).leads) ((Tree.node 0 [] [] []).kids))]⟩) [0] [] rfl hK pq3 ⟨⟨_, rfl, rfl, (.cons .rfl (.cons .rfl (.cons (.nil 1) (.cons (.nil 4) .nil))))⟩, trivial⟩ rfl <| go_end aa (rs := [.cell 2 26, .tmp 3, .tmp 4]) rfl rfl rfl
 replace hd := (dY hd)
 replace h := h.2 hd
 refine gR 15 rfl ?_
 obtain ⟨a, i, j, k, l, b, hs10, h⟩ := h
 refine gCY hs10 [1] ?_
 refine gR 4 rfl <| go_sub (F' := (mkF 93 0 [(0, .str p0), (2, .ptr 0 0), (5, .row 3 (List.map GToken.w d)), (9, .ptr 1 0), (10, .ptr 2 0)])) (H' := ⟨3, [(2, .var 26 (ar a)), (1, vA i j k l b), (0, vB 0 [])]⟩) [0, 1, 4] [] rfl hK pq5 (pqo3 rfl rfl rfl rfl rfl rfl) rfl <| gR 10 rfl <| gB 34 rfl rfl rfl ?_ ?_ <;> intro hd
 replace hd := (fB hd)
 replace h := h.1 hd
 exact gR 13 rfl <| go_loop m <| gJ (h K _ hK (by omega)) [0, 1] [] rfl hK pq6 (pqo2 rfl rfl rfl rfl) rfl
 replace hd := (dY hd)
 replace h := h.2 hd
 refine gR 7 rfl ?_
 obtain ⟨e, hs11, h⟩ := h
 refine gC0 hs11 (by kernel_rfl) rfl rfl .rfl rfl <| gR 3 rfl <| gB 90 rfl rfl rfl ?_ ?_ <;> intro hd
 replace hd := (of_decide_eq_true hd)
 replace h := h.1 hd
 refine gR 11 rfl ?_
 obtain ⟨rfl, rfl, rfl⟩ := h
 exact go_sub (F' := (mkF 93 0 [(2, .ptr 0 0), (3, .int .i64 0), (4, .int .i64 4)])) (H' := ⟨1, [(0, vF ((Tree.node 0 [] [] []).kind) ((Tree.node 0 [] [] []).text) ((Tree.node 0 [] [] []).leads) ((Tree.node 0 [] [] []).kids))]⟩) [0] [] rfl hK pq3 ⟨⟨_, rfl, rfl, (.cons .rfl (.cons .rfl (.cons (.nil 1) (.cons (.nil 4) .nil))))⟩, trivial⟩ rfl <| go_end aa (rs := [.cell 2 26, .tmp 3, .tmp 4]) rfl rfl rfl
 replace hd := (of_decide_eq_false hd)
 replace h := h.2 hd
 refine gR 12 rfl ?_
 obtain ⟨rfl, rfl, rfl⟩ := h
 exact go_sub (F' := (mkF 93 0 [(2, .ptr 0 0), (3, .int .i64 0), (4, .int .i64 0)])) (H' := ⟨1, [(0, vF a.kind a.text a.leads a.kids)]⟩) [0] [] rfl hK pq3 (pqo1 rfl rfl) rfl <| go_end aa (rs := [.cell 2 26, .tmp 3, .tmp 4]) rfl rfl rfl
theorem jI (m : Nat) (p0 : List UInt8) (c k : List GToken) (l : Int) (n : List UInt8) (d a : Int) (b e : Nat) (r0 : Tree) (r1 r2 : Int) (h : (((e : Int) < d) → ∃ g, c[e]? = some g ∧ b + g.Lead.length ≤ 9223372036854775807 ∧ ∃ o, c[e]? = some o ∧ b + g.Lead.length + o.Text.length ≤ 9223372036854775807 ∧ e + 1 ≤ 9223372036854775807 ∧ fF m p0 c k l n d a (b + g.Lead.length + o.Text.length) (e + 1) r0 r1 r2) ∧ ((¬ (e : Int) < d) → ((d < (c.length : Int)) → ∃ p, d = ((p : Nat) : Int) ∧ ∃ i, c[p]? = some i ∧ b + i.Lead.length ≤ 9223372036854775807 ∧ (Tree.node 0 [] [] []) = r0 ∧ ((b + i.Lead.length : Nat) : Int) = r1 ∧ a = r2) ∧ ((¬ d < (c.length : Int)) → (Tree.node 0 [] [] []) = r0 ∧ (p0.length : Int) = r1 ∧ a = r2))) : fF (m + 1) p0 c k l n d a b e r0 r1 r2 := by
 intro K j1 hK hj1
 obtain ⟨j1, rfl⟩ : ∃ j, j1 = j + 1 := ⟨j1 - 1, by omega⟩
 refine gR 11 rfl <| gB 40 rfl rfl rfl ?_ ?_ <;> intro hd
 replace hd := (of_decide_eq_true hd)
 replace h := h.1 hd
 refine gR 5 rfl <| go_sub (F' := (mkF 93 0 [(0, .str p0), (2, .ptr 0 0), (5, .row 3 (List.map GToken.w c)), (7, .int .i64 (b : Int)), (9, .ptr 1 0), (11, .int .i64 (e : Int))])) (H' := ⟨2, [(1, vA k l n d a), (0, vB 0 [])]⟩) [0, 1] [] rfl hK pq6 (pqo2 rfl rfl rfl rfl) rfl <| gDs [] 16 16 rfl (by kernel_rfl) (by kernel_rfl) <| gDr [(0, 2), (1, 2), (2, 2)] (by kernel_rfl) rfl rfl ?_
 obtain ⟨g, hxx1_1, h⟩ := h
 refine gYd 3 rfl (by kernel_rfl) (aY (mapget (f := GToken.w) hxx1_1) aa rfl rfl rfl rfl) rfl rfl <| gDr [(4, 2), (5, 2), (6, 2)] (by kernel_rfl) rfl rfl ?_
 obtain ⟨hb, h⟩ := h
 refine gDr [(7, 2)] (by kernel_rfl) rfl rfl <| gV 50 (.int .i64 ((b + g.Lead.length : Nat) : Int)) rfl (cM (by omega) (by omega)) rfl <| gDr [(8, 2), (9, 0)] (by kernel_rfl) rfl rfl ?_
 obtain ⟨o, hxx1_2, h⟩ := h
 refine cu 10 rfl (by kernel_rfl) (aY (mapget (f := GToken.w) hxx1_2) aa rfl rfl rfl rfl) rfl rfl ?_
 refine gDr [(11, 0), (12, 0), (13, 0)] (by kernel_rfl) rfl rfl ?_
 obtain ⟨hb, h⟩ := h
 refine gDr [(14, 0)] (by kernel_rfl) rfl rfl <| gV 57 (.int .i64 ((b + g.Lead.length + o.Text.length : Nat) : Int)) rfl (cM (by omega) (by omega)) rfl <| gDr [(15, 0)] (by kernel_rfl) rfl rfl <| gDe (by kernel_rfl) <| gR 4 rfl ?_
 obtain ⟨hb, h⟩ := h
 exact gR 1 rfl <| gV 42 (.int .i64 ((e + 1 : Nat) : Int)) rfl (cM (by omega) (by omega)) rfl <| gR 2 rfl <| go_xloop <| gJ (h K _ hK (by omega)) [0, 1] [] rfl hK pq6 (pqo2 rfl rfl rfl rfl) rfl
 replace hd := (of_decide_eq_false hd)
 replace h := h.2 hd
 refine gR 3 rfl <| go_xloopE <| gR 11 rfl <| gV 63 (.int .i64 (c.length : Int)) rfl (bC (cQ GToken.w _)) rfl <| gLB 62 rfl (cQ GToken.w _) fun hl12 => gR 3 rfl <| gB 64 rfl rfl rfl ?_ ?_ <;> intro hd
 replace hd := (of_decide_eq_true hd)
 replace h := h.1 hd
 refine gR 1 rfl <| go_sub (F' := (mkF 93 0 [(2, .ptr 0 0), (5, .row 3 (List.map GToken.w c)), (7, .int .i64 (b : Int)), (9, .ptr 1 0)])) (H' := ⟨2, [(1, vA k l n d a), (0, vB 0 [])]⟩) [0, 1] [] rfl hK pq4 (pqo2 rfl rfl rfl rfl) rfl <| gR 1 rfl <| gDs [1] 18 19 rfl (by kernel_rfl) (by kernel_rfl) <| gDr [(0, 2), (1, 2), (2, 2), (3, 2), (4, 2), (5, 2), (6, 3)] (by kernel_rfl) rfl rfl ?_
 obtain ⟨p, q, h⟩ := h
 refine gV 71 (.int .i64 ((p : Nat) : Int)) rfl (iF q) rfl ?_
 obtain ⟨i, hxx1_4, h⟩ := h
 refine gYd 7 rfl (by kernel_rfl) (aY (mapget (f := GToken.w) hxx1_4) aa rfl rfl rfl rfl) rfl rfl <| gDr [(8, 2), (9, 2), (10, 2)] (by kernel_rfl) rfl rfl ?_
 obtain ⟨hb, h⟩ := h
 refine gDr [(11, 2)] (by kernel_rfl) rfl rfl <| gV 76 (.int .i64 ((b + i.Lead.length : Nat) : Int)) rfl (cM (by omega) (by omega)) rfl <| gDr [(12, 2), (13, 2), (14, 2), (15, 3), (16, 0), (17, 0), (18, 1)] (by kernel_rfl) rfl rfl <| gDe (by kernel_rfl) <| gR 4 rfl ?_
 obtain ⟨rfl, rfl, rfl⟩ := h
 exact go_sub (F' := (mkF 93 0 [(2, .ptr 0 0), (3, .int .i64 ((b + i.Lead.length : Nat) : Int)), (4, .int .i64 a)])) (H' := ⟨1, [(0, vF ((Tree.node 0 [] [] []).kind) ((Tree.node 0 [] [] []).text) ((Tree.node 0 [] [] []).leads) ((Tree.node 0 [] [] []).kids))]⟩) [0] [] rfl hK pq3 ⟨⟨_, rfl, rfl, (.cons .rfl (.cons .rfl (.cons (.nil 1) (.cons (.nil 4) .nil))))⟩, trivial⟩ rfl <| go_end aa (rs := [.cell 2 26, .tmp 3, .tmp 4]) rfl rfl rfl
 replace hd := (of_decide_eq_false hd)
 replace h := h.2 hd
 refine gR 3 rfl <| go_sub (F' := (mkF 93 0 [(0, .str p0), (2, .ptr 0 0), (9, .ptr 1 0)])) (H' := ⟨2, [(1, vA k l n d a), (0, vB 0 [])]⟩) [0, 1] [] rfl hK pq3 (pqo2 rfl rfl rfl rfl) rfl <| gR 1 rfl <| gDs [1] 9 10 rfl (by kernel_rfl) (by kernel_rfl) <| gDr [(0, 2), (1, 2), (2, 2), (3, 2), (4, 2), (5, 2), (6, 3), (7, 0), (8, 0), (9, 1)] (by kernel_rfl) rfl rfl <| gDe (by kernel_rfl) <| gR 3 rfl ?_
 obtain ⟨rfl, rfl, rfl⟩ := h
 exact go_sub (F' := (mkF 93 0 [(2, .ptr 0 0), (3, .int .i64 (p0.length : Int)), (4, .int .i64 a)])) (H' := ⟨1, [(0, vF ((Tree.node 0 [] [] []).kind) ((Tree.node 0 [] [] []).text) ((Tree.node 0 [] [] []).leads) ((Tree.node 0 [] [] []).kids))]⟩) [0] [] rfl hK pq3 ⟨⟨_, rfl, rfl, (.cons .rfl (.cons .rfl (.cons (.nil 1) (.cons (.nil 4) .nil))))⟩, trivial⟩ rfl <| go_end aa (rs := [.cell 2 26, .tmp 3, .tmp 4]) rfl rfl rfl
section
variable {L : List TokZ} {tl : List UInt8} {sz : Nat} (hg : Gl L) (hL : L.length ≤ 1000000) {n : Nat}
include hg hL
theorem qL (s : PS) (st : RS) (hn : s.toks.length < n) (hr : Rl L sz s st) :
    ∃ (y : Tree) (st2 : RS), Rl L sz (aQ n s).2 st2 ∧ ((aQ n s).2.failed = 0 → y = (aQ n s).1) ∧
      ∀ (K : Int) (X : List UInt8) (ls cs : List (List UInt8)) (ks : List Tree) (M : Nat) (x : Tree) (sq : RS), ks.length ≤ 2000000 →
        L1_semvcsref02_parser_def M K X ls (gl L) st2.at_ tl st2.stop st2.e (ks ++ [y]) cs x (gl L) sq.at_ tl sq.stop sq.e → cI (M + 3) K X ls cs (gl L) st.at_ tl st.stop st.e ks x (gl L) sq.at_ tl sq.stop sq.e := by
  obtain ⟨st1, X1, l1, q1, r1, b1, e1⟩ := jx (tl := tl) hL 4 [] [] [] 1 (by decide) (by decide) hr
  simp only [List.length_nil] at b1
  obtain ⟨st2, l2, q2, r2, b2, e2⟩ := bZ (tl := tl) hg hL 4 X1 l1 [] [58] (by decide) (by omega) r1
  have n1 := bY 1 1 s
  have n2 := aw [58] (aL 1 1 s).2.2
  obtain ⟨x3, st3, q3, r3, e3⟩ := rU (tl := tl) hg hL n (ai [58] (aL 1 1 s).2.2).2 st2 (by omega) r2
  refine ⟨.node 4 X1 l2 [x3], st3, r3, fun h0 => ?_, fun K X ls cs ks M x sq hk Q => ?_⟩
  · have f2 := r2.up (fun d => ny n d) h0
    have f1 := r1.up (fun d => bB d (x := [58]) (by decide)) f2
    rw [e2 f2, (e1 f1).1, (e1 f1).2, e3 h0]
    rfl
  · have lk : (ks ++ [Tree.node 0 [] [] []]).length ≤ 1000000000 := by simp only [List.length_append, List.length_cons, List.length_nil]; omega
    exact (lK (M + 2) _ _ _ _ _ _ _ _ _ _ _ _ _ _ _ _ ⟨_, _, _, _, _, _, _, _, _, q1, _, _, _, _, _, _, _, _, _, q2, _, _, _, _, _, _, q3, Nat.le_of_ble_eq_true rfl, _, rfl, (lJ (M + 1) _ _ _ _ _ _ _ _ _ _ _ _ _ _ _ _ _ _ _ _ _ ⟨lk, _, fR _ _, by rw [fN]; exact (lH M _ _ _ _ _ _ _ _ _ _ _ _ _ _ _ _ Q)⟩)⟩)
def Tl (L : List TokZ) (tl : List UInt8) (st : RS) (K : Int) (X : List UInt8) (ls : List (List UInt8)) (ks : List Tree) (cs : List (List UInt8)) (x : Tree) (sq : RS) : Prop :=
 ∃ (st3 : RS) (l3 : List (List UInt8)) (t4 : Tree) (st4 : RS) (M : Nat), al (gl L) st.at_ tl st.stop st.e K X ls ks [58] (gl L) st3.at_ tl st3.stop st3.e K X l3 ks ∧ cg (gl L) st3.at_ tl st3.stop st3.e t4 (gl L) st4.at_ tl st4.stop st4.e ∧ fx M K X l3 ks t4 (gl L) st4.at_ tl st4.stop st4.e cs x (gl L) sq.at_ tl sq.stop sq.e
omit hg hL in
theorem qb {K : Int} {X : List UInt8} {ls l2 cs : List (List UInt8)} {ks : List Tree} {st st2 sq : RS} {x : Tree} (hk : ks.length ≤ 2000000) (q : al (gl L) st.at_ tl st.stop st.e K X ls ks [41] (gl L) st2.at_ tl st2.stop st2.e K X l2 ks) (h : Tl L tl st2 K X l2 ks cs x sq) : ∃ M, dW M K X ls (gl L) st.at_ tl st.stop st.e ks cs x (gl L) sq.at_ tl sq.stop sq.e := by
 obtain ⟨st3, l3, t4, st4, M, q3, q4, Q⟩ := h
 have lk : (ks ++ [Tree.node 0 [] [] []]).length ≤ 1000000000 := by simp only [List.length_append, List.length_cons, List.length_nil]; omega
 exact ⟨M + 1, (lE M _ _ _ _ _ _ _ _ _ _ _ _ _ _ _ _ ⟨_, _, _, _, _, _, _, _, _, q, _, _, _, _, _, _, _, _, _, q3, _, _, _, _, _, _, q4, lk, _, fR _ _, Q⟩)⟩
theorem tX (K : Int) (X : List UInt8) (ls : List (List UInt8)) (hls : ls.length ≤ 5) :
    ∀ (fuel : Nat) (s : PS) (st : RS) (cs' : List (List UInt8)) (ks' : List Tree) (cs : List (List UInt8)) (ks : List Tree), s.toks.length < fuel → s.toks.length < n → Rl L sz s st → ks' ≠ [] → ks'.length + s.toks.length ≤ 1000000 → cs'.length + s.toks.length ≤ 1000000 → (s.failed = 0 → cs' = cs ∧ ks' = ks) →
      ∃ (st2 : RS) (l2 cs2 : List (List UInt8)) (ks2 : List Tree), Rl L sz (ai [41] (commaF (aQ n) 8 (fun t => t.kind == 1) fuel cs ks s).2.2).2 st2 ∧ l2.length ≤ 6 ∧ ks2.length ≤ 1000001 ∧ cs2.length ≤ 1000001 ∧
        ((ai [41] (commaF (aQ n) 8 (fun t => t.kind == 1) fuel cs ks s).2.2).2.failed = 0 → l2 = ls ++ [(ai [41] (commaF (aQ n) 8 (fun t => t.kind == 1) fuel cs ks s).2.2).1] ∧ cs2 = (commaF (aQ n) 8 (fun t => t.kind == 1) fuel cs ks s).1 ∧ ks2 = (commaF (aQ n) 8 (fun t => t.kind == 1) fuel cs ks s).2.1) ∧
        ∀ (x : Tree) (sq : RS), Tl L tl st2 K X l2 ks2 cs2 x sq → ∃ M, L1_semvcsref02_parser_def M K X ls (gl L) st.at_ tl st.stop st.e ks' cs' x (gl L) sq.at_ tl sq.stop sq.e
  | 0, s, st, cs', ks', cs, ks, h, _, _, _, _, _, _ => by omega
  | fuel + 1, s, st, cs', ks', cs, ks, h, hn, hr, hk0, hkl', hcl, hk => by
    have hkl : ¬ ((ks'.length : Nat) : Int) = 0 := fun e => hk0 (List.length_eq_zero_iff.1 (by omega))
    by_cases f0 : s.failed = 0
    · obtain ⟨rfl, rfl⟩ := hk f0
      have g0 : st.e = 0 := hr.e0.2 f0
      have i := kG (tl := tl) hg [41] (by decide) hr
      by_cases ce : (ab s).text = [41]
      · have e1 : commaF (aQ n) 8 (fun t => t.kind == 1) (fuel + 1) cs' ks' s = (cs', ks', s) := by rw [commaF, if_neg (by rw [ce]; decide)]
        obtain ⟨st', l', q, r, b, e⟩ := bZ (tl := tl) hg hL K X ls ks' [41] (by decide) (by omega) hr
        rw [e1]
        refine ⟨st', l', cs', ks', r, by omega, by omega, by omega, fun h0 => ⟨e h0, rfl, rfl⟩, fun x sq T => ?_⟩
        obtain ⟨M, Q⟩ := qb (by omega) q T
        exact ⟨M + 1, (bF M _ _ _ _ _ _ _ _ _ _ _ _ _ _ _ _ ⟨fun _ => ⟨_, _, _, _, _, _, i, fun e => absurd ce (of_decide_eq_false e), fun _ => Q⟩, fun e => absurd g0 e⟩)⟩
      · by_cases c44 : (ab s).text = [44]
        · have hnn := aT (s := s) (.inl (by rw [c44]; decide))
          have lt := cn hnn
          obtain ⟨st1, l1, q1, r1, b1, e1⟩ := bZ (tl := tl) hg hL 0 [] [] [] [44] (by decide) (by decide) hr
          rw [jd c44] at r1 e1
          have f1 : (ac s).failed = 0 := by rw [fe]; exact f0
          have el : l1 = [(ab s).lead] := e1 f1
          subst el
          have kb := lq (tl := tl) r1
          have lc : (cs' ++ [(ab s).lead]).length ≤ 1000000000 := by simp only [List.length_append, List.length_cons, List.length_nil]; omega
          obtain ⟨s2, es2⟩ : ∃ s2, s2 = if ks'.length = 8 ∧ ((ab (ac s)).kind == 1) = true then aV 3 (ac s) else ac s := ⟨_, rfl⟩
          have ec : commaF (aQ n) 8 (fun t => t.kind == 1) (fuel + 1) cs' ks' s = commaF (aQ n) 8 (fun t => t.kind == 1) fuel (cs' ++ [(ab s).lead]) (ks' ++ [(aQ n s2).1]) (aQ n s2).2 := by
            rw [commaF, if_pos c44, es2]
          have l2 : s2.toks.length ≤ (ac s).toks.length := by
            rw [es2]
            split
            · exact ep 3 _
            · exact Nat.le_refl _
          have l3 := ig n s2
          have L2 : ∃ st2, Rl L sz s2 st2 ∧ ∀ (M : Nat) (cs : List (List UInt8)) (x : Tree) (sq : RS), cI M K X ls cs (gl L) st2.at_ tl st2.stop st2.e ks' x (gl L) sq.at_ tl sq.stop sq.e → dZ (M + 1) K X ls (gl L) st1.at_ tl st1.stop st1.e cs ks' x (gl L) sq.at_ tl sq.stop sq.e := by
            by_cases hb : ks'.length = 8 ∧ ((ab (ac s)).kind == 1) = true
            · rw [if_pos hb] at es2
              obtain ⟨st2, q2, r2⟩ := nm (tl := tl) (e := 3) (by decide) r1
              rw [es2]
              exact ⟨st2, r2, fun M cs x sq Q => (dP M _ _ _ _ _ _ _ _ _ _ _ _ _ _ _ _ ⟨_, _, _, _, _, _, kb, fun _ => ⟨fun _ => ⟨_, _, _, _, _, q2, Q⟩, fun e => absurd (by rw [hb.1]; rfl) e⟩, fun e => absurd (eq_of_beq hb.2) e⟩)⟩
            · rw [if_neg hb] at es2
              rw [es2]
              exact ⟨st1, r1, fun M cs x sq Q => (dP M _ _ _ _ _ _ _ _ _ _ _ _ _ _ _ _ ⟨_, _, _, _, _, _, kb, fun h1 => ⟨fun h8 => absurd ⟨by omega, beq_iff_eq.2 h1⟩ hb, fun _ => Q⟩, fun _ => Q⟩)⟩
          obtain ⟨st2, r2, L2⟩ := L2
          obtain ⟨y, st3, r3, e3, go⟩ := qL (n := n) (tl := tl) hg hL s2 st2 (by omega) r2
          obtain ⟨st4, l4, cs4, ks4, r4, b4, b4', b4'', e4, Q4⟩ := tX K X ls hls fuel (aQ n s2).2 st3 (cs' ++ [(ab s).lead]) (ks' ++ [y]) (cs' ++ [(ab s).lead]) (ks' ++ [(aQ n s2).1]) (by omega) (by omega) r3 (by simp) (by simp only [List.length_append, List.length_cons, List.length_nil]; omega) (by simp only [List.length_append, List.length_cons, List.length_nil]; omega) (fun h0 => ⟨rfl, by rw [e3 h0]⟩)
          rw [ec]
          refine ⟨st4, l4, cs4, ks4, r4, b4, b4', b4'', e4, fun x sq T => ?_⟩
          obtain ⟨M, Q⟩ := Q4 x sq T
          exact ⟨M + 5, (bF (M + 4) _ _ _ _ _ _ _ _ _ _ _ _ _ _ _ _ ⟨fun _ => ⟨_, _, _, _, _, _, i, fun _ => ⟨fun _ => ⟨_, _, _, _, _, _, _, _, _, q1, lc, L2 _ _ _ _ (go K X ls _ ks' M x sq (by omega) Q)⟩, fun e => absurd (show (0 : Int) < ((ks'.length : Nat) : Int) by omega) e⟩, fun e => absurd (of_decide_eq_true e) ce⟩, fun e => absurd g0 e⟩)⟩
        · obtain ⟨st1, l1, q1, r1, b1, e1⟩ := bZ (tl := tl) hg hL 0 [] [] [] [44] (by decide) (by decide) hr
          rw [kJ c44] at r1
          have d1 := r1.dd (fP (by decide) _)
          have g1 : st1.e ≠ 0 := fun e => d1.1 (r1.e0.1 e)
          have kb := lq (tl := tl) r1
          rw [fK d1] at kb
          have e2 : commaF (aQ n) 8 (fun t => t.kind == 1) (fuel + 1) cs' ks' s = (cs', ks', s) := by rw [commaF, if_neg c44]
          simp only [List.length_nil] at b1
          have lc : (cs' ++ l1).length ≤ 1000000000 := by simp only [List.length_append]; omega
          have hz : (aV 2 s).toks.length = 0 := by rw [d1.2]; rfl
          obtain ⟨y, st3, r3, e3, go⟩ := qL (n := n) (tl := tl) hg hL (aV 2 s) st1 (by omega) r1
          have sm3 := mm n d1
          have d3 := sm3.dd d1
          have g3 : st3.e ≠ 0 := fun e => d3.1 (r3.e0.1 e)
          obtain ⟨st4, l4, q4, r4, b4, e4⟩ := bZ (tl := tl) hg hL K X ls (ks' ++ [y]) [41] (by decide) (by omega) r3
          have sm4 := sm3.tr (bB d3 (x := [41]) (by decide))
          have d4 := sm4.dd d1
          rw [e2, kJ ce]
          refine ⟨st4, l4, cs' ++ l1, ks' ++ [y], r4.sm d4 ⟨sm4.1.symm, sm4.2.1.symm, d1.2⟩, by omega, by simp only [List.length_append, List.length_cons, List.length_nil]; omega, by simp only [List.length_append]; omega, fun h0 => absurd h0 d1.1, fun x sq T => ?_⟩
          obtain ⟨M, Q⟩ := qb (by simp only [List.length_append, List.length_cons, List.length_nil]; omega) q4 T
          have Q1 := (bF M _ _ _ _ _ _ _ _ _ _ _ _ _ _ _ _ ⟨fun e => absurd e g3, fun _ => Q⟩)
          exact ⟨M + 6, (bF (M + 5) _ _ _ _ _ _ _ _ _ _ _ _ _ _ _ _ ⟨fun _ => ⟨_, _, _, _, _, _, i, fun _ => ⟨fun _ => ⟨_, _, _, _, _, _, _, _, _, q1, lc, (dP (M + 4) _ _ _ _ _ _ _ _ _ _ _ _ _ _ _ _ ⟨_, _, _, _, _, _, kb, fun e => (by cases e), fun _ => go K X ls _ ks' (M + 1) x sq (by omega) Q1⟩)⟩, fun e => absurd (show (0 : Int) < ((ks'.length : Nat) : Int) by omega) e⟩, fun e => absurd (of_decide_eq_true e) ce⟩, fun e => absurd g0 e⟩)⟩
    · have d := hr.dd f0
      have g0 : st.e ≠ 0 := fun e => f0 (hr.e0.1 e)
      obtain ⟨st', l', q, r, b, e⟩ := bZ (tl := tl) hg hL K X ls ks' [41] (by decide) (by omega) hr
      have sm := bB d (x := [41]) (by decide)
      rw [nG _ _ _ d]
      refine ⟨st', l', cs', ks', r, by omega, by omega, by omega, fun h0 => absurd (sm.1.symm.trans h0) d.1, fun x sq T => ?_⟩
      obtain ⟨M, Q⟩ := qb (by omega) q T
      exact ⟨M + 1, (bF M _ _ _ _ _ _ _ _ _ _ _ _ _ _ _ _ ⟨fun e => absurd e g0, fun _ => Q⟩)⟩
theorem wz (K : Int) (X : List UInt8) (ls : List (List UInt8)) (hls : ls.length ≤ 5) (s : PS) (st : RS) (hn : s.toks.length < n) (hn2 : n ≤ 900000) (hr : Rl L sz s st) :
    ∃ (st2 : RS) (l2 cs2 : List (List UInt8)) (ks2 : List Tree), Rl L sz (ai [41] (cJ (aQ n) 8 (fun t => t.kind == 1) s).2.2).2 st2 ∧ l2.length ≤ 6 ∧ ks2.length ≤ 1000001 ∧ cs2.length ≤ 1000001 ∧
      ((ai [41] (cJ (aQ n) 8 (fun t => t.kind == 1) s).2.2).2.failed = 0 → l2 = ls ++ [(ai [41] (cJ (aQ n) 8 (fun t => t.kind == 1) s).2.2).1] ∧ cs2 = (cJ (aQ n) 8 (fun t => t.kind == 1) s).1 ∧ ks2 = (cJ (aQ n) 8 (fun t => t.kind == 1) s).2.1) ∧
      ∀ (x : Tree) (sq : RS), Tl L tl st2 K X l2 ks2 cs2 x sq → ∃ M, L1_semvcsref02_parser_def M K X ls (gl L) st.at_ tl st.stop st.e [] [] x (gl L) sq.at_ tl sq.stop sq.e := by
  by_cases f0 : s.failed = 0
  · have g0 : st.e = 0 := hr.e0.2 f0
    have i := kG (tl := tl) hg [41] (by decide) hr
    by_cases ce : (ab s).text = [41]
    · have e1 : cJ (aQ n) 8 (fun t => t.kind == 1) s = ([], [], s) := by rw [cJ, if_pos ce]
      obtain ⟨st', l', q, r, b, e⟩ := bZ (tl := tl) hg hL K X ls [] [41] (by decide) (by omega) hr
      rw [e1]
      refine ⟨st', l', [], [], r, by omega, by simp, by simp, fun h0 => ⟨e h0, rfl, rfl⟩, fun x sq T => ?_⟩
      obtain ⟨M, Q⟩ := qb (by simp) q T
      exact ⟨M + 1, (bF M _ _ _ _ _ _ _ _ _ _ _ _ _ _ _ _ ⟨fun _ => ⟨_, _, _, _, _, _, i, fun e => absurd ce (of_decide_eq_false e), fun _ => Q⟩, fun e => absurd g0 e⟩)⟩
    · have kb := lq (tl := tl) hr
      obtain ⟨y, st3, r3, e3, go⟩ := qL (n := n) (tl := tl) hg hL s st hn hr
      have l3 := ig n s
      have ec : cJ (aQ n) 8 (fun t => t.kind == 1) s = commaF (aQ n) 8 (fun t => t.kind == 1) ((aQ n s).2.toks.length + 1) [] [(aQ n s).1] (aQ n s).2 := by rw [cJ, if_neg ce]
      obtain ⟨st4, l4, cs4, ks4, r4, b4, b4', b4'', e4, Q4⟩ := tX (n := n) hg hL K X ls hls ((aQ n s).2.toks.length + 1) (aQ n s).2 st3 [] [y] [] [(aQ n s).1] (by omega) (by omega) r3 (by simp) (by simp only [List.length_cons, List.length_nil]; omega) (by simp only [List.length_nil]; omega) (fun h0 => ⟨rfl, by rw [e3 h0]⟩)
      rw [ec]
      refine ⟨st4, l4, cs4, ks4, r4, b4, b4', b4'', e4, fun x sq T => ?_⟩
      obtain ⟨M, Q⟩ := Q4 x sq T
      have L4 := go K X ls [] [] M x sq (by simp) Q
      exact ⟨M + 5, (bF (M + 4) _ _ _ _ _ _ _ _ _ _ _ _ _ _ _ _ ⟨fun _ => ⟨_, _, _, _, _, _, i, fun _ => ⟨fun e => absurd e (by decide), fun _ => (dP (M + 3) _ _ _ _ _ _ _ _ _ _ _ _ _ _ _ _ ⟨_, _, _, _, _, _, kb, fun _ => ⟨fun e => absurd e (by decide), fun _ => L4⟩, fun _ => L4⟩)⟩, fun e => absurd (of_decide_eq_true e) ce⟩, fun e => absurd g0 e⟩)⟩
  · have d := hr.dd f0
    have g0 : st.e ≠ 0 := fun e => f0 (hr.e0.1 e)
    obtain ⟨st', l', q, r, b, e⟩ := bZ (tl := tl) hg hL K X ls [] [41] (by decide) (by omega) hr
    have sm := mi (item := (aQ n)) (most := 8) (beg := (fun t => t.kind == 1)) (fun d => mm n d) d
    have sm2 := sm.tr (bB (sm.dd d) (x := [41]) (by decide))
    have sm3 := bB d (x := [41]) (by decide)
    refine ⟨st', l', [], [], r.sm (sm3.dd d) ⟨sm2.1.trans sm3.1.symm, sm2.2.1.trans sm3.2.1.symm, sm2.2.2⟩, by omega, by simp, by simp, fun h0 => absurd (sm2.1.symm.trans h0) d.1, fun x sq T => ?_⟩
    obtain ⟨M, Q⟩ := qb (by simp) q T
    exact ⟨M + 1, (bF M _ _ _ _ _ _ _ _ _ _ _ _ _ _ _ _ ⟨fun e => absurd e g0, fun _ => Q⟩)⟩
theorem yN (s : PS) (st : RS) (ht : (ab s).text = cz) (hn : s.toks.length < n) (hr : Rl L sz s st) : Ar L tl sz bz st (fh n s) := by
 have i := kG (tl := tl) hg cz (by decide) hr
 obtain ⟨st0, l0, q0, r0, b0, e0⟩ := bZ (tl := tl) hg hL 3 [] [] [] cz (by decide) (by decide) hr
 simp only [List.length_nil] at b0
 obtain ⟨st1, X1, l1, q1, r1, b1, e1⟩ := jx (tl := tl) hL 3 [] l0 [] 2 (by decide) (by omega) r0
 obtain ⟨st2, l2, q2, r2, b2, e2⟩ := bZ (tl := tl) hg hL 3 X1 l1 [] [61] (by decide) (by omega) r1
 have n0 := aw cz s
 have n1 := bY 2 2 (ai cz s).2
 have n2 := aw [61] (aL 2 2 (ai cz s).2).2.2
 obtain ⟨x3, st3, q3, r3, e3⟩ := rU (tl := tl) hg hL n (ai [61] (aL 2 2 (ai cz s).2).2.2).2 st2 (by omega) r2
 refine ⟨.node 3 X1 l2 [x3], st3, (iC 1 _ _ _ _ _ _ _ _ _ _ _ ⟨_, _, _, _, _, _, i, fun _ => ⟨_, _, _, _, _, _, _, _, _, q0, _, _, _, _, _, _, _, _, _, q1, _, _, _, _, _, _, _, _, _, q2, _, _, _, _, _, _, q3, Nat.le_of_ble_eq_true rfl, _, rfl, (lL 0 _ _ _ _ _ _ _ _ _ _ _ _ _ _ _ _ ⟨rfl, rfl, rfl, rfl, rfl, rfl⟩)⟩, fun e => absurd ht (of_decide_eq_false e)⟩), r3, fun h0 => ?_⟩
 have f2 := r2.up (fun d => ny n d) h0
 have f1 := r1.up (fun d => bB d (x := [61]) (by decide)) f2
 have f0 := r0.up (fun d => ld d 2 2) f1
 rw [e2 f2, (e1 f1).1, (e1 f1).2, e0 f0, e3 h0]
 rfl
theorem nB (s : PS) (st : RS) (ht : ¬ (ab s).text = cz) (hn : s.toks.length < n) (hn2 : n ≤ 900000) (hr : Rl L sz s st) : Ar L tl sz bz st (bI n s) := by
 have i := kG (tl := tl) hg cz (by decide) hr
 obtain ⟨a, ea⟩ : ∃ a, a = ai dQ s := ⟨_, rfl⟩
 obtain ⟨b, eb⟩ : ∃ b, b = aL 1 1 a.2 := ⟨_, rfl⟩
 obtain ⟨c, ec⟩ : ∃ c, c = ai [40] b.2.2 := ⟨_, rfl⟩
 obtain ⟨r, er⟩ : ∃ r, r = cJ (aQ n) 8 (fun t => t.kind == 1) c.2 := ⟨_, rfl⟩
 obtain ⟨d, ed⟩ : ∃ d, d = ai [41] r.2.2 := ⟨_, rfl⟩
 obtain ⟨e, ee⟩ : ∃ e, e = ai [58] d.2 := ⟨_, rfl⟩
 obtain ⟨t, et⟩ : ∃ t, t = gd n e.2 := ⟨_, rfl⟩
 obtain ⟨g, eg⟩ : ∃ g, g = ai [61] t.2 := ⟨_, rfl⟩
 obtain ⟨x, ex⟩ : ∃ x, x = eD n g.2 := ⟨_, rfl⟩
 have ef : bI n s = (.node 2 b.1 ([a.1, b.2.1, c.1, d.1, e.1, g.1] ++ r.1) (r.2.1 ++ [t.1, x.1]), x.2) := by rw [ex, eg, et, ee, ed, er, ec, eb, ea]; rfl
 have n0 := aw dQ s
 have n1 := bY 1 1 a.2
 have n2 := aw [40] b.2.2
 have n3 := nD (item := aQ n) (fun s => ig n s) (most := 8) (beg := fun t => t.kind == 1) c.2
 have n4 := aw [41] r.2.2
 have n5 := aw [58] d.2
 have n6 := kZ n e.2
 have n7 := aw [61] t.2
 rw [← ea] at n0
 rw [← eb] at n1
 rw [← ec] at n2
 rw [← er] at n3
 rw [← ed] at n4
 rw [← ee] at n5
 rw [← et] at n6
 rw [← eg] at n7
 obtain ⟨st0, l0, q0, r0, b0, e0⟩ := bZ (tl := tl) hg hL 2 [] [] [] dQ (by decide) (by decide) hr
 rw [← ea] at r0 e0
 simp only [List.length_nil] at b0
 obtain ⟨st1, X, l1, q1, r1, b1, e1⟩ := jx (tl := tl) hL 2 [] l0 [] 1 (by decide) (by omega) r0
 rw [← eb] at r1 e1
 obtain ⟨st2, l2, q2, r2, b2, e2⟩ := bZ (tl := tl) hg hL 2 X l1 [] [40] (by decide) (by omega) r1
 rw [← ec] at r2 e2
 obtain ⟨st3, l3, cs, ks, r3, b3, bk, bc, e3, go⟩ := wz (n := n) (tl := tl) hg hL 2 X l2 (by omega) c.2 st2 (by omega) hn2 r2
 rw [← er, ← ed] at r3 e3
 obtain ⟨st4, l4, q4, r4, b4, e4⟩ := bZ (tl := tl) hg hL 2 X l3 ks [58] (by decide) (by omega) r3
 rw [← ee] at r4 e4
 obtain ⟨x5, st5, q5, r5, e5⟩ := rU (tl := tl) hg hL n e.2 st4 (by omega) r4
 rw [← et] at r5 e5
 obtain ⟨st6, l6, q6, r6, b6, e6⟩ := bZ (tl := tl) hg hL 2 X l4 (ks ++ [x5]) [61] (by decide) (by omega) r5
 rw [← eg] at r6 e6
 obtain ⟨x7, st7, q7, r7, e7⟩ := vy (tl := tl) hg hL n g.2 st6 (by omega) (by omega) r6
 rw [← ex] at r7 e7
 have lk : (ks ++ [x5] ++ [Tree.node 0 [] [] []]).length ≤ 1000000000 := by simp only [List.length_append, List.length_cons, List.length_nil]; omega
 have T : Tl L tl st3 2 X l3 ks cs (.node 2 X (l6 ++ cs) (ks ++ [x5] ++ [x7])) st7 := ⟨st4, l4, x5, st5, 2, q4, q5, by
  refine (lN 1 _ _ _ _ _ _ _ _ _ _ _ _ _ _ _ _ _ ⟨_, _, _, _, _, _, _, _, _, by rw [fN]; exact q6, _, _, _, _, _, _, q7, lk, _, fR _ _, (lG 0 _ _ _ _ _ _ _ _ _ _ _ _ _ _ _ _ _ ⟨by simp only [List.length_append]; omega, by rw [fN], rfl, rfl, rfl, rfl, rfl⟩)⟩)⟩
 obtain ⟨M, Q⟩ := go _ _ T
 rw [ef]
 refine ⟨.node 2 X (l6 ++ cs) (ks ++ [x5] ++ [x7]), st7, (iC M _ _ _ _ _ _ _ _ _ _ _ ⟨_, _, _, _, _, _, i, fun e => absurd (of_decide_eq_true e) ht, fun _ => ⟨_, _, _, _, _, _, _, _, _, q0, _, _, _, _, _, _, _, _, _, q1, _, _, _, _, _, _, _, _, _, q2, Q⟩⟩), r7, fun h0 => ?_⟩
 have f6 := r6.up (fun d => by rw [ex]; exact oX n d) h0
 have f5 := r5.up (fun d => by rw [eg]; exact bB d (by decide)) f6
 have f4 := r4.up (fun d => by rw [et]; exact ny n d) f5
 have f3 := r3.up (fun d => by rw [ee]; exact bB d (by decide)) f4
 have f2 := r2.up (fun dc => by
  have sm := mi (item := aQ n) (most := 8) (beg := fun t => t.kind == 1) (fun d => mm n d) dc
  rw [← er] at sm
  rw [ed]
  exact sm.tr (bB (sm.dd dc) (by decide))) f3
 have f1 := r1.up (fun d => by rw [ec]; exact bB d (by decide)) f2
 have f0 := r0.up (fun d => by rw [eb]; exact ld d 1 1) f1
 obtain ⟨h31, h32, h33⟩ := e3 f3
 rw [e6 f6, e4 f4, h31, e2 f2, (e1 f1).1, (e1 f1).2, e0 f0, h32, h33, e5 f5, e7 h0]
 simp
end
section
variable {L : List TokZ} {tl : List UInt8} {sz : Nat} (hg : Gl L) (hL : L.length ≤ 800000) {n : Nat} (hn2 : n ≤ 900000)
include hg hL hn2
theorem te (X : List UInt8) (ls : List (List UInt8)) (hls : ls.length ≤ 5) : ∀ (fuel : Nat) (s : PS) (st : RS) (ks' ks : List Tree), s.toks.length < fuel → s.toks.length < n → Rl L sz s st → ks'.length + s.toks.length ≤ 1000000 → (s.failed = 0 → ks' = ks) →
  ∃ (M : Nat) (x : Tree) (st' : RS), dy M 1 X ls (gl L) st.at_ tl st.stop st.e ks' x (gl L) st'.at_ tl st'.stop st'.e ∧ Rl L sz (cD n fuel ks s).2 st' ∧ ((cD n fuel ks s).2.failed = 0 → x = .node 1 X (ls ++ [tl]) (cD n fuel ks s).1)
 | 0, s, st, ks', ks, h, _, _, _, _ => by omega
 | fuel + 1, s, st, ks', ks, h, hn, hr, hkl, hk => by
  have hl : (ls ++ [tl]).length ≤ 1000000000 := by simp only [List.length_append, List.length_cons, List.length_nil]; omega
  by_cases h0 : s.toks = []
  ·have e : cD n (fuel + 1) ks s = (ks, s) := by rw [cD, if_pos h0]
   rw [e]
   refine ⟨1, .node 1 X (ls ++ [tl]) ks', st, ?_, hr, fun h => by rw [hk h]⟩
   rcases hr with ⟨k, lv, rfl⟩ | ⟨j, ds, hs, he⟩
   ·have hk := lv.nil h0
    exact (bn 0 _ _ _ _ _ _ _ _ _ _ _ _ _ _ _ ⟨fun _ => ⟨fun hc => absurd hc (by rw [jZ, hk]; simp), fun _ => ⟨hl, rfl, rfl, rfl, rfl, rfl, rfl⟩⟩, fun e => absurd rfl e⟩)
   ·have := ds.1.1
    exact (bn 0 _ _ _ _ _ _ _ _ _ _ _ _ _ _ _ ⟨fun e => absurd e (by rw [he]; omega), fun _ => ⟨hl, rfl, rfl, rfl, rfl, rfl, rfl⟩⟩)
  have f0 := hr.f0 h0
  obtain rfl := hk f0
  have g0 : st.e = 0 := hr.e0.2 f0
  have i := fun x hx => kG (tl := tl) hg x hx hr
  have hat : st.at_ < (((gl L).length : Nat) : Int) := by
   obtain ⟨k, lv, rfl⟩ := hr.lv h0
   obtain ⟨_, hlt⟩ := lv.get h0
   rw [jZ]
   show (k : Int) < _
   omega
  have lk : (ks' ++ [Tree.node 0 [] [] []]).length ≤ 1000000000 := by simp only [List.length_append, List.length_cons, List.length_nil]; omega
  have h1l : 1 ≤ s.toks.length := by
   cases hs : s.toks with
   | nil => exact absurd hs h0
   | cons t r => simp
  -- a definition behind an error: the module is at its end
  have bad : ∀ (e : Nat), e ≠ 0 → ∀ st1 : RS, Rl L sz (aV e s) st1 → ∃ (t : Tree) (st2 : RS), bz (gl L) st1.at_ tl st1.stop st1.e t (gl L) st2.at_ tl st2.stop st2.e ∧ Rl L sz (aV e s) st2 ∧ st2.e ≠ 0 := fun e he st1 r1 => by
   have d1 := r1.dd (fP he s)
   have hz : (aV e s).toks.length = 0 := by rw [d1.2]; rfl
   obtain ⟨t, st2, q2, r2, _⟩ := nB (n := n) (tl := tl) hg (by omega) (aV e s) st1 (by rw [fK d1]; decide) (by omega) hn2 r1
   have sm := tp n d1
   have d2 := sm.dd d1
   exact ⟨t, st2, q2, r2.sm d2 ⟨sm.1.symm, sm.2.1.symm, d1.2⟩, fun e => d2.1 (r2.e0.1 e)⟩
  have stop : ∀ (st2 : RS) (K : List Tree), st2.e ≠ 0 → bL 2 1 X ls (gl L) st2.at_ tl st2.stop st2.e K (.node 1 X (ls ++ [tl]) K) (gl L) st2.at_ tl st2.stop st2.e := fun st2 K he =>
   (ey 1 _ _ _ _ _ _ _ _ _ _ _ _ _ _ _ (bn 0 _ _ _ _ _ _ _ _ _ _ _ _ _ _ _ ⟨fun e => absurd e he, fun _ => ⟨hl, rfl, rfl, rfl, rfl, rfl, rfl⟩⟩))
  by_cases c1 : ¬ (ab s).text = dQ ∧ ¬ (ab s).text = cz
  ·have e : cD n (fuel + 1) ks' s = (ks', aV 2 s) := by
    have d : Dd (aV 2 s) := ⟨fP (by decide) s, by unfold aV; split <;> rfl⟩
    rw [cD, if_neg h0, if_pos c1, qK _ _ _ d]
   obtain ⟨t, st2, q2, r2, _⟩ := nB (n := n) (tl := tl) hg (by omega) s st c1.2 hn hn2 hr
   have e1 : bI n s = bI n s := rfl
   have d : Dd (aV 2 s) := ⟨fP (by decide) s, by unfold aV; split <;> rfl⟩
   have sm : Sm (aV 2 s) (bI n s).2 := by
    have h0 : ai dQ s = ([], aV 2 s) := kJ c1.1
    have d0 := d
    have h1 := ld d0 1 1
    have d1 := h1.dd d0
    have h2 := bB d1 (x := [40]) (by decide)
    have d2 := h2.dd d1
    have h3 := mi (item := aQ n) (most := 8) (beg := fun t => t.kind == 1) (fun d => mm n d) d2
    have d3 := h3.dd d2
    have h4 := bB d3 (x := [41]) (by decide)
    have d4 := h4.dd d3
    have h5 := bB d4 (x := [58]) (by decide)
    have d5 := h5.dd d4
    have h6 := ny n d5
    have d6 := h6.dd d5
    have h7 := bB d6 (x := [61]) (by decide)
    have d7 := h7.dd d6
    have := h1.tr (h2.tr (h3.tr (h4.tr (h5.tr (h6.tr (h7.tr (oX n d7)))))))
    unfold bI
    rw [h0]
    exact this
   have d2 := sm.dd d
   have g2 : st2.e ≠ 0 := fun e => d2.1 (r2.e0.1 e)
   rw [e]
   refine ⟨3, .node 1 X (ls ++ [tl]) (ks' ++ [t]), st2, (bn 2 _ _ _ _ _ _ _ _ _ _ _ _ _ _ _ ⟨fun _ => ⟨fun _ => ⟨_, _, _, _, _, _, i dQ (by decide), fun e => absurd (of_decide_eq_true e) c1.1, fun _ => ⟨_, _, _, _, _, _, i cz (by decide), fun e => absurd (of_decide_eq_true e) c1.2, fun _ => ⟨_, _, _, _, _, _, q2, lk, _, fR _ _, by rw [fN]; exact stop st2 _ g2⟩⟩⟩, fun e => absurd hat e⟩, fun e => absurd g0 e⟩), r2.sm d2 ⟨sm.1.symm, sm.2.1.symm, d.2⟩, fun h => absurd h d.1⟩
  by_cases c2 : ks'.length = 40
  ·have d : Dd (aV 3 s) := ⟨fP (by decide) s, by unfold aV; split <;> rfl⟩
   have e : cD n (fuel + 1) ks' s = (ks', aV 3 s) := by rw [cD, if_neg h0, if_neg c1, if_pos c2, qK _ _ _ d]
   have c2' : ((ks'.length : Nat) : Int) = 40 := by omega
   obtain ⟨st1, q1, r1⟩ := nm (tl := tl) (e := 3) (by decide) hr
   obtain ⟨t, st2, q2, r2, g2⟩ := bad 3 (by decide) st1 r1
   rw [e]
   by_cases cd : (ab s).text = dQ
   ·exact ⟨3, .node 1 X (ls ++ [tl]) (ks' ++ [t]), st2, (bn 2 _ _ _ _ _ _ _ _ _ _ _ _ _ _ _ ⟨fun _ => ⟨fun _ => ⟨_, _, _, _, _, _, i dQ (by decide), fun _ => ⟨fun _ => ⟨_, _, _, _, _, q1, _, _, _, _, _, _, q2, lk, _, fR _ _, by rw [fN]; exact stop st2 _ g2⟩, fun e => absurd c2' e⟩, fun e => absurd cd (of_decide_eq_false e)⟩, fun e => absurd hat e⟩, fun e => absurd g0 e⟩), r2, fun h => absurd h d.1⟩
   ·have ct : (ab s).text = cz := Classical.byContradiction fun e => c1 ⟨cd, e⟩
    exact ⟨3, .node 1 X (ls ++ [tl]) (ks' ++ [t]), st2, (bn 2 _ _ _ _ _ _ _ _ _ _ _ _ _ _ _ ⟨fun _ => ⟨fun _ => ⟨_, _, _, _, _, _, i dQ (by decide), fun e => absurd (of_decide_eq_true e) cd, fun _ => ⟨_, _, _, _, _, _, i cz (by decide), fun _ => ⟨fun _ => ⟨_, _, _, _, _, q1, _, _, _, _, _, _, q2, lk, _, fR _ _, by rw [fN]; exact stop st2 _ g2⟩, fun e => absurd c2' e⟩, fun e => absurd ct (of_decide_eq_false e)⟩⟩, fun e => absurd hat e⟩, fun e => absurd g0 e⟩), r2, fun h => absurd h d.1⟩
  have c2' : ¬ ((ks'.length : Nat) : Int) = 40 := by omega
  by_cases cd : (ab s).text = dQ
  ·have e : cD n (fuel + 1) ks' s = cD n fuel (ks' ++ [(bI n s).1]) (bI n s).2 := by rw [cD, if_neg h0, if_neg c1, if_neg c2, if_pos cd]
   have lt := om (n := n) cd
   obtain ⟨t, st2, q2, r2, e2⟩ := nB (n := n) (tl := tl) hg (by omega) s st (by rw [cd]; decide) hn hn2 hr
   obtain ⟨M, x, st', Q, r, ee⟩ := te X ls hls fuel (bI n s).2 st2 (ks' ++ [t]) (ks' ++ [(bI n s).1]) (by omega) (by omega) r2 (by simp only [List.length_append, List.length_cons, List.length_nil]; omega) (fun h => by rw [e2 h])
   rw [e]
   exact ⟨M + 2, x, st', (bn (M + 1) _ _ _ _ _ _ _ _ _ _ _ _ _ _ _ ⟨fun _ => ⟨fun _ => ⟨_, _, _, _, _, _, i dQ (by decide), fun _ => ⟨fun e => absurd e c2', fun _ => ⟨_, _, _, _, _, _, q2, lk, _, fR _ _, by rw [fN]; exact (ey M _ _ _ _ _ _ _ _ _ _ _ _ _ _ _ Q)⟩⟩, fun e => absurd cd (of_decide_eq_false e)⟩, fun e => absurd hat e⟩, fun e => absurd g0 e⟩), r, ee⟩
  ·have ct : (ab s).text = cz := Classical.byContradiction fun e => c1 ⟨cd, e⟩
   have e : cD n (fuel + 1) ks' s = cD n fuel (ks' ++ [(fh n s).1]) (fh n s).2 := by rw [cD, if_neg h0, if_neg c1, if_neg c2, if_neg cd]
   have lt := pX (n := n) ct
   obtain ⟨t, st2, q2, r2, e2⟩ := yN (n := n) (tl := tl) hg (by omega) s st ct hn hr
   obtain ⟨M, x, st', Q, r, ee⟩ := te X ls hls fuel (fh n s).2 st2 (ks' ++ [t]) (ks' ++ [(fh n s).1]) (by omega) (by omega) r2 (by simp only [List.length_append, List.length_cons, List.length_nil]; omega) (fun h => by rw [e2 h])
   rw [e]
   exact ⟨M + 2, x, st', (bn (M + 1) _ _ _ _ _ _ _ _ _ _ _ _ _ _ _ ⟨fun _ => ⟨fun _ => ⟨_, _, _, _, _, _, i dQ (by decide), fun e => absurd (of_decide_eq_true e) cd, fun _ => ⟨_, _, _, _, _, _, i cz (by decide), fun _ => ⟨fun e => absurd e c2', fun _ => ⟨_, _, _, _, _, _, q2, lk, _, fR _ _, by rw [fN]; exact (ey M _ _ _ _ _ _ _ _ _ _ _ _ _ _ _ Q)⟩⟩, fun e => absurd ct (of_decide_eq_false e)⟩⟩, fun e => absurd hat e⟩, fun e => absurd g0 e⟩), r, ee⟩
theorem xv (s : PS) (st : RS) (hn : s.toks.length < n) (hr : Rl L sz s st) :
  ∃ (x : Tree) (st' : RS), eX (gl L) st.at_ tl st.stop st.e x (gl L) st'.at_ tl st'.stop st'.e ∧ Rl L sz (fi n s).2 st' ∧ ((fi n s).2.failed = 0 → x = .node (fi n s).1.kind (fi n s).1.text ((fi n s).1.leads.set 2 tl) (fi n s).1.kids) := by
 obtain ⟨a, ea⟩ : ∃ a, a = ai eo s := ⟨_, rfl⟩
 obtain ⟨b, eb⟩ : ∃ b, b = aL 2 2 a.2 := ⟨_, rfl⟩
 have n0 := aw eo s
 have n1 := bY 2 2 a.2
 rw [← ea] at n0
 rw [← eb] at n1
 obtain ⟨st0, l0, q0, r0, b0, e0⟩ := bZ (tl := tl) hg (by omega) 1 [] [] [] eo (by decide) (by decide) hr
 rw [← ea] at r0 e0
 simp only [List.length_nil] at b0
 obtain ⟨st1, X, l1, q1, r1, b1, e1⟩ := jx (tl := tl) (by omega) 1 [] l0 [] 2 (by decide) (by omega) r0
 rw [← eb] at r1 e1
 obtain ⟨M, x, st', Q, r, e⟩ := te hg hL hn2 X l1 (by omega) (b.2.2.toks.length + 2) b.2.2 st1 [] [] (by omega) (by omega) r1 (by simp only [List.length_nil]; omega) (fun _ => rfl)
 have ef : fi n s = (.node 1 b.1 [a.1, b.2.1, []] (cD n (b.2.2.toks.length + 2) [] b.2.2).1, (cD n (b.2.2.toks.length + 2) [] b.2.2).2) := by rw [eb, ea]; rfl
 rw [ef]
 refine ⟨x, st', (kI M _ _ _ _ _ _ _ _ _ _ _ ⟨_, _, _, _, _, _, _, _, _, q0, _, _, _, _, _, _, _, _, _, q1, Q⟩), r, fun h => ?_⟩
 have f1 := r1.up (fun d => by rw [qK _ _ _ d]; exact qY d) h
 have f0 := r0.up (fun d => by rw [eb]; exact ld d 2 2) f1
 rw [e h, (e1 f1).1, (e1 f1).2, e0 f0]
 rfl
omit hg hL hn2 in
theorem tW (l : List UInt8) (L' : List GToken) (at_ st e : Int) (hLL : L.length ≤ 800000) (hw : wA L ≤ 4096) (hl : l.length = sz) (k : Nat) (hk : k ≤ L.length) : ∀ (d : Nat) (i : Nat), i + d = k → fF (d + 1) l (gl L) L' at_ tl k e (wA (L.take i)) i dh ((kS L sz k : Nat) : Int) e
 | 0, i, h => by
  obtain rfl : i = k := by omega
  refine (jI 0 _ _ _ _ _ _ _ _ _ _ _ _ ⟨fun hc => absurd hc (by omega), fun _ => ⟨fun hlt => ?_, fun hge => ?_⟩⟩)
  ·rw [jZ] at hlt
   have hi : i < L.length := by omega
   have hg := List.getElem?_eq_getElem hi
   have hp : kS L sz i = wA (L.take i) + L[i].lead.length := by unfold kS; rw [if_pos hi, List.getD_eq_getElem?_getD, hg]; rfl
   refine ⟨i, rfl, _, iW hg, ?_, rfl, ?_, rfl⟩
   ·have := ou (L.take i) (L.drop i)
    rw [List.take_append_drop, List.drop_eq_getElem_cons hi] at this
    simp only [wA] at this
    show wA (L.take i) + L[i].lead.length ≤ _
    omega
   ·rw [hp]; rfl
  ·rw [jZ] at hge
   have hp : kS L sz i = sz := by unfold kS; rw [if_neg (by omega)]
   exact ⟨rfl, by rw [hp, hl], rfl⟩
 | d + 1, i, h => by
  have hi : i < L.length := by omega
  have hg := List.getElem?_eq_getElem hi
  have ht : wA (L.take (i + 1)) = wA (L.take i) + L[i].lead.length + L[i].text.length := by
   rw [List.take_add_one, ou, hg]
   simp only [Option.toList_some, wA]
   omega
  have hb := ou (L.take (i + 1)) (L.drop (i + 1))
  rw [List.take_append_drop] at hb
  have Q := tW l L' at_ st e hLL hw hl k hk d (i + 1) (by omega)
  rw [ht] at Q
  refine (jI (d + 1) _ _ _ _ _ _ _ _ _ _ _ _ ⟨fun _ => ⟨_, iW hg, ?_, _, iW hg, ?_, by omega, Q⟩, fun hc => absurd (by omega) hc⟩)
  ·show wA (L.take i) + L[i].lead.length ≤ _
   omega
  ·show wA (L.take i) + L[i].lead.length + L[i].text.length ≤ _
   omega
end
theorem wP : ∀ t : Tree, cntK t ≤ 1000000000 → eI t (depK t) := kK fun t ih ht => by
 have hc := oW t
 obtain ⟨m, hm⟩ := tI (L := fC) (S := eI) t ht (fun i u hu => ih i u hu (by have := oS hu; omega)) (fun m z i x h => nr m t z i x ⟨fun hi => by obtain ⟨u, hu, n, hn, _, hr⟩ := h.1 hi; exact ⟨u, hu, n, hn, hr⟩, h.2⟩)
 exact nM m _ _ hm
theorem zb (l : List UInt8) (hl : l.length ≤ 281474976710656) : lu l ((scan l).toks.map gTk) (scan l).tail ((scan l).place : Nat) ((scan l).err : Nat) := by
 refine ⟨rfl, ?_, fun S w ρ xs hr hx => ?_⟩
 ·simp only [V.pure, pureL, Bool.and_true]
  first | done | exact ch _ (fun _ => rfl) _
 simp only [LRel, VRel] at hx
 obtain ⟨x, ys, rfl, rfl, rfl⟩ := hx
 refine (zI l w hl).mono ?_
 rintro e w' ⟨v, rfl, ⟨A, c, rfl, hc, hm, hrow, hnew⟩, he⟩
 have hch : Chg [] w w' := qQ he
 have g := hr.chg0 hch
 refine ⟨_, fun b => S b ∨ (w.heap.size ≤ b ∧ b < w'.heap.size), ρ, _, ⟨0, []⟩, rfl, rfl, ⟨fun i => ?_, fun i b hb => ?_, fun i j b hb _ => ?_, fun b hb => hb.elim (g.slt b) (·.2)⟩, ⟨ChgP.of0 hch, fun _ h => .inl h, fun b hb => hb.elim .inl (fun h => .inr (.inr h.1)), fun id b hb => by rw [gG] at hb; exact hb.elim, fun id x h => ?_⟩, ?_⟩
 ·have := g.ob i; rw [gG] at this ⊢; exact this
 ·rw [gG] at hb; exact hb.elim
 ·rw [gG] at hb; exact hb.elim
 ·simp only [ng] at h
  split at h
  ·exact h
  ·cases h
 ·simp only [VRel]
  refine ⟨[.slice A (scan l).toks.length c, .string ⟨(scan l).tail.toArray⟩, .int .i64 ((scan l).place : Nat), .int .i64 ((scan l).err : Nat)], rfl, _, _, rfl, ?_, _, _, rfl, by simp only [VRel], _, _, rfl, by simp only [VRel], _, _, rfl, by simp only [VRel], rfl⟩
  simp only [VRel]
  refine ⟨A, c, bN (scan l).toks, by simp, by simpa using hc, hm, pD _, by simpa using hrow.1, fun hn => ?_⟩
  obtain ⟨b, off, e1, h1, h2⟩ := hrow.2 (by simpa using hn)
  obtain ⟨b', off', e2, h3⟩ := hnew (by simpa using hn)
  rw [e1] at e2
  injection e2 with e2
  injection e2 with e3 e4 e5
  subst e3
  exact ⟨b, off, e1, .inr ⟨h3, h1⟩, h1, by simpa using h2⟩
theorem xW (l : List UInt8) (hl : l.length ≤ 281474976710656) : iy l (cO l).1 ((cO l).2.1 : Nat) ((cO l).2.2 : Nat) := by
 have hsc := zb l hl
 by_cases he : (scan l).err = 0
 rotate_left
 ·have e : cO l = (dh, (scan l).place, (scan l).err) := by unfold cO; simp only [he, not_false_eq_true, if_true]
  rw [e]
  exact (fy 0 _ _ _ _ ⟨_, _, _, _, hsc, fun _ => ⟨rfl, rfl, rfl⟩, fun h => absurd (by omega) he⟩)
 obtain ⟨s1, s2, s3⟩ := tV he
 obtain ⟨k1, k2, _, _, _⟩ := qp he
 have hg : Gl (scan l).toks := fun t ht => (k2 t ht).1.symm
 have hwA : wA (scan l).toks ≤ 4096 := by
  have h6 := pA (scan l).toks (scan l).tail
  rw [k1] at h6
  omega
 have hr : Rl (scan l).toks l.length (gI (scan l).toks l.length) ⟨0, -1, 0⟩ := by
  refine .inl ⟨0, ⟨rfl, Nat.zero_le _, rfl, ?_, rfl⟩, rfl⟩
  unfold gI kS
  cases hz : (scan l).toks with
  | nil => rfl
  | cons t r => simp [wA]
 obtain ⟨f, ef⟩ : ∃ f, f = fi ((scan l).toks.length + 1) (gI (scan l).toks l.length) := ⟨_, rfl⟩
 obtain ⟨x, st', q, r, e⟩ := xv (tl := (scan l).tail) hg (by omega) (n := (scan l).toks.length + 1) (by omega) (gI (scan l).toks l.length) ⟨0, -1, 0⟩ (by show (scan l).toks.length < _; omega) hr
 rw [← ef] at r e
 obtain ⟨xx, y, z, ks, e1, e2⟩ := qg ((scan l).toks.length + 1) (gI (scan l).toks l.length)
 rw [← ef] at e1
 have e2' : cntKs ks ≤ 30 * (scan l).toks.length := e2
 have hdk := depthT_K f.1
 by_cases hf : f.2.failed = 0
 ·have g0 := r.e0.2 hf
  obtain rfl := e hf
  have hd := wP (.node f.1.kind f.1.text (f.1.leads.set 2 (scan l).tail) f.1.kids) (by rw [e1]; simp only [cntK, Tree.kids]; omega)
  have hdd : depK (.node f.1.kind f.1.text (f.1.leads.set 2 (scan l).tail) f.1.kids) = depK f.1 := by rw [e1]; rfl
  rw [hdd] at hd
  by_cases h40 : 40 < depthT f.1
  ·have e : cO l = (dh, 0, 4) := by
    unfold cO
    simp only [he, not_true_eq_false, if_false]
    rw [← ef, if_neg (by omega), if_pos h40]
   rw [e]
   exact (fy 0 _ _ _ _ ⟨_, _, _, _, hsc, fun h => absurd (by rw [he]; rfl) h, fun _ => ⟨_, _, _, _, _, _, q, fun h => absurd g0 h, fun _ => ⟨_, hd, fun _ => ⟨rfl, rfl, rfl⟩, fun h => absurd (by omega) h⟩⟩⟩)
  ·have e : cO l = (.node f.1.kind f.1.text (f.1.leads.set 2 (scan l).tail) f.1.kids, 0, 0) := by
    unfold cO
    simp only [he, not_true_eq_false, if_false]
    rw [← ef, if_neg (by omega), if_neg h40]
   rw [e]
   exact (fy 0 _ _ _ _ ⟨_, _, _, _, hsc, fun h => absurd (by rw [he]; rfl) h, fun _ => ⟨_, _, _, _, _, _, q, fun h => absurd g0 h, fun _ => ⟨_, hd, fun h => absurd h (by omega), fun _ => ⟨rfl, rfl, rfl⟩⟩⟩⟩)
 ·have g0 : st'.e ≠ 0 := fun e => hf (r.e0.1 e)
  have e : cO l = (dh, f.2.place, f.2.failed) := by
   unfold cO
   simp only [he, not_true_eq_false, if_false]
   rw [← ef, if_pos hf]
  rw [e]
  rcases r with ⟨k, lv, rfl⟩ | ⟨j, ds, hs, hee⟩
  ·exact absurd lv.1 hf
  have Q := tW (L := (scan l).toks) (tl := (scan l).tail) l (gl (scan l).toks) st'.at_ st'.stop st'.e (by omega) hwA rfl j ds.2.1 j 0 (by omega)
  rw [← ds.2.2, hee, ← hs] at Q
  rw [hee] at q g0
  exact (fy (j + 1) _ _ _ _ ⟨_, _, _, _, hsc, fun h => absurd (by rw [he]; rfl) h, fun _ => ⟨_, _, _, _, _, _, q, fun _ => Q, fun h => absurd h g0⟩⟩)
abbrev vE (a0 : List UInt8) : Ob := .var 68 [.np 0, .sl 1, .str a0]
theorem vJ (σ : List Nat) (l) : renL σ (List.map (V.int .u8) l) = List.map (V.int .u8) l := xP σ (V.int .u8) (fun _ => rfl) l
def dr (a : List Int) (c p1 : List UInt8) (r0 : Int) (r1 : Unit) (b : List Int) (d : List UInt8) : Prop := bW [] Try.prog 82 [.ptr 0 0, .str p1] ⟨2, [(1, .row 5 1 (List.map (V.int .u8) a)), (0, vE c)]⟩ (fun u G => u = .tup [.int .i64 r0, .raw .nilIface] ∧ G = ⟨2, [(1, .row 5 1 (List.map (V.int .u8) b)), (0, vE d)]⟩)
def iZ (a : List Int) (b r0 : List UInt8) : Prop := bW [] Try.prog 39 [.ptr 0 0] ⟨2, [(1, .row 5 1 (List.map (V.int .u8) a)), (0, vE b)]⟩ (fun u G => u = .str r0 ∧ G = ⟨2, []⟩)
def pe (p0 p1 : List UInt8) (r0 : Bool) : Prop := qS 83 [.str p0, .str p1] (.bool r0)
def kc (p0 : Tree) (r0 : List UInt8) : Prop := qS 64 [.agg (ar p0)] (.str r0)
def am (a : List Int) (c p1 p2 : List UInt8) (b : List Int) (d : List UInt8) : Prop := bW [] Try.prog 62 [.ptr 0 0, .str p1, .str p2] ⟨2, [(1, .row 5 1 (List.map (V.int .u8) a)), (0, vE c)]⟩ (fun u G => u = .tup [] ∧ G = ⟨2, [(1, .row 5 1 (List.map (V.int .u8) b)), (0, vE d)]⟩)
def S_syntax_printer_list (a : List Int) (c : List UInt8) (p1 : Tree) (p2 : List Tree) (p3 : Int) (b : List Int) (d : List UInt8) : Prop := bW [] Try.prog 63 [.ptr 0 0, .agg (ar p1), .row 4 (kidsV p2), .int .i64 p3] ⟨2, [(1, .row 5 1 (List.map (V.int .u8) a)), (0, vE c)]⟩ (fun u G => u = .tup [] ∧ G = ⟨2, [(1, .row 5 1 (List.map (V.int .u8) b)), (0, vE d)]⟩)
def aB (a : List Int) (c : List UInt8) (p1 : Tree) (b : List Int) (d : List UInt8) : Prop := bW [] Try.prog 38 [.ptr 0 0, .agg (ar p1)] ⟨2, [(1, .row 5 1 (List.map (V.int .u8) a)), (0, vE c)]⟩ (fun u G => u = .tup [] ∧ G = ⟨2, [(1, .row 5 1 (List.map (V.int .u8) b)), (0, vE d)]⟩)
def fb (a : List Int) (c : List UInt8) (p1 : Tree) (b : List Int) (d : List UInt8) : Prop := bW [] Try.prog 61 [.ptr 0 0, .agg (ar p1)] ⟨2, [(1, .row 5 1 (List.map (V.int .u8) a)), (0, vE c)]⟩ (fun u G => u = .tup [] ∧ G = ⟨2, [(1, .row 5 1 (List.map (V.int .u8) b)), (0, vE d)]⟩)
def lI (p0 : Tree) (r0 : List UInt8) : Prop := qS 18 [.agg (ar p0)] (.str r0)
theorem px (m : Nat) (p0 : Tree) (r0 : List UInt8) (h : ((p0.kind = 5) → [73, 110, 116] = r0) ∧ ((p0.kind ≠ 5) → ((p0.kind = 6) → [84, 101, 120, 116] = r0) ∧ ((p0.kind ≠ 6) → ((p0.kind = 7) → [66, 111, 111, 108] = r0) ∧ ((p0.kind ≠ 7) → ((p0.kind = 13) → [116, 114, 117, 101] = r0) ∧ ((p0.kind ≠ 13) → ((p0.kind = 14) → [102, 97, 108, 115, 101] = r0) ∧ ((p0.kind ≠ 14) → ((p0.kind = 15) → [63] = r0) ∧ ((p0.kind ≠ 15) → p0.text = r0))))))) : kc p0 r0 := by
 refine ⟨rfl, rfl, ?_⟩
 refine az 19 [] Try.func64 rfl rfl rfl (bg rfl) fun K hK => ?_
 refine gR 3 rfl <| gFP 0 rfl rfl rfl rfl <| gR 17 rfl <| qBeZ 5 6 rfl rfl rfl rfl h (fun h => ?_) fun h => ?_
 refine gR 9 rfl ?_
 subst h
 exact go_end aa (rs := [.tmp 2]) rfl rfl rfl
 refine gR 7 rfl <| qBeZ 7 8 rfl rfl rfl rfl h (fun h => ?_) fun h => ?_
 refine gR 9 rfl ?_
 subst h
 exact go_end aa (rs := [.tmp 2]) rfl rfl rfl
 refine gR 7 rfl <| qBeZ 9 10 rfl rfl rfl rfl h (fun h => ?_) fun h => ?_
 refine gR 9 rfl ?_
 subst h
 exact go_end aa (rs := [.tmp 2]) rfl rfl rfl
 refine gR 7 rfl <| qBeZ 11 12 rfl rfl rfl rfl h (fun h => ?_) fun h => ?_
 refine gR 9 rfl ?_
 subst h
 exact go_end aa (rs := [.tmp 2]) rfl rfl rfl
 refine gR 7 rfl <| qBeZ 13 14 rfl rfl rfl rfl h (fun h => ?_) fun h => ?_
 refine gR 9 rfl ?_
 subst h
 exact go_end aa (rs := [.tmp 2]) rfl rfl rfl
 refine gR 7 rfl <| qBeZ 15 16 rfl rfl rfl rfl h (fun h => ?_) fun h => ?_
 refine gR 9 rfl ?_
 subst h
 exact go_end aa (rs := [.tmp 2]) rfl rfl rfl
 refine gR 12 rfl ?_
 subst h
 exact go_end aa (rs := [.tmp 2]) rfl rfl rfl
def dq (m : Nat) (a : List Int) (c p2 e : List UInt8) (b : List Int) (d : List UInt8) : Prop := ∀ (K : Ctx), aR K [0] → qLG K Try.f62 (fun u G => u = .tup [] ∧ G = ⟨2, [(1, .row 5 1 (List.map (V.int .u8) b)), (0, vE d)]⟩) (cB (aj Try.f62)) [] 37 (mkF 37 0 [(0, .ptr 0 0), (1, .str e), (2, .str p2)]) ⟨2, [(1, .row 5 1 (List.map (V.int .u8) a)), (0, vE c)]⟩
theorem fk (m : Nat) (a : List Int) (b p1 p2 : List UInt8) (c : List Int) (d : List UInt8) (h : ((p1 = []) → ((b ≠ []) → ∃ e, pe b p2 e ∧ ((e = true) → dq m a b p2 [32] c d) ∧ ((e = false) → dq m a b p2 p1 c d)) ∧ ((b = []) → dq m a b p2 p1 c d)) ∧ ((p1 ≠ []) → dq m a b p2 p1 c d)) : am a b p1 p2 c d := by
 refine az 37 [0] Try.func62 rfl rfl rfl (bg rfl) fun K hK => ?_
 refine gR 6 rfl <| qBeZ 8 7 rfl rfl rfl rfl h (fun h => ?_) fun h => ?_
 refine gR 7 rfl <| qBhZ 15 14 rfl rfl rfl rfl h fB dY (fun h => ?_) fun h => ?_
 refine gR 5 rfl ?_
 obtain ⟨e, hs10, h⟩ := h
 refine gC0 hs10 (by kernel_rfl) rfl rfl .rfl rfl <| gR 3 rfl <| qBi 22 rfl rfl rfl h (fun h => ?_) fun h => ?_
 exact gR 5 rfl <| gJ (h K hK) [0, 1] [0] rfl hK pq3 ⟨⟨_, rfl, rfl, rfl, (vJ _ a).symm⟩, (pqo1 rfl rfl)⟩ rfl
 exact gR 3 rfl <| gJ (h K hK) [0, 1] [0] rfl hK pq3 ⟨⟨_, rfl, rfl, rfl, (vJ _ a).symm⟩, (pqo1 rfl rfl)⟩ rfl
 exact gR 12 rfl <| gJ (h K hK) [0, 1] [0] rfl hK pq3 ⟨⟨_, rfl, rfl, rfl, (vJ _ a).symm⟩, (pqo1 rfl rfl)⟩ rfl
 exact gR 19 rfl <| gJ (h K hK) [0, 1] [0] rfl hK pq3 ⟨⟨_, rfl, rfl, rfl, (vJ _ a).symm⟩, (pqo1 rfl rfl)⟩ rfl
theorem rL0_syntax_printer_put (m : Nat) (a : List Int) (e p2 i : List UInt8) (c : List Int) (f : List UInt8) (h : ∃ j k d g, dr a e i j k d g ∧ ∃ l n b o, dr d g p2 l n b o ∧ b = c ∧ p2 = f) : dq (m + 1) a e p2 i c f := by
 intro K hK
 refine gR 6 rfl ?_
 obtain ⟨j, k, d, g, hs11, h⟩ := h
 refine gCZ hs11 [0, 1] ⟨⟨_, rfl, ⟨rfl, rfl, (vJ _ a).symm⟩⟩, ⟨⟨_, rfl, ⟨rfl, ak.rfl⟩⟩, trivial⟩⟩ ?_
 refine gHR 3 (List.map (V.int .u8) d) rfl (vJ _ d) rfl <| gR 8 rfl ?_
 obtain ⟨l, n, b, o, hs12, h⟩ := h
 refine gCZ hs12 [0, 3] ⟨⟨_, rfl, ⟨rfl, rfl, (vJ _ d).symm⟩⟩, ⟨⟨_, rfl, ⟨rfl, ak.rfl⟩⟩, trivial⟩⟩ ?_
 refine gHR 5 (List.map (V.int .u8) b) rfl (vJ _ b) rfl <| gR 9 rfl ?_
 obtain ⟨rfl, rfl⟩ := h
 exact go_sub (F' := (mkF 37 0 [])) (H' := ⟨2, [(1, .row 5 1 (List.map (V.int .u8) b)), (0, vE p2)]⟩) [0, 5] [0] rfl hK trivial ⟨⟨_, rfl, rfl, rfl, (vJ _ b).symm⟩, (pqo1 rfl rfl)⟩ rfl <| go_endD [] aa (rs := []) rfl rfl ⟨rfl, rfl⟩
def db (m : Nat) (p1 : Tree) (p2 : List Tree) (p3 : Int) (c : List Int) (d : List UInt8) (e : Nat) (a : List Int) (b : List UInt8) : Prop := ∀ (K : Ctx) (j1 : Nat), aR K [0] → m ≤ j1 → qLG K Try.f63 (fun u G => u = .tup [] ∧ G = ⟨2, [(1, .row 5 1 (List.map (V.int .u8) a)), (0, vE b)]⟩) (xE (xA (aj Try.f63))) [.loop (xE (xA (aj Try.f63))) j1, .blk 0] 33 (mkF 33 0 [(0, .ptr 0 0), (3, .int .i64 p3), (5, .box (ar p1) 0), (10, .row 4 (kidsV p2)), (11, .int .i64 (p2.length : Int)), (12, .int .i64 (e : Int))]) ⟨2, [(1, .row 5 1 (List.map (V.int .u8) c)), (0, vE d)]⟩
theorem nj (m : Nat) (a : List Int) (c : List UInt8) (p1 : Tree) (p2 : List Tree) (p3 : Int) (b : List Int) (d : List UInt8) (h : db m p1 p2 p3 a c 0 b d) : S_syntax_printer_list a c p1 p2 p3 b d := by
 refine az 33 [0] Try.func63 rfl rfl rfl (bg rfl) fun K hK => ?_
 exact gR 3 rfl <| gFP 2 rfl rfl rfl rfl <| gR 6 rfl <| gV 11 (.int .i64 (p2.length : Int)) rfl (bC (av _)) rfl <| gLB 10 rfl (av _) fun hl7 => gR 4 rfl <| go_loop m <| gJ (h K _ hK (by omega)) [0, 1] [0] rfl hK pq6 ⟨⟨_, rfl, rfl, rfl, (vJ _ a).symm⟩, (pqo1 rfl rfl)⟩ rfl
theorem gc (m : Nat) (p1 : Tree) (p2 : List Tree) (p3 : Int) (d : List Int) (k : List UInt8) (a : Nat) (b : List Int) (c : List UInt8) (h : ((a < p2.length) → ∃ l, p2[a]? = some l ∧ ((0 < (a : Int)) → InI (p3 + (a : Int)) ∧ InI ((p3 + (a : Int)) - 1) ∧ ∃ n, ((p3 + (a : Int)) - 1) = ((n : Nat) : Int) ∧ ∃ o, p1.leads[n]? = some o ∧ ∃ e p, am d k o [44] e p ∧ ∃ g q, aB e p l g q ∧ a + 1 ≤ 9223372036854775807 ∧ db m p1 p2 p3 g q (a + 1) b c) ∧ ((¬ 0 < (a : Int)) → ∃ i r, aB d k l i r ∧ a + 1 ≤ 9223372036854775807 ∧ db m p1 p2 p3 i r (a + 1) b c)) ∧ ((¬ a < p2.length) → d = b ∧ k = c)) : db (m + 1) p1 p2 p3 d k a b c := by
 intro K j1 hK hj1
 obtain ⟨j1, rfl⟩ : ∃ j, j1 = j + 1 := ⟨j1 - 1, by omega⟩
 refine gR 6 rfl <| gB 13 rfl rfl rfl ?_ ?_ <;> intro hd
 replace hd := (nP hd)
 replace h := h.1 hd
 refine gR 8 rfl ?_
 obtain ⟨l, hxt1_1, h⟩ := h
 refine gY (aY (ae hxt1_1) aa rfl rfl rfl rfl) rfl rfl <| gR 13 rfl <| gB 18 rfl rfl rfl ?_ ?_ <;> intro hd
 replace hd := (of_decide_eq_true hd)
 replace h := h.1 hd
 refine gR 7 rfl ?_
 obtain ⟨hb, h⟩ := h
 refine gR 1 rfl <| gV 24 (.int .i64 (p3 + (a : Int))) rfl (cM hb rfl) rfl ?_
 obtain ⟨hb, h⟩ := h
 refine gR 1 rfl <| gV 25 (.int .i64 ((p3 + (a : Int)) - 1)) rfl (cM hb rfl) rfl ?_
 obtain ⟨n, s, h⟩ := h
 refine gV 25 (.int .i64 ((n : Nat) : Int)) rfl (iF s) rfl ?_
 obtain ⟨o, hxs1_3, h⟩ := h
 refine gY (aY (mapget (f := V.str) hxs1_3) aa rfl rfl rfl rfl) rfl rfl <| gR 1 rfl ?_
 obtain ⟨e, p, hs8, h⟩ := h
 refine gCZ hs8 [0, 1] ⟨⟨_, rfl, ⟨rfl, rfl, (vJ _ d).symm⟩⟩, ⟨⟨_, rfl, ⟨rfl, ak.rfl⟩⟩, trivial⟩⟩ ?_
 refine gHR 4 (List.map (V.int .u8) e) rfl (vJ _ e) rfl <| gR 5 rfl ?_
 obtain ⟨g, q, hs9, h⟩ := h
 refine gCZ hs9 [0, 4] ⟨⟨_, rfl, ⟨rfl, rfl, (vJ _ e).symm⟩⟩, ⟨⟨_, rfl, ⟨rfl, ak.rfl⟩⟩, trivial⟩⟩ ?_
 refine gHR 6 (List.map (V.int .u8) g) rfl (vJ _ g) rfl <| gR 4 rfl ?_
 obtain ⟨hb, h⟩ := h
 exact gR 1 rfl <| gV 32 (.int .i64 ((a + 1 : Nat) : Int)) rfl (cM (by omega) (by omega)) rfl <| gR 2 rfl <| go_xloop <| gJ (h K _ hK (by omega)) [0, 6] [0] rfl hK pq6 ⟨⟨_, rfl, rfl, rfl, (vJ _ g).symm⟩, (pqo1 rfl rfl)⟩ rfl
 replace hd := (of_decide_eq_false hd)
 replace h := h.2 hd
 refine gR 6 rfl ?_
 obtain ⟨i, r, hs10, h⟩ := h
 refine gCZ hs10 [0, 1] ⟨⟨_, rfl, ⟨rfl, rfl, (vJ _ d).symm⟩⟩, ⟨⟨_, rfl, ⟨rfl, ak.rfl⟩⟩, trivial⟩⟩ ?_
 refine gHR 4 (List.map (V.int .u8) i) rfl (vJ _ i) rfl <| gR 4 rfl ?_
 obtain ⟨hb, h⟩ := h
 exact gR 1 rfl <| gV 32 (.int .i64 ((a + 1 : Nat) : Int)) rfl (cM (by omega) (by omega)) rfl <| gR 2 rfl <| go_xloop <| gJ (h K _ hK (by omega)) [0, 4] [0] rfl hK pq6 ⟨⟨_, rfl, rfl, rfl, (vJ _ i).symm⟩, (pqo1 rfl rfl)⟩ rfl
 replace hd := (og hd)
 replace h := h.2 hd
 refine gR 3 rfl <| go_xloopE <| gR 1 rfl ?_
 obtain ⟨rfl, rfl⟩ := h
 exact go_sub (F' := (mkF 33 0 [])) (H' := ⟨2, [(1, .row 5 1 (List.map (V.int .u8) d)), (0, vE k)]⟩) [0, 1] [0] rfl hK trivial ⟨⟨_, rfl, rfl, rfl, (vJ _ d).symm⟩, (pqo1 rfl rfl)⟩ rfl <| go_endD [] aa (rs := []) rfl rfl ⟨rfl, rfl⟩
def cY (m : Nat) (a : List Int) (c : List UInt8) (p1 : Tree) (e : Bool) (b : List Int) (d : List UInt8) : Prop := ∀ (K : Ctx), aR K [0] → qLG K Try.f38 (fun u G => u = .tup [] ∧ G = ⟨2, [(1, .row 5 1 (List.map (V.int .u8) b)), (0, vE d)]⟩) (cB (xI (aj Try.f38))) [.blk 0] 216 (mkF 216 0 [(0, .ptr 0 0), (3, .box (ar p1) 0), (5, .int .i64 p1.kind), (14, .bool e)]) ⟨2, [(1, .row 5 1 (List.map (V.int .u8) a)), (0, vE c)]⟩
def eR (m : Nat) (a : List Int) (c : List UInt8) (p1 : Tree) (b : List Int) (d : List UInt8) : Prop := ∀ (K : Ctx), aR K [0] → qLG K Try.f38 (fun u G => u = .tup [] ∧ G = ⟨2, [(1, .row 5 1 (List.map (V.int .u8) b)), (0, vE d)]⟩) (xB (xI (aj Try.f38))) [.blk 0] 216 (mkF 216 0 [(0, .ptr 0 0), (3, .box (ar p1) 0), (5, .int .i64 p1.kind)]) ⟨2, [(1, .row 5 1 (List.map (V.int .u8) a)), (0, vE c)]⟩
def eT (m : Nat) (a : List Int) (c : List UInt8) (p1 : Tree) (b : List Int) (d : List UInt8) : Prop := ∀ (K : Ctx), aR K [0] → qLG K Try.f38 (fun u G => u = .tup [] ∧ G = ⟨2, [(1, .row 5 1 (List.map (V.int .u8) b)), (0, vE d)]⟩) (xD (xI (aj Try.f38))) [.blk 0] 216 (mkF 216 0 [(0, .ptr 0 0), (3, .box (ar p1) 0), (5, .int .i64 p1.kind)]) ⟨2, [(1, .row 5 1 (List.map (V.int .u8) a)), (0, vE c)]⟩
def ju (m : Nat) (a : List Int) (c : List UInt8) (p1 : Tree) (b : List Int) (d : List UInt8) : Prop := ∀ (K : Ctx), aR K [0] → qLG K Try.f38 (fun u G => u = .tup [] ∧ G = ⟨2, [(1, .row 5 1 (List.map (V.int .u8) b)), (0, vE d)]⟩) (xJ (xD (xI (aj Try.f38)))) [.blk 0] 216 (mkF 216 0 [(0, .ptr 0 0), (3, .box (ar p1) 0)]) ⟨2, [(1, .row 5 1 (List.map (V.int .u8) a)), (0, vE c)]⟩
def eV (m : Nat) (a : List Int) (c : List UInt8) (p1 : Tree) (b : List Int) (d : List UInt8) : Prop := ∀ (K : Ctx), aR K [0] → qLG K Try.f38 (fun u G => u = .tup [] ∧ G = ⟨2, [(1, .row 5 1 (List.map (V.int .u8) b)), (0, vE d)]⟩) (xD (xB (xI (aj Try.f38)))) [.blk 0] 216 (mkF 216 0 [(0, .ptr 0 0), (3, .box (ar p1) 0), (5, .int .i64 p1.kind)]) ⟨2, [(1, .row 5 1 (List.map (V.int .u8) a)), (0, vE c)]⟩
def jw (m : Nat) (a : List Int) (c : List UInt8) (p1 : Tree) (b : List Int) (d : List UInt8) : Prop := ∀ (K : Ctx), aR K [0] → qLG K Try.f38 (fun u G => u = .tup [] ∧ G = ⟨2, [(1, .row 5 1 (List.map (V.int .u8) b)), (0, vE d)]⟩) (xJ (xD (xB (xI (aj Try.f38))))) [.blk 0] 216 (mkF 216 0 [(0, .ptr 0 0), (3, .box (ar p1) 0)]) ⟨2, [(1, .row 5 1 (List.map (V.int .u8) a)), (0, vE c)]⟩
def eU (m : Nat) (a : List Int) (c : List UInt8) (p1 : Tree) (b : List Int) (d : List UInt8) : Prop := ∀ (K : Ctx), aR K [0] → qLG K Try.f38 (fun u G => u = .tup [] ∧ G = ⟨2, [(1, .row 5 1 (List.map (V.int .u8) b)), (0, vE d)]⟩) (xK (xI (aj Try.f38))) [.blk 0] 216 (mkF 216 0 [(0, .ptr 0 0), (3, .box (ar p1) 0), (5, .int .i64 p1.kind)]) ⟨2, [(1, .row 5 1 (List.map (V.int .u8) a)), (0, vE c)]⟩
def jz (m : Nat) (a : List Int) (c : List UInt8) (p1 : Tree) (b : List Int) (d : List UInt8) : Prop := ∀ (K : Ctx), aR K [0] → qLG K Try.f38 (fun u G => u = .tup [] ∧ G = ⟨2, [(1, .row 5 1 (List.map (V.int .u8) b)), (0, vE d)]⟩) (xJ (xK (xI (aj Try.f38)))) [.blk 0] 216 (mkF 216 0 [(0, .ptr 0 0), (3, .box (ar p1) 0)]) ⟨2, [(1, .row 5 1 (List.map (V.int .u8) a)), (0, vE c)]⟩
def eS (m : Nat) (a : List Int) (c : List UInt8) (p1 : Tree) (b : List Int) (d : List UInt8) : Prop := ∀ (K : Ctx), aR K [0] → qLG K Try.f38 (fun u G => u = .tup [] ∧ G = ⟨2, [(1, .row 5 1 (List.map (V.int .u8) b)), (0, vE d)]⟩) (xK (xB (xI (aj Try.f38)))) [.blk 0] 216 (mkF 216 0 [(0, .ptr 0 0), (3, .box (ar p1) 0), (5, .int .i64 p1.kind)]) ⟨2, [(1, .row 5 1 (List.map (V.int .u8) a)), (0, vE c)]⟩
def jt (m : Nat) (a : List Int) (c : List UInt8) (p1 : Tree) (b : List Int) (d : List UInt8) : Prop := ∀ (K : Ctx), aR K [0] → qLG K Try.f38 (fun u G => u = .tup [] ∧ G = ⟨2, [(1, .row 5 1 (List.map (V.int .u8) b)), (0, vE d)]⟩) (xJ (xK (xB (xI (aj Try.f38))))) [.blk 0] 216 (mkF 216 0 [(0, .ptr 0 0), (3, .box (ar p1) 0)]) ⟨2, [(1, .row 5 1 (List.map (V.int .u8) a)), (0, vE c)]⟩
def eF (m : Nat) (a : List Int) (c : List UInt8) (p1 : Tree) (b : List Int) (d : List UInt8) : Prop := ∀ (K : Ctx), aR K [0] → qLG K Try.f38 (fun u G => u = .tup [] ∧ G = ⟨2, [(1, .row 5 1 (List.map (V.int .u8) b)), (0, vE d)]⟩) (xK (xD (xI (aj Try.f38)))) [.blk 0] 216 (mkF 216 0 [(0, .ptr 0 0), (3, .box (ar p1) 0), (5, .int .i64 p1.kind)]) ⟨2, [(1, .row 5 1 (List.map (V.int .u8) a)), (0, vE c)]⟩
def jq (m : Nat) (a : List Int) (c : List UInt8) (p1 : Tree) (b : List Int) (d : List UInt8) : Prop := ∀ (K : Ctx), aR K [0] → qLG K Try.f38 (fun u G => u = .tup [] ∧ G = ⟨2, [(1, .row 5 1 (List.map (V.int .u8) b)), (0, vE d)]⟩) (xJ (xK (xD (xI (aj Try.f38))))) [.blk 0] 216 (mkF 216 0 [(0, .ptr 0 0), (3, .box (ar p1) 0)]) ⟨2, [(1, .row 5 1 (List.map (V.int .u8) a)), (0, vE c)]⟩
def eC (m : Nat) (a : List Int) (c : List UInt8) (p1 : Tree) (b : List Int) (d : List UInt8) : Prop := ∀ (K : Ctx), aR K [0] → qLG K Try.f38 (fun u G => u = .tup [] ∧ G = ⟨2, [(1, .row 5 1 (List.map (V.int .u8) b)), (0, vE d)]⟩) (xK (xD (xB (xI (aj Try.f38))))) [.blk 0] 216 (mkF 216 0 [(0, .ptr 0 0), (3, .box (ar p1) 0), (5, .int .i64 p1.kind)]) ⟨2, [(1, .row 5 1 (List.map (V.int .u8) a)), (0, vE c)]⟩
def jm (m : Nat) (a : List Int) (c : List UInt8) (p1 : Tree) (b : List Int) (d : List UInt8) : Prop := ∀ (K : Ctx), aR K [0] → qLG K Try.f38 (fun u G => u = .tup [] ∧ G = ⟨2, [(1, .row 5 1 (List.map (V.int .u8) b)), (0, vE d)]⟩) (xJ (xK (xD (xB (xI (aj Try.f38)))))) [.blk 0] 216 (mkF 216 0 [(0, .ptr 0 0), (3, .box (ar p1) 0)]) ⟨2, [(1, .row 5 1 (List.map (V.int .u8) a)), (0, vE c)]⟩
def gb (m : Nat) (a : List Int) (c : List UInt8) (p1 : Tree) (b : List Int) (d : List UInt8) : Prop := ∀ (K : Ctx), aR K [0] → qLG K Try.f38 (fun u G => u = .tup [] ∧ G = ⟨2, [(1, .row 5 1 (List.map (V.int .u8) b)), (0, vE d)]⟩) (xK (xK (xI (aj Try.f38)))) [.blk 0] 216 (mkF 216 0 [(0, .ptr 0 0), (3, .box (ar p1) 0), (5, .int .i64 p1.kind)]) ⟨2, [(1, .row 5 1 (List.map (V.int .u8) a)), (0, vE c)]⟩
def jk (m : Nat) (a : List Int) (c : List UInt8) (p1 : Tree) (b : List Int) (d : List UInt8) : Prop := ∀ (K : Ctx), aR K [0] → qLG K Try.f38 (fun u G => u = .tup [] ∧ G = ⟨2, [(1, .row 5 1 (List.map (V.int .u8) b)), (0, vE d)]⟩) (xJ (xK (xK (xI (aj Try.f38))))) [.blk 0] 216 (mkF 216 0 [(0, .ptr 0 0), (3, .box (ar p1) 0)]) ⟨2, [(1, .row 5 1 (List.map (V.int .u8) a)), (0, vE c)]⟩
theorem rS_syntax_printer_tree (m : Nat) (a : List Int) (c : List UInt8) (p1 : Tree) (b : List Int) (d : List UInt8) (h : ((p1.kind = 1) → cY m a c p1 true b d) ∧ ((p1.kind ≠ 1) → ((p1.kind = 2) → cY m a c p1 true b d) ∧ ((p1.kind ≠ 2) → ((p1.kind = 3) → cY m a c p1 true b d) ∧ ((p1.kind ≠ 3) → cY m a c p1 (p1.kind == 4) b d)))) : aB a c p1 b d := by
 refine az 216 [0] Try.func38 rfl rfl rfl (bg rfl) fun K hK => ?_
 refine gR 3 rfl <| gFP 2 rfl rfl rfl rfl <| gR 16 rfl <| qBeZ 14 15 rfl rfl rfl rfl h (fun h => ?_) fun h => ?_
 exact gR 3 rfl <| gJ (h K hK) [0, 1] [0] rfl hK pq4 ⟨⟨_, rfl, rfl, rfl, (vJ _ a).symm⟩, (pqo1 rfl rfl)⟩ rfl
 refine gR 7 rfl <| qBeZ 14 16 rfl rfl rfl rfl h (fun h => ?_) fun h => ?_
 exact gR 3 rfl <| gJ (h K hK) [0, 1] [0] rfl hK pq4 ⟨⟨_, rfl, rfl, rfl, (vJ _ a).symm⟩, (pqo1 rfl rfl)⟩ rfl
 refine gR 7 rfl <| qBeZ 14 17 rfl rfl rfl rfl h (fun h => ?_) fun h => ?_
 exact gR 3 rfl <| gJ (h K hK) [0, 1] [0] rfl hK pq4 ⟨⟨_, rfl, rfl, rfl, (vJ _ a).symm⟩, (pqo1 rfl rfl)⟩ rfl
 exact gR 6 rfl <| gJ (h K hK) [0, 1] [0] rfl hK pq4 ⟨⟨_, rfl, rfl, rfl, (vJ _ a).symm⟩, (pqo1 rfl rfl)⟩ rfl
theorem jp (m : Nat) (a : List Int) (c : List UInt8) (p1 : Tree) (g : Bool) (b : List Int) (d : List UInt8) (h : ((g = true) → ∃ e f, fb a c p1 e f ∧ e = b ∧ f = d) ∧ ((g = false) → eR m a c p1 b d)) : cY (m + 1) a c p1 g b d := by
 intro K hK
 refine qBi 14 rfl rfl rfl h (fun h => ?_) fun h => ?_
 refine gR 4 rfl ?_
 obtain ⟨e, f, hs66, h⟩ := h
 refine gCZ hs66 [0, 1] ⟨⟨_, rfl, ⟨rfl, rfl, (vJ _ a).symm⟩⟩, ⟨⟨_, rfl, ⟨rfl, ak.rfl⟩⟩, trivial⟩⟩ ?_
 refine gHR 3 (List.map (V.int .u8) e) rfl (vJ _ e) rfl <| gR 2 rfl ?_
 obtain ⟨rfl, rfl⟩ := h
 exact go_sub (F' := (mkF 216 0 [])) (H' := ⟨2, [(1, .row 5 1 (List.map (V.int .u8) e)), (0, vE f)]⟩) [0, 3] [0] rfl hK trivial ⟨⟨_, rfl, rfl, rfl, (vJ _ e).symm⟩, (pqo1 rfl rfl)⟩ rfl <| go_endD [] aa (rs := []) rfl rfl ⟨rfl, rfl⟩
 exact gR 1 rfl <| gJ (h K hK) [0, 1] [0] rfl hK pq3 ⟨⟨_, rfl, rfl, rfl, (vJ _ a).symm⟩, (pqo1 rfl rfl)⟩ rfl
theorem jn (m : Nat) (a : List Int) (c : List UInt8) (p1 : Tree) (b : List Int) (d : List UInt8) (h : ((p1.kind = 17) → ∃ g, p1.kids[0]? = some g ∧ ∃ e f, aB a c g e f ∧ e = b ∧ f = d) ∧ ((p1.kind ≠ 17) → eT m a c p1 b d)) : eR (m + 1) a c p1 b d := by
 intro K hK
 refine gR 6 rfl <| qBeZ 22 23 rfl rfl rfl rfl h (fun h => ?_) fun h => ?_
 refine gR 5 rfl ?_
 obtain ⟨g, hxt2_1, h⟩ := h
 refine gY (aY (ae hxt2_1) aa rfl rfl rfl rfl) rfl rfl <| gR 1 rfl ?_
 obtain ⟨e, f, hs67, h⟩ := h
 refine gCZ hs67 [0, 1] ⟨⟨_, rfl, ⟨rfl, rfl, (vJ _ a).symm⟩⟩, ⟨⟨_, rfl, ⟨rfl, ak.rfl⟩⟩, trivial⟩⟩ ?_
 refine gHR 3 (List.map (V.int .u8) e) rfl (vJ _ e) rfl <| gR 2 rfl ?_
 obtain ⟨rfl, rfl⟩ := h
 exact go_sub (F' := (mkF 216 0 [])) (H' := ⟨2, [(1, .row 5 1 (List.map (V.int .u8) e)), (0, vE f)]⟩) [0, 3] [0] rfl hK trivial ⟨⟨_, rfl, rfl, rfl, (vJ _ e).symm⟩, (pqo1 rfl rfl)⟩ rfl <| go_endD [] aa (rs := []) rfl rfl ⟨rfl, rfl⟩
 exact gR 1 rfl <| gJ (h K hK) [0, 1] [0] rfl hK pq3 ⟨⟨_, rfl, rfl, rfl, (vJ _ a).symm⟩, (pqo1 rfl rfl)⟩ rfl
theorem jj (m : Nat) (a : List Int) (c : List UInt8) (p1 : Tree) (b : List Int) (d : List UInt8) (h : ((p1.kind = 8) → ju m a c p1 b d) ∧ ((p1.kind ≠ 8) → eV m a c p1 b d)) : eT (m + 1) a c p1 b d := by
 intro K hK
 refine gR 6 rfl <| qBeZ 30 31 rfl rfl rfl rfl h (fun h => ?_) fun h => ?_
 exact gR 1 rfl <| gJ (h K hK) [0, 1] [0] rfl hK pq2 ⟨⟨_, rfl, rfl, rfl, (vJ _ a).symm⟩, (pqo1 rfl rfl)⟩ rfl
 exact gR 1 rfl <| gJ (h K hK) [0, 1] [0] rfl hK pq3 ⟨⟨_, rfl, rfl, rfl, (vJ _ a).symm⟩, (pqo1 rfl rfl)⟩ rfl
theorem mA (m : Nat) (a : List Int) (g : List UInt8) (p1 : Tree) (c : List Int) (i : List UInt8) (h : ∃ k, p1.leads[0]? = some k ∧ ∃ d l, am a g k [91] d l ∧ ∃ n, p1.kids[0]? = some n ∧ ∃ e o, aB d l n e o ∧ ∃ p, p1.leads[1]? = some p ∧ ∃ b j, am e o p [93] b j ∧ b = c ∧ j = i) : ju (m + 1) a g p1 c i := by
 intro K hK
 refine gR 5 rfl ?_
 obtain ⟨k, hxs4_1, h⟩ := h
 refine gY (aY (mapget (f := V.str) hxs4_1) aa rfl rfl rfl rfl) rfl rfl <| gR 1 rfl ?_
 obtain ⟨d, l, hs68, h⟩ := h
 refine gCZ hs68 [0, 1] ⟨⟨_, rfl, ⟨rfl, rfl, (vJ _ a).symm⟩⟩, ⟨⟨_, rfl, ⟨rfl, ak.rfl⟩⟩, trivial⟩⟩ ?_
 refine gHR 3 (List.map (V.int .u8) d) rfl (vJ _ d) rfl <| gR 7 rfl ?_
 obtain ⟨n, hxt4_4, h⟩ := h
 refine gY (aY (ae hxt4_4) aa rfl rfl rfl rfl) rfl rfl <| gR 1 rfl ?_
 obtain ⟨e, o, hs69, h⟩ := h
 refine gCZ hs69 [0, 3] ⟨⟨_, rfl, ⟨rfl, rfl, (vJ _ d).symm⟩⟩, ⟨⟨_, rfl, ⟨rfl, ak.rfl⟩⟩, trivial⟩⟩ ?_
 refine gHR 5 (List.map (V.int .u8) e) rfl (vJ _ e) rfl <| gR 6 rfl ?_
 obtain ⟨p, hxs4_7, h⟩ := h
 refine gY (aY (mapget (f := V.str) hxs4_7) aa rfl rfl rfl rfl) rfl rfl <| gR 1 rfl ?_
 obtain ⟨b, j, hs70, h⟩ := h
 refine gCZ hs70 [0, 5] ⟨⟨_, rfl, ⟨rfl, rfl, (vJ _ e).symm⟩⟩, ⟨⟨_, rfl, ⟨rfl, ak.rfl⟩⟩, trivial⟩⟩ ?_
 refine gHR 7 (List.map (V.int .u8) b) rfl (vJ _ b) rfl <| gR 2 rfl ?_
 obtain ⟨rfl, rfl⟩ := h
 exact go_sub (F' := (mkF 216 0 [])) (H' := ⟨2, [(1, .row 5 1 (List.map (V.int .u8) b)), (0, vE j)]⟩) [0, 7] [0] rfl hK trivial ⟨⟨_, rfl, rfl, rfl, (vJ _ b).symm⟩, (pqo1 rfl rfl)⟩ rfl <| go_endD [] aa (rs := []) rfl rfl ⟨rfl, rfl⟩
theorem jo (m : Nat) (a : List Int) (c : List UInt8) (p1 : Tree) (b : List Int) (d : List UInt8) (h : ((p1.kind = 16) → jw m a c p1 b d) ∧ ((p1.kind ≠ 16) → eU m a c p1 b d)) : eV (m + 1) a c p1 b d := by
 intro K hK
 refine gR 6 rfl <| qBeZ 50 51 rfl rfl rfl rfl h (fun h => ?_) fun h => ?_
 exact gR 1 rfl <| gJ (h K hK) [0, 1] [0] rfl hK pq2 ⟨⟨_, rfl, rfl, rfl, (vJ _ a).symm⟩, (pqo1 rfl rfl)⟩ rfl
 exact gR 1 rfl <| gJ (h K hK) [0, 1] [0] rfl hK pq3 ⟨⟨_, rfl, rfl, rfl, (vJ _ a).symm⟩, (pqo1 rfl rfl)⟩ rfl
theorem mD (m : Nat) (b : List Int) (j : List UInt8) (p1 : Tree) (c : List Int) (k : List UInt8) (h : ∃ l, p1.leads[0]? = some l ∧ ∃ d n, am b j l p1.text d n ∧ ∃ o, p1.leads[1]? = some o ∧ ∃ e p, am d n o [40] e p ∧ ∃ g q, S_syntax_printer_list e p p1 p1.kids 3 g q ∧ ∃ r, p1.leads[2]? = some r ∧ ∃ a i, am g q r [41] a i ∧ a = c ∧ i = k) : jw (m + 1) b j p1 c k := by
 intro K hK
 refine gR 1 rfl <| gDs [] 8 8 rfl (by kernel_rfl) (by kernel_rfl) <| gDr [(0, 2), (1, 2), (2, 2)] (by kernel_rfl) rfl rfl ?_
 obtain ⟨l, hxs6_1, h⟩ := h
 refine gYd 3 rfl (by kernel_rfl) (aY (mapget (f := V.str) hxs6_1) aa rfl rfl rfl rfl) rfl rfl <| gDr [(4, 2), (5, 0), (6, 0)] (by kernel_rfl) rfl rfl ?_
 obtain ⟨d, n, hs71, h⟩ := h
 refine gDCZ 7 hs71 [0, 1] rfl ⟨⟨_, rfl, ⟨rfl, rfl, (vJ _ b).symm⟩⟩, ⟨⟨_, rfl, ⟨rfl, ak.rfl⟩⟩, trivial⟩⟩ ?_
 refine gHR 3 (List.map (V.int .u8) d) rfl (vJ _ d) rfl <| gDe (by kernel_rfl) <| gR 6 rfl ?_
 obtain ⟨o, hxs6_4, h⟩ := h
 refine gY (aY (mapget (f := V.str) hxs6_4) aa rfl rfl rfl rfl) rfl rfl <| gR 1 rfl ?_
 obtain ⟨e, p, hs72, h⟩ := h
 refine gCZ hs72 [0, 3] ⟨⟨_, rfl, ⟨rfl, rfl, (vJ _ d).symm⟩⟩, ⟨⟨_, rfl, ⟨rfl, ak.rfl⟩⟩, trivial⟩⟩ ?_
 refine gHR 5 (List.map (V.int .u8) e) rfl (vJ _ e) rfl <| gR 8 rfl ?_
 obtain ⟨g, q, hs73, h⟩ := h
 refine gCZ hs73 [0, 5] ⟨⟨_, rfl, ⟨rfl, rfl, (vJ _ e).symm⟩⟩, ⟨⟨_, rfl, ⟨rfl, ak.rfl⟩⟩, trivial⟩⟩ ?_
 refine gHR 7 (List.map (V.int .u8) g) rfl (vJ _ g) rfl <| gR 6 rfl ?_
 obtain ⟨r, hxs6_9, h⟩ := h
 refine gY (aY (mapget (f := V.str) hxs6_9) aa rfl rfl rfl rfl) rfl rfl <| gR 1 rfl ?_
 obtain ⟨a, i, hs74, h⟩ := h
 refine gCZ hs74 [0, 7] ⟨⟨_, rfl, ⟨rfl, rfl, (vJ _ g).symm⟩⟩, ⟨⟨_, rfl, ⟨rfl, ak.rfl⟩⟩, trivial⟩⟩ ?_
 refine gHR 9 (List.map (V.int .u8) a) rfl (vJ _ a) rfl <| gR 2 rfl ?_
 obtain ⟨rfl, rfl⟩ := h
 exact go_sub (F' := (mkF 216 0 [])) (H' := ⟨2, [(1, .row 5 1 (List.map (V.int .u8) a)), (0, vE i)]⟩) [0, 9] [0] rfl hK trivial ⟨⟨_, rfl, rfl, rfl, (vJ _ a).symm⟩, (pqo1 rfl rfl)⟩ rfl <| go_endD [] aa (rs := []) rfl rfl ⟨rfl, rfl⟩
theorem jl (m : Nat) (a : List Int) (c : List UInt8) (p1 : Tree) (b : List Int) (d : List UInt8) (h : ((p1.kind = 18) → jz m a c p1 b d) ∧ ((p1.kind ≠ 18) → eS m a c p1 b d)) : eU (m + 1) a c p1 b d := by
 intro K hK
 refine gR 6 rfl <| qBeZ 77 78 rfl rfl rfl rfl h (fun h => ?_) fun h => ?_
 exact gR 1 rfl <| gJ (h K hK) [0, 1] [0] rfl hK pq2 ⟨⟨_, rfl, rfl, rfl, (vJ _ a).symm⟩, (pqo1 rfl rfl)⟩ rfl
 exact gR 1 rfl <| gJ (h K hK) [0, 1] [0] rfl hK pq3 ⟨⟨_, rfl, rfl, rfl, (vJ _ a).symm⟩, (pqo1 rfl rfl)⟩ rfl
theorem mC (m : Nat) (a : List Int) (g : List UInt8) (p1 : Tree) (c : List Int) (i : List UInt8) (h : ∃ k, p1.leads[0]? = some k ∧ ∃ d l, am a g k [91] d l ∧ ∃ e n, S_syntax_printer_list d l p1 p1.kids 2 e n ∧ ∃ o, p1.leads[1]? = some o ∧ ∃ b j, am e n o [93] b j ∧ b = c ∧ j = i) : jz (m + 1) a g p1 c i := by
 intro K hK
 refine gR 5 rfl ?_
 obtain ⟨k, hxs8_1, h⟩ := h
 refine gY (aY (mapget (f := V.str) hxs8_1) aa rfl rfl rfl rfl) rfl rfl <| gR 1 rfl ?_
 obtain ⟨d, l, hs75, h⟩ := h
 refine gCZ hs75 [0, 1] ⟨⟨_, rfl, ⟨rfl, rfl, (vJ _ a).symm⟩⟩, ⟨⟨_, rfl, ⟨rfl, ak.rfl⟩⟩, trivial⟩⟩ ?_
 refine gHR 3 (List.map (V.int .u8) d) rfl (vJ _ d) rfl <| gR 8 rfl ?_
 obtain ⟨e, n, hs76, h⟩ := h
 refine gCZ hs76 [0, 3] ⟨⟨_, rfl, ⟨rfl, rfl, (vJ _ d).symm⟩⟩, ⟨⟨_, rfl, ⟨rfl, ak.rfl⟩⟩, trivial⟩⟩ ?_
 refine gHR 5 (List.map (V.int .u8) e) rfl (vJ _ e) rfl <| gR 6 rfl ?_
 obtain ⟨o, hxs8_6, h⟩ := h
 refine gY (aY (mapget (f := V.str) hxs8_6) aa rfl rfl rfl rfl) rfl rfl <| gR 1 rfl ?_
 obtain ⟨b, j, hs77, h⟩ := h
 refine gCZ hs77 [0, 5] ⟨⟨_, rfl, ⟨rfl, rfl, (vJ _ e).symm⟩⟩, ⟨⟨_, rfl, ⟨rfl, ak.rfl⟩⟩, trivial⟩⟩ ?_
 refine gHR 7 (List.map (V.int .u8) b) rfl (vJ _ b) rfl <| gR 2 rfl ?_
 obtain ⟨rfl, rfl⟩ := h
 exact go_sub (F' := (mkF 216 0 [])) (H' := ⟨2, [(1, .row 5 1 (List.map (V.int .u8) b)), (0, vE j)]⟩) [0, 7] [0] rfl hK trivial ⟨⟨_, rfl, rfl, rfl, (vJ _ b).symm⟩, (pqo1 rfl rfl)⟩ rfl <| go_endD [] aa (rs := []) rfl rfl ⟨rfl, rfl⟩
theorem ji (m : Nat) (a : List Int) (c : List UInt8) (p1 : Tree) (b : List Int) (d : List UInt8) (h : ((p1.kind = 19) → jt m a c p1 b d) ∧ ((p1.kind ≠ 19) → eF m a c p1 b d)) : eS (m + 1) a c p1 b d := by
 intro K hK
 refine gR 6 rfl <| qBeZ 96 97 rfl rfl rfl rfl h (fun h => ?_) fun h => ?_
 exact gR 1 rfl <| gJ (h K hK) [0, 1] [0] rfl hK pq2 ⟨⟨_, rfl, rfl, rfl, (vJ _ a).symm⟩, (pqo1 rfl rfl)⟩ rfl
 exact gR 1 rfl <| gJ (h K hK) [0, 1] [0] rfl hK pq3 ⟨⟨_, rfl, rfl, rfl, (vJ _ a).symm⟩, (pqo1 rfl rfl)⟩ rfl
theorem mz (m : Nat) (d : List Int) (r : List UInt8) (p1 : Tree) (k : List Int) (s : List UInt8) (h : ∃ t, p1.leads[0]? = some t ∧ ∃ e v, am d r t [105, 102] e v ∧ ∃ w, p1.kids[0]? = some w ∧ ∃ g x, aB e v w g x ∧ ∃ y, p1.leads[1]? = some y ∧ ∃ i z, am g x y [116, 104, 101, 110] i z ∧ ∃ l, p1.kids[1]? = some l ∧ ∃ b n, aB i z l b n ∧ ∃ o, p1.leads[2]? = some o ∧ ∃ c p, am b n o [101, 108, 115, 101] c p ∧ ∃ q, p1.kids[2]? = some q ∧ ∃ a j, aB c p q a j ∧ a = k ∧ j = s) : jt (m + 1) d r p1 k s := by
 intro K hK
 refine gR 5 rfl ?_
 obtain ⟨t, hxs10_1, h⟩ := h
 refine gY (aY (mapget (f := V.str) hxs10_1) aa rfl rfl rfl rfl) rfl rfl <| gR 1 rfl ?_
 obtain ⟨e, v, hs78, h⟩ := h
 refine gCZ hs78 [0, 1] ⟨⟨_, rfl, ⟨rfl, rfl, (vJ _ d).symm⟩⟩, ⟨⟨_, rfl, ⟨rfl, ak.rfl⟩⟩, trivial⟩⟩ ?_
 refine gHR 3 (List.map (V.int .u8) e) rfl (vJ _ e) rfl <| gR 7 rfl ?_
 obtain ⟨w, hxt10_4, h⟩ := h
 refine gY (aY (ae hxt10_4) aa rfl rfl rfl rfl) rfl rfl <| gR 1 rfl ?_
 obtain ⟨g, x, hs79, h⟩ := h
 refine gCZ hs79 [0, 3] ⟨⟨_, rfl, ⟨rfl, rfl, (vJ _ e).symm⟩⟩, ⟨⟨_, rfl, ⟨rfl, ak.rfl⟩⟩, trivial⟩⟩ ?_
 refine gHR 5 (List.map (V.int .u8) g) rfl (vJ _ g) rfl <| gR 7 rfl ?_
 obtain ⟨y, hxs10_7, h⟩ := h
 refine gY (aY (mapget (f := V.str) hxs10_7) aa rfl rfl rfl rfl) rfl rfl <| gR 1 rfl ?_
 obtain ⟨i, z, hs80, h⟩ := h
 refine gCZ hs80 [0, 5] ⟨⟨_, rfl, ⟨rfl, rfl, (vJ _ g).symm⟩⟩, ⟨⟨_, rfl, ⟨rfl, ak.rfl⟩⟩, trivial⟩⟩ ?_
 refine gHR 7 (List.map (V.int .u8) i) rfl (vJ _ i) rfl <| gR 7 rfl ?_
 obtain ⟨l, hxt10_10, h⟩ := h
 refine gY (aY (ae hxt10_10) aa rfl rfl rfl rfl) rfl rfl <| gR 1 rfl ?_
 obtain ⟨b, n, hs81, h⟩ := h
 refine gCZ hs81 [0, 7] ⟨⟨_, rfl, ⟨rfl, rfl, (vJ _ i).symm⟩⟩, ⟨⟨_, rfl, ⟨rfl, ak.rfl⟩⟩, trivial⟩⟩ ?_
 refine gHR 9 (List.map (V.int .u8) b) rfl (vJ _ b) rfl <| gR 7 rfl ?_
 obtain ⟨o, hxs10_13, h⟩ := h
 refine gY (aY (mapget (f := V.str) hxs10_13) aa rfl rfl rfl rfl) rfl rfl <| gR 1 rfl ?_
 obtain ⟨c, p, hs82, h⟩ := h
 refine gCZ hs82 [0, 9] ⟨⟨_, rfl, ⟨rfl, rfl, (vJ _ b).symm⟩⟩, ⟨⟨_, rfl, ⟨rfl, ak.rfl⟩⟩, trivial⟩⟩ ?_
 refine gHR 11 (List.map (V.int .u8) c) rfl (vJ _ c) rfl <| gR 6 rfl ?_
 obtain ⟨q, hxt10_16, h⟩ := h
 refine gY (aY (ae hxt10_16) aa rfl rfl rfl rfl) rfl rfl <| gR 1 rfl ?_
 obtain ⟨a, j, hs83, h⟩ := h
 refine gCZ hs83 [0, 11] ⟨⟨_, rfl, ⟨rfl, rfl, (vJ _ c).symm⟩⟩, ⟨⟨_, rfl, ⟨rfl, ak.rfl⟩⟩, trivial⟩⟩ ?_
 refine gHR 13 (List.map (V.int .u8) a) rfl (vJ _ a) rfl <| gR 2 rfl ?_
 obtain ⟨rfl, rfl⟩ := h
 exact go_sub (F' := (mkF 216 0 [])) (H' := ⟨2, [(1, .row 5 1 (List.map (V.int .u8) a)), (0, vE j)]⟩) [0, 13] [0] rfl hK trivial ⟨⟨_, rfl, rfl, rfl, (vJ _ a).symm⟩, (pqo1 rfl rfl)⟩ rfl <| go_endD [] aa (rs := []) rfl rfl ⟨rfl, rfl⟩
theorem iV (m : Nat) (a : List Int) (c : List UInt8) (p1 : Tree) (b : List Int) (d : List UInt8) (h : ((p1.kind = 20) → jq m a c p1 b d) ∧ ((p1.kind ≠ 20) → eC m a c p1 b d)) : eF (m + 1) a c p1 b d := by
 intro K hK
 refine gR 6 rfl <| qBeZ 134 135 rfl rfl rfl rfl h (fun h => ?_) fun h => ?_
 exact gR 1 rfl <| gJ (h K hK) [0, 1] [0] rfl hK pq2 ⟨⟨_, rfl, rfl, rfl, (vJ _ a).symm⟩, (pqo1 rfl rfl)⟩ rfl
 exact gR 1 rfl <| gJ (h K hK) [0, 1] [0] rfl hK pq3 ⟨⟨_, rfl, rfl, rfl, (vJ _ a).symm⟩, (pqo1 rfl rfl)⟩ rfl
theorem mn (m : Nat) (d : List Int) (r : List UInt8) (p1 : Tree) (k : List Int) (s : List UInt8) (h : ∃ t, p1.leads[0]? = some t ∧ ∃ e v, am d r t [108, 101, 116] e v ∧ ∃ w, p1.leads[1]? = some w ∧ ∃ g x, am e v w p1.text g x ∧ ∃ y, p1.leads[2]? = some y ∧ ∃ i z, am g x y [61] i z ∧ ∃ l, p1.kids[0]? = some l ∧ ∃ b n, aB i z l b n ∧ ∃ o, p1.leads[3]? = some o ∧ ∃ c p, am b n o [105, 110] c p ∧ ∃ q, p1.kids[1]? = some q ∧ ∃ a j, aB c p q a j ∧ a = k ∧ j = s) : jq (m + 1) d r p1 k s := by
 intro K hK
 refine gR 5 rfl ?_
 obtain ⟨t, hxs12_1, h⟩ := h
 refine gY (aY (mapget (f := V.str) hxs12_1) aa rfl rfl rfl rfl) rfl rfl <| gR 1 rfl ?_
 obtain ⟨e, v, hs84, h⟩ := h
 refine gCZ hs84 [0, 1] ⟨⟨_, rfl, ⟨rfl, rfl, (vJ _ d).symm⟩⟩, ⟨⟨_, rfl, ⟨rfl, ak.rfl⟩⟩, trivial⟩⟩ ?_
 refine gHR 3 (List.map (V.int .u8) e) rfl (vJ _ e) rfl <| gR 3 rfl <| gDs [] 8 8 rfl (by kernel_rfl) (by kernel_rfl) <| gDr [(0, 2), (1, 2), (2, 2)] (by kernel_rfl) rfl rfl ?_
 obtain ⟨w, hxs12_4, h⟩ := h
 refine gYd 3 rfl (by kernel_rfl) (aY (mapget (f := V.str) hxs12_4) aa rfl rfl rfl rfl) rfl rfl <| gDr [(4, 2), (5, 0), (6, 0)] (by kernel_rfl) rfl rfl ?_
 obtain ⟨g, x, hs85, h⟩ := h
 refine gDCZ 7 hs85 [0, 3] rfl ⟨⟨_, rfl, ⟨rfl, rfl, (vJ _ e).symm⟩⟩, ⟨⟨_, rfl, ⟨rfl, ak.rfl⟩⟩, trivial⟩⟩ ?_
 refine gHR 5 (List.map (V.int .u8) g) rfl (vJ _ g) rfl <| gDe (by kernel_rfl) <| gR 6 rfl ?_
 obtain ⟨y, hxs12_7, h⟩ := h
 refine gY (aY (mapget (f := V.str) hxs12_7) aa rfl rfl rfl rfl) rfl rfl <| gR 1 rfl ?_
 obtain ⟨i, z, hs86, h⟩ := h
 refine gCZ hs86 [0, 5] ⟨⟨_, rfl, ⟨rfl, rfl, (vJ _ g).symm⟩⟩, ⟨⟨_, rfl, ⟨rfl, ak.rfl⟩⟩, trivial⟩⟩ ?_
 refine gHR 7 (List.map (V.int .u8) i) rfl (vJ _ i) rfl <| gR 7 rfl ?_
 obtain ⟨l, hxt12_10, h⟩ := h
 refine gY (aY (ae hxt12_10) aa rfl rfl rfl rfl) rfl rfl <| gR 1 rfl ?_
 obtain ⟨b, n, hs87, h⟩ := h
 refine gCZ hs87 [0, 7] ⟨⟨_, rfl, ⟨rfl, rfl, (vJ _ i).symm⟩⟩, ⟨⟨_, rfl, ⟨rfl, ak.rfl⟩⟩, trivial⟩⟩ ?_
 refine gHR 9 (List.map (V.int .u8) b) rfl (vJ _ b) rfl <| gR 7 rfl ?_
 obtain ⟨o, hxs12_13, h⟩ := h
 refine gY (aY (mapget (f := V.str) hxs12_13) aa rfl rfl rfl rfl) rfl rfl <| gR 1 rfl ?_
 obtain ⟨c, p, hs88, h⟩ := h
 refine gCZ hs88 [0, 9] ⟨⟨_, rfl, ⟨rfl, rfl, (vJ _ b).symm⟩⟩, ⟨⟨_, rfl, ⟨rfl, ak.rfl⟩⟩, trivial⟩⟩ ?_
 refine gHR 11 (List.map (V.int .u8) c) rfl (vJ _ c) rfl <| gR 6 rfl ?_
 obtain ⟨q, hxt12_16, h⟩ := h
 refine gY (aY (ae hxt12_16) aa rfl rfl rfl rfl) rfl rfl <| gR 1 rfl ?_
 obtain ⟨a, j, hs89, h⟩ := h
 refine gCZ hs89 [0, 11] ⟨⟨_, rfl, ⟨rfl, rfl, (vJ _ c).symm⟩⟩, ⟨⟨_, rfl, ⟨rfl, ak.rfl⟩⟩, trivial⟩⟩ ?_
 refine gHR 13 (List.map (V.int .u8) a) rfl (vJ _ a) rfl <| gR 2 rfl ?_
 obtain ⟨rfl, rfl⟩ := h
 exact go_sub (F' := (mkF 216 0 [])) (H' := ⟨2, [(1, .row 5 1 (List.map (V.int .u8) a)), (0, vE j)]⟩) [0, 13] [0] rfl hK trivial ⟨⟨_, rfl, rfl, rfl, (vJ _ a).symm⟩, (pqo1 rfl rfl)⟩ rfl <| go_endD [] aa (rs := []) rfl rfl ⟨rfl, rfl⟩
theorem iX (m : Nat) (a : List Int) (c : List UInt8) (p1 : Tree) (b : List Int) (d : List UInt8) (h : ((p1.kind = 21) → jm m a c p1 b d) ∧ ((p1.kind ≠ 21) → gb m a c p1 b d)) : eC (m + 1) a c p1 b d := by
 intro K hK
 refine gR 6 rfl <| qBeZ 174 175 rfl rfl rfl rfl h (fun h => ?_) fun h => ?_
 exact gR 1 rfl <| gJ (h K hK) [0, 1] [0] rfl hK pq2 ⟨⟨_, rfl, rfl, rfl, (vJ _ a).symm⟩, (pqo1 rfl rfl)⟩ rfl
 exact gR 1 rfl <| gJ (h K hK) [0, 1] [0] rfl hK pq3 ⟨⟨_, rfl, rfl, rfl, (vJ _ a).symm⟩, (pqo1 rfl rfl)⟩ rfl
theorem mq (m : Nat) (b : List Int) (i : List UInt8) (p1 : Tree) (e : List Int) (j : List UInt8) (h : ∃ k, p1.kids[0]? = some k ∧ ∃ c l, aB b i k c l ∧ ∃ n, p1.leads[0]? = some n ∧ ∃ d o, am c l n p1.text d o ∧ ∃ p, p1.kids[1]? = some p ∧ ∃ a g, aB d o p a g ∧ a = e ∧ g = j) : jm (m + 1) b i p1 e j := by
 intro K hK
 refine gR 5 rfl ?_
 obtain ⟨k, hxt14_1, h⟩ := h
 refine gY (aY (ae hxt14_1) aa rfl rfl rfl rfl) rfl rfl <| gR 1 rfl ?_
 obtain ⟨c, l, hs90, h⟩ := h
 refine gCZ hs90 [0, 1] ⟨⟨_, rfl, ⟨rfl, rfl, (vJ _ b).symm⟩⟩, ⟨⟨_, rfl, ⟨rfl, ak.rfl⟩⟩, trivial⟩⟩ ?_
 refine gHR 3 (List.map (V.int .u8) c) rfl (vJ _ c) rfl <| gR 3 rfl <| gDs [] 8 8 rfl (by kernel_rfl) (by kernel_rfl) <| gDr [(0, 2), (1, 2), (2, 2)] (by kernel_rfl) rfl rfl ?_
 obtain ⟨n, hxs14_4, h⟩ := h
 refine gYd 3 rfl (by kernel_rfl) (aY (mapget (f := V.str) hxs14_4) aa rfl rfl rfl rfl) rfl rfl <| gDr [(4, 2), (5, 0), (6, 0)] (by kernel_rfl) rfl rfl ?_
 obtain ⟨d, o, hs91, h⟩ := h
 refine gDCZ 7 hs91 [0, 3] rfl ⟨⟨_, rfl, ⟨rfl, rfl, (vJ _ c).symm⟩⟩, ⟨⟨_, rfl, ⟨rfl, ak.rfl⟩⟩, trivial⟩⟩ ?_
 refine gHR 5 (List.map (V.int .u8) d) rfl (vJ _ d) rfl <| gDe (by kernel_rfl) <| gR 5 rfl ?_
 obtain ⟨p, hxt14_7, h⟩ := h
 refine gY (aY (ae hxt14_7) aa rfl rfl rfl rfl) rfl rfl <| gR 1 rfl ?_
 obtain ⟨a, g, hs92, h⟩ := h
 refine gCZ hs92 [0, 5] ⟨⟨_, rfl, ⟨rfl, rfl, (vJ _ d).symm⟩⟩, ⟨⟨_, rfl, ⟨rfl, ak.rfl⟩⟩, trivial⟩⟩ ?_
 refine gHR 7 (List.map (V.int .u8) a) rfl (vJ _ a) rfl <| gR 2 rfl ?_
 obtain ⟨rfl, rfl⟩ := h
 exact go_sub (F' := (mkF 216 0 [])) (H' := ⟨2, [(1, .row 5 1 (List.map (V.int .u8) a)), (0, vE g)]⟩) [0, 7] [0] rfl hK trivial ⟨⟨_, rfl, rfl, rfl, (vJ _ a).symm⟩, (pqo1 rfl rfl)⟩ rfl <| go_endD [] aa (rs := []) rfl rfl ⟨rfl, rfl⟩
theorem iY (m : Nat) (a : List Int) (d : List UInt8) (p1 : Tree) (c : List Int) (e : List UInt8) (h : ((p1.kind = 22) → jk m a d p1 c e) ∧ ((p1.kind ≠ 22) → ∃ i, p1.leads[0]? = some i ∧ ∃ j, kc p1 j ∧ ∃ b g, am a d i j b g ∧ b = c ∧ g = e)) : gb (m + 1) a d p1 c e := by
 intro K hK
 refine gR 6 rfl <| qBeZ 196 197 rfl rfl rfl rfl h (fun h => ?_) fun h => ?_
 exact gR 1 rfl <| gJ (h K hK) [0, 1] [0] rfl hK pq2 ⟨⟨_, rfl, rfl, rfl, (vJ _ a).symm⟩, (pqo1 rfl rfl)⟩ rfl
 refine gR 1 rfl <| gDs [] 8 8 rfl (by kernel_rfl) (by kernel_rfl) <| gDr [(0, 2), (1, 2), (2, 2)] (by kernel_rfl) rfl rfl ?_
 obtain ⟨i, hxs15_1, h⟩ := h
 refine gYd 3 rfl (by kernel_rfl) (aY (mapget (f := V.str) hxs15_1) aa rfl rfl rfl rfl) rfl rfl <| gDr [(4, 2), (5, 0)] (by kernel_rfl) rfl rfl ?_
 obtain ⟨j, hs93, h⟩ := h
 refine sU 6 hs93 (by kernel_rfl) rfl (by kernel_rfl) rfl rfl .rfl rfl rfl ?_
 obtain ⟨b, g, hs94, h⟩ := h
 refine gDCZ 7 hs94 [0, 1] rfl ⟨⟨_, rfl, ⟨rfl, rfl, (vJ _ a).symm⟩⟩, ⟨⟨_, rfl, ⟨rfl, ak.rfl⟩⟩, trivial⟩⟩ ?_
 refine gHR 3 (List.map (V.int .u8) b) rfl (vJ _ b) rfl <| gDe (by kernel_rfl) <| gR 1 rfl ?_
 obtain ⟨rfl, rfl⟩ := h
 exact go_sub (F' := (mkF 216 0 [])) (H' := ⟨2, [(1, .row 5 1 (List.map (V.int .u8) b)), (0, vE g)]⟩) [0, 3] [0] rfl hK trivial ⟨⟨_, rfl, rfl, rfl, (vJ _ b).symm⟩, (pqo1 rfl rfl)⟩ rfl <| go_endD [] aa (rs := []) rfl rfl ⟨rfl, rfl⟩
theorem mt (m : Nat) (b : List Int) (i : List UInt8) (p1 : Tree) (e : List Int) (j : List UInt8) (h : ∃ k, p1.leads[0]? = some k ∧ ∃ c l, am b i k [40] c l ∧ ∃ n, p1.kids[0]? = some n ∧ ∃ d o, aB c l n d o ∧ ∃ p, p1.leads[1]? = some p ∧ ∃ a g, am d o p [41] a g ∧ a = e ∧ g = j) : jk (m + 1) b i p1 e j := by
 intro K hK
 refine gR 5 rfl ?_
 obtain ⟨k, hxs16_1, h⟩ := h
 refine gY (aY (mapget (f := V.str) hxs16_1) aa rfl rfl rfl rfl) rfl rfl <| gR 1 rfl ?_
 obtain ⟨c, l, hs95, h⟩ := h
 refine gCZ hs95 [0, 1] ⟨⟨_, rfl, ⟨rfl, rfl, (vJ _ b).symm⟩⟩, ⟨⟨_, rfl, ⟨rfl, ak.rfl⟩⟩, trivial⟩⟩ ?_
 refine gHR 3 (List.map (V.int .u8) c) rfl (vJ _ c) rfl <| gR 7 rfl ?_
 obtain ⟨n, hxt16_4, h⟩ := h
 refine gY (aY (ae hxt16_4) aa rfl rfl rfl rfl) rfl rfl <| gR 1 rfl ?_
 obtain ⟨d, o, hs96, h⟩ := h
 refine gCZ hs96 [0, 3] ⟨⟨_, rfl, ⟨rfl, rfl, (vJ _ c).symm⟩⟩, ⟨⟨_, rfl, ⟨rfl, ak.rfl⟩⟩, trivial⟩⟩ ?_
 refine gHR 5 (List.map (V.int .u8) d) rfl (vJ _ d) rfl <| gR 6 rfl ?_
 obtain ⟨p, hxs16_7, h⟩ := h
 refine gY (aY (mapget (f := V.str) hxs16_7) aa rfl rfl rfl rfl) rfl rfl <| gR 1 rfl ?_
 obtain ⟨a, g, hs97, h⟩ := h
 refine gCZ hs97 [0, 5] ⟨⟨_, rfl, ⟨rfl, rfl, (vJ _ d).symm⟩⟩, ⟨⟨_, rfl, ⟨rfl, ak.rfl⟩⟩, trivial⟩⟩ ?_
 refine gHR 7 (List.map (V.int .u8) a) rfl (vJ _ a) rfl <| gR 2 rfl ?_
 obtain ⟨rfl, rfl⟩ := h
 exact go_sub (F' := (mkF 216 0 [])) (H' := ⟨2, [(1, .row 5 1 (List.map (V.int .u8) a)), (0, vE g)]⟩) [0, 7] [0] rfl hK trivial ⟨⟨_, rfl, rfl, rfl, (vJ _ a).symm⟩, (pqo1 rfl rfl)⟩ rfl <| go_endD [] aa (rs := []) rfl rfl ⟨rfl, rfl⟩
def hO (m : Nat) (a : List Int) (c : List UInt8) (p1 : Tree) (b : List Int) (d : List UInt8) : Prop := ∀ (K : Ctx), aR K [0] → qLG K Try.f61 (fun u G => u = .tup [] ∧ G = ⟨2, [(1, .row 5 1 (List.map (V.int .u8) b)), (0, vE d)]⟩) (xJ (xI (aj Try.f61))) [.blk 0] 161 (mkF 161 0 [(0, .ptr 0 0), (3, .box (ar p1) 0)]) ⟨2, [(1, .row 5 1 (List.map (V.int .u8) a)), (0, vE c)]⟩
def gM (m : Nat) (a : List Int) (c : List UInt8) (p1 : Tree) (b : List Int) (d : List UInt8) : Prop := ∀ (K : Ctx), aR K [0] → qLG K Try.f61 (fun u G => u = .tup [] ∧ G = ⟨2, [(1, .row 5 1 (List.map (V.int .u8) b)), (0, vE d)]⟩) (xB (xI (aj Try.f61))) [.blk 0] 161 (mkF 161 0 [(0, .ptr 0 0), (3, .box (ar p1) 0), (8, .int .i64 p1.kind)]) ⟨2, [(1, .row 5 1 (List.map (V.int .u8) a)), (0, vE c)]⟩
def cN (m : Nat) (p1 : Tree) (c : List Int) (d : List UInt8) (e : Nat) (a : List Int) (b : List UInt8) : Prop := ∀ (K : Ctx) (j1 : Nat), aR K [0] → m ≤ j1 → qLG K Try.f61 (fun u G => u = .tup [] ∧ G = ⟨2, [(1, .row 5 1 (List.map (V.int .u8) a)), (0, vE b)]⟩) (xL (xA (xJ (xI (aj Try.f61))))) [.loop (xL (xA (xJ (xI (aj Try.f61))))) j1, .blk 1, .seq (xF (xJ (xI (aj Try.f61)))), .blk 0] 161 (mkF 161 0 [(0, .ptr 0 0), (3, .box (ar p1) 0), (26, .row 4 (kidsV p1.kids)), (27, .int .i64 (p1.kids.length : Int)), (28, .int .i64 (e : Int))]) ⟨2, [(1, .row 5 1 (List.map (V.int .u8) c)), (0, vE d)]⟩
def gL (m : Nat) (a : List Int) (c : List UInt8) (p1 : Tree) (b : List Int) (d : List UInt8) : Prop := ∀ (K : Ctx), aR K [0] → qLG K Try.f61 (fun u G => u = .tup [] ∧ G = ⟨2, [(1, .row 5 1 (List.map (V.int .u8) b)), (0, vE d)]⟩) (xJ (xB (xI (aj Try.f61)))) [.blk 0] 161 (mkF 161 0 [(0, .ptr 0 0), (3, .box (ar p1) 0)]) ⟨2, [(1, .row 5 1 (List.map (V.int .u8) a)), (0, vE c)]⟩
def hG (m : Nat) (a : List Int) (c : List UInt8) (p1 : Tree) (b : List Int) (d : List UInt8) : Prop := ∀ (K : Ctx), aR K [0] → qLG K Try.f61 (fun u G => u = .tup [] ∧ G = ⟨2, [(1, .row 5 1 (List.map (V.int .u8) b)), (0, vE d)]⟩) (xD (xI (aj Try.f61))) [.blk 0] 161 (mkF 161 0 [(0, .ptr 0 0), (3, .box (ar p1) 0), (8, .int .i64 p1.kind)]) ⟨2, [(1, .row 5 1 (List.map (V.int .u8) a)), (0, vE c)]⟩
def gP (m : Nat) (a : List Int) (c : List UInt8) (p1 : Tree) (b : List Int) (d : List UInt8) : Prop := ∀ (K : Ctx), aR K [0] → qLG K Try.f61 (fun u G => u = .tup [] ∧ G = ⟨2, [(1, .row 5 1 (List.map (V.int .u8) b)), (0, vE d)]⟩) (xJ (xD (xI (aj Try.f61)))) [.blk 0] 161 (mkF 161 0 [(0, .ptr 0 0), (3, .box (ar p1) 0)]) ⟨2, [(1, .row 5 1 (List.map (V.int .u8) a)), (0, vE c)]⟩
def gO (m : Nat) (a : List Int) (c : List UInt8) (p1 : Tree) (b : List Int) (d : List UInt8) : Prop := ∀ (K : Ctx), aR K [0] → qLG K Try.f61 (fun u G => u = .tup [] ∧ G = ⟨2, [(1, .row 5 1 (List.map (V.int .u8) b)), (0, vE d)]⟩) (xD (xB (xI (aj Try.f61)))) [.blk 0] 161 (mkF 161 0 [(0, .ptr 0 0), (3, .box (ar p1) 0), (8, .int .i64 p1.kind)]) ⟨2, [(1, .row 5 1 (List.map (V.int .u8) a)), (0, vE c)]⟩
def hD (m : Nat) (a : List Int) (c : List UInt8) (p1 : Tree) (b : List Int) (d : List UInt8) : Prop := ∀ (K : Ctx), aR K [0] → qLG K Try.f61 (fun u G => u = .tup [] ∧ G = ⟨2, [(1, .row 5 1 (List.map (V.int .u8) b)), (0, vE d)]⟩) (xJ (xD (xB (xI (aj Try.f61))))) [.blk 0] 161 (mkF 161 0 [(0, .ptr 0 0), (3, .box (ar p1) 0)]) ⟨2, [(1, .row 5 1 (List.map (V.int .u8) a)), (0, vE c)]⟩
theorem dA (m : Nat) (a : List Int) (c : List UInt8) (p1 : Tree) (b : List Int) (d : List UInt8) (h : ((p1.kind = 1) → hO m a c p1 b d) ∧ ((p1.kind ≠ 1) → gM m a c p1 b d)) : fb a c p1 b d := by
 refine az 161 [0] Try.func61 rfl rfl rfl (bg rfl) fun K hK => ?_
 refine gR 3 rfl <| gFP 2 rfl rfl rfl rfl <| gR 15 rfl <| qBeZ 9 10 rfl rfl rfl rfl h (fun h => ?_) fun h => ?_
 exact gR 1 rfl <| gJ (h K hK) [0, 1] [0] rfl hK pq2 ⟨⟨_, rfl, rfl, rfl, (vJ _ a).symm⟩, (pqo1 rfl rfl)⟩ rfl
 exact gR 1 rfl <| gJ (h K hK) [0, 1] [0] rfl hK pq3 ⟨⟨_, rfl, rfl, rfl, (vJ _ a).symm⟩, (pqo1 rfl rfl)⟩ rfl
theorem kA (m : Nat) (a : List Int) (e : List UInt8) (p1 : Tree) (b : List Int) (g : List UInt8) (h : ∃ i, p1.leads[0]? = some i ∧ ∃ c j, am a e i [109, 111, 100, 117, 108, 101] c j ∧ ∃ k, p1.leads[1]? = some k ∧ ∃ d l, am c j k p1.text d l ∧ cN m p1 d l 0 b g) : hO (m + 1) a e p1 b g := by
 intro K hK
 refine gR 5 rfl ?_
 obtain ⟨i, hxs1_1, h⟩ := h
 refine gY (aY (mapget (f := V.str) hxs1_1) aa rfl rfl rfl rfl) rfl rfl <| gR 1 rfl ?_
 obtain ⟨c, j, hs45, h⟩ := h
 refine gCZ hs45 [0, 1] ⟨⟨_, rfl, ⟨rfl, rfl, (vJ _ a).symm⟩⟩, ⟨⟨_, rfl, ⟨rfl, ak.rfl⟩⟩, trivial⟩⟩ ?_
 refine gHR 3 (List.map (V.int .u8) c) rfl (vJ _ c) rfl <| gR 3 rfl <| gDs [] 8 8 rfl (by kernel_rfl) (by kernel_rfl) <| gDr [(0, 2), (1, 2), (2, 2)] (by kernel_rfl) rfl rfl ?_
 obtain ⟨k, hxs1_4, h⟩ := h
 refine gYd 3 rfl (by kernel_rfl) (aY (mapget (f := V.str) hxs1_4) aa rfl rfl rfl rfl) rfl rfl <| gDr [(4, 2), (5, 0), (6, 0)] (by kernel_rfl) rfl rfl ?_
 obtain ⟨d, l, hs46, h⟩ := h
 refine gDCZ 7 hs46 [0, 3] rfl ⟨⟨_, rfl, ⟨rfl, rfl, (vJ _ c).symm⟩⟩, ⟨⟨_, rfl, ⟨rfl, ak.rfl⟩⟩, trivial⟩⟩ ?_
 exact gHR 5 (List.map (V.int .u8) d) rfl (vJ _ d) rfl <| gDe (by kernel_rfl) <| gR 7 rfl <| gV 27 (.int .i64 (p1.kids.length : Int)) rfl (bC (av _)) rfl <| gLB 26 rfl (av _) fun hl47 => gR 4 rfl <| go_loop m <| gJ (h K _ hK (by omega)) [0, 5] [0] rfl hK pq5 ⟨⟨_, rfl, rfl, rfl, (vJ _ d).symm⟩, (pqo1 rfl rfl)⟩ rfl
theorem ev (m : Nat) (a : List Int) (c : List UInt8) (p1 : Tree) (b : List Int) (d : List UInt8) (h : ((p1.kind = 2) → gL m a c p1 b d) ∧ ((p1.kind ≠ 2) → hG m a c p1 b d)) : gM (m + 1) a c p1 b d := by
 intro K hK
 refine gR 6 rfl <| qBeZ 44 45 rfl rfl rfl rfl h (fun h => ?_) fun h => ?_
 exact gR 1 rfl <| gJ (h K hK) [0, 1] [0] rfl hK pq2 ⟨⟨_, rfl, rfl, rfl, (vJ _ a).symm⟩, (pqo1 rfl rfl)⟩ rfl
 exact gR 1 rfl <| gJ (h K hK) [0, 1] [0] rfl hK pq3 ⟨⟨_, rfl, rfl, rfl, (vJ _ a).symm⟩, (pqo1 rfl rfl)⟩ rfl
theorem gv (m : Nat) (p1 : Tree) (g : List Int) (k : List UInt8) (b : Nat) (a : List Int) (c : List UInt8) (h : ((b < p1.kids.length) → ∃ l, p1.kids[b]? = some l ∧ ∃ e n, aB g k l e n ∧ b + 1 ≤ 9223372036854775807 ∧ cN m p1 e n (b + 1) a c) ∧ ((¬ b < p1.kids.length) → ∃ o, p1.leads[2]? = some o ∧ ∃ p q d i, dr g k o p q d i ∧ d = a ∧ i = c)) : cN (m + 1) p1 g k b a c := by
 intro K j1 hK hj1
 obtain ⟨j1, rfl⟩ : ∃ j, j1 = j + 1 := ⟨j1 - 1, by omega⟩
 refine gR 6 rfl <| gB 29 rfl rfl rfl ?_ ?_ <;> intro hd
 replace hd := (nP hd)
 replace h := h.1 hd
 refine gR 7 rfl ?_
 obtain ⟨l, hxt3_1, h⟩ := h
 refine gY (aY (ae hxt3_1) aa rfl rfl rfl rfl) rfl rfl <| gR 8 rfl ?_
 obtain ⟨e, n, hs48, h⟩ := h
 refine gCZ hs48 [0, 1] ⟨⟨_, rfl, ⟨rfl, rfl, (vJ _ g).symm⟩⟩, ⟨⟨_, rfl, ⟨rfl, ak.rfl⟩⟩, trivial⟩⟩ ?_
 refine gHR 4 (List.map (V.int .u8) e) rfl (vJ _ e) rfl <| gR 4 rfl ?_
 obtain ⟨hb, h⟩ := h
 exact gR 1 rfl <| gV 35 (.int .i64 ((b + 1 : Nat) : Int)) rfl (cM (by omega) (by omega)) rfl <| gR 2 rfl <| go_xloop <| gJ (h K _ hK (by omega)) [0, 4] [0] rfl hK pq5 ⟨⟨_, rfl, rfl, rfl, (vJ _ e).symm⟩, (pqo1 rfl rfl)⟩ rfl
 replace hd := (og hd)
 replace h := h.2 hd
 refine gR 3 rfl <| go_xloopE <| gR 2 rfl <| gDs [] 8 8 rfl (by kernel_rfl) (by kernel_rfl) <| gDr [(0, 2), (1, 2), (2, 2), (3, 0), (4, 0)] (by kernel_rfl) rfl rfl ?_
 obtain ⟨o, hxs3_4, h⟩ := h
 refine cu 5 rfl (by kernel_rfl) (aY (mapget (f := V.str) hxs3_4) aa rfl rfl rfl rfl) rfl rfl ?_
 refine gDr [(6, 0)] (by kernel_rfl) rfl rfl ?_
 obtain ⟨p, q, d, i, hs49, h⟩ := h
 refine gDCZ 7 hs49 [0, 1] rfl ⟨⟨_, rfl, ⟨rfl, rfl, (vJ _ g).symm⟩⟩, ⟨⟨_, rfl, ⟨rfl, ak.rfl⟩⟩, trivial⟩⟩ ?_
 refine gHR 3 (List.map (V.int .u8) d) rfl (vJ _ d) rfl <| gDe (by kernel_rfl) <| gR 1 rfl ?_
 obtain ⟨rfl, rfl⟩ := h
 exact go_sub (F' := (mkF 161 0 [])) (H' := ⟨2, [(1, .row 5 1 (List.map (V.int .u8) d)), (0, vE i)]⟩) [0, 3] [0] rfl hK trivial ⟨⟨_, rfl, rfl, rfl, (vJ _ d).symm⟩, (pqo1 rfl rfl)⟩ rfl <| go_endD [] aa (rs := []) rfl rfl ⟨rfl, rfl⟩
theorem kD (m : Nat) (c : List Int) (t : List UInt8) (p1 : Tree) (k : List Int) (v : List UInt8) (h : ∃ ζ, p1.leads[0]? = some ζ ∧ ∃ l η, am c t ζ [100, 101, 102] l η ∧ ∃ θ, p1.leads[1]? = some θ ∧ ∃ n ι, am l η θ p1.text n ι ∧ ∃ κ, p1.leads[2]? = some κ ∧ ∃ o μ, am n ι κ [40] o μ ∧ ∃ j, ((p1.kids.length : Int) - 2) = ((j : Nat) : Int) ∧ j ≤ p1.kids.length ∧ ∃ d w, S_syntax_printer_list o μ p1 (p1.kids.take j) 6 d w ∧ ∃ x, p1.leads[3]? = some x ∧ ∃ e y, am d w x [41] e y ∧ ∃ z, p1.leads[4]? = some z ∧ ∃ a p, am e y z [58] a p ∧ ∃ q, ((p1.kids.length : Int) - 2) = ((q : Nat) : Int) ∧ ∃ α, p1.kids[q]? = some α ∧ ∃ g β, aB a p α g β ∧ ∃ γ, p1.leads[5]? = some γ ∧ ∃ i δ, am g β γ [61] i δ ∧ ∃ r, ((p1.kids.length : Int) - 1) = ((r : Nat) : Int) ∧ ∃ ε, p1.kids[r]? = some ε ∧ ∃ b s, aB i δ ε b s ∧ b = k ∧ s = v) : gL (m + 1) c t p1 k v := by
 intro K hK
 refine gR 5 rfl <| gV 48 (.int .i64 (p1.kids.length : Int)) rfl (bC (av _)) rfl <| gLB 47 rfl (av _) fun hl50 => gR 8 rfl ?_
 obtain ⟨ζ, hxs4_1, h⟩ := h
 refine gY (aY (mapget (f := V.str) hxs4_1) aa rfl rfl rfl rfl) rfl rfl <| gR 1 rfl ?_
 obtain ⟨l, η, hs51, h⟩ := h
 refine gCZ hs51 [0, 1] ⟨⟨_, rfl, ⟨rfl, rfl, (vJ _ c).symm⟩⟩, ⟨⟨_, rfl, ⟨rfl, ak.rfl⟩⟩, trivial⟩⟩ ?_
 refine gHR 3 (List.map (V.int .u8) l) rfl (vJ _ l) rfl <| gR 3 rfl <| gDs [] 8 8 rfl (by kernel_rfl) (by kernel_rfl) <| gDr [(0, 2), (1, 2), (2, 2)] (by kernel_rfl) rfl rfl ?_
 obtain ⟨θ, hxs4_4, h⟩ := h
 refine gYd 3 rfl (by kernel_rfl) (aY (mapget (f := V.str) hxs4_4) aa rfl rfl rfl rfl) rfl rfl <| gDr [(4, 2), (5, 0), (6, 0)] (by kernel_rfl) rfl rfl ?_
 obtain ⟨n, ι, hs52, h⟩ := h
 refine gDCZ 7 hs52 [0, 3] rfl ⟨⟨_, rfl, ⟨rfl, rfl, (vJ _ l).symm⟩⟩, ⟨⟨_, rfl, ⟨rfl, ak.rfl⟩⟩, trivial⟩⟩ ?_
 refine gHR 5 (List.map (V.int .u8) n) rfl (vJ _ n) rfl <| gDe (by kernel_rfl) <| gR 6 rfl ?_
 obtain ⟨κ, hxs4_7, h⟩ := h
 refine gY (aY (mapget (f := V.str) hxs4_7) aa rfl rfl rfl rfl) rfl rfl <| gR 1 rfl ?_
 obtain ⟨o, μ, hs53, h⟩ := h
 refine gCZ hs53 [0, 5] ⟨⟨_, rfl, ⟨rfl, rfl, (vJ _ n).symm⟩⟩, ⟨⟨_, rfl, ⟨rfl, ak.rfl⟩⟩, trivial⟩⟩ ?_
 refine gHR 7 (List.map (V.int .u8) o) rfl (vJ _ o) rfl <| gR 3 rfl <| gDs [] 8 8 rfl (by kernel_rfl) (by kernel_rfl) <| gDr [(0, 2), (1, 2), (2, 2), (3, 2), (4, 0), (5, 0)] (by kernel_rfl) rfl rfl <| gV 74 (.int .i64 ((p1.kids.length : Int) - 2)) rfl (cM (by have := hl50; omega) rfl) rfl ?_
 obtain ⟨j, ν, h⟩ := h
 refine gV 74 (.int .i64 ((j : Nat) : Int)) rfl (iF ν) rfl ?_
 obtain ⟨hb', h⟩ := h
 refine cu 6 rfl (by kernel_rfl) (An (av p1.kids) aa rfl rfl Ah (zr rfl) (Nat.zero_le _) hb' (((AZ _ _ _).trans (congrArg _ (xf _ _))))) rfl rfl ?_
 obtain ⟨d, w, hs54, h⟩ := h
 refine gDCZ 7 hs54 [0, 7] rfl ⟨⟨_, rfl, ⟨rfl, rfl, (vJ _ o).symm⟩⟩, ⟨⟨_, rfl, ⟨rfl, ak.rfl⟩⟩, trivial⟩⟩ ?_
 refine gHR 9 (List.map (V.int .u8) d) rfl (vJ _ d) rfl <| gDe (by kernel_rfl) <| gR 6 rfl ?_
 obtain ⟨x, hxs4_13, h⟩ := h
 refine gY (aY (mapget (f := V.str) hxs4_13) aa rfl rfl rfl rfl) rfl rfl <| gR 1 rfl ?_
 obtain ⟨e, y, hs55, h⟩ := h
 refine gCZ hs55 [0, 9] ⟨⟨_, rfl, ⟨rfl, rfl, (vJ _ d).symm⟩⟩, ⟨⟨_, rfl, ⟨rfl, ak.rfl⟩⟩, trivial⟩⟩ ?_
 refine gHR 11 (List.map (V.int .u8) e) rfl (vJ _ e) rfl <| gR 7 rfl ?_
 obtain ⟨z, hxs4_16, h⟩ := h
 refine gY (aY (mapget (f := V.str) hxs4_16) aa rfl rfl rfl rfl) rfl rfl <| gR 1 rfl ?_
 obtain ⟨a, p, hs56, h⟩ := h
 refine gCZ hs56 [0, 11] ⟨⟨_, rfl, ⟨rfl, rfl, (vJ _ e).symm⟩⟩, ⟨⟨_, rfl, ⟨rfl, ak.rfl⟩⟩, trivial⟩⟩ ?_
 refine gHR 13 (List.map (V.int .u8) a) rfl (vJ _ a) rfl <| gR 2 rfl <| go_sub (F' := (mkF 161 0 [(0, .ptr 0 0), (3, .box (ar p1) 0), (6, .int .i64 (p1.kids.length : Int))])) (H' := ⟨2, [(1, .row 5 1 (List.map (V.int .u8) a)), (0, vE p)]⟩) [0, 13] [0] rfl hK pq3 ⟨⟨_, rfl, rfl, rfl, (vJ _ a).symm⟩, (pqo1 rfl rfl)⟩ rfl <| gR 7 rfl <| gV 93 (.int .i64 ((p1.kids.length : Int) - 2)) rfl (cM (by have := hl50; omega) rfl) rfl ?_
 obtain ⟨q, ξ, h⟩ := h
 refine gV 93 (.int .i64 ((q : Nat) : Int)) rfl (iF ξ) rfl ?_
 obtain ⟨α, hxt4_20, h⟩ := h
 refine gY (aY (ae hxt4_20) aa rfl rfl rfl rfl) rfl rfl <| gR 1 rfl ?_
 obtain ⟨g, β, hs57, h⟩ := h
 refine gCZ hs57 [0, 1] ⟨⟨_, rfl, ⟨rfl, rfl, (vJ _ a).symm⟩⟩, ⟨⟨_, rfl, ⟨rfl, ak.rfl⟩⟩, trivial⟩⟩ ?_
 refine gHR 3 (List.map (V.int .u8) g) rfl (vJ _ g) rfl <| gR 7 rfl ?_
 obtain ⟨γ, hxs4_23, h⟩ := h
 refine gY (aY (mapget (f := V.str) hxs4_23) aa rfl rfl rfl rfl) rfl rfl <| gR 1 rfl ?_
 obtain ⟨i, δ, hs58, h⟩ := h
 refine gCZ hs58 [0, 3] ⟨⟨_, rfl, ⟨rfl, rfl, (vJ _ g).symm⟩⟩, ⟨⟨_, rfl, ⟨rfl, ak.rfl⟩⟩, trivial⟩⟩ ?_
 refine gHR 5 (List.map (V.int .u8) i) rfl (vJ _ i) rfl <| gR 8 rfl <| gV 107 (.int .i64 ((p1.kids.length : Int) - 1)) rfl (cM (by have := hl50; omega) rfl) rfl ?_
 obtain ⟨r, ο, h⟩ := h
 refine gV 107 (.int .i64 ((r : Nat) : Int)) rfl (iF ο) rfl ?_
 obtain ⟨ε, hxt4_27, h⟩ := h
 refine gY (aY (ae hxt4_27) aa rfl rfl rfl rfl) rfl rfl <| gR 1 rfl ?_
 obtain ⟨b, s, hs59, h⟩ := h
 refine gCZ hs59 [0, 5] ⟨⟨_, rfl, ⟨rfl, rfl, (vJ _ i).symm⟩⟩, ⟨⟨_, rfl, ⟨rfl, ak.rfl⟩⟩, trivial⟩⟩ ?_
 refine gHR 7 (List.map (V.int .u8) b) rfl (vJ _ b) rfl <| gR 2 rfl ?_
 obtain ⟨rfl, rfl⟩ := h
 exact go_sub (F' := (mkF 161 0 [])) (H' := ⟨2, [(1, .row 5 1 (List.map (V.int .u8) b)), (0, vE s)]⟩) [0, 7] [0] rfl hK trivial ⟨⟨_, rfl, rfl, rfl, (vJ _ b).symm⟩, (pqo1 rfl rfl)⟩ rfl <| go_endD [] aa (rs := []) rfl rfl ⟨rfl, rfl⟩
theorem gw (m : Nat) (a : List Int) (c : List UInt8) (p1 : Tree) (b : List Int) (d : List UInt8) (h : ((p1.kind = 3) → gP m a c p1 b d) ∧ ((p1.kind ≠ 3) → gO m a c p1 b d)) : hG (m + 1) a c p1 b d := by
 intro K hK
 refine gR 6 rfl <| qBeZ 111 112 rfl rfl rfl rfl h (fun h => ?_) fun h => ?_
 exact gR 1 rfl <| gJ (h K hK) [0, 1] [0] rfl hK pq2 ⟨⟨_, rfl, rfl, rfl, (vJ _ a).symm⟩, (pqo1 rfl rfl)⟩ rfl
 exact gR 1 rfl <| gJ (h K hK) [0, 1] [0] rfl hK pq3 ⟨⟨_, rfl, rfl, rfl, (vJ _ a).symm⟩, (pqo1 rfl rfl)⟩ rfl
theorem kB (m : Nat) (b : List Int) (j : List UInt8) (p1 : Tree) (c : List Int) (k : List UInt8) (h : ∃ n, p1.leads[0]? = some n ∧ ∃ d o, am b j n [116, 121, 112, 101] d o ∧ ∃ p, p1.leads[1]? = some p ∧ ∃ e q, am d o p p1.text e q ∧ ∃ r, p1.leads[2]? = some r ∧ ∃ g s, am e q r [61] g s ∧ ∃ l, p1.kids[0]? = some l ∧ ∃ a i, aB g s l a i ∧ a = c ∧ i = k) : gP (m + 1) b j p1 c k := by
 intro K hK
 refine gR 5 rfl ?_
 obtain ⟨n, hxs6_1, h⟩ := h
 refine gY (aY (mapget (f := V.str) hxs6_1) aa rfl rfl rfl rfl) rfl rfl <| gR 1 rfl ?_
 obtain ⟨d, o, hs60, h⟩ := h
 refine gCZ hs60 [0, 1] ⟨⟨_, rfl, ⟨rfl, rfl, (vJ _ b).symm⟩⟩, ⟨⟨_, rfl, ⟨rfl, ak.rfl⟩⟩, trivial⟩⟩ ?_
 refine gHR 3 (List.map (V.int .u8) d) rfl (vJ _ d) rfl <| gR 3 rfl <| gDs [] 8 8 rfl (by kernel_rfl) (by kernel_rfl) <| gDr [(0, 2), (1, 2), (2, 2)] (by kernel_rfl) rfl rfl ?_
 obtain ⟨p, hxs6_4, h⟩ := h
 refine gYd 3 rfl (by kernel_rfl) (aY (mapget (f := V.str) hxs6_4) aa rfl rfl rfl rfl) rfl rfl <| gDr [(4, 2), (5, 0), (6, 0)] (by kernel_rfl) rfl rfl ?_
 obtain ⟨e, q, hs61, h⟩ := h
 refine gDCZ 7 hs61 [0, 3] rfl ⟨⟨_, rfl, ⟨rfl, rfl, (vJ _ d).symm⟩⟩, ⟨⟨_, rfl, ⟨rfl, ak.rfl⟩⟩, trivial⟩⟩ ?_
 refine gHR 5 (List.map (V.int .u8) e) rfl (vJ _ e) rfl <| gDe (by kernel_rfl) <| gR 6 rfl ?_
 obtain ⟨r, hxs6_7, h⟩ := h
 refine gY (aY (mapget (f := V.str) hxs6_7) aa rfl rfl rfl rfl) rfl rfl <| gR 1 rfl ?_
 obtain ⟨g, s, hs62, h⟩ := h
 refine gCZ hs62 [0, 5] ⟨⟨_, rfl, ⟨rfl, rfl, (vJ _ e).symm⟩⟩, ⟨⟨_, rfl, ⟨rfl, ak.rfl⟩⟩, trivial⟩⟩ ?_
 refine gHR 7 (List.map (V.int .u8) g) rfl (vJ _ g) rfl <| gR 6 rfl ?_
 obtain ⟨l, hxt6_10, h⟩ := h
 refine gY (aY (ae hxt6_10) aa rfl rfl rfl rfl) rfl rfl <| gR 1 rfl ?_
 obtain ⟨a, i, hs63, h⟩ := h
 refine gCZ hs63 [0, 7] ⟨⟨_, rfl, ⟨rfl, rfl, (vJ _ g).symm⟩⟩, ⟨⟨_, rfl, ⟨rfl, ak.rfl⟩⟩, trivial⟩⟩ ?_
 refine gHR 9 (List.map (V.int .u8) a) rfl (vJ _ a) rfl <| gR 2 rfl ?_
 obtain ⟨rfl, rfl⟩ := h
 exact go_sub (F' := (mkF 161 0 [])) (H' := ⟨2, [(1, .row 5 1 (List.map (V.int .u8) a)), (0, vE i)]⟩) [0, 9] [0] rfl hK trivial ⟨⟨_, rfl, rfl, rfl, (vJ _ a).symm⟩, (pqo1 rfl rfl)⟩ rfl <| go_endD [] aa (rs := []) rfl rfl ⟨rfl, rfl⟩
theorem ky (m : Nat) (a : List Int) (b : List UInt8) (p1 : Tree) (c : List Int) (d : List UInt8) (h : ((p1.kind = 4) → hD m a b p1 c d) ∧ ((p1.kind ≠ 4) → a = c ∧ b = d)) : gO (m + 1) a b p1 c d := by
 intro K hK
 refine gR 6 rfl <| qBeZ 139 140 rfl rfl rfl rfl h (fun h => ?_) fun h => ?_
 exact gR 1 rfl <| gJ (h K hK) [0, 1] [0] rfl hK pq2 ⟨⟨_, rfl, rfl, rfl, (vJ _ a).symm⟩, (pqo1 rfl rfl)⟩ rfl
 refine gR 3 rfl ?_
 obtain ⟨rfl, rfl⟩ := h
 exact go_sub (F' := (mkF 161 0 [])) (H' := ⟨2, [(1, .row 5 1 (List.map (V.int .u8) a)), (0, vE b)]⟩) [0, 1] [0] rfl hK trivial ⟨⟨_, rfl, rfl, rfl, (vJ _ a).symm⟩, (pqo1 rfl rfl)⟩ rfl <| go_endD [] aa (rs := []) rfl rfl ⟨rfl, rfl⟩
theorem kC (m : Nat) (a : List Int) (g : List UInt8) (p1 : Tree) (c : List Int) (i : List UInt8) (h : ∃ k, p1.leads[0]? = some k ∧ ∃ d l, am a g k p1.text d l ∧ ∃ n, p1.leads[1]? = some n ∧ ∃ e o, am d l n [58] e o ∧ ∃ p, p1.kids[0]? = some p ∧ ∃ b j, aB e o p b j ∧ b = c ∧ j = i) : hD (m + 1) a g p1 c i := by
 intro K hK
 refine gR 1 rfl <| gDs [] 8 8 rfl (by kernel_rfl) (by kernel_rfl) <| gDr [(0, 2), (1, 2), (2, 2)] (by kernel_rfl) rfl rfl ?_
 obtain ⟨k, hxs8_1, h⟩ := h
 refine gYd 3 rfl (by kernel_rfl) (aY (mapget (f := V.str) hxs8_1) aa rfl rfl rfl rfl) rfl rfl <| gDr [(4, 2), (5, 0), (6, 0)] (by kernel_rfl) rfl rfl ?_
 obtain ⟨d, l, hs64, h⟩ := h
 refine gDCZ 7 hs64 [0, 1] rfl ⟨⟨_, rfl, ⟨rfl, rfl, (vJ _ a).symm⟩⟩, ⟨⟨_, rfl, ⟨rfl, ak.rfl⟩⟩, trivial⟩⟩ ?_
 refine gHR 3 (List.map (V.int .u8) d) rfl (vJ _ d) rfl <| gDe (by kernel_rfl) <| gR 6 rfl ?_
 obtain ⟨n, hxs8_4, h⟩ := h
 refine gY (aY (mapget (f := V.str) hxs8_4) aa rfl rfl rfl rfl) rfl rfl <| gR 1 rfl ?_
 obtain ⟨e, o, hs65, h⟩ := h
 refine gCZ hs65 [0, 3] ⟨⟨_, rfl, ⟨rfl, rfl, (vJ _ d).symm⟩⟩, ⟨⟨_, rfl, ⟨rfl, ak.rfl⟩⟩, trivial⟩⟩ ?_
 refine gHR 5 (List.map (V.int .u8) e) rfl (vJ _ e) rfl <| gR 6 rfl ?_
 obtain ⟨p, hxt8_7, h⟩ := h
 refine gY (aY (ae hxt8_7) aa rfl rfl rfl rfl) rfl rfl <| gR 1 rfl ?_
 obtain ⟨b, j, hs66, h⟩ := h
 refine gCZ hs66 [0, 5] ⟨⟨_, rfl, ⟨rfl, rfl, (vJ _ e).symm⟩⟩, ⟨⟨_, rfl, ⟨rfl, ak.rfl⟩⟩, trivial⟩⟩ ?_
 refine gHR 7 (List.map (V.int .u8) b) rfl (vJ _ b) rfl <| gR 2 rfl ?_
 obtain ⟨rfl, rfl⟩ := h
 exact go_sub (F' := (mkF 161 0 [])) (H' := ⟨2, [(1, .row 5 1 (List.map (V.int .u8) b)), (0, vE j)]⟩) [0, 7] [0] rfl hK trivial ⟨⟨_, rfl, rfl, rfl, (vJ _ b).symm⟩, (pqo1 rfl rfl)⟩ rfl <| go_endD [] aa (rs := []) rfl rfl ⟨rfl, rfl⟩
theorem ri (m : Nat) (p0 : Tree) (r0 : List UInt8) (h : ∃ a b, aB ([] : List Int) [] p0 a b ∧ ∃ c, iZ a b c ∧ c = r0) : lI p0 r0 := by
 refine ⟨rfl, rfl, ?_⟩
 refine az 8 [] Try.func18 rfl rfl rfl (bg rfl) fun K hK => ?_
 refine gR 3 rfl <| gFP 0 rfl rfl rfl rfl <| gR 11 rfl <| gNC 1 1 5 1 rfl rfl rfl rfl ?_
 obtain ⟨a, b, hs3, h⟩ := h
 refine gCZ hs3 [1, 2] ⟨⟨_, rfl, ⟨rfl, rfl, rfl⟩⟩, ⟨⟨_, rfl, ⟨rfl, (.cons (.np0 _) (.cons .rfl (.cons .rfl .nil)))⟩⟩, trivial⟩⟩ ?_
 refine gHR 4 (List.map (V.int .u8) a) rfl (vJ _ a) rfl <| gR 5 rfl ?_
 obtain ⟨c, hs4, h⟩ := h
 refine gCZ hs4 [1, 4] ⟨⟨_, rfl, ⟨rfl, rfl, (vJ _ a).symm⟩⟩, ⟨⟨_, rfl, ⟨rfl, ak.rfl⟩⟩, trivial⟩⟩ ?_
 refine gR 4 rfl ?_
 subst h
 exact go_end aa (rs := [.tmp 2]) rfl rfl rfl
def mo (p0 : List UInt8) (p1 r0 : Bool) : Prop := qS 37 [.str p0, .bool p1] (.bool r0)
def iN (p0 : Tree) (r0 : Bool) : Prop := qS 17 [.agg (ar p0)] (.bool r0)
def kL (p0 : Tree) (r0 : List UInt8) : Prop := qS 8 [.agg (ar p0)] (.str r0)
def eN (m : Nat) (p0 : Tree) (a : Nat) (r0 : Bool) : Prop := ∀ (K : Ctx) (j1 : Nat), aR K [] → m ≤ j1 → qLG K Try.f17 (fun u _ => u = .bool r0) (xL (xA (aj Try.f17))) [.loop (xL (xA (aj Try.f17))) j1, .blk 0, .seq (xF (aj Try.f17))] 47 (mkF 47 0 [(1, .box (ar p0) 0), (18, .row 1 (List.map V.str p0.leads)), (19, .int .i64 (p0.leads.length : Int)), (20, .int .i64 (a : Int))]) ⟨0, []⟩
def fV (m : Nat) (p0 : Tree) (a : Nat) (r0 : Bool) : Prop := ∀ (K : Ctx) (j1 : Nat), aR K [] → m ≤ j1 → qLG K Try.f17 (fun u _ => u = .bool r0) (xL (xF (aj Try.f17))) [.loop (xL (xF (aj Try.f17))) j1, .blk 2, .seq (xC (aj Try.f17))] 47 (mkF 47 0 [(37, .row 4 (kidsV p0.kids)), (38, .int .i64 (p0.kids.length : Int)), (39, .int .i64 (a : Int))]) ⟨0, []⟩
theorem mb (m : Nat) (p0 : Tree) (r0 : Bool) (h : ∃ a, fJ p0.kind (p0.kids.length : Int) a ∧ (((p0.leads.length : Int) ≠ a) → false = r0) ∧ (((p0.leads.length : Int) = a) → eN m p0 0 r0)) : iN p0 r0 := by
 refine ⟨rfl, rfl, ?_⟩
 refine az 47 [] Try.func17 rfl rfl rfl (bg rfl) fun K hK => ?_
 refine gR 3 rfl <| gFP 0 rfl rfl rfl rfl <| gR 5 rfl <| gDs [] 10 10 rfl (by kernel_rfl) (by kernel_rfl) <| gDr [(0, 2), (1, 2), (2, 2)] (by kernel_rfl) rfl rfl <| gV 9 (.int .i64 (p0.leads.length : Int)) rfl (bC (cQ V.str _)) rfl <| gLB 8 rfl (cQ V.str _) fun hl33 => gDr [(3, 2), (4, 2), (5, 0), (6, 0), (7, 0)] (by kernel_rfl) rfl rfl <| gV 14 (.int .i64 (p0.kids.length : Int)) rfl (bC (av _)) rfl <| gLB 13 rfl (av _) fun hl34 => ?_
 obtain ⟨a, hs35, h⟩ := h
 refine sU 8 hs35 (by kernel_rfl) rfl (by kernel_rfl) rfl rfl .rfl rfl rfl ?_
 refine gDr [(9, 0)] (by kernel_rfl) rfl rfl <| gDe (by kernel_rfl) <| gR 1 rfl <| gB 16 rfl rfl rfl ?_ ?_ <;> intro hd
 replace hd := (fB hd)
 replace h := h.1 hd
 refine gR 8 rfl ?_
 subst h
 exact go_end aa (rs := [.tmp 2]) rfl rfl rfl
 replace hd := (dY hd)
 replace h := h.2 hd
 exact gR 9 rfl <| gV 19 (.int .i64 (p0.leads.length : Int)) rfl (bC (cQ V.str _)) rfl <| gR 4 rfl <| go_loop m <| gJ (h K _ hK (by omega)) [] [] rfl hK pq4 trivial rfl
theorem jr (m : Nat) (p0 : Tree) (a : Nat) (r0 : Bool) (h : ((a < p0.leads.length) → ∃ b, p0.leads[a]? = some b ∧ ((p0.kind = 1) → ∃ c, mo b ((a : Int) == 2) c ∧ ((c = false) → false = r0) ∧ ((c = true) → a + 1 ≤ 9223372036854775807 ∧ eN m p0 (a + 1) r0)) ∧ ((p0.kind ≠ 1) → ∃ d, mo b false d ∧ ((d = false) → false = r0) ∧ ((d = true) → a + 1 ≤ 9223372036854775807 ∧ eN m p0 (a + 1) r0))) ∧ ((¬ a < p0.leads.length) → fV m p0 0 r0)) : eN (m + 1) p0 a r0 := by
 intro K j1 hK hj1
 obtain ⟨j1, rfl⟩ : ∃ j, j1 = j + 1 := ⟨j1 - 1, by omega⟩
 refine gR 6 rfl <| gB 21 rfl rfl rfl ?_ ?_ <;> intro hd
 replace hd := (nP hd)
 replace h := h.1 hd
 refine gR 8 rfl ?_
 obtain ⟨b, hxs1_1, h⟩ := h
 refine gY (aY (mapget (f := V.str) hxs1_1) aa rfl rfl rfl rfl) rfl rfl <| gR 12 rfl <| gB 29 rfl rfl rfl ?_ ?_ <;> intro hd
 refine gT 28 rfl hd rfl ?_
 replace hd := (eq_of_beq hd)
 replace h := h.1 hd
 refine gR 3 rfl ?_
 obtain ⟨c, hs36, h⟩ := h
 refine gC0 hs36 (by kernel_rfl) rfl rfl .rfl rfl <| gR 3 rfl <| gB 34 rfl rfl rfl ?_ ?_ <;> intro hd
 replace hd := (iQ hd)
 replace h := h.1 hd
 refine gR 9 rfl <| go_xloopR <| gR 2 rfl ?_
 subst h
 exact go_end aa (rs := [.tmp 2]) rfl rfl rfl
 replace hd := (iO hd)
 replace h := h.2 hd
 refine gR 5 rfl ?_
 obtain ⟨hb, h⟩ := h
 exact gR 1 rfl <| gV 35 (.int .i64 ((a + 1 : Nat) : Int)) rfl (cM (by omega) (by omega)) rfl <| gR 2 rfl <| go_xloop <| gJ (h K _ hK (by omega)) [] [] rfl hK pq4 trivial rfl
 refine gF 28 rfl hd rfl ?_
 replace hd := (ne_of_beq_false hd)
 replace h := h.2 hd
 refine gR 3 rfl ?_
 obtain ⟨d, hs37, h⟩ := h
 refine gC0 hs37 (by kernel_rfl) rfl rfl .rfl rfl <| gR 3 rfl <| gB 34 rfl rfl rfl ?_ ?_ <;> intro hd
 replace hd := (iQ hd)
 replace h := h.1 hd
 refine gR 9 rfl <| go_xloopR <| gR 2 rfl ?_
 subst h
 exact go_end aa (rs := [.tmp 2]) rfl rfl rfl
 replace hd := (iO hd)
 replace h := h.2 hd
 refine gR 5 rfl ?_
 obtain ⟨hb, h⟩ := h
 exact gR 1 rfl <| gV 35 (.int .i64 ((a + 1 : Nat) : Int)) rfl (cM (by omega) (by omega)) rfl <| gR 2 rfl <| go_xloop <| gJ (h K _ hK (by omega)) [] [] rfl hK pq4 trivial rfl
 replace hd := (og hd)
 replace h := h.2 hd
 exact gR 3 rfl <| go_xloopE <| gR 8 rfl <| gV 38 (.int .i64 (p0.kids.length : Int)) rfl (bC (av _)) rfl <| gLB 37 rfl (av _) fun hl38 => gR 4 rfl <| go_loop m <| gJ (h K _ hK (by omega)) [] [] rfl hK pq3 trivial rfl
theorem lP (m : Nat) (p0 : Tree) (a : Nat) (r0 : Bool) (h : ((a < p0.kids.length) → ∃ c, p0.kids[a]? = some c ∧ ∃ b, iN c b ∧ ((b = false) → false = r0) ∧ ((b = true) → a + 1 ≤ 9223372036854775807 ∧ fV m p0 (a + 1) r0)) ∧ ((¬ a < p0.kids.length) → true = r0)) : fV (m + 1) p0 a r0 := by
 intro K j1 hK hj1
 obtain ⟨j1, rfl⟩ : ∃ j, j1 = j + 1 := ⟨j1 - 1, by omega⟩
 refine gR 6 rfl <| gB 40 rfl rfl rfl ?_ ?_ <;> intro hd
 replace hd := (nP hd)
 replace h := h.1 hd
 refine gR 7 rfl ?_
 obtain ⟨c, hxt2_1, h⟩ := h
 refine gY (aY (ae hxt2_1) aa rfl rfl rfl rfl) rfl rfl <| gR 8 rfl ?_
 obtain ⟨b, hs39, h⟩ := h
 refine gC0 hs39 (by kernel_rfl) rfl rfl .rfl rfl <| gR 3 rfl <| gB 45 rfl rfl rfl ?_ ?_ <;> intro hd
 replace hd := (iQ hd)
 replace h := h.1 hd
 refine gR 9 rfl <| go_xloopR <| gR 2 rfl ?_
 subst h
 exact go_end aa (rs := [.tmp 2]) rfl rfl rfl
 replace hd := (iO hd)
 replace h := h.2 hd
 refine gR 5 rfl ?_
 obtain ⟨hb, h⟩ := h
 exact gR 1 rfl <| gV 46 (.int .i64 ((a + 1 : Nat) : Int)) rfl (cM (by omega) (by omega)) rfl <| gR 2 rfl <| go_xloop <| gJ (h K _ hK (by omega)) [] [] rfl hK pq3 trivial rfl
 replace hd := (og hd)
 replace h := h.2 hd
 refine gR 3 rfl <| go_xloopE <| gR 8 rfl ?_
 subst h
 exact go_end aa (rs := [.tmp 2]) rfl rfl rfl
theorem qw (m : Nat) (p0 : Tree) (r0 : List UInt8) (h : ∃ a, iM p0 a ∧ ((a = false) → [] = r0) ∧ ((a = true) → ∃ b, iN p0 b ∧ ((b = false) → [] = r0) ∧ ((b = true) → ∃ c, lI p0 c ∧ c = r0))) : kL p0 r0 := by
 refine ⟨rfl, rfl, ?_⟩
 refine az 13 [] Try.func8 rfl rfl rfl (bg rfl) fun K hK => ?_
 refine gR 3 rfl <| gFP 0 rfl rfl rfl rfl <| gR 7 rfl ?_
 obtain ⟨a, hs4, h⟩ := h
 refine gC0 hs4 (by kernel_rfl) rfl rfl .rfl rfl <| gR 2 rfl <| qBhZ 6 5 rfl rfl rfl rfl h iQ iO (fun h => ?_) fun h => ?_
 refine gR 14 rfl ?_
 subst h
 exact go_end aa (rs := [.tmp 2]) rfl rfl rfl
 refine gR 1 rfl ?_
 obtain ⟨b, hs5, h⟩ := h
 refine gC0 hs5 (by kernel_rfl) rfl rfl .rfl rfl <| gR 4 rfl <| qBh 10 rfl rfl rfl h iQ iO (fun h => ?_) fun h => ?_
 refine gR 8 rfl ?_
 subst h
 exact go_end aa (rs := [.tmp 2]) rfl rfl rfl
 refine gR 6 rfl ?_
 obtain ⟨c, hs6, h⟩ := h
 refine gC0 hs6 (by kernel_rfl) rfl rfl .rfl rfl <| gR 4 rfl ?_
 subst h
 exact go_end aa (rs := [.tmp 2]) rfl rfl rfl
def gh (p0 p1 : Tree) (r0 : Bool) : Prop := qS 7 [.agg (ar p0), .agg (ar p1)] (.bool r0)
def fY (r0 : Bool) : Prop := qS 4 [] (.bool r0)
def it (p0 : List UInt8) (r0 : Bool) : Prop := qS 3 [.str p0] (.bool r0)
def eG (m : Nat) (p0 p1 : Tree) (a : Nat) (r0 : Bool) : Prop := ∀ (K : Ctx) (j1 : Nat), aR K [] → m ≤ j1 → qLG K Try.f7 (fun u _ => u = .bool r0) (xL (xA (aj Try.f7))) [.loop (xL (xA (aj Try.f7))) j1, .blk 0, .seq (xF (aj Try.f7))] 74 (mkF 74 0 [(2, .box (ar p0) 0), (3, .box (ar p1) 0), (5, .int .i64 (a : Int))]) ⟨0, []⟩
def ga (m : Nat) (p0 p1 : Tree) (a : Nat) (r0 : Bool) : Prop := ∀ (K : Ctx) (j1 : Nat), aR K [] → m ≤ j1 → qLG K Try.f7 (fun u _ => u = .bool r0) (xL (xF (aj Try.f7))) [.loop (xL (xF (aj Try.f7))) j1, .blk 2, .seq (xC (aj Try.f7))] 74 (mkF 74 0 [(2, .box (ar p0) 0), (3, .box (ar p1) 0), (6, .int .i64 (a : Int))]) ⟨0, []⟩
theorem oq (m : Nat) (p0 p1 : Tree) (r0 : Bool) (h : ((p0.kind ≠ p1.kind) → false = r0) ∧ ((p0.kind = p1.kind) → ((p0.text ≠ p1.text) → false = r0) ∧ ((p0.text = p1.text) → ((p0.leads.length ≠ p1.leads.length) → false = r0) ∧ ((p0.leads.length = p1.leads.length) → ((p0.kids.length ≠ p1.kids.length) → false = r0) ∧ ((p0.kids.length = p1.kids.length) → eG m p0 p1 0 r0))))) : gh p0 p1 r0 := by
 refine ⟨rfl, rfl, ?_⟩
 refine az 74 [] Try.func7 rfl rfl rfl (bg rfl) fun K hK => ?_
 refine gR 3 rfl <| gFP 0 rfl rfl rfl rfl <| gR 1 rfl <| gFP 1 rfl rfl rfl rfl <| gR 12 rfl <| gB 12 rfl rfl rfl ?_ ?_ <;> intro hd
 refine gT 11 rfl hd rfl ?_
 replace hd := (fB hd)
 replace h := h.1 hd
 refine gR 34 rfl ?_
 subst h
 exact go_end aa (rs := [.tmp 4]) rfl rfl rfl
 refine gF 11 rfl hd rfl ?_
 replace hd := (dY hd)
 replace h := h.2 hd
 refine gR 7 rfl <| gB 19 rfl rfl rfl ?_ ?_ <;> intro hd
 refine gT 18 rfl hd rfl ?_
 replace hd := (fB hd)
 replace h := h.1 hd
 refine gR 27 rfl ?_
 subst h
 exact go_end aa (rs := [.tmp 4]) rfl rfl rfl
 refine gF 18 rfl hd rfl ?_
 replace hd := (dY hd)
 replace h := h.2 hd
 refine gR 3 rfl <| gV 22 (.int .i64 (p0.leads.length : Int)) rfl (bC (cQ V.str _)) rfl <| gLB 21 rfl (cQ V.str _) fun hl15 => gR 3 rfl <| gV 25 (.int .i64 (p1.leads.length : Int)) rfl (bC (cQ V.str _)) rfl <| gLB 24 rfl (cQ V.str _) fun hl16 => gR 3 rfl <| gB 28 rfl rfl rfl ?_ ?_ <;> intro hd
 refine gT 27 rfl hd rfl ?_
 replace hd := (zL hd)
 replace h := h.1 hd
 refine gR 18 rfl ?_
 subst h
 exact go_end aa (rs := [.tmp 4]) rfl rfl rfl
 refine gF 27 rfl hd rfl ?_
 replace hd := (Aj hd)
 replace h := h.2 hd
 refine gR 3 rfl <| gV 31 (.int .i64 (p0.kids.length : Int)) rfl (bC (av _)) rfl <| gLB 30 rfl (av _) fun hl17 => gR 3 rfl <| gV 34 (.int .i64 (p1.kids.length : Int)) rfl (bC (av _)) rfl <| gLB 33 rfl (av _) fun hl18 => gR 4 rfl <| gB 36 rfl rfl rfl ?_ ?_ <;> intro hd
 replace hd := (zL hd)
 replace h := h.1 hd
 refine gR 8 rfl ?_
 subst h
 exact go_end aa (rs := [.tmp 4]) rfl rfl rfl
 replace hd := (Aj hd)
 replace h := h.2 hd
 exact gR 10 rfl <| go_loop m <| gJ (h K _ hK (by omega)) [] [] rfl hK pq3 trivial rfl
theorem ku (m : Nat) (p0 p1 : Tree) (a : Nat) (r0 : Bool) (h : ((a < p0.leads.length) → ∃ b, p0.leads[a]? = some b ∧ ∃ c, p1.leads[a]? = some c ∧ ((b ≠ c) → false = r0) ∧ ((b = c) → eG m p0 p1 (a + 1) r0)) ∧ ((¬ a < p0.leads.length) → ga m p0 p1 0 r0)) : eG (m + 1) p0 p1 a r0 := by
 intro K j1 hK hj1
 obtain ⟨j1, rfl⟩ : ∃ j, j1 = j + 1 := ⟨j1 - 1, by omega⟩
 refine gR 7 rfl <| gV 40 (.int .i64 (p0.leads.length : Int)) rfl (bC (cQ V.str _)) rfl <| gLB 39 rfl (cQ V.str _) fun hl19 => gR 3 rfl <| gB 41 rfl rfl rfl ?_ ?_ <;> intro hd
 replace hd := (nP hd)
 replace h := h.1 hd
 refine gR 6 rfl <| gDs [] 11 11 rfl (by kernel_rfl) (by kernel_rfl) <| gDr [(0, 2), (1, 2), (2, 2)] (by kernel_rfl) rfl rfl ?_
 obtain ⟨b, hxs1_1, h⟩ := h
 refine gYd 3 rfl (by kernel_rfl) (aY (mapget (f := V.str) hxs1_1) aa rfl rfl rfl rfl) rfl rfl <| gDr [(4, 2), (5, 2), (6, 2), (7, 0)] (by kernel_rfl) rfl rfl ?_
 obtain ⟨c, hxs1_2, h⟩ := h
 refine cu 8 rfl (by kernel_rfl) (aY (mapget (f := V.str) hxs1_2) aa rfl rfl rfl rfl) rfl rfl ?_
 refine gDr [(9, 0), (10, 0)] (by kernel_rfl) rfl rfl <| gDe (by kernel_rfl) <| gR 1 rfl <| gB 54 rfl rfl rfl ?_ ?_ <;> intro hd
 replace hd := (fB hd)
 replace h := h.1 hd
 refine gR 9 rfl <| go_xloopR <| gR 2 rfl ?_
 subst h
 exact go_end aa (rs := [.tmp 4]) rfl rfl rfl
 replace hd := (dY hd)
 replace h := h.2 hd
 exact gR 7 rfl <| gV 43 (.int .i64 ((a + 1 : Nat) : Int)) rfl (cM (by have := hl19; omega) (by omega)) rfl <| gR 2 rfl <| go_xloop <| gJ (h K _ hK (by omega)) [] [] rfl hK pq3 trivial rfl
 replace hd := (og hd)
 replace h := h.2 hd
 exact gR 3 rfl <| go_xloopE <| gR 9 rfl <| go_loop m <| gJ (h K _ hK (by omega)) [] [] rfl hK pq3 trivial rfl
theorem ib (m : Nat) (p0 p1 : Tree) (a : Nat) (r0 : Bool) (h : ((a < p0.kids.length) → ∃ c, p0.kids[a]? = some c ∧ ∃ d, p1.kids[a]? = some d ∧ ∃ b, gh c d b ∧ ((b = false) → false = r0) ∧ ((b = true) → ga m p0 p1 (a + 1) r0)) ∧ ((¬ a < p0.kids.length) → true = r0)) : ga (m + 1) p0 p1 a r0 := by
 intro K j1 hK hj1
 obtain ⟨j1, rfl⟩ : ∃ j, j1 = j + 1 := ⟨j1 - 1, by omega⟩
 refine gR 7 rfl <| gV 58 (.int .i64 (p0.kids.length : Int)) rfl (bC (av _)) rfl <| gLB 57 rfl (av _) fun hl20 => gR 3 rfl <| gB 59 rfl rfl rfl ?_ ?_ <;> intro hd
 replace hd := (nP hd)
 replace h := h.1 hd
 refine gR 6 rfl <| gDs [] 12 12 rfl (by kernel_rfl) (by kernel_rfl) <| gDr [(0, 2), (1, 2), (2, 2)] (by kernel_rfl) rfl rfl ?_
 obtain ⟨c, hxt2_1, h⟩ := h
 refine gYd 3 rfl (by kernel_rfl) (aY (ae hxt2_1) aa rfl rfl rfl rfl) rfl rfl <| gDr [(4, 2), (5, 2), (6, 2), (7, 0)] (by kernel_rfl) rfl rfl ?_
 obtain ⟨d, hxt2_2, h⟩ := h
 refine cu 8 rfl (by kernel_rfl) (aY (ae hxt2_2) aa rfl rfl rfl rfl) rfl rfl ?_
 refine gDr [(9, 0)] (by kernel_rfl) rfl rfl ?_
 obtain ⟨b, hs21, h⟩ := h
 refine sU 10 hs21 (by kernel_rfl) rfl (by kernel_rfl) rfl rfl .rfl rfl rfl ?_
 refine gDr [(11, 0)] (by kernel_rfl) rfl rfl <| gDe (by kernel_rfl) <| gR 1 rfl <| gB 73 rfl rfl rfl ?_ ?_ <;> intro hd
 replace hd := (iQ hd)
 replace h := h.1 hd
 refine gR 9 rfl <| go_xloopR <| gR 2 rfl ?_
 subst h
 exact go_end aa (rs := [.tmp 4]) rfl rfl rfl
 replace hd := (iO hd)
 replace h := h.2 hd
 exact gR 7 rfl <| gV 61 (.int .i64 ((a + 1 : Nat) : Int)) rfl (cM (by have := hl20; omega) (by omega)) rfl <| gR 2 rfl <| go_xloop <| gJ (h K _ hK (by omega)) [] [] rfl hK pq3 trivial rfl
 replace hd := (og hd)
 replace h := h.2 hd
 refine gR 3 rfl <| go_xloopE <| gR 8 rfl ?_
 subst h
 exact go_end aa (rs := [.tmp 4]) rfl rfl rfl
theorem nI (m : Nat) (r0 : Bool) (h : ∃ a c d, je [109, 111, 100, 117, 108, 101, 32, 77, 32, 100, 101, 102, 32, 102, 40, 120, 58, 32, 73, 110, 116, 41, 58, 32, 73, 110, 116, 32, 61, 32, 120, 32, 43, 32, 49, 32, 35, 32, 101, 110, 100] a c d ∧ ((d = 0) → ((c = 0) → (((a.kids.length : Int) = 1) → ((a.text = [77]) → ∃ b, a.kids[0]? = some b ∧ (((b.kids.length : Int) = 3) → ∃ e, kL a e ∧ ((e = [109, 111, 100, 117, 108, 101, 32, 77, 32, 100, 101, 102, 32, 102, 40, 120, 58, 32, 73, 110, 116, 41, 58, 32, 73, 110, 116, 32, 61, 32, 120, 32, 43, 32, 49, 32, 35, 32, 101, 110, 100]) → ∃ f, fJ 2 4 f ∧ (f == 7) = r0) ∧ ((e ≠ [109, 111, 100, 117, 108, 101, 32, 77, 32, 100, 101, 102, 32, 102, 40, 120, 58, 32, 73, 110, 116, 41, 58, 32, 73, 110, 116, 32, 61, 32, 120, 32, 43, 32, 49, 32, 35, 32, 101, 110, 100]) → false = r0)) ∧ (((b.kids.length : Int) ≠ 3) → false = r0)) ∧ ((a.text ≠ [77]) → false = r0)) ∧ (((a.kids.length : Int) ≠ 1) → false = r0)) ∧ ((c ≠ 0) → false = r0)) ∧ ((d ≠ 0) → false = r0)) : fY r0 := by
 refine ⟨rfl, rfl, ?_⟩
 refine az 47 [] Try.func4 rfl rfl rfl (bg rfl) fun K hK => ?_
 refine gR 13 rfl ?_
 obtain ⟨a, c, d, hs6, h⟩ := h
 refine gC0 hs6 (by kernel_rfl) rfl rfl .rfl rfl <| gR 15 rfl <| qBeZ 13 12 rfl rfl rfl rfl h (fun h => ?_) fun h => ?_
 refine gR 4 rfl <| qBeZ 17 16 rfl rfl rfl rfl h (fun h => ?_) fun h => ?_
 refine gR 3 rfl <| gV 20 (.int .i64 (a.kids.length : Int)) rfl (bC (av _)) rfl <| gLB 19 rfl (av _) fun hl7 => gR 3 rfl <| qBeZ 23 22 rfl rfl rfl rfl h (fun h => ?_) fun h => ?_
 refine gR 5 rfl <| qBeZ 28 27 rfl rfl rfl rfl h (fun h => ?_) fun h => ?_
 refine gR 2 rfl ?_
 obtain ⟨b, hxt0_4, h⟩ := h
 refine gY (aY (ae hxt0_4) aa rfl rfl rfl rfl) rfl rfl <| gR 3 rfl <| gV 34 (.int .i64 (b.kids.length : Int)) rfl (bC (av _)) rfl <| gLB 33 rfl (av _) fun hl8 => gR 3 rfl <| qBeZ 37 36 rfl rfl rfl rfl h (fun h => ?_) fun h => ?_
 refine gR 1 rfl ?_
 obtain ⟨e, hs9, h⟩ := h
 refine gC0 hs9 (by kernel_rfl) rfl rfl .rfl rfl <| gR 4 rfl <| qBeZ 43 42 rfl rfl rfl rfl h (fun h => ?_) fun h => ?_
 obtain ⟨f, hs10, h⟩ := h
 refine gC0 hs10 (by kernel_rfl) rfl rfl .rfl rfl <| gR 6 rfl ?_
 subst h
 exact go_end aa (rs := [.tmp 0]) rfl rfl rfl
 refine gR 7 rfl ?_
 subst h
 exact go_end aa (rs := [.tmp 0]) rfl rfl rfl
 refine gR 13 rfl ?_
 subst h
 exact go_end aa (rs := [.tmp 0]) rfl rfl rfl
 refine gR 22 rfl ?_
 subst h
 exact go_end aa (rs := [.tmp 0]) rfl rfl rfl
 refine gR 27 rfl ?_
 subst h
 exact go_end aa (rs := [.tmp 0]) rfl rfl rfl
 refine gR 33 rfl ?_
 subst h
 exact go_end aa (rs := [.tmp 0]) rfl rfl rfl
 refine gR 37 rfl ?_
 subst h
 exact go_end aa (rs := [.tmp 0]) rfl rfl rfl
theorem rS_semvcslaw02_SyntaxParses (m : Nat) (p0 : List UInt8) (r0 : Bool) (h : ((5000 < (p0.length : Int)) → ∃ f, fY f ∧ f = r0) ∧ ((¬ 5000 < (p0.length : Int)) → ∃ g a b, je p0 g a b ∧ ∃ i c d, iy p0 i c d ∧ ∃ e, fY e ∧ ((e = true) → ((a = c) → ((b = d) → ∃ j, gh g i j ∧ j = r0) ∧ ((b ≠ d) → false = r0)) ∧ ((a ≠ c) → false = r0)) ∧ ((e = false) → false = r0))) : it p0 r0 := by
 refine ⟨rfl, rfl, ?_⟩
 refine az 41 [] Try.func3 rfl rfl rfl (bg rfl) fun K hK => ?_
 refine gR 13 rfl <| qBd 11 rfl rfl rfl h (fun h => ?_) fun h => ?_
 refine gR 3 rfl ?_
 obtain ⟨f, hs6, h⟩ := h
 refine gC0 hs6 (by kernel_rfl) rfl rfl .rfl rfl <| gR 5 rfl ?_
 subst h
 exact go_end aa (rs := [.tmp 2]) rfl rfl rfl
 refine gR 6 rfl ?_
 obtain ⟨g, a, b, hs7, h⟩ := h
 refine gC0 hs7 (by kernel_rfl) rfl rfl .rfl rfl <| gR 13 rfl ?_
 obtain ⟨i, c, d, hs8, h⟩ := h
 refine gC0 hs8 (by kernel_rfl) rfl rfl .rfl rfl <| gR 12 rfl ?_
 obtain ⟨e, hs9, h⟩ := h
 refine gC0 hs9 (by kernel_rfl) rfl rfl .rfl rfl <| gR 1 rfl <| qBiZ 26 25 rfl rfl rfl rfl h (fun h => ?_) fun h => ?_
 refine gR 5 rfl <| qBeZ 31 30 rfl rfl rfl rfl h (fun h => ?_) fun h => ?_
 refine gR 5 rfl <| qBeZ 36 35 rfl rfl rfl rfl h (fun h => ?_) fun h => ?_
 refine gR 2 rfl ?_
 obtain ⟨j, hs10, h⟩ := h
 refine gC0 hs10 (by kernel_rfl) rfl rfl .rfl rfl <| gR 5 rfl ?_
 subst h
 exact go_end aa (rs := [.tmp 2]) rfl rfl rfl
 refine gR 8 rfl ?_
 subst h
 exact go_end aa (rs := [.tmp 2]) rfl rfl rfl
 refine gR 13 rfl ?_
 subst h
 exact go_end aa (rs := [.tmp 2]) rfl rfl rfl
 refine gR 18 rfl ?_
 subst h
 exact go_end aa (rs := [.tmp 2]) rfl rfl rfl
end Go.Proofs.Ytpigfkmccilkjaa
