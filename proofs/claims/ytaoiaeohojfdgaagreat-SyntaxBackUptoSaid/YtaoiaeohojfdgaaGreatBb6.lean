/- Contracts of the functions that the law reaches, part 6. -/
import Derived.Test.YtaoiaeohojfdgaaGreatBb5
set_option linter.unusedVariables false
set_option linter.unusedSimpArgs false
namespace Go.Proofs.YtaoiaeohojfdgaaGreat
open Go.RowKit Lx Sx
set_option maxRecDepth 100000
set_option maxHeartbeats 1000000
theorem knd {last lead x : List UInt8} (h : aE x ≠ 5 ∧ aE x ≠ 6 ∧ aE x ≠ 1 ∧ aE x ≠ 3) : (tk last lead x).kind ≠ 5 ∧ (tk last lead x).kind ≠ 6 ∧ (tk last lead x).kind ≠ 1 ∧ (tk last lead x).kind ≠ 3 := by simp only [tk]; omega
theorem qq {u : TokZ} {rest : List TokZ} {k : Nat} {x : List UInt8} (hk : (k : Int) ≠ 0) (h : (u.kind = 5 ∧ k = 10 ∧ x = u.text ∨ u.kind = 6 ∧ k = 11 ∧ x = u.text) ∧ u.text ≠ [116, 114, 117, 101] ∧ u.text ≠ [102, 97, 108, 115, 101] ∧ u.text ≠ [63] ∧ u.text ≠ [91] ∧ u.text ≠ [40] ∨ (u.kind ≠ 5 ∧ u.kind ≠ 6 ∧ u.kind ≠ 1 ∧ u.kind ≠ 3) ∧ x = [] ∧ (u.text = [116, 114, 117, 101] ∧ k = 13 ∨ u.text = [102, 97, 108, 115, 101] ∧ k = 14 ∨ u.text = [63] ∧ k = 15)) : Ok Pun (u :: rest) (.node (k : Int) x [u.lead] []) rest := fun off sz at_ hi h0 h1 => by
 obtain ⟨o', q, hi'⟩ := fC u rest off sz at_ hi h0 h1
 refine ⟨o', ?_, hi'⟩
 have ue : ∀ x, cz 1 ((u :: rest).map gTk) off sz 0 at_ k x (.node (k : Int) x [u.lead] []) (rest.map gTk) o' sz 0 at_ := fun x => CA hk q
 rcases h with ⟨h, n1, n2, n3, n4, n5⟩ | ⟨h, rfl, h'⟩
 ·have l0 : dd 2 (gTk u) ((u :: rest).map gTk) off sz 0 at_ k (.node (k : Int) u.text [u.lead] []) (rest.map gTk) o' sz 0 at_ :=
   rL0_syntax_parser_unit 1 _ _ _ _ _ _ _ _ _ _ _ _ _ ⟨fun e => absurd e n1, fun _ => ⟨fun e => absurd e n2, fun _ => ⟨fun e => absurd e n3, fun _ => ⟨fun e => absurd e n4, fun _ => ⟨fun e => absurd e n5, fun _ => ue _⟩⟩⟩⟩⟩
  rcases h with ⟨h, rfl, rfl⟩ | ⟨h, rfl, rfl⟩
  ·exact rS_syntax_parser_unit 2 _ _ _ _ _ _ _ _ _ _ _ ⟨_, _, _, _, _, _, cq, fun _ => l0, fun e => absurd (show (gTk u).Kind = 5 by simp only [gTk]; omega) e⟩
  ·exact rS_syntax_parser_unit 2 _ _ _ _ _ _ _ _ _ _ _ ⟨_, _, _, _, _, _, cq, fun e => by simp only [gTk] at e; omega, fun _ => ⟨fun _ => l0, fun e => absurd (show (gTk u).Kind = 6 by simp only [gTk]; omega) e⟩⟩
 ·refine se 2 h (rL0_syntax_parser_unit 1 _ _ _ _ _ _ _ _ _ _ _ _ _ ?_)
  rcases h' with ⟨h', rfl⟩ | ⟨h', rfl⟩ | ⟨h', rfl⟩
  ·exact ⟨fun _ => ue _, fun e => absurd h' e⟩
  ·exact ⟨fun e => absurd (h'.symm.trans e) (by decide), fun _ => ⟨fun _ => ue _, fun e => absurd h' e⟩⟩
  ·exact ⟨fun e => absurd (h'.symm.trans e) (by decide), fun _ => ⟨fun e => absurd (h'.symm.trans e) (by decide), fun _ => ⟨fun _ => ue _, fun e => absurd h' e⟩⟩⟩
theorem un {t : Tree} (hs : shapeK t = true) (hl : limK t = true) {C : Tree → Prop} (ih : ∀ (i : Nat) (u : Tree), t.kids[i]? = some u → shapeK u = true → limK u = true → C u) {p : Int → Prop} (hp : ∀ i kk, i < t.kids.length → dh t.kind t.kids.length i kk = true → p kk) : ∀ u ∈ t.kids, p u.kind ∧ shapeK u = true ∧ C u := fun u hu => by
 obtain ⟨i, hi, rfl⟩ := List.mem_iff_getElem.1 hu
 have hu' : t.kids[i]? = some t.kids[i] := List.getElem?_eq_getElem hi
 have := aL hs hu'
 exact ⟨hp i _ hi this.2, this.1, ih i _ hu' this.1 (gK hl hu')⟩
theorem GI {t : Tree} (ih : ∀ (i : Nat) (u : Tree), t.kids[i]? = some u → shapeK u = true → limK u = true → Xok u ∧ Aok u) (hs : shapeK t = true) (hl : limK t = true) : Uok t := fun hk last rest hr => by
 have hn := bu hs
 have hw := eb hs
 have hm := uM hl
 have hk' : t.kind = 10 ∨ t.kind = 11 ∨ t.kind = 12 ∨ t.kind = 13 ∨ t.kind = 14 ∨ t.kind = 15 ∨ t.kind = 16 ∨ t.kind = 18 ∨ t.kind = 22 := by simp [jA, cG] at hk; omega
 rw [gf, bg]
 have ne : ∀ n : Nat, aE t.text = n → n ≠ 8 → n ≠ 7 → t.text ≠ [116, 114, 117, 101] ∧ t.text ≠ [102, 97, 108, 115, 101] ∧ t.text ≠ [63] ∧ t.text ≠ [91] ∧ t.text ≠ [40] := fun n h a b =>
  ⟨dF h (fun e => b (by rw [← e]; decide)), dF h (fun e => b (by rw [← e]; decide)), dF h (fun e => a (by rw [← e]; decide)), dF h (fun e => a (by rw [← e]; decide)), dF h (fun e => a (by rw [← e]; decide))⟩
 rcases hk' with h | h | h | h | h | h | h | h | h
 ·rw [h] at hw ⊢; simp [dg] at hw
  have c : aE t.text = 5 := by omega
  exact qq (u := tk last (t.leads.getD 0 []) t.text) (k := 10) (by decide) (.inl ⟨.inl ⟨by simp only [tk]; omega, rfl, rfl⟩, ne 5 c (by decide) (by decide)⟩)
 ·rw [h] at hw ⊢; simp [dg] at hw
  have c : aE t.text = 6 := by omega
  exact qq (u := tk last (t.leads.getD 0 []) t.text) (k := 11) (by decide) (.inl ⟨.inr ⟨by simp only [tk]; omega, rfl, rfl⟩, ne 6 c (by decide) (by decide)⟩)
 ·rw [h] at hw ⊢; simp [dg] at hw
  have c : aE t.text = 1 := by omega
  show Ok Pun (tk last (t.leads.getD 0 []) t.text :: rest) (.node 12 t.text [ah last (t.leads.getD 0 []) t.text] []) rest
  intro off sz at_ hi h0 h1
  obtain ⟨o', q, hi'⟩ := fC (tk last (t.leads.getD 0 []) t.text) rest off sz at_ hi h0 h1
  exact ⟨o', wV (.inl (by simp only [tk]; omega)) (mW 0 _ _ _ _ _ _ _ _ _ _ _ ⟨_, _, _, _, _, _, q, fun _ => ⟨_, _, _, _, _, _, nM, fun _ => ⟨rfl, rfl, rfl, rfl, rfl, rfl⟩, fun e => absurd e hr⟩, fun e => absurd (show (gTk (tk last (t.leads.getD 0 []) t.text)).Kind = 1 by simp only [gTk, tk]; omega) e⟩), hi'⟩
 ·rw [h, gd hs (by omega)]
  exact qq (u := tk last (t.leads.getD 0 []) [116, 114, 117, 101]) (k := 13) (by decide) (.inr ⟨knd (by decide), rfl, .inl ⟨rfl, rfl⟩⟩)
 ·rw [h, gd hs (by omega)]
  exact qq (u := tk last (t.leads.getD 0 []) [102, 97, 108, 115, 101]) (k := 14) (by decide) (.inr ⟨knd (by decide), rfl, .inr (.inl ⟨rfl, rfl⟩)⟩)
 ·rw [h, gd hs (by omega)]
  exact qq (u := tk last (t.leads.getD 0 []) [63]) (k := 15) (by decide) (.inr ⟨knd (by decide), rfl, .inr (.inr ⟨rfl, rfl⟩)⟩)
 ·have hA := un hs hl (C := Aok) (fun i u a b c => (ih i u a b c).2) (p := fun k => k = 17) (fun i kk _ e => by rw [h] at e; simpa [dh] using e)
  rw [h] at hw ⊢; simp [dg] at hw
  have c : (tk last (t.leads.getD 0 []) t.text).kind = 1 ∨ (tk last (t.leads.getD 0 []) t.text).kind = 3 := by simp only [tk]; omega
  have e1 : tkA last (bc 16 t.text t.leads (pcTs t.kids)) ++ rest = tk last (t.leads.getD 0 []) t.text :: tk t.text (t.leads.getD 1 []) [40] :: (tkA [40] (aw t.leads 3 (pcTs t.kids) 0) ++ (tk (ae [40] (aw t.leads 3 (pcTs t.kids) 0)) (t.leads.getD 2 []) [41] :: rest)) := by
   show tkA last (⟨t.leads.getD 0 [], t.text⟩ :: ⟨t.leads.getD 1 [], [40]⟩ :: (aw t.leads 3 (pcTs t.kids) 0 ++ [⟨t.leads.getD 2 [], [41]⟩])) ++ rest = _
   simp only [gk, fz, mD, List.cons_append, List.append_assoc, List.nil_append]
  rw [e1]
  intro off sz at_ hi h0 h1
  obtain ⟨o1, q1, i1⟩ := fC _ _ off sz at_ hi h0 h1
  obtain ⟨m, o2, q2, i2⟩ := Dx hA (hm.2.2.1 h) (tk last (t.leads.getD 0 []) t.text) i1 h0 h1
  refine ⟨o2, wV c (mW m _ _ _ _ _ _ _ _ _ _ _ ⟨_, _, _, _, _, _, q1, fun _ => ⟨_, _, _, _, _, _, cq, fun e => absurd rfl e, fun _ => q2⟩, fun _ => q2⟩), i2⟩
 ·have hX := un hs hl (C := Xok) (fun i u a b c => (ih i u a b c).1) (p := fun k => cG k = true) (fun i kk _ e => by rw [h] at e; simpa [dh] using e)
  rw [h, gd hs (by omega)]
  have e1 : tkA last (bc 18 [] t.leads (pcTs t.kids)) ++ rest = tk last (t.leads.getD 0 []) [91] :: (tkA [91] (aw t.leads 2 (pcTs t.kids) 0) ++ (tk (ae [91] (aw t.leads 2 (pcTs t.kids) 0)) (t.leads.getD 1 []) [93] :: rest)) := by
   show tkA last (⟨t.leads.getD 0 [], [91]⟩ :: (aw t.leads 2 (pcTs t.kids) 0 ++ [⟨t.leads.getD 1 [], [93]⟩])) ++ rest = _
   simp only [gk, fz, mD, List.cons_append, List.append_assoc, List.nil_append]
  rw [e1]
  intro off sz at_ hi h0 h1
  obtain ⟨o1, q1, i1⟩ := CU hX ⟨hn.2.1 h, hm.2.2.2 h⟩ (last := last) (rest := rest) off sz at_ hi h0 h1
  exact ⟨o1, se 1 (knd (by decide)) (rL0_syntax_parser_unit 0 _ _ _ _ _ _ _ _ _ _ _ _ _ ⟨fun e => absurd e (show ¬ ([91] : List UInt8) = [116, 114, 117, 101] by decide), fun _ => ⟨fun e => absurd e (show ¬ ([91] : List UInt8) = [102, 97, 108, 115, 101] by decide), fun _ => ⟨fun e => absurd e (show ¬ ([91] : List UInt8) = [63] by decide), fun _ => ⟨fun _ => ⟨_, _, _, _, _, _, q1, rfl, rfl, rfl, rfl, rfl, rfl⟩, fun e => absurd rfl e⟩⟩⟩⟩), i1⟩
 ·obtain ⟨u, hu, _⟩ | h' := aN t.kids 0
  rotate_left
  ·have := hn.2.2.1 (by omega); omega
  have hsu := aL hs hu
  have hku : cG u.kind = true := by have := hsu.2; rw [h] at this; simpa [dh] using this
  rw [h, gd hs (by omega)]
  have e1 : tkA last (bc 22 [] t.leads (pcTs t.kids)) ++ rest = tk last (t.leads.getD 0 []) [40] :: (tkA [40] (pcT u) ++ (tk (ae [40] (pcT u)) (t.leads.getD 1 []) [41] :: rest)) := by
   show tkA last (⟨t.leads.getD 0 [], [40]⟩ :: ((pcTs t.kids).getD 0 [] ++ [⟨t.leads.getD 1 [], [41]⟩])) ++ rest = _
   rw [bE hu]
   simp only [gk, fz, mD, List.cons_append, List.append_assoc, List.nil_append]
  have e2 : spN 22 [] t.leads (spTs t.kids) (pcTs t.kids) last = .node 22 [] [ah last (t.leads.getD 0 []) [40], ah (ae [40] (pcT u)) (t.leads.getD 1 []) [41]] [spT u [40]] := by
   show Tree.node 22 [] [_, ah (ae [40] ((pcTs t.kids).getD 0 [])) _ _] [(spTs t.kids).getD 0 _ _] = _
   rw [bE hu, cX hu]
  rw [e1, e2]
  intro off sz at_ hi h0 h1
  obtain ⟨o1, q1, i1⟩ := fC _ _ off sz at_ hi h0 h1
  obtain ⟨o2, q2, i2⟩ := (ih 0 u hu hsu.1 (gK hl hu)).1 hku [40] (tk (ae [40] (pcT u)) (t.leads.getD 1 []) [41] :: rest) ⟨show ([41] : List UInt8) ≠ [40] by decide, show en [41] = false by decide⟩ o1 sz at_ i1 h0 h1
  obtain ⟨o3, q3, i3⟩ := cC (w := [41]) rfl o2 sz at_ i2 h0 h1
  exact ⟨o3, se 1 (knd (by decide)) (rL0_syntax_parser_unit 0 _ _ _ _ _ _ _ _ _ _ _ _ _ ⟨fun e => absurd e (show ¬ ([40] : List UInt8) = [116, 114, 117, 101] by decide), fun _ => ⟨fun e => absurd e (show ¬ ([40] : List UInt8) = [102, 97, 108, 115, 101] by decide), fun _ => ⟨fun e => absurd e (show ¬ ([40] : List UInt8) = [63] by decide), fun _ => ⟨fun e => absurd e (show ¬ ([40] : List UInt8) = [91] by decide), fun _ => ⟨fun _ => ⟨by decide, _, _, _, _, _, _, q1, [], rfl, _, _, _, _, _, _, q2, _, _, _, _, _, _, q3, [], rfl, rfl, rfl, rfl, rfl, rfl, rfl⟩, fun e => absurd rfl e⟩⟩⟩⟩⟩), i3⟩
theorem Gv {t : Tree} (ih : ∀ (i : Nat) (u : Tree), t.kids[i]? = some u → shapeK u = true → limK u = true → Nok u ∧ Uok u) (hs : shapeK t = true) (hl : limK t = true) (hU : Uok t) : Nok t := fun hk last rest hr off sz at_ hi h0 h1 => by
 by_cases hk1 : jA t.kind = true
 ·obtain ⟨o', q, hi'⟩ := hU hk1 last rest hr off sz at_ hi h0 h1
  exact ⟨_, _, _, _, q, hi', fun m r q0 q1 q2 q3 q4 h => ⟨m, h⟩⟩
 have h : t.kind = 21 := by rcases hk with hk | hk; exact absurd hk hk1; exact hk
 have hn := bu hs
 have hw := eb hs
 rw [h] at hw
 have hop : en t.text = true := by simpa [dg] using hw
 obtain ⟨a, ha, _⟩ | h' := aN t.kids 0
 rotate_left
 ·have := hn.2.2.2.2 (by omega); omega
 obtain ⟨b, hb, _⟩ | h' := aN t.kids 1
 rotate_left
 ·have := hn.2.2.2.2 (by omega); omega
 have sa := aL hs ha
 have sb := aL hs hb
 have ka : jA a.kind = true ∨ a.kind = 21 := by have := sa.2; rw [h] at this; simpa [dh] using this
 have kb : jA b.kind = true := by have := sb.2; rw [h] at this; simpa [dh] using this
 have e1 : tkA last (pcT t) ++ rest = tkA last (pcT a) ++ (tk (ae last (pcT a)) (t.leads.getD 0 []) t.text :: (tkA t.text (pcT b) ++ rest)) := by
  rw [bg, h]
  show tkA last ((pcTs t.kids).getD 0 [] ++ (⟨t.leads.getD 0 [], t.text⟩ :: (pcTs t.kids).getD 1 [])) ++ rest = _
  rw [bE ha, bE hb]
  simp only [gk, fz, mD, List.cons_append, List.append_assoc, List.nil_append]
 have e2 : spT t last = .node 21 t.text [ah (ae last (pcT a)) (t.leads.getD 0 []) t.text] [spT a last, spT b t.text] := by
  rw [gf, h]
  show Tree.node 21 _ [ah (ae last ((pcTs t.kids).getD 0 [])) _ _] [(spTs t.kids).getD 0 _ _, (spTs t.kids).getD 1 _ _] = _
  rw [bE ha, cX ha, cX hb]
 rw [e1] at hi ⊢
 rw [e2]
 obtain ⟨t0, b0, o0, o1, q, i1, k⟩ := (ih 0 a ha sa.1 (gK hl ha)).1 ka last (tk (ae last (pcT a)) (t.leads.getD 0 []) t.text :: (tkA t.text (pcT b) ++ rest)) (fun e => by have e : t.text = [40] := e; rw [e] at hop; exact absurd hop (by decide)) off sz at_ hi h0 h1
 obtain ⟨o2, q2, i2⟩ := fC _ _ o1 sz at_ i1 h0 h1
 obtain ⟨o3, q3, i3⟩ := (ih 1 b hb sb.1 (gK hl hb)).2 kb t.text rest hr o2 sz at_ i2 h0 h1
 exact ⟨t0, b0, o0, o3, q, i3, fun m r q0 q1 q2' q3' q4 hh => k (m + 2) r q0 q1 q2' q3' q4 (iL (m + 1) _ _ _ _ _ _ _ _ _ _ _ _ ⟨_, _, _, _, _, _, cq, _, qQ _, fun _ => ⟨_, _, _, _, _, _, q2, _, _, _, _, _, _, q3, nN m _ _ _ _ _ _ _ _ _ _ _ _ _ hh⟩, fun e => absurd (hop.symm.trans e) (by decide)⟩)⟩
theorem Gr {t : Tree} (ih : ∀ (i : Nat) (u : Tree), t.kids[i]? = some u → shapeK u = true → limK u = true → Xok u) (hs : shapeK t = true) (hl : limK t = true) (hN : Nok t) : Xok t := fun hk last rest hr off sz at_ hi h0 h1 => by
 have hn := bu hs
 have hw := eb hs
 obtain ⟨p, r, hp, _, hp2⟩ := xo t (.inl hk) hs
 by_cases h19 : t.kind = 19
 ·obtain ⟨a, ha, _⟩ | h' := aN t.kids 0
  rotate_left
  ·have := hn.2.2.2.1 (by omega); omega
  obtain ⟨b, hb, _⟩ | h' := aN t.kids 1
  rotate_left
  ·have := hn.2.2.2.1 (by omega); omega
  obtain ⟨c, hc, _⟩ | h' := aN t.kids 2
  rotate_left
  ·have := hn.2.2.2.1 (by omega); omega
  have sa := aL hs ha
  have sb := aL hs hb
  have sc := aL hs hc
  have ka : cG a.kind = true := by have := sa.2; rw [h19] at this; simpa [dh] using this
  have kb : cG b.kind = true := by have := sb.2; rw [h19] at this; simpa [dh] using this
  have kc : cG c.kind = true := by have := sc.2; rw [h19] at this; simpa [dh] using this
  have e1 : tkA last (pcT t) ++ rest = tk last (t.leads.getD 0 []) [105, 102] :: (tkA [105, 102] (pcT a) ++ (tk (ae [105, 102] (pcT a)) (t.leads.getD 1 []) [116, 104, 101, 110] :: (tkA [116, 104, 101, 110] (pcT b) ++ (tk (ae [116, 104, 101, 110] (pcT b)) (t.leads.getD 2 []) [101, 108, 115, 101] :: (tkA [101, 108, 115, 101] (pcT c) ++ rest))))) := by
   rw [bg, h19]
   show tkA last (⟨t.leads.getD 0 [], [105, 102]⟩ :: ((pcTs t.kids).getD 0 [] ++ (⟨t.leads.getD 1 [], [116, 104, 101, 110]⟩ :: ((pcTs t.kids).getD 1 [] ++ (⟨t.leads.getD 2 [], [101, 108, 115, 101]⟩ :: (pcTs t.kids).getD 2 []))))) ++ rest = _
   rw [bE ha, bE hb, bE hc]
   simp only [gk, fz, mD, List.cons_append, List.append_assoc, List.nil_append]
  have e2 : spT t last = .node 19 [] [ah last (t.leads.getD 0 []) [105, 102], ah (ae [105, 102] (pcT a)) (t.leads.getD 1 []) [116, 104, 101, 110], ah (ae [116, 104, 101, 110] (pcT b)) (t.leads.getD 2 []) [101, 108, 115, 101]] [spT a [105, 102], spT b [116, 104, 101, 110], spT c [101, 108, 115, 101]] := by
   rw [gf, h19, gd hs (by omega)]
   show Tree.node 19 _ [_, ah (ae _ ((pcTs t.kids).getD 0 [])) _ _, ah (ae _ ((pcTs t.kids).getD 1 [])) _ _] [(spTs t.kids).getD 0 _ _, (spTs t.kids).getD 1 _ _, (spTs t.kids).getD 2 _ _] = _
   rw [bE ha, bE hb, cX ha, cX hb, cX hc]
  rw [e1] at hi ⊢
  rw [e2]
  obtain ⟨o1, q1, i1⟩ := fC _ _ off sz at_ hi h0 h1
  obtain ⟨o2, q2, i2⟩ := ih 0 a ha sa.1 (gK hl ha) ka [105, 102] (tk (ae [105, 102] (pcT a)) (t.leads.getD 1 []) [116, 104, 101, 110] :: (tkA [116, 104, 101, 110] (pcT b) ++ (tk (ae [116, 104, 101, 110] (pcT b)) (t.leads.getD 2 []) [101, 108, 115, 101] :: (tkA [101, 108, 115, 101] (pcT c) ++ rest)))) ⟨show ([116, 104, 101, 110] : List UInt8) ≠ [40] by decide, show en [116, 104, 101, 110] = false by decide⟩ o1 sz at_ i1 h0 h1
  obtain ⟨o3, q3, i3⟩ := cC (w := [116, 104, 101, 110]) rfl o2 sz at_ i2 h0 h1
  obtain ⟨o4, q4, i4⟩ := ih 1 b hb sb.1 (gK hl hb) kb [116, 104, 101, 110] (tk (ae [116, 104, 101, 110] (pcT b)) (t.leads.getD 2 []) [101, 108, 115, 101] :: (tkA [101, 108, 115, 101] (pcT c) ++ rest)) ⟨show ([101, 108, 115, 101] : List UInt8) ≠ [40] by decide, show en [101, 108, 115, 101] = false by decide⟩ o3 sz at_ i3 h0 h1
  obtain ⟨o5, q5, i5⟩ := cC (w := [101, 108, 115, 101]) rfl o4 sz at_ i4 h0 h1
  obtain ⟨o6, q6, i6⟩ := ih 2 c hc sc.1 (gK hl hc) kc [101, 108, 115, 101] rest hr o5 sz at_ i5 h0 h1
  exact ⟨o6, eY 0 _ _ _ _ _ _ _ _ _ _ _ ⟨_, _, _, _, _, _, cq, fun e => absurd e (show ¬ ([105, 102] : List UInt8) = [108, 101, 116] by decide), fun _ => ⟨fun _ => ⟨by decide, _, _, _, _, _, _, q1, [], rfl, _, _, _, _, _, _, q2, _, _, _, _, _, _, q3, [], rfl, _, _, _, _, _, _, q4, by simp, _, _, _, _, _, _, q5, [], rfl, _, _, _, _, _, _, q6, by simp, rfl, rfl, rfl, rfl, rfl, rfl⟩, fun e => absurd rfl e⟩⟩, i6⟩
 by_cases h20 : t.kind = 20
 ·obtain ⟨a, ha, _⟩ | h' := aN t.kids 0
  rotate_left
  ·have := hn.2.2.2.2 (by omega); omega
  obtain ⟨b, hb, _⟩ | h' := aN t.kids 1
  rotate_left
  ·have := hn.2.2.2.2 (by omega); omega
  have sa := aL hs ha
  have sb := aL hs hb
  have ka : cG a.kind = true := by have := sa.2; rw [h20] at this; simpa [dh] using this
  have kb : cG b.kind = true := by have := sb.2; rw [h20] at this; simpa [dh] using this
  have c : aE t.text = 1 := by rw [h20] at hw; simp [dg] at hw; omega
  have e1 : tkA last (pcT t) ++ rest = tk last (t.leads.getD 0 []) [108, 101, 116] :: tk [108, 101, 116] (t.leads.getD 1 []) t.text :: tk t.text (t.leads.getD 2 []) [61] :: (tkA [61] (pcT a) ++ (tk (ae [61] (pcT a)) (t.leads.getD 3 []) [105, 110] :: (tkA [105, 110] (pcT b) ++ rest))) := by
   rw [bg, h20]
   show tkA last (⟨t.leads.getD 0 [], [108, 101, 116]⟩ :: ⟨t.leads.getD 1 [], t.text⟩ :: ⟨t.leads.getD 2 [], [61]⟩ :: ((pcTs t.kids).getD 0 [] ++ (⟨t.leads.getD 3 [], [105, 110]⟩ :: (pcTs t.kids).getD 1 []))) ++ rest = _
   rw [bE ha, bE hb]
   simp only [gk, fz, mD, List.cons_append, List.append_assoc, List.nil_append]
  have e2 : spT t last = .node 20 t.text [ah last (t.leads.getD 0 []) [108, 101, 116], ah [108, 101, 116] (t.leads.getD 1 []) t.text, ah t.text (t.leads.getD 2 []) [61], ah (ae [61] (pcT a)) (t.leads.getD 3 []) [105, 110]] [spT a [61], spT b [105, 110]] := by
   rw [gf, h20]
   show Tree.node 20 _ [_, _, _, ah (ae _ ((pcTs t.kids).getD 0 [])) _ _] [(spTs t.kids).getD 0 _ _, (spTs t.kids).getD 1 _ _] = _
   rw [bE ha, cX ha, cX hb]
  rw [e1] at hi ⊢
  rw [e2]
  obtain ⟨o1, q1, i1⟩ := fC _ _ off sz at_ hi h0 h1
  obtain ⟨o2, q2, i2⟩ := oG (k := 1) (o2 := 1) (t := tk [108, 101, 116] (t.leads.getD 1 []) t.text) (by simp only [tk]; omega) (by simp only [tk]; omega) o1 sz at_ i1 h0 h1
  obtain ⟨o3, q3, i3⟩ := cC (w := [61]) rfl o2 sz at_ i2 h0 h1
  obtain ⟨o4, q4, i4⟩ := ih 0 a ha sa.1 (gK hl ha) ka [61] (tk (ae [61] (pcT a)) (t.leads.getD 3 []) [105, 110] :: (tkA [105, 110] (pcT b) ++ rest)) ⟨show ([105, 110] : List UInt8) ≠ [40] by decide, show en [105, 110] = false by decide⟩ o3 sz at_ i3 h0 h1
  obtain ⟨o5, q5, i5⟩ := cC (w := [105, 110]) rfl o4 sz at_ i4 h0 h1
  obtain ⟨o6, q6, i6⟩ := ih 1 b hb sb.1 (gK hl hb) kb [105, 110] rest hr o5 sz at_ i5 h0 h1
  exact ⟨o6, eY 0 _ _ _ _ _ _ _ _ _ _ _ ⟨_, _, _, _, _, _, cq, fun _ => ⟨by decide, _, _, _, _, _, _, q1, [], rfl, _, _, _, _, _, _, _, q2, [], rfl, _, _, _, _, _, _, q3, [], rfl, _, _, _, _, _, _, q4, _, _, _, _, _, _, q5, [], rfl, _, _, _, _, _, _, q6, by simp, rfl, rfl, rfl, rfl, rfl, rfl⟩, fun e => absurd rfl e⟩, i6⟩
 have h17 : t.kind ≠ 17 := by simp [cG] at hk; omega
 obtain ⟨n1, n2⟩ := hp2 h19 h20 h17
 obtain ⟨t0, b0, o0, o1, q, i1, k⟩ := hN (by simp [cG, jA] at hk ⊢; omega) last rest hr.1 off sz at_ hi h0 h1
 obtain ⟨m, hm⟩ := k 1 (spT t last) _ _ _ _ _ (iL 0 _ _ _ _ _ _ _ _ _ _ _ _ ⟨_, _, _, _, _, _, nM, _, qQ _, fun e => absurd (hr.2.symm.trans e) (by decide), fun _ => ⟨rfl, rfl, rfl, rfl, rfl, rfl⟩⟩)
 exact ⟨o1, eY m _ _ _ _ _ _ _ _ _ _ _ ⟨_, _, _, _, _, _, nM, fun e => absurd (by rw [ws hp] at e; exact e) n1, fun _ => ⟨fun e => absurd (by rw [ws hp] at e; exact e) n2, fun _ => ⟨_, _, _, _, _, _, q, hm⟩⟩⟩, i1⟩
theorem Dl : ∀ t : Tree, shapeK t = true → limK t = true → Xok t ∧ Aok t ∧ Nok t ∧ Uok t := bV fun t ih hs hl => by
 have hU : Uok t := GI (fun i u hu a b => ⟨(ih i u hu a b).1, (ih i u hu a b).2.1⟩) hs hl
 have hN : Nok t := Gv (fun i u hu a b => ⟨(ih i u hu a b).2.2.1, (ih i u hu a b).2.2.2⟩) hs hl hU
 exact ⟨Gr (fun i u hu a b => (ih i u hu a b).1) hs hl hN, GN (fun i u hu a => (ih i u hu a (gK hl hu)).1) hs, hN, hU⟩
abbrev Ppm := fun (a : List GToken) (o s f z : Int) (x : Tree) (b : List GToken) (o' s' f' z' : Int) => cZ a o s f z x b o' s' f' z'
abbrev Pal := fun (a : List GToken) (o s f z : Int) (x : Tree) (b : List GToken) (o' s' f' z' : Int) => iY a o s f z x b o' s' f' z'
abbrev Pfn := fun (a : List GToken) (o s f z : Int) (x : Tree) (b : List GToken) (o' s' f' z' : Int) => gc a o s f z x b o' s' f' z'
theorem BD {t : Tree} (h : t.kind = 4) (hs : shapeK t = true) (last : List UInt8) (rest : List TokZ) : Ok Ppm (tkA last (pcT t) ++ rest) (spT t last) rest := by
 have hn := bu hs
 have hw := eb hs
 obtain ⟨u, hu, _⟩ | h' := aN t.kids 0
 rotate_left
 ·have := hn.2.2.1 (by omega); omega
 have hsu := aL hs hu
 have hku : iH u.kind = true := by have := hsu.2; rw [h] at this; simpa [dh] using this
 have c : aE t.text = 1 := by rw [h] at hw; simp [dg] at hw; omega
 have e1 : tkA last (pcT t) ++ rest = tk last (t.leads.getD 0 []) t.text :: tk t.text (t.leads.getD 1 []) [58] :: (tkA [58] (pcT u) ++ rest) := by
  rw [bg, h]
  show tkA last (⟨t.leads.getD 0 [], t.text⟩ :: ⟨t.leads.getD 1 [], [58]⟩ :: (pcTs t.kids).getD 0 []) ++ rest = _
  rw [bE hu]; rfl
 have e2 : spT t last = .node 4 t.text [ah last (t.leads.getD 0 []) t.text, ah t.text (t.leads.getD 1 []) [58]] [spT u [58]] := by
  rw [gf, h]
  show Tree.node 4 _ _ [(spTs t.kids).getD 0 _ _] = _
  rw [cX hu]
 rw [e1, e2]
 intro off sz at_ hi h0 h1
 obtain ⟨o1, q1, i1⟩ := oG (k := 1) (o2 := 1) (t := tk last (t.leads.getD 0 []) t.text) (by simp only [tk]; omega) (by simp only [tk]; omega) off sz at_ hi h0 h1
 obtain ⟨o2, q2, i2⟩ := cC (w := [58]) rfl o1 sz at_ i1 h0 h1
 obtain ⟨o3, q3, i3⟩ := uD u hku hsu.1 [58] rest o2 sz at_ i2 h0 h1
 exact ⟨o3, qd 0 _ _ _ _ _ _ _ _ _ _ _ ⟨by decide, _, _, _, _, _, _, _, q1, [], rfl, _, _, _, _, _, _, q2, [], rfl, _, _, _, _, _, _, q3, rfl, rfl, rfl, rfl, rfl, rfl⟩, i3⟩
theorem BJ {t : Tree} (h : t.kind = 3) (hs : shapeK t = true) (last : List UInt8) (rest : List TokZ) : Ok Pal (tkA last (pcT t) ++ rest) (spT t last) rest := by
 have hn := bu hs
 have hw := eb hs
 obtain ⟨u, hu, _⟩ | h' := aN t.kids 0
 rotate_left
 ·have := hn.2.2.1 (by omega); omega
 have hsu := aL hs hu
 have hku : iH u.kind = true := by have := hsu.2; rw [h] at this; simpa [dh] using this
 have c : aE t.text = 2 := by rw [h] at hw; simp [dg] at hw; omega
 have e1 : tkA last (pcT t) ++ rest = tk last (t.leads.getD 0 []) [116, 121, 112, 101] :: tk [116, 121, 112, 101] (t.leads.getD 1 []) t.text :: tk t.text (t.leads.getD 2 []) [61] :: (tkA [61] (pcT u) ++ rest) := by
  rw [bg, h]
  show tkA last (⟨t.leads.getD 0 [], [116, 121, 112, 101]⟩ :: ⟨t.leads.getD 1 [], t.text⟩ :: ⟨t.leads.getD 2 [], [61]⟩ :: (pcTs t.kids).getD 0 []) ++ rest = _
  rw [bE hu]; rfl
 have e2 : spT t last = .node 3 t.text [ah last (t.leads.getD 0 []) [116, 121, 112, 101], ah [116, 121, 112, 101] (t.leads.getD 1 []) t.text, ah t.text (t.leads.getD 2 []) [61]] [spT u [61]] := by
  rw [gf, h]
  show Tree.node 3 _ _ [(spTs t.kids).getD 0 _ _] = _
  rw [cX hu]
 rw [e1, e2]
 intro off sz at_ hi h0 h1
 obtain ⟨o0, q0, i0⟩ := cC (w := [116, 121, 112, 101]) rfl off sz at_ hi h0 h1
 obtain ⟨o1, q1, i1⟩ := oG (k := 2) (o2 := 2) (t := tk [116, 121, 112, 101] (t.leads.getD 1 []) t.text) (by simp only [tk]; omega) (by simp only [tk]; omega) o0 sz at_ i0 h0 h1
 obtain ⟨o2, q2, i2⟩ := cC (w := [61]) rfl o1 sz at_ i1 h0 h1
 obtain ⟨o3, q3, i3⟩ := uD u hku hsu.1 [61] rest o2 sz at_ i2 h0 h1
 exact ⟨o3, qi 0 _ _ _ _ _ _ _ _ _ _ _ ⟨by decide, _, _, _, _, _, _, q0, [], rfl, _, _, _, _, _, _, _, q1, [], rfl, _, _, _, _, _, _, q2, [], rfl, _, _, _, _, _, _, q3, rfl, rfl, rfl, rfl, rfl, rfl⟩, i3⟩
theorem zl {n i kk : Int} : dh 2 n i kk = (if i = n - 1 then cG kk else if i = n - 2 then iH kk else kk == 4) := rfl
theorem tL : ∀ (us : List Tree) (i : Nat) (last : List UInt8), (bJ (spTs us) (pcTs us) i last).length = us.length
 | [], i, last => rfl
 | u :: us, i, last => by simp only [spTs, pcTs, bJ, List.length_cons, tL us]
theorem rW (ks : List Tree) (n : Nat) : spTs (ks.take n) = (spTs ks).take n := by rw [qX, qX, List.map_take]
theorem Gf {t : Tree} (h : t.kind = 2) (hs : shapeK t = true) (hl : limK t = true) (last : List UInt8) (rest : List TokZ) (hr : fol rest) : Ok Pfn (tkA last (pcT t) ++ rest) (spT t last) rest := by
 have hn := (bu hs).1 h
 have hm := (uM hl).2.1 h
 have hw := eb hs
 obtain ⟨ty, hty, _⟩ | h' := aN t.kids (t.kids.length - 2)
 rotate_left
 ·omega
 obtain ⟨bd, hbd, _⟩ | h' := aN t.kids (t.kids.length - 1)
 rotate_left
 ·omega
 have sty := aL hs hty
 have sbd := aL hs hbd
 have kty : iH ty.kind = true := by have := sty.2; rw [h, zl] at this; rw [if_neg (by omega), if_pos (by omega)] at this; exact this
 have kbd : cG bd.kind = true := by have := sbd.2; rw [h, zl] at this; rw [if_pos (by omega)] at this; exact this
 have xbd : Xok bd := (Dl bd sbd.1 (gK hl hbd)).1
 have hP : ∀ u ∈ t.kids.take (t.kids.length - 2), (∀ last rest, Ok Ppm (tkA last (pcT u) ++ rest) (spT u last) rest) ∧ ∃ p r, pcT u = p :: r ∧ p.Text ≠ [41] := fun u hu => by
  obtain ⟨i, hi, e⟩ := List.mem_iff_getElem.1 hu
  have hl' := hi
  rw [List.length_take] at hl'
  have hu' : t.kids[i]? = some u := by rw [← e, List.getElem_take]; exact List.getElem?_eq_getElem (by omega)
  have su := aL hs hu'
  have k4 : u.kind = 4 := by
   have := su.2; rw [h, zl] at this; rw [if_neg (by omega), if_neg (by omega)] at this; simpa using this
  have wu := eb su.1
  have cu : aE u.text = 1 := by rw [k4] at wu; simp [dg] at wu; omega
  exact ⟨BD k4 su.1, ⟨u.leads.getD 0 [], u.text⟩, ⟨u.leads.getD 1 [], [58]⟩ :: (pcTs u.kids).getD 0 [], by rw [bg, k4]; rfl, dF cu (by decide)⟩
 have hlen : (t.kids.take (t.kids.length - 2)).length ≤ 8 := by rw [List.length_take]; omega
 have c : aE t.text = 1 := by rw [h] at hw; simp [dg] at hw; omega
 have eR : aw t.leads 6 ((pcTs t.kids).take ((pcTs t.kids).length - 2)) 0 = aw t.leads 6 (pcTs (t.kids.take (t.kids.length - 2))) 0 := by rw [jD, oe]
 have e1 : tkA last (pcT t) ++ rest = tk last (t.leads.getD 0 []) [100, 101, 102] :: tk [100, 101, 102] (t.leads.getD 1 []) t.text :: tk t.text (t.leads.getD 2 []) [40] :: (tkA [40] (aw t.leads 6 (pcTs (t.kids.take (t.kids.length - 2))) 0) ++ (tk (ae [40] (aw t.leads 6 (pcTs (t.kids.take (t.kids.length - 2))) 0)) (t.leads.getD 3 []) [41] :: tk [41] (t.leads.getD 4 []) [58] :: (tkA [58] (pcT ty) ++ (tk (ae [58] (pcT ty)) (t.leads.getD 5 []) [61] :: (tkA [61] (pcT bd) ++ rest))))) := by
  rw [bg, h]
  show tkA last (⟨t.leads.getD 0 [], [100, 101, 102]⟩ :: ⟨t.leads.getD 1 [], t.text⟩ :: ⟨t.leads.getD 2 [], [40]⟩ :: (aw t.leads 6 ((pcTs t.kids).take ((pcTs t.kids).length - 2)) 0 ++ (⟨t.leads.getD 3 [], [41]⟩ :: ⟨t.leads.getD 4 [], [58]⟩ :: ((pcTs t.kids).getD ((pcTs t.kids).length - 2) [] ++ (⟨t.leads.getD 5 [], [61]⟩ :: (pcTs t.kids).getD ((pcTs t.kids).length - 1) []))))) ++ rest = _
  rw [eR, jD, bE hty, bE hbd]
  simp only [gk, fz, mD, dH, bF, List.cons_append, List.append_assoc, List.nil_append]
 have e2 : spT t last = .node 2 t.text ([ah last (t.leads.getD 0 []) [100, 101, 102], ah [100, 101, 102] (t.leads.getD 1 []) t.text, ah t.text (t.leads.getD 2 []) [40], ah (ae [40] (aw t.leads 6 (pcTs (t.kids.take (t.kids.length - 2))) 0)) (t.leads.getD 3 []) [41], ah [41] (t.leads.getD 4 []) [58], ah (ae [58] (pcT ty)) (t.leads.getD 5 []) [61]] ++ ca t.leads 6 (pcTs (t.kids.take (t.kids.length - 2))) 0 [40]) (bJ (spTs (t.kids.take (t.kids.length - 2))) (pcTs (t.kids.take (t.kids.length - 2))) 0 [40] ++ [spT ty [58], spT bd [61]]) := by
  rw [gf, h]
  show Tree.node 2 _ ([_, _, _, ah (ae [40] (aw t.leads 6 ((pcTs t.kids).take ((pcTs t.kids).length - 2)) 0)) _ _, _, ah (ae [58] ((pcTs t.kids).getD ((pcTs t.kids).length - 2) [])) _ _] ++ ca t.leads 6 ((pcTs t.kids).take ((pcTs t.kids).length - 2)) 0 [40]) (bJ ((spTs t.kids).take ((pcTs t.kids).length - 2)) ((pcTs t.kids).take ((pcTs t.kids).length - 2)) 0 [40] ++ [(spTs t.kids).getD ((pcTs t.kids).length - 2) _ _, (spTs t.kids).getD ((pcTs t.kids).length - 1) _ _]) = _
  rw [eR, jD, oe, rW, bE hty, cX hty, cX hbd]
 rw [e1, e2]
 generalize t.kids.take (t.kids.length - 2) = us at hP hlen
 generalize t.leads = ls
 intro off sz at_ hi h0 h1
 obtain ⟨o1, q1, i1⟩ := cC (w := [100, 101, 102]) rfl off sz at_ hi h0 h1
 obtain ⟨o2, q2, i2⟩ := oG (k := 1) (o2 := 1) (t := tk [100, 101, 102] (ls.getD 1 []) t.text) (by simp only [tk]; omega) (by simp only [tk]; omega) o1 sz at_ i1 h0 h1
 obtain ⟨o3, q3, i3⟩ := cC (w := [40]) rfl o2 sz at_ i2 h0 h1
 have hB : fol (tk (ae [58] (pcT ty)) (ls.getD 5 []) [61] :: (tkA [61] (pcT bd) ++ rest)) := ⟨show ([61] : List UInt8) ≠ [40] by decide, show en [61] = false by decide⟩
 cases us with
 | nil =>
  obtain ⟨p1, r1, j1⟩ := cC (w := [41]) rfl o3 sz at_ i3 h0 h1
  obtain ⟨p2, r2, j2⟩ := cC (w := [58]) rfl p1 sz at_ j1 h0 h1
  obtain ⟨p3, r3, j3⟩ := uD ty kty sty.1 [58] _ p2 sz at_ j2 h0 h1
  obtain ⟨p4, r4, j4⟩ := cC (w := [61]) rfl p3 sz at_ j3 h0 h1
  obtain ⟨p5, r5, j5⟩ := xbd kbd [61] rest hr p4 sz at_ j4 h0 h1
  exact ⟨p5, jR 0 _ _ _ _ _ _ _ _ _ _ _ ⟨by decide, _, _, _, _, _, _, q1, [], rfl, _, _, _, _, _, _, _, q2, [], rfl, _, _, _, _, _, _, q3, [], rfl, _, _, _, _, _, _, cq, fun e => absurd rfl e, fun _ => ⟨_, _, _, _, _, _, r1, [], rfl, _, _, _, _, _, _, r2, [], rfl, _, _, _, _, _, _, r3, _, _, _, _, _, _, r4, [], rfl, _, _, _, _, _, _, r5, by simp, rfl, rfl, rfl, rfl, rfl, rfl⟩⟩, j5⟩
 | cons u us =>
  simp only [List.length_cons] at hlen
  have e1 : ∀ Z : List UInt8 → List TokZ, tkA [40] (aw ls 6 (pcTs (u :: us)) 0) ++ Z (ae [40] (aw ls 6 (pcTs (u :: us)) 0)) = tkA [40] (pcT u) ++ (tkA (ae [40] (pcT u)) (aw ls 6 (pcTs us) 1) ++ Z (ae (ae [40] (pcT u)) (aw ls 6 (pcTs us) 1))) := fun Z => by
   show tkA [40] (pcT u ++ aw ls 6 (pcTs us) 1) ++ Z (ae [40] (pcT u ++ aw ls 6 (pcTs us) 1)) = _
   simp only [fz, bF, List.append_assoc]
  have e2 : ae [40] (aw ls 6 (pcTs (u :: us)) 0) = ae (ae [40] (pcT u)) (aw ls 6 (pcTs us) 1) := by show ae [40] (pcT u ++ aw ls 6 (pcTs us) 1) = _; rw [bF]
  have e3 : ca ls 6 (pcTs (u :: us)) 0 [40] = ca ls 6 (pcTs us) 1 (ae [40] (pcT u)) := rfl
  have e4 : bJ (spTs (u :: us)) (pcTs (u :: us)) 0 [40] = spT u [40] :: bJ (spTs us) (pcTs us) 1 (ae [40] (pcT u)) := rfl
  have e5 := e1 fun y => tk y (ls.getD 3 []) [41] :: tk [41] (ls.getD 4 []) [58] :: (tkA [58] (pcT ty) ++ (tk (ae [58] (pcT ty)) (ls.getD 5 []) [61] :: (tkA [61] (pcT bd) ++ rest)))
  have hE : ∀ y, fol (tk y (ls.getD 3 []) [41] :: tk [41] (ls.getD 4 []) [58] :: (tkA [58] (pcT ty) ++ (tk (ae [58] (pcT ty)) (ls.getD 5 []) [61] :: (tkA [61] (pcT bd) ++ rest)))) := fun y => ⟨show ([41] : List UInt8) ≠ [40] by decide, show en [41] = false by decide⟩
  have hp : (hdT (tkA [40] (aw ls 6 (pcTs (u :: us)) 0) ++ (tk (ae [40] (aw ls 6 (pcTs (u :: us)) 0)) (ls.getD 3 []) [41] :: tk [41] (ls.getD 4 []) [58] :: (tkA [58] (pcT ty) ++ (tk (ae [58] (pcT ty)) (ls.getD 5 []) [61] :: (tkA [61] (pcT bd) ++ rest)))))).Text ≠ [41] := by
   obtain ⟨p, r, hp, hp1⟩ := (hP u (by simp)).2
   rw [e5, ws hp]; exact hp1
  rw [e5] at i3 q1 q2 q3 hp ⊢
  obtain ⟨p0, r0, j0⟩ := (hP u (by simp)).1 [40] _ o3 sz at_ i3 h0 h1
  obtain ⟨o4, i4, k4⟩ := uE (P := Ppm) (at_ := at_) h0 h1 ls 6 8 (fun y => tk y (ls.getD 3 []) [41] :: tk [41] (ls.getD 4 []) [58] :: (tkA [58] (pcT ty) ++ (tk (ae [58] (pcT ty)) (ls.getD 5 []) [61] :: (tkA [61] (pcT bd) ++ rest)))) hE (fun m b o A K (q : Tree × List GToken × Int × Int × Int × Int) => cr m t.text (b.map gTk) o sz 0 at_ A K q.1 q.2.1 q.2.2.1 q.2.2.2.1 q.2.2.2.2.1 q.2.2.2.2.2)
   (fun {m t r o o1 u b o2 A K q} ht hk ha hk2 qt qp h => jE m _ _ _ _ _ _ _ _ _ _ _ _ _ _ ⟨_, _, _, _, _, _, cq, fun _ => ⟨_, _, _, _, _, _, qt, by simp; omega, fun e => absurd e (by omega), fun _ => ⟨_, _, _, _, _, _, qp, by simp; omega, h⟩⟩, fun e => absurd ht e⟩)
   us 1 (ae [40] (pcT u)) [ah last (ls.getD 0 []) [100, 101, 102], ah [100, 101, 102] (ls.getD 1 []) t.text, ah t.text (ls.getD 2 []) [40], [], [], []] [spT u [40]] p0 (fun v hv last rest _ => (hP v (by simp [hv])).1 last rest) (by simp; omega) (by simp; omega) (by simp; omega) (by decide) j0
  obtain ⟨p1, r1, j1⟩ := cC (w := [41]) rfl o4 sz at_ i4 h0 h1
  obtain ⟨p2, r2, j2⟩ := cC (w := [58]) rfl p1 sz at_ j1 h0 h1
  obtain ⟨p3, r3, j3⟩ := uD ty kty sty.1 [58] _ p2 sz at_ j2 h0 h1
  obtain ⟨p4, r4, j4⟩ := cC (w := [61]) rfl p3 sz at_ j3 h0 h1
  obtain ⟨p5, r5, j5⟩ := xbd kbd [61] rest hr p4 sz at_ j4 h0 h1
  have hrk := tL us 1 (ae [40] (pcT u))
  obtain ⟨m, hm'⟩ := k4 1 (_, _, _, _, _, _) (jE 0 _ _ _ _ _ _ _ _ _ _ _ _ _ _ ⟨_, _, _, _, _, _, cq, fun e => absurd e (show ¬ ([41] : List UInt8) = [44] by decide), fun _ => ⟨_, _, _, _, _, _, r1, [], rfl, _, _, _, _, _, _, r2, [], rfl, _, _, _, _, _, _, r3, by simp; omega, _, _, _, _, _, _, r4, [], rfl, _, _, _, _, _, _, r5, by simp; omega, rfl, rfl, rfl, rfl, rfl, rfl⟩⟩)
  refine ⟨p5, jR m _ _ _ _ _ _ _ _ _ _ _ ⟨by decide, _, _, _, _, _, _, q1, [], rfl, _, _, _, _, _, _, _, q2, [], rfl, _, _, _, _, _, _, q3, [], rfl, _, _, _, _, _, _, nM, fun _ => ⟨_, _, _, _, _, _, r0, ?_⟩, fun e => absurd e hp⟩, j5⟩
  rw [e2, e3, e4, show ∀ (X : List Tree) a b, X ++ [a, b] = (X ++ [a]) ++ [b] from fun X a b => by simp]; exact hm'
theorem Ch : ∀ (ks : List Tree) (last : List UInt8), (∀ u ∈ ks, u.kind = 2 ∨ u.kind = 3) → fol (tkA last (pcTs ks).flatten)
 | [], last, h => ⟨by simp [pcTs, tkA, hdT], rfl⟩
 | u :: r, last, h => by
  simp only [pcTs, List.flatten_cons]
  rcases h u (by simp) with h | h
  ·rw [bg, h]; exact ⟨show ([100, 101, 102] : List UInt8) ≠ [40] by decide, show en [100, 101, 102] = false by decide⟩
  ·rw [bg, h]; exact ⟨show ([116, 121, 112, 101] : List UInt8) ≠ [40] by decide, show en [116, 121, 112, 101] = false by decide⟩
theorem ve {sz at_ : Int} (h0 : 0 ≤ sz) (h1 : sz ≤ 4000000000) {a b c : List UInt8} : ∀ (ks : List Tree) (last : List UInt8) (K : List Tree) (off : Int), (∀ u ∈ ks, (u.kind = 2 ∨ u.kind = 3) ∧ shapeK u = true ∧ limK u = true) → K.length + ks.length ≤ 40 → Iv (tkA last (pcTs ks).flatten) off → ∃ m o', ci m a b c ((tkA last (pcTs ks).flatten).map gTk) off sz 0 at_ K 1 b [a, c, []] (K ++ fB (spTs ks) (pcTs ks) last) [] o' sz 0 at_
 | [], last, K, off, hu, hl, hv => ⟨1, off, gl 0 _ _ _ _ _ _ _ _ _ _ _ _ _ _ _ _ _ _ ⟨fun h => by simp [pcTs, tkA] at h, fun _ => ⟨rfl, rfl, rfl, by simp [spTs, pcTs, fB], rfl, rfl, rfl, rfl, rfl⟩⟩⟩
 | u :: ks, last, K, off, hu, hl, hv => by
  obtain ⟨hk, hs, hli⟩ := hu u (by simp)
  simp only [List.length_cons] at hl
  have e1 : tkA last (pcTs (u :: ks)).flatten = tkA last (pcT u) ++ tkA (ae last (pcT u)) (pcTs ks).flatten := by simp only [pcTs, List.flatten_cons, fz]
  have e2 : fB (spTs (u :: ks)) (pcTs (u :: ks)) last = spT u last :: fB (spTs ks) (pcTs ks) (ae last (pcT u)) := rfl
  have hf := Ch ks (ae last (pcT u)) fun v hv => (hu v (by simp [hv])).1
  rw [e1] at hv ⊢
  rw [e2]
  rcases hk with h | h
  ·obtain ⟨o1, q1, i1⟩ := Gf h hs hli last _ hf off sz at_ hv h0 h1
   obtain ⟨m, o2, q2⟩ := ve h0 h1 ks (ae last (pcT u)) (K ++ [spT u last]) o1 (fun v hv => hu v (by simp [hv])) (by simp; omega) i1
   rw [List.append_assoc] at q2
   have hp : (hdT (tkA last (pcT u) ++ tkA (ae last (pcT u)) (pcTs ks).flatten)).Text = [100, 101, 102] := by rw [bg, h]; rfl
   have hlen : (0 : Int) < (((tkA last (pcT u) ++ tkA (ae last (pcT u)) (pcTs ks).flatten).map gTk).length : Nat) := by rw [bg, h]; simp [bc, tkA]; omega
   exact ⟨m + 2, o2, gl (m + 1) _ _ _ _ _ _ _ _ _ _ _ _ _ _ _ _ _ _ ⟨fun _ => ⟨_, _, _, _, _, _, nM, fun e => absurd hp e, fun _ => kw m _ _ _ _ _ _ _ _ _ _ _ _ _ _ _ _ _ _ _ _ ⟨fun e => (by cases e), fun _ => ⟨fun e => by omega, fun _ => ⟨fun _ => ⟨_, _, _, _, _, _, q1, by simp; omega, q2⟩, fun e => absurd hp e⟩⟩⟩⟩, fun e => absurd hlen e⟩⟩
  ·obtain ⟨o1, q1, i1⟩ := BJ h hs last _ off sz at_ hv h0 h1
   obtain ⟨m, o2, q2⟩ := ve h0 h1 ks (ae last (pcT u)) (K ++ [spT u last]) o1 (fun v hv => hu v (by simp [hv])) (by simp; omega) i1
   rw [List.append_assoc] at q2
   have hp : (hdT (tkA last (pcT u) ++ tkA (ae last (pcT u)) (pcTs ks).flatten)).Text = [116, 121, 112, 101] := by rw [bg, h]; rfl
   have hp2 : ¬ (hdT (tkA last (pcT u) ++ tkA (ae last (pcT u)) (pcTs ks).flatten)).Text = [100, 101, 102] := by rw [hp]; decide
   have hlen : (0 : Int) < (((tkA last (pcT u) ++ tkA (ae last (pcT u)) (pcTs ks).flatten).map gTk).length : Nat) := by rw [bg, h]; simp [bc, tkA]; omega
   exact ⟨m + 2, o2, gl (m + 1) _ _ _ _ _ _ _ _ _ _ _ _ _ _ _ _ _ _ ⟨fun _ => ⟨_, _, _, _, _, _, nM, fun _ => kw m _ _ _ _ _ _ _ _ _ _ _ _ _ _ _ _ _ _ _ _ ⟨fun e => by rw [hp] at e; exact absurd e (by decide), fun _ => ⟨fun e => by omega, fun _ => ⟨fun e => absurd e hp2, fun _ => ⟨_, _, _, _, _, _, q1, by simp; omega, q2⟩⟩⟩⟩, fun e => absurd e hp2⟩, fun e => absurd hlen e⟩⟩
mutual
def depK : Tree → Nat
 | .node _ _ _ ks => depKs ks + 1
def depKs : List Tree → Nat
 | [] => 0
 | t :: r => max (depK t) (depKs r)
end
theorem uN (t : Tree) : depK t = depKs t.kids + 1 := by cases t; simp only [depK]; rfl
mutual
def cntK : Tree → Nat
 | .node _ _ _ ks => cntKs ks + 1
def cntKs : List Tree → Nat
 | [] => 0
 | t :: r => cntK t + cntKs r
end
theorem mE (t : Tree) : cntK t = cntKs t.kids + 1 := by cases t; simp only [cntK]; rfl
theorem sr : ∀ ks : List Tree, ks.length ≤ cntKs ks
 | [] => Nat.le_refl _
 | t :: r => by have := sr r; have := mE t; simp only [cntKs, List.length_cons]; omega
theorem oK : ∀ {ks : List Tree} {i : Nat} {u : Tree}, ks[i]? = some u → cntK u ≤ cntKs ks
 | [], i, t, h => by simp at h
 | u :: r, 0, t, h => by simp only [List.getElem?_cons_zero, Option.some.injEq] at h; subst h; simp only [cntKs]; omega
 | u :: r, i + 1, t, h => by have := oK (ks := r) (i := i) (by simpa using h); simp only [cntKs]; omega
mutual
theorem cnt_bulk : ∀ t : Tree, cntK t ≤ tbulk t
 | .node _ _ _ ks => by have := cnt_bulks ks; simp only [cntK, tbulk]; omega
theorem cnt_bulks : ∀ ks : List Tree, cntKs ks ≤ kbulk ks
 | [] => Nat.le_refl _
 | t :: r => by have := cnt_bulk t; have := cnt_bulks r; simp only [cntKs, kbulk]; omega
end
mutual
theorem dep_cnt : ∀ t : Tree, depK t ≤ cntK t
 | .node _ _ _ ks => by have := dep_cnts ks; simp only [cntK, depK]; omega
theorem dep_cnts : ∀ ks : List Tree, depKs ks ≤ cntKs ks
 | [] => Nat.le_refl _
 | t :: r => by have := dep_cnt t; have := dep_cnts r; simp only [cntKs, depKs]; omega
end
theorem yE {L : Nat → Tree → Int → Nat → Int → Prop} {S : Tree → Int → Prop} (t : Tree) (ht : cntK t ≤ 1000000000) (hS : ∀ (i : Nat) (u : Tree), t.kids[i]? = some u → S u (depK u))
  (r : ∀ m (z : Int) (i : Nat) (x : Int), ((i < t.kids.length) → ∃ u, t.kids[i]? = some u ∧ ∃ n, S u n ∧ i + 1 ≤ 9223372036854775807 ∧ L m t (max z n) (i + 1) x) ∧ ((¬ i < t.kids.length) → InI (z + 1) ∧ z + 1 = x) → L (m + 1) t z i x) : ∃ m, L m t 0 0 (depK t) := by
 have hc := mE t
 have hl := sr t.kids
 have hd := dep_cnts t.kids
 have loop : ∀ k i (z : Nat), t.kids.length - i ≤ k → z ≤ 1000000000 → L (k + 1) t z i ((max z (depKs (t.kids.drop i)) + 1 : Nat) : Int) := fun k => by
  have fin : ∀ m i (z : Nat), ¬ i < t.kids.length → z ≤ 1000000000 → L (m + 1) t z i ((max z (depKs (t.kids.drop i)) + 1 : Nat) : Int) := fun m i z hi hz => r m _ _ _ ⟨fun h => absurd h hi, fun _ => ⟨by constructor <;> omega, by rw [List.drop_of_length_le (by omega)]; simp only [depKs]; omega⟩⟩
  induction k with
  | zero => intro i z hi hz; exact fin 0 i z (by omega) hz
  | succ k ihk =>
   intro i z hi hz
   obtain ⟨u, hu, hul⟩ | h' := aN t.kids i
   ·have h1 := oK hu
    have h2 := dep_cnt u
    have := ihk (i + 1) (max z (depK u)) (by omega) (by omega)
    refine r (k + 1) _ _ _ ⟨fun _ => ⟨u, hu, _, hS i u hu, by omega, ?_⟩, fun h => absurd hul h⟩
    rw [cV hu, depKs]
    rw [show max ((z : Nat) : Int) ((depK u : Nat) : Int) = ((max z (depK u) : Nat) : Int) by omega, ← Nat.max_assoc]
    exact this
   ·exact fin _ i z h' hz
 have := loop t.kids.length 0 0 (by omega) (by omega)
 rw [List.drop_zero, Nat.zero_max, ← uN] at this
 exact ⟨_, this⟩
theorem xt : ∀ t : Tree, cntK t ≤ 1000000000 → fY t (depK t) := bV fun t ih ht => by
 have hc := mE t
 obtain ⟨m, hm⟩ := yE (L := jU) (S := fY) t ht (fun i u hu => ih i u hu (by have := oK hu; omega)) (fun m z i x h => tl m t z i x h)
 exact uw m _ _ hm
theorem BH : ∀ t : Tree, cntK t ≤ 1000000000 → ew t (depK t) := bV fun t ih ht => by
 have hc := mE t
 obtain ⟨m, hm⟩ := yE (L := fT) (S := ew) t ht (fun i u hu => ih i u hu (by have := oK hu; omega)) (fun m z i x h => qx m t z i x ⟨fun hi => by obtain ⟨u, hu, n, hn, _, hr⟩ := h.1 hi; exact ⟨u, hu, n, hn, hr⟩, h.2⟩)
 exact rc m _ _ hm
theorem sG : ∀ (ks : List Tree) (i : Nat) (last : List UInt8), ∃ ls : List (List UInt8), ls.length = ks.length ∧ bJ (spTs ks) (pcTs ks) i last = List.zipWith spT ks ls
 | [], i, last => ⟨[], rfl, rfl⟩
 | u :: r, i, last => by
  obtain ⟨ls, h1, h2⟩ := sG r (i + 1) (ae (if 0 < i then [44] else last) (pcT u))
  exact ⟨(if 0 < i then [44] else last) :: ls, by simp [h1], by simp only [spTs, pcTs, bJ, List.zipWith_cons_cons, h2]⟩
theorem xS : ∀ (ks : List Tree) (last : List UInt8), ∃ ls : List (List UInt8), ls.length = ks.length ∧ fB (spTs ks) (pcTs ks) last = List.zipWith spT ks ls
 | [], last => ⟨[], rfl, rfl⟩
 | u :: r, last => by
  obtain ⟨ls, h1, h2⟩ := xS r (ae last (pcT u))
  exact ⟨last :: ls, by simp [h1], by simp only [spTs, pcTs, fB, List.zipWith_cons_cons, h2]⟩
theorem sF {t : Tree} (hs : shapeK t = true) (last : List UInt8) : ∃ ls : List (List UInt8), ls.length = t.kids.length ∧ (spT t last).kids = List.zipWith spT t.kids ls := by
 have hn := bu hs
 have hl := mI hs
 rw [gf]
 by_cases h1 : t.kind = 1
 ·rw [h1]; exact xS t.kids t.text
 by_cases h2 : t.kind = 2
 ·obtain ⟨l1, b, e1⟩ := qy t.kids (by have := hn.1 h2; omega)
  obtain ⟨us, a, e2⟩ := qy l1 (by have := hn.1 h2; rw [e1, List.length_append] at this; simp at this; omega)
  subst e2
  have e : t.kids = us ++ [a, b] := by rw [e1]; simp
  obtain ⟨ls, z1, z2⟩ := sG us 0 [40]
  refine ⟨ls ++ [[58], [61]], by rw [e]; simp [z1], ?_⟩
  have hg : (pcTs t.kids).length - 2 = us.length := by rw [jD, e]; simp
  have ha : t.kids[us.length]? = some a := by rw [e]; simp
  have hb : t.kids[us.length + 1]? = some b := by rw [e]; simp
  have g1 : (pcTs t.kids).length - 1 = us.length + 1 := by rw [jD, e]; simp
  have tk : t.kids.take us.length = us := by rw [e]; simp
  rw [h2]
  show bJ ((spTs t.kids).take ((pcTs t.kids).length - 2)) ((pcTs t.kids).take ((pcTs t.kids).length - 2)) 0 [40] ++ [(spTs t.kids).getD ((pcTs t.kids).length - 2) _ _, (spTs t.kids).getD ((pcTs t.kids).length - 1) _ _] = _
  rw [hg, g1, cX ha, cX hb, ← rW, ← oe, tk, z2, e, List.zipWith_append z1.symm]
  rfl
 have one : t.kids.length = 1 → ∃ a, t.kids = [a] := List.length_eq_one_iff.1
 have two : t.kids.length = 2 → ∃ a b, t.kids = [a, b] := fun h => match t.kids, h with | [a, b], _ => ⟨a, b, rfl⟩
 have three : t.kids.length = 3 → ∃ a b c, t.kids = [a, b, c] := fun h => match t.kids, h with | [a, b, c], _ => ⟨a, b, c, rfl⟩
 by_cases h3 : t.kind = 3
 ·obtain ⟨a, e⟩ := one (hn.2.2.1 (by omega)); rw [h3, e]; exact ⟨[[61]], rfl, rfl⟩
 by_cases h4 : t.kind = 4
 ·obtain ⟨a, e⟩ := one (hn.2.2.1 (by omega)); rw [h4, e]; exact ⟨[[58]], rfl, rfl⟩
 by_cases h8 : t.kind = 8
 ·obtain ⟨a, e⟩ := one (hn.2.2.1 (by omega)); rw [h8, e]; exact ⟨[[91]], rfl, rfl⟩
 by_cases h17 : t.kind = 17
 ·obtain ⟨a, e⟩ := one (hn.2.2.1 (by omega)); rw [h17, e]; exact ⟨[last], rfl, rfl⟩
 by_cases h22 : t.kind = 22
 ·obtain ⟨a, e⟩ := one (hn.2.2.1 (by omega)); rw [h22, e]; exact ⟨[[40]], rfl, rfl⟩
 by_cases h16 : t.kind = 16
 ·rw [h16]; exact sG t.kids 0 [40]
 by_cases h18 : t.kind = 18
 ·rw [h18]; exact sG t.kids 0 [91]
 by_cases h19 : t.kind = 19
 ·obtain ⟨a, b, c, e⟩ := three (hn.2.2.2.1 h19); rw [h19, e]; exact ⟨[[105, 102], [116, 104, 101, 110], [101, 108, 115, 101]], rfl, rfl⟩
 by_cases h20 : t.kind = 20
 ·obtain ⟨a, b, e⟩ := two (hn.2.2.2.2 (by omega)); rw [h20, e]; exact ⟨[[61], [105, 110]], rfl, rfl⟩
 by_cases h21 : t.kind = 21
 ·obtain ⟨a, b, e⟩ := two (hn.2.2.2.2 (by omega)); rw [h21, e]; exact ⟨[last, t.text], rfl, rfl⟩
 have e : t.kids = [] := by
  simp only [aV, f0, h1, h2, h3, h4, h8, h16, h17, h18, h19, h20, h21, h22, if_false] at hl
  split at hl
  ·have : t.kids.length = 0 := by
    split at hl
    ·omega
    ·omega
   exact List.eq_nil_of_length_eq_zero this
  ·omega
 refine ⟨[], by rw [e]; rfl, ?_⟩
 rw [e]
 simp only [spN, h1, h2, h3, h4, h8, h16, h17, h18, h19, h20, h21, h22, if_false]
 rfl
theorem yC : ∀ (ks : List Tree) (ls : List (List UInt8)), ls.length = ks.length → (∀ (i : Nat) (u : Tree), ks[i]? = some u → ∀ l, depK (spT u l) = depK u ∧ cntK (spT u l) = cntK u) → depKs (List.zipWith spT ks ls) = depKs ks ∧ cntKs (List.zipWith spT ks ls) = cntKs ks
 | [], [], h, hu => ⟨rfl, rfl⟩
 | u :: r, l :: ls, h, hu => by
  have := yC r ls (by simpa using h) fun i v hv => hu (i + 1) v (by simpa using hv)
  have h0 := hu 0 u rfl l
  simp only [List.zipWith_cons_cons, depKs, cntKs, this, h0, and_self]
theorem Ec : ∀ t : Tree, shapeK t = true → ∀ last, depK (spT t last) = depK t ∧ cntK (spT t last) = cntK t := bV fun t ih hs last => by
 obtain ⟨ls, h1, h2⟩ := sF hs last
 have := yC t.kids ls h1 fun i u hu l => ih i u hu (aL hs hu).1 l
 rw [uN, uN t, mE, mE t, h2, this.1, this.2]; exact ⟨rfl, rfl⟩
theorem yH : ∀ (l : List TokZ) (x : List UInt8), (cx l x).length = wA l + x.length
 | [], x => by simp [cx, wA]
 | t :: r, x => by simp only [cx, wA, List.length_append, yH r x]; omega
theorem uL {t : Tree} (hk : t.kind = 1) : spT t [] = .node 1 t.text [ah [] (t.leads.getD 0 []) [109, 111, 100, 117, 108, 101], ah [109, 111, 100, 117, 108, 101] (t.leads.getD 1 []) t.text, t.leads.getD 2 []] (fB (spTs t.kids) (pcTs t.kids) t.text) := by rw [gf, hk]; rfl
theorem zr {t : Tree} (hk : t.kind = 1) (hs : shapeK t = true) (hl : leadedT t = true) (hm : limK t = true) (hd : depK t ≤ 40) (hc : cntK t ≤ 1000000000) (h4 : (ej t).length ≤ 4096) : gb (ej t) (spT t []) 0 0 := by
 have hsc := EM (ej t) (by omega)
 rw [Av hk hs hl h4] at hsc
 have hw := yH (tkA [] (pcM t)) (t.leads.getD 2 [])
 rw [← pK hk hs] at hw
 have c : aE t.text = 2 := by have hw := eb hs; rw [hk] at hw; simp [dg] at hw; omega
 have hsp := Ec t hs []
 have h40 := (uM hm).1 hk
 rw [uL hk] at hsp ⊢
 have e1 : tkA [] (pcM t) = tk [] (t.leads.getD 0 []) [109, 111, 100, 117, 108, 101] :: tk [109, 111, 100, 117, 108, 101] (t.leads.getD 1 []) t.text :: tkA t.text (pcTs t.kids).flatten := rfl
 rw [e1] at hsc hw
 have i0 : Iv (tk [] (t.leads.getD 0 []) [109, 111, 100, 117, 108, 101] :: tk [109, 111, 100, 117, 108, 101] (t.leads.getD 1 []) t.text :: tkA t.text (pcTs t.kids).flatten) ((ah [] (t.leads.getD 0 []) [109, 111, 100, 117, 108, 101]).length : Nat) := by
  rw [CO] at hw
  have hw' : (tk [] (t.leads.getD 0 []) [109, 111, 100, 117, 108, 101]).lead.length = (ah [] (t.leads.getD 0 []) [109, 111, 100, 117, 108, 101]).length := rfl
  exact ⟨by omega, by omega⟩
 have z0 : (0 : Int) ≤ ((ej t).length : Nat) := by omega
 have z1 : (((ej t).length : Nat) : Int) ≤ 4000000000 := by omega
 obtain ⟨o1, q1, i1⟩ := cC (w := [109, 111, 100, 117, 108, 101]) rfl _ _ 0 i0 z0 z1
 obtain ⟨o2, q2, i2⟩ := oG (k := 2) (o2 := 2) (t := tk [109, 111, 100, 117, 108, 101] (t.leads.getD 1 []) t.text) (by simp only [tk]; omega) (by simp only [tk]; omega) o1 _ 0 i1 z0 z1
 obtain ⟨m, o3, q3⟩ := ve (at_ := 0) z0 z1 (a := ah [] (t.leads.getD 0 []) [109, 111, 100, 117, 108, 101]) (b := t.text) (c := ah [109, 111, 100, 117, 108, 101] (t.leads.getD 1 []) t.text) t.kids t.text [] o2 (fun u hu => by
  obtain ⟨i, hi, e⟩ := List.mem_iff_getElem.1 hu
  have hu' : t.kids[i]? = some u := by rw [← e]; exact List.getElem?_eq_getElem hi
  have su := aL hs hu'
  exact ⟨by have := su.2; rw [hk] at this; simpa [dh] using this, su.1, gK hm hu'⟩) (by simpa using h40) i2
 have hf : ia _ _ _ 0 0 1 t.text [ah [] (t.leads.getD 0 []) [109, 111, 100, 117, 108, 101], ah [109, 111, 100, 117, 108, 101] (t.leads.getD 1 []) t.text, []] (fB (spTs t.kids) (pcTs t.kids) t.text) [] o3 _ 0 0 := px m _ _ _ _ _ _ _ _ _ _ _ _ _ _ ⟨by decide, _, _, _, _, _, _, q1, [], rfl, _, _, _, _, _, _, _, q2, [], rfl, q3⟩
 have hdep := xt (.node 1 t.text [ah [] (t.leads.getD 0 []) [109, 111, 100, 117, 108, 101], ah [109, 111, 100, 117, 108, 101] (t.leads.getD 1 []) t.text, []] (fB (spTs t.kids) (pcTs t.kids) t.text)) (by have := hsp.2; simp only [cntK] at this ⊢; omega)
 have hdk : depK (.node 1 t.text [ah [] (t.leads.getD 0 []) [109, 111, 100, 117, 108, 101], ah [109, 111, 100, 117, 108, 101] (t.leads.getD 1 []) t.text, []] (fB (spTs t.kids) (pcTs t.kids) t.text)) ≤ 40 := by have := hsp.1; simp only [depK] at this ⊢; omega
 exact uA 1 _ _ _ _ ⟨_, _, _, _, hsc, fun e => absurd rfl e, fun _ => ⟨fun _ => ⟨_, rfl, tJ 0 _ _ _ _ _ _ _ ⟨_, _, _, _, _, _, _, _, _, hf, fun e => absurd rfl e, fun _ => ⟨_, hdep, fun e => by omega, fun _ => ⟨[], rfl, rfl, rfl, rfl⟩⟩⟩⟩, fun e => absurd (by simp only [List.map_cons, List.length_cons]; omega) e⟩⟩
set_option maxHeartbeats 4000000
abbrev kZ (t : Tree) : List Tree := List.replicate t.kids.length (Tree.node 0 [] [] [])
abbrev vE (a0 : List UInt8) : Ob := .var 9 [.str a0]
abbrev vJ (a0 : Int) (a1 : List UInt8) (a2 : List Tree) : Ob := .var 25 [.int .i64 a0, .str a1, .sl 4, .row 4 (kidsV a2)]
def aq (c : Int) (d : List UInt8) (a : (List (List UInt8))) (e : List Tree) (p1 : Int) (p2 j : List UInt8) (f : Int) (g : List UInt8) (b : (List (List UInt8))) (i : List Tree) (k : List UInt8) : Prop := bS [] Tryz.prog 58 [.ptr 0 0, .int .i64 p1, .str p2, .ptr 2 0] ⟨3, [(2, vE j), (1, .row 9 1 (List.map V.str a)), (0, .var 25 [.int .i64 c, .str d, .sl 1, .row 4 (kidsV e)])]⟩ (fun u G => u = .tup [] ∧ G = ⟨3, [(2, vE k), (1, .row 9 1 (List.map V.str b)), (0, .var 25 [.int .i64 f, .str g, .sl 1, .row 4 (kidsV i)])]⟩)
def aD (p0 : Tree) (a : List UInt8) (r0 : Tree) (b : List UInt8) : Prop := bS [] Tryz.prog 30 [.agg (ai p0), .ptr 0 0] ⟨1, [(0, vE a)]⟩ (fun u G => u = .agg (ai r0) ∧ G = ⟨2, [(0, vE b)]⟩)
def fV (p0 r0 : Tree) : Prop := qS 12 [.agg (ai p0)] (.agg (ai r0))
def fa (p0 p1 : Tree) (r0 : Bool) : Prop := qS 11 [.agg (ai p0), .agg (ai p1)] (.bool r0)
theorem rp (m : Nat) (b : Int) (c : List UInt8) (a : (List (List UInt8))) (d : List Tree) (p1 : Int) (p2 n : List UInt8) (g : Int) (i : List UInt8) (e : (List (List UInt8))) (j : List Tree) (l : List UInt8) (h : ∃ o, p1 = ((o : Nat) : Int) ∧ ∃ p, a[o]? = some p ∧ ((p = []) → ((n ≠ []) → ∃ q, jJ n p2 q ∧ ((q = true) → ∃ k, p1 = ((k : Nat) : Int) ∧ ∃ r, a[k]? = some r ∧ b = g ∧ c = i ∧ (a.set k [32]) = e ∧ d = j ∧ p2 = l) ∧ ((q = false) → b = g ∧ c = i ∧ a = e ∧ d = j ∧ p2 = l)) ∧ ((n = []) → b = g ∧ c = i ∧ a = e ∧ d = j ∧ p2 = l)) ∧ ((p ≠ []) → b = g ∧ c = i ∧ a = e ∧ d = j ∧ p2 = l)) : aq b c a d p1 p2 n g i e j l := by
 refine am 38 [2, 0] Tryz.func58 rfl rfl rfl (aM rfl) fun K hK => ?_
 refine gR 8 rfl ?_
 obtain ⟨o, s, h⟩ := h
 refine gV 12 (.int .i64 ((o : Nat) : Int)) rfl (fP s) rfl ?_
 obtain ⟨p, hxs0_2, h⟩ := h
 refine gY (yIO ab rfl rfl rfl rfl (by have := (mapget (f := V.str) hxs0_2); exact (List.getElem?_eq_some_iff.1 this).1)) rfl rfl ?_
 refine gDo (.nop) (dLe ab rfl rfl rfl (mapget (f := V.str) hxs0_2) rfl) trivial rfl rfl rfl <| gR 2 rfl <| qBeZ 16 15 rfl rfl rfl rfl h (fun h => ?_) fun h => ?_
 refine gR 6 rfl <| qBhZ 22 21 rfl rfl rfl rfl h fh dz (fun h => ?_) fun h => ?_
 refine gR 4 rfl ?_
 obtain ⟨q, hs2, h⟩ := h
 refine gC0 hs2 (by kernel_rfl) rfl rfl .rfl rfl <| gR 3 rfl <| qBi 28 rfl rfl rfl h (fun h => ?_) fun h => ?_
 refine gR 7 rfl ?_
 obtain ⟨k, t, h⟩ := h
 refine gV 33 (.int .i64 ((k : Nat) : Int)) rfl (fP t) rfl ?_
 obtain ⟨r, hxs0_5, h⟩ := h
 refine gY (yIO ab rfl rfl rfl rfl (by have := (mapget (f := V.str) hxs0_5); exact (List.getElem?_eq_some_iff.1 this).1)) rfl rfl ?_
 refine gDo (.set 1 (.row 9 1 (List.map V.str (a.set k [32])))) (dSe ab rfl rfl rfl rfl (mapget (f := V.str) hxs0_5) rfl (cg V.str a k [32])) (okS rfl) rfl rfl rfl <| gR 8 rfl ?_
 obtain ⟨rfl, rfl, rfl, rfl, rfl⟩ := h
 exact go_sub (F' := (mkF 38 0 [])) (H' := ⟨3, [(2, vE p2), (1, .row 9 1 (List.map V.str (a.set k [32]))), (0, .var 25 [.int .i64 b, .str c, .sl 1, .row 4 (kidsV d)])]⟩) [0, 1, 2] [2, 0] rfl hK trivial ⟨pqo rfl rfl, ⟨_, rfl, rfl, rfl, (vK _ (a.set k [32])).symm⟩, (pqo1 rfl rfl)⟩ rfl <| go_endD [] ab (rs := []) rfl rfl ⟨rfl, rfl⟩
 refine gR 9 rfl ?_
 obtain ⟨rfl, rfl, rfl, rfl, rfl⟩ := h
 exact go_sub (F' := (mkF 38 0 [])) (H' := ⟨3, [(2, vE p2), (1, .row 9 1 (List.map V.str a)), (0, .var 25 [.int .i64 b, .str c, .sl 1, .row 4 (kidsV d)])]⟩) [0, 1, 2] [2, 0] rfl hK trivial ⟨pqo rfl rfl, ⟨_, rfl, rfl, rfl, (vK _ a).symm⟩, (pqo1 rfl rfl)⟩ rfl <| go_endD [] ab (rs := []) rfl rfl ⟨rfl, rfl⟩
 refine gR 17 rfl ?_
 obtain ⟨rfl, rfl, rfl, rfl, rfl⟩ := h
 exact go_sub (F' := (mkF 38 0 [])) (H' := ⟨3, [(2, vE p2), (1, .row 9 1 (List.map V.str a)), (0, .var 25 [.int .i64 b, .str c, .sl 1, .row 4 (kidsV d)])]⟩) [0, 1, 2] [2, 0] rfl hK trivial ⟨pqo rfl rfl, ⟨_, rfl, rfl, rfl, (vK _ a).symm⟩, (pqo1 rfl rfl)⟩ rfl <| go_endD [] ab (rs := []) rfl rfl ⟨rfl, rfl⟩
 refine gR 23 rfl ?_
 obtain ⟨rfl, rfl, rfl, rfl, rfl⟩ := h
 exact go_sub (F' := (mkF 38 0 [])) (H' := ⟨3, [(2, vE p2), (1, .row 9 1 (List.map V.str a)), (0, .var 25 [.int .i64 b, .str c, .sl 1, .row 4 (kidsV d)])]⟩) [0, 1, 2] [2, 0] rfl hK trivial ⟨pqo rfl rfl, ⟨_, rfl, rfl, rfl, (vK _ a).symm⟩, (pqo1 rfl rfl)⟩ rfl <| go_endD [] ab (rs := []) rfl rfl ⟨rfl, rfl⟩
def mu (m : Nat) (p0 : Tree) (a : List UInt8) (r0 : Tree) (b : List UInt8) : Prop := ∀ (K : Ctx), av K [0] → Go Tryz.prog K (bodyPost Tryz.prog Tryz.f30 (SP K (fun u G => u = .agg (ai r0) ∧ G = ⟨2, [(0, vE b)]⟩))) (.ex .normal) [.seq (xA (ac Tryz.f30))] 330 (mkF 330 0 [(1, .ptr 0 0), (2, .box (ai p0) 0), (4, .ptr 1 0), (5, .ptr 2 0)]) ⟨4, [(3, .row 9 1 (List.map V.str p0.leads)), (2, vH p0.kind p0.text), (1, vB 0 []), (0, vE a)]⟩
def fu (m : Nat) (p0 : Tree) (a : Int) (b : List UInt8) (c : (List (List UInt8))) (d : List Tree) (e : List UInt8) (f : List Tree) (g : Nat) (r0 : Tree) (i : List UInt8) : Prop := ∀ (K : Ctx) (j1 : Nat), av K [0] → m ≤ j1 → qLG K Tryz.f30 (fun u G => u = .agg (ai r0) ∧ G = ⟨2, [(0, vE i)]⟩) (cL (cK (xH (xI (xG (xA (ac Tryz.f30))))))) [.loop (cL (cK (xH (xI (xG (xA (ac Tryz.f30))))))) j1, .blk 1, .blk 0, .seq (xN (ac Tryz.f30))] 330 (mkF 330 0 [(1, .ptr 0 0), (2, .box (ai p0) 0), (4, .ptr 1 0), (5, .ptr 2 0), (6, .int .i64 (p0.kids.length : Int)), (7, .sl 3), (8, .int .i64 (g : Int))]) ⟨5, [(4, .row 9 1 (List.map V.str c)), (3, .row 25 4 (kidsV f)), (2, vJ a b d), (1, vB 0 []), (0, vE e)]⟩
def fq (m : Nat) (p0 : Tree) (a : List UInt8) (r0 : Tree) (b : List UInt8) : Prop := ∀ (K : Ctx), av K [0] → qLG K Tryz.f30 (fun u G => u = .agg (ai r0) ∧ G = ⟨2, [(0, vE b)]⟩) (xK (xA (ac Tryz.f30))) [.blk 0, .seq (xN (ac Tryz.f30))] 330 (mkF 330 0 [(1, .ptr 0 0), (2, .box (ai p0) 0), (4, .ptr 1 0), (5, .ptr 2 0), (6, .int .i64 (p0.kids.length : Int)), (7, .sl 3), (30, .int .i64 p0.kind)]) ⟨5, [(4, .row 9 1 (List.map V.str p0.leads)), (3, .row 25 4 (kidsV (kZ p0))), (2, vI p0.kind p0.text), (1, vB 0 []), (0, vE a)]⟩
def mr (m : Nat) (p0 : Tree) (a : List UInt8) (r0 : Tree) (b : List UInt8) : Prop := ∀ (K : Ctx), av K [0] → qLG K Tryz.f30 (fun u G => u = .agg (ai r0) ∧ G = ⟨2, [(0, vE b)]⟩) (xI (xK (xA (ac Tryz.f30)))) [.blk 0, .seq (xN (ac Tryz.f30))] 330 (mkF 330 0 [(1, .ptr 0 0), (2, .box (ai p0) 0), (4, .ptr 1 0), (5, .ptr 2 0), (6, .int .i64 (p0.kids.length : Int)), (7, .sl 3)]) ⟨5, [(4, .row 9 1 (List.map V.str p0.leads)), (3, .row 25 4 (kidsV (kZ p0))), (2, vI p0.kind p0.text), (1, vB 0 []), (0, vE a)]⟩
def fk (m : Nat) (p0 : Tree) (a : List UInt8) (r0 : Tree) (b : List UInt8) : Prop := ∀ (K : Ctx), av K [0] → qLG K Tryz.f30 (fun u G => u = .agg (ai r0) ∧ G = ⟨2, [(0, vE b)]⟩) (xC (xG (xA (ac Tryz.f30)))) [.blk 0, .seq (xN (ac Tryz.f30))] 330 (mkF 330 0 [(1, .ptr 0 0), (2, .box (ai p0) 0), (4, .ptr 1 0), (5, .ptr 2 0), (6, .int .i64 (p0.kids.length : Int)), (7, .sl 3), (30, .int .i64 p0.kind)]) ⟨5, [(4, .row 9 1 (List.map V.str p0.leads)), (3, .row 25 4 (kidsV (kZ p0))), (2, vI p0.kind p0.text), (1, vB 0 []), (0, vE a)]⟩
def cF (m : Nat) (p0 : Tree) (a : List UInt8) (b : List Tree) (c : Nat) (d : Int) (e : List UInt8) (f : (List (List UInt8))) (g : List Tree) (r0 : Tree) (i : List UInt8) : Prop := ∀ (K : Ctx) (j1 : Nat), av K [0] → m ≤ j1 → qLG K Tryz.f30 (fun u G => u = .agg (ai r0) ∧ G = ⟨2, [(0, vE i)]⟩) (xL (cB (xI (xK (xA (ac Tryz.f30)))))) [.loop (xL (cB (xI (xK (xA (ac Tryz.f30)))))) j1, .blk 3, .seq (xJ (xI (xK (xA (ac Tryz.f30))))), .blk 0, .seq (xN (ac Tryz.f30))] 330 (mkF 330 0 [(1, .ptr 0 0), (2, .box (ai p0) 0), (4, .ptr 1 0), (5, .ptr 2 0), (6, .int .i64 (p0.kids.length : Int)), (7, .sl 3), (9, .int .i64 (c : Int))]) ⟨5, [(4, .row 9 1 (List.map V.str f)), (3, .row 25 4 (kidsV b)), (2, vJ d e g), (1, vB 0 []), (0, vE a)]⟩
def mv (m : Nat) (p0 : Tree) (a : List UInt8) (r0 : Tree) (b : List UInt8) : Prop := ∀ (K : Ctx), av K [0] → qLG K Tryz.f30 (fun u G => u = .agg (ai r0) ∧ G = ⟨2, [(0, vE b)]⟩) (xI (xC (xG (xA (ac Tryz.f30))))) [.blk 0, .seq (xN (ac Tryz.f30))] 330 (mkF 330 0 [(1, .ptr 0 0), (2, .box (ai p0) 0), (4, .ptr 1 0), (5, .ptr 2 0), (7, .sl 3)]) ⟨5, [(4, .row 9 1 (List.map V.str p0.leads)), (3, .row 25 4 (kidsV (kZ p0))), (2, vI p0.kind p0.text), (1, vB 0 []), (0, vE a)]⟩
def fy (m : Nat) (p0 : Tree) (a : List UInt8) (r0 : Tree) (b : List UInt8) : Prop := ∀ (K : Ctx), av K [0] → qLG K Tryz.f30 (fun u G => u = .agg (ai r0) ∧ G = ⟨2, [(0, vE b)]⟩) (xC (xK (xA (ac Tryz.f30)))) [.blk 0, .seq (xN (ac Tryz.f30))] 330 (mkF 330 0 [(1, .ptr 0 0), (2, .box (ai p0) 0), (4, .ptr 1 0), (5, .ptr 2 0), (6, .int .i64 (p0.kids.length : Int)), (7, .sl 3), (30, .int .i64 p0.kind)]) ⟨5, [(4, .row 9 1 (List.map V.str p0.leads)), (3, .row 25 4 (kidsV (kZ p0))), (2, vI p0.kind p0.text), (1, vB 0 []), (0, vE a)]⟩
def mL (m : Nat) (p0 : Tree) (a : List UInt8) (r0 : Tree) (b : List UInt8) : Prop := ∀ (K : Ctx), av K [0] → qLG K Tryz.f30 (fun u G => u = .agg (ai r0) ∧ G = ⟨2, [(0, vE b)]⟩) (xI (xC (xK (xA (ac Tryz.f30))))) [.blk 0, .seq (xN (ac Tryz.f30))] 330 (mkF 330 0 [(1, .ptr 0 0), (2, .box (ai p0) 0), (4, .ptr 1 0), (5, .ptr 2 0), (7, .sl 3)]) ⟨5, [(4, .row 9 1 (List.map V.str p0.leads)), (3, .row 25 4 (kidsV (kZ p0))), (2, vI p0.kind p0.text), (1, vB 0 []), (0, vE a)]⟩
def fv (m : Nat) (p0 : Tree) (a : List UInt8) (r0 : Tree) (b : List UInt8) : Prop := ∀ (K : Ctx), av K [0] → qLG K Tryz.f30 (fun u G => u = .agg (ai r0) ∧ G = ⟨2, [(0, vE b)]⟩) (xD (xG (xA (ac Tryz.f30)))) [.blk 0, .seq (xN (ac Tryz.f30))] 330 (mkF 330 0 [(1, .ptr 0 0), (2, .box (ai p0) 0), (4, .ptr 1 0), (5, .ptr 2 0), (6, .int .i64 (p0.kids.length : Int)), (7, .sl 3), (30, .int .i64 p0.kind)]) ⟨5, [(4, .row 9 1 (List.map V.str p0.leads)), (3, .row 25 4 (kidsV (kZ p0))), (2, vI p0.kind p0.text), (1, vB 0 []), (0, vE a)]⟩
def lr (m : Nat) (p0 : Tree) (a : List UInt8) (r0 : Tree) (b : List UInt8) : Prop := ∀ (K : Ctx), av K [0] → qLG K Tryz.f30 (fun u G => u = .agg (ai r0) ∧ G = ⟨2, [(0, vE b)]⟩) (xI (xD (xG (xA (ac Tryz.f30))))) [.blk 0, .seq (xN (ac Tryz.f30))] 330 (mkF 330 0 [(1, .ptr 0 0), (2, .box (ai p0) 0), (4, .ptr 1 0), (5, .ptr 2 0), (7, .sl 3)]) ⟨5, [(4, .row 9 1 (List.map V.str p0.leads)), (3, .row 25 4 (kidsV (kZ p0))), (2, vI p0.kind p0.text), (1, vB 0 []), (0, vE a)]⟩
def eV (m : Nat) (p0 : Tree) (a : List UInt8) (r0 : Tree) (b : List UInt8) : Prop := ∀ (K : Ctx), av K [0] → qLG K Tryz.f30 (fun u G => u = .agg (ai r0) ∧ G = ⟨2, [(0, vE b)]⟩) (xD (xK (xA (ac Tryz.f30)))) [.blk 0, .seq (xN (ac Tryz.f30))] 330 (mkF 330 0 [(1, .ptr 0 0), (2, .box (ai p0) 0), (4, .ptr 1 0), (5, .ptr 2 0), (6, .int .i64 (p0.kids.length : Int)), (7, .sl 3), (30, .int .i64 p0.kind)]) ⟨5, [(4, .row 9 1 (List.map V.str p0.leads)), (3, .row 25 4 (kidsV (kZ p0))), (2, vI p0.kind p0.text), (1, vB 0 []), (0, vE a)]⟩
def co (m : Nat) (p0 : Tree) (a : List UInt8) (b : List Tree) (c : Nat) (d : Int) (e : List UInt8) (f : (List (List UInt8))) (g : List Tree) (r0 : Tree) (i : List UInt8) : Prop := ∀ (K : Ctx) (j1 : Nat), av K [0] → m ≤ j1 → qLG K Tryz.f30 (fun u G => u = .agg (ai r0) ∧ G = ⟨2, [(0, vE i)]⟩) (xL (xI (xD (xK (xA (ac Tryz.f30)))))) [.loop (xL (xI (xD (xK (xA (ac Tryz.f30)))))) j1, .blk 5, .seq (xH (xI (xD (xK (xA (ac Tryz.f30)))))), .blk 0, .seq (xN (ac Tryz.f30))] 330 (mkF 330 0 [(1, .ptr 0 0), (2, .box (ai p0) 0), (4, .ptr 1 0), (5, .ptr 2 0), (6, .int .i64 (p0.kids.length : Int)), (7, .sl 3), (10, .int .i64 (c : Int))]) ⟨5, [(4, .row 9 1 (List.map V.str f)), (3, .row 25 4 (kidsV b)), (2, vJ d e g), (1, vB 0 []), (0, vE a)]⟩
def eL (m : Nat) (p0 : Tree) (a : List UInt8) (r0 : Tree) (b : List UInt8) : Prop := ∀ (K : Ctx), av K [0] → qLG K Tryz.f30 (fun u G => u = .agg (ai r0) ∧ G = ⟨2, [(0, vE b)]⟩) (xD (xC (xG (xA (ac Tryz.f30))))) [.blk 0, .seq (xN (ac Tryz.f30))] 330 (mkF 330 0 [(1, .ptr 0 0), (2, .box (ai p0) 0), (4, .ptr 1 0), (5, .ptr 2 0), (6, .int .i64 (p0.kids.length : Int)), (7, .sl 3), (30, .int .i64 p0.kind)]) ⟨5, [(4, .row 9 1 (List.map V.str p0.leads)), (3, .row 25 4 (kidsV (kZ p0))), (2, vI p0.kind p0.text), (1, vB 0 []), (0, vE a)]⟩
def eW (m : Nat) (p0 : Tree) (a : List UInt8) (r0 : Tree) (b : List UInt8) : Prop := ∀ (K : Ctx), av K [0] → qLG K Tryz.f30 (fun u G => u = .agg (ai r0) ∧ G = ⟨2, [(0, vE b)]⟩) (xD (xC (xK (xA (ac Tryz.f30))))) [.blk 0, .seq (xN (ac Tryz.f30))] 330 (mkF 330 0 [(1, .ptr 0 0), (2, .box (ai p0) 0), (4, .ptr 1 0), (5, .ptr 2 0), (6, .int .i64 (p0.kids.length : Int)), (7, .sl 3), (30, .int .i64 p0.kind)]) ⟨5, [(4, .row 9 1 (List.map V.str p0.leads)), (3, .row 25 4 (kidsV (kZ p0))), (2, vI p0.kind p0.text), (1, vB 0 []), (0, vE a)]⟩
def cp (m : Nat) (p0 : Tree) (a : List UInt8) (b : List Tree) (c : Nat) (d : Int) (e : List UInt8) (f : (List (List UInt8))) (g : List Tree) (r0 : Tree) (i : List UInt8) : Prop := ∀ (K : Ctx) (j1 : Nat), av K [0] → m ≤ j1 → qLG K Tryz.f30 (fun u G => u = .agg (ai r0) ∧ G = ⟨2, [(0, vE i)]⟩) (cL (xF (cB (xI (xD (xC (xK (xA (ac Tryz.f30))))))))) [.loop (cL (xF (cB (xI (xD (xC (xK (xA (ac Tryz.f30))))))))) j1, .blk 7, .seq (xA (xI (xD (xC (xK (xA (ac Tryz.f30))))))), .blk 0, .seq (xN (ac Tryz.f30))] 330 (mkF 330 0 [(1, .ptr 0 0), (2, .box (ai p0) 0), (4, .ptr 1 0), (5, .ptr 2 0), (6, .int .i64 (p0.kids.length : Int)), (7, .sl 3), (11, .int .i64 (c : Int))]) ⟨5, [(4, .row 9 1 (List.map V.str f)), (3, .row 25 4 (kidsV b)), (2, vJ d e g), (1, vB 0 []), (0, vE a)]⟩
def eS (m : Nat) (p0 : Tree) (a : List UInt8) (r0 : Tree) (b : List UInt8) : Prop := ∀ (K : Ctx), av K [0] → qLG K Tryz.f30 (fun u G => u = .agg (ai r0) ∧ G = ⟨2, [(0, vE b)]⟩) (xM (xG (xA (ac Tryz.f30)))) [.blk 0, .seq (xN (ac Tryz.f30))] 330 (mkF 330 0 [(1, .ptr 0 0), (2, .box (ai p0) 0), (4, .ptr 1 0), (5, .ptr 2 0), (7, .sl 3), (30, .int .i64 p0.kind)]) ⟨5, [(4, .row 9 1 (List.map V.str p0.leads)), (3, .row 25 4 (kidsV (kZ p0))), (2, vI p0.kind p0.text), (1, vB 0 []), (0, vE a)]⟩
def iv (m : Nat) (p0 : Tree) (a : List UInt8) (b : Int) (c : List UInt8) (d : (List (List UInt8))) (e f : List Tree) (g : Nat) (r0 : Tree) (i : List UInt8) : Prop := ∀ (K : Ctx) (j1 : Nat), av K [0] → m ≤ j1 → qLG K Tryz.f30 (fun u G => u = .agg (ai r0) ∧ G = ⟨2, [(0, vE i)]⟩) (cL (cK (xA (xI (xM (xG (xA (ac Tryz.f30)))))))) [.loop (cL (cK (xA (xI (xM (xG (xA (ac Tryz.f30)))))))) j1, .blk 9, .blk 0, .seq (xN (ac Tryz.f30))] 330 (mkF 330 0 [(1, .ptr 0 0), (2, .box (ai p0) 0), (4, .ptr 1 0), (5, .ptr 2 0), (7, .sl 3), (12, .box [.str [105, 102], .str [116, 104, 101, 110], .str [101, 108, 115, 101]] 0), (13, .int .i64 (g : Int))]) ⟨5, [(4, .row 9 1 (List.map V.str d)), (3, .row 25 4 (kidsV f)), (2, vJ b c e), (1, vB 0 []), (0, vE a)]⟩
def eO (m : Nat) (p0 : Tree) (a : List UInt8) (r0 : Tree) (b : List UInt8) : Prop := ∀ (K : Ctx), av K [0] → qLG K Tryz.f30 (fun u G => u = .agg (ai r0) ∧ G = ⟨2, [(0, vE b)]⟩) (xM (xK (xA (ac Tryz.f30)))) [.blk 0, .seq (xN (ac Tryz.f30))] 330 (mkF 330 0 [(1, .ptr 0 0), (2, .box (ai p0) 0), (4, .ptr 1 0), (5, .ptr 2 0), (7, .sl 3), (30, .int .i64 p0.kind)]) ⟨5, [(4, .row 9 1 (List.map V.str p0.leads)), (3, .row 25 4 (kidsV (kZ p0))), (2, vI p0.kind p0.text), (1, vB 0 []), (0, vE a)]⟩
def lN (m : Nat) (p0 : Tree) (a : List UInt8) (r0 : Tree) (b : List UInt8) : Prop := ∀ (K : Ctx), av K [0] → qLG K Tryz.f30 (fun u G => u = .agg (ai r0) ∧ G = ⟨2, [(0, vE b)]⟩) (xI (xM (xK (xA (ac Tryz.f30))))) [.blk 0, .seq (xN (ac Tryz.f30))] 330 (mkF 330 0 [(1, .ptr 0 0), (2, .box (ai p0) 0), (4, .ptr 1 0), (5, .ptr 2 0), (7, .sl 3)]) ⟨5, [(4, .row 9 1 (List.map V.str p0.leads)), (3, .row 25 4 (kidsV (kZ p0))), (2, vI p0.kind p0.text), (1, vB 0 []), (0, vE a)]⟩
def eP (m : Nat) (p0 : Tree) (a : List UInt8) (r0 : Tree) (b : List UInt8) : Prop := ∀ (K : Ctx), av K [0] → qLG K Tryz.f30 (fun u G => u = .agg (ai r0) ∧ G = ⟨2, [(0, vE b)]⟩) (xM (xC (xG (xA (ac Tryz.f30))))) [.blk 0, .seq (xN (ac Tryz.f30))] 330 (mkF 330 0 [(1, .ptr 0 0), (2, .box (ai p0) 0), (4, .ptr 1 0), (5, .ptr 2 0), (7, .sl 3), (30, .int .i64 p0.kind)]) ⟨5, [(4, .row 9 1 (List.map V.str p0.leads)), (3, .row 25 4 (kidsV (kZ p0))), (2, vI p0.kind p0.text), (1, vB 0 []), (0, vE a)]⟩
def lw (m : Nat) (p0 : Tree) (a : List UInt8) (r0 : Tree) (b : List UInt8) : Prop := ∀ (K : Ctx), av K [0] → qLG K Tryz.f30 (fun u G => u = .agg (ai r0) ∧ G = ⟨2, [(0, vE b)]⟩) (xI (xM (xC (xG (xA (ac Tryz.f30)))))) [.blk 0, .seq (xN (ac Tryz.f30))] 330 (mkF 330 0 [(1, .ptr 0 0), (2, .box (ai p0) 0), (4, .ptr 1 0), (5, .ptr 2 0), (7, .sl 3)]) ⟨5, [(4, .row 9 1 (List.map V.str p0.leads)), (3, .row 25 4 (kidsV (kZ p0))), (2, vI p0.kind p0.text), (1, vB 0 []), (0, vE a)]⟩
def ir (m : Nat) (p0 : Tree) (a : List UInt8) (r0 : Tree) (b : List UInt8) : Prop := ∀ (K : Ctx), av K [0] → qLG K Tryz.f30 (fun u G => u = .agg (ai r0) ∧ G = ⟨2, [(0, vE b)]⟩) (xM (xC (xK (xA (ac Tryz.f30))))) [.blk 0, .seq (xN (ac Tryz.f30))] 330 (mkF 330 0 [(1, .ptr 0 0), (2, .box (ai p0) 0), (4, .ptr 1 0), (5, .ptr 2 0), (7, .sl 3), (30, .int .i64 p0.kind)]) ⟨5, [(4, .row 9 1 (List.map V.str p0.leads)), (3, .row 25 4 (kidsV (kZ p0))), (2, vI p0.kind p0.text), (1, vB 0 []), (0, vE a)]⟩
def lT (m : Nat) (p0 : Tree) (a : List UInt8) (r0 : Tree) (b : List UInt8) : Prop := ∀ (K : Ctx), av K [0] → qLG K Tryz.f30 (fun u G => u = .agg (ai r0) ∧ G = ⟨2, [(0, vE b)]⟩) (xI (xM (xC (xK (xA (ac Tryz.f30)))))) [.blk 0, .seq (xN (ac Tryz.f30))] 330 (mkF 330 0 [(1, .ptr 0 0), (2, .box (ai p0) 0), (4, .ptr 1 0), (5, .ptr 2 0), (7, .sl 3)]) ⟨5, [(4, .row 9 1 (List.map V.str p0.leads)), (3, .row 25 4 (kidsV (kZ p0))), (2, vI p0.kind p0.text), (1, vB 0 []), (0, vE a)]⟩
theorem mH (m : Nat) (p0 : Tree) (a : List UInt8) (r0 : Tree) (b : List UInt8) (h : p0.leads.length ≤ 1000000000 ∧ mu m p0 a r0 b) : aD p0 a r0 b := by
 refine am 330 [0] Tryz.func30 rfl rfl rfl (aM rfl) fun K hK => ?_
 refine gR 3 rfl <| gFP 1 rfl rfl rfl rfl <| gR 4 rfl <| gDs [] 10 11 rfl (by kernel_rfl) (by kernel_rfl) <| gDr [(0, 2), (1, 2), (2, 2), (3, 2), (5, 2), (6, 2)] (by kernel_rfl) rfl rfl ?_
 apply mh (i := 4) (j := 9) (by kernel_rfl) rfl rfl rfl rfl
 exact (jp ab rfl rfl)
 exact (jp ab rfl rfl)
 obtain ⟨hb, h⟩ := h
 have hb157 := hb
 apply mh (i := 7) (j := 9) (by kernel_rfl) rfl rfl rfl rfl
 exact (we (.repl 3 (.row 9 1 (List.map V.str p0.leads))) (bm ab rfl rfl rfl rfl rfl (List.nil_append _) (by rw [aZ]; exact hb157)) (okR rfl) (by kernel_rfl))
 exact (jp ab rfl rfl)
 exact gDr [(8, 2), (9, 0), (10, 1)] (by kernel_rfl) rfl rfl <| gDe (by kernel_rfl) <| gJ (h K hK) [0, 2, 5, 4] [0] rfl hK pq4 ⟨⟨_, rfl, rfl, rfl, (vK _ p0.leads).symm⟩, (pqo3 rfl rfl rfl rfl rfl rfl)⟩ rfl
 refine aP 7 (.repl 3 (.row 9 1 (List.map V.str p0.leads))) rfl (by kernel_rfl) (bm ab rfl rfl rfl rfl rfl (List.nil_append _) (by rw [aZ]; exact hb157)) (okR rfl) rfl (by kernel_rfl) rfl rfl ?_
 exact gDr [(8, 0), (10, 1)] (by kernel_rfl) rfl rfl <| gDe (by kernel_rfl) <| gJ (h K hK) [0, 2, 4, 5] [0] rfl hK pq4 ⟨⟨_, rfl, rfl, rfl, (vK _ p0.leads).symm⟩, (pqo3 rfl rfl rfl rfl rfl rfl)⟩ rfl
 refine gDr [(4, 0)] (by kernel_rfl) rfl rfl ?_
 obtain ⟨hb, h⟩ := h
 refine aP 7 (.repl 4 (.row 9 1 (List.map V.str p0.leads))) rfl (by kernel_rfl) (bm ab rfl rfl rfl rfl rfl (List.nil_append _) (by rw [aZ]; exact hb)) (okR rfl) rfl (by kernel_rfl) rfl rfl ?_
 exact gDr [(8, 0), (10, 1)] (by kernel_rfl) rfl rfl <| gDe (by kernel_rfl) <| gJ (h K hK) [0, 2, 3, 5] [0] rfl hK pq4 ⟨⟨_, rfl, rfl, rfl, (vK _ p0.leads).symm⟩, (pqo3 rfl rfl rfl rfl rfl rfl)⟩ rfl
theorem lv (m : Nat) (p0 : Tree) (d : List UInt8) (r0 : Tree) (e : List UInt8) (h : p0.kids.length ≤ 1000000000 ∧ ((p0.kind = 1) → ∃ f g a i j, aq p0.kind p0.text p0.leads [] 0 [109, 111, 100, 117, 108, 101] d f g a i j ∧ ∃ k l b n c, aq f g a i 1 p0.text j k l b n c ∧ fu m p0 k l b n c (kZ p0) 0 r0 e) ∧ ((p0.kind ≠ 1) → fq m p0 d r0 e)) : mu (m + 1) p0 d r0 e := by
 intro K hK
 refine gR 6 rfl <| gV 26 (.int .i64 (p0.kids.length : Int)) rfl (bx (aG _)) rfl <| gLB 25 rfl (aG _) fun hl158 => gR 6 rfl ?_
 obtain ⟨hb, h⟩ := h
 refine gDo (.new (.row 25 4 (List.replicate p0.kids.length (.agg [.int .i64 0, .str [], .nils, .nils])))) (dMk ab rfl rfl rfl rfl rfl rfl rfl (by kernel_rfl) hb) trivial rfl rfl rfl <| gHW 4 (List.replicate p0.kids.length (.agg [.int .i64 0, .str [], .row 1 [], .row 4 (kidsV [])])) rfl rfl (ar.rep (.agg (.cons .rfl (.cons .rfl (.cons (.nil 1) (.cons (.nil 4) .nil))))) _) rfl <| gHR 4 (kidsV (kZ p0)) rfl (by first | (simp only [bk, List.map_replicate]; done) | (simp only [bk, List.map_replicate]; rfl)) rfl <| gR 17 rfl <| gB 39 rfl rfl rfl ?_ ?_ <;> intro hd
 refine gT 40 rfl hd rfl ?_
 replace hd := (eq_of_beq hd)
 replace h := h.1 hd
 refine gR 1 rfl <| go_sub (F' := (mkF 330 0 [(1, .ptr 0 0), (2, .box (ai p0) 0), (4, .ptr 1 0), (5, .ptr 2 0), (6, .int .i64 (p0.kids.length : Int)), (7, .sl 3)])) (H' := ⟨5, [(4, .row 9 1 (List.map V.str p0.leads)), (3, .row 25 4 (kidsV (kZ p0))), (2, vI p0.kind p0.text), (1, vB 0 []), (0, vE d)]⟩) [0, 1, 2, 4, 3] [0] rfl hK pq6 ⟨⟨_, rfl, rfl, rfl, (vK _ p0.leads).symm⟩, ⟨_, rfl, rfl, rfl, (aC _ (kZ p0)).symm⟩, (pqo3 rfl rfl rfl rfl rfl rfl)⟩ rfl <| gR 3 rfl ?_
 obtain ⟨f, g, a, i, j, hs159, h⟩ := h
 refine gCZ hs159 [2, 4, 0] ⟨⟨_, rfl, ⟨rfl, ar.rfl⟩⟩, ⟨⟨_, rfl, ⟨rfl, rfl, (vK _ p0.leads).symm⟩⟩, ⟨⟨_, rfl, ⟨rfl, (.cons .rfl (.cons .rfl (.cons .rfl (.cons (.nil 4) .nil))))⟩⟩, trivial⟩⟩⟩ ?_
 refine gHR 6 (List.map V.str a) rfl (vK _ a) rfl <| gR 7 rfl ?_
 obtain ⟨k, l, b, n, c, hs160, h⟩ := h
 refine gCZ hs160 [2, 6, 0] ⟨⟨_, rfl, ⟨rfl, ar.rfl⟩⟩, ⟨⟨_, rfl, ⟨rfl, rfl, (vK _ a).symm⟩⟩, ⟨⟨_, rfl, ⟨rfl, ar.rfl⟩⟩, trivial⟩⟩⟩ ?_
 exact gHR 9 (List.map V.str b) rfl (vK _ b) rfl <| gR 8 rfl <| go_loop m <| gJ (h K _ hK (by omega)) [0, 1, 2, 3, 9] [0] rfl hK pq7 ⟨⟨_, rfl, rfl, rfl, (vK _ b).symm⟩, ⟨_, rfl, rfl, rfl, (aC _ (kZ p0)).symm⟩, (pqo3 rfl rfl rfl rfl rfl rfl)⟩ rfl
 refine gF 40 rfl hd rfl ?_
 replace hd := (ne_of_beq_false hd)
 replace h := h.2 hd
 exact gR 1 rfl <| gJ (h K hK) [0, 1, 2, 4, 3] [0] rfl hK pq7 ⟨⟨_, rfl, rfl, rfl, (vK _ p0.leads).symm⟩, ⟨_, rfl, rfl, rfl, (aC _ (kZ p0)).symm⟩, (pqo3 rfl rfl rfl rfl rfl rfl)⟩ rfl
theorem lH (m : Nat) (p0 : Tree) (d : Int) (e : List UInt8) (c : (List (List UInt8))) (n : List Tree) (g : List UInt8) (b : List Tree) (a : Nat) (r0 : Tree) (i : List UInt8) (h : ((a < p0.kids.length) → ∃ k, p0.kids[a]? = some k ∧ ∃ f l, aD k g f l ∧ ∃ o, b[a]? = some o ∧ a + 1 ≤ 9223372036854775807 ∧ fu m p0 d e c n l (b.set a f) (a + 1) r0 i) ∧ ((¬ a < p0.kids.length) → (Tree.node d e c b) = r0 ∧ g = i)) : fu (m + 1) p0 d e c n g b a r0 i := by
 intro K j1 hK hj1
 obtain ⟨j1, rfl⟩ : ∃ j, j1 = j + 1 := ⟨j1 - 1, by omega⟩
 refine gR 8 rfl <| gB 49 rfl rfl rfl ?_ ?_ <;> intro hd
 replace hd := (fg hd)
 replace h := h.1 hd
 refine gR 11 rfl ?_
 obtain ⟨k, hxt2_1, h⟩ := h
 refine gY (az (aj hxt2_1) ab rfl rfl rfl rfl) rfl rfl <| gR 2 rfl ?_
 obtain ⟨f, l, hs161, h⟩ := h
 refine gCY hs161 [0] ?_
 obtain ⟨o, hxt2_4, h⟩ := h
 refine gY (yIO ab rfl rfl rfl rfl (by have := (aj hxt2_4); exact (List.getElem?_eq_some_iff.1 this).1)) rfl rfl ?_
 refine gDo (.set 3 (.row 25 4 (kidsV (b.set a f)))) (dSe ab rfl rfl rfl rfl (aj hxt2_4) rfl (gG b a f)) (okS rfl) rfl rfl rfl <| gR 5 rfl ?_
 obtain ⟨hb, h⟩ := h
 exact gR 1 rfl <| gV 51 (.int .i64 ((a + 1 : Nat) : Int)) rfl (ax (by omega) (by omega)) rfl <| gR 2 rfl <| go_xloop <| gJ (h K _ hK (by omega)) [0, 1, 2, 3, 4] [0] rfl hK pq7 ⟨⟨_, rfl, rfl, rfl, (vK _ c).symm⟩, ⟨_, rfl, rfl, rfl, (aC _ (b.set a f)).symm⟩, (pqo3 rfl rfl rfl rfl rfl rfl)⟩ rfl
 replace hd := (fc hd)
 replace h := h.2 hd
 refine gR 3 rfl <| go_xloopE <| gR 17 rfl <| gFR 4 rfl (cb _ (fun _ => rfl) _) rfl rfl <| gFR 3 rfl (bo _) rfl rfl ?_
 obtain ⟨rfl, rfl⟩ := h
 exact go_sub (F' := (mkF 330 0 [(4, .ptr 1 0)])) (H' := ⟨2, [(1, vF ((Tree.node d e c b).kind) ((Tree.node d e c b).text) ((Tree.node d e c b).leads) ((Tree.node d e c b).kids)), (0, vE g)]⟩) [0, 1] [0] rfl hK pq1 (pqo2 rfl rfl rfl rfl) rfl <| go_endD [1] ab (rs := [.cell 4 25]) rfl rfl ⟨rfl, rfl⟩
theorem lU (m : Nat) (p0 : Tree) (a : List UInt8) (r0 : Tree) (b : List UInt8) (h : ((p0.kind = 2) → mr m p0 a r0 b) ∧ ((p0.kind ≠ 2) → fk m p0 a r0 b)) : fq (m + 1) p0 a r0 b := by
 intro K hK
 refine gR 6 rfl <| qBeZ 62 63 rfl rfl rfl rfl h (fun h => ?_) fun h => ?_
 exact gR 1 rfl <| gJ (h K hK) [0, 1, 2, 3, 4] [0] rfl hK pq6 ⟨⟨_, rfl, rfl, rfl, (vK _ p0.leads).symm⟩, ⟨_, rfl, rfl, rfl, (aC _ (kZ p0)).symm⟩, (pqo3 rfl rfl rfl rfl rfl rfl)⟩ rfl
 exact gR 1 rfl <| gJ (h K hK) [0, 1, 2, 3, 4] [0] rfl hK pq7 ⟨⟨_, rfl, rfl, rfl, (vK _ p0.leads).symm⟩, ⟨_, rfl, rfl, rfl, (aC _ (kZ p0)).symm⟩, (pqo3 rfl rfl rfl rfl rfl rfl)⟩ rfl
theorem qc (m : Nat) (p0 : Tree) (r : List UInt8) (r0 : Tree) (s : List UInt8) (h : ∃ j k b l n, aq p0.kind p0.text p0.leads [] 0 [100, 101, 102] r j k b l n ∧ ∃ o p c q d, aq j k b l 1 p0.text n o p c q d ∧ ∃ e f a g i, aq o p c q 2 [40] d e f a g i ∧ cF m p0 i (kZ p0) 0 e f a g r0 s) : mr (m + 1) p0 r r0 s := by
 intro K hK
 refine gR 3 rfl ?_
 obtain ⟨j, k, b, l, n, hs162, h⟩ := h
 refine gCZ hs162 [2, 4, 0] ⟨⟨_, rfl, ⟨rfl, ar.rfl⟩⟩, ⟨⟨_, rfl, ⟨rfl, rfl, (vK _ p0.leads).symm⟩⟩, ⟨⟨_, rfl, ⟨rfl, (.cons .rfl (.cons .rfl (.cons .rfl (.cons (.nil 4) .nil))))⟩⟩, trivial⟩⟩⟩ ?_
 refine gHR 6 (List.map V.str b) rfl (vK _ b) rfl <| gR 7 rfl ?_
 obtain ⟨o, p, c, q, d, hs163, h⟩ := h
 refine gCZ hs163 [2, 6, 0] ⟨⟨_, rfl, ⟨rfl, ar.rfl⟩⟩, ⟨⟨_, rfl, ⟨rfl, rfl, (vK _ b).symm⟩⟩, ⟨⟨_, rfl, ⟨rfl, ar.rfl⟩⟩, trivial⟩⟩⟩ ?_
 refine gHR 9 (List.map V.str c) rfl (vK _ c) rfl <| gR 5 rfl ?_
 obtain ⟨e, f, a, g, i, hs164, h⟩ := h
 refine gCZ hs164 [2, 9, 0] ⟨⟨_, rfl, ⟨rfl, ar.rfl⟩⟩, ⟨⟨_, rfl, ⟨rfl, rfl, (vK _ c).symm⟩⟩, ⟨⟨_, rfl, ⟨rfl, ar.rfl⟩⟩, trivial⟩⟩⟩ ?_
 exact gHR 12 (List.map V.str a) rfl (vK _ a) rfl <| gR 9 rfl <| go_loop m <| gJ (h K _ hK (by omega)) [0, 1, 2, 3, 12] [0] rfl hK pq7 ⟨⟨_, rfl, rfl, rfl, (vK _ a).symm⟩, ⟨_, rfl, rfl, rfl, (aC _ (kZ p0)).symm⟩, (pqo3 rfl rfl rfl rfl rfl rfl)⟩ rfl
theorem lB (m : Nat) (p0 : Tree) (a : List UInt8) (r0 : Tree) (b : List UInt8) (h : ((p0.kind = 3) → mv m p0 a r0 b) ∧ ((p0.kind ≠ 3) → fy m p0 a r0 b)) : fk (m + 1) p0 a r0 b := by
 intro K hK
 refine gR 6 rfl <| qBeZ 124 125 rfl rfl rfl rfl h (fun h => ?_) fun h => ?_
 exact gR 1 rfl <| gJ (h K hK) [0, 1, 2, 3, 4] [0] rfl hK pq5 ⟨⟨_, rfl, rfl, rfl, (vK _ p0.leads).symm⟩, ⟨_, rfl, rfl, rfl, (aC _ (kZ p0)).symm⟩, (pqo3 rfl rfl rfl rfl rfl rfl)⟩ rfl
 exact gR 1 rfl <| gJ (h K hK) [0, 1, 2, 3, 4] [0] rfl hK pq7 ⟨⟨_, rfl, rfl, rfl, (vK _ p0.leads).symm⟩, ⟨_, rfl, rfl, rfl, (aC _ (kZ p0)).symm⟩, (pqo3 rfl rfl rfl rfl rfl rfl)⟩ rfl
theorem ij (m : Nat) (p0 : Tree) (ν : List UInt8) (a : List Tree) (b : Nat) (ξ : Int) (ο : List UInt8) (p : (List (List UInt8))) (π : List Tree) (r0 : Tree) (τ : List UInt8) (h : InI ((p0.kids.length : Int) - 2) ∧ (((b : Int) < ((p0.kids.length : Int) - 2)) → ((0 < (b : Int)) → 5 + b ≤ 9223372036854775807 ∧ ∃ υ φ r χ ψ, aq ξ ο p π ((5 + b : Nat) : Int) [44] ν υ φ r χ ψ ∧ ∃ ω, p0.kids[b]? = some ω ∧ ∃ s s6_8, aD ω ψ s s6_8 ∧ ∃ t6_9, a[b]? = some t6_9 ∧ b + 1 ≤ 9223372036854775807 ∧ cF m p0 s6_8 (a.set b s) (b + 1) υ φ r χ r0 τ) ∧ ((¬ 0 < (b : Int)) → ∃ α, p0.kids[b]? = some α ∧ ∃ n β, aD α ν n β ∧ ∃ t6_13, a[b]? = some t6_13 ∧ b + 1 ≤ 9223372036854775807 ∧ cF m p0 β (a.set b n) (b + 1) ξ ο p π r0 τ)) ∧ ((¬ (b : Int) < ((p0.kids.length : Int) - 2)) → ∃ γ δ o ε ζ, aq ξ ο p π 3 [41] ν γ δ o ε ζ ∧ ∃ t v i w η, aq γ δ o ε 4 [58] ζ t v i w η ∧ InI ((p0.kids.length : Int) - 2) ∧ InI ((p0.kids.length : Int) - 2) ∧ ∃ x, ((p0.kids.length : Int) - 2) = ((x : Nat) : Int) ∧ ∃ θ, p0.kids[x]? = some θ ∧ ∃ d y, aD θ η d y ∧ ∃ c, ((p0.kids.length : Int) - 2) = ((c : Nat) : Int) ∧ ∃ t6_29, a[c]? = some t6_29 ∧ ∃ k l f ι κ, aq t v i w 5 [61] y k l f ι κ ∧ InI ((p0.kids.length : Int) - 1) ∧ InI ((p0.kids.length : Int) - 1) ∧ ∃ z, ((p0.kids.length : Int) - 1) = ((z : Nat) : Int) ∧ ∃ μ, p0.kids[z]? = some μ ∧ ∃ g q, aD μ κ g q ∧ ∃ e, ((p0.kids.length : Int) - 1) = ((e : Nat) : Int) ∧ ∃ t6_40, (a.set c d)[e]? = some t6_40 ∧ (Tree.node k l f ((a.set c d).set e g)) = r0 ∧ q = τ)) : cF (m + 1) p0 ν a b ξ ο p π r0 τ := by
 intro K j1 hK hj1
 obtain ⟨j1, rfl⟩ : ∃ j, j1 = j + 1 := ⟨j1 - 1, by omega⟩
 refine gR 5 rfl ?_
 obtain ⟨hb, h⟩ := h
 refine gR 1 rfl <| gV 74 (.int .i64 ((p0.kids.length : Int) - 2)) rfl (ax hb rfl) rfl <| gR 3 rfl <| gB 75 rfl rfl rfl ?_ ?_ <;> intro hd
 replace hd := (of_decide_eq_true hd)
 replace h := h.1 hd
 refine gR 12 rfl <| gB 79 rfl rfl rfl ?_ ?_ <;> intro hd
 replace hd := (of_decide_eq_true hd)
 replace h := h.1 hd
 refine gR 3 rfl ?_
 obtain ⟨hb, h⟩ := h
 refine gR 1 rfl <| gV 81 (.int .i64 ((5 + b : Nat) : Int)) rfl (ax (by omega) (by omega)) rfl <| gR 1 rfl ?_
 obtain ⟨υ, φ, r, χ, ψ, hs165, h⟩ := h
 refine gCZ hs165 [2, 4, 0] ⟨⟨_, rfl, ⟨rfl, ar.rfl⟩⟩, ⟨⟨_, rfl, ⟨rfl, rfl, (vK _ p).symm⟩⟩, ⟨⟨_, rfl, ⟨rfl, ar.rfl⟩⟩, trivial⟩⟩⟩ ?_
 refine gHR 6 (List.map V.str r) rfl (vK _ r) rfl <| gR 8 rfl ?_
 obtain ⟨ω, hxt6_6, h⟩ := h
 refine gY (az (aj hxt6_6) ab rfl rfl rfl rfl) rfl rfl <| gR 2 rfl ?_
 obtain ⟨s, s6_8, hs166, h⟩ := h
 refine gCY hs166 [0] ?_
 obtain ⟨t6_9, hxt6_9, h⟩ := h
 refine gY (yIO ab rfl rfl rfl rfl (by have := (aj hxt6_9); exact (List.getElem?_eq_some_iff.1 this).1)) rfl rfl ?_
 refine gDo (.set 3 (.row 25 4 (kidsV (a.set b s)))) (dSe ab rfl rfl rfl rfl (aj hxt6_9) rfl (gG a b s)) (okS rfl) rfl rfl rfl <| gR 5 rfl ?_
 obtain ⟨hb, h⟩ := h
 exact gR 1 rfl <| gV 77 (.int .i64 ((b + 1 : Nat) : Int)) rfl (ax (by omega) (by omega)) rfl <| gR 2 rfl <| go_xloop <| gJ (h K _ hK (by omega)) [0, 1, 2, 3, 6] [0] rfl hK pq7 ⟨⟨_, rfl, rfl, rfl, (vK _ r).symm⟩, ⟨_, rfl, rfl, rfl, (aC _ (a.set b s)).symm⟩, (pqo3 rfl rfl rfl rfl rfl rfl)⟩ rfl
 replace hd := (of_decide_eq_false hd)
 replace h := h.2 hd
 refine gR 9 rfl ?_
 obtain ⟨α, hxt6_10, h⟩ := h
 refine gY (az (aj hxt6_10) ab rfl rfl rfl rfl) rfl rfl <| gR 2 rfl ?_
 obtain ⟨n, β, hs167, h⟩ := h
 refine gCY hs167 [0] ?_
 obtain ⟨t6_13, hxt6_13, h⟩ := h
 refine gY (yIO ab rfl rfl rfl rfl (by have := (aj hxt6_13); exact (List.getElem?_eq_some_iff.1 this).1)) rfl rfl ?_
 refine gDo (.set 3 (.row 25 4 (kidsV (a.set b n)))) (dSe ab rfl rfl rfl rfl (aj hxt6_13) rfl (gG a b n)) (okS rfl) rfl rfl rfl <| gR 5 rfl ?_
 obtain ⟨hb, h⟩ := h
 exact gR 1 rfl <| gV 77 (.int .i64 ((b + 1 : Nat) : Int)) rfl (ax (by omega) (by omega)) rfl <| gR 2 rfl <| go_xloop <| gJ (h K _ hK (by omega)) [0, 1, 2, 3, 4] [0] rfl hK pq7 ⟨⟨_, rfl, rfl, rfl, (vK _ p).symm⟩, ⟨_, rfl, rfl, rfl, (aC _ (a.set b n)).symm⟩, (pqo3 rfl rfl rfl rfl rfl rfl)⟩ rfl
 replace hd := (of_decide_eq_false hd)
 replace h := h.2 hd
 refine gR 3 rfl <| go_xloopE <| gR 5 rfl ?_
 obtain ⟨γ, δ, o, ε, ζ, hs168, h⟩ := h
 refine gCZ hs168 [2, 4, 0] ⟨⟨_, rfl, ⟨rfl, ar.rfl⟩⟩, ⟨⟨_, rfl, ⟨rfl, rfl, (vK _ p).symm⟩⟩, ⟨⟨_, rfl, ⟨rfl, ar.rfl⟩⟩, trivial⟩⟩⟩ ?_
 refine gHR 6 (List.map V.str o) rfl (vK _ o) rfl <| gR 5 rfl ?_
 obtain ⟨t, v, i, w, η, hs169, h⟩ := h
 refine gCZ hs169 [2, 6, 0] ⟨⟨_, rfl, ⟨rfl, ar.rfl⟩⟩, ⟨⟨_, rfl, ⟨rfl, rfl, (vK _ o).symm⟩⟩, ⟨⟨_, rfl, ⟨rfl, ar.rfl⟩⟩, trivial⟩⟩⟩ ?_
 refine gHR 9 (List.map V.str i) rfl (vK _ i) rfl <| gR 6 rfl ?_
 obtain ⟨hb, h⟩ := h
 refine gR 1 rfl <| gV 100 (.int .i64 ((p0.kids.length : Int) - 2)) rfl (ax hb rfl) rfl <| gR 3 rfl ?_
 obtain ⟨hb, h⟩ := h
 refine gR 1 rfl <| gV 104 (.int .i64 ((p0.kids.length : Int) - 2)) rfl (ax hb rfl) rfl ?_
 obtain ⟨x, ek6_24, h⟩ := h
 refine gV 104 (.int .i64 ((x : Nat) : Int)) rfl (fP ek6_24) rfl ?_
 obtain ⟨θ, hxt6_25, h⟩ := h
 refine gY (az (aj hxt6_25) ab rfl rfl rfl rfl) rfl rfl <| gR 2 rfl ?_
 obtain ⟨d, y, hs170, h⟩ := h
 refine gCY hs170 [0] ?_
 obtain ⟨c, ek6_28, h⟩ := h
 refine gV 100 (.int .i64 ((c : Nat) : Int)) rfl (fP ek6_28) rfl ?_
 obtain ⟨t6_29, hxt6_29, h⟩ := h
 refine gY (yIO ab rfl rfl rfl rfl (by have := (aj hxt6_29); exact (List.getElem?_eq_some_iff.1 this).1)) rfl rfl ?_
 refine gDo (.set 3 (.row 25 4 (kidsV (a.set c d)))) (dSe ab rfl rfl rfl rfl (aj hxt6_29) rfl (gG a c d)) (okS rfl) rfl rfl rfl <| gR 2 rfl <| go_sub (F' := (mkF 330 0 [(1, .ptr 0 0), (2, .box (ai p0) 0), (4, .ptr 1 0), (5, .ptr 2 0), (6, .int .i64 (p0.kids.length : Int)), (7, .sl 3)])) (H' := ⟨5, [(4, .row 9 1 (List.map V.str i)), (3, .row 25 4 (kidsV (a.set c d))), (2, vJ t v w), (1, vB 0 []), (0, vE y)]⟩) [0, 1, 2, 3, 9] [0] rfl hK pq6 ⟨⟨_, rfl, rfl, rfl, (vK _ i).symm⟩, ⟨_, rfl, rfl, rfl, (aC _ (a.set c d)).symm⟩, (pqo3 rfl rfl rfl rfl rfl rfl)⟩ rfl ?_
 refine gR 3 rfl ?_
 obtain ⟨k, l, f, ι, κ, hs171, h⟩ := h
 refine gCZ hs171 [2, 4, 0] ⟨⟨_, rfl, ⟨rfl, ar.rfl⟩⟩, ⟨⟨_, rfl, ⟨rfl, rfl, (vK _ i).symm⟩⟩, ⟨⟨_, rfl, ⟨rfl, ar.rfl⟩⟩, trivial⟩⟩⟩ ?_
 refine gHR 6 (List.map V.str f) rfl (vK _ f) rfl <| gR 5 rfl ?_
 obtain ⟨hb, h⟩ := h
 refine gR 1 rfl <| gV 114 (.int .i64 ((p0.kids.length : Int) - 1)) rfl (ax hb rfl) rfl <| gR 3 rfl ?_
 obtain ⟨hb, h⟩ := h
 refine gR 1 rfl <| gV 118 (.int .i64 ((p0.kids.length : Int) - 1)) rfl (ax hb rfl) rfl ?_
 obtain ⟨z, ek6_35, h⟩ := h
 refine gV 118 (.int .i64 ((z : Nat) : Int)) rfl (fP ek6_35) rfl ?_
 obtain ⟨μ, hxt6_36, h⟩ := h
 refine gY (az (aj hxt6_36) ab rfl rfl rfl rfl) rfl rfl <| gR 2 rfl ?_
 obtain ⟨g, q, hs172, h⟩ := h
 refine gCY hs172 [0] ?_
 obtain ⟨e, ek6_39, h⟩ := h
 refine gV 114 (.int .i64 ((e : Nat) : Int)) rfl (fP ek6_39) rfl ?_
 obtain ⟨t6_40, hxt6_40, h⟩ := h
 refine gY (yIO ab rfl rfl rfl rfl (by have := (aj hxt6_40); exact (List.getElem?_eq_some_iff.1 this).1)) rfl rfl ?_
 refine gDo (.set 3 (.row 25 4 (kidsV ((a.set c d).set e g)))) (dSe ab rfl rfl rfl rfl (aj hxt6_40) rfl (gG (a.set c d) e g)) (okS rfl) rfl rfl rfl <| gR 3 rfl <| go_sub (F' := (mkF 330 0 [(4, .ptr 1 0), (5, .ptr 2 0), (7, .sl 3)])) (H' := ⟨5, [(4, .row 9 1 (List.map V.str f)), (3, .row 25 4 (kidsV ((a.set c d).set e g))), (2, vJ k l ι), (1, vB 0 []), (0, vE q)]⟩) [0, 1, 2, 3, 6] [0] rfl hK pq3 ⟨⟨_, rfl, rfl, rfl, (vK _ f).symm⟩, ⟨_, rfl, rfl, rfl, (aC _ ((a.set c d).set e g)).symm⟩, (pqo3 rfl rfl rfl rfl rfl rfl)⟩ rfl ?_
 refine gR 14 rfl <| gFR 4 rfl (cb _ (fun _ => rfl) _) rfl rfl <| gFR 3 rfl (bo _) rfl rfl ?_
 obtain ⟨rfl, rfl⟩ := h
 exact go_sub (F' := (mkF 330 0 [(4, .ptr 1 0)])) (H' := ⟨2, [(1, vF ((Tree.node k l f ((a.set c d).set e g)).kind) ((Tree.node k l f ((a.set c d).set e g)).text) ((Tree.node k l f ((a.set c d).set e g)).leads) ((Tree.node k l f ((a.set c d).set e g)).kids)), (0, vE q)]⟩) [0, 1] [0] rfl hK pq1 (pqo2 rfl rfl rfl rfl) rfl <| go_endD [1] ab (rs := [.cell 4 25]) rfl rfl ⟨rfl, rfl⟩
theorem qf (m : Nat) (p0 : Tree) (w : List UInt8) (r0 : Tree) (x : List UInt8) (h : ∃ n o f p q, aq p0.kind p0.text p0.leads [] 0 [116, 121, 112, 101] w n o f p q ∧ ∃ r s g t i, aq n o f p 1 p0.text q r s g t i ∧ ∃ c d a j k, aq r s g t 2 [61] i c d a j k ∧ ∃ l, p0.kids[0]? = some l ∧ ∃ b e, aD l k b e ∧ ∃ v, (kZ p0)[0]? = some v ∧ (Tree.node c d a ((kZ p0).set 0 b)) = r0 ∧ e = x) : mv (m + 1) p0 w r0 x := by
 intro K hK
 refine gR 3 rfl ?_
 obtain ⟨n, o, f, p, q, hs173, h⟩ := h
 refine gCZ hs173 [2, 4, 0] ⟨⟨_, rfl, ⟨rfl, ar.rfl⟩⟩, ⟨⟨_, rfl, ⟨rfl, rfl, (vK _ p0.leads).symm⟩⟩, ⟨⟨_, rfl, ⟨rfl, (.cons .rfl (.cons .rfl (.cons .rfl (.cons (.nil 4) .nil))))⟩⟩, trivial⟩⟩⟩ ?_
 refine gHR 6 (List.map V.str f) rfl (vK _ f) rfl <| gR 7 rfl ?_
 obtain ⟨r, s, g, t, i, hs174, h⟩ := h
 refine gCZ hs174 [2, 6, 0] ⟨⟨_, rfl, ⟨rfl, ar.rfl⟩⟩, ⟨⟨_, rfl, ⟨rfl, rfl, (vK _ f).symm⟩⟩, ⟨⟨_, rfl, ⟨rfl, ar.rfl⟩⟩, trivial⟩⟩⟩ ?_
 refine gHR 9 (List.map V.str g) rfl (vK _ g) rfl <| gR 5 rfl ?_
 obtain ⟨c, d, a, j, k, hs175, h⟩ := h
 refine gCZ hs175 [2, 9, 0] ⟨⟨_, rfl, ⟨rfl, ar.rfl⟩⟩, ⟨⟨_, rfl, ⟨rfl, rfl, (vK _ g).symm⟩⟩, ⟨⟨_, rfl, ⟨rfl, ar.rfl⟩⟩, trivial⟩⟩⟩ ?_
 refine gHR 12 (List.map V.str a) rfl (vK _ a) rfl <| gR 6 rfl ?_
 obtain ⟨l, hxt7_16, h⟩ := h
 refine gY (az (aj hxt7_16) ab rfl rfl rfl rfl) rfl rfl <| gR 2 rfl ?_
 obtain ⟨b, e, hs176, h⟩ := h
 refine gCY hs176 [0] ?_
 obtain ⟨v, hxt7_19, h⟩ := h
 refine gY (yIO ab rfl rfl rfl rfl (by have := (aj hxt7_19); exact (List.getElem?_eq_some_iff.1 this).1)) rfl rfl ?_
 refine gDo (.set 3 (.row 25 4 (kidsV ((kZ p0).set 0 b)))) (dSe ab rfl rfl rfl rfl (aj hxt7_19) rfl (gG (kZ p0) 0 b)) (okS rfl) rfl rfl rfl <| gR 3 rfl <| go_sub (F' := (mkF 330 0 [(4, .ptr 1 0), (5, .ptr 2 0), (7, .sl 3)])) (H' := ⟨5, [(4, .row 9 1 (List.map V.str a)), (3, .row 25 4 (kidsV ((kZ p0).set 0 b))), (2, vJ c d j), (1, vB 0 []), (0, vE e)]⟩) [0, 1, 2, 3, 12] [0] rfl hK pq3 ⟨⟨_, rfl, rfl, rfl, (vK _ a).symm⟩, ⟨_, rfl, rfl, rfl, (aC _ ((kZ p0).set 0 b)).symm⟩, (pqo3 rfl rfl rfl rfl rfl rfl)⟩ rfl <| gR 14 rfl <| gFR 4 rfl (cb _ (fun _ => rfl) _) rfl rfl ?_
 refine gFR 3 rfl (bo _) rfl rfl ?_
 obtain ⟨rfl, rfl⟩ := h
 exact go_sub (F' := (mkF 330 0 [(4, .ptr 1 0)])) (H' := ⟨2, [(1, vF ((Tree.node c d a ((kZ p0).set 0 b)).kind) ((Tree.node c d a ((kZ p0).set 0 b)).text) ((Tree.node c d a ((kZ p0).set 0 b)).leads) ((Tree.node c d a ((kZ p0).set 0 b)).kids)), (0, vE e)]⟩) [0, 1] [0] rfl hK pq1 (pqo2 rfl rfl rfl rfl) rfl <| go_endD [1] ab (rs := [.cell 4 25]) rfl rfl ⟨rfl, rfl⟩
theorem lG (m : Nat) (p0 : Tree) (a : List UInt8) (r0 : Tree) (b : List UInt8) (h : ((p0.kind = 4) → mL m p0 a r0 b) ∧ ((p0.kind ≠ 4) → fv m p0 a r0 b)) : fy (m + 1) p0 a r0 b := by
 intro K hK
 refine gR 6 rfl <| qBeZ 142 143 rfl rfl rfl rfl h (fun h => ?_) fun h => ?_
 exact gR 1 rfl <| gJ (h K hK) [0, 1, 2, 3, 4] [0] rfl hK pq5 ⟨⟨_, rfl, rfl, rfl, (vK _ p0.leads).symm⟩, ⟨_, rfl, rfl, rfl, (aC _ (kZ p0)).symm⟩, (pqo3 rfl rfl rfl rfl rfl rfl)⟩ rfl
 exact gR 1 rfl <| gJ (h K hK) [0, 1, 2, 3, 4] [0] rfl hK pq7 ⟨⟨_, rfl, rfl, rfl, (vK _ p0.leads).symm⟩, ⟨_, rfl, rfl, rfl, (aC _ (kZ p0)).symm⟩, (pqo3 rfl rfl rfl rfl rfl rfl)⟩ rfl
theorem pZ (m : Nat) (p0 : Tree) (q : List UInt8) (r0 : Tree) (r : List UInt8) (h : ∃ j k f l n, aq p0.kind p0.text p0.leads [] 0 p0.text q j k f l n ∧ ∃ c d b o g, aq j k f l 1 [58] n c d b o g ∧ ∃ i, p0.kids[0]? = some i ∧ ∃ a e, aD i g a e ∧ ∃ p, (kZ p0)[0]? = some p ∧ (Tree.node c d b ((kZ p0).set 0 a)) = r0 ∧ e = r) : mL (m + 1) p0 q r0 r := by
 intro K hK
 refine gR 5 rfl ?_
 obtain ⟨j, k, f, l, n, hs177, h⟩ := h
 refine gCZ hs177 [2, 4, 0] ⟨⟨_, rfl, ⟨rfl, ar.rfl⟩⟩, ⟨⟨_, rfl, ⟨rfl, rfl, (vK _ p0.leads).symm⟩⟩, ⟨⟨_, rfl, ⟨rfl, (.cons .rfl (.cons .rfl (.cons .rfl (.cons (.nil 4) .nil))))⟩⟩, trivial⟩⟩⟩ ?_
 refine gHR 6 (List.map V.str f) rfl (vK _ f) rfl <| gR 5 rfl ?_
 obtain ⟨c, d, b, o, g, hs178, h⟩ := h
 refine gCZ hs178 [2, 6, 0] ⟨⟨_, rfl, ⟨rfl, ar.rfl⟩⟩, ⟨⟨_, rfl, ⟨rfl, rfl, (vK _ f).symm⟩⟩, ⟨⟨_, rfl, ⟨rfl, ar.rfl⟩⟩, trivial⟩⟩⟩ ?_
 refine gHR 9 (List.map V.str b) rfl (vK _ b) rfl <| gR 6 rfl ?_
 obtain ⟨i, hxt9_11, h⟩ := h
 refine gY (az (aj hxt9_11) ab rfl rfl rfl rfl) rfl rfl <| gR 2 rfl ?_
 obtain ⟨a, e, hs179, h⟩ := h
 refine gCY hs179 [0] ?_
 obtain ⟨p, hxt9_14, h⟩ := h
 refine gY (yIO ab rfl rfl rfl rfl (by have := (aj hxt9_14); exact (List.getElem?_eq_some_iff.1 this).1)) rfl rfl ?_
 refine gDo (.set 3 (.row 25 4 (kidsV ((kZ p0).set 0 a)))) (dSe ab rfl rfl rfl rfl (aj hxt9_14) rfl (gG (kZ p0) 0 a)) (okS rfl) rfl rfl rfl <| gR 3 rfl <| go_sub (F' := (mkF 330 0 [(4, .ptr 1 0), (5, .ptr 2 0), (7, .sl 3)])) (H' := ⟨5, [(4, .row 9 1 (List.map V.str b)), (3, .row 25 4 (kidsV ((kZ p0).set 0 a))), (2, vJ c d o), (1, vB 0 []), (0, vE e)]⟩) [0, 1, 2, 3, 9] [0] rfl hK pq3 ⟨⟨_, rfl, rfl, rfl, (vK _ b).symm⟩, ⟨_, rfl, rfl, rfl, (aC _ ((kZ p0).set 0 a)).symm⟩, (pqo3 rfl rfl rfl rfl rfl rfl)⟩ rfl <| gR 14 rfl <| gFR 4 rfl (cb _ (fun _ => rfl) _) rfl rfl ?_
 refine gFR 3 rfl (bo _) rfl rfl ?_
 obtain ⟨rfl, rfl⟩ := h
 exact go_sub (F' := (mkF 330 0 [(4, .ptr 1 0)])) (H' := ⟨2, [(1, vF ((Tree.node c d b ((kZ p0).set 0 a)).kind) ((Tree.node c d b ((kZ p0).set 0 a)).text) ((Tree.node c d b ((kZ p0).set 0 a)).leads) ((Tree.node c d b ((kZ p0).set 0 a)).kids)), (0, vE e)]⟩) [0, 1] [0] rfl hK pq1 (pqo2 rfl rfl rfl rfl) rfl <| go_endD [1] ab (rs := [.cell 4 25]) rfl rfl ⟨rfl, rfl⟩
theorem lS (m : Nat) (p0 : Tree) (a : List UInt8) (r0 : Tree) (b : List UInt8) (h : ((p0.kind = 8) → lr m p0 a r0 b) ∧ ((p0.kind ≠ 8) → eV m p0 a r0 b)) : fv (m + 1) p0 a r0 b := by
 intro K hK
 refine gR 6 rfl <| qBeZ 158 159 rfl rfl rfl rfl h (fun h => ?_) fun h => ?_
 exact gR 1 rfl <| gJ (h K hK) [0, 1, 2, 3, 4] [0] rfl hK pq5 ⟨⟨_, rfl, rfl, rfl, (vK _ p0.leads).symm⟩, ⟨_, rfl, rfl, rfl, (aC _ (kZ p0)).symm⟩, (pqo3 rfl rfl rfl rfl rfl rfl)⟩ rfl
 exact gR 1 rfl <| gJ (h K hK) [0, 1, 2, 3, 4] [0] rfl hK pq7 ⟨⟨_, rfl, rfl, rfl, (vK _ p0.leads).symm⟩, ⟨_, rfl, rfl, rfl, (aC _ (kZ p0)).symm⟩, (pqo3 rfl rfl rfl rfl rfl rfl)⟩ rfl
theorem pq (m : Nat) (p0 : Tree) (q : List UInt8) (r0 : Tree) (r : List UInt8) (h : ∃ i j f k l, aq p0.kind p0.text p0.leads [] 0 [91] q i j f k l ∧ ∃ n, p0.kids[0]? = some n ∧ ∃ b o, aD n l b o ∧ ∃ p, (kZ p0)[0]? = some p ∧ ∃ c d a g e, aq i j f k 1 [93] o c d a g e ∧ (Tree.node c d a ((kZ p0).set 0 b)) = r0 ∧ e = r) : lr (m + 1) p0 q r0 r := by
 intro K hK
 refine gR 3 rfl ?_
 obtain ⟨i, j, f, k, l, hs180, h⟩ := h
 refine gCZ hs180 [2, 4, 0] ⟨⟨_, rfl, ⟨rfl, ar.rfl⟩⟩, ⟨⟨_, rfl, ⟨rfl, rfl, (vK _ p0.leads).symm⟩⟩, ⟨⟨_, rfl, ⟨rfl, (.cons .rfl (.cons .rfl (.cons .rfl (.cons (.nil 4) .nil))))⟩⟩, trivial⟩⟩⟩ ?_
 refine gHR 6 (List.map V.str f) rfl (vK _ f) rfl <| gR 7 rfl ?_
 obtain ⟨n, hxt11_6, h⟩ := h
 refine gY (az (aj hxt11_6) ab rfl rfl rfl rfl) rfl rfl <| gR 2 rfl ?_
 obtain ⟨b, o, hs181, h⟩ := h
 refine gCY hs181 [0] ?_
 obtain ⟨p, hxt11_9, h⟩ := h
 refine gY (yIO ab rfl rfl rfl rfl (by have := (aj hxt11_9); exact (List.getElem?_eq_some_iff.1 this).1)) rfl rfl ?_
 refine gDo (.set 3 (.row 25 4 (kidsV ((kZ p0).set 0 b)))) (dSe ab rfl rfl rfl rfl (aj hxt11_9) rfl (gG (kZ p0) 0 b)) (okS rfl) rfl rfl rfl <| gR 4 rfl ?_
 obtain ⟨c, d, a, g, e, hs182, h⟩ := h
 refine gCZ hs182 [2, 6, 0] ⟨⟨_, rfl, ⟨rfl, ar.rfl⟩⟩, ⟨⟨_, rfl, ⟨rfl, rfl, (vK _ f).symm⟩⟩, ⟨⟨_, rfl, ⟨rfl, ar.rfl⟩⟩, trivial⟩⟩⟩ ?_
 refine gHR 11 (List.map V.str a) rfl (vK _ a) rfl <| gR 3 rfl <| go_sub (F' := (mkF 330 0 [(4, .ptr 1 0), (5, .ptr 2 0), (7, .sl 3)])) (H' := ⟨5, [(4, .row 9 1 (List.map V.str a)), (3, .row 25 4 (kidsV ((kZ p0).set 0 b))), (2, vJ c d g), (1, vB 0 []), (0, vE e)]⟩) [0, 1, 2, 3, 11] [0] rfl hK pq3 ⟨⟨_, rfl, rfl, rfl, (vK _ a).symm⟩, ⟨_, rfl, rfl, rfl, (aC _ ((kZ p0).set 0 b)).symm⟩, (pqo3 rfl rfl rfl rfl rfl rfl)⟩ rfl <| gR 14 rfl <| gFR 4 rfl (cb _ (fun _ => rfl) _) rfl rfl <| gFR 3 rfl (bo _) rfl rfl ?_
 obtain ⟨rfl, rfl⟩ := h
 exact go_sub (F' := (mkF 330 0 [(4, .ptr 1 0)])) (H' := ⟨2, [(1, vF ((Tree.node c d a ((kZ p0).set 0 b)).kind) ((Tree.node c d a ((kZ p0).set 0 b)).text) ((Tree.node c d a ((kZ p0).set 0 b)).leads) ((Tree.node c d a ((kZ p0).set 0 b)).kids)), (0, vE e)]⟩) [0, 1] [0] rfl hK pq1 (pqo2 rfl rfl rfl rfl) rfl <| go_endD [1] ab (rs := [.cell 4 25]) rfl rfl ⟨rfl, rfl⟩
theorem kM (m : Nat) (p0 : Tree) (l : List UInt8) (r0 : Tree) (n : List UInt8) (h : ((p0.kind = 16) → ∃ d e a f g, aq p0.kind p0.text p0.leads [] 0 p0.text l d e a f g ∧ ∃ i j b k c, aq d e a f 1 [40] g i j b k c ∧ co m p0 c (kZ p0) 0 i j b k r0 n) ∧ ((p0.kind ≠ 16) → eL m p0 l r0 n)) : eV (m + 1) p0 l r0 n := by
 intro K hK
 refine gR 6 rfl <| gB 172 rfl rfl rfl ?_ ?_ <;> intro hd
 refine gT 173 rfl hd rfl ?_
 replace hd := (eq_of_beq hd)
 replace h := h.1 hd
 refine gR 6 rfl ?_
 obtain ⟨d, e, a, f, g, hs183, h⟩ := h
 refine gCZ hs183 [2, 4, 0] ⟨⟨_, rfl, ⟨rfl, ar.rfl⟩⟩, ⟨⟨_, rfl, ⟨rfl, rfl, (vK _ p0.leads).symm⟩⟩, ⟨⟨_, rfl, ⟨rfl, (.cons .rfl (.cons .rfl (.cons .rfl (.cons (.nil 4) .nil))))⟩⟩, trivial⟩⟩⟩ ?_
 refine gHR 6 (List.map V.str a) rfl (vK _ a) rfl <| gR 5 rfl ?_
 obtain ⟨i, j, b, k, c, hs184, h⟩ := h
 refine gCZ hs184 [2, 6, 0] ⟨⟨_, rfl, ⟨rfl, ar.rfl⟩⟩, ⟨⟨_, rfl, ⟨rfl, rfl, (vK _ a).symm⟩⟩, ⟨⟨_, rfl, ⟨rfl, ar.rfl⟩⟩, trivial⟩⟩⟩ ?_
 exact gHR 9 (List.map V.str b) rfl (vK _ b) rfl <| gR 9 rfl <| go_loop m <| gJ (h K _ hK (by omega)) [0, 1, 2, 3, 9] [0] rfl hK pq7 ⟨⟨_, rfl, rfl, rfl, (vK _ b).symm⟩, ⟨_, rfl, rfl, rfl, (aC _ (kZ p0)).symm⟩, (pqo3 rfl rfl rfl rfl rfl rfl)⟩ rfl
 refine gF 173 rfl hd rfl ?_
 replace hd := (ne_of_beq_false hd)
 replace h := h.2 hd
 exact gR 1 rfl <| gJ (h K hK) [0, 1, 2, 3, 4] [0] rfl hK pq7 ⟨⟨_, rfl, rfl, rfl, (vK _ p0.leads).symm⟩, ⟨_, rfl, rfl, rfl, (aC _ (kZ p0)).symm⟩, (pqo3 rfl rfl rfl rfl rfl rfl)⟩ rfl
theorem rL12_semvcsref02_spaced (m : Nat) (p0 : Tree) (n : List UInt8) (b : List Tree) (a : Nat) (o : Int) (p : List UInt8) (g : (List (List UInt8))) (q : List Tree) (r0 : Tree) (α : List UInt8) (h : ((a < p0.kids.length) → ((0 < (a : Int)) → 2 + a ≤ 9223372036854775807 ∧ ∃ t v i w x, aq o p g q ((2 + a : Nat) : Int) [44] n t v i w x ∧ ∃ y, p0.kids[a]? = some y ∧ ∃ k z, aD y x k z ∧ ∃ δ, b[a]? = some δ ∧ a + 1 ≤ 9223372036854775807 ∧ co m p0 z (b.set a k) (a + 1) t v i w r0 α) ∧ ((¬ 0 < (a : Int)) → ∃ r, p0.kids[a]? = some r ∧ ∃ f s, aD r n f s ∧ ∃ β, b[a]? = some β ∧ a + 1 ≤ 9223372036854775807 ∧ co m p0 s (b.set a f) (a + 1) o p g q r0 α)) ∧ ((¬ a < p0.kids.length) → ∃ d e c γ l, aq o p g q 2 [41] n d e c γ l ∧ (Tree.node d e c b) = r0 ∧ l = α)) : co (m + 1) p0 n b a o p g q r0 α := by
 intro K j1 hK hj1
 obtain ⟨j1, rfl⟩ : ∃ j, j1 = j + 1 := ⟨j1 - 1, by omega⟩
 refine gR 8 rfl <| gB 182 rfl rfl rfl ?_ ?_ <;> intro hd
 replace hd := (fg hd)
 replace h := h.1 hd
 refine gR 12 rfl <| gB 186 rfl rfl rfl ?_ ?_ <;> intro hd
 replace hd := (of_decide_eq_true hd)
 replace h := h.1 hd
 refine gR 3 rfl ?_
 obtain ⟨hb, h⟩ := h
 refine gR 1 rfl <| gV 188 (.int .i64 ((2 + a : Nat) : Int)) rfl (ax (by omega) (by omega)) rfl <| gR 1 rfl ?_
 obtain ⟨t, v, i, w, x, hs185, h⟩ := h
 refine gCZ hs185 [2, 4, 0] ⟨⟨_, rfl, ⟨rfl, ar.rfl⟩⟩, ⟨⟨_, rfl, ⟨rfl, rfl, (vK _ g).symm⟩⟩, ⟨⟨_, rfl, ⟨rfl, ar.rfl⟩⟩, trivial⟩⟩⟩ ?_
 refine gHR 6 (List.map V.str i) rfl (vK _ i) rfl <| gR 8 rfl ?_
 obtain ⟨y, hxt13_6, h⟩ := h
 refine gY (az (aj hxt13_6) ab rfl rfl rfl rfl) rfl rfl <| gR 2 rfl ?_
 obtain ⟨k, z, hs186, h⟩ := h
 refine gCY hs186 [0] ?_
 obtain ⟨δ, hxt13_9, h⟩ := h
 refine gY (yIO ab rfl rfl rfl rfl (by have := (aj hxt13_9); exact (List.getElem?_eq_some_iff.1 this).1)) rfl rfl ?_
 refine gDo (.set 3 (.row 25 4 (kidsV (b.set a k)))) (dSe ab rfl rfl rfl rfl (aj hxt13_9) rfl (gG b a k)) (okS rfl) rfl rfl rfl <| gR 5 rfl ?_
 obtain ⟨hb, h⟩ := h
 exact gR 1 rfl <| gV 184 (.int .i64 ((a + 1 : Nat) : Int)) rfl (ax (by omega) (by omega)) rfl <| gR 2 rfl <| go_xloop <| gJ (h K _ hK (by omega)) [0, 1, 2, 3, 6] [0] rfl hK pq7 ⟨⟨_, rfl, rfl, rfl, (vK _ i).symm⟩, ⟨_, rfl, rfl, rfl, (aC _ (b.set a k)).symm⟩, (pqo3 rfl rfl rfl rfl rfl rfl)⟩ rfl
 replace hd := (of_decide_eq_false hd)
 replace h := h.2 hd
 refine gR 9 rfl ?_
 obtain ⟨r, hxt13_10, h⟩ := h
 refine gY (az (aj hxt13_10) ab rfl rfl rfl rfl) rfl rfl <| gR 2 rfl ?_
 obtain ⟨f, s, hs187, h⟩ := h
 refine gCY hs187 [0] ?_
 obtain ⟨β, hxt13_13, h⟩ := h
 refine gY (yIO ab rfl rfl rfl rfl (by have := (aj hxt13_13); exact (List.getElem?_eq_some_iff.1 this).1)) rfl rfl ?_
 refine gDo (.set 3 (.row 25 4 (kidsV (b.set a f)))) (dSe ab rfl rfl rfl rfl (aj hxt13_13) rfl (gG b a f)) (okS rfl) rfl rfl rfl <| gR 5 rfl ?_
 obtain ⟨hb, h⟩ := h
 exact gR 1 rfl <| gV 184 (.int .i64 ((a + 1 : Nat) : Int)) rfl (ax (by omega) (by omega)) rfl <| gR 2 rfl <| go_xloop <| gJ (h K _ hK (by omega)) [0, 1, 2, 3, 4] [0] rfl hK pq7 ⟨⟨_, rfl, rfl, rfl, (vK _ g).symm⟩, ⟨_, rfl, rfl, rfl, (aC _ (b.set a f)).symm⟩, (pqo3 rfl rfl rfl rfl rfl rfl)⟩ rfl
 replace hd := (fc hd)
 replace h := h.2 hd
 refine gR 3 rfl <| go_xloopE <| gR 4 rfl ?_
 obtain ⟨d, e, c, γ, l, hs188, h⟩ := h
 refine gCZ hs188 [2, 4, 0] ⟨⟨_, rfl, ⟨rfl, ar.rfl⟩⟩, ⟨⟨_, rfl, ⟨rfl, rfl, (vK _ g).symm⟩⟩, ⟨⟨_, rfl, ⟨rfl, ar.rfl⟩⟩, trivial⟩⟩⟩ ?_
 refine gHR 6 (List.map V.str c) rfl (vK _ c) rfl <| gR 17 rfl <| gFR 6 rfl (cb _ (fun _ => rfl) _) rfl rfl <| gFR 3 rfl (bo _) rfl rfl ?_
 obtain ⟨rfl, rfl⟩ := h
 exact go_sub (F' := (mkF 330 0 [(4, .ptr 1 0)])) (H' := ⟨2, [(1, vF ((Tree.node d e c b).kind) ((Tree.node d e c b).text) ((Tree.node d e c b).leads) ((Tree.node d e c b).kids)), (0, vE l)]⟩) [0, 1] [0] rfl hK pq1 (pqo2 rfl rfl rfl rfl) rfl <| go_endD [1] ab (rs := [.cell 4 25]) rfl rfl ⟨rfl, rfl⟩
theorem kL (m : Nat) (p0 : Tree) (d : List UInt8) (r0 : Tree) (e : List UInt8) (h : ((p0.kind = 17) → ∃ c, p0.kids[0]? = some c ∧ ∃ a b, aD c d a b ∧ ∃ f, (kZ p0)[0]? = some f ∧ (Tree.node p0.kind p0.text p0.leads ((kZ p0).set 0 a)) = r0 ∧ b = e) ∧ ((p0.kind ≠ 17) → eW m p0 d r0 e)) : eL (m + 1) p0 d r0 e := by
 intro K hK
 refine gR 6 rfl <| qBeZ 203 204 rfl rfl rfl rfl h (fun h => ?_) fun h => ?_
 refine gR 5 rfl ?_
 obtain ⟨c, hxt14_1, h⟩ := h
 refine gY (az (aj hxt14_1) ab rfl rfl rfl rfl) rfl rfl <| gR 2 rfl ?_
 obtain ⟨a, b, hs189, h⟩ := h
 refine gCY hs189 [0] ?_
 obtain ⟨f, hxt14_4, h⟩ := h
 refine gY (yIO ab rfl rfl rfl rfl (by have := (aj hxt14_4); exact (List.getElem?_eq_some_iff.1 this).1)) rfl rfl ?_
 refine gDo (.set 3 (.row 25 4 (kidsV ((kZ p0).set 0 a)))) (dSe ab rfl rfl rfl rfl (aj hxt14_4) rfl (gG (kZ p0) 0 a)) (okS rfl) rfl rfl rfl <| gR 3 rfl <| go_sub (F' := (mkF 330 0 [(4, .ptr 1 0), (5, .ptr 2 0), (7, .sl 3)])) (H' := ⟨5, [(4, .row 9 1 (List.map V.str p0.leads)), (3, .row 25 4 (kidsV ((kZ p0).set 0 a))), (2, vI p0.kind p0.text), (1, vB 0 []), (0, vE b)]⟩) [0, 1, 2, 3, 4] [0] rfl hK pq3 ⟨⟨_, rfl, rfl, rfl, (vK _ p0.leads).symm⟩, ⟨_, rfl, rfl, rfl, (aC _ ((kZ p0).set 0 a)).symm⟩, (pqo3 rfl rfl rfl rfl rfl rfl)⟩ rfl <| gR 14 rfl <| gFR 4 rfl (cb _ (fun _ => rfl) _) rfl rfl ?_
 refine gFR 3 rfl (bo _) rfl rfl ?_
 obtain ⟨rfl, rfl⟩ := h
 exact go_sub (F' := (mkF 330 0 [(4, .ptr 1 0)])) (H' := ⟨2, [(1, vF ((Tree.node p0.kind p0.text p0.leads ((kZ p0).set 0 a)).kind) ((Tree.node p0.kind p0.text p0.leads ((kZ p0).set 0 a)).text) ((Tree.node p0.kind p0.text p0.leads ((kZ p0).set 0 a)).leads) ((Tree.node p0.kind p0.text p0.leads ((kZ p0).set 0 a)).kids)), (0, vE b)]⟩) [0, 1] [0] rfl hK pq1 (pqo2 rfl rfl rfl rfl) rfl <| go_endD [1] ab (rs := [.cell 4 25]) rfl rfl ⟨rfl, rfl⟩
 exact gR 1 rfl <| gJ (h K hK) [0, 1, 2, 3, 4] [0] rfl hK pq7 ⟨⟨_, rfl, rfl, rfl, (vK _ p0.leads).symm⟩, ⟨_, rfl, rfl, rfl, (aC _ (kZ p0)).symm⟩, (pqo3 rfl rfl rfl rfl rfl rfl)⟩ rfl
theorem kG (m : Nat) (p0 : Tree) (f : List UInt8) (r0 : Tree) (g : List UInt8) (h : ((p0.kind = 18) → ∃ b c a d e, aq p0.kind p0.text p0.leads [] 0 [91] f b c a d e ∧ cp m p0 e (kZ p0) 0 b c a d r0 g) ∧ ((p0.kind ≠ 18) → eS m p0 f r0 g)) : eW (m + 1) p0 f r0 g := by
 intro K hK
 refine gR 6 rfl <| gB 213 rfl rfl rfl ?_ ?_ <;> intro hd
 refine gT 214 rfl hd rfl ?_
 replace hd := (eq_of_beq hd)
 replace h := h.1 hd
 refine gR 4 rfl ?_
 obtain ⟨b, c, a, d, e, hs190, h⟩ := h
 refine gCZ hs190 [2, 4, 0] ⟨⟨_, rfl, ⟨rfl, ar.rfl⟩⟩, ⟨⟨_, rfl, ⟨rfl, rfl, (vK _ p0.leads).symm⟩⟩, ⟨⟨_, rfl, ⟨rfl, (.cons .rfl (.cons .rfl (.cons .rfl (.cons (.nil 4) .nil))))⟩⟩, trivial⟩⟩⟩ ?_
 exact gHR 6 (List.map V.str a) rfl (vK _ a) rfl <| gR 9 rfl <| go_loop m <| gJ (h K _ hK (by omega)) [0, 1, 2, 3, 6] [0] rfl hK pq7 ⟨⟨_, rfl, rfl, rfl, (vK _ a).symm⟩, ⟨_, rfl, rfl, rfl, (aC _ (kZ p0)).symm⟩, (pqo3 rfl rfl rfl rfl rfl rfl)⟩ rfl
 refine gF 214 rfl hd rfl ?_
 replace hd := (ne_of_beq_false hd)
 replace h := h.2 hd
 exact gR 1 rfl <| gJ (h K hK) [0, 1, 2, 3, 4] [0] rfl hK pq6 ⟨⟨_, rfl, rfl, rfl, (vK _ p0.leads).symm⟩, ⟨_, rfl, rfl, rfl, (aC _ (kZ p0)).symm⟩, (pqo3 rfl rfl rfl rfl rfl rfl)⟩ rfl
theorem rL15_semvcsref02_spaced (m : Nat) (p0 : Tree) (n : List UInt8) (b : List Tree) (a : Nat) (o : Int) (p : List UInt8) (g : (List (List UInt8))) (q : List Tree) (r0 : Tree) (α : List UInt8) (h : ((a < p0.kids.length) → ((0 < (a : Int)) → 1 + a ≤ 9223372036854775807 ∧ ∃ t v i w x, aq o p g q ((1 + a : Nat) : Int) [44] n t v i w x ∧ ∃ y, p0.kids[a]? = some y ∧ ∃ k z, aD y x k z ∧ ∃ δ, b[a]? = some δ ∧ a + 1 ≤ 9223372036854775807 ∧ cp m p0 z (b.set a k) (a + 1) t v i w r0 α) ∧ ((¬ 0 < (a : Int)) → ∃ r, p0.kids[a]? = some r ∧ ∃ f s, aD r n f s ∧ ∃ β, b[a]? = some β ∧ a + 1 ≤ 9223372036854775807 ∧ cp m p0 s (b.set a f) (a + 1) o p g q r0 α)) ∧ ((¬ a < p0.kids.length) → ∃ d e c γ l, aq o p g q 1 [93] n d e c γ l ∧ (Tree.node d e c b) = r0 ∧ l = α)) : cp (m + 1) p0 n b a o p g q r0 α := by
 intro K j1 hK hj1
 obtain ⟨j1, rfl⟩ : ∃ j, j1 = j + 1 := ⟨j1 - 1, by omega⟩
 refine gR 8 rfl <| gB 219 rfl rfl rfl ?_ ?_ <;> intro hd
 replace hd := (fg hd)
 replace h := h.1 hd
 refine gR 12 rfl <| gB 223 rfl rfl rfl ?_ ?_ <;> intro hd
 replace hd := (of_decide_eq_true hd)
 replace h := h.1 hd
 refine gR 3 rfl ?_
 obtain ⟨hb, h⟩ := h
 refine gR 1 rfl <| gV 225 (.int .i64 ((1 + a : Nat) : Int)) rfl (ax (by omega) (by omega)) rfl <| gR 1 rfl ?_
 obtain ⟨t, v, i, w, x, hs191, h⟩ := h
 refine gCZ hs191 [2, 4, 0] ⟨⟨_, rfl, ⟨rfl, ar.rfl⟩⟩, ⟨⟨_, rfl, ⟨rfl, rfl, (vK _ g).symm⟩⟩, ⟨⟨_, rfl, ⟨rfl, ar.rfl⟩⟩, trivial⟩⟩⟩ ?_
 refine gHR 6 (List.map V.str i) rfl (vK _ i) rfl <| gR 8 rfl ?_
 obtain ⟨y, hxt16_6, h⟩ := h
 refine gY (az (aj hxt16_6) ab rfl rfl rfl rfl) rfl rfl <| gR 2 rfl ?_
 obtain ⟨k, z, hs192, h⟩ := h
 refine gCY hs192 [0] ?_
 obtain ⟨δ, hxt16_9, h⟩ := h
 refine gY (yIO ab rfl rfl rfl rfl (by have := (aj hxt16_9); exact (List.getElem?_eq_some_iff.1 this).1)) rfl rfl ?_
 refine gDo (.set 3 (.row 25 4 (kidsV (b.set a k)))) (dSe ab rfl rfl rfl rfl (aj hxt16_9) rfl (gG b a k)) (okS rfl) rfl rfl rfl <| gR 5 rfl ?_
 obtain ⟨hb, h⟩ := h
 exact gR 1 rfl <| gV 221 (.int .i64 ((a + 1 : Nat) : Int)) rfl (ax (by omega) (by omega)) rfl <| gR 2 rfl <| go_xloop <| gJ (h K _ hK (by omega)) [0, 1, 2, 3, 6] [0] rfl hK pq7 ⟨⟨_, rfl, rfl, rfl, (vK _ i).symm⟩, ⟨_, rfl, rfl, rfl, (aC _ (b.set a k)).symm⟩, (pqo3 rfl rfl rfl rfl rfl rfl)⟩ rfl
 replace hd := (of_decide_eq_false hd)
 replace h := h.2 hd
 refine gR 9 rfl ?_
 obtain ⟨r, hxt16_10, h⟩ := h
 refine gY (az (aj hxt16_10) ab rfl rfl rfl rfl) rfl rfl <| gR 2 rfl ?_
 obtain ⟨f, s, hs193, h⟩ := h
 refine gCY hs193 [0] ?_
 obtain ⟨β, hxt16_13, h⟩ := h
 refine gY (yIO ab rfl rfl rfl rfl (by have := (aj hxt16_13); exact (List.getElem?_eq_some_iff.1 this).1)) rfl rfl ?_
 refine gDo (.set 3 (.row 25 4 (kidsV (b.set a f)))) (dSe ab rfl rfl rfl rfl (aj hxt16_13) rfl (gG b a f)) (okS rfl) rfl rfl rfl <| gR 5 rfl ?_
 obtain ⟨hb, h⟩ := h
 exact gR 1 rfl <| gV 221 (.int .i64 ((a + 1 : Nat) : Int)) rfl (ax (by omega) (by omega)) rfl <| gR 2 rfl <| go_xloop <| gJ (h K _ hK (by omega)) [0, 1, 2, 3, 4] [0] rfl hK pq7 ⟨⟨_, rfl, rfl, rfl, (vK _ g).symm⟩, ⟨_, rfl, rfl, rfl, (aC _ (b.set a f)).symm⟩, (pqo3 rfl rfl rfl rfl rfl rfl)⟩ rfl
 replace hd := (fc hd)
 replace h := h.2 hd
 refine gR 3 rfl <| go_xloopE <| gR 4 rfl ?_
 obtain ⟨d, e, c, γ, l, hs194, h⟩ := h
 refine gCZ hs194 [2, 4, 0] ⟨⟨_, rfl, ⟨rfl, ar.rfl⟩⟩, ⟨⟨_, rfl, ⟨rfl, rfl, (vK _ g).symm⟩⟩, ⟨⟨_, rfl, ⟨rfl, ar.rfl⟩⟩, trivial⟩⟩⟩ ?_
 refine gHR 6 (List.map V.str c) rfl (vK _ c) rfl <| gR 17 rfl <| gFR 6 rfl (cb _ (fun _ => rfl) _) rfl rfl <| gFR 3 rfl (bo _) rfl rfl ?_
 obtain ⟨rfl, rfl⟩ := h
 exact go_sub (F' := (mkF 330 0 [(4, .ptr 1 0)])) (H' := ⟨2, [(1, vF ((Tree.node d e c b).kind) ((Tree.node d e c b).text) ((Tree.node d e c b).leads) ((Tree.node d e c b).kids)), (0, vE l)]⟩) [0, 1] [0] rfl hK pq1 (pqo2 rfl rfl rfl rfl) rfl <| go_endD [1] ab (rs := [.cell 4 25]) rfl rfl ⟨rfl, rfl⟩
theorem kJ (m : Nat) (p0 : Tree) (a : List UInt8) (r0 : Tree) (b : List UInt8) (h : ((p0.kind = 19) → iv m p0 a p0.kind p0.text p0.leads [] (kZ p0) 0 r0 b) ∧ ((p0.kind ≠ 19) → eO m p0 a r0 b)) : eS (m + 1) p0 a r0 b := by
 intro K hK
 refine gR 6 rfl <| gB 240 rfl rfl rfl ?_ ?_ <;> intro hd
 refine gT 241 rfl hd rfl ?_
 replace hd := (eq_of_beq hd)
 replace h := h.1 hd
 exact gR 14 rfl <| go_loop m <| gFP 5 rfl rfl rfl rfl <| gJ (h K _ hK (by omega)) [0, 1, 2, 3, 4] [0] rfl hK pq7 ⟨⟨_, rfl, rfl, rfl, (vK _ p0.leads).symm⟩, ⟨_, rfl, rfl, rfl, (aC _ (kZ p0)).symm⟩, ⟨_, rfl, rfl, (.cons .rfl (.cons .rfl (.cons .rfl (.cons (.nil 4) .nil))))⟩, (pqo2 rfl rfl rfl rfl)⟩ rfl
 refine gF 241 rfl hd rfl ?_
 replace hd := (ne_of_beq_false hd)
 replace h := h.2 hd
 exact gR 1 rfl <| gJ (h K hK) [0, 1, 2, 3, 4] [0] rfl hK pq6 ⟨⟨_, rfl, rfl, rfl, (vK _ p0.leads).symm⟩, ⟨_, rfl, rfl, rfl, (aC _ (kZ p0)).symm⟩, (pqo3 rfl rfl rfl rfl rfl rfl)⟩ rfl
theorem rL17_semvcsref02_spaced (m : Nat) (p0 : Tree) (k : List UInt8) (d : Int) (f : List UInt8) (c : (List (List UInt8))) (w b : List Tree) (a : Nat) (r0 : Tree) (x : List UInt8) (h : (((a : Int) < 3) → ∃ n, [[105, 102], [116, 104, 101, 110], [101, 108, 115, 101]][a]? = some n ∧ ∃ o p g q r, aq d f c w (a : Int) n k o p g q r ∧ ∃ s, p0.kids[a]? = some s ∧ ∃ i t, aD s r i t ∧ ∃ v, b[a]? = some v ∧ a + 1 ≤ 9223372036854775807 ∧ iv m p0 t o p g q (b.set a i) (a + 1) r0 x) ∧ ((¬ (a : Int) < 3) → (Tree.node d f c b) = r0 ∧ k = x)) : iv (m + 1) p0 k d f c w b a r0 x := by
 intro K j1 hK hj1
 obtain ⟨j1, rfl⟩ : ∃ j, j1 = j + 1 := ⟨j1 - 1, by omega⟩
 refine gR 7 rfl <| gB 244 rfl rfl rfl ?_ ?_ <;> intro hd
 replace hd := (of_decide_eq_true hd)
 replace h := h.1 hd
 refine gR 9 rfl ?_
 obtain ⟨n, hxs18_1, h⟩ := h
 refine gY (yIA (len := 3) (e := 9) (sz := 1) ab rfl rfl rfl rfl rfl rfl (Af (l := [[105, 102], [116, 104, 101, 110], [101, 108, 115, 101]]) hxs18_1).2.2 (Af (l := [[105, 102], [116, 104, 101, 110], [101, 108, 115, 101]]) hxs18_1).1 (Af (l := [[105, 102], [116, 104, 101, 110], [101, 108, 115, 101]]) hxs18_1).2.1) rfl rfl <| gR 2 rfl ?_
 obtain ⟨o, p, g, q, r, hs195, h⟩ := h
 refine gCZ hs195 [2, 4, 0] ⟨⟨_, rfl, ⟨rfl, ar.rfl⟩⟩, ⟨⟨_, rfl, ⟨rfl, rfl, (vK _ c).symm⟩⟩, ⟨⟨_, rfl, ⟨rfl, ar.rfl⟩⟩, trivial⟩⟩⟩ ?_
 refine gHR 6 (List.map V.str g) rfl (vK _ g) rfl <| gR 8 rfl ?_
 obtain ⟨s, hxt18_7, h⟩ := h
 refine gY (az (aj hxt18_7) ab rfl rfl rfl rfl) rfl rfl <| gR 2 rfl ?_
 obtain ⟨i, t, hs196, h⟩ := h
 refine gCY hs196 [0] ?_
 obtain ⟨v, hxt18_10, h⟩ := h
 refine gY (yIO ab rfl rfl rfl rfl (by have := (aj hxt18_10); exact (List.getElem?_eq_some_iff.1 this).1)) rfl rfl ?_
 refine gDo (.set 3 (.row 25 4 (kidsV (b.set a i)))) (dSe ab rfl rfl rfl rfl (aj hxt18_10) rfl (gG b a i)) (okS rfl) rfl rfl rfl <| gR 5 rfl ?_
 obtain ⟨hb, h⟩ := h
 exact gR 1 rfl <| gV 246 (.int .i64 ((a + 1 : Nat) : Int)) rfl (ax (by omega) (by omega)) rfl <| gR 2 rfl <| go_xloop <| gJ (h K _ hK (by omega)) [0, 1, 2, 3, 6] [0] rfl hK pq7 ⟨⟨_, rfl, rfl, rfl, (vK _ g).symm⟩, ⟨_, rfl, rfl, rfl, (aC _ (b.set a i)).symm⟩, (pqo3 rfl rfl rfl rfl rfl rfl)⟩ rfl
 replace hd := (of_decide_eq_false hd)
 replace h := h.2 hd
 refine gR 3 rfl <| go_xloopE <| gR 17 rfl <| gFR 4 rfl (cb _ (fun _ => rfl) _) rfl rfl <| gFR 3 rfl (bo _) rfl rfl ?_
 obtain ⟨rfl, rfl⟩ := h
 exact go_sub (F' := (mkF 330 0 [(4, .ptr 1 0)])) (H' := ⟨2, [(1, vF ((Tree.node d f c b).kind) ((Tree.node d f c b).text) ((Tree.node d f c b).leads) ((Tree.node d f c b).kids)), (0, vE k)]⟩) [0, 1] [0] rfl hK pq1 (pqo2 rfl rfl rfl rfl) rfl <| go_endD [1] ab (rs := [.cell 4 25]) rfl rfl ⟨rfl, rfl⟩
theorem lc (m : Nat) (p0 : Tree) (a : List UInt8) (r0 : Tree) (b : List UInt8) (h : ((p0.kind = 20) → lN m p0 a r0 b) ∧ ((p0.kind ≠ 20) → eP m p0 a r0 b)) : eO (m + 1) p0 a r0 b := by
 intro K hK
 refine gR 6 rfl <| qBeZ 263 264 rfl rfl rfl rfl h (fun h => ?_) fun h => ?_
 exact gR 1 rfl <| gJ (h K hK) [0, 1, 2, 3, 4] [0] rfl hK pq5 ⟨⟨_, rfl, rfl, rfl, (vK _ p0.leads).symm⟩, ⟨_, rfl, rfl, rfl, (aC _ (kZ p0)).symm⟩, (pqo3 rfl rfl rfl rfl rfl rfl)⟩ rfl
 exact gR 1 rfl <| gJ (h K hK) [0, 1, 2, 3, 4] [0] rfl hK pq6 ⟨⟨_, rfl, rfl, rfl, (vK _ p0.leads).symm⟩, ⟨_, rfl, rfl, rfl, (aC _ (kZ p0)).symm⟩, (pqo3 rfl rfl rfl rfl rfl rfl)⟩ rfl
theorem rL19_semvcsref02_spaced (m : Nat) (p0 : Tree) (ζ : List UInt8) (r0 : Tree) (η : List UInt8) (h : ∃ w x i y z, aq p0.kind p0.text p0.leads [] 0 [108, 101, 116] ζ w x i y z ∧ ∃ α β j γ p, aq w x i y 1 p0.text z α β j γ p ∧ ∃ k l d n q, aq α β j γ 2 [61] p k l d n q ∧ ∃ r, p0.kids[0]? = some r ∧ ∃ a o, aD r q a o ∧ ∃ δ, (kZ p0)[0]? = some δ ∧ ∃ e f b s t, aq k l d n 3 [105, 110] o e f b s t ∧ ∃ v, p0.kids[1]? = some v ∧ ∃ c g, aD v t c g ∧ ∃ ε, ((kZ p0).set 0 a)[1]? = some ε ∧ (Tree.node e f b (((kZ p0).set 0 a).set 1 c)) = r0 ∧ g = η) : lN (m + 1) p0 ζ r0 η := by
 intro K hK
 refine gR 3 rfl ?_
 obtain ⟨w, x, i, y, z, hs197, h⟩ := h
 refine gCZ hs197 [2, 4, 0] ⟨⟨_, rfl, ⟨rfl, ar.rfl⟩⟩, ⟨⟨_, rfl, ⟨rfl, rfl, (vK _ p0.leads).symm⟩⟩, ⟨⟨_, rfl, ⟨rfl, (.cons .rfl (.cons .rfl (.cons .rfl (.cons (.nil 4) .nil))))⟩⟩, trivial⟩⟩⟩ ?_
 refine gHR 6 (List.map V.str i) rfl (vK _ i) rfl <| gR 7 rfl ?_
 obtain ⟨α, β, j, γ, p, hs198, h⟩ := h
 refine gCZ hs198 [2, 6, 0] ⟨⟨_, rfl, ⟨rfl, ar.rfl⟩⟩, ⟨⟨_, rfl, ⟨rfl, rfl, (vK _ i).symm⟩⟩, ⟨⟨_, rfl, ⟨rfl, ar.rfl⟩⟩, trivial⟩⟩⟩ ?_
 refine gHR 9 (List.map V.str j) rfl (vK _ j) rfl <| gR 5 rfl ?_
 obtain ⟨k, l, d, n, q, hs199, h⟩ := h
 refine gCZ hs199 [2, 9, 0] ⟨⟨_, rfl, ⟨rfl, ar.rfl⟩⟩, ⟨⟨_, rfl, ⟨rfl, rfl, (vK _ j).symm⟩⟩, ⟨⟨_, rfl, ⟨rfl, ar.rfl⟩⟩, trivial⟩⟩⟩ ?_
 refine gHR 12 (List.map V.str d) rfl (vK _ d) rfl <| gR 7 rfl ?_
 obtain ⟨r, hxt20_16, h⟩ := h
 refine gY (az (aj hxt20_16) ab rfl rfl rfl rfl) rfl rfl <| gR 2 rfl ?_
 obtain ⟨a, o, hs200, h⟩ := h
 refine gCY hs200 [0] ?_
 obtain ⟨δ, hxt20_19, h⟩ := h
 refine gY (yIO ab rfl rfl rfl rfl (by have := (aj hxt20_19); exact (List.getElem?_eq_some_iff.1 this).1)) rfl rfl ?_
 refine gDo (.set 3 (.row 25 4 (kidsV ((kZ p0).set 0 a)))) (dSe ab rfl rfl rfl rfl (aj hxt20_19) rfl (gG (kZ p0) 0 a)) (okS rfl) rfl rfl rfl <| gR 2 rfl <| go_sub (F' := (mkF 330 0 [(1, .ptr 0 0), (2, .box (ai p0) 0), (4, .ptr 1 0), (5, .ptr 2 0), (7, .sl 3)])) (H' := ⟨5, [(4, .row 9 1 (List.map V.str d)), (3, .row 25 4 (kidsV ((kZ p0).set 0 a))), (2, vJ k l n), (1, vB 0 []), (0, vE o)]⟩) [0, 1, 2, 3, 12] [0] rfl hK pq5 ⟨⟨_, rfl, rfl, rfl, (vK _ d).symm⟩, ⟨_, rfl, rfl, rfl, (aC _ ((kZ p0).set 0 a)).symm⟩, (pqo3 rfl rfl rfl rfl rfl rfl)⟩ rfl ?_
 refine gR 3 rfl ?_
 obtain ⟨e, f, b, s, t, hs201, h⟩ := h
 refine gCZ hs201 [2, 4, 0] ⟨⟨_, rfl, ⟨rfl, ar.rfl⟩⟩, ⟨⟨_, rfl, ⟨rfl, rfl, (vK _ d).symm⟩⟩, ⟨⟨_, rfl, ⟨rfl, ar.rfl⟩⟩, trivial⟩⟩⟩ ?_
 refine gHR 6 (List.map V.str b) rfl (vK _ b) rfl <| gR 6 rfl ?_
 obtain ⟨v, hxt20_25, h⟩ := h
 refine gY (az (aj hxt20_25) ab rfl rfl rfl rfl) rfl rfl <| gR 2 rfl ?_
 obtain ⟨c, g, hs202, h⟩ := h
 refine gCY hs202 [0] ?_
 obtain ⟨ε, hxt20_28, h⟩ := h
 refine gY (yIO ab rfl rfl rfl rfl (by have := (aj hxt20_28); exact (List.getElem?_eq_some_iff.1 this).1)) rfl rfl ?_
 refine gDo (.set 3 (.row 25 4 (kidsV (((kZ p0).set 0 a).set 1 c)))) (dSe ab rfl rfl rfl rfl (aj hxt20_28) rfl (gG ((kZ p0).set 0 a) 1 c)) (okS rfl) rfl rfl rfl <| gR 3 rfl <| go_sub (F' := (mkF 330 0 [(4, .ptr 1 0), (5, .ptr 2 0), (7, .sl 3)])) (H' := ⟨5, [(4, .row 9 1 (List.map V.str b)), (3, .row 25 4 (kidsV (((kZ p0).set 0 a).set 1 c))), (2, vJ e f s), (1, vB 0 []), (0, vE g)]⟩) [0, 1, 2, 3, 6] [0] rfl hK pq3 ⟨⟨_, rfl, rfl, rfl, (vK _ b).symm⟩, ⟨_, rfl, rfl, rfl, (aC _ (((kZ p0).set 0 a).set 1 c)).symm⟩, (pqo3 rfl rfl rfl rfl rfl rfl)⟩ rfl ?_
 refine gR 14 rfl <| gFR 4 rfl (cb _ (fun _ => rfl) _) rfl rfl <| gFR 3 rfl (bo _) rfl rfl ?_
 obtain ⟨rfl, rfl⟩ := h
 exact go_sub (F' := (mkF 330 0 [(4, .ptr 1 0)])) (H' := ⟨2, [(1, vF ((Tree.node e f b (((kZ p0).set 0 a).set 1 c)).kind) ((Tree.node e f b (((kZ p0).set 0 a).set 1 c)).text) ((Tree.node e f b (((kZ p0).set 0 a).set 1 c)).leads) ((Tree.node e f b (((kZ p0).set 0 a).set 1 c)).kids)), (0, vE g)]⟩) [0, 1] [0] rfl hK pq1 (pqo2 rfl rfl rfl rfl) rfl <| go_endD [1] ab (rs := [.cell 4 25]) rfl rfl ⟨rfl, rfl⟩
theorem kQ (m : Nat) (p0 : Tree) (a : List UInt8) (r0 : Tree) (b : List UInt8) (h : ((p0.kind = 21) → lw m p0 a r0 b) ∧ ((p0.kind ≠ 21) → ir m p0 a r0 b)) : eP (m + 1) p0 a r0 b := by
 intro K hK
 refine gR 6 rfl <| qBeZ 291 292 rfl rfl rfl rfl h (fun h => ?_) fun h => ?_
 exact gR 1 rfl <| gJ (h K hK) [0, 1, 2, 3, 4] [0] rfl hK pq5 ⟨⟨_, rfl, rfl, rfl, (vK _ p0.leads).symm⟩, ⟨_, rfl, rfl, rfl, (aC _ (kZ p0)).symm⟩, (pqo3 rfl rfl rfl rfl rfl rfl)⟩ rfl
 exact gR 1 rfl <| gJ (h K hK) [0, 1, 2, 3, 4] [0] rfl hK pq6 ⟨⟨_, rfl, rfl, rfl, (vK _ p0.leads).symm⟩, ⟨_, rfl, rfl, rfl, (aC _ (kZ p0)).symm⟩, (pqo3 rfl rfl rfl rfl rfl rfl)⟩ rfl
theorem rL21_semvcsref02_spaced (m : Nat) (p0 : Tree) (p : List UInt8) (r0 : Tree) (q : List UInt8) (h : ∃ i, p0.kids[0]? = some i ∧ ∃ a j, aD i p a j ∧ ∃ o, (kZ p0)[0]? = some o ∧ ∃ d e c k l, aq p0.kind p0.text p0.leads [] 0 p0.text j d e c k l ∧ ∃ g, p0.kids[1]? = some g ∧ ∃ b f, aD g l b f ∧ ∃ n, ((kZ p0).set 0 a)[1]? = some n ∧ (Tree.node d e c (((kZ p0).set 0 a).set 1 b)) = r0 ∧ f = q) : lw (m + 1) p0 p r0 q := by
 intro K hK
 refine gR 5 rfl ?_
 obtain ⟨i, hxt22_1, h⟩ := h
 refine gY (az (aj hxt22_1) ab rfl rfl rfl rfl) rfl rfl <| gR 2 rfl ?_
 obtain ⟨a, j, hs203, h⟩ := h
 refine gCY hs203 [0] ?_
 obtain ⟨o, hxt22_4, h⟩ := h
 refine gY (yIO ab rfl rfl rfl rfl (by have := (aj hxt22_4); exact (List.getElem?_eq_some_iff.1 this).1)) rfl rfl ?_
 refine gDo (.set 3 (.row 25 4 (kidsV ((kZ p0).set 0 a)))) (dSe ab rfl rfl rfl rfl (aj hxt22_4) rfl (gG (kZ p0) 0 a)) (okS rfl) rfl rfl rfl <| gR 7 rfl ?_
 obtain ⟨d, e, c, k, l, hs204, h⟩ := h
 refine gCZ hs204 [2, 4, 0] ⟨⟨_, rfl, ⟨rfl, ar.rfl⟩⟩, ⟨⟨_, rfl, ⟨rfl, rfl, (vK _ p0.leads).symm⟩⟩, ⟨⟨_, rfl, ⟨rfl, (.cons .rfl (.cons .rfl (.cons .rfl (.cons (.nil 4) .nil))))⟩⟩, trivial⟩⟩⟩ ?_
 refine gHR 8 (List.map V.str c) rfl (vK _ c) rfl <| gR 6 rfl ?_
 obtain ⟨g, hxt22_10, h⟩ := h
 refine gY (az (aj hxt22_10) ab rfl rfl rfl rfl) rfl rfl <| gR 2 rfl ?_
 obtain ⟨b, f, hs205, h⟩ := h
 refine gCY hs205 [0] ?_
 obtain ⟨n, hxt22_13, h⟩ := h
 refine gY (yIO ab rfl rfl rfl rfl (by have := (aj hxt22_13); exact (List.getElem?_eq_some_iff.1 this).1)) rfl rfl ?_
 refine gDo (.set 3 (.row 25 4 (kidsV (((kZ p0).set 0 a).set 1 b)))) (dSe ab rfl rfl rfl rfl (aj hxt22_13) rfl (gG ((kZ p0).set 0 a) 1 b)) (okS rfl) rfl rfl rfl <| gR 3 rfl <| go_sub (F' := (mkF 330 0 [(4, .ptr 1 0), (5, .ptr 2 0), (7, .sl 3)])) (H' := ⟨5, [(4, .row 9 1 (List.map V.str c)), (3, .row 25 4 (kidsV (((kZ p0).set 0 a).set 1 b))), (2, vJ d e k), (1, vB 0 []), (0, vE f)]⟩) [0, 1, 2, 3, 8] [0] rfl hK pq3 ⟨⟨_, rfl, rfl, rfl, (vK _ c).symm⟩, ⟨_, rfl, rfl, rfl, (aC _ (((kZ p0).set 0 a).set 1 b)).symm⟩, (pqo3 rfl rfl rfl rfl rfl rfl)⟩ rfl ?_
 refine gR 14 rfl <| gFR 4 rfl (cb _ (fun _ => rfl) _) rfl rfl <| gFR 3 rfl (bo _) rfl rfl ?_
 obtain ⟨rfl, rfl⟩ := h
 exact go_sub (F' := (mkF 330 0 [(4, .ptr 1 0)])) (H' := ⟨2, [(1, vF ((Tree.node d e c (((kZ p0).set 0 a).set 1 b)).kind) ((Tree.node d e c (((kZ p0).set 0 a).set 1 b)).text) ((Tree.node d e c (((kZ p0).set 0 a).set 1 b)).leads) ((Tree.node d e c (((kZ p0).set 0 a).set 1 b)).kids)), (0, vE f)]⟩) [0, 1] [0] rfl hK pq1 (pqo2 rfl rfl rfl rfl) rfl <| go_endD [1] ab (rs := [.cell 4 25]) rfl rfl ⟨rfl, rfl⟩
theorem kP (m : Nat) (p0 : Tree) (j : List UInt8) (r0 : Tree) (k : List UInt8) (h : ((p0.kind = 22) → lT m p0 j r0 k) ∧ ((p0.kind ≠ 22) → ∃ e, jq p0 e ∧ ∃ g, e[0]? = some g ∧ ∃ b c a i d, aq p0.kind p0.text p0.leads [] 0 g.Text j b c a i d ∧ (Tree.node b c a (kZ p0)) = r0 ∧ d = k)) : ir (m + 1) p0 j r0 k := by
 intro K hK
 refine gR 6 rfl <| qBeZ 313 314 rfl rfl rfl rfl h (fun h => ?_) fun h => ?_
 exact gR 1 rfl <| gJ (h K hK) [0, 1, 2, 3, 4] [0] rfl hK pq5 ⟨⟨_, rfl, rfl, rfl, (vK _ p0.leads).symm⟩, ⟨_, rfl, rfl, rfl, (aC _ (kZ p0)).symm⟩, (pqo3 rfl rfl rfl rfl rfl rfl)⟩ rfl
 refine gR 4 rfl ?_
 obtain ⟨e, hs206, h⟩ := h
 refine gC0 hs206 (by kernel_rfl) rfl rfl .rfl rfl <| gR 5 rfl ?_
 obtain ⟨g, hxx23_2, h⟩ := h
 refine gY (az (mapget (f := aa.w) hxx23_2) ab rfl rfl rfl rfl) rfl rfl <| gR 3 rfl ?_
 obtain ⟨b, c, a, i, d, hs207, h⟩ := h
 refine gCZ hs207 [2, 4, 0] ⟨⟨_, rfl, ⟨rfl, ar.rfl⟩⟩, ⟨⟨_, rfl, ⟨rfl, rfl, (vK _ p0.leads).symm⟩⟩, ⟨⟨_, rfl, ⟨rfl, (.cons .rfl (.cons .rfl (.cons .rfl (.cons (.nil 4) .nil))))⟩⟩, trivial⟩⟩⟩ ?_
 refine gHR 6 (List.map V.str a) rfl (vK _ a) rfl <| gR 3 rfl <| go_sub (F' := (mkF 330 0 [(4, .ptr 1 0), (5, .ptr 2 0), (7, .sl 3)])) (H' := ⟨5, [(4, .row 9 1 (List.map V.str a)), (3, .row 25 4 (kidsV (kZ p0))), (2, vJ b c i), (1, vB 0 []), (0, vE d)]⟩) [0, 1, 2, 3, 6] [0] rfl hK pq3 ⟨⟨_, rfl, rfl, rfl, (vK _ a).symm⟩, ⟨_, rfl, rfl, rfl, (aC _ (kZ p0)).symm⟩, (pqo3 rfl rfl rfl rfl rfl rfl)⟩ rfl <| gR 14 rfl <| gFR 4 rfl (cb _ (fun _ => rfl) _) rfl rfl <| gFR 3 rfl (bo _) rfl rfl ?_
 obtain ⟨rfl, rfl⟩ := h
 exact go_sub (F' := (mkF 330 0 [(4, .ptr 1 0)])) (H' := ⟨2, [(1, vF ((Tree.node b c a (kZ p0)).kind) ((Tree.node b c a (kZ p0)).text) ((Tree.node b c a (kZ p0)).leads) ((Tree.node b c a (kZ p0)).kids)), (0, vE d)]⟩) [0, 1] [0] rfl hK pq1 (pqo2 rfl rfl rfl rfl) rfl <| go_endD [1] ab (rs := [.cell 4 25]) rfl rfl ⟨rfl, rfl⟩
theorem rL23_semvcsref02_spaced (m : Nat) (p0 : Tree) (q : List UInt8) (r0 : Tree) (r : List UInt8) (h : ∃ i j f k l, aq p0.kind p0.text p0.leads [] 0 [40] q i j f k l ∧ ∃ n, p0.kids[0]? = some n ∧ ∃ b o, aD n l b o ∧ ∃ p, (kZ p0)[0]? = some p ∧ ∃ c d a g e, aq i j f k 1 [41] o c d a g e ∧ (Tree.node c d a ((kZ p0).set 0 b)) = r0 ∧ e = r) : lT (m + 1) p0 q r0 r := by
 intro K hK
 refine gR 3 rfl ?_
 obtain ⟨i, j, f, k, l, hs208, h⟩ := h
 refine gCZ hs208 [2, 4, 0] ⟨⟨_, rfl, ⟨rfl, ar.rfl⟩⟩, ⟨⟨_, rfl, ⟨rfl, rfl, (vK _ p0.leads).symm⟩⟩, ⟨⟨_, rfl, ⟨rfl, (.cons .rfl (.cons .rfl (.cons .rfl (.cons (.nil 4) .nil))))⟩⟩, trivial⟩⟩⟩ ?_
 refine gHR 6 (List.map V.str f) rfl (vK _ f) rfl <| gR 7 rfl ?_
 obtain ⟨n, hxt24_6, h⟩ := h
 refine gY (az (aj hxt24_6) ab rfl rfl rfl rfl) rfl rfl <| gR 2 rfl ?_
 obtain ⟨b, o, hs209, h⟩ := h
 refine gCY hs209 [0] ?_
 obtain ⟨p, hxt24_9, h⟩ := h
 refine gY (yIO ab rfl rfl rfl rfl (by have := (aj hxt24_9); exact (List.getElem?_eq_some_iff.1 this).1)) rfl rfl ?_
 refine gDo (.set 3 (.row 25 4 (kidsV ((kZ p0).set 0 b)))) (dSe ab rfl rfl rfl rfl (aj hxt24_9) rfl (gG (kZ p0) 0 b)) (okS rfl) rfl rfl rfl <| gR 4 rfl ?_
 obtain ⟨c, d, a, g, e, hs210, h⟩ := h
 refine gCZ hs210 [2, 6, 0] ⟨⟨_, rfl, ⟨rfl, ar.rfl⟩⟩, ⟨⟨_, rfl, ⟨rfl, rfl, (vK _ f).symm⟩⟩, ⟨⟨_, rfl, ⟨rfl, ar.rfl⟩⟩, trivial⟩⟩⟩ ?_
 refine gHR 11 (List.map V.str a) rfl (vK _ a) rfl <| gR 3 rfl <| go_sub (F' := (mkF 330 0 [(4, .ptr 1 0), (5, .ptr 2 0), (7, .sl 3)])) (H' := ⟨5, [(4, .row 9 1 (List.map V.str a)), (3, .row 25 4 (kidsV ((kZ p0).set 0 b))), (2, vJ c d g), (1, vB 0 []), (0, vE e)]⟩) [0, 1, 2, 3, 11] [0] rfl hK pq3 ⟨⟨_, rfl, rfl, rfl, (vK _ a).symm⟩, ⟨_, rfl, rfl, rfl, (aC _ ((kZ p0).set 0 b)).symm⟩, (pqo3 rfl rfl rfl rfl rfl rfl)⟩ rfl <| gR 14 rfl <| gFR 4 rfl (cb _ (fun _ => rfl) _) rfl rfl <| gFR 3 rfl (bo _) rfl rfl ?_
 obtain ⟨rfl, rfl⟩ := h
 exact go_sub (F' := (mkF 330 0 [(4, .ptr 1 0)])) (H' := ⟨2, [(1, vF ((Tree.node c d a ((kZ p0).set 0 b)).kind) ((Tree.node c d a ((kZ p0).set 0 b)).text) ((Tree.node c d a ((kZ p0).set 0 b)).leads) ((Tree.node c d a ((kZ p0).set 0 b)).kids)), (0, vE e)]⟩) [0, 1] [0] rfl hK pq1 (pqo2 rfl rfl rfl rfl) rfl <| go_endD [1] ab (rs := [.cell 4 25]) rfl rfl ⟨rfl, rfl⟩
theorem qI (m : Nat) (p0 r0 : Tree) (h : ∃ a b, aD p0 [] a b ∧ a = r0) : fV p0 r0 := by
 refine ⟨rfl, rfl, ?_⟩
 refine am 6 [] Tryz.func12 rfl rfl rfl (aM rfl) fun K hK => ?_
 refine gR 3 rfl <| gFP 0 rfl rfl rfl rfl <| gR 12 rfl ?_
 obtain ⟨a, b, hs2, h⟩ := h
 refine gCY hs2 [2] ?_
 refine gR 4 rfl ?_
 subst h
 exact go_sub (F' := (mkF 6 0 [(2, .ptr 0 0)])) (H' := ⟨1, [(0, vF a.kind a.text a.leads a.kids)]⟩) [1] [] rfl hK pq1 (pqo1 rfl rfl) rfl <| go_end ab (rs := [.cell 2 25]) rfl rfl rfl
def eC (m : Nat) (p0 p1 : Tree) (a : Nat) (r0 : Bool) : Prop := ∀ (K : Ctx) (j1 : Nat), av K [] → m ≤ j1 → qLG K Tryz.f11 (fun u _ => u = .bool r0) (xL (ac Tryz.f11)) [.loop (xL (ac Tryz.f11)) j1, .blk 0, .seq (xH (ac Tryz.f11))] 74 (mkF 74 0 [(2, .box (ai p0) 0), (3, .box (ai p1) 0), (5, .int .i64 (a : Int))]) ⟨0, []⟩
def gv (m : Nat) (p0 p1 : Tree) (a : Nat) (r0 : Bool) : Prop := ∀ (K : Ctx) (j1 : Nat), av K [] → m ≤ j1 → qLG K Tryz.f11 (fun u _ => u = .bool r0) (xL (cB (ac Tryz.f11))) [.loop (xL (cB (ac Tryz.f11))) j1, .blk 2, .seq (xJ (ac Tryz.f11))] 74 (mkF 74 0 [(2, .box (ai p0) 0), (3, .box (ai p1) 0), (6, .int .i64 (a : Int))]) ⟨0, []⟩
theorem rM (m : Nat) (p0 p1 : Tree) (r0 : Bool) (h : ((p0.kind ≠ p1.kind) → false = r0) ∧ ((p0.kind = p1.kind) → ((p0.text ≠ p1.text) → false = r0) ∧ ((p0.text = p1.text) → ((p0.leads.length ≠ p1.leads.length) → false = r0) ∧ ((p0.leads.length = p1.leads.length) → ((p0.kids.length ≠ p1.kids.length) → false = r0) ∧ ((p0.kids.length = p1.kids.length) → eC m p0 p1 0 r0))))) : fa p0 p1 r0 := by
 refine ⟨rfl, rfl, ?_⟩
 refine am 74 [] Tryz.func11 rfl rfl rfl (aM rfl) fun K hK => ?_
 refine gR 3 rfl <| gFP 0 rfl rfl rfl rfl <| gR 1 rfl <| gFP 1 rfl rfl rfl rfl <| gR 12 rfl <| gB 12 rfl rfl rfl ?_ ?_ <;> intro hd
 refine gT 11 rfl hd rfl ?_
 replace hd := (fh hd)
 replace h := h.1 hd
 refine gR 34 rfl ?_
 subst h
 exact go_end ab (rs := [.tmp 4]) rfl rfl rfl
 refine gF 11 rfl hd rfl ?_
 replace hd := (dz hd)
 replace h := h.2 hd
 refine gR 7 rfl <| gB 19 rfl rfl rfl ?_ ?_ <;> intro hd
 refine gT 18 rfl hd rfl ?_
 replace hd := (fh hd)
 replace h := h.1 hd
 refine gR 27 rfl ?_
 subst h
 exact go_end ab (rs := [.tmp 4]) rfl rfl rfl
 refine gF 18 rfl hd rfl ?_
 replace hd := (dz hd)
 replace h := h.2 hd
 refine gR 3 rfl <| gV 22 (.int .i64 (p0.leads.length : Int)) rfl (bx (aZ V.str _)) rfl <| gLB 21 rfl (aZ V.str _) fun hl15 => gR 3 rfl <| gV 25 (.int .i64 (p1.leads.length : Int)) rfl (bx (aZ V.str _)) rfl <| gLB 24 rfl (aZ V.str _) fun hl16 => gR 3 rfl <| gB 28 rfl rfl rfl ?_ ?_ <;> intro hd
 refine gT 27 rfl hd rfl ?_
 replace hd := (EK hd)
 replace h := h.1 hd
 refine gR 18 rfl ?_
 subst h
 exact go_end ab (rs := [.tmp 4]) rfl rfl rfl
 refine gF 27 rfl hd rfl ?_
 replace hd := (Fe hd)
 replace h := h.2 hd
 refine gR 3 rfl <| gV 31 (.int .i64 (p0.kids.length : Int)) rfl (bx (aG _)) rfl <| gLB 30 rfl (aG _) fun hl17 => gR 3 rfl <| gV 34 (.int .i64 (p1.kids.length : Int)) rfl (bx (aG _)) rfl <| gLB 33 rfl (aG _) fun hl18 => gR 4 rfl <| gB 36 rfl rfl rfl ?_ ?_ <;> intro hd
 replace hd := (EK hd)
 replace h := h.1 hd
 refine gR 8 rfl ?_
 subst h
 exact go_end ab (rs := [.tmp 4]) rfl rfl rfl
 replace hd := (Fe hd)
 replace h := h.2 hd
 exact gR 10 rfl <| go_loop m <| gJ (h K _ hK (by omega)) [] [] rfl hK pq3 trivial rfl
theorem mV (m : Nat) (p0 p1 : Tree) (a : Nat) (r0 : Bool) (h : ((a < p0.leads.length) → ∃ b, p0.leads[a]? = some b ∧ ∃ c, p1.leads[a]? = some c ∧ ((b ≠ c) → false = r0) ∧ ((b = c) → eC m p0 p1 (a + 1) r0)) ∧ ((¬ a < p0.leads.length) → gv m p0 p1 0 r0)) : eC (m + 1) p0 p1 a r0 := by
 intro K j1 hK hj1
 obtain ⟨j1, rfl⟩ : ∃ j, j1 = j + 1 := ⟨j1 - 1, by omega⟩
 refine gR 7 rfl <| gV 40 (.int .i64 (p0.leads.length : Int)) rfl (bx (aZ V.str _)) rfl <| gLB 39 rfl (aZ V.str _) fun hl19 => gR 3 rfl <| gB 41 rfl rfl rfl ?_ ?_ <;> intro hd
 replace hd := (fg hd)
 replace h := h.1 hd
 refine gR 6 rfl <| gDs [] 11 11 rfl (by kernel_rfl) (by kernel_rfl) <| gDr [(0, 2), (1, 2), (2, 2)] (by kernel_rfl) rfl rfl ?_
 obtain ⟨b, hxs1_1, h⟩ := h
 refine gYd 3 rfl (by kernel_rfl) (az (mapget (f := V.str) hxs1_1) ab rfl rfl rfl rfl) rfl rfl <| gDr [(4, 2), (5, 2), (6, 2), (7, 0)] (by kernel_rfl) rfl rfl ?_
 obtain ⟨c, hxs1_2, h⟩ := h
 refine bA 8 rfl (by kernel_rfl) (az (mapget (f := V.str) hxs1_2) ab rfl rfl rfl rfl) rfl rfl ?_
 refine gDr [(9, 0), (10, 0)] (by kernel_rfl) rfl rfl <| gDe (by kernel_rfl) <| gR 1 rfl <| gB 54 rfl rfl rfl ?_ ?_ <;> intro hd
 replace hd := (fh hd)
 replace h := h.1 hd
 refine gR 9 rfl <| go_xloopR <| gR 2 rfl ?_
 subst h
 exact go_end ab (rs := [.tmp 4]) rfl rfl rfl
 replace hd := (dz hd)
 replace h := h.2 hd
 exact gR 7 rfl <| gV 43 (.int .i64 ((a + 1 : Nat) : Int)) rfl (ax (by have := hl19; omega) (by omega)) rfl <| gR 2 rfl <| go_xloop <| gJ (h K _ hK (by omega)) [] [] rfl hK pq3 trivial rfl
 replace hd := (fc hd)
 replace h := h.2 hd
 exact gR 3 rfl <| go_xloopE <| gR 9 rfl <| go_loop m <| gJ (h K _ hK (by omega)) [] [] rfl hK pq3 trivial rfl
theorem jt (m : Nat) (p0 p1 : Tree) (a : Nat) (r0 : Bool) (h : ((a < p0.kids.length) → ∃ c, p0.kids[a]? = some c ∧ ∃ d, p1.kids[a]? = some d ∧ ∃ b, fa c d b ∧ ((b = false) → false = r0) ∧ ((b = true) → gv m p0 p1 (a + 1) r0)) ∧ ((¬ a < p0.kids.length) → true = r0)) : gv (m + 1) p0 p1 a r0 := by
 intro K j1 hK hj1
 obtain ⟨j1, rfl⟩ : ∃ j, j1 = j + 1 := ⟨j1 - 1, by omega⟩
 refine gR 7 rfl <| gV 58 (.int .i64 (p0.kids.length : Int)) rfl (bx (aG _)) rfl <| gLB 57 rfl (aG _) fun hl20 => gR 3 rfl <| gB 59 rfl rfl rfl ?_ ?_ <;> intro hd
 replace hd := (fg hd)
 replace h := h.1 hd
 refine gR 6 rfl <| gDs [] 12 12 rfl (by kernel_rfl) (by kernel_rfl) <| gDr [(0, 2), (1, 2), (2, 2)] (by kernel_rfl) rfl rfl ?_
 obtain ⟨c, hxt2_1, h⟩ := h
 refine gYd 3 rfl (by kernel_rfl) (az (aj hxt2_1) ab rfl rfl rfl rfl) rfl rfl <| gDr [(4, 2), (5, 2), (6, 2), (7, 0)] (by kernel_rfl) rfl rfl ?_
 obtain ⟨d, hxt2_2, h⟩ := h
 refine bA 8 rfl (by kernel_rfl) (az (aj hxt2_2) ab rfl rfl rfl rfl) rfl rfl ?_
 refine gDr [(9, 0)] (by kernel_rfl) rfl rfl ?_
 obtain ⟨b, hs21, h⟩ := h
 refine bW 10 hs21 (by kernel_rfl) rfl (by kernel_rfl) rfl rfl .rfl rfl rfl ?_
 refine gDr [(11, 0)] (by kernel_rfl) rfl rfl <| gDe (by kernel_rfl) <| gR 1 rfl <| gB 73 rfl rfl rfl ?_ ?_ <;> intro hd
 replace hd := (dr hd)
 replace h := h.1 hd
 refine gR 9 rfl <| go_xloopR <| gR 2 rfl ?_
 subst h
 exact go_end ab (rs := [.tmp 4]) rfl rfl rfl
 replace hd := (dn hd)
 replace h := h.2 hd
 exact gR 7 rfl <| gV 61 (.int .i64 ((a + 1 : Nat) : Int)) rfl (ax (by have := hl20; omega) (by omega)) rfl <| gR 2 rfl <| go_xloop <| gJ (h K _ hK (by omega)) [] [] rfl hK pq3 trivial rfl
 replace hd := (fc hd)
 replace h := h.2 hd
 refine gR 3 rfl <| go_xloopE <| gR 8 rfl ?_
 subst h
 exact go_end ab (rs := [.tmp 4]) rfl rfl rfl
abbrev Sps (t : Tree) (last : List UInt8) (r : Tree) (q : List UInt8) : Prop := aD t last r q
abbrev zTr : Tree := .node 0 [] [] []
def Bdx (x : List UInt8) : Prop := x.length ≤ 2000010
theorem bq {k : Int} {x : List UInt8} {ls : List (List UInt8)} {ks : List Tree} (i : Nat) {y last : List UInt8} (hi : i < ls.length) (hy : Bdx y) (hl : Bdx last) : aq k x ls ks (i : Int) y last k x (ls.set i (ah last (ls.getD i []) y)) ks y := by
 unfold Bdx at hy hl
 obtain ⟨s, hs, _⟩ | h' := aN ls i
 rotate_left
 ·exact absurd hi h'
 have hg : ls.getD i [] = s := by rw [List.getD_eq_getElem?_getD, hs]; rfl
 have same : ls = ls.set i s := by
  obtain ⟨h, e⟩ := List.getElem?_eq_some_iff.1 hs
  rw [← e, List.set_getElem_self]
 rw [hg]
 refine rp 0 _ _ _ _ _ _ _ _ _ _ _ _ ⟨i, rfl, s, hs, fun e => ⟨fun e2 => ⟨_, xy last y (by omega) (by omega), fun hb => ⟨i, rfl, s, hs, rfl, rfl, ?_, rfl, rfl⟩, fun hb => ⟨rfl, rfl, ?_, rfl, rfl⟩⟩, fun e2 => ⟨rfl, rfl, ?_, rfl, rfl⟩⟩, fun e => ⟨rfl, rfl, ?_, rfl, rfl⟩⟩
 ·rw [ah, if_pos ⟨e, e2, hb⟩]
 ·rw [ah, if_neg (fun h => by rw [hb] at h; exact absurd h.2.2 (by decide))]; exact same
 ·rw [ah, if_neg (fun h => h.2.1 e2)]; exact same
 ·rw [ah, if_neg (fun h => e h.1)]; exact same
theorem xg : ∀ (l : List Pce) (last : List UInt8), (∀ p ∈ l, Bdx p.Text) → Bdx last → Bdx (ae last l)
 | [], last, h, hl => hl
 | p :: r, last, h, hl => xg r p.Text (fun q hq => h q (by simp [hq])) (h p (by simp))
theorem FM {t : Tree} (ht : tbulk t ≤ 2000000) (hs : shapeK t = true) : ∀ p ∈ pcT t, Bdx p.Text := by
 obtain ⟨r, e, z, q, rfl⟩ := rq t ht hs [] (by simp; omega)
 exact fun p hp => (q bT p hp).2
section
variable {t r : Tree} {last q : List UInt8} {m : Nat}
theorem z0 (hb : tbulk t ≤ 2000000) (h : t.kind ≠ 1) (w : fq m t last r q) : Sps t last r q := mH (m + 1) _ _ _ _ ⟨by have := pE t; omega, lv m _ _ _ _ ⟨by have := dx t; omega, fun e => absurd e h, fun _ => w⟩⟩
theorem z2 (h : t.kind ≠ 2) (w : fk m t last r q) : fq (m + 1) t last r q := lU m _ _ _ _ ⟨fun e => absurd e h, fun _ => w⟩
theorem z4 (h : t.kind ≠ 3) (w : fy m t last r q) : fk (m + 1) t last r q := lB m _ _ _ _ ⟨fun e => absurd e h, fun _ => w⟩
theorem z7 (h : t.kind ≠ 4) (w : fv m t last r q) : fy (m + 1) t last r q := lG m _ _ _ _ ⟨fun e => absurd e h, fun _ => w⟩
theorem z9 (h : t.kind ≠ 8) (w : eV m t last r q) : fv (m + 1) t last r q := lS m _ _ _ _ ⟨fun e => absurd e h, fun _ => w⟩
theorem z11 (h : t.kind ≠ 16) (w : eL m t last r q) : eV (m + 1) t last r q := kM m _ _ _ _ ⟨fun e => absurd e h, fun _ => w⟩
theorem z13 (h : t.kind ≠ 17) (w : eW m t last r q) : eL (m + 1) t last r q := kL m _ _ _ _ ⟨fun e => absurd e h, fun _ => w⟩
theorem z14 (h : t.kind ≠ 18) (w : eS m t last r q) : eW (m + 1) t last r q := kG m _ _ _ _ ⟨fun e => absurd e h, fun _ => w⟩
theorem z16 (h : t.kind ≠ 19) (w : eO m t last r q) : eS (m + 1) t last r q := kJ m _ _ _ _ ⟨fun e => absurd e h, fun _ => w⟩
theorem z18 (h : t.kind ≠ 20) (w : eP m t last r q) : eO (m + 1) t last r q := lc m _ _ _ _ ⟨fun e => absurd e h, fun _ => w⟩
theorem z20 (h : t.kind ≠ 21) (w : ir m t last r q) : eP (m + 1) t last r q := kQ m _ _ _ _ ⟨fun e => absurd e h, fun _ => w⟩
end
theorem bdw {x : List UInt8} (h : x.length ≤ 10) : Bdx x := by unfold Bdx; omega
theorem qW {α : Type} : ∀ (K : List α) (i : Nat) (v : α), i < K.length → (K.set i v).take (i + 1) = K.take i ++ [v]
 | a :: K, 0, v, _ => rfl
 | a :: K, i + 1, v, h => by
  have := qW K i v (by simpa using h)
  simp only [List.set_cons_succ, List.take_succ_cons, List.cons_append, this]
theorem rz {α : Type} : ∀ (K : List α) (i n : Nat) (v : α), i < n → (K.set i v).drop n = K.drop n
 | [], i, n, v, h => by simp
 | a :: K, 0, n + 1, v, h => rfl
 | a :: K, i + 1, n + 1, v, h => by simpa using rz K i n v (by omega)
theorem Br {α : Type} (K : List α) (i j : Nat) (v d : α) (h : i ≠ j) : (K.set i v).getD j d = K.getD j d := by
 rw [List.getD_eq_getElem?_getD, List.getD_eq_getElem?_getD, List.getElem?_set_ne h]
theorem tY {kids : List Tree} {orig : List (List UInt8)} (c n : Nat) (L : Nat → List UInt8 → List Tree → Nat → List (List UInt8) → Prop)
    (step : ∀ {m : Nat} {last : List UInt8} {K : List Tree} {i : Nat} {l : List (List UInt8)} {u : Tree}, 0 < i → i < n → kids[i]? = some u → i < K.length → c + i < l.length → Bdx last → Sps u [44] (spT u [44]) (ae [44] (pcT u)) → L m (ae [44] (pcT u)) (K.set i (spT u [44])) (i + 1) (l.set (c + i) (ah last (l.getD (c + i) []) [44])) → L (m + 1) last K i l) :
    ∀ (us : List Tree) (i : Nat) (last : List UInt8) (K : List Tree) (l : List (List UInt8)), 0 < i → (∀ (j : Nat) (u : Tree), us[j]? = some u → kids[i + j]? = some u) → i + us.length = n → n ≤ K.length → c + n ≤ l.length → (∀ j, i ≤ j → l.getD (c + j) [] = orig.getD (c + j) []) → Bdx last → (∀ u ∈ us, ∀ last, Bdx last → Sps u last (spT u last) (ae last (pcT u)) ∧ Bdx (ae last (pcT u))) →
      (∃ m, L m (ae last (aw orig (c + 1) (pcTs us) i)) (K.take i ++ (bJ (spTs us) (pcTs us) i last ++ K.drop n)) n (l.take (c + i) ++ (ca orig (c + 1) (pcTs us) i last ++ l.drop (c + n)))) → ∃ m, L m last K i l
  | [], i, last, K, l, hi, hk, hn, hK, hl, hg, hb, hu, h => by
    simp only [List.length_nil, Nat.add_zero] at hn
    subst hn
    simpa [pcTs, spTs, aw, bJ, ca, ae] using h
  | u :: us, i, last, K, l, hi, hk, hn, hK, hl, hg, hb, hu, h => by
    simp only [List.length_cons] at hn
    obtain ⟨hs, hb2⟩ := hu u (by simp) [44] (bdw (by decide))
    have ex : c + 1 + i - 1 = c + i := by omega
    obtain ⟨m, hm⟩ := tY (kids := kids) (orig := orig) c n L step us (i + 1) (ae [44] (pcT u)) (K.set i (spT u [44])) (l.set (c + i) (ah last (l.getD (c + i) []) [44])) (by omega) (fun j v hv => by rw [show i + 1 + j = i + (j + 1) by omega]; exact hk (j + 1) v (by simpa using hv)) (by omega) (by simpa using hK) (by simpa using hl) (fun j hj => by rw [Br _ _ _ _ _ (by omega)]; exact hg j (by omega)) hb2 (fun v hv => hu v (by simp [hv])) (by
      obtain ⟨m, hm⟩ := h
      refine ⟨m, ?_⟩
      have ht : (l.set (c + i) (ah last (l.getD (c + i) []) [44])).take (c + (i + 1)) = l.take (c + i) ++ [ah last (orig.getD (c + i) []) [44]] := by
        rw [show c + (i + 1) = (c + i) + 1 by omega, qW _ _ _ (by omega), hg i (Nat.le_refl _)]
      rw [qW K i _ (by omega), rz K i n _ (by omega), ht, rz l (c + i) (c + n) _ (by omega)]
      simp only [pcTs, spTs, aw, bJ, ca, if_pos hi, List.cons_append, List.nil_append, ae, bF, ex] at hm
      simpa only [List.append_assoc, List.cons_append, List.nil_append] using hm)
    exact ⟨m + 1, step hi (by omega) (hk 0 u rfl) (by omega) (by omega) hb hs hm⟩
theorem yR {kids : List Tree} (L : Nat → List UInt8 → List Tree → Nat → Prop)
    (step : ∀ {m : Nat} {last : List UInt8} {K : List Tree} {i : Nat} {u : Tree}, kids[i]? = some u → i < K.length → Sps u last (spT u last) (ae last (pcT u)) → L m (ae last (pcT u)) (K.set i (spT u last)) (i + 1) → L (m + 1) last K i) :
    ∀ (us : List Tree) (i : Nat) (last : List UInt8) (K : List Tree), (∀ (j : Nat) (u : Tree), us[j]? = some u → kids[i + j]? = some u) → i + us.length ≤ K.length → Bdx last → (∀ u ∈ us, ∀ last, Bdx last → Sps u last (spT u last) (ae last (pcT u)) ∧ Bdx (ae last (pcT u))) →
      (∃ m, L m (ae last (pcTs us).flatten) (K.take i ++ (fB (spTs us) (pcTs us) last ++ K.drop (i + us.length))) (i + us.length)) → ∃ m, L m last K i
  | [], i, last, K, hk, hK, hb, hu, h => by simpa [pcTs, spTs, fB, ae] using h
  | u :: us, i, last, K, hk, hK, hb, hu, h => by
    simp only [List.length_cons] at hK h
    obtain ⟨hs, hb2⟩ := hu u (by simp) last hb
    obtain ⟨m, hm⟩ := yR L step us (i + 1) (ae last (pcT u)) (K.set i (spT u last)) (fun j v hv => by rw [show i + 1 + j = i + (j + 1) by omega]; exact hk (j + 1) v (by simpa using hv)) (by simp; omega) hb2 (fun v hv => hu v (by simp [hv])) (by
      obtain ⟨m, hm⟩ := h
      refine ⟨m, ?_⟩
      rw [qW K i _ (by omega), show i + 1 + us.length = i + (us.length + 1) by omega, rz K i _ _ (by omega)]
      simp only [pcTs, spTs, fB, List.flatten_cons, bF, List.cons_append] at hm
      simpa only [List.append_assoc, List.cons_append, List.nil_append] using hm)
    exact ⟨m + 1, step (hk 0 u rfl) (by omega) hs hm⟩
section
variable {x a b c d last : List UInt8} {u v w : Tree}
theorem Gq (hx : Bdx x) (hl : Bdx last) (ht : tbulk (.node 3 x [a, b, c] [u]) ≤ 2000000) (hu : Sps u [61] (spT u [61]) (ae [61] (pcT u))) : Sps (.node 3 x [a, b, c] [u]) last (.node 3 x [ah last a [116, 121, 112, 101], ah [116, 121, 112, 101] b x, ah x c [61]] [spT u [61]]) (ae [61] (pcT u)) :=
 z0 ht (show (3 : Int) ≠ 1 by decide) (z2 (show (3 : Int) ≠ 2 by decide) (lB 1 _ _ _ _ ⟨fun _ => qf 0 _ _ _ _ ⟨_, _, _, _, _, bq 0 (show 0 < 3 by decide) (bdw (by decide)) hl, _, _, _, _, _, bq 1 (show 1 < 3 by decide) hx (bdw (by decide)), _, _, _, _, _, bq 2 (show 2 < 3 by decide) (bdw (by decide)) hx, u, rfl, _, _, hu, zTr, rfl, rfl, rfl⟩, fun e => absurd rfl e⟩))
theorem GM (hx : Bdx x) (hl : Bdx last) (ht : tbulk (.node 4 x [a, b] [u]) ≤ 2000000) (hu : Sps u [58] (spT u [58]) (ae [58] (pcT u))) : Sps (.node 4 x [a, b] [u]) last (.node 4 x [ah last a x, ah x b [58]] [spT u [58]]) (ae [58] (pcT u)) :=
 z0 ht (show (4 : Int) ≠ 1 by decide) (z2 (show (4 : Int) ≠ 2 by decide) (z4 (show (4 : Int) ≠ 3 by decide) (lG 1 _ _ _ _ ⟨fun _ => pZ 0 _ _ _ _ ⟨_, _, _, _, _, bq 0 (show 0 < 2 by decide) hx hl, _, _, _, _, _, bq 1 (show 1 < 2 by decide) (bdw (by decide)) hx, u, rfl, _, _, hu, zTr, rfl, rfl, rfl⟩, fun e => absurd rfl e⟩)))
theorem GG (hx : Bdx x) (hl : Bdx last) (ht : tbulk (.node 8 x [a, b] [u]) ≤ 2000000) (hu : Sps u [91] (spT u [91]) (ae [91] (pcT u))) (hb : Bdx (ae [91] (pcT u))) : Sps (.node 8 x [a, b] [u]) last (.node 8 x [ah last a [91], ah (ae [91] (pcT u)) b [93]] [spT u [91]]) [93] :=
 z0 ht (show (8 : Int) ≠ 1 by decide) (z2 (show (8 : Int) ≠ 2 by decide) (z4 (show (8 : Int) ≠ 3 by decide) (z7 (show (8 : Int) ≠ 4 by decide) (lS 1 _ _ _ _ ⟨fun _ => pq 0 _ _ _ _ ⟨_, _, _, _, _, bq 0 (show 0 < 2 by decide) (bdw (by decide)) hl, u, rfl, _, _, hu, zTr, rfl, _, _, _, _, _, bq 1 (show 1 < 2 by decide) (bdw (by decide)) hb, rfl, rfl⟩, fun e => absurd rfl e⟩))))
theorem Ge (hx : Bdx x) (hl : Bdx last) (ht : tbulk (.node 17 x [] [u]) ≤ 2000000) (hu : Sps u last (spT u last) (ae last (pcT u))) : Sps (.node 17 x [] [u]) last (.node 17 x [] [spT u last]) (ae last (pcT u)) :=
 z0 ht (show (17 : Int) ≠ 1 by decide) (z2 (show (17 : Int) ≠ 2 by decide) (z4 (show (17 : Int) ≠ 3 by decide) (z7 (show (17 : Int) ≠ 4 by decide) (z9 (show (17 : Int) ≠ 8 by decide) (z11 (show (17 : Int) ≠ 16 by decide) (kL 0 _ _ _ _ ⟨fun _ => ⟨u, rfl, _, _, hu, zTr, rfl, rfl, rfl⟩, fun e => absurd rfl e⟩))))))
theorem FL (hx : Bdx x) (hl : Bdx last) (ht : tbulk (.node 19 x [a, b, c] [u, v, w]) ≤ 2000000) (hu : Sps u [105, 102] (spT u [105, 102]) (ae [105, 102] (pcT u))) (hub : Bdx (ae [105, 102] (pcT u))) (hv : Sps v [116, 104, 101, 110] (spT v [116, 104, 101, 110]) (ae [116, 104, 101, 110] (pcT v))) (hvb : Bdx (ae [116, 104, 101, 110] (pcT v))) (hw : Sps w [101, 108, 115, 101] (spT w [101, 108, 115, 101]) (ae [101, 108, 115, 101] (pcT w))) : Sps (.node 19 x [a, b, c] [u, v, w]) last (.node 19 x [ah last a [105, 102], ah (ae [105, 102] (pcT u)) b [116, 104, 101, 110], ah (ae [116, 104, 101, 110] (pcT v)) c [101, 108, 115, 101]] [spT u [105, 102], spT v [116, 104, 101, 110], spT w [101, 108, 115, 101]]) (ae [101, 108, 115, 101] (pcT w)) :=
 z0 ht (show (19 : Int) ≠ 1 by decide) (z2 (show (19 : Int) ≠ 2 by decide) (z4 (show (19 : Int) ≠ 3 by decide) (z7 (show (19 : Int) ≠ 4 by decide) (z9 (show (19 : Int) ≠ 8 by decide) (z11 (show (19 : Int) ≠ 16 by decide) (z13 (show (19 : Int) ≠ 17 by decide) (z14 (show (19 : Int) ≠ 18 by decide) (kJ 4 _ _ _ _ ⟨fun _ =>
  rL17_semvcsref02_spaced 3 _ _ _ _ _ _ _ _ _ _ ⟨fun _ => ⟨[105, 102], rfl, _, _, _, _, _, bq 0 (show 0 < 3 by decide) (bdw (by decide)) hl, u, rfl, _, _, hu, zTr, rfl, by decide,
   rL17_semvcsref02_spaced 2 _ _ _ _ _ _ _ _ _ _ ⟨fun _ => ⟨[116, 104, 101, 110], rfl, _, _, _, _, _, bq 1 (show 1 < 3 by decide) (bdw (by decide)) hub, v, rfl, _, _, hv, zTr, rfl, by decide,
    rL17_semvcsref02_spaced 1 _ _ _ _ _ _ _ _ _ _ ⟨fun _ => ⟨[101, 108, 115, 101], rfl, _, _, _, _, _, bq 2 (show 2 < 3 by decide) (bdw (by decide)) hvb, w, rfl, _, _, hw, zTr, rfl, by decide,
     rL17_semvcsref02_spaced 0 _ _ _ _ _ _ _ _ _ _ ⟨fun h => absurd h (by decide), fun _ => ⟨rfl, rfl⟩⟩⟩, fun h => absurd (by decide) h⟩⟩, fun h => absurd (by decide) h⟩⟩, fun h => absurd (by decide) h⟩, fun e => absurd rfl e⟩))))))))
theorem FZ (hx : Bdx x) (hl : Bdx last) (ht : tbulk (.node 20 x [a, b, c, d] [u, v]) ≤ 2000000) (hu : Sps u [61] (spT u [61]) (ae [61] (pcT u))) (hub : Bdx (ae [61] (pcT u))) (hv : Sps v [105, 110] (spT v [105, 110]) (ae [105, 110] (pcT v))) : Sps (.node 20 x [a, b, c, d] [u, v]) last (.node 20 x [ah last a [108, 101, 116], ah [108, 101, 116] b x, ah x c [61], ah (ae [61] (pcT u)) d [105, 110]] [spT u [61], spT v [105, 110]]) (ae [105, 110] (pcT v)) :=
 z0 ht (show (20 : Int) ≠ 1 by decide) (z2 (show (20 : Int) ≠ 2 by decide) (z4 (show (20 : Int) ≠ 3 by decide) (z7 (show (20 : Int) ≠ 4 by decide) (z9 (show (20 : Int) ≠ 8 by decide) (z11 (show (20 : Int) ≠ 16 by decide) (z13 (show (20 : Int) ≠ 17 by decide) (z14 (show (20 : Int) ≠ 18 by decide) (z16 (show (20 : Int) ≠ 19 by decide) (lc 1 _ _ _ _ ⟨fun _ =>
  rL19_semvcsref02_spaced 0 _ _ _ _ ⟨_, _, _, _, _, bq 0 (show 0 < 4 by decide) (bdw (by decide)) hl, _, _, _, _, _, bq 1 (show 1 < 4 by decide) hx (bdw (by decide)), _, _, _, _, _, bq 2 (show 2 < 4 by decide) (bdw (by decide)) hx, u, rfl, _, _, hu, zTr, rfl, _, _, _, _, _, bq 3 (show 3 < 4 by decide) (bdw (by decide)) hub, v, rfl, _, _, hv, zTr, rfl, rfl, rfl⟩, fun e => absurd rfl e⟩)))))))))
theorem FV (hx : Bdx x) (hl : Bdx last) (ht : tbulk (.node 21 x [a] [u, v]) ≤ 2000000) (hu : Sps u last (spT u last) (ae last (pcT u))) (hub : Bdx (ae last (pcT u))) (hv : Sps v x (spT v x) (ae x (pcT v))) : Sps (.node 21 x [a] [u, v]) last (.node 21 x [ah (ae last (pcT u)) a x] [spT u last, spT v x]) (ae x (pcT v)) :=
 z0 ht (show (21 : Int) ≠ 1 by decide) (z2 (show (21 : Int) ≠ 2 by decide) (z4 (show (21 : Int) ≠ 3 by decide) (z7 (show (21 : Int) ≠ 4 by decide) (z9 (show (21 : Int) ≠ 8 by decide) (z11 (show (21 : Int) ≠ 16 by decide) (z13 (show (21 : Int) ≠ 17 by decide) (z14 (show (21 : Int) ≠ 18 by decide) (z16 (show (21 : Int) ≠ 19 by decide) (z18 (show (21 : Int) ≠ 20 by decide) (kQ 1 _ _ _ _ ⟨fun _ =>
  rL21_semvcsref02_spaced 0 _ _ _ _ ⟨u, rfl, _, _, hu, zTr, rfl, _, _, _, _, _, bq 0 (show 0 < 1 by decide) hx hub, v, rfl, _, _, hv, zTr, rfl, rfl, rfl⟩, fun e => absurd rfl e⟩))))))))))
theorem FX (hx : Bdx x) (hl : Bdx last) (ht : tbulk (.node 22 x [a, b] [u]) ≤ 2000000) (hu : Sps u [40] (spT u [40]) (ae [40] (pcT u))) (hb : Bdx (ae [40] (pcT u))) : Sps (.node 22 x [a, b] [u]) last (.node 22 x [ah last a [40], ah (ae [40] (pcT u)) b [41]] [spT u [40]]) [41] :=
 z0 ht (show (22 : Int) ≠ 1 by decide) (z2 (show (22 : Int) ≠ 2 by decide) (z4 (show (22 : Int) ≠ 3 by decide) (z7 (show (22 : Int) ≠ 4 by decide) (z9 (show (22 : Int) ≠ 8 by decide) (z11 (show (22 : Int) ≠ 16 by decide) (z13 (show (22 : Int) ≠ 17 by decide) (z14 (show (22 : Int) ≠ 18 by decide) (z16 (show (22 : Int) ≠ 19 by decide) (z18 (show (22 : Int) ≠ 20 by decide) (z20 (show (22 : Int) ≠ 21 by decide) (kP 1 _ _ _ _ ⟨fun _ =>
  rL23_semvcsref02_spaced 0 _ _ _ _ ⟨_, _, _, _, _, bq 0 (show 0 < 2 by decide) (bdw (by decide)) hl, u, rfl, _, _, hu, zTr, rfl, _, _, _, _, _, bq 1 (show 1 < 2 by decide) (bdw (by decide)) hb, rfl, rfl⟩, fun e => absurd rfl e⟩)))))))))))
end
theorem Ay : ∀ t : Tree, cntK t ≤ 1000000000 → fL t (limK t) := bV fun t ih ht => by
 have hl := sr t.kids
 have hc := mE t
 have kids : ∀ k i, t.kids.length - i ≤ k → aF (k + 1) t i (limKs (t.kids.drop i)) := fun k => by
  have fin : ∀ m i, ¬ i < t.kids.length → aF (m + 1) t i (limKs (t.kids.drop i)) := fun m i hi => ig m _ _ _ ⟨fun h => absurd h hi, fun _ => by rw [List.drop_of_length_le (by omega)]; rfl⟩
  induction k with
  | zero => intro i hi; exact fin 0 i (by omega)
  | succ k ihk =>
   intro i hi
   obtain ⟨u, hu, hul⟩ | h' := aN t.kids i
   ·have := oK hu
    have hb := ih i u hu (by omega)
    rw [cV hu, limKs]
    cases h : limK u with
    | false => rw [h] at hb; exact ig (k + 1) _ _ _ ⟨fun _ => ⟨u, hu, _, hb, fun _ => rfl, fun h => (by cases h)⟩, fun h => absurd hul h⟩
    | true => rw [h] at hb; exact ig (k + 1) _ _ _ ⟨fun _ => ⟨u, hu, _, hb, fun h => (by cases h), fun _ => ⟨by omega, ihk (i + 1) (by omega)⟩⟩, fun h => absurd hul h⟩
   ·exact fin _ i h'
 have hk := kids t.kids.length 0 (by omega)
 rw [List.drop_zero] at hk
 rw [sA]
 by_cases hall : (t.kind = 1 → t.kids.length ≤ 40) ∧ (t.kind = 2 → t.kids.length ≤ 10) ∧ (t.kind = 16 → t.kids.length ≤ 8) ∧ (t.kind = 18 → t.kids.length ≤ 16)
 ·rw [decide_eq_true hall, Bool.true_and]
  refine mG (t.kids.length + 1) _ _ ?_
  repeat' (refine And.intro (fun _ => ?_) (fun _ => ?_))
  all_goals first | exact hk | (exfalso; omega)
 ·rw [decide_eq_false hall, Bool.false_and]
  refine mG (t.kids.length + 1) _ _ ?_
  repeat' (refine And.intro (fun _ => ?_) (fun _ => ?_))
  all_goals first | rfl | (exfalso; omega)
structure Vld (t : Tree) : Prop where
 shape : shapeK t = true
 lead : leadedT t = true
 lim : limK t = true
 dep : depK t ≤ 40
 size : (ej t).length ≤ 4096
theorem wF (t : Tree) (ht : tbulk t ≤ 2000000) : ∃ b, dB t b ∧ (b = true ↔ Vld t) := by
 have hp := rG t (by omega)
 have hcn := cnt_bulk t
 cases h : (shapeK t && leadedT t) with
 | false =>
  rw [h] at hp
  exact ⟨false, fK 0 _ _ ⟨_, hp, fun h => (by cases h), fun _ => rfl⟩, fun h => (by cases h), fun v => by rw [v.shape, v.lead] at h; cases h⟩
 | true =>
  rw [h] at hp
  have hpr := Cs t ht
  rw [h, if_pos rfl] at hpr
  simp only [Bool.and_eq_true] at h
  have hb2 := Ay t (by omega)
  cases hl : limK t with
  | false =>
   rw [hl] at hb2
   exact ⟨false, fK 0 _ _ ⟨_, hp, fun _ => ⟨_, hb2, fun h => (by cases h), fun _ => rfl⟩, fun h => (by cases h)⟩, fun h => (by cases h), fun v => by rw [v.lim] at hl; cases hl⟩
  | true =>
   rw [hl] at hb2
   have hn := BH t (by omega)
   by_cases h40 : (depK t : Int) ≤ 40
   ·exact ⟨_, fK 0 _ _ ⟨_, hp, fun _ => ⟨_, hb2, fun _ => ⟨_, hn, fun _ => ⟨_, hpr, rfl⟩, fun h => absurd h40 h⟩, fun h => (by cases h)⟩, fun h => (by cases h)⟩, fun hd => ⟨h.1, h.2, hl, by omega, by have := of_decide_eq_true hd; omega⟩, fun v => decide_eq_true (by have := v.size; omega)⟩
   ·exact ⟨false, fK 0 _ _ ⟨_, hp, fun _ => ⟨_, hb2, fun _ => ⟨_, hn, fun h => absurd h h40, fun _ => rfl⟩, fun h => (by cases h)⟩, fun h => (by cases h)⟩, fun h => (by cases h), fun v => by have := v.dep; omega⟩
theorem pX {t : Tree} (hk : t.kind = 1) (ht : tbulk t ≤ 1000000000) (v : Vld t) : gb (ej t) (spT t []) 0 0 := zr hk v.shape v.lead v.lim v.dep (by have := cnt_bulk t; omega) v.size
def dl : List UInt8 → List Pce → List Pce
 | _, [] => []
 | last, p :: r => ⟨ah last p.Lead p.Text, p.Text⟩ :: dl p.Text r
theorem fH : ∀ (a b : List Pce) (last : List UInt8), dl last (a ++ b) = dl last a ++ dl (ae last a) b
 | [], b, last => rfl
 | p :: r, b, last => by simp only [List.cons_append, dl, ae, fH r b]
theorem Dh (last lead x : List UInt8) : ah last (ah last lead x) x = ah last lead x := by
 unfold ah
 split
 ·rfl
 ·rfl
theorem yL : ∀ (l : List Pce) (last : List UInt8), tkA last (dl last l) = tkA last l
 | [], last => rfl
 | p :: r, last => by simp only [dl, tkA, Dh, yL r]
theorem yY (ls' ls : List (List UInt8)) (c : Nat) : ∀ (us : List Tree) (i : Nat) (last : List UInt8), (∀ u ∈ us, ∀ last, pcT (spT u last) = dl last (pcT u)) → 0 < i → ls'.drop (c + i - 1) = ca ls c (pcTs us) i last → aw ls' c (pcTs (bJ (spTs us) (pcTs us) i last)) i = dl last (aw ls c (pcTs us) i)
 | [], i, last, hu, hi, hd => rfl
 | u :: us, i, last, hu, hi, hd => by
  simp only [pcTs, ca, if_pos hi, List.cons_append, List.nil_append] at hd
  have h1 : ls'.getD (c + i - 1) [] = ah last (ls.getD (c + i - 1) []) [44] := by
   have : (ls'.drop (c + i - 1)).getD 0 [] = ls'.getD (c + i - 1) [] := by simp [List.getD_eq_getElem?_getD]
   rw [← this, hd]; rfl
  have h2 : ls'.drop (c + (i + 1) - 1) = ca ls c (pcTs us) (i + 1) (ae [44] (pcT u)) := by
   rw [show c + (i + 1) - 1 = (c + i - 1) + 1 by omega, ← List.drop_drop, hd]; rfl
  have h3 := yY ls' ls c us (i + 1) (ae [44] (pcT u)) (fun v hv => hu v (by simp [hv])) (by omega) h2
  simp only [pcTs, spTs, bJ, aw, if_pos hi, List.cons_append, List.nil_append, dl, fH, h1, h3, hu u (by simp)]
theorem tu (ls' ls : List (List UInt8)) (c : Nat) (us : List Tree) (last : List UInt8) (hu : ∀ u ∈ us, ∀ last, pcT (spT u last) = dl last (pcT u)) (hd : ls'.drop c = ca ls c (pcTs us) 0 last) : aw ls' c (pcTs (bJ (spTs us) (pcTs us) 0 last)) 0 = dl last (aw ls c (pcTs us) 0) := by
 cases us with
 | nil => rfl
 | cons u us =>
  have h := yY ls' ls c us 1 (ae last (pcT u)) (fun v hv => hu v (by simp [hv])) (by decide) hd
  show pcT (spT u last) ++ aw ls' c (pcTs (bJ (spTs us) (pcTs us) 1 (ae last (pcT u)))) 1 = dl last (pcT u ++ aw ls c (pcTs us) 1)
  rw [fH, h, hu u (by simp)]
theorem xf : ∀ (ks : List Tree) (last : List UInt8), (∀ u ∈ ks, ∀ last, pcT (spT u last) = dl last (pcT u)) → (pcTs (fB (spTs ks) (pcTs ks) last)).flatten = dl last (pcTs ks).flatten
 | [], last, h => rfl
 | u :: r, last, h => by
  have := xf r (ae last (pcT u)) fun v hv => h v (by simp [hv])
  simp only [pcTs, spTs, fB, List.flatten_cons, fH, this, h u (by simp)]
theorem DZ (x : List UInt8) (ls : List (List UInt8)) (us : List Tree) (a b : Tree) (last : List UInt8) : spN 2 x ls (spTs (us ++ [a, b])) (pcTs (us ++ [a, b])) last = .node 2 x ([ah last (ls.getD 0 []) [100, 101, 102], ah [100, 101, 102] (ls.getD 1 []) x, ah x (ls.getD 2 []) [40], ah (ae [40] (aw ls 6 (pcTs us) 0)) (ls.getD 3 []) [41], ah [41] (ls.getD 4 []) [58], ah (ae [58] (pcT a)) (ls.getD 5 []) [61]] ++ ca ls 6 (pcTs us) 0 [40]) (bJ (spTs us) (pcTs us) 0 [40] ++ [spT a [58], spT b [61]]) := by
 have hg : (pcTs (us ++ [a, b])).length - 2 = us.length := by rw [jD]; simp
 have g1 : (pcTs (us ++ [a, b])).length - 1 = us.length + 1 := by rw [jD]; simp
 have ha : (us ++ [a, b])[us.length]? = some a := by simp
 have hb : (us ++ [a, b])[us.length + 1]? = some b := by simp
 have tk : (us ++ [a, b]).take us.length = us := by simp
 show Tree.node 2 _ ([_, _, _, ah (ae [40] (aw ls 6 ((pcTs (us ++ [a, b])).take ((pcTs (us ++ [a, b])).length - 2)) 0)) _ _, _, ah (ae [58] ((pcTs (us ++ [a, b])).getD ((pcTs (us ++ [a, b])).length - 2) [])) _ _] ++ ca ls 6 ((pcTs (us ++ [a, b])).take ((pcTs (us ++ [a, b])).length - 2)) 0 [40]) (bJ ((spTs (us ++ [a, b])).take ((pcTs (us ++ [a, b])).length - 2)) ((pcTs (us ++ [a, b])).take ((pcTs (us ++ [a, b])).length - 2)) 0 [40] ++ [(spTs (us ++ [a, b])).getD ((pcTs (us ++ [a, b])).length - 2) _ _, (spTs (us ++ [a, b])).getD ((pcTs (us ++ [a, b])).length - 1) _ _]) = _
 rw [hg, g1, ← oe, ← rW, tk, bE ha, cX ha, cX hb]
theorem FQ : ∀ t : Tree, t.kind ≠ 1 → shapeK t = true → ∀ last, pcT (spT t last) = dl last (pcT t) := bV fun t ih h1 hs last => by
 obtain ⟨f2, f1, f3, f20⟩ := rV hs
 have ih' : ∀ u ∈ t.kids, ∀ last, pcT (spT u last) = dl last (pcT u) := fun u hu => by
  obtain ⟨i, hi, e⟩ := List.mem_iff_getElem.1 hu
  have hu' : t.kids[i]? = some u := by rw [← e]; exact List.getElem?_eq_getElem hi
  exact ih i u hu' (mt (aL hs hu').2) (aL hs hu').1
 rw [gf, bg t]
 by_cases h2 : t.kind = 2
 ·obtain ⟨us, a, b, e⟩ := f2 h2
  rw [e] at ih'
  have hr := tu ([ah last (t.leads.getD 0 []) [100, 101, 102], ah [100, 101, 102] (t.leads.getD 1 []) t.text, ah t.text (t.leads.getD 2 []) [40], ah (ae [40] (aw t.leads 6 (pcTs us) 0)) (t.leads.getD 3 []) [41], ah [41] (t.leads.getD 4 []) [58], ah (ae [58] (pcT a)) (t.leads.getD 5 []) [61]] ++ ca t.leads 6 (pcTs us) 0 [40]) t.leads 6 us [40] (fun u hu => ih' u (by simp [hu])) rfl
  rw [h2, e, DZ, rj]
  show bc 2 t.text _ (pcTs (bJ (spTs us) (pcTs us) 0 [40] ++ [spT a [58], spT b [61]])) = dl last (bc 2 t.text t.leads (pcTs us ++ [pcT a, pcT b]))
  rw [rj]
  show bc 2 t.text _ (pcTs (bJ (spTs us) (pcTs us) 0 [40]) ++ [pcT (spT a [58]), pcT (spT b [61])]) = _
  rw [uv, uv, hr, ih' a (by simp), ih' b (by simp)]
  simp only [dl, fH]
  rfl
 by_cases h3 : t.kind = 3
 ·obtain ⟨a, e⟩ := f1 (by omega); rw [e] at ih'; rw [h3, e]
  show ⟨_, _⟩ :: ⟨_, _⟩ :: ⟨_, _⟩ :: pcT (spT a [61]) = _
  rw [ih' a (by simp)]; rfl
 by_cases h4 : t.kind = 4
 ·obtain ⟨a, e⟩ := f1 (by omega); rw [e] at ih'; rw [h4, e]
  show ⟨_, _⟩ :: ⟨_, _⟩ :: pcT (spT a [58]) = _
  rw [ih' a (by simp)]; rfl
 by_cases h8 : t.kind = 8
 ·obtain ⟨a, e⟩ := f1 (by omega); rw [e] at ih'; rw [h8, e]
  show ⟨_, _⟩ :: (pcT (spT a [91]) ++ [_]) = dl last (⟨_, _⟩ :: (pcT a ++ [_]))
  rw [ih' a (by simp)]; simp only [dl, fH]; rfl
 by_cases h17 : t.kind = 17
 ·obtain ⟨a, e⟩ := f1 (by omega); rw [e] at ih'; rw [h17, e]
  exact ih' a (by simp) last
 by_cases h22 : t.kind = 22
 ·obtain ⟨a, e⟩ := f1 (by omega); rw [e] at ih'; rw [h22, e]
  show ⟨_, _⟩ :: (pcT (spT a [40]) ++ [_]) = dl last (⟨_, _⟩ :: (pcT a ++ [_]))
  rw [ih' a (by simp)]; simp only [dl, fH]; rfl
 by_cases h16 : t.kind = 16
 ·have hr := tu ([ah last (t.leads.getD 0 []) t.text, ah t.text (t.leads.getD 1 []) [40], ah (ae [40] (aw t.leads 3 (pcTs t.kids) 0)) (t.leads.getD 2 []) [41]] ++ ca t.leads 3 (pcTs t.kids) 0 [40]) t.leads 3 t.kids [40] ih' rfl
  rw [h16]
  show ⟨_, _⟩ :: ⟨_, _⟩ :: (aw ([ah last (t.leads.getD 0 []) t.text, ah t.text (t.leads.getD 1 []) [40], ah (ae [40] (aw t.leads 3 (pcTs t.kids) 0)) (t.leads.getD 2 []) [41]] ++ ca t.leads 3 (pcTs t.kids) 0 [40]) 3 (pcTs (bJ (spTs t.kids) (pcTs t.kids) 0 [40])) 0 ++ [_]) = dl last (⟨_, _⟩ :: ⟨_, _⟩ :: (aw t.leads 3 (pcTs t.kids) 0 ++ [_]))
  rw [hr]; simp only [dl, fH]; rfl
 by_cases h18 : t.kind = 18
 ·have hr := tu ([ah last (t.leads.getD 0 []) [91], ah (ae [91] (aw t.leads 2 (pcTs t.kids) 0)) (t.leads.getD 1 []) [93]] ++ ca t.leads 2 (pcTs t.kids) 0 [91]) t.leads 2 t.kids [91] ih' rfl
  rw [h18]
  show ⟨_, _⟩ :: (aw ([ah last (t.leads.getD 0 []) [91], ah (ae [91] (aw t.leads 2 (pcTs t.kids) 0)) (t.leads.getD 1 []) [93]] ++ ca t.leads 2 (pcTs t.kids) 0 [91]) 2 (pcTs (bJ (spTs t.kids) (pcTs t.kids) 0 [91])) 0 ++ [_]) = dl last (⟨_, _⟩ :: (aw t.leads 2 (pcTs t.kids) 0 ++ [_]))
  rw [hr]; simp only [dl, fH]; rfl
 by_cases h19 : t.kind = 19
 ·obtain ⟨a, b, c, e⟩ := f3 h19; rw [e] at ih'; rw [h19, e]
  show ⟨_, _⟩ :: (pcT (spT a _) ++ (⟨_, _⟩ :: (pcT (spT b _) ++ (⟨_, _⟩ :: pcT (spT c _))))) = dl last (⟨_, _⟩ :: (pcT a ++ (⟨_, _⟩ :: (pcT b ++ (⟨_, _⟩ :: pcT c)))))
  rw [ih' a (by simp), ih' b (by simp), ih' c (by simp)]; simp only [dl, fH]; rfl
 by_cases h20 : t.kind = 20
 ·obtain ⟨a, b, e⟩ := f20 (by omega); rw [e] at ih'; rw [h20, e]
  show ⟨_, _⟩ :: ⟨_, _⟩ :: ⟨_, _⟩ :: (pcT (spT a _) ++ (⟨_, _⟩ :: pcT (spT b _))) = dl last (⟨_, _⟩ :: ⟨_, _⟩ :: ⟨_, _⟩ :: (pcT a ++ (⟨_, _⟩ :: pcT b)))
  rw [ih' a (by simp), ih' b (by simp)]; simp only [dl, fH]; rfl
 by_cases h21 : t.kind = 21
 ·obtain ⟨a, b, e⟩ := f20 (by omega); rw [e] at ih'; rw [h21, e]
  show pcT (spT a last) ++ (⟨_, _⟩ :: pcT (spT b _)) = dl last (pcT a ++ (⟨_, _⟩ :: pcT b))
  rw [ih' a (by simp), ih' b (by simp)]; simp only [dl, fH]; rfl
 have hl : ∀ ls gs, bc t.kind t.text ls gs = [⟨ls.getD 0 [], fX t.kind t.text⟩] := fun ls gs => by
  simp only [bc, h1, h2, h3, h4, h8, h16, h17, h18, h19, h20, h21, h22, if_false]; rfl
 have hsp : spN t.kind t.text t.leads (spTs t.kids) (pcTs t.kids) last = .node t.kind t.text [ah last (t.leads.getD 0 []) (fX t.kind t.text)] [] := by
  simp only [spN, h1, h2, h3, h4, h8, h16, h17, h18, h19, h20, h21, h22, if_false]
 rw [hsp, bg]
 show bc t.kind t.text _ _ = _
 rw [hl, hl]; rfl
theorem BX {c : Prop} [Decidable c] {a b : Tree} {k : Int} {x : List UInt8} (ha : c → a.kind = k ∧ a.text = x) (hb : b.kind = k ∧ b.text = x) : (if c then a else b).kind = k ∧ (if c then a else b).text = x := by
 by_cases h : c
 ·rw [if_pos h]; exact ha h
 ·rw [if_neg h]; exact hb
theorem oJ (t : Tree) (last : List UInt8) : (spT t last).kind = t.kind ∧ (spT t last).text = t.text := by
 rw [gf]
 unfold spN
 dsimp only
 iterate 12 (refine BX (fun h => ⟨h.symm, rfl⟩) ?_)
 exact ⟨rfl, rfl⟩
theorem wg (k n : Int) : ∀ (ks : List Tree) (ls : List (List UInt8)) (i : Nat), ls.length = ks.length → (∀ (j : Nat) (u : Tree), ks[j]? = some u → ∀ l, shapeK (spT u l) = shapeK u) → shapeKs k n i (List.zipWith spT ks ls) = shapeKs k n i ks
 | [], [], i, h, hu => rfl
 | u :: r, l :: ls, i, h, hu => by
  have := wg k n r ls (i + 1) (by simpa using h) fun j v hv => hu (j + 1) v (by simpa using hv)
  simp only [List.zipWith_cons_cons, shapeKs, this, hu 0 u rfl l, (oJ u l).1]
theorem xa : ∀ t : Tree, shapeK t = true → ∀ last, shapeK (spT t last) = shapeK t := bV fun t ih hs last => by
 obtain ⟨ls, h1, h2⟩ := sF hs last
 have hl : (List.zipWith spT t.kids ls).length = t.kids.length := by rw [List.length_zipWith, h1]; exact Nat.min_self _
 rw [gW, gW t, h2, (oJ t last).1, (oJ t last).2, hl, wg _ _ t.kids ls 0 h1 fun i u hu l => ih i u hu (aL hs hu).1 l]
def Skd (ks : List Tree) : Prop := ∀ u ∈ ks, ∀ last, Bdx last → Sps u last (spT u last) (ae last (pcT u)) ∧ Bdx (ae last (pcT u))
theorem ul {ls : List (List UInt8)} {c : Nat} {ks : List Tree} (hk : Skd ks) : ∀ (us : List Tree), (∀ u ∈ us, u ∈ ks) → ∀ i last, Bdx last → Bdx (ae last (aw ls c (pcTs us) i))
 | [], h, i, last, hl => hl
 | u :: us, h, i, last, hl => by
  simp only [pcTs, aw, bF]
  refine ul hk us (fun v hv => h v (by simp [hv])) (i + 1) _ ((hk u (h u (by simp)) _ ?_).2)
  split
  ·exact bdw (show ([44] : List UInt8).length ≤ 10 by decide)
  ·exact hl
theorem tE {α : Type} (n m : Nat) (z : α) (h : n ≤ m) : (List.replicate n z).drop m = [] := List.drop_eq_nil_of_le (by simpa using h)
section
variable {x a b c last : List UInt8} {r : List (List UInt8)} {ks : List Tree}
theorem FR (hx : Bdx x) (hl : Bdx last) (hk : Skd ks) (hr : r.length = ks.length - 1) (ht : tbulk (.node 16 x (a :: b :: c :: r) ks) ≤ 2000000) : Sps (.node 16 x (a :: b :: c :: r) ks) last (.node 16 x ([ah last a x, ah x b [40], ah (ae [40] (aw (a :: b :: c :: r) 3 (pcTs ks) 0)) c [41]] ++ ca (a :: b :: c :: r) 3 (pcTs ks) 0 [40]) (bJ (spTs ks) (pcTs ks) 0 [40])) [41] := by
 have hkl := dx (.node 16 x (a :: b :: c :: r) ks)
 have hkl' : ks.length < tbulk (.node 16 x (a :: b :: c :: r) ks) := hkl
 have fin : ∀ (last' : List UInt8) (K : List Tree) (l : List (List UInt8)), Bdx last' → 2 < l.length → co 1 (.node 16 x (a :: b :: c :: r) ks) last' K ks.length 16 x l [] (.node 16 x (l.set 2 (ah last' (l.getD 2 []) [41])) K) [41] := fun last' K l hb h2 =>
  rL12_semvcsref02_spaced 0 _ _ _ _ _ _ _ _ _ _ ⟨fun h => absurd h (Nat.lt_irrefl _), fun _ => ⟨_, _, _, _, _, bq 2 h2 (bdw (by decide)) hb, rfl, rfl⟩⟩
 obtain ⟨m, hm⟩ : ∃ m, co m (.node 16 x (a :: b :: c :: r) ks) [40] (List.replicate ks.length zTr) 0 16 x (ah last a x :: ah x b [40] :: c :: r) [] (.node 16 x ([ah last a x, ah x b [40], ah (ae [40] (aw (a :: b :: c :: r) 3 (pcTs ks) 0)) c [41]] ++ ca (a :: b :: c :: r) 3 (pcTs ks) 0 [40]) (bJ (spTs ks) (pcTs ks) 0 [40])) [41] := by
  cases ks with
  | nil =>
   obtain rfl : r = [] := List.eq_nil_of_length_eq_zero hr
   exact ⟨1, fin [40] [] _ (bdw (by decide)) (show 2 < 3 by decide)⟩
  | cons u us =>
   simp only [List.length_cons] at hr hkl'
   obtain ⟨hu, hub⟩ := hk u (by simp) [40] (bdw (by decide))
   have hrb := ul (ls := a :: b :: c :: r) (c := 3) hk us (fun v hv => by simp [hv]) 1 _ hub
   obtain ⟨m, hm⟩ := tY (kids := u :: us) (orig := a :: b :: c :: r) 2 (us.length + 1) (fun m last' K i l => co m (.node 16 x (a :: b :: c :: r) (u :: us)) last' K i 16 x l [] (.node 16 x ([ah last a x, ah x b [40], ah (ae [40] (aw (a :: b :: c :: r) 3 (pcTs (u :: us)) 0)) c [41]] ++ ca (a :: b :: c :: r) 3 (pcTs (u :: us)) 0 [40]) (bJ (spTs (u :: us)) (pcTs (u :: us)) 0 [40])) [41])
    (fun {m last' K i l v} h0 hn hv hK hl' hb hs w => by
     obtain ⟨old, ho, _⟩ | h' := aN K i
     ·exact rL12_semvcsref02_spaced m _ _ _ _ _ _ _ _ _ _ ⟨fun _ => ⟨fun _ => ⟨by omega, _, _, _, _, _, bq (2 + i) hl' (bdw (by decide)) hb, v, hv, _, _, hs, old, ho, by omega, w⟩, fun h => absurd (by omega) h⟩, fun h => absurd (show i < (u :: us).length by simp; omega) h⟩
     ·exact absurd hK h')
    us 1 (ae [40] (pcT u)) (spT u [40] :: List.replicate us.length zTr) (ah last a x :: ah x b [40] :: c :: r) (by decide) (fun j v hv => by rw [show 1 + j = j + 1 by omega]; exact hv) (by omega) (by simp) (by simp; omega) (fun j hj => by rw [show 2 + j = j + 2 by omega]; rfl) hub (fun v hv => hk v (by simp [hv]))
    ⟨1, by
     have f := fin (ae (ae [40] (pcT u)) (aw (a :: b :: c :: r) 3 (pcTs us) 1)) (spT u [40] :: bJ (spTs us) (pcTs us) 1 (ae [40] (pcT u))) (ah last a x :: ah x b [40] :: c :: ca (a :: b :: c :: r) 3 (pcTs us) 1 (ae [40] (pcT u))) hrb (by simp)
     have d1 : (spT u [40] :: List.replicate us.length zTr).drop (us.length + 1) = [] := tE us.length us.length zTr (Nat.le_refl _)
     have d2 : (ah last a x :: ah x b [40] :: c :: r).drop (2 + (us.length + 1)) = [] := List.drop_eq_nil_of_le (by simp; omega)
     have e2 : ae [40] (aw (a :: b :: c :: r) 3 (pcTs (u :: us)) 0) = ae (ae [40] (pcT u)) (aw (a :: b :: c :: r) 3 (pcTs us) 1) := by show ae [40] (pcT u ++ aw (a :: b :: c :: r) 3 (pcTs us) 1) = _; rw [bF]
     rw [d1, d2, e2, List.append_nil, List.append_nil]
     exact f⟩
   exact ⟨m + 1, rL12_semvcsref02_spaced m _ _ _ _ _ _ _ _ _ _ ⟨fun _ => ⟨fun h => absurd h (by decide), fun _ => ⟨u, rfl, _, _, hu, zTr, rfl, by decide, hm⟩⟩, fun h => absurd (show 0 < (u :: us).length by simp) h⟩⟩
 exact z0 ht (show (16 : Int) ≠ 1 by decide) (z2 (show (16 : Int) ≠ 2 by decide) (z4 (show (16 : Int) ≠ 3 by decide) (z7 (show (16 : Int) ≠ 4 by decide) (z9 (show (16 : Int) ≠ 8 by decide) (kM m _ _ _ _ ⟨fun _ => ⟨_, _, _, _, _, bq 0 (by simp [Tree.leads]) hx hl, _, _, _, _, _, bq 1 (by simp [Tree.leads]) (bdw (by decide)) hx, hm⟩, fun e => absurd rfl e⟩)))))
theorem Ga (hx : Bdx x) (hl : Bdx last) (hk : Skd ks) (hr : r.length = ks.length - 1) (ht : tbulk (.node 18 x (a :: b :: r) ks) ≤ 2000000) : Sps (.node 18 x (a :: b :: r) ks) last (.node 18 x ([ah last a [91], ah (ae [91] (aw (a :: b :: r) 2 (pcTs ks) 0)) b [93]] ++ ca (a :: b :: r) 2 (pcTs ks) 0 [91]) (bJ (spTs ks) (pcTs ks) 0 [91])) [93] := by
 have hkl := dx (.node 18 x (a :: b :: r) ks)
 have hkl' : ks.length < tbulk (.node 18 x (a :: b :: r) ks) := hkl
 have fin : ∀ (last' : List UInt8) (K : List Tree) (l : List (List UInt8)), Bdx last' → 1 < l.length → cp 1 (.node 18 x (a :: b :: r) ks) last' K ks.length 18 x l [] (.node 18 x (l.set 1 (ah last' (l.getD 1 []) [93])) K) [93] := fun last' K l hb h2 =>
  rL15_semvcsref02_spaced 0 _ _ _ _ _ _ _ _ _ _ ⟨fun h => absurd h (Nat.lt_irrefl _), fun _ => ⟨_, _, _, _, _, bq 1 h2 (bdw (by decide)) hb, rfl, rfl⟩⟩
 obtain ⟨m, hm⟩ : ∃ m, cp m (.node 18 x (a :: b :: r) ks) [91] (List.replicate ks.length zTr) 0 18 x (ah last a [91] :: b :: r) [] (.node 18 x ([ah last a [91], ah (ae [91] (aw (a :: b :: r) 2 (pcTs ks) 0)) b [93]] ++ ca (a :: b :: r) 2 (pcTs ks) 0 [91]) (bJ (spTs ks) (pcTs ks) 0 [91])) [93] := by
  cases ks with
  | nil =>
   obtain rfl : r = [] := List.eq_nil_of_length_eq_zero hr
   exact ⟨1, fin [91] [] _ (bdw (by decide)) (show 1 < 2 by decide)⟩
  | cons u us =>
   simp only [List.length_cons] at hr hkl'
   obtain ⟨hu, hub⟩ := hk u (by simp) [91] (bdw (by decide))
   have hrb := ul (ls := a :: b :: r) (c := 2) hk us (fun v hv => by simp [hv]) 1 _ hub
   obtain ⟨m, hm⟩ := tY (kids := u :: us) (orig := a :: b :: r) 1 (us.length + 1) (fun m last' K i l => cp m (.node 18 x (a :: b :: r) (u :: us)) last' K i 18 x l [] (.node 18 x ([ah last a [91], ah (ae [91] (aw (a :: b :: r) 2 (pcTs (u :: us)) 0)) b [93]] ++ ca (a :: b :: r) 2 (pcTs (u :: us)) 0 [91]) (bJ (spTs (u :: us)) (pcTs (u :: us)) 0 [91])) [93])
    (fun {m last' K i l v} h0 hn hv hK hl' hb hs w => by
     obtain ⟨old, ho, _⟩ | h' := aN K i
     ·exact rL15_semvcsref02_spaced m _ _ _ _ _ _ _ _ _ _ ⟨fun _ => ⟨fun _ => ⟨by omega, _, _, _, _, _, bq (1 + i) hl' (bdw (by decide)) hb, v, hv, _, _, hs, old, ho, by omega, w⟩, fun h => absurd (by omega) h⟩, fun h => absurd (show i < (u :: us).length by simp; omega) h⟩
     ·exact absurd hK h')
    us 1 (ae [91] (pcT u)) (spT u [91] :: List.replicate us.length zTr) (ah last a [91] :: b :: r) (by decide) (fun j v hv => by rw [show 1 + j = j + 1 by omega]; exact hv) (by omega) (by simp) (by simp; omega) (fun j hj => by rw [show 1 + j = j + 1 by omega]; rfl) hub (fun v hv => hk v (by simp [hv]))
    ⟨1, by
     have f := fin (ae (ae [91] (pcT u)) (aw (a :: b :: r) 2 (pcTs us) 1)) (spT u [91] :: bJ (spTs us) (pcTs us) 1 (ae [91] (pcT u))) (ah last a [91] :: b :: ca (a :: b :: r) 2 (pcTs us) 1 (ae [91] (pcT u))) hrb (by simp)
     have d1 : (spT u [91] :: List.replicate us.length zTr).drop (us.length + 1) = [] := tE us.length us.length zTr (Nat.le_refl _)
     have d2 : (ah last a [91] :: b :: r).drop (1 + (us.length + 1)) = [] := List.drop_eq_nil_of_le (by simp; omega)
     have e2 : ae [91] (aw (a :: b :: r) 2 (pcTs (u :: us)) 0) = ae (ae [91] (pcT u)) (aw (a :: b :: r) 2 (pcTs us) 1) := by show ae [91] (pcT u ++ aw (a :: b :: r) 2 (pcTs us) 1) = _; rw [bF]
     rw [d1, d2, e2, List.append_nil, List.append_nil]
     exact f⟩
   exact ⟨m + 1, rL15_semvcsref02_spaced m _ _ _ _ _ _ _ _ _ _ ⟨fun _ => ⟨fun h => absurd h (by decide), fun _ => ⟨u, rfl, _, _, hu, zTr, rfl, by decide, hm⟩⟩, fun h => absurd (show 0 < (u :: us).length by simp) h⟩⟩
 exact z0 ht (show (18 : Int) ≠ 1 by decide) (z2 (show (18 : Int) ≠ 2 by decide) (z4 (show (18 : Int) ≠ 3 by decide) (z7 (show (18 : Int) ≠ 4 by decide) (z9 (show (18 : Int) ≠ 8 by decide) (z11 (show (18 : Int) ≠ 16 by decide) (z13 (show (18 : Int) ≠ 17 by decide) (kG m _ _ _ _ ⟨fun _ => ⟨_, _, _, _, _, bq 0 (by simp [Tree.leads]) (bdw (by decide)) hl, hm⟩, fun e => absurd rfl e⟩)))))))
theorem GO (hx : Bdx x) (hl : Bdx last) (hk : Skd ks) (ht : tbulk (.node 1 x [a, b, c] ks) ≤ 2000000) : ∃ q, Sps (.node 1 x [a, b, c] ks) last (.node 1 x [ah last a [109, 111, 100, 117, 108, 101], ah [109, 111, 100, 117, 108, 101] b x, c] (fB (spTs ks) (pcTs ks) x)) q := by
 have hkl' : ks.length < tbulk (.node 1 x [a, b, c] ks) := dx (.node 1 x [a, b, c] ks)
 refine ⟨ae x (pcTs ks).flatten, ?_⟩
 obtain ⟨m, hm⟩ := yR (kids := ks) (fun m last' K i => fu m (.node 1 x [a, b, c] ks) 1 x [ah last a [109, 111, 100, 117, 108, 101], ah [109, 111, 100, 117, 108, 101] b x, c] [] last' K i (.node 1 x [ah last a [109, 111, 100, 117, 108, 101], ah [109, 111, 100, 117, 108, 101] b x, c] (fB (spTs ks) (pcTs ks) x)) (ae x (pcTs ks).flatten))
  (fun {m last' K i u} hu hK hs w => by
   obtain ⟨old, ho, _⟩ | h' := aN K i
   ·have hi : i < ks.length := (List.getElem?_eq_some_iff.1 hu).1
    exact lH m _ _ _ _ _ _ _ _ _ _ ⟨fun _ => ⟨u, hu, _, _, hs, old, ho, by omega, w⟩, fun h => absurd hi h⟩
   ·exact absurd hK h')
  ks 0 x (List.replicate ks.length zTr) (fun j v hv => by rw [Nat.zero_add]; exact hv) (by simp) hx hk
  ⟨1, by
   rw [Nat.zero_add, tE _ _ _ (Nat.le_refl _), List.append_nil, List.take_zero, List.nil_append]
   exact lH 0 _ _ _ _ _ _ _ _ _ _ ⟨fun h => absurd h (Nat.lt_irrefl _), fun _ => ⟨rfl, rfl⟩⟩⟩
 exact mH (m + 1) _ _ _ _ ⟨by show 3 ≤ _; decide, lv m _ _ _ _ ⟨by show ks.length ≤ _; omega, fun _ => ⟨_, _, _, _, _, bq 0 (by simp [Tree.leads]) (bdw (by decide)) hl, _, _, _, _, _, bq 1 (by simp [Tree.leads]) hx (bdw (by decide)), hm⟩, fun e => absurd rfl e⟩⟩
end
theorem uZ {α : Type} (v z : α) (Y : List α) : ∀ (X : List α) (n : Nat), X.length = n → (X ++ z :: Y).set n v = X ++ v :: Y
 | [], n, h => by subst h; rfl
 | x :: X, n, h => by subst h; simp only [List.cons_append, List.length_cons, List.set_cons_succ, uZ v z Y X _ rfl]
theorem Gj {x a0 a1 a2 a3 a4 a5 last : List UInt8} {r : List (List UInt8)} {us : List Tree} {p q : Tree} (hx : Bdx x) (hl : Bdx last) (hk : Skd (us ++ [p, q])) (hr : r.length = us.length - 1) (ht : tbulk (.node 2 x (a0 :: a1 :: a2 :: a3 :: a4 :: a5 :: r) (us ++ [p, q])) ≤ 2000000) :
  Sps (.node 2 x (a0 :: a1 :: a2 :: a3 :: a4 :: a5 :: r) (us ++ [p, q])) last (.node 2 x ([ah last a0 [100, 101, 102], ah [100, 101, 102] a1 x, ah x a2 [40], ah (ae [40] (aw (a0 :: a1 :: a2 :: a3 :: a4 :: a5 :: r) 6 (pcTs us) 0)) a3 [41], ah [41] a4 [58], ah (ae [58] (pcT p)) a5 [61]] ++ ca (a0 :: a1 :: a2 :: a3 :: a4 :: a5 :: r) 6 (pcTs us) 0 [40]) (bJ (spTs us) (pcTs us) 0 [40] ++ [spT p [58], spT q [61]])) (ae [61] (pcT q)) := by
 have hkl : (us ++ [p, q]).length < tbulk (.node 2 x (a0 :: a1 :: a2 :: a3 :: a4 :: a5 :: r) (us ++ [p, q])) := dx (.node 2 x (a0 :: a1 :: a2 :: a3 :: a4 :: a5 :: r) (us ++ [p, q]))
 have hn : (us ++ [p, q]).length = us.length + 2 := by simp
 obtain ⟨ks, hks⟩ : ∃ ks, ks = us ++ [p, q] := ⟨_, rfl⟩
 rw [← hks] at hn hkl hk ht ⊢
 obtain ⟨ls, hls⟩ : ∃ ls, ls = a0 :: a1 :: a2 :: a3 :: a4 :: a5 :: r := ⟨_, rfl⟩
 rw [← hls] at hkl ht ⊢
 have hkp : ks[us.length]? = some p := by rw [hks]; simp
 have hkq : ks[us.length + 1]? = some q := by rw [hks]; simp
 obtain ⟨hp, hpb⟩ := hk p (by rw [hks]; simp) [58] (bdw (by decide))
 obtain ⟨hq, hqb⟩ := hk q (by rw [hks]; simp) [61] (bdw (by decide))
 have fin : ∀ (last' : List UInt8) (K : List Tree) (l : List (List UInt8)) (R : Tree), Bdx last' → 5 < l.length → K.length = us.length + 2 → R = .node 2 x (((l.set 3 (ah last' (l.getD 3 []) [41])).set 4 (ah [41] ((l.set 3 (ah last' (l.getD 3 []) [41])).getD 4 []) [58])).set 5 (ah (ae [58] (pcT p)) (((l.set 3 (ah last' (l.getD 3 []) [41])).set 4 (ah [41] ((l.set 3 (ah last' (l.getD 3 []) [41])).getD 4 []) [58])).getD 5 []) [61])) ((K.set us.length (spT p [58])).set (us.length + 1) (spT q [61])) → cF 1 (.node 2 x ls ks) last' K us.length 2 x l [] R (ae [61] (pcT q)) := fun last' K l R hb h2 hK hR => by
  obtain ⟨z1, hz1, _⟩ | h' := aN K us.length
  rotate_left
  ·omega
  obtain ⟨z2, hz2, _⟩ | h' := aN (K.set us.length (spT p [58])) (us.length + 1)
  rotate_left
  ·simp at h'; omega
  have i2 : InI (((ks.length : Nat) : Int) - 2) := by constructor <;> omega
  have i1 : InI (((ks.length : Nat) : Int) - 1) := by constructor <;> omega
  exact ij 0 _ _ _ _ _ _ _ _ _ _ ⟨i2, fun h => absurd h (by show ¬ ((us.length : Nat) : Int) < ((ks.length : Nat) : Int) - 2; omega), fun _ => ⟨_, _, _, _, _, bq 3 (by omega) (bdw (by decide)) hb, _, _, _, _, _, bq 4 (by simp; omega) (bdw (by decide)) (bdw (by decide)), i2, i2, us.length, by show ((ks.length : Nat) : Int) - 2 = _; omega, p, hkp, _, _, hp, us.length, by show ((ks.length : Nat) : Int) - 2 = _; omega, z1, hz1, _, _, _, _, _, bq 5 (by simp; omega) (bdw (by decide)) hpb, i1, i1, us.length + 1, by show ((ks.length : Nat) : Int) - 1 = _; omega, q, hkq, _, _, hq, us.length + 1, by show ((ks.length : Nat) : Int) - 1 = _; omega, z2, hz2, hR.symm, rfl⟩⟩
 obtain ⟨m, hm⟩ : ∃ m, cF m (.node 2 x ls ks) [40] (List.replicate ks.length zTr) 0 2 x (ah last a0 [100, 101, 102] :: ah [100, 101, 102] a1 x :: ah x a2 [40] :: a3 :: a4 :: a5 :: r) [] (.node 2 x ([ah last a0 [100, 101, 102], ah [100, 101, 102] a1 x, ah x a2 [40], ah (ae [40] (aw ls 6 (pcTs us) 0)) a3 [41], ah [41] a4 [58], ah (ae [58] (pcT p)) a5 [61]] ++ ca ls 6 (pcTs us) 0 [40]) (bJ (spTs us) (pcTs us) 0 [40] ++ [spT p [58], spT q [61]])) (ae [61] (pcT q)) := by
  cases us with
  | nil =>
   obtain rfl : r = [] := List.eq_nil_of_length_eq_zero hr
   rw [hn]
   exact ⟨1, fin [40] [zTr, zTr] _ _ (bdw (by decide)) (by simp) rfl rfl⟩
  | cons u us =>
   simp only [List.length_cons] at hr hkl hn
   obtain ⟨hu, hub⟩ := hk u (by rw [hks]; simp) [40] (bdw (by decide))
   have hrb := ul (ls := ls) (c := 6) hk us (fun v hv => by rw [hks]; simp [hv]) 1 _ hub
   have hku : ks[0]? = some u := by rw [hks]; rfl
   obtain ⟨m, hm⟩ := tY (kids := ks) (orig := ls) 5 (us.length + 1) (fun m last' K i l => cF m (.node 2 x ls ks) last' K i 2 x l [] (.node 2 x ([ah last a0 [100, 101, 102], ah [100, 101, 102] a1 x, ah x a2 [40], ah (ae [40] (aw ls 6 (pcTs (u :: us)) 0)) a3 [41], ah [41] a4 [58], ah (ae [58] (pcT p)) a5 [61]] ++ ca ls 6 (pcTs (u :: us)) 0 [40]) (bJ (spTs (u :: us)) (pcTs (u :: us)) 0 [40] ++ [spT p [58], spT q [61]])) (ae [61] (pcT q)))
    (fun {m last' K i l v} h0 hn' hv hK hl' hb hs w => by
     obtain ⟨old, ho, _⟩ | h' := aN K i
     ·exact ij m _ _ _ _ _ _ _ _ _ _ ⟨by show InI (((ks.length : Nat) : Int) - 2); constructor <;> omega, fun _ => ⟨fun _ => ⟨by omega, _, _, _, _, _, bq (5 + i) hl' (bdw (by decide)) hb, v, hv, _, _, hs, old, ho, by omega, w⟩, fun h => absurd (by omega) h⟩, fun h => absurd (show ((i : Nat) : Int) < ((ks.length : Nat) : Int) - 2 by omega) h⟩
     ·exact absurd hK h')
    us 1 (ae [40] (pcT u)) (spT u [40] :: List.replicate (us.length + 2) zTr) (ah last a0 [100, 101, 102] :: ah [100, 101, 102] a1 x :: ah x a2 [40] :: a3 :: a4 :: a5 :: r) (by decide) (fun j v hv => by rw [hks, show 1 + j = j + 1 by omega]; show (us ++ [p, q])[j]? = _; rw [List.getElem?_append_left (List.getElem?_eq_some_iff.1 hv).1]; exact hv) (by omega) (by simp) (by simp; omega) (fun j hj => by rw [hls, show 5 + j = (j - 1) + 6 by omega]; rfl) hub (fun v hv => hk v (by rw [hks]; simp [hv]))
    ⟨1, by
     have d1 : (spT u [40] :: List.replicate (us.length + 2) zTr).drop (us.length + 1) = [zTr, zTr] := by
      show (List.replicate (us.length + 2) zTr).drop us.length = _
      rw [List.drop_replicate, show us.length + 2 - us.length = 2 by omega]; rfl
     have d2 : (ah last a0 [100, 101, 102] :: ah [100, 101, 102] a1 x :: ah x a2 [40] :: a3 :: a4 :: a5 :: r).drop (5 + (us.length + 1)) = [] := List.drop_eq_nil_of_le (by simp; omega)
     have e2 : ae [40] (aw ls 6 (pcTs (u :: us)) 0) = ae (ae [40] (pcT u)) (aw ls 6 (pcTs us) 1) := by show ae [40] (pcT u ++ aw ls 6 (pcTs us) 1) = _; rw [bF]
     have hlr := tL us 1 (ae [40] (pcT u))
     rw [d1, d2, e2, List.append_nil]
     refine fin _ (spT u [40] :: (bJ (spTs us) (pcTs us) 1 (ae [40] (pcT u)) ++ [zTr, zTr])) (ah last a0 [100, 101, 102] :: ah [100, 101, 102] a1 x :: ah x a2 [40] :: a3 :: a4 :: a5 :: ca ls 6 (pcTs us) 1 (ae [40] (pcT u))) _ hrb (by simp) (by simp [hlr]) ?_
     have s1 : (spT u [40] :: (bJ (spTs us) (pcTs us) 1 (ae [40] (pcT u)) ++ [zTr, zTr])).set (u :: us).length (spT p [58]) = spT u [40] :: (bJ (spTs us) (pcTs us) 1 (ae [40] (pcT u)) ++ [spT p [58], zTr]) := uZ (spT p [58]) zTr [zTr] (spT u [40] :: bJ (spTs us) (pcTs us) 1 (ae [40] (pcT u))) _ (by simp [hlr])
     have s2 : (spT u [40] :: (bJ (spTs us) (pcTs us) 1 (ae [40] (pcT u)) ++ [spT p [58], zTr])).set ((u :: us).length + 1) (spT q [61]) = spT u [40] :: (bJ (spTs us) (pcTs us) 1 (ae [40] (pcT u)) ++ [spT p [58], spT q [61]]) := by
      have := uZ (spT q [61]) zTr [] (spT u [40] :: (bJ (spTs us) (pcTs us) 1 (ae [40] (pcT u)) ++ [spT p [58]])) ((u :: us).length + 1) (by simp [hlr])
      simpa using this
     rw [s1, s2]; rfl⟩
   rw [hn]
   exact ⟨m + 1, ij m _ _ _ _ _ _ _ _ _ _ ⟨by show InI (((ks.length : Nat) : Int) - 2); constructor <;> omega, fun _ => ⟨fun h => absurd h (by decide), fun _ => ⟨u, hku, _, _, hu, zTr, rfl, by decide, hm⟩⟩, fun h => absurd (show (((0 : Nat) : Nat) : Int) < ((ks.length : Nat) : Int) - 2 by omega) h⟩⟩
 exact z0 ht (show (2 : Int) ≠ 1 by decide) (lU (m + 1) _ _ _ _ ⟨fun _ => qc m _ _ _ _ ⟨_, _, _, _, _, bq 0 (by rw [hls]; simp [Tree.leads]) (bdw (by decide)) hl, _, _, _, _, _, bq 1 (by rw [hls]; simp [Tree.leads]) hx (bdw (by decide)), _, _, _, _, _, bq 2 (by rw [hls]; simp [Tree.leads]) (bdw (by decide)) hx, by subst hls; exact hm⟩, fun e => absurd rfl e⟩)
theorem Df {k : Int} {x a last : List UInt8} (ht : tbulk (.node k x [a] []) ≤ 2000000) (hs : shapeK (.node k x [a] []) = true) (hl : Bdx last) (h : k ≠ 1 ∧ k ≠ 2 ∧ k ≠ 3 ∧ k ≠ 4 ∧ k ≠ 8 ∧ k ≠ 16 ∧ k ≠ 17 ∧ k ≠ 18 ∧ k ≠ 19 ∧ k ≠ 20 ∧ k ≠ 21 ∧ k ≠ 22) : Sps (.node k x [a] []) last (.node k x [ah last a (fX k x)] []) (fX k x) := by
 obtain ⟨h1, h2, h3, h4, h8, h16, h17, h18, h19, h20, h21, h22⟩ := h
 obtain ⟨r, e, z, q, er⟩ := rq (.node k x [a] []) ht hs [] (by simp; omega)
 have hp : pcT (.node k x [a] []) = [⟨a, fX k x⟩] := by
  rw [bg]
  show bc k x [a] _ = _
  simp only [bc, h1, h2, h3, h4, h8, h16, h17, h18, h19, h20, h21, h22, if_false]; rfl
 rw [List.nil_append, hp] at er
 subst er
 have hb : Bdx (fX k x) := (q bT _ (List.mem_singleton.2 rfl)).2
 exact z0 ht h1 (z2 h2 (z4 h3 (z7 h4 (z9 h8 (z11 h16 (z13 h17 (z14 h18 (z16 h19 (z18 h20 (z20 h21 (kP 0 _ _ _ _ ⟨fun e => absurd e h22, fun _ => ⟨_, mJ 0 _ _ ⟨_, e, rfl⟩, _, rfl, _, _, _, _, _, bq 0 (by simp [Tree.leads]) hb hl, rfl, rfl⟩⟩)))))))))))
theorem Ag {α : Type} : ∀ (l : List α), l.length = 1 → ∃ a, l = [a]
 | [a], _ => ⟨a, rfl⟩
theorem zM {α : Type} : ∀ (l : List α), l.length = 2 → ∃ a b, l = [a, b]
 | [a, b], _ => ⟨a, b, rfl⟩
theorem rk {α : Type} : ∀ (l : List α), 3 ≤ l.length → ∃ a b c r, l = a :: b :: c :: r
 | a :: b :: c :: r, _ => ⟨a, b, c, r, rfl⟩
theorem yz {t : Tree} (ht : tbulk t ≤ 2000000) : Bdx t.text := by have := dy t; unfold Bdx; omega
theorem Ap {k : Int} {x : List UInt8} {ls : List (List UInt8)} {ks : List Tree} (hl : leadedT (.node k x ls ks) = true) : ((ls.length : Nat) : Int) = aV k ks.length := by
 have := (eK hl).1
 rw [jF] at this; exact this
theorem Cj : ∀ t : Tree, t.kind ≠ 1 → tbulk t ≤ 2000000 → shapeK t = true → leadedT t = true → ∀ last, Bdx last → Sps t last (spT t last) (ae last (pcT t)) ∧ Bdx (ae last (pcT t)) := bV fun t ih h1 ht hs hl last hb => by
 refine ⟨?_, xg _ _ (FM ht hs) hb⟩
 have hk : Skd t.kids := fun u hu => by
  obtain ⟨i, hi, e⟩ := List.mem_iff_getElem.1 hu
  have hu' : t.kids[i]? = some u := by rw [← e]; exact List.getElem?_eq_getElem hi
  exact ih i u hu' (mt (aL hs hu').2) (by have := dN hu'; omega) (aL hs hu').1 (dZ (eK hl).2.2 hu')
 obtain ⟨f2, f1, f3, f20⟩ := rV hs
 have hx := yz ht
 have hd := mI hs
 rw [gf, bg]
 obtain ⟨k, x, ls, ks⟩ := t
 have hls := Ap hl
 change k ≠ 1 at h1
 change Skd ks at hk
 change Bdx x at hx
 change k = 2 → ∃ us a b, ks = us ++ [a, b] at f2
 change k = 3 ∨ k = 4 ∨ k = 8 ∨ k = 17 ∨ k = 22 → ∃ a, ks = [a] at f1
 change k = 19 → ∃ a b c, ks = [a, b, c] at f3
 change k = 20 ∨ k = 21 → ∃ a b, ks = [a, b] at f20
 change 0 ≤ aV k ks.length at hd
 show Sps _ last (spN k x ls (spTs ks) (pcTs ks) last) (ae last (bc k x ls (pcTs ks)))
 by_cases h2 : k = 2
 ·subst h2
  obtain ⟨us, p, q, rfl⟩ := f2 rfl
  have e6 : ls.length = 6 + (us.length - 1) := by simp [aV, f0] at hls; split at hls <;> omega
  obtain ⟨a0, a1, a2, l3, rfl⟩ := rk ls (by omega)
  obtain ⟨a3, a4, a5, r, rfl⟩ := rk l3 (by simp at e6; omega)
  rw [DZ, rj]
  have e7 : ae last (bc 2 x (a0 :: a1 :: a2 :: a3 :: a4 :: a5 :: r) (pcTs us ++ pcTs [p, q])) = ae [61] (pcT q) := by
   show ae last (bc 2 x _ (pcTs us ++ [pcT p, pcT q])) = _
   rw [uv]; simp only [dH, bF]
  rw [e7]
  exact Gj hx hb hk (by simp at e6; omega) ht
 have one : ∀ u, ks = [u] → Sps u last (spT u last) (ae last (pcT u)) ∧ ∀ w, Bdx w → Sps u w (spT u w) (ae w (pcT u)) ∧ Bdx (ae w (pcT u)) := fun u e => ⟨(hk u (by rw [e]; simp) last hb).1, hk u (by rw [e]; simp)⟩
 by_cases h3 : k = 3
 ·subst h3
  obtain ⟨u, rfl⟩ := f1 (by omega)
  obtain ⟨a, b, c, r, rfl⟩ := rk ls (by simp [aV, f0] at hls; omega)
  obtain rfl : r = [] := List.eq_nil_of_length_eq_zero (by simp [aV, f0] at hls; omega)
  exact Gq hx hb ht ((one u rfl).2 [61] (bdw (by decide))).1
 by_cases h4 : k = 4
 ·subst h4
  obtain ⟨u, rfl⟩ := f1 (by omega)
  obtain ⟨a, b, rfl⟩ := zM ls (by simp [aV, f0] at hls; omega)
  exact GM hx hb ht ((one u rfl).2 [58] (bdw (by decide))).1
 by_cases h8 : k = 8
 ·subst h8
  obtain ⟨u, rfl⟩ := f1 (by omega)
  obtain ⟨a, b, rfl⟩ := zM ls (by simp [aV, f0] at hls; omega)
  have e7 : ae last (bc 8 x [a, b] (pcTs [u])) = [93] := by show ae last (⟨_, _⟩ :: (pcT u ++ [⟨_, [93]⟩])) = _; rw [dH, bF]; rfl
  rw [e7]
  exact GG hx hb ht ((one u rfl).2 [91] (bdw (by decide))).1 ((one u rfl).2 [91] (bdw (by decide))).2
 by_cases h17 : k = 17
 ·subst h17
  obtain ⟨u, rfl⟩ := f1 (by omega)
  obtain rfl : ls = [] := List.eq_nil_of_length_eq_zero (by rw [show aV 17 ([u] : List Tree).length = 0 from rfl] at hls; omega)
  exact Ge hx hb ht (one u rfl).1
 by_cases h22 : k = 22
 ·subst h22
  obtain ⟨u, rfl⟩ := f1 (by omega)
  obtain ⟨a, b, rfl⟩ := zM ls (by simp [aV, f0] at hls; omega)
  have e7 : ae last (bc 22 x [a, b] (pcTs [u])) = [41] := by show ae last (⟨_, _⟩ :: (pcT u ++ [⟨_, [41]⟩])) = _; rw [dH, bF]; rfl
  rw [e7]
  exact FX hx hb ht ((one u rfl).2 [40] (bdw (by decide))).1 ((one u rfl).2 [40] (bdw (by decide))).2
 by_cases h16 : k = 16
 ·subst h16
  have e6 : ls.length = 3 + (ks.length - 1) := by simp [aV, f0] at hls; split at hls <;> omega
  obtain ⟨a, b, c, r, rfl⟩ := rk ls (by omega)
  have e7 : ae last (bc 16 x (a :: b :: c :: r) (pcTs ks)) = [41] := by show ae last (⟨_, _⟩ :: ⟨_, _⟩ :: (aw _ 3 (pcTs ks) 0 ++ [⟨_, [41]⟩])) = _; rw [dH, dH, bF]; rfl
  rw [e7]
  exact FR hx hb hk (by simp at e6; omega) ht
 by_cases h18 : k = 18
 ·subst h18
  have h1k : 1 ≤ ks.length := (bu hs).2.1 rfl
  have e6 : ls.length = 2 + (ks.length - 1) := by
   simp [aV, f0] at hls
   split at hls
   ·omega
   ·split at hls <;> omega
  obtain ⟨a, b, r, rfl⟩ : ∃ a b r, ls = a :: b :: r := match ls, e6 with | a :: b :: r, _ => ⟨a, b, r, rfl⟩ | [a], e => by simp at e; omega | [], e => by simp at e; omega
  have e7 : ae last (bc 18 x (a :: b :: r) (pcTs ks)) = [93] := by show ae last (⟨_, _⟩ :: (aw _ 2 (pcTs ks) 0 ++ [⟨_, [93]⟩])) = _; rw [dH, bF]; rfl
  rw [e7]
  exact Ga hx hb hk (by simp at e6; omega) ht
 by_cases h19 : k = 19
 ·subst h19
  obtain ⟨u, v, w, rfl⟩ := f3 rfl
  obtain ⟨a, b, c, r, rfl⟩ := rk ls (by simp [aV, f0] at hls; omega)
  obtain rfl : r = [] := List.eq_nil_of_length_eq_zero (by simp [aV, f0] at hls; omega)
  have e7 : ae last (bc 19 x [a, b, c] (pcTs [u, v, w])) = ae [101, 108, 115, 101] (pcT w) := by show ae last (⟨_, _⟩ :: (pcT u ++ (⟨_, _⟩ :: (pcT v ++ (⟨_, [101, 108, 115, 101]⟩ :: pcT w))))) = _; simp only [dH, bF]
  rw [e7]
  have hu := hk u (by simp) [105, 102] (bdw (by decide))
  have hv := hk v (by simp) [116, 104, 101, 110] (bdw (by decide))
  have hw := hk w (by simp) [101, 108, 115, 101] (bdw (by decide))
  exact FL hx hb ht hu.1 hu.2 hv.1 hv.2 hw.1
 by_cases h20 : k = 20
 ·subst h20
  obtain ⟨u, v, rfl⟩ := f20 (by omega)
  obtain ⟨a, b, c, r, rfl⟩ := rk ls (by simp [aV, f0] at hls; omega)
  obtain ⟨d, rfl⟩ := Ag r (by simp [aV, f0] at hls; omega)
  have e7 : ae last (bc 20 x [a, b, c, d] (pcTs [u, v])) = ae [105, 110] (pcT v) := by show ae last (⟨_, _⟩ :: ⟨_, _⟩ :: ⟨_, _⟩ :: (pcT u ++ (⟨_, [105, 110]⟩ :: pcT v))) = _; simp only [dH, bF]
  rw [e7]
  have hu := hk u (by simp) [61] (bdw (by decide))
  have hv := hk v (by simp) [105, 110] (bdw (by decide))
  exact FZ hx hb ht hu.1 hu.2 hv.1
 by_cases h21 : k = 21
 ·subst h21
  obtain ⟨u, v, rfl⟩ := f20 (by omega)
  obtain ⟨a, rfl⟩ := Ag ls (by simp [aV, f0] at hls; omega)
  have e7 : ae last (bc 21 x [a] (pcTs [u, v])) = ae x (pcT v) := by show ae last (pcT u ++ (⟨_, x⟩ :: pcT v)) = _; simp only [dH, bF]
  rw [e7]
  have hu := hk u (by simp) last hb
  have hv := hk v (by simp) x hx
  exact FV hx hb ht hu.1 hu.2 hv.1
 have e : ks.length = 0 ∧ ls.length = 1 := by
  simp only [aV, f0, h1, h2, h3, h4, h8, h16, h17, h18, h19, h20, h21, h22, if_false] at hd hls
  split at hd
  ·rename_i hh; rw [if_pos hh] at hls
   split at hd
   ·omega
   ·rename_i h0; rw [if_neg h0] at hls
    have : ks.length = 0 := by omega
    rw [this] at hls
    simp at hls
    exact ⟨this, by omega⟩
  ·omega
 obtain rfl : ks = [] := List.eq_nil_of_length_eq_zero e.1
 obtain ⟨a, rfl⟩ := Ag ls e.2
 have e7 : spN k x [a] (spTs []) (pcTs []) last = .node k x [ah last a (fX k x)] [] := by
  simp only [spN, h1, h2, h3, h4, h8, h16, h17, h18, h19, h20, h21, h22, if_false]; rfl
 have e8 : ae last (bc k x [a] (pcTs [])) = fX k x := by
  simp only [bc, h1, h2, h3, h4, h8, h16, h17, h18, h19, h20, h21, h22, if_false]; rfl
 rw [e7, e8]
 exact Df ht hs hb ⟨h1, h2, h3, h4, h8, h16, h17, h18, h19, h20, h21, h22⟩
theorem wI {t : Tree} (hk1 : t.kind = 1) (ht : tbulk t ≤ 2000000) (hs : shapeK t = true) (hl : leadedT t = true) : fV t (spT t []) := by
 have hk : Skd t.kids := fun u hu => by
  obtain ⟨i, hi, e⟩ := List.mem_iff_getElem.1 hu
  have hu' : t.kids[i]? = some u := by rw [← e]; exact List.getElem?_eq_getElem hi
  exact Cj u (mt (aL hs hu').2) (by have := dN hu'; omega) (aL hs hu').1 (dZ (eK hl).2.2 hu')
 have hx := yz ht
 rw [uL hk1]
 obtain ⟨k, x, ls, ks⟩ := t
 have hls := Ap hl
 change k = 1 at hk1
 subst hk1
 obtain ⟨a, b, c, r, rfl⟩ := rk ls (by simp [aV] at hls; omega)
 obtain rfl : r = [] := List.eq_nil_of_length_eq_zero (by simp [aV] at hls; omega)
 obtain ⟨q, hq⟩ := GO (x := x) (a := a) (b := b) (c := c) (last := []) (ks := ks) hx (bdw (by decide)) hk ht
 exact qI 0 _ _ ⟨_, _, hq, rfl⟩
def gM (p0 : Tree) (r0 : Int) : Prop := qS 6 [.agg (ai p0)] (.int .i64 r0)
def cw (r0 : Bool) : Prop := qS 8 [] (.bool r0)
def jW (p0 : Tree) (r0 : Bool) : Prop := qS 3 [.agg (ai p0)] (.bool r0)
def ev (m : Nat) (p0 : Tree) (a : Int) (b : Nat) (r0 : Int) : Prop := ∀ (K : Ctx) (j1 : Nat), av K [] → m ≤ j1 → qLG K Tryz.f6 (fun u _ => u = .int .i64 r0) (xL (ac Tryz.f6)) [.loop (xL (ac Tryz.f6)) j1, .blk 0, .seq (xH (ac Tryz.f6))] 21 (mkF 21 0 [(1, .box (ai p0) 0), (3, .int .i64 a), (4, .int .i64 (b : Int))]) ⟨0, []⟩
theorem rQ (m : Nat) (p0 : Tree) (r0 : Int) (h : ev m p0 1 0 r0) : gM p0 r0 := by
 refine ⟨rfl, rfl, ?_⟩
 refine am 21 [] Tryz.func6 rfl rfl rfl (aM rfl) fun K hK => ?_
 exact gR 3 rfl <| gFP 0 rfl rfl rfl rfl <| gR 15 rfl <| go_loop m <| gJ (h K _ hK (by omega)) [] [] rfl hK pq3 trivial rfl
theorem mY (m : Nat) (p0 : Tree) (b : Int) (a : Nat) (r0 : Int) (h : ((a < p0.kids.length) → ∃ d, p0.kids[a]? = some d ∧ ∃ c, gM d c ∧ InI (b + c) ∧ ev m p0 (b + c) (a + 1) r0) ∧ ((¬ a < p0.kids.length) → b = r0)) : ev (m + 1) p0 b a r0 := by
 intro K j1 hK hj1
 obtain ⟨j1, rfl⟩ : ∃ j, j1 = j + 1 := ⟨j1 - 1, by omega⟩
 refine gR 7 rfl <| gV 8 (.int .i64 (p0.kids.length : Int)) rfl (bx (aG _)) rfl <| gLB 7 rfl (aG _) fun hl5 => gR 3 rfl <| gB 9 rfl rfl rfl ?_ ?_ <;> intro hd
 replace hd := (fg hd)
 replace h := h.1 hd
 refine gR 10 rfl ?_
 obtain ⟨d, hxt1_1, h⟩ := h
 refine gY (az (aj hxt1_1) ab rfl rfl rfl rfl) rfl rfl <| gR 1 rfl ?_
 obtain ⟨c, hs6, h⟩ := h
 refine gC0 hs6 (by kernel_rfl) rfl rfl .rfl rfl ?_
 obtain ⟨hb, h⟩ := h
 exact gR 1 rfl <| gV 19 (.int .i64 (b + c)) rfl (ax hb rfl) rfl <| gR 7 rfl <| gV 11 (.int .i64 ((a + 1 : Nat) : Int)) rfl (ax (by have := hl5; omega) (by omega)) rfl <| gR 2 rfl <| go_xloop <| gJ (h K _ hK (by omega)) [] [] rfl hK pq3 trivial rfl
 replace hd := (fc hd)
 replace h := h.2 hd
 refine gR 3 rfl <| go_xloopE <| gR 9 rfl ?_
 subst h
 exact go_end ab (rs := [.tmp 2]) rfl rfl rfl
theorem ra (m : Nat) (r0 : Bool) (h : ∃ a c d, gb [109, 111, 100, 117, 108, 101, 32, 77, 32, 100, 101, 102, 32, 102, 40, 120, 58, 32, 73, 110, 116, 41, 58, 32, 73, 110, 116, 32, 61, 32, 120, 32, 43, 32, 49, 32, 35, 32, 101, 110, 100] a c d ∧ ((d = 0) → ((c = 0) → (((a.kids.length : Int) = 1) → ((a.text = [77]) → ∃ b, a.kids[0]? = some b ∧ (((b.kids.length : Int) = 3) → ∃ e, dL a e ∧ ((e = [109, 111, 100, 117, 108, 101, 32, 77, 32, 100, 101, 102, 32, 102, 40, 120, 58, 32, 73, 110, 116, 41, 58, 32, 73, 110, 116, 32, 61, 32, 120, 32, 43, 32, 49, 32, 35, 32, 101, 110, 100]) → ∃ f, fW 2 4 f ∧ (f == 7) = r0) ∧ ((e ≠ [109, 111, 100, 117, 108, 101, 32, 77, 32, 100, 101, 102, 32, 102, 40, 120, 58, 32, 73, 110, 116, 41, 58, 32, 73, 110, 116, 32, 61, 32, 120, 32, 43, 32, 49, 32, 35, 32, 101, 110, 100]) → false = r0)) ∧ (((b.kids.length : Int) ≠ 3) → false = r0)) ∧ ((a.text ≠ [77]) → false = r0)) ∧ (((a.kids.length : Int) ≠ 1) → false = r0)) ∧ ((c ≠ 0) → false = r0)) ∧ ((d ≠ 0) → false = r0)) : cw r0 := by
 refine ⟨rfl, rfl, ?_⟩
 refine am 47 [] Tryz.func8 rfl rfl rfl (aM rfl) fun K hK => ?_
 refine gR 13 rfl ?_
 obtain ⟨a, c, d, hs6, h⟩ := h
 refine gC0 hs6 (by kernel_rfl) rfl rfl .rfl rfl <| gR 15 rfl <| qBeZ 13 12 rfl rfl rfl rfl h (fun h => ?_) fun h => ?_
 refine gR 4 rfl <| qBeZ 17 16 rfl rfl rfl rfl h (fun h => ?_) fun h => ?_
 refine gR 3 rfl <| gV 20 (.int .i64 (a.kids.length : Int)) rfl (bx (aG _)) rfl <| gLB 19 rfl (aG _) fun hl7 => gR 3 rfl <| qBeZ 23 22 rfl rfl rfl rfl h (fun h => ?_) fun h => ?_
 refine gR 5 rfl <| qBeZ 28 27 rfl rfl rfl rfl h (fun h => ?_) fun h => ?_
 refine gR 2 rfl ?_
 obtain ⟨b, hxt0_4, h⟩ := h
 refine gY (az (aj hxt0_4) ab rfl rfl rfl rfl) rfl rfl <| gR 3 rfl <| gV 34 (.int .i64 (b.kids.length : Int)) rfl (bx (aG _)) rfl <| gLB 33 rfl (aG _) fun hl8 => gR 3 rfl <| qBeZ 37 36 rfl rfl rfl rfl h (fun h => ?_) fun h => ?_
 refine gR 1 rfl ?_
 obtain ⟨e, hs9, h⟩ := h
 refine gC0 hs9 (by kernel_rfl) rfl rfl .rfl rfl <| gR 4 rfl <| qBeZ 43 42 rfl rfl rfl rfl h (fun h => ?_) fun h => ?_
 obtain ⟨f, hs10, h⟩ := h
 refine gC0 hs10 (by kernel_rfl) rfl rfl .rfl rfl <| gR 6 rfl ?_
 subst h
 exact go_end ab (rs := [.tmp 0]) rfl rfl rfl
 refine gR 7 rfl ?_
 subst h
 exact go_end ab (rs := [.tmp 0]) rfl rfl rfl
 refine gR 13 rfl ?_
 subst h
 exact go_end ab (rs := [.tmp 0]) rfl rfl rfl
 refine gR 22 rfl ?_
 subst h
 exact go_end ab (rs := [.tmp 0]) rfl rfl rfl
 refine gR 27 rfl ?_
 subst h
 exact go_end ab (rs := [.tmp 0]) rfl rfl rfl
 refine gR 33 rfl ?_
 subst h
 exact go_end ab (rs := [.tmp 0]) rfl rfl rfl
 refine gR 37 rfl ?_
 subst h
 exact go_end ab (rs := [.tmp 0]) rfl rfl rfl
theorem oE (m : Nat) (p0 : Tree) (r0 : Bool) (h : ∃ d, gM p0 d ∧ ((400 < d) → ∃ g, cw g ∧ g = r0) ∧ ((¬ 400 < d) → ((p0.kind ≠ 1) → ∃ i, cw i ∧ i = r0) ∧ ((p0.kind = 1) → ∃ e, dB p0 e ∧ ((e = false) → ∃ j, cw j ∧ j = r0) ∧ ((e = true) → ∃ k, dL p0 k ∧ ∃ l n f, gb k l n f ∧ ∃ a, cw a ∧ ((a = true) → ((f = 0) → ∃ b, fV p0 b ∧ ∃ c, fa l b c ∧ c = r0) ∧ ((f ≠ 0) → false = r0)) ∧ ((a = false) → false = r0))))) : jW p0 r0 := by
 refine ⟨rfl, rfl, ?_⟩
 refine am 38 [] Tryz.func3 rfl rfl rfl (aM rfl) fun K hK => ?_
 refine gR 3 rfl <| gFP 0 rfl rfl rfl rfl <| gR 7 rfl ?_
 obtain ⟨d, hs11, h⟩ := h
 refine gC0 hs11 (by kernel_rfl) rfl rfl .rfl rfl <| gR 2 rfl <| qBdZ 9 8 rfl rfl rfl rfl h (fun h => ?_) fun h => ?_
 refine gR 14 rfl ?_
 obtain ⟨g, hs12, h⟩ := h
 refine gC0 hs12 (by kernel_rfl) rfl rfl .rfl rfl <| gR 5 rfl ?_
 subst h
 exact go_end ab (rs := [.tmp 2]) rfl rfl rfl
 refine gR 5 rfl <| qBhZ 14 13 rfl rfl rfl rfl h fh dz (fun h => ?_) fun h => ?_
 refine gR 9 rfl ?_
 obtain ⟨i, hs13, h⟩ := h
 refine gC0 hs13 (by kernel_rfl) rfl rfl .rfl rfl <| gR 5 rfl ?_
 subst h
 exact go_end ab (rs := [.tmp 2]) rfl rfl rfl
 refine gR 1 rfl ?_
 obtain ⟨e, hs14, h⟩ := h
 refine gC0 hs14 (by kernel_rfl) rfl rfl .rfl rfl <| gR 4 rfl <| qBh 18 rfl rfl rfl h dr dn (fun h => ?_) fun h => ?_
 refine gR 3 rfl ?_
 obtain ⟨j, hs15, h⟩ := h
 refine gC0 hs15 (by kernel_rfl) rfl rfl .rfl rfl <| gR 5 rfl ?_
 subst h
 exact go_end ab (rs := [.tmp 2]) rfl rfl rfl
 refine gR 6 rfl ?_
 obtain ⟨k, hs16, h⟩ := h
 refine gC0 hs16 (by kernel_rfl) rfl rfl .rfl rfl ?_
 obtain ⟨l, n, f, hs17, h⟩ := h
 refine gC0 hs17 (by kernel_rfl) rfl rfl .rfl rfl <| gR 11 rfl <| gDs [1] 9 12 rfl (by kernel_rfl) (by kernel_rfl) ?_
 obtain ⟨a, hs18, h⟩ := h
 refine bW 0 hs18 (by kernel_rfl) rfl (by kernel_rfl) rfl rfl .rfl rfl rfl ?_
 refine gDr [(1, 0)] (by kernel_rfl) rfl rfl <| qBiZ 28 27 rfl rfl rfl rfl h (fun h => ?_) fun h => ?_
 refine gDr [(2, 0), (3, 0), (4, 0), (5, 0)] (by kernel_rfl) rfl rfl <| qBeZ 32 31 rfl rfl rfl rfl h (fun h => ?_) fun h => ?_
 refine gDr [(6, 3), (7, 0)] (by kernel_rfl) rfl rfl ?_
 obtain ⟨b, hs19, h⟩ := h
 refine bW 8 hs19 (by kernel_rfl) rfl (by kernel_rfl) rfl rfl .rfl rfl rfl ?_
 obtain ⟨c, hs20, h⟩ := h
 refine bW 9 hs20 (by kernel_rfl) rfl (by kernel_rfl) rfl rfl .rfl rfl rfl ?_
 refine gDr [(10, 1), (11, 1)] (by kernel_rfl) rfl rfl <| gDe (by kernel_rfl) <| gR 2 rfl ?_
 subst h
 exact go_end ab (rs := [.tmp 2]) rfl rfl rfl
 refine gDr [(6, 2), (7, 0), (8, 0), (9, 0), (10, 1), (11, 1)] (by kernel_rfl) rfl rfl <| gDe (by kernel_rfl) <| gR 2 rfl ?_
 subst h
 exact go_end ab (rs := [.tmp 2]) rfl rfl rfl
 refine gDr [(2, 0), (3, 0), (4, 0), (5, 0), (6, 2), (7, 0), (8, 0), (9, 0), (10, 1), (11, 1)] (by kernel_rfl) rfl rfl <| gDe (by kernel_rfl) <| gR 2 rfl ?_
 subst h
 exact go_end ab (rs := [.tmp 2]) rfl rfl rfl
def pB : Tree := .node 1 [77] [[], [32], [32, 35, 32, 101, 110, 100]] [.node 2 [102] [[32], [32], [], [], [], [32]] [.node 4 [120] [[], []] [.node 5 [] [[32]] []], .node 5 [] [[32]] [], .node 21 [43] [[32]] [.node 12 [120] [[32]] [], .node 10 [49] [[32]] []]]]
def CB (t : Tree) : Bool := shapeK t && leadedT t && limK t && decide (depK t ≤ 40) && decide ((ej t).length ≤ 4096)
theorem CX {t : Tree} (h : CB t = true) : Vld t := by
 simp only [CB, Bool.and_eq_true, decide_eq_true_eq] at h
 exact ⟨h.1.1.1.1, h.1.1.1.2, h.1.1.2, h.1.2, h.2⟩
theorem wv : CB pB = true ∧ tbulk pB ≤ 1000 := by decide +kernel
theorem AE : ej pB = [109, 111, 100, 117, 108, 101, 32, 77, 32, 100, 101, 102, 32, 102, 40, 120, 58, 32, 73, 110, 116, 41, 58, 32, 73, 110, 116, 32, 61, 32, 120, 32, 43, 32, 49, 32, 35, 32, 101, 110, 100] := by decide +kernel
theorem tw {t : Tree} (ht : tbulk t ≤ 2000000) (v : Vld t) : dL t (ej t) := by
 have h := xQ t (by omega)
 rw [v.shape, v.lead] at h
 exact h
theorem mf : cw true := by
 have hv := CX wv.1
 have hb := wv.2
 have hp := pX (t := pB) rfl (by omega) hv
 have h1 := tw (t := pB) (by omega) hv
 rw [AE] at hp h1
 have hsp : spT pB [] = pB := by rfl
 rw [hsp] at hp
 have h6 : fW 2 4 (aV 2 4) := sw (by decide) (by decide)
 exact ra 0 _ ⟨pB, 0, 0, hp, fun _ => ⟨fun _ => ⟨fun _ => ⟨fun _ => ⟨_, rfl, fun _ => ⟨_, h1, fun _ => ⟨_, h6, by decide⟩, fun h => absurd rfl h⟩, fun h => absurd rfl h⟩, fun h => absurd rfl h⟩, fun h => absurd rfl h⟩, fun h => absurd rfl h⟩, fun h => absurd rfl h⟩
theorem Dp : ∀ t : Tree, tbulk t ≤ 1000000000 → ∃ n : Int, gM t n ∧ 0 ≤ n ∧ n ≤ tbulk t := bV fun t ih hb => by
 have loop : ∀ k i (z : Int), t.kids.length - i ≤ k → 0 ≤ z → z + kbulk (t.kids.drop i) ≤ tbulk t → ∃ n : Int, ev (k + 1) t z i n ∧ 0 ≤ n ∧ n ≤ tbulk t := fun k => by
  have fin : ∀ m i (z : Int), ¬ i < t.kids.length → 0 ≤ z → z ≤ tbulk t → ∃ n : Int, ev (m + 1) t z i n ∧ 0 ≤ n ∧ n ≤ tbulk t := fun m i z hi h0 hz => ⟨z, mY m _ _ _ _ ⟨fun h => absurd h hi, fun _ => rfl⟩, h0, hz⟩
  induction k with
  | zero => intro i z hi h0 hz; exact fin 0 i z (by omega) h0 (by omega)
  | succ k ihk =>
   intro i z hi h0 hz
   obtain ⟨u, hu, hul⟩ | h' := aN t.kids i
   ·have hkb := dN hu
    obtain ⟨n, hn, n0, n1⟩ := ih i u hu (by omega)
    rw [cV hu, kbulk] at hz
    obtain ⟨r, hr, r0, r1⟩ := ihk (i + 1) (z + n) (by omega) (by omega) (by omega)
    exact ⟨r, mY (k + 1) _ _ _ _ ⟨fun _ => ⟨u, hu, n, hn, by constructor <;> omega, hr⟩, fun h => absurd hul h⟩, r0, r1⟩
   ·exact fin _ i z h' h0 (by omega)
 have hbt := bL t
 obtain ⟨n, hn, n0, n1⟩ := loop t.kids.length 0 1 (by omega) (by omega) (by rw [List.drop_zero]; omega)
 exact ⟨n, rQ _ _ _ hn, n0, n1⟩
theorem yX : ∀ t : Tree, fa t t true := bV fun t ih => by
 have kids : ∀ k i, t.kids.length - i ≤ k → gv (k + 1) t t i true := fun k => by
  induction k with
  | zero => intro i hi; exact jt 0 _ _ _ _ ⟨fun h => by omega, fun _ => rfl⟩
  | succ k ihk =>
   intro i hi
   obtain ⟨u, hu, hul⟩ | h' := aN t.kids i
   ·exact jt (k + 1) _ _ _ _ ⟨fun _ => ⟨u, hu, u, hu, true, ih i u hu, fun h => (by cases h), fun _ => ihk (i + 1) (by omega)⟩, fun h => absurd hul h⟩
   ·exact jt (k + 1) _ _ _ _ ⟨fun h => absurd h h', fun _ => rfl⟩
 have hk := kids t.kids.length 0 (by omega)
 have leads : ∀ k i, t.leads.length - i ≤ k → ∃ m, eC m t t i true := fun k => by
  have fin : ∀ i, ¬ i < t.leads.length → ∃ m, eC m t t i true := fun i hi => ⟨_, mV _ _ _ _ _ ⟨fun h => absurd h hi, fun _ => hk⟩⟩
  induction k with
  | zero => intro i hi; exact fin i (by omega)
  | succ k ihk =>
   intro i hi
   obtain ⟨s, hs, hsl⟩ | h' := aN t.leads i
   ·obtain ⟨m, hm⟩ := ihk (i + 1) (by omega)
    exact ⟨m + 1, mV m _ _ _ _ ⟨fun _ => ⟨s, hs, s, hs, fun h => absurd rfl h, fun _ => hm⟩, fun h => absurd hsl h⟩⟩
   ·exact fin i h'
 obtain ⟨m, hm⟩ := leads t.leads.length 0 (by omega)
 exact rM m _ _ _ ⟨fun h => absurd rfl h, fun _ => ⟨fun h => absurd rfl h, fun _ => ⟨fun h => absurd rfl h, fun _ => ⟨fun h => absurd rfl h, fun _ => hm⟩⟩⟩⟩
theorem Ff (t : Tree) (ht : tbulk t ≤ 2000000) : jW t true := by
 obtain ⟨n, hn, _, _⟩ := Dp t (by omega)
 obtain ⟨b, hb, hv⟩ := wF t ht
 refine oE 0 _ _ ⟨n, hn, fun _ => ⟨_, mf, rfl⟩, fun _ => ⟨fun _ => ⟨_, mf, rfl⟩, fun hk => ⟨b, hb, fun _ => ⟨_, mf, rfl⟩, fun e => ?_⟩⟩⟩
 have v := hv.1 e
 exact ⟨_, tw ht v, _, _, _, pX hk (by omega) v, true, mf, fun _ => ⟨fun _ => ⟨_, wI hk ht v.shape v.lead, _, yX _, rfl⟩, fun h => absurd rfl h⟩, fun h => (by cases h)⟩
open Go.RowKit Go.ChangeShapes Go.WideShapes Go.Deep
theorem Bh : Tryz.prog.cellsOf 3 = 1 := by kernel_rfl
theorem Ft {H : Type} {enc : TypeId × Value → H} {W : World} {a0 : Option Addr} {len cap : Nat} {d : DataW H} {p : List MemPlace} (h : DataW.Trod enc Tryz.prog W 0 (fun _ => true) true 35 (.slice a0 len cap) d p) :
  ∃ zs : List Int, len = zs.length ∧ len ≤ cap ∧ cap ≤ maxLen ∧ RowIn Any W 1 a0 zs.length (zs.map fun z => .int .i64 z) := by
 obtain ⟨fuel, hf⟩ := h
 rcases open_ints Tryz.underlying35 Tryz.underlying3 Bh hf with ⟨hcs, hx⟩ | ⟨a, len', cap', zs, hcs, hb, hl, hm, hlen, hx, hcell, hwf⟩
 ·simp [Value.cells] at hcs
  obtain ⟨rfl, rfl, rfl⟩ := hcs
  exact ⟨[], rfl, Nat.le_refl _, Nat.zero_le _, RowIn.none_⟩
 ·simp [Value.cells] at hcs
  obtain ⟨rfl, rfl, rfl⟩ := hcs
  simp only [if_true] at hlen
  have hlt : (zs.take len).length = len := by simp; omega
  refine ⟨zs.take len, hlt.symm, hl, hm, by simp, fun h0 => ?_⟩
  rw [hlt] at h0 ⊢
  have hs : a.spot = none := World.cell?_spot (a := a) (by have := hcell 0 (by omega); simpa [Addr.add] using this)
  obtain ⟨b, off, spot⟩ := a
  simp only at hs
  subst hs
  have hadd : ∀ k, (⟨b, off, none⟩ : Addr).add k = ⟨b, off + k, none⟩ := fun k => by unfold Addr.add; split <;> simp_all
  refine ⟨b, off, rfl, trivial, ?_, fun j hj => ?_⟩
  ·have := hcell 0 (by omega)
   exact World.block_lt_of_cell? W ⟨b, off, none⟩ (by simpa [Addr.add] using this)
  ·have hj' : j < len := by omega
   have := hcell j (by omega)
   rw [hadd] at this
   rw [this]
   simp [hj', List.getD_eq_getElem?_getD, show j < zs.length from by omega]
open Go.RowKit Lx Sx Go.ChangeShapes Go.WideShapes Go.Deep Go.Joins
instance : Inhabited Tree := ⟨wR⟩
theorem ut : Tryz.prog.cellsOf 25 = 4 := by kernel_rfl
theorem AU : Tryz.prog.cellsOf 3 = 1 := by kernel_rfl
theorem vy : Tryz.prog.cellsOf 9 = 1 := by kernel_rfl
theorem Bv : Tryz.prog.cellsOf 22 = 1 := by kernel_rfl
theorem Cx : Tryz.prog.cellsOf 23 = 1 := by kernel_rfl
theorem vo {α : Type} {l : List α} (h : l.length = 4) : ∃ a b c d, l = [a, b, c, d] := by
 match l, h with
 | [a, b, c, d], _ => exact ⟨a, b, c, d, rfl⟩
theorem yK {α : Type} {c : Nat → List α} : ∀ (l : List Nat) (i r : Nat), (∀ j ∈ l, (c j).length = 4) → r < 4 → (l.flatMap c)[i * 4 + r]? = (l[i]?).bind fun j => (c j)[r]?
 | [], i, r, _, _ => by simp
 | j :: l, 0, r, h, hr => by
  have := h j (by simp)
  rw [List.flatMap_cons, List.getElem?_append_left (by omega)]; simp
 | j :: l, i + 1, r, h, hr => by
  have h4 := h j (by simp)
  rw [List.flatMap_cons, List.getElem?_append_right (by omega), show (i + 1) * 4 + r - (c j).length = i * 4 + r by omega, yK l i r (fun q hq => h q (by simp [hq])) hr]; simp
theorem GB {v a b c d : Value} (h : v.cells = #[a, b, c, d]) : v = .agg #[a, b, c, d] := by
 cases v <;> simp_all [Value.cells]
section
variable {H : Type} {enc : TypeId × Value → H} {W : World}
theorem uT (b off k : Nat) : (⟨b, off, none⟩ : Addr).add k = ⟨b, off + k, none⟩ := by unfold Addr.add; split <;> simp_all
theorem vm {g : Nat → Tree} {D : Nat → DataW H} : ∀ (l : List Nat), (∀ i ∈ l, tbulk (g i) ≤ Rows.uptoBulk (D i)) → kbulk (l.map g) ≤ Rows.uptoBulkAll (l.map D)
 | [], _ => by simp [kbulk, Rows.uptoBulkAll]
 | i :: l, h => by
  have := vm l (fun j hj => h j (by simp [hj]))
  have := h i (by simp)
  simp only [List.map_cons, kbulk, Rows.uptoBulkAll]; omega
theorem xe {g : Nat → List UInt8} {D : Nat → DataW H} : ∀ (l : List Nat), (∀ i ∈ l, D i = .lit (.string (g i))) → lsum (l.map g) ≤ Rows.uptoBulkAll (l.map D)
 | [], _ => by simp [lsum, Rows.uptoBulkAll]
 | i :: l, h => by
  have := xe l (fun j hj => h j (by simp [hj]))
  have := h i (by simp)
  simp only [List.map_cons, lsum, Rows.uptoBulkAll, this, Rows.uptoBulk]; omega
theorem tv {g : Nat → Tree} {c : Nat → List Value} : ∀ (l : List Nat), (∀ i ∈ l, TreeIs Any W (g i) (c i)) → KidsAre Any W (l.map g) (l.flatMap c)
 | [], _ => rfl
 | i :: l, h => by
  simp only [List.map_cons, List.flatMap_cons, KidsAre]
  exact ⟨c i, l.flatMap c, rfl, h i (by simp), tv l (fun j hj => h j (by simp [hj]))⟩
theorem DI {n : Nat} {v : Value} {x : DataW H × List MemPlace} (h : DataW.trod enc Tryz.prog W 0 (fun _ => true) true n 22 [v] = some x) :
  ∃ (ls : List (List UInt8)) (A : Option Addr) (m : Nat), v = .slice A ls.length m ∧ ls.length ≤ m ∧ m ≤ maxLen ∧ RowIn Any W 1 A ls.length (ls.map sn) ∧ lsum ls ≤ Rows.uptoBulk x.1 := by
 rcases open_slice Tryz.underlying22 h with ⟨hcs, hx⟩ | ⟨a, len, cap, m, n', D, Pl, hcs, hb, hl, hm, hmm, hx, hi⟩
 ·simp only [List.cons.injEq, and_true] at hcs
  exact ⟨[], none, 0, hcs, Nat.le_refl _, by simp [maxLen], RowIn.none_, by simp [lsum]⟩
 ·simp only [List.cons.injEq, and_true] at hcs
  simp only [if_true] at hmm
  subst hmm hcs
  rw [vy] at hi
  obtain ⟨T, hT⟩ := choose_lt (α := List UInt8) (p := fun i t => W.cell? (a.add i) = some (sn t) ∧ D i = .lit (.string t)) (n := m) (fun i him => by
   obtain ⟨cs', hc, ht⟩ := hi i him
   obtain ⟨s, e1, f1, _⟩ := DataW.trod_string Tryz.underlying9 ht
   subst e1
   refine ⟨s.data.toList, ?_, by have := congrArg Prod.fst f1; simpa using this⟩
   have := (World.cells?_some hc).2.2 0 (by omega)
   simpa [Addr.add] using this)
  refine ⟨(List.range len).map T, some a, m, by simp, by simpa using hl, hm, ⟨by simp, fun h0 => ?_⟩, ?_⟩
  ·simp only [List.length_map, List.length_range] at h0 ⊢
   have hs : a.spot = none := World.cell?_spot (a := a) (by have := (hT 0 (by omega)).1; simpa [Addr.add] using this)
   obtain ⟨b, off, spot⟩ := a
   simp only at hs
   subst hs
   refine ⟨b, off, rfl, trivial, ?_, fun j hj => ?_⟩
   ·have := (hT 0 (by omega)).1
    exact World.block_lt_of_cell? W ⟨b, off, none⟩ (by simpa [Addr.add] using this)
   ·have := (hT j (by omega)).1
    rw [uT] at this
    rw [this]; simp [show j < len by omega]
  ·rw [hx]
   have := xe (g := T) (D := D) (List.range len) (fun i hi' => (hT i (by have := List.mem_range.1 hi'; omega)).2)
   simp only [Rows.uptoBulk]; omega
theorem yP : ∀ (q n : Nat) (cs : List Value) (x : DataW H × List MemPlace), Rows.uptoBulk x.1 ≤ q → DataW.trod enc Tryz.prog W 0 (fun _ => true) true n 25 cs = some x → ∃ t, TreeIs Any W t cs ∧ tbulk t ≤ Rows.uptoBulk x.1
 | q, n, cs, x, hq, h => by
  obtain ⟨y0, y1, y2, y3, n', hx, hl, h0, h1, h2, h3⟩ := trod_struct4 Tryz.underlying25 h
  rw [ut] at hl
  obtain ⟨v0, v1, v2, v3, rfl⟩ := vo hl
  simp only [AU, vy, Bv, Cx, List.drop_zero, List.drop_succ_cons, List.take_succ_cons, List.take_zero] at h0 h1 h2 h3
  obtain ⟨k, e0, f0, _⟩ := DataW.trod_int Tryz.underlying3 h0
  obtain ⟨s1, e1, f1, _⟩ := DataW.trod_string Tryz.underlying9 h1
  obtain ⟨ls, A, m, e2, l1, l2, l3, l4⟩ := DI h2
  simp only [List.cons.injEq, and_true] at e0 e1
  have hbk : Rows.uptoBulk x.1 = Rows.uptoBulk y0.1 + (Rows.uptoBulk y1.1 + (Rows.uptoBulk y2.1 + (Rows.uptoBulk y3.1 + 0))) + 1 := by rw [hx]; simp only [Rows.uptoBulk, Rows.uptoBulkAll]
  have hs1 : Rows.uptoBulk y1.1 = s1.data.toList.length + 1 := by
   have : y1.1 = .lit (.string s1.data.toList) := by rw [f1]
   rw [this]; rfl
  have go : ∃ (ks : List Tree) (B : Option Addr) (c : Nat) (cells : List Value), v3 = .slice B ks.length c ∧ ks.length ≤ c ∧ c ≤ maxLen ∧ KidsAre Any W ks cells ∧ RowIn Any W 4 B ks.length cells ∧ kbulk ks ≤ Rows.uptoBulk y3.1 := by
   rcases open_slice Tryz.underlying23 h3 with ⟨hcs, hx3⟩ | ⟨a, len, cap, m3, n3, D, Pl, hcs, hb, hl3, hm3, hmm, hx3, hi⟩
   ·simp only [List.cons.injEq, and_true] at hcs
    exact ⟨[], none, 0, [], hcs, Nat.le_refl _, by simp [maxLen], rfl, RowIn.none_, by simp [kbulk]⟩
   ·simp only [List.cons.injEq, and_true] at hcs
    simp only [if_true] at hmm
    subst hmm hcs
    rw [ut] at hi
    have hall : Rows.uptoBulk y3.1 = Rows.uptoBulkAll ((List.range len).map D) + Rows.uptoBulkAll ((List.range (m3 - len)).map fun j => D (len + j)) + 1 := by rw [hx3]; simp only [Rows.uptoBulk]
    have hle : ∀ (l : List Nat) i, i ∈ l → Rows.uptoBulk (D i) ≤ Rows.uptoBulkAll (l.map D) := by
     intro l i hi'
     induction l with
     | nil => cases hi'
     | cons j r ih =>
      simp only [List.map_cons, Rows.uptoBulkAll]
      rcases List.mem_cons.1 hi' with e | e
      ·subst e; omega
      ·have := ih e; omega
    obtain ⟨T, hT⟩ := choose_lt (α := Tree × List Value) (p := fun i t => i < len → W.cells? 0 (a.add (i * 4)) 4 = some t.2 ∧ TreeIs Any W t.1 t.2 ∧ tbulk t.1 ≤ Rows.uptoBulk (D i)) (n := m3) (fun i him => by
     by_cases hil : i < len
     ·obtain ⟨cs', hc, ht⟩ := hi i him
      have hb1 := hle (List.range len) i (by simp [hil])
      obtain ⟨t, g1, g2⟩ := yP (q - 1) n3 cs' (D i, Pl i) (by simp only; omega) ht
      exact ⟨(t, cs'), fun _ => ⟨hc, g1, g2⟩⟩
     ·exact ⟨(wR, []), fun h => absurd h hil⟩)
    have hTl : ∀ i, i ∈ List.range len → W.cells? 0 (a.add (i * 4)) 4 = some (T i).2 ∧ TreeIs Any W (T i).1 (T i).2 ∧ tbulk (T i).1 ≤ Rows.uptoBulk (D i) := fun i hi' => by
     have := List.mem_range.1 hi'
     exact hT i (by omega) this
    refine ⟨(List.range len).map fun i => (T i).1, some a, m3, (List.range len).flatMap fun i => (T i).2, by simp, by simpa using hl3, hm3, tv _ (fun i hi' => (hTl i hi').2.1), ⟨?_, fun h0 => ?_⟩, ?_⟩
    ·have := (tv (W := W) (g := fun i => (T i).1) (c := fun i => (T i).2) (List.range len) (fun i hi' => (hTl i hi').2.1)).length
     rw [this]
    ·simp only [List.length_map, List.length_range] at h0 ⊢
     have hcell : ∀ i, i < len → ∀ r, r < 4 → W.cell? ((a.add (i * 4)).add r) = (T i).2[r]? := fun i hi' r hr => by
      have h4 := (hTl i (by simp [hi'])).2.1.four
      have := (World.cells?_some (hTl i (by simp [hi'])).1).2.2 r (by omega)
      rw [this]
     have hsome : ∃ v, W.cell? a = some v := by
      have h4 := (hTl 0 (by simp [h0])).2.1.four
      have := hcell 0 h0 0 (by omega)
      refine ⟨(T 0).2[0]'(by omega), ?_⟩
      rw [List.getElem?_eq_getElem (by omega)] at this
      simpa [Addr.add] using this
     obtain ⟨vv, hvv⟩ := hsome
     have hs : a.spot = none := World.cell?_spot (a := a) hvv
     obtain ⟨b, off, spot⟩ := a
     simp only at hs
     subst hs
     refine ⟨b, off, rfl, trivial, World.block_lt_of_cell? W ⟨b, off, none⟩ hvv, fun j hj => ?_⟩
     have e := hcell (j / 4) (by omega) (j % 4) (by omega)
     rw [uT, uT, show off + j / 4 * 4 + j % 4 = off + j by omega] at e
     have e2 := yK (c := fun i => (T i).2) (List.range len) (j / 4) (j % 4) (fun i hi' => (hTl i hi').2.1.four) (by omega)
     rw [show j / 4 * 4 + j % 4 = j by omega] at e2
     rw [e, e2]; simp [show j / 4 < len by omega]
    ·have := vm (g := fun i => (T i).1) (D := D) (List.range len) (fun i hi' => (hTl i hi').2.2)
     omega
  obtain ⟨ks, B, c, cells, e3, k1, k2, k3, k4, k5⟩ := go
  refine ⟨.node k s1.data.toList ls ks, ?_, ?_⟩
  ·subst e0 e1 e2 e3
   simp only [TreeIs]
   exact ⟨A, m, B, c, by simp, l1, l2, k1, k2, l3, cells, k3, k4⟩
  ·simp only [tbulk]
   omega
 termination_by q => q
 decreasing_by omega
theorem Gh {v : Value} {d : DataW H} {p : List MemPlace} (h : DataW.Trod enc Tryz.prog W 0 (fun _ => true) true 25 v d p) : ∃ t c0 c1 c2 c3, v.cells = #[c0, c1, c2, c3] ∧ TreeIs Any W t [c0, c1, c2, c3] ∧ tbulk t ≤ Rows.uptoBulk d := by
 obtain ⟨fuel, hf⟩ := h
 obtain ⟨t, h1, h2⟩ := yP _ fuel _ _ (Nat.le_refl _) hf
 have h4 := h1.four
 obtain ⟨c0, c1, c2, c3, e⟩ := vo h4
 refine ⟨t, c0, c1, c2, c3, ?_, e ▸ h1, h2⟩
 apply Array.ext'
 simpa using e
end
abbrev rA (W : World) : Nat → Prop := fun b => b < W.heap.size
theorem RowIn.live {W : World} {sz n : Nat} {A : Option Addr} {xs : List Value} (h : RowIn Any W sz A n xs) : RowIn (rA W) W sz A n xs := ⟨h.1, fun hp => by
 obtain ⟨b, off, h1, _, h3, h4⟩ := h.2 hp
 exact ⟨b, off, h1, h3, h3, h4⟩⟩
mutual
theorem TreeIs.live {W : World} : ∀ {t : Tree} {c : List Value}, TreeIs Any W t c → TreeIs (rA W) W t c
 | .node k s ls ks, c, h => by
  simp only [TreeIs] at h ⊢
  obtain ⟨A, m, B, n, h1, h2, h3, h4, h5, h6, cs, h7, h8⟩ := h
  exact ⟨A, m, B, n, h1, h2, h3, h4, h5, h6.live, cs, KidsAre.live h7, h8.live⟩
theorem KidsAre.live {W : World} : ∀ {ts : List Tree} {cs : List Value}, KidsAre Any W ts cs → KidsAre (rA W) W ts cs
 | [], cs, h => by simp only [KidsAre] at h ⊢; exact h
 | t :: r, cs, h => by
  simp only [KidsAre] at h ⊢
  obtain ⟨c, d, h1, h2, h3⟩ := h
  exact ⟨c, d, h1, TreeIs.live h2, KidsAre.live h3⟩
end
abbrev VLive (W : World) (v : V) (x : Value) : Prop := VRel (rA W) W (fun _ => none) v x
theorem GP {W : World} {t : Tree} {c0 c1 c2 c3 : Value} (h : TreeIs Any W t [c0, c1, c2, c3]) : VLive W (pF t) (.agg #[c0, c1, c2, c3]) := by
 simp only [VLive, VRel]
 exact ⟨_, rfl, TreeIs.vrel h.live⟩
theorem GQ {fid : FuncId} {us : List V} {b : Bool} (h : ov Tryz.prog fid us (.bool b)) {W : World} {xs : List Value} (hx : LRel (rA W) W (fun _ => none) us xs) : Calls Tryz.prog fid xs.toArray W fun e W' => e = .returned (.bool b) ∧ Ext W W' := by
 have h0 := CQ W
 have hr' : HRel (rA W) W (fun _ => none) (⟨0, []⟩ : Hp).get := ⟨h0.ob, fun i b hb => by rw [nD] at hb; exact hb.elim, fun i j b hb _ => by rw [nD] at hb; exact hb.elim, fun _ h => h⟩
 refine (h.2.2 _ W _ xs hr' hx).mono ?_
 rintro e W' ⟨x, S', ρ', v, H', rfl, rfl, h1, h2, h3⟩
 simp only [VRel] at h3
 subst h3
 have hno : ∀ b, ¬ ∃ id, own (fun _ => none) id ((⟨0, []⟩ : Hp).get id) b := fun b ⟨id, hb⟩ => by rw [nD] at hb; exact hb
 exact ⟨rfl, Chg.ext ⟨h2.chg.os, h2.chg.tape, h2.chg.output, h2.chg.size, fun b hb _ => h2.chg.block b hb (hno b)⟩⟩
theorem lr1 {W : World} {u : V} {x : Value} (h : VLive W u x) : LRel (rA W) W (fun _ => none) [u] [x] := ⟨x, [], rfl, h, rfl⟩
def GL : List (List UInt8) → List (List UInt8) → Prop
 | [], [] => True
 | a :: r, b :: s => (a = b ∨ a = [32]) ∧ GL r s
 | _, _ => False
theorem yD (last lead x : List UInt8) : ah last lead x = lead ∨ ah last lead x = [32] := by
 unfold ah
 split
 ·exact .inr rfl
 ·exact .inl rfl
theorem GL.len : ∀ {a b : List (List UInt8)}, GL a b → a.length = b.length
 | [], [], _ => rfl
 | a :: r, b :: s, h => congrArg (· + 1) (GL.len h.2)
theorem GL.trivs {k : Int} : ∀ {a b : List (List UInt8)} {i : Nat}, GL a b → di k b i = true → di k a i = true
 | [], [], i, _, h => rfl
 | a :: r, b :: s, i, h, hb => by
  simp only [di, Bool.and_eq_true] at hb ⊢
  refine ⟨?_, GL.trivs h.2 hb.2⟩
  rcases h.1 with rfl | rfl
  ·exact hb.1
  ·cases (k == 1 && (i : Int) == 2) <;> decide
theorem GL.s {ls r : List (List UInt8)} {i : Nat} {a : List UInt8} (hi : i < ls.length) (ha : a = ls.getD i [] ∨ a = [32]) (h : GL r (ls.drop (i + 1))) : GL (a :: r) (ls.drop i) := by
 have e : ls.drop i = ls.getD i [] :: ls.drop (i + 1) := by rw [List.drop_eq_getElem_cons hi, List.getD_eq_getElem?_getD, List.getElem?_eq_getElem hi]; rfl
 rw [e]; exact ⟨ha, h⟩
theorem GL.n {ls : List (List UInt8)} {i : Nat} (h : ls.length ≤ i) : GL [] (ls.drop i) := by rw [List.drop_of_length_le h]; trivial
theorem GL.row (ls : List (List UInt8)) (c : Nat) : ∀ (gs : List (List Pce)) (i : Nat) (last : List UInt8), 0 < i → ls.length = c + i - 1 + gs.length → GL (ca ls c gs i last) (ls.drop (c + i - 1))
 | [], i, last, hi, h => GL.n (by simp at h; omega)
 | g :: s, i, last, hi, h => by
  simp only [List.length_cons] at h
  simp only [ca, if_pos hi, List.cons_append, List.nil_append]
  have := GL.row ls c s (i + 1) (ae [44] g) (by omega) (by omega)
  exact GL.s (by omega) (yD _ _ _) (by rw [show c + i - 1 + 1 = c + (i + 1) - 1 by omega]; exact this)
theorem GL.row0 {ls : List (List UInt8)} {c : Nat} : ∀ {gs : List (List Pce)} {last : List UInt8}, ls.length = c + (gs.length - 1) → GL (ca ls c gs 0 last) (ls.drop c)
 | [], last, h => GL.n (by simp at h; omega)
 | g :: s, last, h => by
  simp only [List.length_cons, Nat.add_sub_cancel] at h
  exact GL.row ls c s 1 (ae last g) (by decide) (by omega)
theorem xw {t : Tree} (hs : shapeK t = true) (hl : (t.leads.length : Int) = pd t.kind t.kids.length) (last : List UInt8) : GL (spT t last).leads t.leads := by
 have hn := bu hs
 rw [jF] at hl
 rw [gf]
 have pl := jD t.kids
 generalize t.kind = k at *
 generalize t.leads = ls at *
 show GL (spN k t.text ls (spTs t.kids) (pcTs t.kids) last).leads (ls.drop 0)
 have G := yD
 by_cases h1 : k = 1
 ·subst h1
  have : ls.length = 3 := by simp only [aV] at hl; simp at hl; omega
  exact .s (by omega) (G _ _ _) (.s (by omega) (G _ _ _) (.s (by omega) (.inl rfl) (.n (by omega))))
 by_cases h2 : k = 2
 ·subst h2
  have h3 := hn.1 rfl
  have : ls.length = 6 + (((pcTs t.kids).take ((pcTs t.kids).length - 2)).length - 1) := by
   rw [List.length_take, pl]
   simp only [aV, f0] at hl; simp at hl
   split at hl <;> first | omega | (split at hl <;> omega)
  exact .s (by omega) (G _ _ _) (.s (by omega) (G _ _ _) (.s (by omega) (G _ _ _) (.s (by omega) (G _ _ _) (.s (by omega) (G _ _ _) (.s (by omega) (G _ _ _) (.row0 this))))))
 by_cases h3 : k = 3
 ·subst h3
  have : ls.length = 3 := by have := hn.2.2.1 (by omega); rw [this] at hl; simp [aV, f0] at hl; omega
  exact .s (by omega) (G _ _ _) (.s (by omega) (G _ _ _) (.s (by omega) (G _ _ _) (.n (by omega))))
 by_cases h4 : k = 4
 ·subst h4
  have : ls.length = 2 := by have := hn.2.2.1 (by omega); rw [this] at hl; simp [aV, f0] at hl; omega
  exact .s (by omega) (G _ _ _) (.s (by omega) (G _ _ _) (.n (by omega)))
 by_cases h17 : k = 17
 ·subst h17
  have : ls.length = 0 := by have := hn.2.2.1 (by omega); rw [this] at hl; simp [aV, f0] at hl; simp [hl]
  exact .n (by omega)
 by_cases h8 : k = 8
 ·subst h8
  have : ls.length = 2 := by have := hn.2.2.1 (by omega); rw [this] at hl; simp [aV, f0] at hl; omega
  exact .s (by omega) (G _ _ _) (.s (by omega) (G _ _ _) (.n (by omega)))
 by_cases h16 : k = 16
 ·subst h16
  have : ls.length = 3 + ((pcTs t.kids).length - 1) := by
   rw [pl]
   simp only [aV, f0] at hl; simp at hl
   split at hl <;> first | omega | (split at hl <;> omega)
  exact .s (by omega) (G _ _ _) (.s (by omega) (G _ _ _) (.s (by omega) (G _ _ _) (.row0 this)))
 by_cases h18 : k = 18
 ·subst h18
  have h3 := hn.2.1 rfl
  have : ls.length = 2 + ((pcTs t.kids).length - 1) := by
   rw [pl]
   simp only [aV, f0] at hl; simp at hl
   split at hl <;> first | omega | (split at hl <;> omega)
  exact .s (by omega) (G _ _ _) (.s (by omega) (G _ _ _) (.row0 this))
 by_cases h19 : k = 19
 ·subst h19
  have : ls.length = 3 := by have := hn.2.2.2.1 (by omega); rw [this] at hl; simp [aV, f0] at hl; omega
  exact .s (by omega) (G _ _ _) (.s (by omega) (G _ _ _) (.s (by omega) (G _ _ _) (.n (by omega))))
 by_cases h20 : k = 20
 ·subst h20
  have : ls.length = 4 := by have := hn.2.2.2.2 (by omega); rw [this] at hl; simp [aV, f0] at hl; omega
  exact .s (by omega) (G _ _ _) (.s (by omega) (G _ _ _) (.s (by omega) (G _ _ _) (.s (by omega) (G _ _ _) (.n (by omega)))))
 by_cases h21 : k = 21
 ·subst h21
  have : ls.length = 1 := by have := hn.2.2.2.2 (by omega); rw [this] at hl; simp [aV, f0] at hl; omega
  exact .s (by omega) (G _ _ _) (.n (by omega))
 by_cases h22 : k = 22
 ·subst h22
  have : ls.length = 2 := by have := hn.2.2.1 (by omega); rw [this] at hl; simp [aV, f0] at hl; omega
  exact .s (by omega) (G _ _ _) (.s (by omega) (G _ _ _) (.n (by omega)))
 have hsp : spN k t.text ls (spTs t.kids) (pcTs t.kids) last = .node k t.text [ah last (ls.getD 0 []) (fX k t.text)] [] := by
  simp only [spN, h1, h2, h3, h4, h8, h16, h17, h18, h19, h20, h21, h22, if_false]
 rw [hsp]
 have : ls.length = 1 := by
  simp only [aV, f0, h1, h2, h3, h4, h8, h16, h17, h18, h19, h20, h21, h22, if_false] at hl
  split at hl
  ·split at hl <;> first | omega | (split at hl <;> omega)
  ·omega
 exact .s (by omega) (G _ _ _) (.n (by omega))
theorem tX : ∀ (ks : List Tree) (ls : List (List UInt8)), ls.length = ks.length → (∀ (j : Nat) (u : Tree), ks[j]? = some u → ∀ l, leadedT (spT u l) = true) → leadedsT (List.zipWith spT ks ls) = true
 | [], [], h, hu => rfl
 | u :: r, l :: ls, h, hu => by
  have := tX r ls (by simpa using h) fun j v hv => hu (j + 1) v (by simpa using hv)
  simp only [List.zipWith_cons_cons, leadedsT, this, hu 0 u rfl l, Bool.and_self]
theorem Bi : ∀ t : Tree, shapeK t = true → leadedT t = true → ∀ last, leadedT (spT t last) = true := bV fun t ih hs hl last => by
 obtain ⟨g1, g2, g3⟩ := eK hl
 obtain ⟨ls, h1, h2⟩ := sF hs last
 have hz : (List.zipWith spT t.kids ls).length = t.kids.length := by rw [List.length_zipWith, h1]; exact Nat.min_self _
 have hg := xw hs g1 last
 have hk := (oJ t last).1
 have hw := tX t.kids ls h1 fun j u hu l => ih j u hu (aL hs hu).1 (dZ g3 hu) l
 rw [← h2] at hz hw
 revert hk hg hz hw
 cases spT t last with
 | node k x l ks =>
  intro hz hg hk hw
  change k = t.kind at hk
  change GL l t.leads at hg
  change ks.length = t.kids.length at hz
  change leadedsT ks = true at hw
  rw [leadedT, hw, hk, hz, hg.trivs g2, hg.len, g1]
  simp
theorem GL.bulk : ∀ {a b : List (List UInt8)}, GL a b → lsum a ≤ 2 * lsum b
 | [], [], _ => Nat.zero_le _
 | a :: r, b :: s, h => by
  have := GL.bulk h.2
  simp only [lsum]
  rcases h.1 with rfl | rfl
  ·omega
  ·simp only [List.length_cons, List.length_nil]; omega
theorem wL : ∀ (ks : List Tree) (ls : List (List UInt8)), ls.length = ks.length → (∀ (j : Nat) (u : Tree), ks[j]? = some u → ∀ l, tbulk (spT u l) ≤ 2 * tbulk u) → kbulk (List.zipWith spT ks ls) ≤ 2 * kbulk ks
 | [], [], h, hu => Nat.zero_le _
 | u :: r, l :: ls, h, hu => by
  have := wL r ls (by simpa using h) fun j v hv => hu (j + 1) v (by simpa using hv)
  have h2 := hu 0 u rfl l
  simp only [List.zipWith_cons_cons, kbulk]
  omega
theorem DB : ∀ t : Tree, shapeK t = true → leadedT t = true → ∀ last, tbulk (spT t last) ≤ 2 * tbulk t := bV fun t ih hs hl last => by
 obtain ⟨g1, g2, g3⟩ := eK hl
 obtain ⟨ls, h1, h2⟩ := sF hs last
 have hg := (xw hs g1 last).bulk
 have hk := (oJ t last).2
 have hw := wL t.kids ls h1 fun j u hu l => ih j u hu (aL hs hu).1 (dZ g3 hu) l
 rw [bL (spT t last), h2, hk, bL t]
 omega
theorem DP {t : Tree} (hk : t.kind = 1) (hs : shapeK t = true) : ej (spT t []) = ej t := by
 have k1 := (oJ t []).1
 have s1 := xa t hs []
 rw [pK (k1.trans hk) (s1.trans hs), pK hk hs]
 have hm := uL hk
 have hf := xf t.kids t.text fun u hu last => by
  obtain ⟨i, hi, e⟩ := List.mem_iff_getElem.1 hu
  have hu' : t.kids[i]? = some u := by rw [← e]; exact List.getElem?_eq_getElem hi
  exact FQ u (mt (aL hs hu').2) (aL hs hu').1 last
 have hp : pcM (spT t []) = dl [] (pcM t) := by
  rw [hm]
  show _ :: _ :: (pcTs (fB (spTs t.kids) (pcTs t.kids) t.text)).flatten = _ :: _ :: dl t.text (pcTs t.kids).flatten
  rw [hf]; rfl
 rw [hp, yL]
 rw [hm]; rfl
def kz (p0 : Tree) (r0 : Bool) : Prop := qS 34 [.agg (ai p0)] (.bool r0)
def nF (p0 : Tree) (r0 : Bool) : Prop := qS 15 [.agg (ai p0)] (.bool r0)
def jk (p0 : List Int) (r0 : Bool) : Prop := qS 4 [.row 1 (List.map (V.int .i64) p0)] (.bool r0)
def cY (m : Nat) (p0 : Tree) (a : Nat) (r0 : Bool) : Prop := ∀ (K : Ctx) (j1 : Nat), av K [] → m ≤ j1 → qLG K Tryz.f34 (fun u _ => u = .bool r0) (xL (cB (ac Tryz.f34))) [.loop (xL (cB (ac Tryz.f34))) j1, .blk 1, .seq (xJ (ac Tryz.f34))] 38 (mkF 38 0 [(28, .row 4 (kidsV p0.kids)), (29, .int .i64 (p0.kids.length : Int)), (30, .int .i64 (a : Int))]) ⟨0, []⟩
theorem pA (m : Nat) (p0 : Tree) (r0 : Bool) (h : ((p0.kind = 1) → ((40 < (p0.kids.length : Int)) → false = r0) ∧ ((¬ 40 < (p0.kids.length : Int)) → cY m p0 0 r0)) ∧ ((p0.kind ≠ 1) → ((p0.kind = 2) → ((10 < (p0.kids.length : Int)) → false = r0) ∧ ((¬ 10 < (p0.kids.length : Int)) → cY m p0 0 r0)) ∧ ((p0.kind ≠ 2) → ((p0.kind = 16) → ((8 < (p0.kids.length : Int)) → false = r0) ∧ ((¬ 8 < (p0.kids.length : Int)) → cY m p0 0 r0)) ∧ ((p0.kind ≠ 16) → ((p0.kind = 18) → ((16 < (p0.kids.length : Int)) → false = r0) ∧ ((¬ 16 < (p0.kids.length : Int)) → cY m p0 0 r0)) ∧ ((p0.kind ≠ 18) → cY m p0 0 r0))))) : kz p0 r0 := by
 refine ⟨rfl, rfl, ?_⟩
 refine am 38 [] Tryz.func34 rfl rfl rfl (aM rfl) fun K hK => ?_
 refine gR 3 rfl <| gFP 0 rfl rfl rfl rfl <| gR 8 rfl <| gV 8 (.int .i64 (p0.kids.length : Int)) rfl (bx (aG _)) rfl <| gLB 7 rfl (aG _) fun hl5 => gR 17 rfl <| gB 11 rfl rfl rfl ?_ ?_ <;> intro hd
 refine gT 12 rfl hd rfl ?_
 replace hd := (eq_of_beq hd)
 replace h := h.1 hd
 refine gR 7 rfl <| gB 14 rfl rfl rfl ?_ ?_ <;> intro hd
 replace hd := (of_decide_eq_true hd)
 replace h := h.1 hd
 refine gR 9 rfl ?_
 subst h
 exact go_end ab (rs := [.tmp 2]) rfl rfl rfl
 replace hd := (of_decide_eq_false hd)
 replace h := h.2 hd
 exact gR 10 rfl <| gV 29 (.int .i64 (p0.kids.length : Int)) rfl (bx (aG _)) rfl <| gR 4 rfl <| go_loop m <| gJ (h K _ hK (by omega)) [] [] rfl hK pq3 trivial rfl
 refine gF 12 rfl hd rfl ?_
 replace hd := (ne_of_beq_false hd)
 replace h := h.2 hd
 refine gR 7 rfl <| gB 15 rfl rfl rfl ?_ ?_ <;> intro hd
 refine gT 16 rfl hd rfl ?_
 replace hd := (eq_of_beq hd)
 replace h := h.1 hd
 refine gR 7 rfl <| gB 18 rfl rfl rfl ?_ ?_ <;> intro hd
 replace hd := (of_decide_eq_true hd)
 replace h := h.1 hd
 refine gR 9 rfl ?_
 subst h
 exact go_end ab (rs := [.tmp 2]) rfl rfl rfl
 replace hd := (of_decide_eq_false hd)
 replace h := h.2 hd
 exact gR 10 rfl <| gV 29 (.int .i64 (p0.kids.length : Int)) rfl (bx (aG _)) rfl <| gR 4 rfl <| go_loop m <| gJ (h K _ hK (by omega)) [] [] rfl hK pq3 trivial rfl
 refine gF 16 rfl hd rfl ?_
 replace hd := (ne_of_beq_false hd)
 replace h := h.2 hd
 refine gR 7 rfl <| gB 19 rfl rfl rfl ?_ ?_ <;> intro hd
 refine gT 20 rfl hd rfl ?_
 replace hd := (eq_of_beq hd)
 replace h := h.1 hd
 refine gR 7 rfl <| gB 22 rfl rfl rfl ?_ ?_ <;> intro hd
 replace hd := (of_decide_eq_true hd)
 replace h := h.1 hd
 refine gR 9 rfl ?_
 subst h
 exact go_end ab (rs := [.tmp 2]) rfl rfl rfl
 replace hd := (of_decide_eq_false hd)
 replace h := h.2 hd
 exact gR 10 rfl <| gV 29 (.int .i64 (p0.kids.length : Int)) rfl (bx (aG _)) rfl <| gR 4 rfl <| go_loop m <| gJ (h K _ hK (by omega)) [] [] rfl hK pq3 trivial rfl
 refine gF 20 rfl hd rfl ?_
 replace hd := (ne_of_beq_false hd)
 replace h := h.2 hd
 refine gR 7 rfl <| gB 23 rfl rfl rfl ?_ ?_ <;> intro hd
 refine gT 24 rfl hd rfl ?_
 replace hd := (eq_of_beq hd)
 replace h := h.1 hd
 refine gR 7 rfl <| gB 26 rfl rfl rfl ?_ ?_ <;> intro hd
 replace hd := (of_decide_eq_true hd)
 replace h := h.1 hd
 refine gR 9 rfl ?_
 subst h
 exact go_end ab (rs := [.tmp 2]) rfl rfl rfl
 replace hd := (of_decide_eq_false hd)
 replace h := h.2 hd
 exact gR 10 rfl <| gV 29 (.int .i64 (p0.kids.length : Int)) rfl (bx (aG _)) rfl <| gR 4 rfl <| go_loop m <| gJ (h K _ hK (by omega)) [] [] rfl hK pq3 trivial rfl
 refine gF 24 rfl hd rfl ?_
 replace hd := (ne_of_beq_false hd)
 replace h := h.2 hd
 exact gR 10 rfl <| gV 29 (.int .i64 (p0.kids.length : Int)) rfl (bx (aG _)) rfl <| gR 4 rfl <| go_loop m <| gJ (h K _ hK (by omega)) [] [] rfl hK pq3 trivial rfl
theorem ml (m : Nat) (p0 : Tree) (a : Nat) (r0 : Bool) (h : ((a < p0.kids.length) → ∃ c, p0.kids[a]? = some c ∧ ∃ b, kz c b ∧ ((b = false) → false = r0) ∧ ((b = true) → a + 1 ≤ 9223372036854775807 ∧ cY m p0 (a + 1) r0)) ∧ ((¬ a < p0.kids.length) → true = r0)) : cY (m + 1) p0 a r0 := by
 intro K j1 hK hj1
 obtain ⟨j1, rfl⟩ : ∃ j, j1 = j + 1 := ⟨j1 - 1, by omega⟩
 refine gR 6 rfl <| gB 31 rfl rfl rfl ?_ ?_ <;> intro hd
 replace hd := (fg hd)
 replace h := h.1 hd
 refine gR 7 rfl ?_
 obtain ⟨c, hxt1_1, h⟩ := h
 refine gY (az (aj hxt1_1) ab rfl rfl rfl rfl) rfl rfl <| gR 8 rfl ?_
 obtain ⟨b, hs6, h⟩ := h
 refine gC0 hs6 (by kernel_rfl) rfl rfl .rfl rfl <| gR 3 rfl <| gB 36 rfl rfl rfl ?_ ?_ <;> intro hd
 replace hd := (dr hd)
 replace h := h.1 hd
 refine gR 9 rfl <| go_xloopR <| gR 2 rfl ?_
 subst h
 exact go_end ab (rs := [.tmp 2]) rfl rfl rfl
 replace hd := (dn hd)
 replace h := h.2 hd
 refine gR 5 rfl ?_
 obtain ⟨hb, h⟩ := h
 exact gR 1 rfl <| gV 37 (.int .i64 ((a + 1 : Nat) : Int)) rfl (ax (by omega) (by omega)) rfl <| gR 2 rfl <| go_xloop <| gJ (h K _ hK (by omega)) [] [] rfl hK pq3 trivial rfl
 replace hd := (fc hd)
 replace h := h.2 hd
 refine gR 3 rfl <| go_xloopE <| gR 8 rfl ?_
 subst h
 exact go_end ab (rs := [.tmp 2]) rfl rfl rfl
theorem uC (m : Nat) (p0 : Tree) (r0 : Bool) (h : ∃ a, hI p0 a ∧ ((a = false) → false = r0) ∧ ((a = true) → ∃ b, hW p0 b ∧ ((b = false) → false = r0) ∧ ((b = true) → ∃ c, kz p0 c ∧ ((c = false) → false = r0) ∧ ((c = true) → ∃ d, fY p0 d ∧ ((40 < d) → false = r0) ∧ ((¬ 40 < d) → ∃ e, mb p0 e ∧ decide ((e.length : Int) ≤ 4096) = r0))))) : nF p0 r0 := by
 refine ⟨rfl, rfl, ?_⟩
 refine am 25 [] Tryz.func15 rfl rfl rfl (aM rfl) fun K hK => ?_
 refine gR 3 rfl <| gFP 0 rfl rfl rfl rfl <| gR 7 rfl ?_
 obtain ⟨a, hs6, h⟩ := h
 refine gC0 hs6 (by kernel_rfl) rfl rfl .rfl rfl <| gR 2 rfl <| qBhZ 6 5 rfl rfl rfl rfl h dr dn (fun h => ?_) fun h => ?_
 refine gR 24 rfl ?_
 subst h
 exact go_end ab (rs := [.tmp 2]) rfl rfl rfl
 refine gR 1 rfl ?_
 obtain ⟨b, hs7, h⟩ := h
 refine gC0 hs7 (by kernel_rfl) rfl rfl .rfl rfl <| gR 3 rfl <| qBhZ 11 10 rfl rfl rfl rfl h dr dn (fun h => ?_) fun h => ?_
 refine gR 19 rfl ?_
 subst h
 exact go_end ab (rs := [.tmp 2]) rfl rfl rfl
 refine gR 1 rfl ?_
 obtain ⟨c, hs8, h⟩ := h
 refine gC0 hs8 (by kernel_rfl) rfl rfl .rfl rfl <| gR 3 rfl <| qBhZ 16 15 rfl rfl rfl rfl h dr dn (fun h => ?_) fun h => ?_
 refine gR 14 rfl ?_
 subst h
 exact go_end ab (rs := [.tmp 2]) rfl rfl rfl
 refine gR 1 rfl ?_
 obtain ⟨d, hs9, h⟩ := h
 refine gC0 hs9 (by kernel_rfl) rfl rfl .rfl rfl <| gR 4 rfl <| qBd 20 rfl rfl rfl h (fun h => ?_) fun h => ?_
 refine gR 8 rfl ?_
 subst h
 exact go_end ab (rs := [.tmp 2]) rfl rfl rfl
 refine gR 6 rfl ?_
 obtain ⟨e, hs10, h⟩ := h
 refine gC0 hs10 (by kernel_rfl) rfl rfl .rfl rfl <| gR 6 rfl ?_
 subst h
 exact go_end ab (rs := [.tmp 2]) rfl rfl rfl
def cv (m : Nat) (a : List Tree) (b : Nat) (r0 : Bool) : Prop := ∀ (K : Ctx) (j1 : Nat), av K [] → m ≤ j1 → qLG K Tryz.f4 (fun u _ => u = .bool r0) (xL (cB (ac Tryz.f4))) [.loop (xL (cB (ac Tryz.f4))) j1, .blk 0, .seq (xJ (ac Tryz.f4))] 61 (mkF 61 0 [(3, .row 4 (kidsV a)), (4, .int .i64 (b : Int))]) ⟨0, []⟩
theorem iD (m : Nat) (p0 : List Int) (r0 : Bool) (h : ∃ a, jY p0 a ∧ ((a = false) → ∃ b, cw b ∧ b = r0) ∧ ((a = true) → ∃ c, jv p0 c ∧ cv m c 0 r0)) : jk p0 r0 := by
 refine ⟨rfl, rfl, ?_⟩
 refine am 61 [] Tryz.func4 rfl rfl rfl (aM rfl) fun K hK => ?_
 refine gR 9 rfl ?_
 obtain ⟨a, hs25, h⟩ := h
 refine gC0 hs25 (by kernel_rfl) rfl rfl .rfl rfl <| gR 3 rfl <| gB 10 rfl rfl rfl ?_ ?_ <;> intro hd
 replace hd := (dr hd)
 replace h := h.1 hd
 refine gR 3 rfl ?_
 obtain ⟨b, hs26, h⟩ := h
 refine gC0 hs26 (by kernel_rfl) rfl rfl .rfl rfl <| gR 5 rfl ?_
 subst h
 exact go_end ab (rs := [.tmp 2]) rfl rfl rfl
 replace hd := (dn hd)
 replace h := h.2 hd
 refine gR 6 rfl ?_
 obtain ⟨c, hs27, h⟩ := h
 exact gC0 hs27 (by kernel_rfl) rfl rfl .rfl rfl <| gR 10 rfl <| go_loop m <| gJ (h K _ hK (by omega)) [] [] rfl hK pq2 trivial rfl
theorem hV (m : Nat) (a : List Tree) (b : Nat) (r0 : Bool) (h : ((b < a.length) → ∃ n, a[b]? = some n ∧ ∃ o, dL n o ∧ ∃ i s k, gb o i s k ∧ ∃ p, a[b]? = some p ∧ ∃ l, nF p l ∧ ((l = false) → false = r0) ∧ ((l = true) → ((k ≠ 0) → false = r0) ∧ ((k = 0) → ∃ q, a[b]? = some q ∧ ∃ r, fV q r ∧ ∃ c, fa i r c ∧ ((c = false) → false = r0) ∧ ((c = true) → ∃ f, a[b]? = some f ∧ ∃ d, dL i d ∧ ∃ e, dL f e ∧ ((d ≠ e) → false = r0) ∧ ((d = e) → cv m a (b + 1) r0))))) ∧ ((¬ b < a.length) → ∃ g, cw g ∧ g = r0)) : cv (m + 1) a b r0 := by
 intro K j1 hK hj1
 obtain ⟨j1, rfl⟩ : ∃ j, j1 = j + 1 := ⟨j1 - 1, by omega⟩
 refine gR 6 rfl <| gV 16 (.int .i64 (a.length : Int)) rfl (bx (aG _)) rfl <| gLB 15 rfl (aG _) fun hl28 => gR 3 rfl <| gB 17 rfl rfl rfl ?_ ?_ <;> intro hd
 replace hd := (fg hd)
 replace h := h.1 hd
 refine gR 9 rfl ?_
 obtain ⟨n, hxt1_1, h⟩ := h
 refine gY (az (aj hxt1_1) ab rfl rfl rfl rfl) rfl rfl <| gR 1 rfl ?_
 obtain ⟨o, hs29, h⟩ := h
 refine gC0 hs29 (by kernel_rfl) rfl rfl .rfl rfl ?_
 obtain ⟨i, s, k, hs30, h⟩ := h
 refine gC0 hs30 (by kernel_rfl) rfl rfl .rfl rfl <| gR 11 rfl <| gDs [0] 30 30 rfl (by kernel_rfl) (by kernel_rfl) <| gDr [(0, 2), (1, 0)] (by kernel_rfl) rfl rfl ?_
 obtain ⟨p, hxt1_6, h⟩ := h
 refine bA 2 rfl (by kernel_rfl) (az (aj hxt1_6) ab rfl rfl rfl rfl) rfl rfl ?_
 refine gDr [(3, 0)] (by kernel_rfl) rfl rfl ?_
 obtain ⟨l, hs31, h⟩ := h
 refine bW 4 hs31 (by kernel_rfl) rfl (by kernel_rfl) rfl rfl .rfl rfl rfl ?_
 refine gDr [(5, 0), (6, 0)] (by kernel_rfl) rfl rfl <| gB 36 rfl rfl rfl ?_ ?_ <;> intro hd
 refine gT 35 rfl hd rfl ?_
 replace hd := (dr hd)
 replace h := h.1 hd
 refine gDr [(7, 0), (8, 0), (9, 0), (10, 0), (11, 2), (12, 2), (13, 0), (14, 0), (15, 0), (16, 0), (17, 0), (18, 0), (19, 0), (20, 0), (21, 2), (23, 2), (24, 2), (25, 2), (26, 2), (22, 0), (27, 0), (28, 0), (29, 0)] (by kernel_rfl) rfl rfl <| gDe (by kernel_rfl) <| gR 2 rfl <| go_sub (F' := (mkF 61 0 [])) (H' := ⟨0, []⟩) [] [] rfl hK trivial trivial rfl <| gR 8 rfl <| go_xloopR <| gR 2 rfl ?_
 subst h
 exact go_end ab (rs := [.tmp 2]) rfl rfl rfl
 refine gF 35 rfl hd rfl ?_
 replace hd := (dn hd)
 replace h := h.2 hd
 refine gDr [(7, 0), (8, 0), (9, 0), (10, 0)] (by kernel_rfl) rfl rfl <| gB 40 rfl rfl rfl ?_ ?_ <;> intro hd
 refine gT 39 rfl hd rfl ?_
 replace hd := (fh hd)
 replace h := h.1 hd
 refine gDr [(11, 2), (12, 2), (13, 0), (14, 0), (15, 0), (16, 0), (17, 0), (18, 0), (19, 0), (20, 0), (21, 2), (23, 2), (24, 2), (25, 2), (26, 2), (22, 0), (27, 0), (28, 0), (29, 0)] (by kernel_rfl) rfl rfl <| gDe (by kernel_rfl) <| gR 2 rfl <| go_sub (F' := (mkF 61 0 [])) (H' := ⟨0, []⟩) [] [] rfl hK trivial trivial rfl <| gR 8 rfl <| go_xloopR <| gR 2 rfl ?_
 subst h
 exact go_end ab (rs := [.tmp 2]) rfl rfl rfl
 refine gF 39 rfl hd rfl ?_
 replace hd := (dz hd)
 replace h := h.2 hd
 refine gDr [(11, 3), (12, 2), (13, 0)] (by kernel_rfl) rfl rfl ?_
 obtain ⟨q, hxt1_8, h⟩ := h
 refine bA 14 rfl (by kernel_rfl) (az (aj hxt1_8) ab rfl rfl rfl rfl) rfl rfl ?_
 refine gDr [(15, 0)] (by kernel_rfl) rfl rfl ?_
 obtain ⟨r, hs32, h⟩ := h
 refine bW 16 hs32 (by kernel_rfl) rfl (by kernel_rfl) rfl rfl .rfl rfl rfl ?_
 obtain ⟨c, hs33, h⟩ := h
 refine bW 17 hs33 (by kernel_rfl) rfl (by kernel_rfl) rfl rfl .rfl rfl rfl ?_
 refine gDr [(18, 0), (19, 0), (20, 0)] (by kernel_rfl) rfl rfl <| gB 50 rfl rfl rfl ?_ ?_ <;> intro hd
 refine gT 49 rfl hd rfl ?_
 replace hd := (dr hd)
 replace h := h.1 hd
 refine gDr [(21, 2), (23, 2), (24, 2), (25, 2), (26, 2), (22, 0), (27, 0), (28, 0), (29, 0)] (by kernel_rfl) rfl rfl <| gDe (by kernel_rfl) <| gR 2 rfl <| go_sub (F' := (mkF 61 0 [])) (H' := ⟨0, []⟩) [] [] rfl hK trivial trivial rfl <| gR 8 rfl <| go_xloopR <| gR 2 rfl ?_
 subst h
 exact go_end ab (rs := [.tmp 2]) rfl rfl rfl
 refine gF 49 rfl hd rfl ?_
 replace hd := (dn hd)
 replace h := h.2 hd
 refine gDr [(21, 3), (23, 2), (24, 2)] (by kernel_rfl) rfl rfl ?_
 obtain ⟨f, hxt1_11, h⟩ := h
 refine gYd 25 rfl (by kernel_rfl) (az (aj hxt1_11) ab rfl rfl rfl rfl) rfl rfl <| gDr [(26, 2)] (by kernel_rfl) rfl rfl ?_
 obtain ⟨d, hs34, h⟩ := h
 refine bW 22 hs34 (by kernel_rfl) rfl (by kernel_rfl) rfl rfl .rfl rfl rfl ?_
 obtain ⟨e, hs35, h⟩ := h
 refine bW 27 hs35 (by kernel_rfl) rfl (by kernel_rfl) rfl rfl .rfl rfl rfl ?_
 refine gDr [(28, 0), (29, 0)] (by kernel_rfl) rfl rfl <| gDe (by kernel_rfl) <| gR 1 rfl <| gB 59 rfl rfl rfl ?_ ?_ <;> intro hd
 replace hd := (fh hd)
 replace h := h.1 hd
 refine gR 1 rfl <| go_sub (F' := (mkF 61 0 [])) (H' := ⟨0, []⟩) [] [] rfl hK trivial trivial rfl <| gR 8 rfl <| go_xloopR <| gR 2 rfl ?_
 subst h
 exact go_end ab (rs := [.tmp 2]) rfl rfl rfl
 replace hd := (dz hd)
 replace h := h.2 hd
 exact gR 7 rfl <| gV 19 (.int .i64 ((b + 1 : Nat) : Int)) rfl (ax (by have := hl28; omega) (by omega)) rfl <| gR 2 rfl <| go_xloop <| gJ (h K _ hK (by omega)) [] [] rfl hK pq2 trivial rfl
 replace hd := (fc hd)
 replace h := h.2 hd
 refine gR 3 rfl <| go_xloopE <| gR 4 rfl ?_
 obtain ⟨g, hs36, h⟩ := h
 refine gC0 hs36 (by kernel_rfl) rfl rfl .rfl rfl <| gR 4 rfl ?_
 subst h
 exact go_end ab (rs := [.tmp 2]) rfl rfl rfl
theorem FW {L : List Int} {a : Int} (hd : Dc L a) : Gt L (fun t a' => me L a t L a') 500 := by
 obtain ⟨r, a1, h1, h2, h3⟩ := eZ hd (n := 5) (by omega) (by omega)
 by_cases hr : r = 0
 ·obtain ⟨s, a2, g1, g2, g3⟩ := iN h3 [[84], [85]] (by decide) (by decide)
  have hs := gP g2 (by decide)
  obtain ⟨t, a3, q1, q2, q3⟩ := zW 2 g3 (by omega)
  exact ⟨_, a3, oy 0 _ _ _ _ _ ⟨_, _, _, h1, fun _ => ⟨_, _, _, g1, _, _, _, q1, rfl, rfl, rfl⟩, fun h => absurd hr h⟩, q2, by rw [tb1]; omega⟩
 ·obtain ⟨s, a2, g1, g2, g3⟩ := iN h3 [[102], [103], [104]] (by decide) (by decide)
  have hs := gP g2 (by decide)
  obtain ⟨n, a3, g4, g5, g6⟩ := eZ g3 (n := 4) (by omega) (by omega)
  have loop : ∀ (k : Nat) (a : Int) (l : List Tree), Dc L a → l.length + k ≤ 100 → Gt L (fun t a' => iJ (k + 1) s L a l (k : Int) t L a') (s.length + 1 + kbulk l + k * 13 + 429) := fun k => by
   induction k with
   | zero =>
    intro a l hd hl
    obtain ⟨t1, b1, q1, q2, q3⟩ := zW 1 hd (by omega)
    obtain ⟨t2, b2, q4, q5, q6⟩ := Fs 3 q2 (by omega)
    have : eB 3 = 422 := rfl
    refine ⟨_, b2, ol 0 _ _ _ _ _ _ _ _ ⟨fun h => by omega, fun _ => ⟨_, _, _, q1, _, _, _, q4, by simp; omega, rfl, rfl, rfl⟩⟩, q5, ?_⟩
    rw [tbK, fd]; simp only [kbulk]; omega
   | succ k ihk =>
    intro a l hd hl
    obtain ⟨x, b0, q0, q0', q0''⟩ := iN hd [[120], [121], [122]] (by decide) (by decide)
    have hx := gP q0' (by decide)
    obtain ⟨t, b, q1, q2, q3⟩ := zW 1 q0'' (by omega)
    refine (ihk b (l ++ [.node 4 x [] [t]]) q2 (by simp; omega)).map ?_ fun t' a' h => ol (k + 1) _ _ _ _ _ _ _ _ ⟨fun _ => ⟨_, _, _, q0, _, _, _, q1, by simp; omega, by omega, by rw [show ((k + 1 : Nat) : Int) - 1 = (k : Int) by omega]; exact h⟩, fun h => by omega⟩
    rw [fd]; simp only [kbulk, tb1]; omega
  exact (loop n.toNat a3 [] g6 (by simp; omega)).map (by simp only [kbulk]; omega) fun t a' h => oy (n.toNat + 1) _ _ _ _ _ ⟨_, _, _, h1, fun h => absurd h hr, fun _ => ⟨_, _, _, g1, _, _, _, g4, by rw [show n = ((n.toNat : Nat) : Int) by omega]; exact h⟩⟩
def Sh (l : List (List UInt8)) (n : Nat) : Prop := l.length = n ∧ ∀ x ∈ l, x.length ≤ 2
theorem Sh.sum : ∀ {l : List (List UInt8)} {n : Nat}, Sh l n → lsum l ≤ 3 * n
 | [], n, h => by simp [lsum]
 | x :: r, n, h => by
  obtain ⟨h1, h2⟩ := h
  have := h2 x (by simp)
  have := Sh.sum (l := r) (n := n - 1) ⟨by simp at h1; omega, fun y hy => h2 y (by simp [hy])⟩
  simp only [lsum]; simp at h1; omega
theorem Sh.set {l : List (List UInt8)} {n i : Nat} {x : List UInt8} (h : Sh l n) (hx : x.length ≤ 2) : Sh (l.set i x) n := ⟨by simpa using h.1, fun y hy => by
 rcases List.mem_or_eq_of_mem_set hy with h1 | h1
 ·exact h.2 y h1
 ·subst h1; exact hx⟩
theorem Sh.get {l : List (List UInt8)} {n i : Nat} (h : Sh l n) (hi : i < n) : ∃ s, l[i]? = some s := by
 obtain ⟨s, hs, _⟩ | h' := aN l i
 ·exact ⟨s, hs⟩
 ·have := h.1; omega
theorem BP {n : Int} (h0 : 0 ≤ n) (h1 : n ≤ 100000000) : ∃ l, jw n l ∧ Sh l n.toNat := by
 have loop : ∀ k i (l : List (List UInt8)), n.toNat - i ≤ k → i ≤ n.toNat → Sh l i → ∃ r, fw (k + 1) n l i r ∧ Sh r n.toNat := fun k => by
  induction k with
  | zero => intro i l hi hle hl; exact ⟨l, io 0 _ _ _ _ ⟨fun h => by omega, fun _ => rfl⟩, by rw [show n.toNat = i by omega]; exact hl⟩
  | succ k ihk =>
   intro i l hi hle hl
   by_cases h : (i : Int) < n
   ·obtain ⟨r, e, hr⟩ := ihk (i + 1) (l ++ [[32]]) (by omega) (by omega) ⟨by simp [hl.1], fun x hx => by
     rcases List.mem_append.1 hx with h1 | h1
     ·exact hl.2 x h1
     ·simp at h1; subst h1; simp⟩
    exact ⟨r, io (k + 1) _ _ _ _ ⟨fun _ => ⟨by simp [hl.1]; omega, by omega, e⟩, fun h' => absurd h h'⟩, hr⟩
   ·exact ⟨l, io (k + 1) _ _ _ _ ⟨fun h' => absurd h' h, fun _ => rfl⟩, by rw [show n.toNat = i by omega]; exact hl⟩
 obtain ⟨r, e, hr⟩ := loop n.toNat 0 [] (by omega) (by omega) ⟨rfl, fun x hx => by cases hx⟩
 exact ⟨r, qE _ _ _ e, hr⟩
def sC (t : Tree) (i : Int) (first : List UInt8) : List UInt8 := if t.kind = 1 then [10, 10] else if 0 < i then [32] else if t.kind = 8 ∨ t.kind = 22 ∨ t.kind = 16 ∨ t.kind = 18 then [] else if t.kind = 2 then (if (2 : Int) < t.kids.length then [] else [32]) else if t.kind = 17 ∨ t.kind = 21 then first else [32]
theorem Cb (t : Tree) (i : Int) (first : List UInt8) : jz t i first (sC t i first) := by
 refine qo 1 _ _ _ _ ?_
 repeat' first | (refine And.intro (fun _ => ?_) (fun _ => ?_)) | (refine qe 0 _ _ _ _ ?_)
 all_goals simp_all [sC]
 all_goals (intro h; omega)
theorem zx (t : Tree) (i : Int) (first : List UInt8) (hf : first.length ≤ 2) : (sC t i first).length ≤ 2 := by
 unfold sC
 repeat' split
 all_goals first | exact hf | simp
theorem nR {n : Int} (hn : 0 ≤ n) (a b c : Nat) (z : Int) : f0 n a b c z ≤ b + n := by
 unfold f0; repeat' split
 all_goals omega
theorem EO {k n : Int} (hn : 0 ≤ n) : aV k n ≤ 6 + n := by
 have a1 := nR hn 2 6 2 (-1)
 have a2 := nR hn 0 3 0 (-1)
 have a3 := nR hn 1 2 0 (-1)
 have a4 := nR hn 1 3 0 1
 have a5 := nR hn 1 2 0 1
 have a6 := nR hn 1 0 0 1
 have a7 := nR hn 3 3 0 3
 have a8 := nR hn 2 4 0 2
 have a9 := nR hn 2 1 0 2
 have a10 := nR hn 0 1 0 0
 simp only [aV]
 repeat' first | omega | split
theorem AM {t : Tree} (hs : shapeK t = true) : (t.kind = 1 → aV t.kind t.kids.length = 3) ∧ (t.kind = 2 → 6 ≤ aV t.kind t.kids.length) ∧ (t.kind = 4 ∨ t.kind = 8 ∨ t.kind = 22 → aV t.kind t.kids.length = 2) ∧ (t.kind ≠ 17 → 1 ≤ aV t.kind t.kids.length) := by
 have h := mI hs
 refine ⟨fun hk => ?_, fun hk => ?_, fun hk => ?_, fun hk => ?_⟩
 ·rw [hk]; simp only [aV]; simp
 ·rw [hk] at h ⊢; simp only [aV, f0] at h ⊢; simp at h ⊢; repeat' split
  all_goals first | omega | (simp_all; omega)
 ·rcases hk with hk | hk | hk <;> (rw [hk] at h ⊢; simp only [aV, f0] at h ⊢; simp at h ⊢; repeat' split) <;> first | omega | (simp_all; done) | (simp_all; omega)
 ·have key : ∀ k n : Int, 0 ≤ n → k ≠ 17 → 0 ≤ aV k n → 1 ≤ aV k n := fun k n hn hk h => by
   have q : ∀ (a b c : Nat) z, 1 ≤ b → f0 n a b c z = -1 ∨ 1 ≤ f0 n a b c z := fun a b c z hb => by
    unfold f0; repeat' split
    all_goals omega
   have a1 := q 2 6 2 (-1) (by decide)
   have a2 := q 0 3 0 (-1) (by decide)
   have a3 := q 1 2 0 (-1) (by decide)
   have a4 := q 1 3 0 1 (by decide)
   have a5 := q 1 2 0 1 (by decide)
   have a7 := q 3 3 0 3 (by decide)
   have a8 := q 2 4 0 2 (by decide)
   have a9 := q 2 1 0 2 (by decide)
   have a10 := q 0 1 0 0 (by decide)
   revert h
   simp only [aV]
   repeat' first | (intro h; omega) | split
  exact key _ _ (by omega) hk h
section
variable {t : Tree} {N : Nat} {us : List Tree}
theorem Ds : ∀ k i (l : List (List UInt8)), N - i ≤ k → Sh l N → ∃ l', eN (k + 1) t l i us (.node t.kind t.text l' us) ∧ Sh l' N := fun k => by
 induction k with
 | zero => intro i l hi hl; exact ⟨l, gD 0 _ _ _ _ _ ⟨fun h => by have := hl.1; omega, fun _ => rfl⟩, hl⟩
 | succ k ihk =>
  intro i l hi hl
  by_cases h : i < l.length
  ·obtain ⟨s, hs⟩ := hl.get (i := i) (by have := hl.1; omega)
   obtain ⟨l', e, h'⟩ := ihk (i + 1) (l.set i []) (by omega) (hl.set (by simp))
   exact ⟨l', gD (k + 1) _ _ _ _ _ ⟨fun _ => ⟨s, hs, e⟩, fun h' => absurd h h'⟩, h'⟩
  ·exact ⟨l, gD (k + 1) _ _ _ _ _ ⟨fun h' => absurd h' h, fun _ => rfl⟩, hl⟩
theorem za : ∀ k i (l : List (List UInt8)), N - i ≤ k → Sh l N → ∃ l', dG (k + 1) t l i us (.node t.kind t.text l' us) ∧ Sh l' N := fun k => by
 induction k with
 | zero => intro i l hi hl; exact ⟨l, gz 0 _ _ _ _ _ ⟨fun h => by have := hl.1; omega, fun _ => rfl⟩, hl⟩
 | succ k ihk =>
  intro i l hi hl
  by_cases h : i < l.length
  ·obtain ⟨s, hs⟩ := hl.get (i := i) (by have := hl.1; omega)
   obtain ⟨l', e, h'⟩ := ihk (i + 1) (l.set i []) (by omega) (hl.set (by simp))
   exact ⟨l', gz (k + 1) _ _ _ _ _ ⟨fun _ => ⟨s, hs, e⟩, fun h' => absurd h h'⟩, h'⟩
  ·exact ⟨l, gz (k + 1) _ _ _ _ _ ⟨fun h' => absurd h' h, fun _ => rfl⟩, hl⟩
theorem vc (hs : shapeK t = true) (hN : N = (aV t.kind t.kids.length).toNat) {l : List (List UInt8)} (hl : Sh l N) : ∃ l', dC (N + 2) t l us (.node t.kind t.text l' us) ∧ Sh l' N := by
 obtain ⟨g1, g2, g3, g4⟩ := AM hs
 have e0 : ([] : List UInt8).length ≤ 2 := by simp
 by_cases h1 : t.kind = 1
 ·have := g1 h1
  obtain ⟨s, hs⟩ := hl.get (i := 2) (by omega)
  exact ⟨_, bQ (N + 1) _ _ _ _ ⟨fun _ => ⟨s, hs, rfl⟩, fun h => absurd h1 h⟩, hl.set (by simp)⟩
 by_cases h2 : t.kind = 2
 ·have := g2 h2
  have l1 := hl.set (i := 2) e0
  have l2 := l1.set (i := 3) e0
  have l3 := l2.set (i := 4) e0
  obtain ⟨s, hs⟩ := hl.get (i := 2) (by omega)
  obtain ⟨s', hs'⟩ := l1.get (i := 3) (by omega)
  obtain ⟨s2, hs2⟩ := l2.get (i := 4) (by omega)
  obtain ⟨l', e, h'⟩ := Ds (t := t) (us := us) N 6 _ (by omega) l3
  exact ⟨l', bQ (N + 1) _ _ _ _ ⟨fun h => absurd h h1, fun _ => ⟨fun _ => ⟨s, hs, s', hs', s2, hs2, e⟩, fun h => absurd h2 h⟩⟩, h'⟩
 by_cases h4 : t.kind = 4
 ·have := g3 (by simp [h4])
  obtain ⟨s, hs⟩ := hl.get (i := 1) (by omega)
  exact ⟨_, bQ (N + 1) _ _ _ _ ⟨fun h => absurd h h1, fun _ => ⟨fun h => absurd h h2, fun _ => ⟨fun _ => ⟨s, hs, rfl⟩, fun h => absurd h4 h⟩⟩⟩, hl.set e0⟩
 by_cases h8 : t.kind = 8
 ·have := g3 (by simp [h8])
  obtain ⟨s, hs⟩ := hl.get (i := 1) (by omega)
  exact ⟨_, bQ (N + 1) _ _ _ _ ⟨fun h => absurd h h1, fun _ => ⟨fun h => absurd h h2, fun _ => ⟨fun h => absurd h h4, fun _ => ⟨fun _ => ⟨s, hs, rfl⟩, fun h => absurd h8 h⟩⟩⟩⟩, hl.set e0⟩
 by_cases h22 : t.kind = 22
 ·have := g3 (by simp [h22])
  obtain ⟨s, hs⟩ := hl.get (i := 1) (by omega)
  exact ⟨_, bQ (N + 1) _ _ _ _ ⟨fun h => absurd h h1, fun _ => ⟨fun h => absurd h h2, fun _ => ⟨fun h => absurd h h4, fun _ => ⟨fun h => absurd h h8, fun _ => ⟨fun _ => ⟨s, hs, rfl⟩, fun h => absurd h22 h⟩⟩⟩⟩⟩, hl.set e0⟩
 by_cases h16 : t.kind = 16
 ·obtain ⟨l', e, h'⟩ := za (t := t) (us := us) N 1 _ (by omega) hl
  exact ⟨l', bQ (N + 1) _ _ _ _ ⟨fun h => absurd h h1, fun _ => ⟨fun h => absurd h h2, fun _ => ⟨fun h => absurd h h4, fun _ => ⟨fun h => absurd h h8, fun _ => ⟨fun h => absurd h h22, fun _ => ⟨fun _ => e, fun h => absurd h16 h⟩⟩⟩⟩⟩⟩, h'⟩
 by_cases h18 : t.kind = 18
 ·obtain ⟨l', e, h'⟩ := za (t := t) (us := us) N 1 _ (by omega) hl
  exact ⟨l', bQ (N + 1) _ _ _ _ ⟨fun h => absurd h h1, fun _ => ⟨fun h => absurd h h2, fun _ => ⟨fun h => absurd h h4, fun _ => ⟨fun h => absurd h h8, fun _ => ⟨fun h => absurd h h22, fun _ => ⟨fun h => absurd h h16, fun _ => ⟨fun _ => e, fun h => absurd h18 h⟩⟩⟩⟩⟩⟩⟩, h'⟩
 ·exact ⟨l, bQ (N + 1) _ _ _ _ ⟨fun h => absurd h h1, fun _ => ⟨fun h => absurd h h2, fun _ => ⟨fun h => absurd h h4, fun _ => ⟨fun h => absurd h h8, fun _ => ⟨fun h => absurd h h22, fun _ => ⟨fun h => absurd h h16, fun _ => ⟨fun h => absurd h h18, fun _ => rfl⟩⟩⟩⟩⟩⟩⟩, hl⟩
end
theorem pG {l : List Tree} {i : Nat} {u : Tree} (h : l[i]? = some u) : kbulk (l.take (i + 1)) = kbulk (l.take i) + tbulk u := by
 rw [List.take_add_one, h, fd]; simp [kbulk]
theorem Ao : ∀ t : Tree, tbulk t ≤ 1000000 → shapeK t = true → ∀ first, first.length ≤ 2 → ∃ u, fx t first u ∧ tbulk u + 3 ≤ 25 * tbulk t ∧ u.kind = t.kind := bV fun t ih ht hs first hf => by
 have hk := dx t
 have hbt := bL t
 have h0 := mI hs
 have h6 := EO (k := t.kind) (n := (t.kids.length : Int)) (by omega)
 obtain ⟨g1, g2, g3, g4⟩ := AM hs
 obtain ⟨bl, hbl, hsh⟩ := BP h0 (by omega)
 have loop : ∀ k i (done rest : List Tree), t.kids.length - i ≤ k → done.length = i → i ≤ t.kids.length → rest.length = t.kids.length - i → kbulk done + 3 * i ≤ 25 * kbulk (t.kids.take i) → ∃ M r, dE M t first bl (done ++ rest) i r ∧ tbulk r + 3 ≤ 25 * tbulk t ∧ r.kind = t.kind := fun k => by
  have last : ∀ i (done rest : List Tree), ¬ i < t.kids.length → done.length = i → i ≤ t.kids.length → rest.length = t.kids.length - i → kbulk done + 3 * i ≤ 25 * kbulk (t.kids.take i) → ∃ M r, dE M t first bl (done ++ rest) i r ∧ tbulk r + 3 ≤ 25 * tbulk t ∧ r.kind = t.kind := fun i done rest hi hd hle hr hb => by
   have hr0 : rest = [] := List.length_eq_zero_iff.1 (by omega)
   subst hr0
   rw [List.append_nil]
   rw [List.take_of_length_le (by omega)] at hb
   have fin : ∀ l', Sh l' (aV t.kind t.kids.length).toNat → tbulk (.node t.kind t.text l' done) + 3 ≤ 25 * tbulk t ∧ (Tree.node t.kind t.text l' done).kind = t.kind := fun l' hl' => by
    have := hl'.sum
    exact ⟨by simp only [tbulk]; omega, rfl⟩
   by_cases h17 : t.kind = 17
   ·obtain ⟨l', e, h'⟩ := vc (us := done) hs rfl hsh
    exact ⟨_, _, ei _ _ _ _ _ _ _ ⟨fun h => absurd h hi, fun _ => ⟨fun h => absurd h17 h, fun _ => e⟩⟩, fin l' h'⟩
   ·by_cases h21 : t.kind = 21
    ·obtain ⟨l', e, h'⟩ := vc (us := done) hs rfl hsh
     exact ⟨_, _, ei _ _ _ _ _ _ _ ⟨fun h => absurd h hi, fun _ => ⟨fun _ => ⟨fun h => absurd h21 h, fun _ => e⟩, fun h => absurd h h17⟩⟩, fin l' h'⟩
    ·obtain ⟨l', e, h'⟩ := vc (us := done) hs rfl (hsh.set (i := 0) hf)
     have := g4 h17
     obtain ⟨s, hs0⟩ := hsh.get (i := 0) (by omega)
     exact ⟨_, _, ei _ _ _ _ _ _ _ ⟨fun h => absurd h hi, fun _ => ⟨fun _ => ⟨fun _ => ⟨s, hs0, e⟩, fun h => absurd h h21⟩, fun h => absurd h h17⟩⟩, fin l' h'⟩
  induction k with
  | zero => intro i done rest hi hd hle hr hb; exact last i done rest (by omega) hd hle hr hb
  | succ k ihk =>
   intro i done rest hi hd hle hr hb
   obtain ⟨u, hu, hul⟩ | h' := aN t.kids i
   ·have hbu := dN hu
    obtain ⟨v, hv, hvb, _⟩ := ih i u hu (by omega) (aL hs hu).1 _ (zx t i first hf)
    match rest, hr with
    | z :: rest', hr =>
     obtain ⟨M, r, e, hb2⟩ := ihk (i + 1) (done ++ [v]) rest' (by omega) (by simp [hd]) (by omega) (by simp at hr; omega) (by rw [pG hu, fd]; simp only [kbulk]; omega)
     refine ⟨M + 1, r, ei M _ _ _ _ _ _ ⟨fun _ => ⟨u, hu, _, Cb t i first, v, hv, z, by simp [← hd], by omega, ?_⟩, fun h => absurd hul h⟩, hb2⟩
     have : (done ++ z :: rest').set i v = done ++ [v] ++ rest' := by simp [← hd]
     rw [this]; exact e
    | [], hr => simp at hr; omega
   ·exact last i done rest h' hd hle hr hb
 obtain ⟨M, r, e, hb⟩ := loop t.kids.length 0 [] (List.replicate t.kids.length (.node 0 [] [] [])) (by omega) rfl (by omega) (by simp) (by simp [kbulk])
 exact ⟨r, pW (M + 1) _ _ _ ⟨_, rx (by omega) (by omega), bl, hbl, pw M _ _ _ _ ⟨by omega, by simpa using e⟩⟩, hb⟩
theorem AA (t : Tree) (ht : tbulk t ≤ 1000000) : ∃ u, iO t u ∧ tbulk u ≤ 25 * tbulk t ∧ (u.kind = t.kind ∨ u.kind = 0) := by
 have h1 := vx t (by omega)
 have := bZ t
 cases hs : shapeK t with
 | false => rw [hs] at h1; exact ⟨.node 0 [] [] [], lO 0 _ _ ⟨_, h1, fun _ => rfl, fun h => (by cases h)⟩, by rw [tb0]; simp; omega, .inr rfl⟩
 | true =>
  rw [hs] at h1
  obtain ⟨u, hu, hb, hkk⟩ := Ao t ht hs [] (by simp)
  exact ⟨u, lO 0 _ _ ⟨_, h1, fun h => (by cases h), fun _ => ⟨u, hu, rfl⟩⟩, by omega, .inl hkk⟩
theorem xh : ∀ (l : List (List UInt8)) (i : Nat) (x : List UInt8), lsum (l.set i x) ≤ lsum l + x.length
 | [], i, x => by simp [lsum]
 | y :: r, 0, x => by simp only [List.set_cons_zero, lsum]; omega
 | y :: r, i + 1, x => by have := xh r i x; simp only [List.set_cons_succ, lsum]; omega
theorem BZ {L : List Int} : ∀ t : Tree, tbulk t ≤ 1000000 → ∀ {a : Int}, Dc L a → Gt L (fun u a' => gQ L a t u L a' ∧ u.kind = t.kind) (6 * tbulk t) := bV fun t ih ht a hd => by
 have hk := dx t
 have hl := pE t
 have hbt := bL t
 have kids : ∀ k i (done : List Tree) (ls : List (List UInt8)) (a : Int), t.kids.length - i ≤ k → i ≤ t.kids.length → done.length = i → kbulk done ≤ 6 * kbulk (t.kids.take i) → lsum ls ≤ 6 * lsum t.leads → Dc L a → ∃ M, Gt L (fun u a' => ey M t L a (done ++ t.kids.drop i) i ls u L a' ∧ u.kind = t.kind) (6 * tbulk t) := fun k => by
  have last : ∀ i (done : List Tree) (ls : List (List UInt8)) (a : Int), ¬ i < t.kids.length → i ≤ t.kids.length → done.length = i → kbulk done ≤ 6 * kbulk (t.kids.take i) → lsum ls ≤ 6 * lsum t.leads → Dc L a → ∃ M, Gt L (fun u a' => ey M t L a (done ++ t.kids.drop i) i ls u L a' ∧ u.kind = t.kind) (6 * tbulk t) := fun i done ls a hi hle hdn hb hls hd => by
   rw [List.drop_of_length_le (by omega), List.append_nil]
   rw [List.take_of_length_le (by omega)] at hb
   exact ⟨1, _, a, ⟨nq 0 _ _ _ _ _ _ _ _ _ ⟨fun h => absurd h (by omega), fun _ => ⟨rfl, rfl, rfl⟩⟩, rfl⟩, hd, by simp only [tbulk]; omega⟩
  induction k with
  | zero => intro i done ls a hi hle hdn hb hls hd; exact last i done ls a (by omega) hle hdn hb hls hd
  | succ k ihk =>
   intro i done ls a hi hle hdn hb hls hd
   obtain ⟨u, hu, hul⟩ | h' := aN t.kids i
   ·have hbu := dN hu
    obtain ⟨v, a1, ⟨q1, _⟩, q2, q3⟩ := ih i u hu (by omega) hd
    obtain ⟨M, hM⟩ := ihk (i + 1) (done ++ [v]) ls a1 (by omega) (by omega) (by simp [hdn]) (by rw [pG hu, fd]; simp only [kbulk]; omega) hls q2
    have hg : (done ++ t.kids.drop i)[i]? = some u := by rw [List.getElem?_append_right (by omega), hdn]; simpa using hu
    refine ⟨M + 1, hM.map (Nat.le_refl _) fun w b ⟨h, hw⟩ => ⟨nq M _ _ _ _ _ _ _ _ _ ⟨fun _ => ⟨u, hg, _, _, _, q1, u, hg, ?_⟩, fun h' => absurd (by simp [hdn]; omega) h'⟩, hw⟩⟩
    have : (done ++ t.kids.drop i).set i v = done ++ [v] ++ t.kids.drop (i + 1) := by rw [cV hu]; simp [← hdn]
    rw [this]; exact h
   ·exact last i done ls a h' hle hdn hb hls hd
 have lead : ∀ k i (ls : List (List UInt8)) (a : Int), t.leads.length - i ≤ k → i ≤ t.leads.length → ls.length = t.leads.length → lsum ls ≤ lsum t.leads + 5 * i → Dc L a → ∃ M, Gt L (fun u a' => dA M t L a ls i u L a' ∧ u.kind = t.kind) (6 * tbulk t) := fun k => by
  have hll := ti t.leads
  have last : ∀ i (ls : List (List UInt8)) (a : Int), ¬ i < t.leads.length → i ≤ t.leads.length → ls.length = t.leads.length → lsum ls ≤ lsum t.leads + 5 * i → Dc L a → ∃ M, Gt L (fun u a' => dA M t L a ls i u L a' ∧ u.kind = t.kind) (6 * tbulk t) := fun i ls a hi hle hlen hb hd => by
   obtain ⟨M, hM⟩ := kids t.kids.length 0 [] ls a (by omega) (by omega) rfl (by simp [kbulk]) (by omega) hd
   exact ⟨M + 1, hM.map (Nat.le_refl _) fun w b ⟨h, hw⟩ => ⟨jB M _ _ _ _ _ _ _ _ ⟨fun h' => absurd h' (by omega), fun _ => ⟨by omega, by simpa using h⟩⟩, hw⟩⟩
  induction k with
  | zero => intro i ls a hi hle hlen hb hd; exact last i ls a (by omega) hle hlen hb hd
  | succ k ihk =>
   intro i ls a hi hle hlen hb hd
   obtain ⟨x, hx, hxl⟩ | h' := aN ls i
   ·obtain ⟨n, a1, h1, h2, h3⟩ := eZ hd (n := 9) (by omega) (by omega)
    by_cases hn : n = 1
    ·obtain ⟨s, a2, g1, g2, g3⟩ := iN h3 [[32, 35, 32, 99, 10], [32, 32], [10, 9], [35, 10]] (by decide) (by decide)
     have hs5 := gP g2 (by decide)
     have := xh ls i s
     obtain ⟨M, hM⟩ := ihk (i + 1) (ls.set i s) a2 (by omega) (by omega) (by simpa using hlen) (by omega) g3
     exact ⟨M + 1, hM.map (Nat.le_refl _) fun w b ⟨h, hw⟩ => ⟨jB M _ _ _ _ _ _ _ _ ⟨fun _ => ⟨_, _, _, h1, fun _ => ⟨_, _, _, g1, x, hx, h⟩, fun h' => absurd hn h'⟩, fun h' => absurd hxl h'⟩, hw⟩⟩
    ·obtain ⟨M, hM⟩ := ihk (i + 1) ls a1 (by omega) (by omega) hlen (by omega) h3
     exact ⟨M + 1, hM.map (Nat.le_refl _) fun w b ⟨h, hw⟩ => ⟨jB M _ _ _ _ _ _ _ _ ⟨fun _ => ⟨_, _, _, h1, fun h' => absurd h' hn, fun _ => h⟩, fun h' => absurd hxl h'⟩, hw⟩⟩
   ·exact last i ls a (by omega) hle hlen hb hd
 obtain ⟨M, hM⟩ := lead t.leads.length 0 t.leads a (by omega) (by omega) rfl (by omega) hd
 exact hM.map (Nat.le_refl _) fun w b ⟨h, hw⟩ => ⟨rN M _ _ _ _ _ _ ⟨by omega, h⟩, hw⟩
theorem BI {L : List Int} {a : Int} (hd : Dc L a) (name : List UInt8) (hname : name.length ≤ 5) : Gt L (fun t a' => jI L a name t L a' ∧ (t.kind = 1 ∨ t.kind = 0)) 300000 := by
 obtain ⟨n, a1, h1, h2, h3⟩ := eZ hd (n := 4) (by omega) (by omega)
 have loop : ∀ (k : Nat) (a : Int) (l : List Tree), Dc L a → l.length + k ≤ 100 → kbulk l + k * 500 ≤ 1500 → Gt L (fun t a' => fS (k + 1) name L a l (k : Int) t L a' ∧ (t.kind = 1 ∨ t.kind = 0)) 300000 := fun k => by
  induction k with
  | zero =>
   intro a l hd hl hb
   have ht : tbulk (.node 1 name [] l) ≤ 1506 := by rw [tbK]; omega
   obtain ⟨u, hu, hub, huk⟩ := AA (.node 1 name [] l) (by omega)
   obtain ⟨z, a2, g1, g2, g3⟩ := eZ hd (n := 2) (by omega) (by omega)
   by_cases hz : z = 0
   ·exact (BZ u (by omega) g3).map (by omega) fun w b ⟨h, hw⟩ => ⟨jm 0 _ _ _ _ _ _ _ _ ⟨fun h' => by omega, fun _ => ⟨u, hu, _, _, _, g1, fun _ => ⟨_, _, _, h, rfl, rfl, rfl⟩, fun h' => absurd hz h'⟩⟩, by rw [hw]; exact huk⟩
   ·exact ⟨u, a2, ⟨jm 0 _ _ _ _ _ _ _ _ ⟨fun h' => by omega, fun _ => ⟨u, hu, _, _, _, g1, fun h' => absurd h' hz, fun _ => ⟨rfl, rfl, rfl⟩⟩⟩, huk⟩, g3, by omega⟩
  | succ k ihk =>
   intro a l hd hl hb
   obtain ⟨t, b, q1, q2, q3⟩ := FW hd
   exact (ihk b (l ++ [t]) q2 (by simp; omega) (by rw [fd]; simp only [kbulk]; omega)).map (Nat.le_refl _) fun w c ⟨h, hw⟩ => ⟨jm (k + 1) _ _ _ _ _ _ _ _ ⟨fun _ => ⟨_, _, _, q1, by simp; omega, by omega, by rw [show ((k + 1 : Nat) : Int) - 1 = (k : Int) by omega]; exact h⟩, fun h => by omega⟩, hw⟩
 exact (loop n.toNat a1 [] h3 (by simp; omega) (by simp only [kbulk]; omega)).map (Nat.le_refl _) fun w b ⟨h, hw⟩ => ⟨ri (n.toNat + 1) _ _ _ _ _ _ ⟨_, _, _, h1, by rw [show n = ((n.toNat : Nat) : Int) by omega]; exact h⟩, hw⟩
def Mok (p : List Tree) : Prop := ∀ t ∈ p, t.kind = 1 ∧ Vld t
theorem zV (l : List Int) (hl : l.length ≤ 1000000) : ∃ p, jv l p ∧ kbulk p ≤ 1000000 ∧ Mok p := by
 have hd0 : Dc l 0 := ⟨by omega, by omega, by omega⟩
 obtain ⟨n, a1, h1, h2, h3⟩ := eZ hd0 (n := 4) (by omega) (by omega)
 have loop : ∀ (k : Nat) (a : Int) (p : List Tree), Dc l a → p.length + k ≤ 3 → kbulk p + k * 300001 ≤ 900003 → Mok p → ∃ r, bO (k + 1) l a p (k : Int) r ∧ kbulk r ≤ 900003 ∧ Mok r := fun k => by
  induction k with
  | zero => intro a p hd hp hb hmk; exact ⟨p, iA 0 _ _ _ _ _ ⟨fun h => by omega, fun _ => rfl⟩, by omega, hmk⟩
  | succ k ihk =>
   intro a p hd hp hb hmk
   have hb2 : kbulk p + k * 300001 + 300001 ≤ 900003 := Nat.le_trans (Nat.le_of_eq (by rw [Nat.succ_mul, Nat.add_assoc])) hb
   have hb3 : kbulk p + k * 300001 ≤ 900003 := Nat.le_trans (Nat.le_add_right _ _) hb2
   obtain ⟨x, hx, _⟩ | h' := aN [[(65 : UInt8)], [66], [67]] p.length
   rotate_left
   ·simp at h'; omega
   have hx5 : x.length ≤ 5 := gP (List.mem_of_getElem? hx) (by decide)
   obtain ⟨t, a2, ⟨q1, qk⟩, q2, q3⟩ := BI hd x hx5
   obtain ⟨z, a3, g1, g2, g3⟩ := eZ q2 (n := 8) (by omega) (by omega)
   have step : ∀ u : Tree, tbulk u ≤ 300001 → (u.kind = 1 ∨ u.kind = 0) → ∃ b r, dB u b ∧ ((b = true) → (p ++ [u]).length ≤ 1000000000 ∧ InI (((k + 1 : Nat) : Int) - 1) ∧ bO (k + 1) l a3 (p ++ [u]) (((k + 1 : Nat) : Int) - 1) r) ∧ ((b = false) → InI (((k + 1 : Nat) : Int) - 1) ∧ bO (k + 1) l a3 p (((k + 1 : Nat) : Int) - 1) r) ∧ kbulk r ≤ 900003 ∧ Mok r := fun u hu huk => by
    obtain ⟨b, hb', hbs⟩ := wF u (by omega)
    have e : ((k + 1 : Nat) : Int) - 1 = (k : Int) := by omega
    rw [e]
    cases b with
    | true =>
     have hus := hbs.1 rfl
     have hu1 : u.kind = 1 := by
      rcases huk with h | h
      ·exact h
      ·have := mI hus.shape; rw [h] at this; simp [aV] at this
     obtain ⟨r, hr, hrb⟩ := ihk a3 (p ++ [u]) g3 (by simp; omega) (by clear hb; rw [fd]; simp only [kbulk]; omega) (fun t ht => by
      rcases List.mem_append.1 ht with h | h
      ·exact hmk t h
      ·rw [List.mem_singleton] at h; subst h; exact ⟨hu1, hus⟩)
     exact ⟨true, r, hb', fun _ => ⟨by simp; omega, by omega, hr⟩, fun h => (by cases h), hrb⟩
    | false =>
     obtain ⟨r, hr, hrb⟩ := ihk a3 p g3 (by omega) hb3 hmk
     exact ⟨false, r, hb', fun h => (by cases h), fun _ => ⟨by omega, hr⟩, hrb⟩
   by_cases hz : z = 7
   ·have hub : tbulk (.node t.kind [65] t.leads t.kids) ≤ 300001 := by have := bL t; simp only [tbulk, List.length_cons, List.length_nil]; omega
    obtain ⟨b, r, e1, e2, e3, e4⟩ := step _ hub qk
    exact ⟨r, iA (k + 1) _ _ _ _ _ ⟨fun _ => ⟨x, hx, _, _, _, q1, _, _, _, g1, fun _ => ⟨b, e1, e2, e3⟩, fun h => absurd hz h⟩, fun h => by omega⟩, e4⟩
   ·obtain ⟨b, r, e1, e2, e3, e4⟩ := step t (by omega) qk
    exact ⟨r, iA (k + 1) _ _ _ _ _ ⟨fun _ => ⟨x, hx, _, _, _, q1, _, _, _, g1, fun h => absurd h hz, fun _ => ⟨b, e1, e2, e3⟩⟩, fun h => by omega⟩, e4⟩
 obtain ⟨r, hr, hrb, hrm⟩ := loop n.toNat a1 [] h3 (by simp; omega) (by simp only [kbulk]; omega) (fun t h => by cases h)
 exact ⟨r, qK (n.toNat + 1) _ _ ⟨_, _, sp 0 _ _ _ ⟨by omega, rfl, rfl⟩, _, _, _, h1, by rw [show n = ((n.toNat : Nat) : Int) by omega]; exact hr⟩, by omega, hrm⟩
end Go.Proofs.YtaoiaeohojfdgaaGreat
