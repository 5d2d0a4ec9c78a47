/- Contracts of the functions that the law reaches, part 6. -/
import Derived.Test.YtaoiaeohojfdgaaGreatBc5
set_option linter.unusedVariables false
set_option linter.unusedSimpArgs false
namespace Go.Proofs.YtaoiaeohojfdgaaGreat
open Go.RowKit Lx Sx
set_option maxRecDepth 100000
set_option maxHeartbeats 1000000
theorem knd {last lead x : List UInt8} (h : az x ≠ 5 ∧ az x ≠ 6 ∧ az x ≠ 1 ∧ az x ≠ 3) : (tk last lead x).kind ≠ 5 ∧ (tk last lead x).kind ≠ 6 ∧ (tk last lead x).kind ≠ 1 ∧ (tk last lead x).kind ≠ 3 := by simp only [tk]; omega
theorem pI {u : TokZ} {rest : List TokZ} {k : Nat} {x : List UInt8} (hk : (k : Int) ≠ 0) (h : (u.kind = 5 ∧ k = 10 ∧ x = u.text ∨ u.kind = 6 ∧ k = 11 ∧ x = u.text) ∧ u.text ≠ [116, 114, 117, 101] ∧ u.text ≠ [102, 97, 108, 115, 101] ∧ u.text ≠ [63] ∧ u.text ≠ [91] ∧ u.text ≠ [40] ∨ (u.kind ≠ 5 ∧ u.kind ≠ 6 ∧ u.kind ≠ 1 ∧ u.kind ≠ 3) ∧ x = [] ∧ (u.text = [116, 114, 117, 101] ∧ k = 13 ∨ u.text = [102, 97, 108, 115, 101] ∧ k = 14 ∨ u.text = [63] ∧ k = 15)) : Ok Pun (u :: rest) (.node (k : Int) x [u.lead] []) rest := fun off sz at_ hi h0 h1 => by
 obtain ⟨o', q, hi'⟩ := fc u rest off sz at_ hi h0 h1
 refine ⟨o', ?_, hi'⟩
 have ue : ∀ x, cx 1 ((u :: rest).map gTk) off sz 0 at_ k x (.node (k : Int) x [u.lead] []) (rest.map gTk) o' sz 0 at_ := fun x => Bf hk q
 rcases h with ⟨h, n1, n2, n3, n4, n5⟩ | ⟨h, rfl, h'⟩
 ·have l0 : cY 2 (gTk u) ((u :: rest).map gTk) off sz 0 at_ k (.node (k : Int) u.text [u.lead] []) (rest.map gTk) o' sz 0 at_ :=
   rL0_syntax_parser_unit 1 _ _ _ _ _ _ _ _ _ _ _ _ _ ⟨fun e => absurd e n1, fun _ => ⟨fun e => absurd e n2, fun _ => ⟨fun e => absurd e n3, fun _ => ⟨fun e => absurd e n4, fun _ => ⟨fun e => absurd e n5, fun _ => ue _⟩⟩⟩⟩⟩
  rcases h with ⟨h, rfl, rfl⟩ | ⟨h, rfl, rfl⟩
  ·exact rS_syntax_parser_unit 2 _ _ _ _ _ _ _ _ _ _ _ ⟨_, _, _, _, _, _, cq, fun _ => l0, fun e => absurd (show (gTk u).Kind = 5 by simp only [gTk]; omega) e⟩
  ·exact rS_syntax_parser_unit 2 _ _ _ _ _ _ _ _ _ _ _ ⟨_, _, _, _, _, _, cq, fun e => by simp only [gTk] at e; omega, fun _ => ⟨fun _ => l0, fun e => absurd (show (gTk u).Kind = 6 by simp only [gTk]; omega) e⟩⟩
 ·refine rn 2 h (rL0_syntax_parser_unit 1 _ _ _ _ _ _ _ _ _ _ _ _ _ ?_)
  rcases h' with ⟨h', rfl⟩ | ⟨h', rfl⟩ | ⟨h', rfl⟩
  ·exact ⟨fun _ => ue _, fun e => absurd h' e⟩
  ·exact ⟨fun e => absurd (h'.symm.trans e) (by decide), fun _ => ⟨fun _ => ue _, fun e => absurd h' e⟩⟩
  ·exact ⟨fun e => absurd (h'.symm.trans e) (by decide), fun _ => ⟨fun e => absurd (h'.symm.trans e) (by decide), fun _ => ⟨fun _ => ue _, fun e => absurd h' e⟩⟩⟩
theorem tu {t : Tree} (hs : shapeK t = true) (hl : limK t = true) {C : Tree → Prop} (ih : ∀ (i : Nat) (u : Tree), t.kids[i]? = some u → shapeK u = true → limK u = true → C u) {p : Int → Prop} (hp : ∀ i kk, i < t.kids.length → db t.kind t.kids.length i kk = true → p kk) : ∀ u ∈ t.kids, p u.kind ∧ shapeK u = true ∧ C u := fun u hu => by
 obtain ⟨i, hi, rfl⟩ := List.mem_iff_getElem.1 hu
 have hu' : t.kids[i]? = some t.kids[i] := List.getElem?_eq_getElem hi
 have := aR hs hu'
 exact ⟨hp i _ hi this.2, this.1, ih i _ hu' this.1 (go hl hu')⟩
theorem Fq {t : Tree} (ih : ∀ (i : Nat) (u : Tree), t.kids[i]? = some u → shapeK u = true → limK u = true → Xok u ∧ Aok u) (hs : shapeK t = true) (hl : limK t = true) : Uok t := fun hk last rest hr => by
 have hn := bB hs
 have hw := dT hs
 have hm := ut hl
 have hk' : t.kind = 10 ∨ t.kind = 11 ∨ t.kind = 12 ∨ t.kind = 13 ∨ t.kind = 14 ∨ t.kind = 15 ∨ t.kind = 16 ∨ t.kind = 18 ∨ t.kind = 22 := by simp [jb, cF] at hk; omega
 rw [jm, bp]
 have ne : ∀ n : Nat, az t.text = n → n ≠ 8 → n ≠ 7 → t.text ≠ [116, 114, 117, 101] ∧ t.text ≠ [102, 97, 108, 115, 101] ∧ t.text ≠ [63] ∧ t.text ≠ [91] ∧ t.text ≠ [40] := fun n h a b =>
  ⟨dB h (fun e => b (by rw [← e]; decide)), dB h (fun e => b (by rw [← e]; decide)), dB h (fun e => a (by rw [← e]; decide)), dB h (fun e => a (by rw [← e]; decide)), dB h (fun e => a (by rw [← e]; decide))⟩
 rcases hk' with h | h | h | h | h | h | h | h | h
 ·rw [h] at hw ⊢; simp [dd] at hw
  have c : az t.text = 5 := by omega
  exact pI (u := tk last (t.leads.getD 0 []) t.text) (k := 10) (by decide) (.inl ⟨.inl ⟨by simp only [tk]; omega, rfl, rfl⟩, ne 5 c (by decide) (by decide)⟩)
 ·rw [h] at hw ⊢; simp [dd] at hw
  have c : az t.text = 6 := by omega
  exact pI (u := tk last (t.leads.getD 0 []) t.text) (k := 11) (by decide) (.inl ⟨.inr ⟨by simp only [tk]; omega, rfl, rfl⟩, ne 6 c (by decide) (by decide)⟩)
 ·rw [h] at hw ⊢; simp [dd] at hw
  have c : az t.text = 1 := by omega
  show Ok Pun (tk last (t.leads.getD 0 []) t.text :: rest) (.node 12 t.text [ah last (t.leads.getD 0 []) t.text] []) rest
  intro off sz at_ hi h0 h1
  obtain ⟨o', q, hi'⟩ := fc (tk last (t.leads.getD 0 []) t.text) rest off sz at_ hi h0 h1
  exact ⟨o', wi (.inl (by simp only [tk]; omega)) (mI 0 _ _ _ _ _ _ _ _ _ _ _ ⟨_, _, _, _, _, _, q, fun _ => ⟨_, _, _, _, _, _, nj, fun _ => ⟨rfl, rfl, rfl, rfl, rfl, rfl⟩, fun e => absurd e hr⟩, fun e => absurd (show (gTk (tk last (t.leads.getD 0 []) t.text)).Kind = 1 by simp only [gTk, tk]; omega) e⟩), hi'⟩
 ·rw [h, fN hs (by omega)]
  exact pI (u := tk last (t.leads.getD 0 []) [116, 114, 117, 101]) (k := 13) (by decide) (.inr ⟨knd (by decide), rfl, .inl ⟨rfl, rfl⟩⟩)
 ·rw [h, fN hs (by omega)]
  exact pI (u := tk last (t.leads.getD 0 []) [102, 97, 108, 115, 101]) (k := 14) (by decide) (.inr ⟨knd (by decide), rfl, .inr (.inl ⟨rfl, rfl⟩)⟩)
 ·rw [h, fN hs (by omega)]
  exact pI (u := tk last (t.leads.getD 0 []) [63]) (k := 15) (by decide) (.inr ⟨knd (by decide), rfl, .inr (.inr ⟨rfl, rfl⟩)⟩)
 ·have hA := tu hs hl (C := Aok) (fun i u a b c => (ih i u a b c).2) (p := fun k => k = 17) (fun i kk _ e => by rw [h] at e; simpa [db] using e)
  rw [h] at hw ⊢; simp [dd] at hw
  have c : (tk last (t.leads.getD 0 []) t.text).kind = 1 ∨ (tk last (t.leads.getD 0 []) t.text).kind = 3 := by simp only [tk]; omega
  have e1 : tkA last (bP 16 t.text t.leads (pcTs t.kids)) ++ rest = tk last (t.leads.getD 0 []) t.text :: tk t.text (t.leads.getD 1 []) [40] :: (tkA [40] (aA t.leads 3 (pcTs t.kids) 0) ++ (tk (ak [40] (aA t.leads 3 (pcTs t.kids) 0)) (t.leads.getD 2 []) [41] :: rest)) := by
   show tkA last (⟨t.leads.getD 0 [], t.text⟩ :: ⟨t.leads.getD 1 [], [40]⟩ :: (aA t.leads 3 (pcTs t.kids) 0 ++ [⟨t.leads.getD 2 [], [41]⟩])) ++ rest = _
   simp only [fT, eY, lX, List.cons_append, List.append_assoc, List.nil_append]
  rw [e1]
  intro off sz at_ hi h0 h1
  obtain ⟨o1, q1, i1⟩ := fc _ _ off sz at_ hi h0 h1
  obtain ⟨m, o2, q2, i2⟩ := CK hA (hm.2.2.1 h) (tk last (t.leads.getD 0 []) t.text) i1 h0 h1
  refine ⟨o2, wi c (mI m _ _ _ _ _ _ _ _ _ _ _ ⟨_, _, _, _, _, _, q1, fun _ => ⟨_, _, _, _, _, _, cq, fun e => absurd rfl e, fun _ => q2⟩, fun _ => q2⟩), i2⟩
 ·have hX := tu hs hl (C := Xok) (fun i u a b c => (ih i u a b c).1) (p := fun k => cF k = true) (fun i kk _ e => by rw [h] at e; simpa [db] using e)
  rw [h, fN hs (by omega)]
  have e1 : tkA last (bP 18 [] t.leads (pcTs t.kids)) ++ rest = tk last (t.leads.getD 0 []) [91] :: (tkA [91] (aA t.leads 2 (pcTs t.kids) 0) ++ (tk (ak [91] (aA t.leads 2 (pcTs t.kids) 0)) (t.leads.getD 1 []) [93] :: rest)) := by
   show tkA last (⟨t.leads.getD 0 [], [91]⟩ :: (aA t.leads 2 (pcTs t.kids) 0 ++ [⟨t.leads.getD 1 [], [93]⟩])) ++ rest = _
   simp only [fT, eY, lX, List.cons_append, List.append_assoc, List.nil_append]
  rw [e1]
  intro off sz at_ hi h0 h1
  obtain ⟨o1, q1, i1⟩ := BT hX ⟨hn.2.1 h, hm.2.2.2 h⟩ (last := last) (rest := rest) off sz at_ hi h0 h1
  exact ⟨o1, rn 1 (knd (by decide)) (rL0_syntax_parser_unit 0 _ _ _ _ _ _ _ _ _ _ _ _ _ ⟨fun e => absurd e (show ¬ ([91] : List UInt8) = [116, 114, 117, 101] by decide), fun _ => ⟨fun e => absurd e (show ¬ ([91] : List UInt8) = [102, 97, 108, 115, 101] by decide), fun _ => ⟨fun e => absurd e (show ¬ ([91] : List UInt8) = [63] by decide), fun _ => ⟨fun _ => ⟨_, _, _, _, _, _, q1, rfl, rfl, rfl, rfl, rfl, rfl⟩, fun e => absurd rfl e⟩⟩⟩⟩), i1⟩
 ·obtain ⟨u, hu, _⟩ | h' := aN t.kids 0
  rotate_left
  ·have := hn.2.2.1 (by omega); omega
  have hsu := aR hs hu
  have hku : cF u.kind = true := by have := hsu.2; rw [h] at this; simpa [db] using this
  rw [h, fN hs (by omega)]
  have e1 : tkA last (bP 22 [] t.leads (pcTs t.kids)) ++ rest = tk last (t.leads.getD 0 []) [40] :: (tkA [40] (pcT u) ++ (tk (ak [40] (pcT u)) (t.leads.getD 1 []) [41] :: rest)) := by
   show tkA last (⟨t.leads.getD 0 [], [40]⟩ :: ((pcTs t.kids).getD 0 [] ++ [⟨t.leads.getD 1 [], [41]⟩])) ++ rest = _
   rw [bD hu]
   simp only [fT, eY, lX, List.cons_append, List.append_assoc, List.nil_append]
  have e2 : spN 22 [] t.leads (spTs t.kids) (pcTs t.kids) last = .node 22 [] [ah last (t.leads.getD 0 []) [40], ah (ak [40] (pcT u)) (t.leads.getD 1 []) [41]] [spT u [40]] := by
   show Tree.node 22 [] [_, ah (ak [40] ((pcTs t.kids).getD 0 [])) _ _] [(spTs t.kids).getD 0 _ _] = _
   rw [bD hu, cU hu]
  rw [e1, e2]
  intro off sz at_ hi h0 h1
  obtain ⟨o1, q1, i1⟩ := fc _ _ off sz at_ hi h0 h1
  obtain ⟨o2, q2, i2⟩ := (ih 0 u hu hsu.1 (go hl hu)).1 hku [40] (tk (ak [40] (pcT u)) (t.leads.getD 1 []) [41] :: rest) ⟨show ([41] : List UInt8) ≠ [40] by decide, show em [41] = false by decide⟩ o1 sz at_ i1 h0 h1
  obtain ⟨o3, q3, i3⟩ := cz (w := [41]) rfl o2 sz at_ i2 h0 h1
  exact ⟨o3, rn 1 (knd (by decide)) (rL0_syntax_parser_unit 0 _ _ _ _ _ _ _ _ _ _ _ _ _ ⟨fun e => absurd e (show ¬ ([40] : List UInt8) = [116, 114, 117, 101] by decide), fun _ => ⟨fun e => absurd e (show ¬ ([40] : List UInt8) = [102, 97, 108, 115, 101] by decide), fun _ => ⟨fun e => absurd e (show ¬ ([40] : List UInt8) = [63] by decide), fun _ => ⟨fun e => absurd e (show ¬ ([40] : List UInt8) = [91] by decide), fun _ => ⟨fun _ => ⟨by decide, _, _, _, _, _, _, q1, [], rfl, _, _, _, _, _, _, q2, _, _, _, _, _, _, q3, [], rfl, rfl, rfl, rfl, rfl, rfl, rfl⟩, fun e => absurd rfl e⟩⟩⟩⟩⟩), i3⟩
theorem Fv {t : Tree} (ih : ∀ (i : Nat) (u : Tree), t.kids[i]? = some u → shapeK u = true → limK u = true → Nok u ∧ Uok u) (hs : shapeK t = true) (hl : limK t = true) (hU : Uok t) : Nok t := fun hk last rest hr off sz at_ hi h0 h1 => by
 by_cases hk1 : jb t.kind = true
 ·obtain ⟨o', q, hi'⟩ := hU hk1 last rest hr off sz at_ hi h0 h1
  exact ⟨_, _, _, _, q, hi', fun m r q0 q1 q2 q3 q4 h => ⟨m, h⟩⟩
 have h : t.kind = 21 := by rcases hk with hk | hk; exact absurd hk hk1; exact hk
 have hn := bB hs
 have hw := dT hs
 rw [h] at hw
 have hop : em t.text = true := by simpa [dd] using hw
 obtain ⟨a, ha, _⟩ | h' := aN t.kids 0
 rotate_left
 ·have := hn.2.2.2.2 (by omega); omega
 obtain ⟨b, hb, _⟩ | h' := aN t.kids 1
 rotate_left
 ·have := hn.2.2.2.2 (by omega); omega
 have sa := aR hs ha
 have sb := aR hs hb
 have ka : jb a.kind = true ∨ a.kind = 21 := by have := sa.2; rw [h] at this; simpa [db] using this
 have kb : jb b.kind = true := by have := sb.2; rw [h] at this; simpa [db] using this
 have e1 : tkA last (pcT t) ++ rest = tkA last (pcT a) ++ (tk (ak last (pcT a)) (t.leads.getD 0 []) t.text :: (tkA t.text (pcT b) ++ rest)) := by
  rw [bp, h]
  show tkA last ((pcTs t.kids).getD 0 [] ++ (⟨t.leads.getD 0 [], t.text⟩ :: (pcTs t.kids).getD 1 [])) ++ rest = _
  rw [bD ha, bD hb]
  simp only [fT, eY, lX, List.cons_append, List.append_assoc, List.nil_append]
 have e2 : spT t last = .node 21 t.text [ah (ak last (pcT a)) (t.leads.getD 0 []) t.text] [spT a last, spT b t.text] := by
  rw [jm, h]
  show Tree.node 21 _ [ah (ak last ((pcTs t.kids).getD 0 [])) _ _] [(spTs t.kids).getD 0 _ _, (spTs t.kids).getD 1 _ _] = _
  rw [bD ha, cU ha, cU hb]
 rw [e1] at hi ⊢
 rw [e2]
 obtain ⟨t0, b0, o0, o1, q, i1, k⟩ := (ih 0 a ha sa.1 (go hl ha)).1 ka last (tk (ak last (pcT a)) (t.leads.getD 0 []) t.text :: (tkA t.text (pcT b) ++ rest)) (fun e => by have e : t.text = [40] := e; rw [e] at hop; exact absurd hop (by decide)) off sz at_ hi h0 h1
 obtain ⟨o2, q2, i2⟩ := fc _ _ o1 sz at_ i1 h0 h1
 obtain ⟨o3, q3, i3⟩ := (ih 1 b hb sb.1 (go hl hb)).2 kb t.text rest hr o2 sz at_ i2 h0 h1
 exact ⟨t0, b0, o0, o3, q, i3, fun m r q0 q1 q2' q3' q4 hh => k (m + 2) r q0 q1 q2' q3' q4 (iz (m + 1) _ _ _ _ _ _ _ _ _ _ _ _ ⟨_, _, _, _, _, _, cq, _, qB _, fun _ => ⟨_, _, _, _, _, _, q2, _, _, _, _, _, _, q3, ni m _ _ _ _ _ _ _ _ _ _ _ _ _ hh⟩, fun e => absurd (hop.symm.trans e) (by decide)⟩)⟩
theorem Fk {t : Tree} (ih : ∀ (i : Nat) (u : Tree), t.kids[i]? = some u → shapeK u = true → limK u = true → Xok u) (hs : shapeK t = true) (hl : limK t = true) (hN : Nok t) : Xok t := fun hk last rest hr off sz at_ hi h0 h1 => by
 have hn := bB hs
 have hw := dT hs
 obtain ⟨p, r, hp, _, hp2⟩ := wL t (.inl hk) hs
 by_cases h19 : t.kind = 19
 ·obtain ⟨a, ha, _⟩ | h' := aN t.kids 0
  rotate_left
  ·have := hn.2.2.2.1 (by omega); omega
  obtain ⟨b, hb, _⟩ | h' := aN t.kids 1
  rotate_left
  ·have := hn.2.2.2.1 (by omega); omega
  obtain ⟨c, hc, _⟩ | h' := aN t.kids 2
  rotate_left
  ·have := hn.2.2.2.1 (by omega); omega
  have sa := aR hs ha
  have sb := aR hs hb
  have sc := aR hs hc
  have ka : cF a.kind = true := by have := sa.2; rw [h19] at this; simpa [db] using this
  have kb : cF b.kind = true := by have := sb.2; rw [h19] at this; simpa [db] using this
  have kc : cF c.kind = true := by have := sc.2; rw [h19] at this; simpa [db] using this
  have e1 : tkA last (pcT t) ++ rest = tk last (t.leads.getD 0 []) [105, 102] :: (tkA [105, 102] (pcT a) ++ (tk (ak [105, 102] (pcT a)) (t.leads.getD 1 []) [116, 104, 101, 110] :: (tkA [116, 104, 101, 110] (pcT b) ++ (tk (ak [116, 104, 101, 110] (pcT b)) (t.leads.getD 2 []) [101, 108, 115, 101] :: (tkA [101, 108, 115, 101] (pcT c) ++ rest))))) := by
   rw [bp, h19]
   show tkA last (⟨t.leads.getD 0 [], [105, 102]⟩ :: ((pcTs t.kids).getD 0 [] ++ (⟨t.leads.getD 1 [], [116, 104, 101, 110]⟩ :: ((pcTs t.kids).getD 1 [] ++ (⟨t.leads.getD 2 [], [101, 108, 115, 101]⟩ :: (pcTs t.kids).getD 2 []))))) ++ rest = _
   rw [bD ha, bD hb, bD hc]
   simp only [fT, eY, lX, List.cons_append, List.append_assoc, List.nil_append]
  have e2 : spT t last = .node 19 [] [ah last (t.leads.getD 0 []) [105, 102], ah (ak [105, 102] (pcT a)) (t.leads.getD 1 []) [116, 104, 101, 110], ah (ak [116, 104, 101, 110] (pcT b)) (t.leads.getD 2 []) [101, 108, 115, 101]] [spT a [105, 102], spT b [116, 104, 101, 110], spT c [101, 108, 115, 101]] := by
   rw [jm, h19, fN hs (by omega)]
   show Tree.node 19 _ [_, ah (ak _ ((pcTs t.kids).getD 0 [])) _ _, ah (ak _ ((pcTs t.kids).getD 1 [])) _ _] [(spTs t.kids).getD 0 _ _, (spTs t.kids).getD 1 _ _, (spTs t.kids).getD 2 _ _] = _
   rw [bD ha, bD hb, cU ha, cU hb, cU hc]
  rw [e1] at hi ⊢
  rw [e2]
  obtain ⟨o1, q1, i1⟩ := fc _ _ off sz at_ hi h0 h1
  obtain ⟨o2, q2, i2⟩ := ih 0 a ha sa.1 (go hl ha) ka [105, 102] (tk (ak [105, 102] (pcT a)) (t.leads.getD 1 []) [116, 104, 101, 110] :: (tkA [116, 104, 101, 110] (pcT b) ++ (tk (ak [116, 104, 101, 110] (pcT b)) (t.leads.getD 2 []) [101, 108, 115, 101] :: (tkA [101, 108, 115, 101] (pcT c) ++ rest)))) ⟨show ([116, 104, 101, 110] : List UInt8) ≠ [40] by decide, show em [116, 104, 101, 110] = false by decide⟩ o1 sz at_ i1 h0 h1
  obtain ⟨o3, q3, i3⟩ := cz (w := [116, 104, 101, 110]) rfl o2 sz at_ i2 h0 h1
  obtain ⟨o4, q4, i4⟩ := ih 1 b hb sb.1 (go hl hb) kb [116, 104, 101, 110] (tk (ak [116, 104, 101, 110] (pcT b)) (t.leads.getD 2 []) [101, 108, 115, 101] :: (tkA [101, 108, 115, 101] (pcT c) ++ rest)) ⟨show ([101, 108, 115, 101] : List UInt8) ≠ [40] by decide, show em [101, 108, 115, 101] = false by decide⟩ o3 sz at_ i3 h0 h1
  obtain ⟨o5, q5, i5⟩ := cz (w := [101, 108, 115, 101]) rfl o4 sz at_ i4 h0 h1
  obtain ⟨o6, q6, i6⟩ := ih 2 c hc sc.1 (go hl hc) kc [101, 108, 115, 101] rest hr o5 sz at_ i5 h0 h1
  exact ⟨o6, eV 0 _ _ _ _ _ _ _ _ _ _ _ ⟨_, _, _, _, _, _, cq, fun e => absurd e (show ¬ ([105, 102] : List UInt8) = [108, 101, 116] by decide), fun _ => ⟨fun _ => ⟨by decide, _, _, _, _, _, _, q1, [], rfl, _, _, _, _, _, _, q2, _, _, _, _, _, _, q3, [], rfl, _, _, _, _, _, _, q4, by simp, _, _, _, _, _, _, q5, [], rfl, _, _, _, _, _, _, q6, by simp, rfl, rfl, rfl, rfl, rfl, rfl⟩, fun e => absurd rfl e⟩⟩, i6⟩
 by_cases h20 : t.kind = 20
 ·obtain ⟨a, ha, _⟩ | h' := aN t.kids 0
  rotate_left
  ·have := hn.2.2.2.2 (by omega); omega
  obtain ⟨b, hb, _⟩ | h' := aN t.kids 1
  rotate_left
  ·have := hn.2.2.2.2 (by omega); omega
  have sa := aR hs ha
  have sb := aR hs hb
  have ka : cF a.kind = true := by have := sa.2; rw [h20] at this; simpa [db] using this
  have kb : cF b.kind = true := by have := sb.2; rw [h20] at this; simpa [db] using this
  have c : az t.text = 1 := by rw [h20] at hw; simp [dd] at hw; omega
  have e1 : tkA last (pcT t) ++ rest = tk last (t.leads.getD 0 []) [108, 101, 116] :: tk [108, 101, 116] (t.leads.getD 1 []) t.text :: tk t.text (t.leads.getD 2 []) [61] :: (tkA [61] (pcT a) ++ (tk (ak [61] (pcT a)) (t.leads.getD 3 []) [105, 110] :: (tkA [105, 110] (pcT b) ++ rest))) := by
   rw [bp, h20]
   show tkA last (⟨t.leads.getD 0 [], [108, 101, 116]⟩ :: ⟨t.leads.getD 1 [], t.text⟩ :: ⟨t.leads.getD 2 [], [61]⟩ :: ((pcTs t.kids).getD 0 [] ++ (⟨t.leads.getD 3 [], [105, 110]⟩ :: (pcTs t.kids).getD 1 []))) ++ rest = _
   rw [bD ha, bD hb]
   simp only [fT, eY, lX, List.cons_append, List.append_assoc, List.nil_append]
  have e2 : spT t last = .node 20 t.text [ah last (t.leads.getD 0 []) [108, 101, 116], ah [108, 101, 116] (t.leads.getD 1 []) t.text, ah t.text (t.leads.getD 2 []) [61], ah (ak [61] (pcT a)) (t.leads.getD 3 []) [105, 110]] [spT a [61], spT b [105, 110]] := by
   rw [jm, h20]
   show Tree.node 20 _ [_, _, _, ah (ak _ ((pcTs t.kids).getD 0 [])) _ _] [(spTs t.kids).getD 0 _ _, (spTs t.kids).getD 1 _ _] = _
   rw [bD ha, cU ha, cU hb]
  rw [e1] at hi ⊢
  rw [e2]
  obtain ⟨o1, q1, i1⟩ := fc _ _ off sz at_ hi h0 h1
  obtain ⟨o2, q2, i2⟩ := nS (k := 1) (o2 := 1) (t := tk [108, 101, 116] (t.leads.getD 1 []) t.text) (by simp only [tk]; omega) (by simp only [tk]; omega) o1 sz at_ i1 h0 h1
  obtain ⟨o3, q3, i3⟩ := cz (w := [61]) rfl o2 sz at_ i2 h0 h1
  obtain ⟨o4, q4, i4⟩ := ih 0 a ha sa.1 (go hl ha) ka [61] (tk (ak [61] (pcT a)) (t.leads.getD 3 []) [105, 110] :: (tkA [105, 110] (pcT b) ++ rest)) ⟨show ([105, 110] : List UInt8) ≠ [40] by decide, show em [105, 110] = false by decide⟩ o3 sz at_ i3 h0 h1
  obtain ⟨o5, q5, i5⟩ := cz (w := [105, 110]) rfl o4 sz at_ i4 h0 h1
  obtain ⟨o6, q6, i6⟩ := ih 1 b hb sb.1 (go hl hb) kb [105, 110] rest hr o5 sz at_ i5 h0 h1
  exact ⟨o6, eV 0 _ _ _ _ _ _ _ _ _ _ _ ⟨_, _, _, _, _, _, cq, fun _ => ⟨by decide, _, _, _, _, _, _, q1, [], rfl, _, _, _, _, _, _, _, q2, [], rfl, _, _, _, _, _, _, q3, [], rfl, _, _, _, _, _, _, q4, _, _, _, _, _, _, q5, [], rfl, _, _, _, _, _, _, q6, by simp, rfl, rfl, rfl, rfl, rfl, rfl⟩, fun e => absurd rfl e⟩, i6⟩
 have h17 : t.kind ≠ 17 := by simp [cF] at hk; omega
 obtain ⟨n1, n2⟩ := hp2 h19 h20 h17
 obtain ⟨t0, b0, o0, o1, q, i1, k⟩ := hN (by simp [cF, jb] at hk ⊢; omega) last rest hr.1 off sz at_ hi h0 h1
 obtain ⟨m, hm⟩ := k 1 (spT t last) _ _ _ _ _ (iz 0 _ _ _ _ _ _ _ _ _ _ _ _ ⟨_, _, _, _, _, _, nj, _, qB _, fun e => absurd (hr.2.symm.trans e) (by decide), fun _ => ⟨rfl, rfl, rfl, rfl, rfl, rfl⟩⟩)
 exact ⟨o1, eV m _ _ _ _ _ _ _ _ _ _ _ ⟨_, _, _, _, _, _, nj, fun e => absurd (by rw [vk hp] at e; exact e) n1, fun _ => ⟨fun e => absurd (by rw [vk hp] at e; exact e) n2, fun _ => ⟨_, _, _, _, _, _, q, hm⟩⟩⟩, i1⟩
theorem CL : ∀ t : Tree, shapeK t = true → limK t = true → Xok t ∧ Aok t ∧ Nok t ∧ Uok t := cw fun t ih hs hl => by
 have hU : Uok t := Fq (fun i u hu a b => ⟨(ih i u hu a b).1, (ih i u hu a b).2.1⟩) hs hl
 have hN : Nok t := Fv (fun i u hu a b => ⟨(ih i u hu a b).2.2.1, (ih i u hu a b).2.2.2⟩) hs hl hU
 exact ⟨Fk (fun i u hu a b => (ih i u hu a b).1) hs hl hN, Fh (fun i u hu a => (ih i u hu a (go hl hu)).1) hs, hN, hU⟩
abbrev Ppm := fun (a : List GToken) (o s f z : Int) (x : Tree) (b : List GToken) (o' s' f' z' : Int) => cW a o s f z x b o' s' f' z'
abbrev Pal := fun (a : List GToken) (o s f z : Int) (x : Tree) (b : List GToken) (o' s' f' z' : Int) => iB a o s f z x b o' s' f' z'
abbrev Pfn := fun (a : List GToken) (o s f z : Int) (x : Tree) (b : List GToken) (o' s' f' z' : Int) => fO a o s f z x b o' s' f' z'
theorem AF {t : Tree} (h : t.kind = 4) (hs : shapeK t = true) (last : List UInt8) (rest : List TokZ) : Ok Ppm (tkA last (pcT t) ++ rest) (spT t last) rest := by
 have hn := bB hs
 have hw := dT hs
 obtain ⟨u, hu, _⟩ | h' := aN t.kids 0
 rotate_left
 ·have := hn.2.2.1 (by omega); omega
 have hsu := aR hs hu
 have hku : ip u.kind = true := by have := hsu.2; rw [h] at this; simpa [db] using this
 have c : az t.text = 1 := by rw [h] at hw; simp [dd] at hw; omega
 have e1 : tkA last (pcT t) ++ rest = tk last (t.leads.getD 0 []) t.text :: tk t.text (t.leads.getD 1 []) [58] :: (tkA [58] (pcT u) ++ rest) := by
  rw [bp, h]
  show tkA last (⟨t.leads.getD 0 [], t.text⟩ :: ⟨t.leads.getD 1 [], [58]⟩ :: (pcTs t.kids).getD 0 []) ++ rest = _
  rw [bD hu]; rfl
 have e2 : spT t last = .node 4 t.text [ah last (t.leads.getD 0 []) t.text, ah t.text (t.leads.getD 1 []) [58]] [spT u [58]] := by
  rw [jm, h]
  show Tree.node 4 _ _ [(spTs t.kids).getD 0 _ _] = _
  rw [cU hu]
 rw [e1, e2]
 intro off sz at_ hi h0 h1
 obtain ⟨o1, q1, i1⟩ := nS (k := 1) (o2 := 1) (t := tk last (t.leads.getD 0 []) t.text) (by simp only [tk]; omega) (by simp only [tk]; omega) off sz at_ hi h0 h1
 obtain ⟨o2, q2, i2⟩ := cz (w := [58]) rfl o1 sz at_ i1 h0 h1
 obtain ⟨o3, q3, i3⟩ := tM u hku hsu.1 [58] rest o2 sz at_ i2 h0 h1
 exact ⟨o3, pB 0 _ _ _ _ _ _ _ _ _ _ _ ⟨by decide, _, _, _, _, _, _, _, q1, [], rfl, _, _, _, _, _, _, q2, [], rfl, _, _, _, _, _, _, q3, rfl, rfl, rfl, rfl, rfl, rfl⟩, i3⟩
theorem Bw {t : Tree} (h : t.kind = 3) (hs : shapeK t = true) (last : List UInt8) (rest : List TokZ) : Ok Pal (tkA last (pcT t) ++ rest) (spT t last) rest := by
 have hn := bB hs
 have hw := dT hs
 obtain ⟨u, hu, _⟩ | h' := aN t.kids 0
 rotate_left
 ·have := hn.2.2.1 (by omega); omega
 have hsu := aR hs hu
 have hku : ip u.kind = true := by have := hsu.2; rw [h] at this; simpa [db] using this
 have c : az t.text = 2 := by rw [h] at hw; simp [dd] at hw; omega
 have e1 : tkA last (pcT t) ++ rest = tk last (t.leads.getD 0 []) [116, 121, 112, 101] :: tk [116, 121, 112, 101] (t.leads.getD 1 []) t.text :: tk t.text (t.leads.getD 2 []) [61] :: (tkA [61] (pcT u) ++ rest) := by
  rw [bp, h]
  show tkA last (⟨t.leads.getD 0 [], [116, 121, 112, 101]⟩ :: ⟨t.leads.getD 1 [], t.text⟩ :: ⟨t.leads.getD 2 [], [61]⟩ :: (pcTs t.kids).getD 0 []) ++ rest = _
  rw [bD hu]; rfl
 have e2 : spT t last = .node 3 t.text [ah last (t.leads.getD 0 []) [116, 121, 112, 101], ah [116, 121, 112, 101] (t.leads.getD 1 []) t.text, ah t.text (t.leads.getD 2 []) [61]] [spT u [61]] := by
  rw [jm, h]
  show Tree.node 3 _ _ [(spTs t.kids).getD 0 _ _] = _
  rw [cU hu]
 rw [e1, e2]
 intro off sz at_ hi h0 h1
 obtain ⟨o0, q0, i0⟩ := cz (w := [116, 121, 112, 101]) rfl off sz at_ hi h0 h1
 obtain ⟨o1, q1, i1⟩ := nS (k := 2) (o2 := 2) (t := tk [116, 121, 112, 101] (t.leads.getD 1 []) t.text) (by simp only [tk]; omega) (by simp only [tk]; omega) o0 sz at_ i0 h0 h1
 obtain ⟨o2, q2, i2⟩ := cz (w := [61]) rfl o1 sz at_ i1 h0 h1
 obtain ⟨o3, q3, i3⟩ := tM u hku hsu.1 [61] rest o2 sz at_ i2 h0 h1
 exact ⟨o3, po 0 _ _ _ _ _ _ _ _ _ _ _ ⟨by decide, _, _, _, _, _, _, q0, [], rfl, _, _, _, _, _, _, _, q1, [], rfl, _, _, _, _, _, _, q2, [], rfl, _, _, _, _, _, _, q3, rfl, rfl, rfl, rfl, rfl, rfl⟩, i3⟩
theorem yW {n i kk : Int} : db 2 n i kk = (if i = n - 1 then cF kk else if i = n - 2 then ip kk else kk == 4) := rfl
theorem wk : ∀ (us : List Tree) (i : Nat) (last : List UInt8), (du (spTs us) (pcTs us) i last).length = us.length
 | [], i, last => rfl
 | u :: us, i, last => by simp only [spTs, pcTs, du, List.length_cons, wk us]
theorem rm (ks : List Tree) (n : Nat) : spTs (ks.take n) = (spTs ks).take n := by rw [qg, qg, List.map_take]
theorem EW {t : Tree} (h : t.kind = 2) (hs : shapeK t = true) (hl : limK t = true) (last : List UInt8) (rest : List TokZ) (hr : fol rest) : Ok Pfn (tkA last (pcT t) ++ rest) (spT t last) rest := by
 have hn := (bB hs).1 h
 have hm := (ut hl).2.1 h
 have hw := dT hs
 obtain ⟨ty, hty, _⟩ | h' := aN t.kids (t.kids.length - 2)
 rotate_left
 ·omega
 obtain ⟨bd, hbd, _⟩ | h' := aN t.kids (t.kids.length - 1)
 rotate_left
 ·omega
 have sty := aR hs hty
 have sbd := aR hs hbd
 have kty : ip ty.kind = true := by have := sty.2; rw [h, yW] at this; rw [if_neg (by omega), if_pos (by omega)] at this; exact this
 have kbd : cF bd.kind = true := by have := sbd.2; rw [h, yW] at this; rw [if_pos (by omega)] at this; exact this
 have xbd : Xok bd := (CL bd sbd.1 (go hl hbd)).1
 have hP : ∀ u ∈ t.kids.take (t.kids.length - 2), (∀ last rest, Ok Ppm (tkA last (pcT u) ++ rest) (spT u last) rest) ∧ ∃ p r, pcT u = p :: r ∧ p.Text ≠ [41] := fun u hu => by
  obtain ⟨i, hi, e⟩ := List.mem_iff_getElem.1 hu
  have hl' := hi
  rw [List.length_take] at hl'
  have hu' : t.kids[i]? = some u := by rw [← e, List.getElem_take]; exact List.getElem?_eq_getElem (by omega)
  have su := aR hs hu'
  have k4 : u.kind = 4 := by
   have := su.2; rw [h, yW] at this; rw [if_neg (by omega), if_neg (by omega)] at this; simpa using this
  have wu := dT su.1
  have cu : az u.text = 1 := by rw [k4] at wu; simp [dd] at wu; omega
  exact ⟨AF k4 su.1, ⟨u.leads.getD 0 [], u.text⟩, ⟨u.leads.getD 1 [], [58]⟩ :: (pcTs u.kids).getD 0 [], by rw [bp, k4]; rfl, dB cu (by decide)⟩
 have hlen : (t.kids.take (t.kids.length - 2)).length ≤ 8 := by rw [List.length_take]; omega
 have c : az t.text = 1 := by rw [h] at hw; simp [dd] at hw; omega
 have eR : aA t.leads 6 ((pcTs t.kids).take ((pcTs t.kids).length - 2)) 0 = aA t.leads 6 (pcTs (t.kids.take (t.kids.length - 2))) 0 := by rw [fQ, nz]
 have e1 : tkA last (pcT t) ++ rest = tk last (t.leads.getD 0 []) [100, 101, 102] :: tk [100, 101, 102] (t.leads.getD 1 []) t.text :: tk t.text (t.leads.getD 2 []) [40] :: (tkA [40] (aA t.leads 6 (pcTs (t.kids.take (t.kids.length - 2))) 0) ++ (tk (ak [40] (aA t.leads 6 (pcTs (t.kids.take (t.kids.length - 2))) 0)) (t.leads.getD 3 []) [41] :: tk [41] (t.leads.getD 4 []) [58] :: (tkA [58] (pcT ty) ++ (tk (ak [58] (pcT ty)) (t.leads.getD 5 []) [61] :: (tkA [61] (pcT bd) ++ rest))))) := by
  rw [bp, h]
  show tkA last (⟨t.leads.getD 0 [], [100, 101, 102]⟩ :: ⟨t.leads.getD 1 [], t.text⟩ :: ⟨t.leads.getD 2 [], [40]⟩ :: (aA t.leads 6 ((pcTs t.kids).take ((pcTs t.kids).length - 2)) 0 ++ (⟨t.leads.getD 3 [], [41]⟩ :: ⟨t.leads.getD 4 [], [58]⟩ :: ((pcTs t.kids).getD ((pcTs t.kids).length - 2) [] ++ (⟨t.leads.getD 5 [], [61]⟩ :: (pcTs t.kids).getD ((pcTs t.kids).length - 1) []))))) ++ rest = _
  rw [eR, fQ, bD hty, bD hbd]
  simp only [fT, eY, lX, qT, fG, List.cons_append, List.append_assoc, List.nil_append]
 have e2 : spT t last = .node 2 t.text ([ah last (t.leads.getD 0 []) [100, 101, 102], ah [100, 101, 102] (t.leads.getD 1 []) t.text, ah t.text (t.leads.getD 2 []) [40], ah (ak [40] (aA t.leads 6 (pcTs (t.kids.take (t.kids.length - 2))) 0)) (t.leads.getD 3 []) [41], ah [41] (t.leads.getD 4 []) [58], ah (ak [58] (pcT ty)) (t.leads.getD 5 []) [61]] ++ ec t.leads 6 (pcTs (t.kids.take (t.kids.length - 2))) 0 [40]) (du (spTs (t.kids.take (t.kids.length - 2))) (pcTs (t.kids.take (t.kids.length - 2))) 0 [40] ++ [spT ty [58], spT bd [61]]) := by
  rw [jm, h]
  show Tree.node 2 _ ([_, _, _, ah (ak [40] (aA t.leads 6 ((pcTs t.kids).take ((pcTs t.kids).length - 2)) 0)) _ _, _, ah (ak [58] ((pcTs t.kids).getD ((pcTs t.kids).length - 2) [])) _ _] ++ ec t.leads 6 ((pcTs t.kids).take ((pcTs t.kids).length - 2)) 0 [40]) (du ((spTs t.kids).take ((pcTs t.kids).length - 2)) ((pcTs t.kids).take ((pcTs t.kids).length - 2)) 0 [40] ++ [(spTs t.kids).getD ((pcTs t.kids).length - 2) _ _, (spTs t.kids).getD ((pcTs t.kids).length - 1) _ _]) = _
  rw [eR, fQ, nz, rm, bD hty, cU hty, cU hbd]
 rw [e1, e2]
 generalize t.kids.take (t.kids.length - 2) = us at hP hlen
 generalize t.leads = ls
 intro off sz at_ hi h0 h1
 obtain ⟨o1, q1, i1⟩ := cz (w := [100, 101, 102]) rfl off sz at_ hi h0 h1
 obtain ⟨o2, q2, i2⟩ := nS (k := 1) (o2 := 1) (t := tk [100, 101, 102] (ls.getD 1 []) t.text) (by simp only [tk]; omega) (by simp only [tk]; omega) o1 sz at_ i1 h0 h1
 obtain ⟨o3, q3, i3⟩ := cz (w := [40]) rfl o2 sz at_ i2 h0 h1
 have hB : fol (tk (ak [58] (pcT ty)) (ls.getD 5 []) [61] :: (tkA [61] (pcT bd) ++ rest)) := ⟨show ([61] : List UInt8) ≠ [40] by decide, show em [61] = false by decide⟩
 cases us with
 | nil =>
  obtain ⟨p1, r1, j1⟩ := cz (w := [41]) rfl o3 sz at_ i3 h0 h1
  obtain ⟨p2, r2, j2⟩ := cz (w := [58]) rfl p1 sz at_ j1 h0 h1
  obtain ⟨p3, r3, j3⟩ := tM ty kty sty.1 [58] _ p2 sz at_ j2 h0 h1
  obtain ⟨p4, r4, j4⟩ := cz (w := [61]) rfl p3 sz at_ j3 h0 h1
  obtain ⟨p5, r5, j5⟩ := xbd kbd [61] rest hr p4 sz at_ j4 h0 h1
  exact ⟨p5, jF 0 _ _ _ _ _ _ _ _ _ _ _ ⟨by decide, _, _, _, _, _, _, q1, [], rfl, _, _, _, _, _, _, _, q2, [], rfl, _, _, _, _, _, _, q3, [], rfl, _, _, _, _, _, _, cq, fun e => absurd rfl e, fun _ => ⟨_, _, _, _, _, _, r1, [], rfl, _, _, _, _, _, _, r2, [], rfl, _, _, _, _, _, _, r3, _, _, _, _, _, _, r4, [], rfl, _, _, _, _, _, _, r5, by simp, rfl, rfl, rfl, rfl, rfl, rfl⟩⟩, j5⟩
 | cons u us =>
  simp only [List.length_cons] at hlen
  have e1 : ∀ Z : List UInt8 → List TokZ, tkA [40] (aA ls 6 (pcTs (u :: us)) 0) ++ Z (ak [40] (aA ls 6 (pcTs (u :: us)) 0)) = tkA [40] (pcT u) ++ (tkA (ak [40] (pcT u)) (aA ls 6 (pcTs us) 1) ++ Z (ak (ak [40] (pcT u)) (aA ls 6 (pcTs us) 1))) := fun Z => by
   show tkA [40] (pcT u ++ aA ls 6 (pcTs us) 1) ++ Z (ak [40] (pcT u ++ aA ls 6 (pcTs us) 1)) = _
   simp only [eY, fG, List.append_assoc]
  have e2 : ak [40] (aA ls 6 (pcTs (u :: us)) 0) = ak (ak [40] (pcT u)) (aA ls 6 (pcTs us) 1) := by show ak [40] (pcT u ++ aA ls 6 (pcTs us) 1) = _; rw [fG]
  have e3 : ec ls 6 (pcTs (u :: us)) 0 [40] = ec ls 6 (pcTs us) 1 (ak [40] (pcT u)) := rfl
  have e4 : du (spTs (u :: us)) (pcTs (u :: us)) 0 [40] = spT u [40] :: du (spTs us) (pcTs us) 1 (ak [40] (pcT u)) := rfl
  have e5 := e1 fun y => tk y (ls.getD 3 []) [41] :: tk [41] (ls.getD 4 []) [58] :: (tkA [58] (pcT ty) ++ (tk (ak [58] (pcT ty)) (ls.getD 5 []) [61] :: (tkA [61] (pcT bd) ++ rest)))
  have hE : ∀ y, fol (tk y (ls.getD 3 []) [41] :: tk [41] (ls.getD 4 []) [58] :: (tkA [58] (pcT ty) ++ (tk (ak [58] (pcT ty)) (ls.getD 5 []) [61] :: (tkA [61] (pcT bd) ++ rest)))) := fun y => ⟨show ([41] : List UInt8) ≠ [40] by decide, show em [41] = false by decide⟩
  have hp : (hdT (tkA [40] (aA ls 6 (pcTs (u :: us)) 0) ++ (tk (ak [40] (aA ls 6 (pcTs (u :: us)) 0)) (ls.getD 3 []) [41] :: tk [41] (ls.getD 4 []) [58] :: (tkA [58] (pcT ty) ++ (tk (ak [58] (pcT ty)) (ls.getD 5 []) [61] :: (tkA [61] (pcT bd) ++ rest)))))).Text ≠ [41] := by
   obtain ⟨p, r, hp, hp1⟩ := (hP u (by simp)).2
   rw [e5, vk hp]; exact hp1
  rw [e5] at i3 q1 q2 q3 hp ⊢
  obtain ⟨p0, r0, j0⟩ := (hP u (by simp)).1 [40] _ o3 sz at_ i3 h0 h1
  obtain ⟨o4, i4, k4⟩ := tw (P := Ppm) (at_ := at_) h0 h1 ls 6 8 (fun y => tk y (ls.getD 3 []) [41] :: tk [41] (ls.getD 4 []) [58] :: (tkA [58] (pcT ty) ++ (tk (ak [58] (pcT ty)) (ls.getD 5 []) [61] :: (tkA [61] (pcT bd) ++ rest)))) hE (fun m b o A K (q : Tree × List GToken × Int × Int × Int × Int) => cp m t.text (b.map gTk) o sz 0 at_ A K q.1 q.2.1 q.2.2.1 q.2.2.2.1 q.2.2.2.2.1 q.2.2.2.2.2)
   (fun {m t r o o1 u b o2 A K q} ht hk ha hk2 qt qp h => jo m _ _ _ _ _ _ _ _ _ _ _ _ _ _ ⟨_, _, _, _, _, _, cq, fun _ => ⟨_, _, _, _, _, _, qt, by simp; omega, fun e => absurd e (by omega), fun _ => ⟨_, _, _, _, _, _, qp, by simp; omega, h⟩⟩, fun e => absurd ht e⟩)
   us 1 (ak [40] (pcT u)) [ah last (ls.getD 0 []) [100, 101, 102], ah [100, 101, 102] (ls.getD 1 []) t.text, ah t.text (ls.getD 2 []) [40], [], [], []] [spT u [40]] p0 (fun v hv last rest _ => (hP v (by simp [hv])).1 last rest) (by simp; omega) (by simp; omega) (by simp; omega) (by decide) j0
  obtain ⟨p1, r1, j1⟩ := cz (w := [41]) rfl o4 sz at_ i4 h0 h1
  obtain ⟨p2, r2, j2⟩ := cz (w := [58]) rfl p1 sz at_ j1 h0 h1
  obtain ⟨p3, r3, j3⟩ := tM ty kty sty.1 [58] _ p2 sz at_ j2 h0 h1
  obtain ⟨p4, r4, j4⟩ := cz (w := [61]) rfl p3 sz at_ j3 h0 h1
  obtain ⟨p5, r5, j5⟩ := xbd kbd [61] rest hr p4 sz at_ j4 h0 h1
  have hrk := wk us 1 (ak [40] (pcT u))
  obtain ⟨m, hm'⟩ := k4 1 (_, _, _, _, _, _) (jo 0 _ _ _ _ _ _ _ _ _ _ _ _ _ _ ⟨_, _, _, _, _, _, cq, fun e => absurd e (show ¬ ([41] : List UInt8) = [44] by decide), fun _ => ⟨_, _, _, _, _, _, r1, [], rfl, _, _, _, _, _, _, r2, [], rfl, _, _, _, _, _, _, r3, by simp; omega, _, _, _, _, _, _, r4, [], rfl, _, _, _, _, _, _, r5, by simp; omega, rfl, rfl, rfl, rfl, rfl, rfl⟩⟩)
  refine ⟨p5, jF m _ _ _ _ _ _ _ _ _ _ _ ⟨by decide, _, _, _, _, _, _, q1, [], rfl, _, _, _, _, _, _, _, q2, [], rfl, _, _, _, _, _, _, q3, [], rfl, _, _, _, _, _, _, nj, fun _ => ⟨_, _, _, _, _, _, r0, ?_⟩, fun e => absurd e hp⟩, j5⟩
  rw [e2, e3, e4, show ∀ (X : List Tree) a b, X ++ [a, b] = (X ++ [a]) ++ [b] from fun X a b => by simp]; exact hm'
theorem As : ∀ (ks : List Tree) (last : List UInt8), (∀ u ∈ ks, u.kind = 2 ∨ u.kind = 3) → fol (tkA last (pcTs ks).flatten)
 | [], last, h => ⟨by simp [pcTs, tkA, hdT], rfl⟩
 | u :: r, last, h => by
  simp only [pcTs, List.flatten_cons]
  rcases h u (by simp) with h | h
  ·rw [bp, h]; exact ⟨show ([100, 101, 102] : List UInt8) ≠ [40] by decide, show em [100, 101, 102] = false by decide⟩
  ·rw [bp, h]; exact ⟨show ([116, 121, 112, 101] : List UInt8) ≠ [40] by decide, show em [116, 121, 112, 101] = false by decide⟩
theorem uh {sz at_ : Int} (h0 : 0 ≤ sz) (h1 : sz ≤ 4000000000) {a b c : List UInt8} : ∀ (ks : List Tree) (last : List UInt8) (K : List Tree) (off : Int), (∀ u ∈ ks, (u.kind = 2 ∨ u.kind = 3) ∧ shapeK u = true ∧ limK u = true) → K.length + ks.length ≤ 40 → Iv (tkA last (pcTs ks).flatten) off → ∃ m o', ci m a b c ((tkA last (pcTs ks).flatten).map gTk) off sz 0 at_ K 1 b [a, c, []] (K ++ iZ (spTs ks) (pcTs ks) last) [] o' sz 0 at_
 | [], last, K, off, hu, hl, hv => ⟨1, off, fV 0 _ _ _ _ _ _ _ _ _ _ _ _ _ _ _ _ _ _ ⟨fun h => by simp [pcTs, tkA] at h, fun _ => ⟨rfl, rfl, rfl, by simp [spTs, pcTs, iZ], rfl, rfl, rfl, rfl, rfl⟩⟩⟩
 | u :: ks, last, K, off, hu, hl, hv => by
  obtain ⟨hk, hs, hli⟩ := hu u (by simp)
  simp only [List.length_cons] at hl
  have e1 : tkA last (pcTs (u :: ks)).flatten = tkA last (pcT u) ++ tkA (ak last (pcT u)) (pcTs ks).flatten := by simp only [pcTs, List.flatten_cons, eY]
  have e2 : iZ (spTs (u :: ks)) (pcTs (u :: ks)) last = spT u last :: iZ (spTs ks) (pcTs ks) (ak last (pcT u)) := rfl
  have hf := As ks (ak last (pcT u)) fun v hv => (hu v (by simp [hv])).1
  rw [e1] at hv ⊢
  rw [e2]
  rcases hk with h | h
  ·obtain ⟨o1, q1, i1⟩ := EW h hs hli last _ hf off sz at_ hv h0 h1
   obtain ⟨m, o2, q2⟩ := uh h0 h1 ks (ak last (pcT u)) (K ++ [spT u last]) o1 (fun v hv => hu v (by simp [hv])) (by simp; omega) i1
   rw [List.append_assoc] at q2
   have hp : (hdT (tkA last (pcT u) ++ tkA (ak last (pcT u)) (pcTs ks).flatten)).Text = [100, 101, 102] := by rw [bp, h]; rfl
   have hlen : (0 : Int) < (((tkA last (pcT u) ++ tkA (ak last (pcT u)) (pcTs ks).flatten).map gTk).length : Nat) := by rw [bp, h]; simp [bP, tkA]; omega
   exact ⟨m + 2, o2, fV (m + 1) _ _ _ _ _ _ _ _ _ _ _ _ _ _ _ _ _ _ ⟨fun _ => ⟨_, _, _, _, _, _, nj, fun e => absurd hp e, fun _ => jL m _ _ _ _ _ _ _ _ _ _ _ _ _ _ _ _ _ _ _ _ ⟨fun e => (by cases e), fun _ => ⟨fun e => by omega, fun _ => ⟨fun _ => ⟨_, _, _, _, _, _, q1, by simp; omega, q2⟩, fun e => absurd hp e⟩⟩⟩⟩, fun e => absurd hlen e⟩⟩
  ·obtain ⟨o1, q1, i1⟩ := Bw h hs last _ off sz at_ hv h0 h1
   obtain ⟨m, o2, q2⟩ := uh h0 h1 ks (ak last (pcT u)) (K ++ [spT u last]) o1 (fun v hv => hu v (by simp [hv])) (by simp; omega) i1
   rw [List.append_assoc] at q2
   have hp : (hdT (tkA last (pcT u) ++ tkA (ak last (pcT u)) (pcTs ks).flatten)).Text = [116, 121, 112, 101] := by rw [bp, h]; rfl
   have hp2 : ¬ (hdT (tkA last (pcT u) ++ tkA (ak last (pcT u)) (pcTs ks).flatten)).Text = [100, 101, 102] := by rw [hp]; decide
   have hlen : (0 : Int) < (((tkA last (pcT u) ++ tkA (ak last (pcT u)) (pcTs ks).flatten).map gTk).length : Nat) := by rw [bp, h]; simp [bP, tkA]; omega
   exact ⟨m + 2, o2, fV (m + 1) _ _ _ _ _ _ _ _ _ _ _ _ _ _ _ _ _ _ ⟨fun _ => ⟨_, _, _, _, _, _, nj, fun _ => jL m _ _ _ _ _ _ _ _ _ _ _ _ _ _ _ _ _ _ _ _ ⟨fun e => by rw [hp] at e; exact absurd e (by decide), fun _ => ⟨fun e => by omega, fun _ => ⟨fun e => absurd e hp2, fun _ => ⟨_, _, _, _, _, _, q1, by simp; omega, q2⟩⟩⟩⟩, fun e => absurd e hp2⟩, fun e => absurd hlen e⟩⟩
mutual
def depK : Tree → Nat
 | .node _ _ _ ks => depKs ks + 1
def depKs : List Tree → Nat
 | [] => 0
 | t :: r => max (depK t) (depKs r)
end
theorem uo (t : Tree) : depK t = depKs t.kids + 1 := by cases t; simp only [depK]; rfl
mutual
def cntK : Tree → Nat
 | .node _ _ _ ks => cntKs ks + 1
def cntKs : List Tree → Nat
 | [] => 0
 | t :: r => cntK t + cntKs r
end
theorem mW (t : Tree) : cntK t = cntKs t.kids + 1 := by cases t; simp only [cntK]; rfl
theorem uk : ∀ ks : List Tree, ks.length ≤ cntKs ks
 | [] => Nat.le_refl _
 | t :: r => by have := uk r; have := mW t; simp only [cntKs, List.length_cons]; omega
theorem pU : ∀ {ks : List Tree} {i : Nat} {u : Tree}, ks[i]? = some u → cntK u ≤ cntKs ks
 | [], i, t, h => by simp at h
 | u :: r, 0, t, h => by simp only [List.getElem?_cons_zero, Option.some.injEq] at h; subst h; simp only [cntKs]; omega
 | u :: r, i + 1, t, h => by have := pU (ks := r) (i := i) (by simpa using h); simp only [cntKs]; omega
mutual
theorem cnt_bulk : ∀ t : Tree, cntK t ≤ tbulk t
 | .node _ _ _ ks => by have := cnt_bulks ks; simp only [cntK, tbulk]; omega
theorem cnt_bulks : ∀ ks : List Tree, cntKs ks ≤ kbulk ks
 | [] => Nat.le_refl _
 | t :: r => by have := cnt_bulk t; have := cnt_bulks r; simp only [cntKs, kbulk]; omega
end
mutual
theorem dep_cnt : ∀ t : Tree, depK t ≤ cntK t
 | .node _ _ _ ks => by have := dep_cnts ks; simp only [cntK, depK]; omega
theorem dep_cnts : ∀ ks : List Tree, depKs ks ≤ cntKs ks
 | [] => Nat.le_refl _
 | t :: r => by have := dep_cnt t; have := dep_cnts r; simp only [cntKs, depKs]; omega
end
theorem xy {L : Nat → Tree → Int → Nat → Int → Prop} {S : Tree → Int → Prop} (t : Tree) (ht : cntK t ≤ 1000000000) (hS : ∀ (i : Nat) (u : Tree), t.kids[i]? = some u → S u (depK u))
  (r : ∀ m (z : Int) (i : Nat) (x : Int), ((i < t.kids.length) → ∃ u, t.kids[i]? = some u ∧ ∃ n, S u n ∧ i + 1 ≤ 9223372036854775807 ∧ L m t (max z n) (i + 1) x) ∧ ((¬ i < t.kids.length) → InI (z + 1) ∧ z + 1 = x) → L (m + 1) t z i x) : ∃ m, L m t 0 0 (depK t) := by
 have hc := mW t
 have hl := uk t.kids
 have hd := dep_cnts t.kids
 have loop : ∀ k i (z : Nat), t.kids.length - i ≤ k → z ≤ 1000000000 → L (k + 1) t z i ((max z (depKs (t.kids.drop i)) + 1 : Nat) : Int) := fun k => by
  have fin : ∀ m i (z : Nat), ¬ i < t.kids.length → z ≤ 1000000000 → L (m + 1) t z i ((max z (depKs (t.kids.drop i)) + 1 : Nat) : Int) := fun m i z hi hz => r m _ _ _ ⟨fun h => absurd h hi, fun _ => ⟨by constructor <;> omega, by rw [List.drop_of_length_le (by omega)]; simp only [depKs]; omega⟩⟩
  induction k with
  | zero => intro i z hi hz; exact fin 0 i z (by omega) hz
  | succ k ihk =>
   intro i z hi hz
   obtain ⟨u, hu, hul⟩ | h' := aN t.kids i
   ·have h1 := pU hu
    have h2 := dep_cnt u
    have := ihk (i + 1) (max z (depK u)) (by omega) (by omega)
    refine r (k + 1) _ _ _ ⟨fun _ => ⟨u, hu, _, hS i u hu, by omega, ?_⟩, fun h => absurd hul h⟩
    rw [bV hu, depKs]
    rw [show max ((z : Nat) : Int) ((depK u : Nat) : Int) = ((max z (depK u) : Nat) : Int) by omega, ← Nat.max_assoc]
    exact this
   ·exact fin _ i z h' hz
 have := loop t.kids.length 0 0 (by omega) (by omega)
 rw [List.drop_zero, Nat.zero_max, ← uo] at this
 exact ⟨_, this⟩
theorem Au : ∀ t : Tree, cntK t ≤ 1000000000 → iF t (depK t) := cw fun t ih ht => by
 have hc := mW t
 obtain ⟨m, hm⟩ := xy (L := jC) (S := iF) t ht (fun i u hu => ih i u hu (by have := pU hu; omega)) (fun m z i x h => sD m t z i x h)
 exact tG m _ _ hm
theorem Ap : ∀ t : Tree, cntK t ≤ 1000000000 → ey t (depK t) := cw fun t ih ht => by
 have hc := mW t
 obtain ⟨m, hm⟩ := xy (L := fv) (S := ey) t ht (fun i u hu => ih i u hu (by have := pU hu; omega)) (fun m z i x h => pT m t z i x ⟨fun hi => by obtain ⟨u, hu, n, hn, _, hr⟩ := h.1 hi; exact ⟨u, hu, n, hn, hr⟩, h.2⟩)
 exact qU m _ _ hm
theorem rL : ∀ (ks : List Tree) (i : Nat) (last : List UInt8), ∃ ls : List (List UInt8), ls.length = ks.length ∧ du (spTs ks) (pcTs ks) i last = List.zipWith spT ks ls
 | [], i, last => ⟨[], rfl, rfl⟩
 | u :: r, i, last => by
  obtain ⟨ls, h1, h2⟩ := rL r (i + 1) (ak (if 0 < i then [44] else last) (pcT u))
  exact ⟨(if 0 < i then [44] else last) :: ls, by simp [h1], by simp only [spTs, pcTs, du, List.zipWith_cons_cons, h2]⟩
theorem wK : ∀ (ks : List Tree) (last : List UInt8), ∃ ls : List (List UInt8), ls.length = ks.length ∧ iZ (spTs ks) (pcTs ks) last = List.zipWith spT ks ls
 | [], last => ⟨[], rfl, rfl⟩
 | u :: r, last => by
  obtain ⟨ls, h1, h2⟩ := wK r (ak last (pcT u))
  exact ⟨last :: ls, by simp [h1], by simp only [spTs, pcTs, iZ, List.zipWith_cons_cons, h2]⟩
theorem Cj {t : Tree} (hs : shapeK t = true) (last : List UInt8) : ∃ ls : List (List UInt8), ls.length = t.kids.length ∧ (spT t last).kids = List.zipWith spT t.kids ls := by
 have hn := bB hs
 have hl := iY hs
 rw [jm]
 by_cases h1 : t.kind = 1
 ·rw [h1]; exact wK t.kids t.text
 by_cases h2 : t.kind = 2
 ·obtain ⟨l1, b, e1⟩ := pQ t.kids (by have := hn.1 h2; omega)
  obtain ⟨us, a, e2⟩ := pQ l1 (by have := hn.1 h2; rw [e1, List.length_append] at this; simp at this; omega)
  subst e2
  have e : t.kids = us ++ [a, b] := by rw [e1]; simp
  obtain ⟨ls, z1, z2⟩ := rL us 0 [40]
  refine ⟨ls ++ [[58], [61]], by rw [e]; simp [z1], ?_⟩
  have hg : (pcTs t.kids).length - 2 = us.length := by rw [fQ, e]; simp
  have ha : t.kids[us.length]? = some a := by rw [e]; simp
  have hb : t.kids[us.length + 1]? = some b := by rw [e]; simp
  have g1 : (pcTs t.kids).length - 1 = us.length + 1 := by rw [fQ, e]; simp
  have tk : t.kids.take us.length = us := by rw [e]; simp
  rw [h2]
  show du ((spTs t.kids).take ((pcTs t.kids).length - 2)) ((pcTs t.kids).take ((pcTs t.kids).length - 2)) 0 [40] ++ [(spTs t.kids).getD ((pcTs t.kids).length - 2) _ _, (spTs t.kids).getD ((pcTs t.kids).length - 1) _ _] = _
  rw [hg, g1, cU ha, cU hb, ← rm, ← nz, tk, z2, e, List.zipWith_append z1.symm]
  rfl
 have one : t.kids.length = 1 → ∃ a, t.kids = [a] := List.length_eq_one_iff.1
 have two : t.kids.length = 2 → ∃ a b, t.kids = [a, b] := fun h => match t.kids, h with | [a, b], _ => ⟨a, b, rfl⟩
 have three : t.kids.length = 3 → ∃ a b c, t.kids = [a, b, c] := fun h => match t.kids, h with | [a, b, c], _ => ⟨a, b, c, rfl⟩
 by_cases h3 : t.kind = 3
 ·obtain ⟨a, e⟩ := one (hn.2.2.1 (by omega)); rw [h3, e]; exact ⟨[[61]], rfl, rfl⟩
 by_cases h4 : t.kind = 4
 ·obtain ⟨a, e⟩ := one (hn.2.2.1 (by omega)); rw [h4, e]; exact ⟨[[58]], rfl, rfl⟩
 by_cases h8 : t.kind = 8
 ·obtain ⟨a, e⟩ := one (hn.2.2.1 (by omega)); rw [h8, e]; exact ⟨[[91]], rfl, rfl⟩
 by_cases h17 : t.kind = 17
 ·obtain ⟨a, e⟩ := one (hn.2.2.1 (by omega)); rw [h17, e]; exact ⟨[last], rfl, rfl⟩
 by_cases h22 : t.kind = 22
 ·obtain ⟨a, e⟩ := one (hn.2.2.1 (by omega)); rw [h22, e]; exact ⟨[[40]], rfl, rfl⟩
 by_cases h16 : t.kind = 16
 ·rw [h16]; exact rL t.kids 0 [40]
 by_cases h18 : t.kind = 18
 ·rw [h18]; exact rL t.kids 0 [91]
 by_cases h19 : t.kind = 19
 ·obtain ⟨a, b, c, e⟩ := three (hn.2.2.2.1 h19); rw [h19, e]; exact ⟨[[105, 102], [116, 104, 101, 110], [101, 108, 115, 101]], rfl, rfl⟩
 by_cases h20 : t.kind = 20
 ·obtain ⟨a, b, e⟩ := two (hn.2.2.2.2 (by omega)); rw [h20, e]; exact ⟨[[61], [105, 110]], rfl, rfl⟩
 by_cases h21 : t.kind = 21
 ·obtain ⟨a, b, e⟩ := two (hn.2.2.2.2 (by omega)); rw [h21, e]; exact ⟨[last, t.text], rfl, rfl⟩
 have e : t.kids = [] := by
  simp only [aU, f0, h1, h2, h3, h4, h8, h16, h17, h18, h19, h20, h21, h22, if_false] at hl
  split at hl
  ·have : t.kids.length = 0 := by
    split at hl
    ·omega
    ·omega
   exact List.eq_nil_of_length_eq_zero this
  ·omega
 refine ⟨[], by rw [e]; rfl, ?_⟩
 rw [e]
 simp only [spN, h1, h2, h3, h4, h8, h16, h17, h18, h19, h20, h21, h22, if_false]
 rfl
theorem xS : ∀ (ks : List Tree) (ls : List (List UInt8)), ls.length = ks.length → (∀ (i : Nat) (u : Tree), ks[i]? = some u → ∀ l, depK (spT u l) = depK u ∧ cntK (spT u l) = cntK u) → depKs (List.zipWith spT ks ls) = depKs ks ∧ cntKs (List.zipWith spT ks ls) = cntKs ks
 | [], [], h, hu => ⟨rfl, rfl⟩
 | u :: r, l :: ls, h, hu => by
  have := xS r ls (by simpa using h) fun i v hv => hu (i + 1) v (by simpa using hv)
  have h0 := hu 0 u rfl l
  simp only [List.zipWith_cons_cons, depKs, cntKs, this, h0, and_self]
theorem Di : ∀ t : Tree, shapeK t = true → ∀ last, depK (spT t last) = depK t ∧ cntK (spT t last) = cntK t := cw fun t ih hs last => by
 obtain ⟨ls, h1, h2⟩ := Cj hs last
 have := xS t.kids ls h1 fun i u hu l => ih i u hu (aR hs hu).1 l
 rw [uo, uo t, mW, mW t, h2, this.1, this.2]; exact ⟨rfl, rfl⟩
theorem xx : ∀ (l : List TokZ) (x : List UInt8), (cv l x).length = wA l + x.length
 | [], x => by simp [cv, wA]
 | t :: r, x => by simp only [cv, wA, List.length_append, xx r x]; omega
theorem xq {t : Tree} (hk : t.kind = 1) : spT t [] = .node 1 t.text [ah [] (t.leads.getD 0 []) [109, 111, 100, 117, 108, 101], ah [109, 111, 100, 117, 108, 101] (t.leads.getD 1 []) t.text, t.leads.getD 2 []] (iZ (spTs t.kids) (pcTs t.kids) t.text) := by rw [jm, hk]; rfl
theorem yg {t : Tree} (hk : t.kind = 1) (hs : shapeK t = true) (hl : leadedT t = true) (hm : limK t = true) (hd : depK t ≤ 40) (hc : cntK t ≤ 1000000000) (h4 : (dp t).length ≤ 4096) : iN (dp t) (spT t []) 0 0 := by
 have hsc := Ds (dp t) (by omega)
 rw [zJ hk hs hl h4] at hsc
 have hw := xx (tkA [] (pcM t)) (t.leads.getD 2 [])
 rw [← uV hk hs] at hw
 have c : az t.text = 2 := by have hw := dT hs; rw [hk] at hw; simp [dd] at hw; omega
 have hsp := Di t hs []
 have h40 := (ut hm).1 hk
 rw [xq hk] at hsp ⊢
 have e1 : tkA [] (pcM t) = tk [] (t.leads.getD 0 []) [109, 111, 100, 117, 108, 101] :: tk [109, 111, 100, 117, 108, 101] (t.leads.getD 1 []) t.text :: tkA t.text (pcTs t.kids).flatten := rfl
 rw [e1] at hsc hw
 have i0 : Iv (tk [] (t.leads.getD 0 []) [109, 111, 100, 117, 108, 101] :: tk [109, 111, 100, 117, 108, 101] (t.leads.getD 1 []) t.text :: tkA t.text (pcTs t.kids).flatten) ((ah [] (t.leads.getD 0 []) [109, 111, 100, 117, 108, 101]).length : Nat) := by
  rw [BD] at hw
  have hw' : (tk [] (t.leads.getD 0 []) [109, 111, 100, 117, 108, 101]).lead.length = (ah [] (t.leads.getD 0 []) [109, 111, 100, 117, 108, 101]).length := rfl
  exact ⟨by omega, by omega⟩
 have z0 : (0 : Int) ≤ ((dp t).length : Nat) := by omega
 have z1 : (((dp t).length : Nat) : Int) ≤ 4000000000 := by omega
 obtain ⟨o1, q1, i1⟩ := cz (w := [109, 111, 100, 117, 108, 101]) rfl _ _ 0 i0 z0 z1
 obtain ⟨o2, q2, i2⟩ := nS (k := 2) (o2 := 2) (t := tk [109, 111, 100, 117, 108, 101] (t.leads.getD 1 []) t.text) (by simp only [tk]; omega) (by simp only [tk]; omega) o1 _ 0 i1 z0 z1
 obtain ⟨m, o3, q3⟩ := uh (at_ := 0) z0 z1 (a := ah [] (t.leads.getD 0 []) [109, 111, 100, 117, 108, 101]) (b := t.text) (c := ah [109, 111, 100, 117, 108, 101] (t.leads.getD 1 []) t.text) t.kids t.text [] o2 (fun u hu => by
  obtain ⟨i, hi, e⟩ := List.mem_iff_getElem.1 hu
  have hu' : t.kids[i]? = some u := by rw [← e]; exact List.getElem?_eq_getElem hi
  have su := aR hs hu'
  exact ⟨by have := su.2; rw [hk] at this; simpa [db] using this, su.1, go hm hu'⟩) (by simpa using h40) i2
 have hf : gN _ _ _ 0 0 1 t.text [ah [] (t.leads.getD 0 []) [109, 111, 100, 117, 108, 101], ah [109, 111, 100, 117, 108, 101] (t.leads.getD 1 []) t.text, []] (iZ (spTs t.kids) (pcTs t.kids) t.text) [] o3 _ 0 0 := oN m _ _ _ _ _ _ _ _ _ _ _ _ _ _ ⟨by decide, _, _, _, _, _, _, q1, [], rfl, _, _, _, _, _, _, _, q2, [], rfl, q3⟩
 have hdep := Au (.node 1 t.text [ah [] (t.leads.getD 0 []) [109, 111, 100, 117, 108, 101], ah [109, 111, 100, 117, 108, 101] (t.leads.getD 1 []) t.text, []] (iZ (spTs t.kids) (pcTs t.kids) t.text)) (by have := hsp.2; simp only [cntK] at this ⊢; omega)
 have hdk : depK (.node 1 t.text [ah [] (t.leads.getD 0 []) [109, 111, 100, 117, 108, 101], ah [109, 111, 100, 117, 108, 101] (t.leads.getD 1 []) t.text, []] (iZ (spTs t.kids) (pcTs t.kids) t.text)) ≤ 40 := by have := hsp.1; simp only [depK] at this ⊢; omega
 exact tH 1 _ _ _ _ ⟨_, _, _, _, hsc, fun e => absurd rfl e, fun _ => ⟨fun _ => ⟨_, rfl, sy 0 _ _ _ _ _ _ _ ⟨_, _, _, _, _, _, _, _, _, hf, fun e => absurd rfl e, fun _ => ⟨_, hdep, fun e => by omega, fun _ => ⟨[], rfl, rfl, rfl, rfl⟩⟩⟩⟩, fun e => absurd (by simp only [List.map_cons, List.length_cons]; omega) e⟩⟩
theorem zk : ∀ t : Tree, cntK t ≤ 1000000000 → fy t (limK t) := cw fun t ih ht => by
 have hl := uk t.kids
 have hc := mW t
 have kids : ∀ k i, t.kids.length - i ≤ k → aB (k + 1) t i (limKs (t.kids.drop i)) := fun k => by
  have fin : ∀ m i, ¬ i < t.kids.length → aB (m + 1) t i (limKs (t.kids.drop i)) := fun m i hi => gK m _ _ _ ⟨fun h => absurd h hi, fun _ => by rw [List.drop_of_length_le (by omega)]; rfl⟩
  induction k with
  | zero => intro i hi; exact fin 0 i (by omega)
  | succ k ihk =>
   intro i hi
   obtain ⟨u, hu, hul⟩ | h' := aN t.kids i
   ·have := pU hu
    have hb := ih i u hu (by omega)
    rw [bV hu, limKs]
    cases h : limK u with
    | false => rw [h] at hb; exact gK (k + 1) _ _ _ ⟨fun _ => ⟨u, hu, _, hb, fun _ => rfl, fun h => (by cases h)⟩, fun h => absurd hul h⟩
    | true => rw [h] at hb; exact gK (k + 1) _ _ _ ⟨fun _ => ⟨u, hu, _, hb, fun h => (by cases h), fun _ => ⟨by omega, ihk (i + 1) (by omega)⟩⟩, fun h => absurd hul h⟩
   ·exact fin _ i h'
 have hk := kids t.kids.length 0 (by omega)
 rw [List.drop_zero] at hk
 rw [ub]
 by_cases hall : (t.kind = 1 → t.kids.length ≤ 40) ∧ (t.kind = 2 → t.kids.length ≤ 10) ∧ (t.kind = 16 → t.kids.length ≤ 8) ∧ (t.kind = 18 → t.kids.length ≤ 16)
 ·rw [decide_eq_true hall, Bool.true_and]
  refine lV (t.kids.length + 1) _ _ ?_
  repeat' (refine And.intro (fun _ => ?_) (fun _ => ?_))
  all_goals first | exact hk | (exfalso; omega)
 ·rw [decide_eq_false hall, Bool.false_and]
  refine lV (t.kids.length + 1) _ _ ?_
  repeat' (refine And.intro (fun _ => ?_) (fun _ => ?_))
  all_goals first | rfl | (exfalso; omega)
structure Vld (t : Tree) : Prop where
 shape : shapeK t = true
 lead : leadedT t = true
 lim : limK t = true
 dep : depK t ≤ 40
 size : (dp t).length ≤ 4096
theorem wd (t : Tree) (ht : tbulk t ≤ 2000000) : ∃ b, dw t b ∧ (b = true ↔ Vld t) := by
 have hp := rb t (by omega)
 have hcn := cnt_bulk t
 cases h : (shapeK t && leadedT t) with
 | false =>
  rw [h] at hp
  exact ⟨false, fD 0 _ _ ⟨_, hp, fun h => (by cases h), fun _ => rfl⟩, fun h => (by cases h), fun v => by rw [v.shape, v.lead] at h; cases h⟩
 | true =>
  rw [h] at hp
  have hpr := BB t ht
  rw [h, if_pos rfl] at hpr
  simp only [Bool.and_eq_true] at h
  have hb2 := zk t (by omega)
  cases hl : limK t with
  | false =>
   rw [hl] at hb2
   exact ⟨false, fD 0 _ _ ⟨_, hp, fun _ => ⟨_, hb2, fun h => (by cases h), fun _ => rfl⟩, fun h => (by cases h)⟩, fun h => (by cases h), fun v => by rw [v.lim] at hl; cases hl⟩
  | true =>
   rw [hl] at hb2
   have hn := Ap t (by omega)
   by_cases h40 : (depK t : Int) ≤ 40
   ·exact ⟨_, fD 0 _ _ ⟨_, hp, fun _ => ⟨_, hb2, fun _ => ⟨_, hn, fun _ => ⟨_, hpr, rfl⟩, fun h => absurd h40 h⟩, fun h => (by cases h)⟩, fun h => (by cases h)⟩, fun hd => ⟨h.1, h.2, hl, by omega, by have := of_decide_eq_true hd; omega⟩, fun v => decide_eq_true (by have := v.size; omega)⟩
   ·exact ⟨false, fD 0 _ _ ⟨_, hp, fun _ => ⟨_, hb2, fun _ => ⟨_, hn, fun h => absurd h h40, fun _ => rfl⟩, fun h => (by cases h)⟩, fun h => (by cases h)⟩, fun h => (by cases h), fun v => by have := v.dep; omega⟩
theorem so {t : Tree} (hk : t.kind = 1) (ht : tbulk t ≤ 1000000000) (v : Vld t) : iN (dp t) (spT t []) 0 0 := yg hk v.shape v.lead v.lim v.dep (by have := cnt_bulk t; omega) v.size
theorem FA (x : List UInt8) (ls : List (List UInt8)) (us : List Tree) (a b : Tree) (last : List UInt8) : spN 2 x ls (spTs (us ++ [a, b])) (pcTs (us ++ [a, b])) last = .node 2 x ([ah last (ls.getD 0 []) [100, 101, 102], ah [100, 101, 102] (ls.getD 1 []) x, ah x (ls.getD 2 []) [40], ah (ak [40] (aA ls 6 (pcTs us) 0)) (ls.getD 3 []) [41], ah [41] (ls.getD 4 []) [58], ah (ak [58] (pcT a)) (ls.getD 5 []) [61]] ++ ec ls 6 (pcTs us) 0 [40]) (du (spTs us) (pcTs us) 0 [40] ++ [spT a [58], spT b [61]]) := by
 have hg : (pcTs (us ++ [a, b])).length - 2 = us.length := by rw [fQ]; simp
 have g1 : (pcTs (us ++ [a, b])).length - 1 = us.length + 1 := by rw [fQ]; simp
 have ha : (us ++ [a, b])[us.length]? = some a := by simp
 have hb : (us ++ [a, b])[us.length + 1]? = some b := by simp
 have tk : (us ++ [a, b]).take us.length = us := by simp
 show Tree.node 2 _ ([_, _, _, ah (ak [40] (aA ls 6 ((pcTs (us ++ [a, b])).take ((pcTs (us ++ [a, b])).length - 2)) 0)) _ _, _, ah (ak [58] ((pcTs (us ++ [a, b])).getD ((pcTs (us ++ [a, b])).length - 2) [])) _ _] ++ ec ls 6 ((pcTs (us ++ [a, b])).take ((pcTs (us ++ [a, b])).length - 2)) 0 [40]) (du ((spTs (us ++ [a, b])).take ((pcTs (us ++ [a, b])).length - 2)) ((pcTs (us ++ [a, b])).take ((pcTs (us ++ [a, b])).length - 2)) 0 [40] ++ [(spTs (us ++ [a, b])).getD ((pcTs (us ++ [a, b])).length - 2) _ _, (spTs (us ++ [a, b])).getD ((pcTs (us ++ [a, b])).length - 1) _ _]) = _
 rw [hg, g1, ← nz, ← rm, tk, bD ha, cU ha, cU hb]
def GL : List (List UInt8) → List (List UInt8) → Prop
 | [], [] => True
 | a :: r, b :: s => (a = b ∨ a = [32]) ∧ GL r s
 | _, _ => False
theorem Ce (last lead x : List UInt8) : ah last lead x = lead ∨ ah last lead x = [32] := by
 unfold ah
 split
 ·exact .inr rfl
 ·exact .inl rfl
theorem GL.len : ∀ {a b : List (List UInt8)}, GL a b → a.length = b.length
 | [], [], _ => rfl
 | a :: r, b :: s, h => congrArg (· + 1) (GL.len h.2)
theorem GL.s {ls r : List (List UInt8)} {i : Nat} {a : List UInt8} (hi : i < ls.length) (ha : a = ls.getD i [] ∨ a = [32]) (h : GL r (ls.drop (i + 1))) : GL (a :: r) (ls.drop i) := by
 have e : ls.drop i = ls.getD i [] :: ls.drop (i + 1) := by rw [List.drop_eq_getElem_cons hi, List.getD_eq_getElem?_getD, List.getElem?_eq_getElem hi]; rfl
 rw [e]; exact ⟨ha, h⟩
theorem GL.n {ls : List (List UInt8)} {i : Nat} (h : ls.length ≤ i) : GL [] (ls.drop i) := by rw [List.drop_of_length_le h]; trivial
theorem GL.row (ls : List (List UInt8)) (c : Nat) : ∀ (gs : List (List Pce)) (i : Nat) (last : List UInt8), 0 < i → ls.length = c + i - 1 + gs.length → GL (ec ls c gs i last) (ls.drop (c + i - 1))
 | [], i, last, hi, h => GL.n (by simp at h; omega)
 | g :: s, i, last, hi, h => by
  simp only [List.length_cons] at h
  simp only [ec, if_pos hi, List.cons_append, List.nil_append]
  have := GL.row ls c s (i + 1) (ak [44] g) (by omega) (by omega)
  exact GL.s (by omega) (Ce _ _ _) (by rw [show c + i - 1 + 1 = c + (i + 1) - 1 by omega]; exact this)
set_option maxHeartbeats 4000000
def fL (p0 : Tree) (p1 : List UInt8) (r0 : Tree) : Prop := qS 37 [.agg (ae p0), .str p1] (.agg (ae r0))
def fM (p0 r0 : Tree) : Prop := qS 17 [.agg (ae p0)] (.agg (ae r0))
def jI (p0 : Tree) (r0 : Bool) : Prop := qS 36 [.agg (ae p0)] (.bool r0)
def kU (p0 : Tree) (r0 : (List (List UInt8))) : Prop := qS 35 [.agg (ae p0)] (.row 1 (List.map V.str r0))
def lq (p0 p1 : Tree) (r0 : Bool) : Prop := qS 18 [.agg (ae p0), .agg (ae p1)] (.bool r0)
def mX (p0 : (List (List UInt8))) (p1 : (List (List UInt8))) (r0 : Bool) : Prop := qS 38 [.row 1 (List.map V.str p0), .row 1 (List.map V.str p1)] (.bool r0)
def gb (r0 : Bool) : Prop := qS 16 [] (.bool r0)
def jA (p0 : List Int) (r0 : Bool) : Prop := qS 5 [.row 1 (List.map (V.int .i64) p0)] (.bool r0)
def kP (m : Nat) (p0 : Tree) (p1 : List UInt8) (a : Nat) (r0 : Tree) : Prop := ∀ (K : Ctx), aq K [] → Go Tryz.prog K (bodyPost Tryz.prog Tryz.f37 (SP K (fun u _ => u = .agg (ae r0)))) (.ex .normal) [.seq (xA (ac Tryz.f37))] 113 (mkF 113 0 [(1, .str p1), (2, .box (ae p0) 0), (4, .ptr 0 0), (5, .ptr 1 0)]) ⟨3, [(2, .row 9 1 (List.map V.str (List.replicate a ([] : List UInt8)))), (1, .var 25 [.int .i64 p0.kind, .str p0.text, .sl 2, .nils]), (0, vB 0 [])]⟩
def bR (m : Nat) (p0 : Tree) (p1 : List UInt8) (a : (List (List UInt8))) (b c : List UInt8) (r0 : Tree) : Prop := ∀ (K : Ctx), aq K [] → qLG K Tryz.f37 (fun u _ => u = .agg (ae r0)) (xJ (ac Tryz.f37)) [] 113 (mkF 113 0 [(1, .str p1), (2, .box (ae p0) 0), (4, .ptr 0 0), (5, .ptr 1 0), (6, .str b), (7, .str c)]) ⟨3, [(2, .row 9 1 (List.map V.str a)), (1, .var 25 [.int .i64 p0.kind, .str p0.text, .sl 2, .nils]), (0, vB 0 [])]⟩
def kQ (m : Nat) (p0 : Tree) (p1 : List UInt8) (a : Nat) (b : Bool) (r0 : Tree) : Prop := ∀ (K : Ctx), aq K [] → qLG K Tryz.f37 (fun u _ => u = .agg (ae r0)) (cB (xC (xG (cB (ac Tryz.f37))))) [.blk 0, .seq (xJ (ac Tryz.f37))] 113 (mkF 113 0 [(1, .str p1), (2, .box (ae p0) 0), (4, .ptr 0 0), (5, .ptr 1 0), (6, .str [32]), (7, .str [32]), (24, .int .i64 p0.kind), (45, .bool b)]) ⟨3, [(2, .row 9 1 (List.map V.str (List.replicate a ([] : List UInt8)))), (1, .var 25 [.int .i64 p0.kind, .str p0.text, .sl 2, .nils]), (0, vB 0 [])]⟩
def cQ (m : Nat) (p0 : Tree) (a b : List UInt8) (c : (List (List UInt8))) (d : List Tree) (e : Nat) (r0 : Tree) : Prop := ∀ (K : Ctx) (j1 : Nat), aq K [] → m ≤ j1 → qLG K Tryz.f37 (fun u _ => u = .agg (ae r0)) (xI (xH (ac Tryz.f37))) [.loop (xI (xH (ac Tryz.f37))) j1, .blk 1, .seq (xJ (xA (ac Tryz.f37)))] 113 (mkF 113 0 [(4, .ptr 0 0), (5, .ptr 1 0), (6, .str a), (7, .str b), (92, .row 4 (kidsV p0.kids)), (93, .int .i64 (p0.kids.length : Int)), (94, .int .i64 (e : Int))]) ⟨4, [(3, .row 25 4 (kidsV d)), (2, .row 9 1 (List.map V.str c)), (1, .var 25 [.int .i64 p0.kind, .str p0.text, .sl 2, .sl 3]), (0, vB 0 [])]⟩
def fp (m : Nat) (p0 : Tree) (p1 : List UInt8) (a : Nat) (b : Bool) (r0 : Tree) : Prop := ∀ (K : Ctx), aq K [] → qLG K Tryz.f37 (fun u _ => u = .agg (ae r0)) (cB (xD (xG (cB (ac Tryz.f37))))) [.blk 0, .seq (xJ (ac Tryz.f37))] 113 (mkF 113 0 [(1, .str p1), (2, .box (ae p0) 0), (4, .ptr 0 0), (5, .ptr 1 0), (6, .str [32]), (7, .str [32]), (24, .int .i64 p0.kind), (65, .bool b)]) ⟨3, [(2, .row 9 1 (List.map V.str (List.replicate a ([] : List UInt8)))), (1, .var 25 [.int .i64 p0.kind, .str p0.text, .sl 2, .nils]), (0, vB 0 [])]⟩
theorem rU (m : Nat) (p0 : Tree) (p1 : List UInt8) (r0 : Tree) (h : ∃ c, iD p0.kind (p0.kids.length : Int) c ∧ ∃ a, c = ((a : Nat) : Int) ∧ a ≤ 1000000000 ∧ kP m p0 p1 a r0) : fL p0 p1 r0 := by
 refine ⟨rfl, rfl, ?_⟩
 refine am 113 [] Tryz.func37 rfl rfl rfl (aL rfl) fun K hK => ?_
 refine gR 3 rfl <| gFP 0 rfl rfl rfl rfl <| gR 4 rfl <| gDs [] 13 14 rfl (by kernel_rfl) (by kernel_rfl) <| gDr [(0, 2), (1, 2), (2, 2), (3, 2), (4, 2), (5, 2), (6, 2), (7, 2), (8, 2)] (by kernel_rfl) rfl rfl <| gV 19 (.int .i64 (p0.kids.length : Int)) rfl (bF (aE _)) rfl <| gLB 18 rfl (aE _) fun hl54 => ?_
 obtain ⟨c, hs55, h⟩ := h
 apply lL (i := 9) (j := 12) (by kernel_rfl) rfl rfl rfl rfl
 exact (oW (L' := []) (by kernel_rfl) rfl rfl (vh hs55 .rfl [] rfl) (.inl rfl))
 exact (jV ab rfl rfl)
 obtain ⟨a, b, h⟩ := h
 refine gV 20 (.int .i64 ((a : Nat) : Int)) rfl (je b) rfl ?_
 obtain ⟨hb, h⟩ := h
 have hb56 := hb
 apply lL (i := 10) (j := 12) (by kernel_rfl) rfl rfl rfl rfl
 exact (uF (.new (.row 9 1 (List.replicate a (.str [])))) (dMk ab rfl rfl rfl rfl rfl rfl rfl (by kernel_rfl) hb56) trivial (by kernel_rfl))
 exact (jV ab rfl rfl)
 exact gHR 2 (List.map V.str (List.replicate a ([] : List UInt8))) rfl (by first | (simp only [bb, List.map_replicate]; done) | (simp only [bb, List.map_replicate]; rfl)) rfl <| gDr [(11, 2), (12, 0), (13, 1)] (by kernel_rfl) rfl rfl <| gDe (by kernel_rfl) <| gJ (h K hK) [1, 3, 2] [] rfl hK pq4 ⟨⟨_, rfl, rfl, rfl, (vH _ (List.replicate a ([] : List UInt8))).symm⟩, (pqo2 rfl rfl rfl rfl)⟩ rfl
 refine aD 10 (.new (.row 9 1 (List.replicate a (.str [])))) rfl (by kernel_rfl) (dMk ab rfl rfl rfl rfl rfl rfl rfl (by kernel_rfl) hb56) trivial rfl (by kernel_rfl) rfl rfl ?_
 exact gHR 3 (List.map V.str (List.replicate a ([] : List UInt8))) rfl (by first | (simp only [bb, List.map_replicate]; done) | (simp only [bb, List.map_replicate]; rfl)) rfl <| gDr [(11, 0), (13, 1)] (by kernel_rfl) rfl rfl <| gDe (by kernel_rfl) <| gJ (h K hK) [1, 2, 3] [] rfl hK pq4 ⟨⟨_, rfl, rfl, rfl, (vH _ (List.replicate a ([] : List UInt8))).symm⟩, (pqo2 rfl rfl rfl rfl)⟩ rfl
 refine cf 9 hs55 (by kernel_rfl) rfl (by kernel_rfl) rfl rfl .rfl rfl rfl ?_
 obtain ⟨a, b, h⟩ := h
 refine gV 20 (.int .i64 ((a : Nat) : Int)) rfl (je b) rfl ?_
 obtain ⟨hb, h⟩ := h
 refine aD 10 (.new (.row 9 1 (List.replicate a (.str [])))) rfl (by kernel_rfl) (dMk ab rfl rfl rfl rfl rfl rfl rfl (by kernel_rfl) hb) trivial rfl (by kernel_rfl) rfl rfl ?_
 exact gHR 3 (List.map V.str (List.replicate a ([] : List UInt8))) rfl (by first | (simp only [bb, List.map_replicate]; done) | (simp only [bb, List.map_replicate]; rfl)) rfl <| gDr [(11, 0), (13, 1)] (by kernel_rfl) rfl rfl <| gDe (by kernel_rfl) <| gJ (h K hK) [1, 2, 3] [] rfl hK pq4 ⟨⟨_, rfl, rfl, rfl, (vH _ (List.replicate a ([] : List UInt8))).symm⟩, (pqo2 rfl rfl rfl rfl)⟩ rfl
theorem bn (m : Nat) (p0 : Tree) (p1 : List UInt8) (a : Nat) (r0 : Tree) (h : ((p0.kind = 1) → ∃ b, (List.replicate a ([] : List UInt8))[1]? = some b ∧ ∃ c, ((List.replicate a ([] : List UInt8)).set 1 [32])[2]? = some c ∧ bR m p0 p1 (((List.replicate a ([] : List UInt8)).set 1 [32]).set 2 [10]) [10, 10] [10, 10] r0) ∧ ((p0.kind ≠ 1) → ((p0.kind = 2) → ∃ d, (List.replicate a ([] : List UInt8))[1]? = some d ∧ ∃ e, ((List.replicate a ([] : List UInt8)).set 1 [32])[5]? = some e ∧ ((2 < (p0.kids.length : Int)) → bR m p0 p1 (((List.replicate a ([] : List UInt8)).set 1 [32]).set 5 [32]) [] [32] r0) ∧ ((¬ 2 < (p0.kids.length : Int)) → bR m p0 p1 (((List.replicate a ([] : List UInt8)).set 1 [32]).set 5 [32]) [32] [32] r0)) ∧ ((p0.kind ≠ 2) → ((p0.kind = 3) → kQ m p0 p1 a true r0) ∧ ((p0.kind ≠ 3) → kQ m p0 p1 a (p0.kind == 19) r0)))) : kP (m + 1) p0 p1 a r0 := by
 intro K hK
 refine gR 21 rfl <| qBeZ 25 26 rfl rfl rfl rfl h (fun h => ?_) fun h => ?_
 refine gR 2 rfl <| gDs [1] 7 8 rfl (by kernel_rfl) (by kernel_rfl) <| gDr [(0, 2), (1, 3), (2, 2), (3, 3)] (by kernel_rfl) rfl rfl ?_
 obtain ⟨b, hxs1_1, h⟩ := h
 refine bi 4 rfl (by kernel_rfl) (yIO ab rfl rfl rfl rfl (by have := (mapget (f := V.str) hxs1_1); exact (List.getElem?_eq_some_iff.1 this).1)) rfl rfl ?_
 refine aD 5 (.set 2 (.row 9 1 (List.map V.str ((List.replicate a ([] : List UInt8)).set 1 [32])))) rfl (by kernel_rfl) (dSe ab rfl rfl rfl rfl (mapget (f := V.str) hxs1_1) rfl (bC V.str (List.replicate a ([] : List UInt8)) 1 [32])) (okS rfl) rfl (by kernel_rfl) rfl rfl ?_
 obtain ⟨c, hxs1_2, h⟩ := h
 refine bi 6 rfl (by kernel_rfl) (yIO ab rfl rfl rfl rfl (by have := (mapget (f := V.str) hxs1_2); exact (List.getElem?_eq_some_iff.1 this).1)) rfl rfl ?_
 refine aD 7 (.set 2 (.row 9 1 (List.map V.str (((List.replicate a ([] : List UInt8)).set 1 [32]).set 2 [10])))) rfl (by kernel_rfl) (dSe ab rfl rfl rfl rfl (mapget (f := V.str) hxs1_2) rfl (bC V.str ((List.replicate a ([] : List UInt8)).set 1 [32]) 2 [10])) (okS rfl) rfl (by kernel_rfl) rfl rfl ?_
 exact gDe (by kernel_rfl) <| gR 7 rfl <| gJ (h K hK) [0, 1, 2] [] rfl hK pq6 ⟨⟨_, rfl, rfl, rfl, (vH _ (((List.replicate a ([] : List UInt8)).set 1 [32]).set 2 [10])).symm⟩, (pqo2 rfl rfl rfl rfl)⟩ rfl
 refine gR 7 rfl <| qBeZ 33 34 rfl rfl rfl rfl h (fun h => ?_) fun h => ?_
 refine gR 2 rfl <| gDs [1] 7 8 rfl (by kernel_rfl) (by kernel_rfl) <| gDr [(0, 2), (1, 3), (2, 2), (3, 3)] (by kernel_rfl) rfl rfl ?_
 obtain ⟨d, hxs1_3, h⟩ := h
 refine bi 4 rfl (by kernel_rfl) (yIO ab rfl rfl rfl rfl (by have := (mapget (f := V.str) hxs1_3); exact (List.getElem?_eq_some_iff.1 this).1)) rfl rfl ?_
 refine aD 5 (.set 2 (.row 9 1 (List.map V.str ((List.replicate a ([] : List UInt8)).set 1 [32])))) rfl (by kernel_rfl) (dSe ab rfl rfl rfl rfl (mapget (f := V.str) hxs1_3) rfl (bC V.str (List.replicate a ([] : List UInt8)) 1 [32])) (okS rfl) rfl (by kernel_rfl) rfl rfl ?_
 obtain ⟨e, hxs1_4, h⟩ := h
 refine bi 6 rfl (by kernel_rfl) (yIO ab rfl rfl rfl rfl (by have := (mapget (f := V.str) hxs1_4); exact (List.getElem?_eq_some_iff.1 this).1)) rfl rfl ?_
 refine aD 7 (.set 2 (.row 9 1 (List.map V.str (((List.replicate a ([] : List UInt8)).set 1 [32]).set 5 [32])))) rfl (by kernel_rfl) (dSe ab rfl rfl rfl rfl (mapget (f := V.str) hxs1_4) rfl (bC V.str ((List.replicate a ([] : List UInt8)).set 1 [32]) 5 [32])) (okS rfl) rfl (by kernel_rfl) rfl rfl ?_
 refine gDe (by kernel_rfl) <| gR 6 rfl <| gV 43 (.int .i64 (p0.kids.length : Int)) rfl (bF (aE _)) rfl <| gLB 42 rfl (aE _) fun hl57 => gR 3 rfl <| qBd 44 rfl rfl rfl h (fun h => ?_) fun h => ?_
 exact gR 6 rfl <| gJ (h K hK) [0, 1, 2] [] rfl hK pq6 ⟨⟨_, rfl, rfl, rfl, (vH _ (((List.replicate a ([] : List UInt8)).set 1 [32]).set 5 [32])).symm⟩, (pqo2 rfl rfl rfl rfl)⟩ rfl
 exact gR 4 rfl <| gJ (h K hK) [0, 1, 2] [] rfl hK pq6 ⟨⟨_, rfl, rfl, rfl, (vH _ (((List.replicate a ([] : List UInt8)).set 1 [32]).set 5 [32])).symm⟩, (pqo2 rfl rfl rfl rfl)⟩ rfl
 refine gR 8 rfl <| qBeZ 45 46 rfl rfl rfl rfl h (fun h => ?_) fun h => ?_
 exact gR 3 rfl <| gJ (h K hK) [0, 1, 2] [] rfl hK pq8 ⟨⟨_, rfl, rfl, rfl, (vH _ (List.replicate a ([] : List UInt8))).symm⟩, (pqo2 rfl rfl rfl rfl)⟩ rfl
 exact gR 6 rfl <| gJ (h K hK) [0, 1, 2] [] rfl hK pq8 ⟨⟨_, rfl, rfl, rfl, (vH _ (List.replicate a ([] : List UInt8))).symm⟩, (pqo2 rfl rfl rfl rfl)⟩ rfl
theorem jR (m : Nat) (p0 : Tree) (p1 : List UInt8) (a : (List (List UInt8))) (b c : List UInt8) (r0 : Tree) (h : ((p0.kind ≠ 21) → ((p0.kind ≠ 17) → ∃ d, a[0]? = some d ∧ cQ m p0 b c (a.set 0 p1) ([] : List Tree) 0 r0) ∧ ((p0.kind = 17) → cQ m p0 b c a ([] : List Tree) 0 r0)) ∧ ((p0.kind = 21) → cQ m p0 b c a ([] : List Tree) 0 r0)) : bR (m + 1) p0 p1 a b c r0 := by
 intro K hK
 refine gR 7 rfl <| gB 82 rfl rfl rfl ?_ ?_ <;> intro hd
 refine gT 81 rfl hd rfl ?_
 replace hd := (eF hd)
 replace h := h.1 hd
 refine gR 6 rfl <| gB 86 rfl rfl rfl ?_ ?_ <;> intro hd
 replace hd := (eF hd)
 replace h := h.1 hd
 refine gR 5 rfl ?_
 obtain ⟨d, hxs2_1, h⟩ := h
 refine gY (yIO ab rfl rfl rfl rfl (by have := (mapget (f := V.str) hxs2_1); exact (List.getElem?_eq_some_iff.1 this).1)) rfl rfl ?_
 exact gDo (.set 2 (.row 9 1 (List.map V.str (a.set 0 p1)))) (dSe ab rfl rfl rfl rfl (mapget (f := V.str) hxs2_1) rfl (bC V.str a 0 p1)) (okS rfl) rfl rfl rfl <| gR 8 rfl <| gV 93 (.int .i64 (p0.kids.length : Int)) rfl (bF (aE _)) rfl <| gLB 92 rfl (aE _) fun hl58 => gR 4 rfl <| go_loop m <| gNC 1 3 25 4 rfl rfl rfl rfl <| gJ (h K _ hK (by omega)) [0, 1, 2, 3] [] rfl hK pq7 ⟨⟨_, rfl, rfl, rfl, rfl⟩, ⟨_, rfl, rfl, rfl, (vH _ (a.set 0 p1)).symm⟩, (pqo2 rfl rfl rfl rfl)⟩ rfl
 replace hd := (dl hd)
 replace h := h.2 hd
 exact gR 9 rfl <| gV 93 (.int .i64 (p0.kids.length : Int)) rfl (bF (aE _)) rfl <| gLB 92 rfl (aE _) fun hl59 => gR 4 rfl <| go_loop m <| gNC 1 3 25 4 rfl rfl rfl rfl <| gJ (h K _ hK (by omega)) [0, 1, 2, 3] [] rfl hK pq7 ⟨⟨_, rfl, rfl, rfl, rfl⟩, ⟨_, rfl, rfl, rfl, (vH _ a).symm⟩, (pqo2 rfl rfl rfl rfl)⟩ rfl
 refine gF 81 rfl hd rfl ?_
 replace hd := (dl hd)
 replace h := h.2 hd
 exact gR 15 rfl <| gV 93 (.int .i64 (p0.kids.length : Int)) rfl (bF (aE _)) rfl <| gLB 92 rfl (aE _) fun hl60 => gR 4 rfl <| go_loop m <| gNC 1 3 25 4 rfl rfl rfl rfl <| gJ (h K _ hK (by omega)) [0, 1, 2, 3] [] rfl hK pq7 ⟨⟨_, rfl, rfl, rfl, rfl⟩, ⟨_, rfl, rfl, rfl, (vH _ a).symm⟩, (pqo2 rfl rfl rfl rfl)⟩ rfl
theorem bW (m : Nat) (p0 : Tree) (p1 : List UInt8) (a : Nat) (b : Bool) (r0 : Tree) (h : ((b = true) → ∃ c, (List.replicate a ([] : List UInt8))[1]? = some c ∧ ∃ d, ((List.replicate a ([] : List UInt8)).set 1 [32])[2]? = some d ∧ bR m p0 p1 (((List.replicate a ([] : List UInt8)).set 1 [32]).set 2 [32]) [32] [32] r0) ∧ ((b = false) → ((p0.kind = 20) → ∃ e, (List.replicate a ([] : List UInt8))[1]? = some e ∧ ∃ g, ((List.replicate a ([] : List UInt8)).set 1 [32])[2]? = some g ∧ ∃ i, (((List.replicate a ([] : List UInt8)).set 1 [32]).set 2 [32])[3]? = some i ∧ bR m p0 p1 ((((List.replicate a ([] : List UInt8)).set 1 [32]).set 2 [32]).set 3 [32]) [32] [32] r0) ∧ ((p0.kind ≠ 20) → ((p0.kind = 8) → fp m p0 p1 a true r0) ∧ ((p0.kind ≠ 8) → ((p0.kind = 16) → fp m p0 p1 a true r0) ∧ ((p0.kind ≠ 16) → ((p0.kind = 18) → fp m p0 p1 a true r0) ∧ ((p0.kind ≠ 18) → fp m p0 p1 a (p0.kind == 22) r0)))))) : kQ (m + 1) p0 p1 a b r0 := by
 intro K hK
 refine qBi 45 rfl rfl rfl h (fun h => ?_) fun h => ?_
 refine gR 1 rfl <| gDs [1] 7 8 rfl (by kernel_rfl) (by kernel_rfl) <| gDr [(0, 2), (1, 3), (2, 2), (3, 3)] (by kernel_rfl) rfl rfl ?_
 obtain ⟨c, hxs3_1, h⟩ := h
 refine bi 4 rfl (by kernel_rfl) (yIO ab rfl rfl rfl rfl (by have := (mapget (f := V.str) hxs3_1); exact (List.getElem?_eq_some_iff.1 this).1)) rfl rfl ?_
 refine aD 5 (.set 2 (.row 9 1 (List.map V.str ((List.replicate a ([] : List UInt8)).set 1 [32])))) rfl (by kernel_rfl) (dSe ab rfl rfl rfl rfl (mapget (f := V.str) hxs3_1) rfl (bC V.str (List.replicate a ([] : List UInt8)) 1 [32])) (okS rfl) rfl (by kernel_rfl) rfl rfl ?_
 obtain ⟨d, hxs3_2, h⟩ := h
 refine bi 6 rfl (by kernel_rfl) (yIO ab rfl rfl rfl rfl (by have := (mapget (f := V.str) hxs3_2); exact (List.getElem?_eq_some_iff.1 this).1)) rfl rfl ?_
 refine aD 7 (.set 2 (.row 9 1 (List.map V.str (((List.replicate a ([] : List UInt8)).set 1 [32]).set 2 [32])))) rfl (by kernel_rfl) (dSe ab rfl rfl rfl rfl (mapget (f := V.str) hxs3_2) rfl (bC V.str ((List.replicate a ([] : List UInt8)).set 1 [32]) 2 [32])) (okS rfl) rfl (by kernel_rfl) rfl rfl ?_
 exact gDe (by kernel_rfl) <| gR 2 rfl <| gJ (h K hK) [0, 1, 2] [] rfl hK pq6 ⟨⟨_, rfl, rfl, rfl, (vH _ (((List.replicate a ([] : List UInt8)).set 1 [32]).set 2 [32])).symm⟩, (pqo2 rfl rfl rfl rfl)⟩ rfl
 refine gR 7 rfl <| qBeZ 54 55 rfl rfl rfl rfl h (fun h => ?_) fun h => ?_
 refine gR 1 rfl <| gDs [1] 11 12 rfl (by kernel_rfl) (by kernel_rfl) <| gDr [(0, 2), (1, 3), (2, 2), (3, 3), (4, 2), (5, 3)] (by kernel_rfl) rfl rfl ?_
 obtain ⟨e, hxs3_3, h⟩ := h
 refine bi 6 rfl (by kernel_rfl) (yIO ab rfl rfl rfl rfl (by have := (mapget (f := V.str) hxs3_3); exact (List.getElem?_eq_some_iff.1 this).1)) rfl rfl ?_
 refine aD 7 (.set 2 (.row 9 1 (List.map V.str ((List.replicate a ([] : List UInt8)).set 1 [32])))) rfl (by kernel_rfl) (dSe ab rfl rfl rfl rfl (mapget (f := V.str) hxs3_3) rfl (bC V.str (List.replicate a ([] : List UInt8)) 1 [32])) (okS rfl) rfl (by kernel_rfl) rfl rfl ?_
 obtain ⟨g, hxs3_4, h⟩ := h
 refine bi 8 rfl (by kernel_rfl) (yIO ab rfl rfl rfl rfl (by have := (mapget (f := V.str) hxs3_4); exact (List.getElem?_eq_some_iff.1 this).1)) rfl rfl ?_
 refine aD 9 (.set 2 (.row 9 1 (List.map V.str (((List.replicate a ([] : List UInt8)).set 1 [32]).set 2 [32])))) rfl (by kernel_rfl) (dSe ab rfl rfl rfl rfl (mapget (f := V.str) hxs3_4) rfl (bC V.str ((List.replicate a ([] : List UInt8)).set 1 [32]) 2 [32])) (okS rfl) rfl (by kernel_rfl) rfl rfl ?_
 obtain ⟨i, hxs3_5, h⟩ := h
 refine bi 10 rfl (by kernel_rfl) (yIO ab rfl rfl rfl rfl (by have := (mapget (f := V.str) hxs3_5); exact (List.getElem?_eq_some_iff.1 this).1)) rfl rfl ?_
 refine aD 11 (.set 2 (.row 9 1 (List.map V.str ((((List.replicate a ([] : List UInt8)).set 1 [32]).set 2 [32]).set 3 [32])))) rfl (by kernel_rfl) (dSe ab rfl rfl rfl rfl (mapget (f := V.str) hxs3_5) rfl (bC V.str (((List.replicate a ([] : List UInt8)).set 1 [32]).set 2 [32]) 3 [32])) (okS rfl) rfl (by kernel_rfl) rfl rfl ?_
 exact gDe (by kernel_rfl) <| gR 2 rfl <| gJ (h K hK) [0, 1, 2] [] rfl hK pq6 ⟨⟨_, rfl, rfl, rfl, (vH _ ((((List.replicate a ([] : List UInt8)).set 1 [32]).set 2 [32]).set 3 [32])).symm⟩, (pqo2 rfl rfl rfl rfl)⟩ rfl
 refine gR 8 rfl <| qBeZ 65 66 rfl rfl rfl rfl h (fun h => ?_) fun h => ?_
 exact gR 3 rfl <| gJ (h K hK) [0, 1, 2] [] rfl hK pq8 ⟨⟨_, rfl, rfl, rfl, (vH _ (List.replicate a ([] : List UInt8))).symm⟩, (pqo2 rfl rfl rfl rfl)⟩ rfl
 refine gR 7 rfl <| qBeZ 65 67 rfl rfl rfl rfl h (fun h => ?_) fun h => ?_
 exact gR 3 rfl <| gJ (h K hK) [0, 1, 2] [] rfl hK pq8 ⟨⟨_, rfl, rfl, rfl, (vH _ (List.replicate a ([] : List UInt8))).symm⟩, (pqo2 rfl rfl rfl rfl)⟩ rfl
 refine gR 7 rfl <| qBeZ 65 68 rfl rfl rfl rfl h (fun h => ?_) fun h => ?_
 exact gR 3 rfl <| gJ (h K hK) [0, 1, 2] [] rfl hK pq8 ⟨⟨_, rfl, rfl, rfl, (vH _ (List.replicate a ([] : List UInt8))).symm⟩, (pqo2 rfl rfl rfl rfl)⟩ rfl
 exact gR 6 rfl <| gJ (h K hK) [0, 1, 2] [] rfl hK pq8 ⟨⟨_, rfl, rfl, rfl, (vH _ (List.replicate a ([] : List UInt8))).symm⟩, (pqo2 rfl rfl rfl rfl)⟩ rfl
theorem jJ (m : Nat) (p0 : Tree) (f g : List UInt8) (c : (List (List UInt8))) (a : List Tree) (b : Nat) (r0 : Tree) (h : ((b < p0.kids.length) → ∃ i, p0.kids[b]? = some i ∧ (((b : Int) = 0) → ∃ d, fL i f d ∧ (a ++ [d]).length ≤ 1000000000 ∧ b + 1 ≤ 9223372036854775807 ∧ cQ m p0 f g c (a ++ [d]) (b + 1) r0) ∧ (((b : Int) ≠ 0) → ∃ e, fL i g e ∧ (a ++ [e]).length ≤ 1000000000 ∧ b + 1 ≤ 9223372036854775807 ∧ cQ m p0 f g c (a ++ [e]) (b + 1) r0)) ∧ ((¬ b < p0.kids.length) → (Tree.node p0.kind p0.text c a) = r0)) : cQ (m + 1) p0 f g c a b r0 := by
 intro K j1 hK hj1
 obtain ⟨j1, rfl⟩ : ∃ j, j1 = j + 1 := ⟨j1 - 1, by omega⟩
 refine gR 6 rfl <| gB 95 rfl rfl rfl ?_ ?_ <;> intro hd
 replace hd := (fh hd)
 replace h := h.1 hd
 refine gR 8 rfl ?_
 obtain ⟨i, hxt4_1, h⟩ := h
 refine gY (aI (av hxt4_1) ab rfl rfl rfl rfl) rfl rfl <| gR 19 rfl <| gB 101 rfl rfl rfl ?_ ?_ <;> intro hd
 replace hd := (eq_of_beq hd)
 replace h := h.1 hd
 refine gR 6 rfl <| gDs [1, 4] 8 9 rfl (by kernel_rfl) (by kernel_rfl) <| gDr [(0, 2), (1, 3), (2, 3), (3, 0)] (by kernel_rfl) rfl rfl ?_
 obtain ⟨d, hs61, h⟩ := h
 refine cf 4 hs61 (by kernel_rfl) rfl (by kernel_rfl) rfl rfl .rfl rfl rfl ?_
 refine gDr [(5, 0)] (by kernel_rfl) rfl rfl <| gHR 5 (kidsV [d]) rfl (ct d) rfl ?_
 obtain ⟨hb, h⟩ := h
 refine aD 6 (.repl 3 (.row 25 4 (kidsV (a ++ [d])))) rfl (by kernel_rfl) (bj ab rfl rfl rfl rfl rfl (bo a [d]).symm (by rw [aE]; exact hb)) (okR rfl) rfl (by kernel_rfl) rfl rfl ?_
 refine gDr [(7, 0), (8, 1)] (by kernel_rfl) rfl rfl <| gDe (by kernel_rfl) <| gR 3 rfl ?_
 obtain ⟨hb, h⟩ := h
 exact gR 1 rfl <| gV 111 (.int .i64 ((b + 1 : Nat) : Int)) rfl (ax (by omega) (by omega)) rfl <| gR 2 rfl <| go_xloop <| gJ (h K _ hK (by omega)) [0, 1, 2, 6] [] rfl hK pq7 ⟨⟨_, rfl, rfl, rfl, (ba _ (a ++ [d])).symm⟩, ⟨_, rfl, rfl, rfl, (vH _ c).symm⟩, (pqo2 rfl rfl rfl rfl)⟩ rfl
 replace hd := (ne_of_beq_false hd)
 replace h := h.2 hd
 refine gR 3 rfl <| gDs [1, 4] 8 9 rfl (by kernel_rfl) (by kernel_rfl) <| gDr [(0, 2), (1, 3), (2, 3), (3, 0)] (by kernel_rfl) rfl rfl ?_
 obtain ⟨e, hs62, h⟩ := h
 refine cf 4 hs62 (by kernel_rfl) rfl (by kernel_rfl) rfl rfl .rfl rfl rfl ?_
 refine gDr [(5, 0)] (by kernel_rfl) rfl rfl <| gHR 5 (kidsV [e]) rfl (ct e) rfl ?_
 obtain ⟨hb, h⟩ := h
 refine aD 6 (.repl 3 (.row 25 4 (kidsV (a ++ [e])))) rfl (by kernel_rfl) (bj ab rfl rfl rfl rfl rfl (bo a [e]).symm (by rw [aE]; exact hb)) (okR rfl) rfl (by kernel_rfl) rfl rfl ?_
 refine gDr [(7, 0), (8, 1)] (by kernel_rfl) rfl rfl <| gDe (by kernel_rfl) <| gR 3 rfl ?_
 obtain ⟨hb, h⟩ := h
 exact gR 1 rfl <| gV 111 (.int .i64 ((b + 1 : Nat) : Int)) rfl (ax (by omega) (by omega)) rfl <| gR 2 rfl <| go_xloop <| gJ (h K _ hK (by omega)) [0, 1, 2, 6] [] rfl hK pq7 ⟨⟨_, rfl, rfl, rfl, (ba _ (a ++ [e])).symm⟩, ⟨_, rfl, rfl, rfl, (vH _ c).symm⟩, (pqo2 rfl rfl rfl rfl)⟩ rfl
 replace hd := (fo hd)
 replace h := h.2 hd
 refine gR 3 rfl <| go_xloopE <| gR 9 rfl <| gFR 2 rfl (dn _ (fun _ => rfl) _) rfl rfl <| gFR 3 rfl (ca _) rfl rfl ?_
 subst h
 exact go_sub (F' := (mkF 113 0 [(4, .ptr 0 0)])) (H' := ⟨1, [(0, vE ((Tree.node p0.kind p0.text c a).kind) ((Tree.node p0.kind p0.text c a).text) ((Tree.node p0.kind p0.text c a).leads) ((Tree.node p0.kind p0.text c a).kids))]⟩) [0] [] rfl hK pq1 (pqo1 rfl rfl) rfl <| go_end ab (rs := [.cell 4 25]) rfl rfl rfl
theorem df (m : Nat) (p0 : Tree) (p1 : List UInt8) (a : Nat) (b : Bool) (r0 : Tree) (h : ((b = true) → bR m p0 p1 (List.replicate a ([] : List UInt8)) [] [32] r0) ∧ ((b = false) → ((p0.kind = 17) → bR m p0 p1 (List.replicate a ([] : List UInt8)) p1 [32] r0) ∧ ((p0.kind ≠ 17) → ((p0.kind = 21) → ∃ c, (List.replicate a ([] : List UInt8))[0]? = some c ∧ bR m p0 p1 ((List.replicate a ([] : List UInt8)).set 0 [32]) p1 [32] r0) ∧ ((p0.kind ≠ 21) → bR m p0 p1 (List.replicate a ([] : List UInt8)) [32] [32] r0)))) : fp (m + 1) p0 p1 a b r0 := by
 intro K hK
 refine qBi 65 rfl rfl rfl h (fun h => ?_) fun h => ?_
 exact gR 6 rfl <| gJ (h K hK) [0, 1, 2] [] rfl hK pq6 ⟨⟨_, rfl, rfl, rfl, (vH _ (List.replicate a ([] : List UInt8))).symm⟩, (pqo2 rfl rfl rfl rfl)⟩ rfl
 refine gR 7 rfl <| qBeZ 70 71 rfl rfl rfl rfl h (fun h => ?_) fun h => ?_
 exact gR 7 rfl <| gJ (h K hK) [0, 1, 2] [] rfl hK pq6 ⟨⟨_, rfl, rfl, rfl, (vH _ (List.replicate a ([] : List UInt8))).symm⟩, (pqo2 rfl rfl rfl rfl)⟩ rfl
 refine gR 7 rfl <| qBeZ 73 74 rfl rfl rfl rfl h (fun h => ?_) fun h => ?_
 refine gR 5 rfl ?_
 obtain ⟨c, hxs5_1, h⟩ := h
 refine gY (yIO ab rfl rfl rfl rfl (by have := (mapget (f := V.str) hxs5_1); exact (List.getElem?_eq_some_iff.1 this).1)) rfl rfl ?_
 exact gDo (.set 2 (.row 9 1 (List.map V.str ((List.replicate a ([] : List UInt8)).set 0 [32])))) (dSe ab rfl rfl rfl rfl (mapget (f := V.str) hxs5_1) rfl (bC V.str (List.replicate a ([] : List UInt8)) 0 [32])) (okS rfl) rfl rfl rfl <| gR 8 rfl <| gJ (h K hK) [0, 1, 2] [] rfl hK pq6 ⟨⟨_, rfl, rfl, rfl, (vH _ ((List.replicate a ([] : List UInt8)).set 0 [32])).symm⟩, (pqo2 rfl rfl rfl rfl)⟩ rfl
 exact gR 4 rfl <| gJ (h K hK) [0, 1, 2] [] rfl hK pq6 ⟨⟨_, rfl, rfl, rfl, (vH _ (List.replicate a ([] : List UInt8))).symm⟩, (pqo2 rfl rfl rfl rfl)⟩ rfl
theorem rV (m : Nat) (p0 r0 : Tree) (h : ∃ b, ff p0 b ∧ ((b = false) → (Tree.node 0 [] [] []) = r0) ∧ ((b = true) → ∃ a, fL p0 [] a ∧ a = r0)) : fM p0 r0 := by
 refine ⟨rfl, rfl, ?_⟩
 refine am 9 [] Tryz.func17 rfl rfl rfl (aL rfl) fun K hK => ?_
 refine gR 3 rfl <| gFP 0 rfl rfl rfl rfl <| gR 7 rfl ?_
 obtain ⟨b, hs3, h⟩ := h
 refine gC0 hs3 (by kernel_rfl) rfl rfl .rfl rfl <| gR 3 rfl <| qBh 5 rfl rfl rfl h dD dC (fun h => ?_) fun h => ?_
 refine gR 9 rfl ?_
 subst h
 exact go_sub (F' := (mkF 9 0 [(2, .ptr 0 0)])) (H' := ⟨1, [(0, vE ((Tree.node 0 [] [] []).kind) ((Tree.node 0 [] [] []).text) ((Tree.node 0 [] [] []).leads) ((Tree.node 0 [] [] []).kids))]⟩) [1] [] rfl hK pq1 ⟨⟨_, rfl, rfl, (.cons .rfl (.cons .rfl (.cons (.nil 1) (.cons (.nil 4) .nil))))⟩, trivial⟩ rfl <| go_end ab (rs := [.cell 2 25]) rfl rfl rfl
 refine gR 6 rfl ?_
 obtain ⟨a, hs4, h⟩ := h
 refine gC0 hs4 (by kernel_rfl) rfl rfl .rfl rfl <| gR 4 rfl ?_
 subst h
 exact go_sub (F' := (mkF 9 0 [(2, .ptr 0 0)])) (H' := ⟨1, [(0, vE a.kind a.text a.leads a.kids)]⟩) [1] [] rfl hK pq1 (pqo1 rfl rfl) rfl <| go_end ab (rs := [.cell 2 25]) rfl rfl rfl
theorem rh (m : Nat) (p0 : Tree) (r0 : Bool) (h : ∃ a, ff p0 a ∧ ((a = true) → ∃ b, fM p0 b ∧ ∃ c, lq p0 b c ∧ c = r0) ∧ ((a = false) → false = r0)) : jI p0 r0 := by
 refine ⟨rfl, rfl, ?_⟩
 refine am 11 [] Tryz.func36 rfl rfl rfl (aL rfl) fun K hK => ?_
 refine gR 3 rfl <| gFP 0 rfl rfl rfl rfl <| gR 4 rfl <| gDs [] 9 9 rfl (by kernel_rfl) (by kernel_rfl) <| gDr [(0, 0)] (by kernel_rfl) rfl rfl ?_
 obtain ⟨a, hs4, h⟩ := h
 refine cf 1 hs4 (by kernel_rfl) rfl (by kernel_rfl) rfl rfl .rfl rfl rfl ?_
 refine gDr [(2, 0)] (by kernel_rfl) rfl rfl <| qBiZ 5 4 rfl rfl rfl rfl h (fun h => ?_) fun h => ?_
 refine gDr [(3, 2), (4, 0)] (by kernel_rfl) rfl rfl ?_
 obtain ⟨b, hs5, h⟩ := h
 refine cf 5 hs5 (by kernel_rfl) rfl (by kernel_rfl) rfl rfl .rfl rfl rfl ?_
 obtain ⟨c, hs6, h⟩ := h
 refine cf 6 hs6 (by kernel_rfl) rfl (by kernel_rfl) rfl rfl .rfl rfl rfl ?_
 refine gDr [(7, 0), (8, 0)] (by kernel_rfl) rfl rfl <| gDe (by kernel_rfl) <| gR 2 rfl ?_
 subst h
 exact go_end ab (rs := [.tmp 2]) rfl rfl rfl
 refine gDr [(3, 2), (4, 0), (5, 0), (6, 0), (7, 0), (8, 0)] (by kernel_rfl) rfl rfl <| gDe (by kernel_rfl) <| gR 2 rfl ?_
 subst h
 exact go_end ab (rs := [.tmp 2]) rfl rfl rfl
def bY (m : Nat) (a : List UInt8) (b : Nat) (c : (List (List UInt8))) (r0 : (List (List UInt8))) : Prop := ∀ (K : Ctx) (j1 : Nat), aq K [] → m ≤ j1 → qLG K Tryz.f35 (fun u _ => u = .row 1 (List.map V.str r0)) (xI (cB (ac Tryz.f35))) [.loop (xI (cB (ac Tryz.f35))) j1, .blk 0, .seq (xJ (ac Tryz.f35))] 57 (mkF 57 0 [(3, .str a), (4, .sl 0), (5, .int .i64 (b : Int))]) ⟨1, [(0, .row 9 1 (List.map V.str c))]⟩
def gq (m : Nat) (a : List UInt8) (b : Nat) (c : (List (List UInt8))) (r0 : (List (List UInt8))) : Prop := ∀ (K : Ctx) (j1 j2 : Nat), aq K [] → m ≤ j1 → m ≤ j2 → qLG K Tryz.f35 (fun u _ => u = .row 1 (List.map V.str r0)) (cL (xE (xK (xM (cK (cA (cB (xI (cB (ac Tryz.f35)))))))))) [.loop (cL (xE (xK (xM (cK (cA (cB (xI (cB (ac Tryz.f35)))))))))) j1, .blk 3, .blk 2, .blk 1, .seq (xA (xI (cB (ac Tryz.f35)))), .loop (xI (cB (ac Tryz.f35))) j2, .blk 0, .seq (xJ (ac Tryz.f35))] 57 (mkF 57 0 [(3, .str a), (4, .sl 0), (5, .int .i64 (b : Int))]) ⟨1, [(0, .row 9 1 (List.map V.str c))]⟩
def eS (m : Nat) (a : List UInt8) (b : Nat) (c : (List (List UInt8))) (d : Nat) (r0 : (List (List UInt8))) : Prop := ∀ (K : Ctx) (j1 j2 : Nat), aq K [] → m ≤ j1 → m ≤ j2 → qLG K Tryz.f35 (fun u _ => u = .row 1 (List.map V.str r0)) (cL (cK (cA (xK (xB (xM (cK (cA (cB (xI (cB (ac Tryz.f35)))))))))))) [.loop (cL (cK (cA (xK (xB (xM (cK (cA (cB (xI (cB (ac Tryz.f35)))))))))))) j1, .blk 5, .seq (cB (xK (xB (xM (cK (cA (cB (xI (cB (ac Tryz.f35)))))))))), .blk 2, .blk 1, .seq (xA (xI (cB (ac Tryz.f35)))), .loop (xI (cB (ac Tryz.f35))) j2, .blk 0, .seq (xJ (ac Tryz.f35))] 57 (mkF 57 0 [(3, .str a), (4, .sl 0), (5, .int .i64 (b : Int)), (6, .int .i64 (d : Int))]) ⟨1, [(0, .row 9 1 (List.map V.str c))]⟩
theorem rl (m : Nat) (p0 : Tree) (r0 : (List (List UInt8))) (h : ∃ a, fJ p0 a ∧ bY m a 0 ([] : List (List UInt8)) r0) : kU p0 r0 := by
 refine ⟨rfl, rfl, ?_⟩
 refine am 57 [] Tryz.func35 rfl rfl rfl (aL rfl) fun K hK => ?_
 refine gR 3 rfl <| gFP 0 rfl rfl rfl rfl <| gR 6 rfl ?_
 obtain ⟨a, hs4, h⟩ := h
 exact gC0 hs4 (by kernel_rfl) rfl rfl .rfl rfl <| gR 15 rfl <| go_loop m <| gNS 4 9 1 rfl rfl rfl rfl <| gJ (h K _ hK (by omega)) [1] [] rfl hK pq3 ⟨⟨_, rfl, rfl, rfl, rfl⟩, trivial⟩ rfl
theorem eo (m : Nat) (c : List UInt8) (a : Nat) (b : (List (List UInt8))) (r0 : (List (List UInt8))) (h : ((a < c.length) → ∃ d, c[a]? = some d ∧ (((d.toNat : Int) = 34) → a + 1 ≤ 9223372036854775807 ∧ gq m c (a + 1) b r0) ∧ (((d.toNat : Int) ≠ 34) → (((d.toNat : Int) = 35) → eS m c a b a r0) ∧ (((d.toNat : Int) ≠ 35) → a + 1 ≤ 9223372036854775807 ∧ bY m c (a + 1) b r0))) ∧ ((¬ a < c.length) → b = r0)) : bY (m + 1) c a b r0 := by
 intro K j1 hK hj1
 obtain ⟨j1, rfl⟩ : ∃ j, j1 = j + 1 := ⟨j1 - 1, by omega⟩
 refine gR 9 rfl <| gB 12 rfl rfl rfl ?_ ?_ <;> intro hd
 replace hd := (fh hd)
 replace h := h.1 hd
 refine gR 15 rfl ?_
 obtain ⟨d, hxc1_1, h⟩ := h
 refine gY (yIS ab rfl rfl rfl hxc1_1) rfl rfl <| gR 9 rfl <| gB 19 rfl rfl rfl ?_ ?_ <;> intro hd
 refine gT 20 rfl hd rfl ?_
 replace hd := (eq_of_beq hd)
 replace h := h.1 hd
 refine gR 4 rfl ?_
 obtain ⟨hb, h⟩ := h
 exact gR 1 rfl <| gV 22 (.int .i64 ((a + 1 : Nat) : Int)) rfl (ax (by omega) (by omega)) rfl <| gR 4 rfl <| go_loop m <| gJ (h K _ _ hK (by omega) (by omega)) [0] [] rfl hK pq3 ⟨⟨_, rfl, rfl, rfl, (vH _ b).symm⟩, trivial⟩ rfl
 refine gF 20 rfl hd rfl ?_
 replace hd := (ne_of_beq_false hd)
 replace h := h.2 hd
 refine gR 7 rfl <| gB 35 rfl rfl rfl ?_ ?_ <;> intro hd
 refine gT 36 rfl hd rfl ?_
 replace hd := (eq_of_beq hd)
 replace h := h.1 hd
 exact gR 3 rfl <| go_loop m <| gJ (h K _ _ hK (by omega) (by omega)) [0] [] rfl hK pq4 ⟨⟨_, rfl, rfl, rfl, (vH _ b).symm⟩, trivial⟩ rfl
 refine gF 36 rfl hd rfl ?_
 replace hd := (ne_of_beq_false hd)
 replace h := h.2 hd
 refine gR 7 rfl ?_
 obtain ⟨hb, h⟩ := h
 exact gR 1 rfl <| gV 14 (.int .i64 ((a + 1 : Nat) : Int)) rfl (ax (by omega) (by omega)) rfl <| gR 2 rfl <| go_xloop <| gJ (h K _ hK (by omega)) [0] [] rfl hK pq3 ⟨⟨_, rfl, rfl, rfl, (vH _ b).symm⟩, trivial⟩ rfl
 replace hd := (fo hd)
 replace h := h.2 hd
 refine gR 3 rfl <| go_xloopE <| gR 9 rfl <| gFR 0 rfl (dn _ (fun _ => rfl) _) rfl rfl ?_
 subst h
 exact go_end ab (rs := [.tmp 2]) rfl rfl rfl
theorem jz (m : Nat) (b : List UInt8) (a : Nat) (c : (List (List UInt8))) (r0 : (List (List UInt8))) (h : ((a < b.length) → ∃ d, b[a]? = some d ∧ (((d.toNat : Int) ≠ 34) → a + 1 ≤ 9223372036854775807 ∧ gq m b (a + 1) c r0) ∧ (((d.toNat : Int) = 34) → a + 1 ≤ 9223372036854775807 ∧ bY m b (a + 1) c r0)) ∧ ((¬ a < b.length) → a + 1 ≤ 9223372036854775807 ∧ bY m b (a + 1) c r0)) : gq (m + 1) b a c r0 := by
 intro K j1 j2 hK hj1 hj2
 obtain ⟨j1, rfl⟩ : ∃ j, j1 = j + 1 := ⟨j1 - 1, by omega⟩
 obtain ⟨j2, rfl⟩ : ∃ j, j2 = j + 1 := ⟨j2 - 1, by omega⟩
 refine gR 8 rfl <| gB 27 rfl rfl rfl ?_ ?_ <;> intro hd
 refine gT 26 rfl hd rfl ?_
 replace hd := (fh hd)
 replace h := h.1 hd
 refine gR 2 rfl ?_
 obtain ⟨d, hxc2_1, h⟩ := h
 refine gY (yIS ab rfl rfl rfl hxc2_1) rfl rfl <| gR 4 rfl <| gB 32 rfl rfl rfl ?_ ?_ <;> intro hd
 replace hd := (eF hd)
 replace h := h.1 hd
 refine gR 10 rfl ?_
 obtain ⟨hb, h⟩ := h
 exact gR 1 rfl <| gV 34 (.int .i64 ((a + 1 : Nat) : Int)) rfl (ax (by omega) (by omega)) rfl <| gR 2 rfl <| go_xloop <| gJ (h K _ _ hK (by omega) (by omega)) [0] [] rfl hK pq3 ⟨⟨_, rfl, rfl, rfl, (vH _ c).symm⟩, trivial⟩ rfl
 replace hd := (dl hd)
 replace h := h.2 hd
 refine gR 3 rfl <| go_xloopE <| gR 6 rfl ?_
 obtain ⟨hb, h⟩ := h
 exact gR 1 rfl <| gV 14 (.int .i64 ((a + 1 : Nat) : Int)) rfl (ax (by omega) (by omega)) rfl <| gR 2 rfl <| go_xloop <| gJ (h K _ hK (by omega)) [0] [] rfl hK pq3 ⟨⟨_, rfl, rfl, rfl, (vH _ c).symm⟩, trivial⟩ rfl
 refine gF 26 rfl hd rfl ?_
 replace hd := (fo hd)
 replace h := h.2 hd
 refine gR 10 rfl <| go_xloopE <| gR 6 rfl ?_
 obtain ⟨hb, h⟩ := h
 exact gR 1 rfl <| gV 14 (.int .i64 ((a + 1 : Nat) : Int)) rfl (ax (by omega) (by omega)) rfl <| gR 2 rfl <| go_xloop <| gJ (h K _ hK (by omega)) [0] [] rfl hK pq3 ⟨⟨_, rfl, rfl, rfl, (vH _ c).symm⟩, trivial⟩ rfl
theorem jq (m : Nat) (c : List UInt8) (a : Nat) (d : (List (List UInt8))) (b : Nat) (r0 : (List (List UInt8))) (h : ((a < c.length) → ∃ e, c[a]? = some e ∧ (((e.toNat : Int) ≠ 10) → a + 1 ≤ 9223372036854775807 ∧ eS m c (a + 1) d b r0) ∧ (((e.toNat : Int) = 10) → b ≤ a ∧ a ≤ c.length ∧ (d ++ [((c.drop b).take (a - b))]).length ≤ 1000000000 ∧ a + 1 ≤ 9223372036854775807 ∧ bY m c (a + 1) (d ++ [((c.drop b).take (a - b))]) r0)) ∧ ((¬ a < c.length) → b ≤ a ∧ a ≤ c.length ∧ (d ++ [((c.drop b).take (a - b))]).length ≤ 1000000000 ∧ a + 1 ≤ 9223372036854775807 ∧ bY m c (a + 1) (d ++ [((c.drop b).take (a - b))]) r0)) : eS (m + 1) c a d b r0 := by
 intro K j1 j2 hK hj1 hj2
 obtain ⟨j1, rfl⟩ : ∃ j, j1 = j + 1 := ⟨j1 - 1, by omega⟩
 obtain ⟨j2, rfl⟩ : ∃ j, j2 = j + 1 := ⟨j2 - 1, by omega⟩
 refine gR 8 rfl <| gB 41 rfl rfl rfl ?_ ?_ <;> intro hd
 refine gT 40 rfl hd rfl ?_
 replace hd := (fh hd)
 replace h := h.1 hd
 refine gR 2 rfl ?_
 obtain ⟨e, hxc3_1, h⟩ := h
 refine gY (yIS ab rfl rfl rfl hxc3_1) rfl rfl <| gR 4 rfl <| gB 46 rfl rfl rfl ?_ ?_ <;> intro hd
 replace hd := (eF hd)
 replace h := h.1 hd
 refine gR 6 rfl ?_
 obtain ⟨hb, h⟩ := h
 exact gR 1 rfl <| gV 48 (.int .i64 ((a + 1 : Nat) : Int)) rfl (ax (by omega) (by omega)) rfl <| gR 3 rfl <| go_xloop <| gJ (h K _ _ hK (by omega) (by omega)) [0] [] rfl hK pq4 ⟨⟨_, rfl, rfl, rfl, (vH _ d).symm⟩, trivial⟩ rfl
 replace hd := (dl hd)
 replace h := h.2 hd
 refine gR 3 rfl <| go_xloopE <| gR 7 rfl ?_
 obtain ⟨hb, h⟩ := h
 obtain ⟨hb', h⟩ := h
 refine gY (ySS ab rfl rfl (um rfl) (um rfl) hb hb' rfl) rfl rfl <| gR 1 rfl ?_
 obtain ⟨hb, h⟩ := h
 refine gDo (.repl 0 (.row 9 1 (List.map V.str (d ++ [((c.drop b).take (a - b))])))) (bj ab rfl rfl rfl rfl rfl (apM V.str d ((c.drop b).take (a - b))) (by rw [aZ]; exact hb)) (okR rfl) rfl rfl rfl <| gR 7 rfl ?_
 obtain ⟨hb, h⟩ := h
 exact gR 1 rfl <| gV 14 (.int .i64 ((a + 1 : Nat) : Int)) rfl (ax (by omega) (by omega)) rfl <| gR 2 rfl <| go_xloop <| gJ (h K _ hK (by omega)) [2] [] rfl hK pq3 ⟨⟨_, rfl, rfl, rfl, (vH _ (d ++ [((c.drop b).take (a - b))])).symm⟩, trivial⟩ rfl
 refine gF 40 rfl hd rfl ?_
 replace hd := (fo hd)
 replace h := h.2 hd
 refine gR 10 rfl <| go_xloopE <| gR 7 rfl ?_
 obtain ⟨hb, h⟩ := h
 obtain ⟨hb', h⟩ := h
 refine gY (ySS ab rfl rfl (um rfl) (um rfl) hb hb' rfl) rfl rfl <| gR 1 rfl ?_
 obtain ⟨hb, h⟩ := h
 refine gDo (.repl 0 (.row 9 1 (List.map V.str (d ++ [((c.drop b).take (a - b))])))) (bj ab rfl rfl rfl rfl rfl (apM V.str d ((c.drop b).take (a - b))) (by rw [aZ]; exact hb)) (okR rfl) rfl rfl rfl <| gR 7 rfl ?_
 obtain ⟨hb, h⟩ := h
 exact gR 1 rfl <| gV 14 (.int .i64 ((a + 1 : Nat) : Int)) rfl (ax (by omega) (by omega)) rfl <| gR 2 rfl <| go_xloop <| gJ (h K _ hK (by omega)) [2] [] rfl hK pq3 ⟨⟨_, rfl, rfl, rfl, (vH _ (d ++ [((c.drop b).take (a - b))])).symm⟩, trivial⟩ rfl
def jQ (m : Nat) (p0 p1 : Tree) (a : Nat) (r0 : Bool) : Prop := ∀ (K : Ctx) (j1 : Nat), aq K [] → m ≤ j1 → qLG K Tryz.f18 (fun u _ => u = .bool r0) (xI (ac Tryz.f18)) [.loop (xI (ac Tryz.f18)) j1, .blk 0, .seq (xH (ac Tryz.f18))] 54 (mkF 54 0 [(2, .box (ae p0) 0), (3, .box (ae p1) 0), (37, .int .i64 (p0.kids.length : Int)), (38, .int .i64 (a : Int))]) ⟨0, []⟩
theorem mH (m : Nat) (p0 p1 : Tree) (r0 : Bool) (h : ((p0.kind ≠ p1.kind) → false = r0) ∧ ((p0.kind = p1.kind) → ((p0.text ≠ p1.text) → false = r0) ∧ ((p0.text = p1.text) → ((p0.kids.length ≠ p1.kids.length) → false = r0) ∧ ((p0.kids.length = p1.kids.length) → ∃ a, mX p0.leads p1.leads a ∧ ((a = false) → false = r0) ∧ ((a = true) → jQ m p0 p1 0 r0))))) : lq p0 p1 r0 := by
 refine ⟨rfl, rfl, ?_⟩
 refine am 54 [] Tryz.func18 rfl rfl rfl (aL rfl) fun K hK => ?_
 refine gR 3 rfl <| gFP 0 rfl rfl rfl rfl <| gR 1 rfl <| gFP 1 rfl rfl rfl rfl <| gR 12 rfl <| gB 11 rfl rfl rfl ?_ ?_ <;> intro hd
 refine gT 10 rfl hd rfl ?_
 replace hd := (eF hd)
 replace h := h.1 hd
 refine gR 33 rfl ?_
 subst h
 exact go_end ab (rs := [.tmp 4]) rfl rfl rfl
 refine gF 10 rfl hd rfl ?_
 replace hd := (dl hd)
 replace h := h.2 hd
 refine gR 7 rfl <| gB 18 rfl rfl rfl ?_ ?_ <;> intro hd
 refine gT 17 rfl hd rfl ?_
 replace hd := (eF hd)
 replace h := h.1 hd
 refine gR 26 rfl ?_
 subst h
 exact go_end ab (rs := [.tmp 4]) rfl rfl rfl
 refine gF 17 rfl hd rfl ?_
 replace hd := (dl hd)
 replace h := h.2 hd
 refine gR 3 rfl <| gV 21 (.int .i64 (p0.kids.length : Int)) rfl (bF (aE _)) rfl <| gLB 20 rfl (aE _) fun hl9 => gR 3 rfl <| gV 24 (.int .i64 (p1.kids.length : Int)) rfl (bF (aE _)) rfl <| gLB 23 rfl (aE _) fun hl10 => gR 3 rfl <| gB 27 rfl rfl rfl ?_ ?_ <;> intro hd
 refine gT 26 rfl hd rfl ?_
 replace hd := (DR hd)
 replace h := h.1 hd
 refine gR 17 rfl ?_
 subst h
 exact go_end ab (rs := [.tmp 4]) rfl rfl rfl
 refine gF 26 rfl hd rfl ?_
 replace hd := (Dw hd)
 replace h := h.2 hd
 refine gR 4 rfl ?_
 obtain ⟨a, hs11, h⟩ := h
 refine gC0 hs11 (by kernel_rfl) rfl rfl .rfl rfl <| gR 4 rfl <| gB 34 rfl rfl rfl ?_ ?_ <;> intro hd
 replace hd := (dD hd)
 replace h := h.1 hd
 refine gR 8 rfl ?_
 subst h
 exact go_end ab (rs := [.tmp 4]) rfl rfl rfl
 replace hd := (dC hd)
 replace h := h.2 hd
 exact gR 9 rfl <| gV 37 (.int .i64 (p0.kids.length : Int)) rfl (bF (aE _)) rfl <| gR 4 rfl <| go_loop m <| gJ (h K _ hK (by omega)) [] [] rfl hK pq4 trivial rfl
theorem qZ (m : Nat) (p0 p1 : Tree) (a : Nat) (r0 : Bool) (h : ((a < p0.kids.length) → ∃ c, p0.kids[a]? = some c ∧ ∃ d, p1.kids[a]? = some d ∧ ∃ b, lq c d b ∧ ((b = false) → false = r0) ∧ ((b = true) → a + 1 ≤ 9223372036854775807 ∧ jQ m p0 p1 (a + 1) r0)) ∧ ((¬ a < p0.kids.length) → true = r0)) : jQ (m + 1) p0 p1 a r0 := by
 intro K j1 hK hj1
 obtain ⟨j1, rfl⟩ : ∃ j, j1 = j + 1 := ⟨j1 - 1, by omega⟩
 refine gR 6 rfl <| gB 39 rfl rfl rfl ?_ ?_ <;> intro hd
 replace hd := (fh hd)
 replace h := h.1 hd
 refine gR 12 rfl <| gDs [] 12 12 rfl (by kernel_rfl) (by kernel_rfl) <| gDr [(0, 2), (1, 2), (2, 2)] (by kernel_rfl) rfl rfl ?_
 obtain ⟨c, hxt1_1, h⟩ := h
 refine gYd 3 rfl (by kernel_rfl) (aI (av hxt1_1) ab rfl rfl rfl rfl) rfl rfl <| gDr [(4, 2), (5, 2), (6, 2), (7, 0)] (by kernel_rfl) rfl rfl ?_
 obtain ⟨d, hxt1_2, h⟩ := h
 refine bi 8 rfl (by kernel_rfl) (aI (av hxt1_2) ab rfl rfl rfl rfl) rfl rfl ?_
 refine gDr [(9, 0)] (by kernel_rfl) rfl rfl ?_
 obtain ⟨b, hs12, h⟩ := h
 refine cf 10 hs12 (by kernel_rfl) rfl (by kernel_rfl) rfl rfl .rfl rfl rfl ?_
 refine gDr [(11, 0)] (by kernel_rfl) rfl rfl <| gDe (by kernel_rfl) <| gR 1 rfl <| gB 52 rfl rfl rfl ?_ ?_ <;> intro hd
 replace hd := (dD hd)
 replace h := h.1 hd
 refine gR 9 rfl <| go_xloopR <| gR 2 rfl ?_
 subst h
 exact go_end ab (rs := [.tmp 4]) rfl rfl rfl
 replace hd := (dC hd)
 replace h := h.2 hd
 refine gR 5 rfl ?_
 obtain ⟨hb, h⟩ := h
 exact gR 1 rfl <| gV 53 (.int .i64 ((a + 1 : Nat) : Int)) rfl (ax (by omega) (by omega)) rfl <| gR 2 rfl <| go_xloop <| gJ (h K _ hK (by omega)) [] [] rfl hK pq4 trivial rfl
 replace hd := (fo hd)
 replace h := h.2 hd
 refine gR 3 rfl <| go_xloopE <| gR 8 rfl ?_
 subst h
 exact go_end ab (rs := [.tmp 4]) rfl rfl rfl
def gx (m : Nat) (p0 : (List (List UInt8))) (p1 : (List (List UInt8))) (a : Nat) (r0 : Bool) : Prop := ∀ (K : Ctx) (j1 : Nat), aq K [] → m ≤ j1 → qLG K Tryz.f38 (fun u _ => u = .bool r0) (xI (ac Tryz.f38)) [.loop (xI (ac Tryz.f38)) j1, .blk 0, .seq (xH (ac Tryz.f38))] 26 (mkF 26 0 [(0, .row 1 (List.map V.str p0)), (1, .row 1 (List.map V.str p1)), (12, .int .i64 (p0.length : Int)), (13, .int .i64 (a : Int))]) ⟨0, []⟩
theorem oX (m : Nat) (p0 : (List (List UInt8))) (p1 : (List (List UInt8))) (r0 : Bool) (h : ((p0.length ≠ p1.length) → false = r0) ∧ ((p0.length = p1.length) → gx m p0 p1 0 r0)) : mX p0 p1 r0 := by
 refine ⟨rfl, rfl, ?_⟩
 refine am 26 [] Tryz.func38 rfl rfl rfl (aL rfl) fun K hK => ?_
 refine gR 10 rfl <| gV 7 (.int .i64 (p0.length : Int)) rfl (bF (aZ V.str _)) rfl <| gLB 6 rfl (aZ V.str _) fun hl5 => gR 2 rfl <| gV 9 (.int .i64 (p1.length : Int)) rfl (bF (aZ V.str _)) rfl <| gLB 8 rfl (aZ V.str _) fun hl6 => gR 3 rfl <| gB 10 rfl rfl rfl ?_ ?_ <;> intro hd
 replace hd := (DR hd)
 replace h := h.1 hd
 refine gR 8 rfl ?_
 subst h
 exact go_end ab (rs := [.tmp 4]) rfl rfl rfl
 replace hd := (Dw hd)
 replace h := h.2 hd
 exact gR 8 rfl <| gV 12 (.int .i64 (p0.length : Int)) rfl (bF (aZ V.str _)) rfl <| gR 4 rfl <| go_loop m <| gJ (h K _ hK (by omega)) [] [] rfl hK pq4 trivial rfl
theorem lI (m : Nat) (p0 : (List (List UInt8))) (p1 : (List (List UInt8))) (a : Nat) (r0 : Bool) (h : ((a < p0.length) → ∃ b, p0[a]? = some b ∧ ∃ c, p1[a]? = some c ∧ ((b ≠ c) → false = r0) ∧ ((b = c) → a + 1 ≤ 9223372036854775807 ∧ gx m p0 p1 (a + 1) r0)) ∧ ((¬ a < p0.length) → true = r0)) : gx (m + 1) p0 p1 a r0 := by
 intro K j1 hK hj1
 obtain ⟨j1, rfl⟩ : ∃ j, j1 = j + 1 := ⟨j1 - 1, by omega⟩
 refine gR 6 rfl <| gB 14 rfl rfl rfl ?_ ?_ <;> intro hd
 replace hd := (fh hd)
 replace h := h.1 hd
 refine gR 12 rfl <| gDs [] 9 9 rfl (by kernel_rfl) (by kernel_rfl) <| gDr [(0, 2), (1, 2)] (by kernel_rfl) rfl rfl ?_
 obtain ⟨b, hxs1_1, h⟩ := h
 refine gYd 2 rfl (by kernel_rfl) (aI (mapget (f := V.str) hxs1_1) ab rfl rfl rfl rfl) rfl rfl <| gDr [(3, 2), (4, 2), (5, 0)] (by kernel_rfl) rfl rfl ?_
 obtain ⟨c, hxs1_2, h⟩ := h
 refine bi 6 rfl (by kernel_rfl) (aI (mapget (f := V.str) hxs1_2) ab rfl rfl rfl rfl) rfl rfl ?_
 refine gDr [(7, 0), (8, 0)] (by kernel_rfl) rfl rfl <| gDe (by kernel_rfl) <| gR 1 rfl <| gB 24 rfl rfl rfl ?_ ?_ <;> intro hd
 replace hd := (eF hd)
 replace h := h.1 hd
 refine gR 9 rfl <| go_xloopR <| gR 2 rfl ?_
 subst h
 exact go_end ab (rs := [.tmp 4]) rfl rfl rfl
 replace hd := (dl hd)
 replace h := h.2 hd
 refine gR 5 rfl ?_
 obtain ⟨hb, h⟩ := h
 exact gR 1 rfl <| gV 25 (.int .i64 ((a + 1 : Nat) : Int)) rfl (ax (by omega) (by omega)) rfl <| gR 2 rfl <| go_xloop <| gJ (h K _ hK (by omega)) [] [] rfl hK pq4 trivial rfl
 replace hd := (fo hd)
 replace h := h.2 hd
 refine gR 3 rfl <| go_xloopE <| gR 8 rfl ?_
 subst h
 exact go_end ab (rs := [.tmp 4]) rfl rfl rfl
theorem qI (m : Nat) (r0 : Bool) (h : ∃ b j c, iN [109, 111, 100, 117, 108, 101, 32, 77, 32, 35, 32, 120, 10, 100, 101, 102, 32, 102, 32, 40, 32, 97, 58, 73, 110, 116, 32, 44, 32, 98, 32, 58, 73, 110, 116, 32, 41, 58, 73, 110, 116, 61, 103, 40, 97, 44, 91, 98, 93, 41] b j c ∧ ∃ a, kU b a ∧ ((c = 0) → (((a.length : Int) = 1) → ∃ d, a[0]? = some d ∧ ((d = [35, 32, 120]) → ∃ e, jI b e ∧ ((e = false) → ∃ g, fM b g ∧ ∃ i, fJ g i ∧ (i == [109, 111, 100, 117, 108, 101, 32, 77, 10, 10, 100, 101, 102, 32, 102, 40, 97, 58, 32, 73, 110, 116, 44, 32, 98, 58, 32, 73, 110, 116, 41, 58, 32, 73, 110, 116, 32, 61, 32, 103, 40, 97, 44, 32, 91, 98, 93, 41, 10]) = r0) ∧ ((e = true) → false = r0)) ∧ ((d ≠ [35, 32, 120]) → false = r0)) ∧ (((a.length : Int) ≠ 1) → false = r0)) ∧ ((c ≠ 0) → false = r0)) : gb r0 := by
 refine ⟨rfl, rfl, ?_⟩
 refine am 36 [] Tryz.func16 rfl rfl rfl (aL rfl) fun K hK => ?_
 refine gR 7 rfl ?_
 obtain ⟨b, j, c, hs7, h⟩ := h
 refine gC0 hs7 (by kernel_rfl) rfl rfl .rfl rfl <| gR 13 rfl ?_
 obtain ⟨a, hs8, h⟩ := h
 refine gC0 hs8 (by kernel_rfl) rfl rfl .rfl rfl <| gR 8 rfl <| qBeZ 14 13 rfl rfl rfl rfl h (fun h => ?_) fun h => ?_
 refine gR 2 rfl <| gV 16 (.int .i64 (a.length : Int)) rfl (bF (aZ V.str _)) rfl <| gLB 15 rfl (aZ V.str _) fun hl9 => gR 3 rfl <| qBeZ 19 18 rfl rfl rfl rfl h (fun h => ?_) fun h => ?_
 refine gR 1 rfl ?_
 obtain ⟨d, hxs0_5, h⟩ := h
 refine gY (aI (mapget (f := V.str) hxs0_5) ab rfl rfl rfl rfl) rfl rfl <| gR 4 rfl <| qBeZ 25 24 rfl rfl rfl rfl h (fun h => ?_) fun h => ?_
 refine gR 1 rfl ?_
 obtain ⟨e, hs10, h⟩ := h
 refine gC0 hs10 (by kernel_rfl) rfl rfl .rfl rfl <| gR 3 rfl <| qBhZ 30 29 rfl rfl rfl rfl h dD dC (fun h => ?_) fun h => ?_
 refine gR 1 rfl ?_
 obtain ⟨g, hs11, h⟩ := h
 refine gC0 hs11 (by kernel_rfl) rfl rfl .rfl rfl ?_
 obtain ⟨i, hs12, h⟩ := h
 refine gC0 hs12 (by kernel_rfl) rfl rfl .rfl rfl <| gR 6 rfl ?_
 subst h
 exact go_end ab (rs := [.tmp 0]) rfl rfl rfl
 refine gR 9 rfl ?_
 subst h
 exact go_end ab (rs := [.tmp 0]) rfl rfl rfl
 refine gR 14 rfl ?_
 subst h
 exact go_end ab (rs := [.tmp 0]) rfl rfl rfl
 refine gR 20 rfl ?_
 subst h
 exact go_end ab (rs := [.tmp 0]) rfl rfl rfl
 refine gR 25 rfl ?_
 subst h
 exact go_end ab (rs := [.tmp 0]) rfl rfl rfl
def cj (m : Nat) (a : List Tree) (b : Nat) (r0 : Bool) : Prop := ∀ (K : Ctx) (j1 : Nat), aq K [] → m ≤ j1 → qLG K Tryz.f5 (fun u _ => u = .bool r0) (xI (cB (ac Tryz.f5))) [.loop (xI (cB (ac Tryz.f5))) j1, .blk 0, .seq (xJ (ac Tryz.f5))] 45 (mkF 45 0 [(3, .row 4 (kidsV a)), (4, .int .i64 (b : Int))]) ⟨0, []⟩
theorem jn (m : Nat) (p0 : List Int) (r0 : Bool) (h : ∃ a, jM p0 a ∧ ((a = false) → ∃ b, gb b ∧ b = r0) ∧ ((a = true) → ∃ c, jh p0 c ∧ cj m c 0 r0)) : jA p0 r0 := by
 refine ⟨rfl, rfl, ?_⟩
 refine am 45 [] Tryz.func5 rfl rfl rfl (aL rfl) fun K hK => ?_
 refine gR 9 rfl ?_
 obtain ⟨a, hs21, h⟩ := h
 refine gC0 hs21 (by kernel_rfl) rfl rfl .rfl rfl <| gR 3 rfl <| gB 11 rfl rfl rfl ?_ ?_ <;> intro hd
 replace hd := (dD hd)
 replace h := h.1 hd
 refine gR 3 rfl ?_
 obtain ⟨b, hs22, h⟩ := h
 refine gC0 hs22 (by kernel_rfl) rfl rfl .rfl rfl <| gR 5 rfl ?_
 subst h
 exact go_end ab (rs := [.tmp 2]) rfl rfl rfl
 replace hd := (dC hd)
 replace h := h.2 hd
 refine gR 6 rfl ?_
 obtain ⟨c, hs23, h⟩ := h
 exact gC0 hs23 (by kernel_rfl) rfl rfl .rfl rfl <| gR 10 rfl <| go_loop m <| gJ (h K _ hK (by omega)) [] [] rfl hK pq2 trivial rfl
theorem eT (m : Nat) (b : List Tree) (a : Nat) (r0 : Bool) (h : ((a < b.length) → ∃ g, b[a]? = some g ∧ ∃ c, fM g c ∧ ∃ d, dw c d ∧ ((d = false) → cj m b (a + 1) r0) ∧ ((d = true) → ∃ i, fJ c i ∧ ∃ k n e, iN i k n e ∧ ((e ≠ 0) → false = r0) ∧ ((e = 0) → ∃ f, lq k c f ∧ ((f = false) → false = r0) ∧ ((f = true) → cj m b (a + 1) r0)))) ∧ ((¬ a < b.length) → ∃ l, gb l ∧ l = r0)) : cj (m + 1) b a r0 := by
 intro K j1 hK hj1
 obtain ⟨j1, rfl⟩ : ∃ j, j1 = j + 1 := ⟨j1 - 1, by omega⟩
 refine gR 6 rfl <| gV 17 (.int .i64 (b.length : Int)) rfl (bF (aE _)) rfl <| gLB 16 rfl (aE _) fun hl24 => gR 3 rfl <| gB 18 rfl rfl rfl ?_ ?_ <;> intro hd
 replace hd := (fh hd)
 replace h := h.1 hd
 refine gR 9 rfl ?_
 obtain ⟨g, hxt1_1, h⟩ := h
 refine gY (aI (av hxt1_1) ab rfl rfl rfl rfl) rfl rfl <| gR 1 rfl ?_
 obtain ⟨c, hs25, h⟩ := h
 refine gC0 hs25 (by kernel_rfl) rfl rfl .rfl rfl <| gR 8 rfl ?_
 obtain ⟨d, hs26, h⟩ := h
 refine gC0 hs26 (by kernel_rfl) rfl rfl .rfl rfl <| gR 3 rfl <| gB 28 rfl rfl rfl ?_ ?_ <;> intro hd
 replace hd := (dD hd)
 replace h := h.1 hd
 exact gR 8 rfl <| gV 20 (.int .i64 ((a + 1 : Nat) : Int)) rfl (ax (by have := hl24; omega) (by omega)) rfl <| gR 2 rfl <| go_xloop <| gJ (h K _ hK (by omega)) [] [] rfl hK pq2 trivial rfl
 replace hd := (dC hd)
 replace h := h.2 hd
 refine gR 6 rfl ?_
 obtain ⟨i, hs27, h⟩ := h
 refine gC0 hs27 (by kernel_rfl) rfl rfl .rfl rfl ?_
 obtain ⟨k, n, e, hs28, h⟩ := h
 refine gC0 hs28 (by kernel_rfl) rfl rfl .rfl rfl <| gR 15 rfl <| gB 38 rfl rfl rfl ?_ ?_ <;> intro hd
 refine gT 37 rfl hd rfl ?_
 replace hd := (eF hd)
 replace h := h.1 hd
 refine gR 16 rfl <| go_xloopR <| gR 2 rfl ?_
 subst h
 exact go_end ab (rs := [.tmp 2]) rfl rfl rfl
 refine gF 37 rfl hd rfl ?_
 replace hd := (dl hd)
 replace h := h.2 hd
 refine gR 2 rfl ?_
 obtain ⟨f, hs29, h⟩ := h
 refine gC0 hs29 (by kernel_rfl) rfl rfl .rfl rfl <| gR 4 rfl <| gB 43 rfl rfl rfl ?_ ?_ <;> intro hd
 replace hd := (dD hd)
 replace h := h.1 hd
 refine gR 9 rfl <| go_xloopR <| gR 2 rfl ?_
 subst h
 exact go_end ab (rs := [.tmp 2]) rfl rfl rfl
 replace hd := (dC hd)
 replace h := h.2 hd
 exact gR 7 rfl <| gV 20 (.int .i64 ((a + 1 : Nat) : Int)) rfl (ax (by have := hl24; omega) (by omega)) rfl <| gR 2 rfl <| go_xloop <| gJ (h K _ hK (by omega)) [] [] rfl hK pq2 trivial rfl
 replace hd := (fo hd)
 replace h := h.2 hd
 refine gR 3 rfl <| go_xloopE <| gR 4 rfl ?_
 obtain ⟨l, hs30, h⟩ := h
 refine gC0 hs30 (by kernel_rfl) rfl rfl .rfl rfl <| gR 4 rfl ?_
 subst h
 exact go_end ab (rs := [.tmp 2]) rfl rfl rfl
def ld0 (k n : Int) : List (List UInt8) :=
 let z := List.replicate (aU k n).toNat ([] : List UInt8)
 if k = 1 then (z.set 1 [32]).set 2 [10] else if k = 2 then (z.set 1 [32]).set 5 [32] else if k = 3 ∨ k = 19 then (z.set 1 [32]).set 2 [32] else if k = 20 then ((z.set 1 [32]).set 2 [32]).set 3 [32] else if k = 21 then z.set 0 [32] else z
def bgK (k n : Int) (f : List UInt8) : List UInt8 := if k = 1 then [10, 10] else if k = 2 then (if 2 < n then [] else [32]) else if k = 8 ∨ k = 16 ∨ k = 18 ∨ k = 22 then [] else if k = 17 ∨ k = 21 then f else [32]
def rsK (k : Int) : List UInt8 := if k = 1 then [10, 10] else [32]
def ldA (k n : Int) (f : List UInt8) : List (List UInt8) := if k = 21 ∨ k = 17 then ld0 k n else (ld0 k n).set 0 f
mutual
def arrT : Tree → List UInt8 → Tree
 | .node k x _ ks, f => .node k x (ldA k ks.length f) (arrTs ks (bgK k ks.length f) (rsK k))
def arrTs : List Tree → List UInt8 → List UInt8 → List Tree
 | [], _, _ => []
 | t :: r, b, c => arrT t b :: arrTs r c c
end
theorem nO (t : Tree) (f : List UInt8) : arrT t f = .node t.kind t.text (ldA t.kind t.kids.length f) (arrTs t.kids (bgK t.kind t.kids.length f) (rsK t.kind)) := by cases t; simp only [arrT]; rfl
theorem xr {k n : Int} (h : 0 ≤ aU k n) : ((k = 1 ∨ k = 3 ∨ k = 19) → 3 ≤ aU k n) ∧ (k = 2 → 6 ≤ aU k n) ∧ (k = 20 → 4 ≤ aU k n) ∧ (k ≠ 17 → 1 ≤ aU k n) := by
 revert h
 unfold aU f0
 repeat' split
 all_goals (intro h; refine ⟨fun _ => ?_, fun _ => ?_, fun _ => ?_, fun _ => ?_⟩ <;> omega)
theorem Cg (k : Int) {n : Int} (h : 0 ≤ n) : aU k n ≤ 6 + n := by
 unfold aU f0
 repeat' split
 all_goals omega
theorem pj : ∀ (ks : List Tree) (b c : List UInt8), (arrTs ks b c).length = ks.length
 | [], b, c => rfl
 | t :: r, b, c => by simp only [arrTs, List.length_cons, pj r c c]
theorem yz : ∀ t : Tree, tbulk t ≤ 40000000 → shapeK t = true → ∀ f, fL t f (arrT t f) := cw fun t ih ht hs f => by
 have hk := eE t
 have hbt := bN t
 have hld := iY hs
 obtain ⟨hl1, hl2, hl3, hl4⟩ := xr hld
 have hmax : aU t.kind t.kids.length ≤ 1000000000 := by
  have := Cg t.kind (n := t.kids.length) (by omega)
  omega
 obtain ⟨N, hN⟩ : ∃ N : Nat, aU t.kind t.kids.length = N := ⟨(aU t.kind t.kids.length).toNat, by omega⟩
 have hNt : (aU t.kind t.kids.length).toNat = N := by omega
 rw [hN] at hl1 hl2 hl3 hl4 hmax
 -- kids
 have kids : ∀ (b c : List UInt8) (l : List (List UInt8)), ∀ j i us, t.kids.length - i ≤ j → us.length = i → ∃ M, cQ M t b c l us i (.node t.kind t.text l (us ++ arrTs (t.kids.drop i) (if i = 0 then b else c) c)) := fun b c l j => by
  have last : ∀ i (us : List Tree), ¬ i < t.kids.length → ∃ M, cQ M t b c l us i (.node t.kind t.text l (us ++ arrTs (t.kids.drop i) (if i = 0 then b else c) c)) := fun i us hi => by
   rw [List.drop_of_length_le (by omega)]
   exact ⟨1, jJ 0 _ _ _ _ _ _ _ ⟨fun h => absurd h hi, fun _ => by simp [arrTs]⟩⟩
  induction j with
  | zero => intro i us hi _; exact last i us (by omega)
  | succ j ihj =>
   intro i us hi hu
   obtain ⟨u, hu', hlt⟩ | hge := aN t.kids i
   ·have hub := eb hu'
    have hc := ih i u hu' (by omega) (aR hs hu').1
    rw [bV hu', arrTs]
    by_cases h0 : i = 0
    ·obtain ⟨M, hM⟩ := ihj (i + 1) (us ++ [arrT u b]) (by omega) (by simp [hu])
     rw [if_neg (by omega)] at hM
     rw [if_pos h0]
     refine ⟨M + 1, jJ M _ _ _ _ _ _ _ ⟨fun _ => ⟨u, hu', fun _ => ⟨_, hc b, by simp; omega, by omega, ?_⟩, fun h => absurd (by omega) h⟩, fun h => absurd hlt h⟩⟩
     simpa using hM
    ·obtain ⟨M, hM⟩ := ihj (i + 1) (us ++ [arrT u c]) (by omega) (by simp [hu])
     rw [if_neg (by omega)] at hM
     rw [if_neg h0]
     refine ⟨M + 1, jJ M _ _ _ _ _ _ _ ⟨fun _ => ⟨u, hu', fun h => absurd h (by omega), fun _ => ⟨_, hc c, by simp; omega, by omega, ?_⟩⟩, fun h => absurd hlt h⟩⟩
     simpa using hM
   ·exact last i us hge
 have h1 : ∀ (l : List (List UInt8)) (b c : List UInt8), (t.kind = 21 ∨ t.kind = 17 ∨ 0 < l.length) → ∃ M, bR M t f l b c (.node t.kind t.text (if t.kind = 21 ∨ t.kind = 17 then l else l.set 0 f) (arrTs t.kids b c)) := fun l b c hl => by
  by_cases h21 : t.kind = 21
  ·obtain ⟨M, hM⟩ := kids b c l t.kids.length 0 [] (by omega) rfl
   rw [if_pos (.inl h21)]
   exact ⟨M + 1, jR M _ _ _ _ _ _ ⟨fun h => absurd h21 h, fun _ => by simpa using hM⟩⟩
  ·by_cases h17 : t.kind = 17
   ·obtain ⟨M, hM⟩ := kids b c l t.kids.length 0 [] (by omega) rfl
    rw [if_pos (.inr h17)]
    exact ⟨M + 1, jR M _ _ _ _ _ _ ⟨fun _ => ⟨fun h => absurd h17 h, fun _ => by simpa using hM⟩, fun h => absurd h h21⟩⟩
   ·obtain ⟨M, hM⟩ := kids b c (l.set 0 f) t.kids.length 0 [] (by omega) rfl
    rw [if_neg (by omega)]
    obtain ⟨s, hs0, _⟩ | h' := aN l 0
    ·exact ⟨M + 1, jR M _ _ _ _ _ _ ⟨fun _ => ⟨fun _ => ⟨s, hs0, by simpa using hM⟩, fun h => absurd h h17⟩, fun h => absurd h h21⟩⟩
    ·omega
 -- the leads
 have z : ∀ i, i < N → (List.replicate N ([] : List UInt8))[i]? = some [] := fun i hi => by rw [List.getElem?_replicate, if_pos hi]
 have z2 : ∀ (i j : Nat) (x : List UInt8), i < N → j ≠ i → ((List.replicate N ([] : List UInt8)).set j x)[i]? = some [] := fun i j x hi hj => by rw [List.getElem?_set_ne hj, z i hi]
 have z3 : ∀ (i j k : Nat) (x y : List UInt8), i < N → j ≠ i → k ≠ i → (((List.replicate N ([] : List UInt8)).set j x).set k y)[i]? = some [] := fun i j k x y hi hj hk => by rw [List.getElem?_set_ne hk, z2 i j x hi hj]
 have len : ∀ l : List (List UInt8), l.length = N → t.kind = 21 ∨ t.kind = 17 ∨ 0 < l.length := fun l e => by omega
 rw [nO]
 suffices h0 : ∃ M, kP M t f N (.node t.kind t.text (ldA t.kind t.kids.length f) (arrTs t.kids (bgK t.kind t.kids.length f) (rsK t.kind))) by
  obtain ⟨M, hM⟩ := h0
  exact rU M _ _ _ ⟨_, rI (by omega) (by omega), N, hN, by omega, hM⟩
 by_cases h1x : t.kind = 1
 ·obtain ⟨M, hM⟩ := h1 (((List.replicate N ([] : List UInt8)).set 1 [32]).set 2 [10]) [10, 10] [10, 10] (len _ (by simp only [List.length_set, List.length_replicate]))
  have e1 : ldA t.kind t.kids.length f = if t.kind = 21 ∨ t.kind = 17 then (((List.replicate N ([] : List UInt8)).set 1 [32]).set 2 [10]) else List.set (((List.replicate N ([] : List UInt8)).set 1 [32]).set 2 [10]) 0 f := by unfold ldA ld0; rw [hNt, h1x]; rfl
  have e2 : rsK t.kind = [10, 10] := by rw [h1x]; rfl
  rw [e1, e2]
  rw [show bgK t.kind t.kids.length f = [10, 10] by rw [h1x]; rfl]
  exact ⟨M + 1, bn M _ _ _ _ ⟨fun _ => ⟨[], z 1 (by omega), [], z2 2 1 _ (by omega) (by decide), hM⟩, fun h => absurd h1x h⟩⟩
 by_cases h2x : t.kind = 2
 ·have e1 : ldA t.kind t.kids.length f = if t.kind = 21 ∨ t.kind = 17 then (((List.replicate N ([] : List UInt8)).set 1 [32]).set 5 [32]) else List.set (((List.replicate N ([] : List UInt8)).set 1 [32]).set 5 [32]) 0 f := by unfold ldA ld0; rw [hNt, h2x]; rfl
  have e2 : rsK t.kind = [32] := by rw [h2x]; rfl
  rw [e1, e2]
  by_cases h2n : 2 < ((t.kids.length : Nat) : Int)
  ·obtain ⟨M, hM⟩ := h1 (((List.replicate N ([] : List UInt8)).set 1 [32]).set 5 [32]) [] [32] (len _ (by simp only [List.length_set, List.length_replicate]))
   rw [show bgK t.kind t.kids.length f = [] by rw [h2x]; simp [bgK]; omega]
   exact ⟨M + 1, bn M _ _ _ _ ⟨fun h => absurd (h2x.symm.trans h) (by decide), fun _ => ⟨fun _ => ⟨[], z 1 (by omega), [], z2 5 1 _ (by omega) (by decide), ⟨fun _ => hM, fun h => absurd h2n h⟩⟩, fun h => absurd h2x h⟩⟩⟩
  ·obtain ⟨M, hM⟩ := h1 (((List.replicate N ([] : List UInt8)).set 1 [32]).set 5 [32]) [32] [32] (len _ (by simp only [List.length_set, List.length_replicate]))
   rw [show bgK t.kind t.kids.length f = [32] by rw [h2x]; simp [bgK]; omega]
   exact ⟨M + 1, bn M _ _ _ _ ⟨fun h => absurd (h2x.symm.trans h) (by decide), fun _ => ⟨fun _ => ⟨[], z 1 (by omega), [], z2 5 1 _ (by omega) (by decide), ⟨fun h => absurd h h2n, fun _ => hM⟩⟩, fun h => absurd h2x h⟩⟩⟩
 by_cases h3x : t.kind = 3
 ·obtain ⟨M, hM⟩ := h1 (((List.replicate N ([] : List UInt8)).set 1 [32]).set 2 [32]) [32] [32] (len _ (by simp only [List.length_set, List.length_replicate]))
  have e1 : ldA t.kind t.kids.length f = if t.kind = 21 ∨ t.kind = 17 then (((List.replicate N ([] : List UInt8)).set 1 [32]).set 2 [32]) else List.set (((List.replicate N ([] : List UInt8)).set 1 [32]).set 2 [32]) 0 f := by unfold ldA ld0; rw [hNt, h3x]; rfl
  have e2 : rsK t.kind = [32] := by rw [h3x]; rfl
  rw [e1, e2]
  rw [show bgK t.kind t.kids.length f = [32] by rw [h3x]; rfl]
  exact ⟨_, bn _ _ _ _ _ ⟨fun h => absurd (h3x.symm.trans h) (by decide), fun _ => ⟨fun h => absurd (h3x.symm.trans h) (by decide), fun _ => ⟨fun _ => bW M _ _ _ _ _ ⟨fun _ => ⟨[], z 1 (by omega), [], z2 2 1 _ (by omega) (by decide), hM⟩, fun h => (by cases h)⟩, fun h => absurd h3x h⟩⟩⟩⟩
 by_cases h19x : t.kind = 19
 ·obtain ⟨M, hM⟩ := h1 (((List.replicate N ([] : List UInt8)).set 1 [32]).set 2 [32]) [32] [32] (len _ (by simp only [List.length_set, List.length_replicate]))
  have e1 : ldA t.kind t.kids.length f = if t.kind = 21 ∨ t.kind = 17 then (((List.replicate N ([] : List UInt8)).set 1 [32]).set 2 [32]) else List.set (((List.replicate N ([] : List UInt8)).set 1 [32]).set 2 [32]) 0 f := by unfold ldA ld0; rw [hNt, h19x]; rfl
  have e2 : rsK t.kind = [32] := by rw [h19x]; rfl
  rw [e1, e2]
  rw [show bgK t.kind t.kids.length f = [32] by rw [h19x]; rfl]
  exact ⟨_, bn _ _ _ _ _ ⟨fun h => absurd (h19x.symm.trans h) (by decide), fun _ => ⟨fun h => absurd (h19x.symm.trans h) (by decide), fun _ => ⟨fun h => absurd (h19x.symm.trans h) (by decide), fun _ => by rw [show (t.kind == 19) = true by rw [h19x]; rfl]; exact bW M _ _ _ _ _ ⟨fun _ => ⟨[], z 1 (by omega), [], z2 2 1 _ (by omega) (by decide), hM⟩, fun h => (by cases h)⟩⟩⟩⟩⟩
 by_cases h20x : t.kind = 20
 ·obtain ⟨M, hM⟩ := h1 ((((List.replicate N ([] : List UInt8)).set 1 [32]).set 2 [32]).set 3 [32]) [32] [32] (len _ (by simp only [List.length_set, List.length_replicate]))
  have e1 : ldA t.kind t.kids.length f = if t.kind = 21 ∨ t.kind = 17 then ((((List.replicate N ([] : List UInt8)).set 1 [32]).set 2 [32]).set 3 [32]) else List.set ((((List.replicate N ([] : List UInt8)).set 1 [32]).set 2 [32]).set 3 [32]) 0 f := by unfold ldA ld0; rw [hNt, h20x]; rfl
  have e2 : rsK t.kind = [32] := by rw [h20x]; rfl
  rw [e1, e2]
  rw [show bgK t.kind t.kids.length f = [32] by rw [h20x]; rfl]
  exact ⟨_, bn _ _ _ _ _ ⟨fun h => absurd (h20x.symm.trans h) (by decide), fun _ => ⟨fun h => absurd (h20x.symm.trans h) (by decide), fun _ => ⟨fun h => absurd (h20x.symm.trans h) (by decide), fun _ => by rw [show (t.kind == 19) = false by rw [h20x]; rfl]; exact bW M _ _ _ _ _ ⟨fun h => (by cases h), fun _ => ⟨fun _ => ⟨[], z 1 (by omega), [], z2 2 1 _ (by omega) (by decide), [], z3 3 1 2 _ _ (by omega) (by decide) (by decide), hM⟩, fun h => absurd h20x h⟩⟩⟩⟩⟩⟩
 by_cases h8x : t.kind = 8
 ·obtain ⟨M, hM⟩ := h1 (List.replicate N ([] : List UInt8)) [] [32] (len _ (by simp only [List.length_set, List.length_replicate]))
  have e1 : ldA t.kind t.kids.length f = if t.kind = 21 ∨ t.kind = 17 then (List.replicate N ([] : List UInt8)) else List.set (List.replicate N ([] : List UInt8)) 0 f := by unfold ldA ld0; rw [hNt, h8x]; rfl
  have e2 : rsK t.kind = [32] := by rw [h8x]; rfl
  rw [e1, e2]
  rw [show bgK t.kind t.kids.length f = [] by rw [h8x]; rfl]
  exact ⟨_, bn _ _ _ _ _ ⟨fun h => absurd (h8x.symm.trans h) (by decide), fun _ => ⟨fun h => absurd (h8x.symm.trans h) (by decide), fun _ => ⟨fun h => absurd (h8x.symm.trans h) (by decide), fun _ => by rw [show (t.kind == 19) = false by rw [h8x]; rfl]; exact bW _ _ _ _ _ _ ⟨fun h => (by cases h), fun _ => ⟨fun h => absurd (h8x.symm.trans h) (by decide), fun _ => ⟨fun _ => df M _ _ _ _ _ ⟨fun _ => hM, fun h => (by cases h)⟩, fun h => absurd h8x h⟩⟩⟩⟩⟩⟩⟩
 by_cases h16x : t.kind = 16
 ·obtain ⟨M, hM⟩ := h1 (List.replicate N ([] : List UInt8)) [] [32] (len _ (by simp only [List.length_set, List.length_replicate]))
  have e1 : ldA t.kind t.kids.length f = if t.kind = 21 ∨ t.kind = 17 then (List.replicate N ([] : List UInt8)) else List.set (List.replicate N ([] : List UInt8)) 0 f := by unfold ldA ld0; rw [hNt, h16x]; rfl
  have e2 : rsK t.kind = [32] := by rw [h16x]; rfl
  rw [e1, e2]
  rw [show bgK t.kind t.kids.length f = [] by rw [h16x]; rfl]
  exact ⟨_, bn _ _ _ _ _ ⟨fun h => absurd (h16x.symm.trans h) (by decide), fun _ => ⟨fun h => absurd (h16x.symm.trans h) (by decide), fun _ => ⟨fun h => absurd (h16x.symm.trans h) (by decide), fun _ => by rw [show (t.kind == 19) = false by rw [h16x]; rfl]; exact bW _ _ _ _ _ _ ⟨fun h => (by cases h), fun _ => ⟨fun h => absurd (h16x.symm.trans h) (by decide), fun _ => ⟨fun h => absurd (h16x.symm.trans h) (by decide), fun _ => ⟨fun _ => df M _ _ _ _ _ ⟨fun _ => hM, fun h => (by cases h)⟩, fun h => absurd h16x h⟩⟩⟩⟩⟩⟩⟩⟩
 by_cases h18x : t.kind = 18
 ·obtain ⟨M, hM⟩ := h1 (List.replicate N ([] : List UInt8)) [] [32] (len _ (by simp only [List.length_set, List.length_replicate]))
  have e1 : ldA t.kind t.kids.length f = if t.kind = 21 ∨ t.kind = 17 then (List.replicate N ([] : List UInt8)) else List.set (List.replicate N ([] : List UInt8)) 0 f := by unfold ldA ld0; rw [hNt, h18x]; rfl
  have e2 : rsK t.kind = [32] := by rw [h18x]; rfl
  rw [e1, e2]
  rw [show bgK t.kind t.kids.length f = [] by rw [h18x]; rfl]
  exact ⟨_, bn _ _ _ _ _ ⟨fun h => absurd (h18x.symm.trans h) (by decide), fun _ => ⟨fun h => absurd (h18x.symm.trans h) (by decide), fun _ => ⟨fun h => absurd (h18x.symm.trans h) (by decide), fun _ => by rw [show (t.kind == 19) = false by rw [h18x]; rfl]; exact bW _ _ _ _ _ _ ⟨fun h => (by cases h), fun _ => ⟨fun h => absurd (h18x.symm.trans h) (by decide), fun _ => ⟨fun h => absurd (h18x.symm.trans h) (by decide), fun _ => ⟨fun h => absurd (h18x.symm.trans h) (by decide), fun _ => ⟨fun _ => df M _ _ _ _ _ ⟨fun _ => hM, fun h => (by cases h)⟩, fun h => absurd h18x h⟩⟩⟩⟩⟩⟩⟩⟩⟩
 by_cases h22x : t.kind = 22
 ·obtain ⟨M, hM⟩ := h1 (List.replicate N ([] : List UInt8)) [] [32] (len _ (by simp only [List.length_set, List.length_replicate]))
  have e1 : ldA t.kind t.kids.length f = if t.kind = 21 ∨ t.kind = 17 then (List.replicate N ([] : List UInt8)) else List.set (List.replicate N ([] : List UInt8)) 0 f := by unfold ldA ld0; rw [hNt, h22x]; rfl
  have e2 : rsK t.kind = [32] := by rw [h22x]; rfl
  rw [e1, e2]
  rw [show bgK t.kind t.kids.length f = [] by rw [h22x]; rfl]
  exact ⟨_, bn _ _ _ _ _ ⟨fun h => absurd (h22x.symm.trans h) (by decide), fun _ => ⟨fun h => absurd (h22x.symm.trans h) (by decide), fun _ => ⟨fun h => absurd (h22x.symm.trans h) (by decide), fun _ => by rw [show (t.kind == 19) = false by rw [h22x]; rfl]; exact bW _ _ _ _ _ _ ⟨fun h => (by cases h), fun _ => ⟨fun h => absurd (h22x.symm.trans h) (by decide), fun _ => ⟨fun h => absurd (h22x.symm.trans h) (by decide), fun _ => ⟨fun h => absurd (h22x.symm.trans h) (by decide), fun _ => ⟨fun h => absurd (h22x.symm.trans h) (by decide), fun _ => by rw [show (t.kind == 22) = true by rw [h22x]; rfl]; exact df M _ _ _ _ _ ⟨fun _ => hM, fun h => (by cases h)⟩⟩⟩⟩⟩⟩⟩⟩⟩⟩
 by_cases h17x : t.kind = 17
 ·obtain ⟨M, hM⟩ := h1 (List.replicate N ([] : List UInt8)) f [32] (len _ (by simp only [List.length_set, List.length_replicate]))
  have e1 : ldA t.kind t.kids.length f = if t.kind = 21 ∨ t.kind = 17 then (List.replicate N ([] : List UInt8)) else List.set (List.replicate N ([] : List UInt8)) 0 f := by unfold ldA ld0; rw [hNt, h17x]; rfl
  have e2 : rsK t.kind = [32] := by rw [h17x]; rfl
  rw [e1, e2]
  rw [show bgK t.kind t.kids.length f = f by rw [h17x]; rfl]
  exact ⟨_, bn _ _ _ _ _ ⟨fun h => absurd (h17x.symm.trans h) (by decide), fun _ => ⟨fun h => absurd (h17x.symm.trans h) (by decide), fun _ => ⟨fun h => absurd (h17x.symm.trans h) (by decide), fun _ => by rw [show (t.kind == 19) = false by rw [h17x]; rfl]; exact bW _ _ _ _ _ _ ⟨fun h => (by cases h), fun _ => ⟨fun h => absurd (h17x.symm.trans h) (by decide), fun _ => ⟨fun h => absurd (h17x.symm.trans h) (by decide), fun _ => ⟨fun h => absurd (h17x.symm.trans h) (by decide), fun _ => ⟨fun h => absurd (h17x.symm.trans h) (by decide), fun _ => by rw [show (t.kind == 22) = false by rw [h17x]; rfl]; exact df M _ _ _ _ _ ⟨fun h => (by cases h), fun _ => ⟨fun _ => hM, fun h => absurd h17x h⟩⟩⟩⟩⟩⟩⟩⟩⟩⟩⟩
 by_cases h21x : t.kind = 21
 ·obtain ⟨M, hM⟩ := h1 ((List.replicate N ([] : List UInt8)).set 0 [32]) f [32] (len _ (by simp only [List.length_set, List.length_replicate]))
  have e1 : ldA t.kind t.kids.length f = if t.kind = 21 ∨ t.kind = 17 then ((List.replicate N ([] : List UInt8)).set 0 [32]) else List.set ((List.replicate N ([] : List UInt8)).set 0 [32]) 0 f := by unfold ldA ld0; rw [hNt, h21x]; rfl
  have e2 : rsK t.kind = [32] := by rw [h21x]; rfl
  rw [e1, e2]
  rw [show bgK t.kind t.kids.length f = f by rw [h21x]; rfl]
  exact ⟨_, bn _ _ _ _ _ ⟨fun h => absurd (h21x.symm.trans h) (by decide), fun _ => ⟨fun h => absurd (h21x.symm.trans h) (by decide), fun _ => ⟨fun h => absurd (h21x.symm.trans h) (by decide), fun _ => by rw [show (t.kind == 19) = false by rw [h21x]; rfl]; exact bW _ _ _ _ _ _ ⟨fun h => (by cases h), fun _ => ⟨fun h => absurd (h21x.symm.trans h) (by decide), fun _ => ⟨fun h => absurd (h21x.symm.trans h) (by decide), fun _ => ⟨fun h => absurd (h21x.symm.trans h) (by decide), fun _ => ⟨fun h => absurd (h21x.symm.trans h) (by decide), fun _ => by rw [show (t.kind == 22) = false by rw [h21x]; rfl]; exact df M _ _ _ _ _ ⟨fun h => (by cases h), fun _ => ⟨fun h => absurd (h21x.symm.trans h) (by decide), fun _ => ⟨fun _ => ⟨[], z 0 (by omega), hM⟩, fun h => absurd h21x h⟩⟩⟩⟩⟩⟩⟩⟩⟩⟩⟩⟩
 obtain ⟨M, hM⟩ := h1 (List.replicate N ([] : List UInt8)) [32] [32] (len _ (by simp only [List.length_set, List.length_replicate]))
 have e1 : ldA t.kind t.kids.length f = if t.kind = 21 ∨ t.kind = 17 then (List.replicate N ([] : List UInt8)) else List.set (List.replicate N ([] : List UInt8)) 0 f := by unfold ldA ld0; rw [hNt]; simp only [h1x, h2x, h3x, h19x, h20x, h8x, h16x, h18x, h22x, h17x, h21x, or_self, if_false]
 have e2 : rsK t.kind = [32] := by unfold rsK; rw [if_neg h1x]
 have e3 : bgK t.kind t.kids.length f = [32] := by unfold bgK; simp only [h1x, h2x, h3x, h19x, h20x, h8x, h16x, h18x, h22x, h17x, h21x, or_self, if_false]
 rw [e1, e2, e3]
 refine ⟨M + 3, bn (M + 2) _ _ _ _ ⟨fun h => absurd h h1x, fun _ => ⟨fun h => absurd h h2x, fun _ => ⟨fun h => absurd h h3x, fun _ => ?_⟩⟩⟩⟩
 rw [show (t.kind == 19) = false by simpa using h19x]
 refine bW (M + 1) _ _ _ _ _ ⟨fun h => (by cases h), fun _ => ⟨fun h => absurd h h20x, fun _ => ⟨fun h => absurd h h8x, fun _ => ⟨fun h => absurd h h16x, fun _ => ⟨fun h => absurd h h18x, fun _ => ?_⟩⟩⟩⟩⟩
 rw [show (t.kind == 22) = false by simpa using h22x]
 exact df M _ _ _ _ _ ⟨fun h => (by cases h), fun _ => ⟨fun h => absurd h h17x, fun _ => ⟨fun h => absurd h h21x, fun _ => hM⟩⟩⟩
def pw (t : Tree) : Tree := if shapeK t = true then arrT t [] else .node 0 [] [] []
theorem qx (t : Tree) (ht : tbulk t ≤ 40000000) : fM t (pw t) := by
 refine rV 0 _ _ ⟨_, sM t (by omega), fun h => ?_, fun h => ⟨_, yz t ht h [], ?_⟩⟩
 ·unfold pw; rw [if_neg (by rw [h]; decide)]
 ·unfold pw; rw [if_pos h]
theorem Bx (a b : List (List UInt8)) (ha : a.length ≤ 900000000) : mX a b (a == b) := by
 have loop : a.length = b.length → ∀ k i, a.length - i ≤ k → a.take i = b.take i → ∃ M, gx M a b i (a == b) := fun hl k => by
  have last : ∀ i, ¬ i < a.length → a.take i = b.take i → ∃ M, gx M a b i (a == b) := fun i hi he => by
   rw [List.take_of_length_le (by omega), List.take_of_length_le (by omega)] at he
   exact ⟨1, lI 0 _ _ _ _ ⟨fun h => absurd h hi, fun _ => by simp [he]⟩⟩
  induction k with
  | zero => intro i hi he; exact last i (by omega) he
  | succ k ih =>
   intro i hi he
   obtain ⟨x, hx, hlt⟩ | hge := aN a i
   ·obtain ⟨y, hy, _⟩ | h' := aN b i
    ·by_cases hxy : x = y
     ·obtain ⟨M, hM⟩ := ih (i + 1) (by omega) (by rw [List.take_add_one, List.take_add_one, he, hx, hy, hxy])
      exact ⟨M + 1, lI M _ _ _ _ ⟨fun _ => ⟨x, hx, y, hy, fun h => absurd hxy h, fun _ => ⟨by omega, hM⟩⟩, fun h => absurd hlt h⟩⟩
     ·exact ⟨1, lI 0 _ _ _ _ ⟨fun _ => ⟨x, hx, y, hy, fun _ => by
       have : ¬ a = b := fun e => hxy (by rw [e, hy] at hx; injection hx with hx; exact hx.symm)
       simp [this], fun h => absurd h hxy⟩, fun h => absurd hlt h⟩⟩
    ·omega
   ·exact last i hge he
 by_cases hl : a.length = b.length
 ·obtain ⟨M, hM⟩ := loop hl a.length 0 (by omega) (by simp)
  exact oX M _ _ _ ⟨fun h => absurd hl h, fun _ => hM⟩
 ·exact oX 0 _ _ _ ⟨fun _ => by
   have : ¬ a = b := fun e => hl (by rw [e])
   simp [this], fun h => absurd h hl⟩
mutual
def eqT : Tree → Tree → Bool
 | .node k s ls ks, u => decide (k = u.kind) && (decide (s = u.text) && (decide (ks.length = u.kids.length) && ((ls == u.leads) && eqTs ks u.kids)))
def eqTs : List Tree → List Tree → Bool
 | [], _ => true
 | t :: r, [] => true
 | t :: r, u :: q => eqT t u && eqTs r q
end
theorem zi (t u : Tree) : eqT t u = (decide (t.kind = u.kind) && (decide (t.text = u.text) && (decide (t.kids.length = u.kids.length) && ((t.leads == u.leads) && eqTs t.kids u.kids)))) := by cases t; simp only [eqT]; rfl
mutual
theorem eqT_refl : ∀ t : Tree, eqT t t = true
 | .node k s ls ks => by rw [zi]; simp [eqTs_refl ks, Tree.kids]
theorem eqTs_refl : ∀ l : List Tree, eqTs l l = true
 | [] => rfl
 | t :: r => by simp only [eqTs, eqT_refl t, eqTs_refl r, Bool.and_true]
end
theorem tl : ∀ t : Tree, tbulk t ≤ 900000000 → ∀ u, lq t u (eqT t u) := cw fun t ih ht u => by
 have hk := eE t
 have hl := pg t
 have kids : t.kids.length = u.kids.length → ∀ j i, t.kids.length - i ≤ j → ∃ M, jQ M t u i (eqTs (t.kids.drop i) (u.kids.drop i)) := fun hlen j => by
  have last : ∀ i, ¬ i < t.kids.length → ∃ M, jQ M t u i (eqTs (t.kids.drop i) (u.kids.drop i)) := fun i hi => by
   rw [List.drop_of_length_le (by omega)]
   exact ⟨1, qZ 0 _ _ _ _ ⟨fun h => absurd h hi, fun _ => rfl⟩⟩
  induction j with
  | zero => intro i hi; exact last i (by omega)
  | succ j ihj =>
   intro i hi
   obtain ⟨x, hx, hlt⟩ | hge := aN t.kids i
   ·obtain ⟨y, hy, _⟩ | h' := aN u.kids i
    ·have := eb hx
     have hc := ih i x hx (by omega) y
     obtain ⟨M, hM⟩ := ihj (i + 1) (by omega)
     rw [bV hx, bV hy, eqTs]
     refine ⟨M + 1, qZ M _ _ _ _ ⟨fun _ => ⟨x, hx, y, hy, _, hc, fun e => by rw [e]; rfl, fun e => ⟨by omega, ?_⟩⟩, fun h => absurd hlt h⟩⟩
     rw [e]; exact hM
    ·omega
   ·exact last i hge
 rw [zi]
 by_cases h1 : t.kind = u.kind
 ·by_cases h2 : t.text = u.text
  ·by_cases h3 : t.kids.length = u.kids.length
   ·obtain ⟨M, hM⟩ := kids h3 t.kids.length 0 (by omega)
    refine mH M _ _ _ ⟨fun h => absurd h1 h, fun _ => ⟨fun h => absurd h2 h, fun _ => ⟨fun h => absurd h3 h, fun _ => ⟨_, Bx _ _ (by omega), fun e => ?_, fun e => ?_⟩⟩⟩⟩
    ·rw [e]; simp
    ·rw [e, decide_eq_true h1, decide_eq_true h2, decide_eq_true h3]; exact hM
   ·exact mH 0 _ _ _ ⟨fun h => absurd h1 h, fun _ => ⟨fun h => absurd h2 h, fun _ => ⟨fun _ => by simp [h3], fun h => absurd h h3⟩⟩⟩
  ·exact mH 0 _ _ _ ⟨fun h => absurd h1 h, fun _ => ⟨fun _ => by simp [h2], fun h => absurd h h2⟩⟩
 ·exact mH 0 _ _ _ ⟨fun _ => by simp [h1], fun h => absurd h h1⟩
theorem vX (t : Tree) (ht : tbulk t ≤ 40000000) : jI t (shapeK t && eqT t (pw t)) := by
 refine rh 0 _ _ ⟨_, sM t (by omega), fun h => ⟨_, qx t ht, _, tl t (by omega) _, ?_⟩, fun h => ?_⟩
 ·rw [h]; rfl
 ·rw [h]; rfl
theorem ss {a b : List UInt8} {ka kb : Nat} (ha : az a = ka) (hka : ka ≠ 0) (hb : az b = kb) (hkb : kb ≠ 0) (hl : a.length + b.length ≤ 4096) (hg : fU a (b.getD 0 0) = false) : fusesT a b = false := by
 obtain ⟨a0, hta⟩ := jp ha hka
 obtain ⟨b0, htb⟩ := jp hb hkb
 have hha := ml a0 hta
 have hhb := ml b0 htb
 have t1 : tokenT (a ++ b) = (ka, a.length, 0) := tK a0 hta (.inl ⟨hg, hhb.2.2⟩)
 have g1 : (a ++ b).getD 0 0 = a.getD 0 0 := dG a b 0 a0
 have l1 : aw false (a ++ b) 0 = (0, none) := pk (by simp; omega) (by rw [g1]; exact hha.1) (by rw [g1]; exact hha.2.1)
 have l2 : aw false b 0 = (0, none) := pk b0 hhb.1 hhb.2.1
 have l3 : aw false ([] : List UInt8) 0 = (0, none) := rfl
 have hs : scan (a ++ b) = ⟨[⟨ka, [], a⟩, ⟨kb, [], b⟩], [], 0, 0⟩ := by
  unfold scan
  rw [if_neg (by simp; omega), ke l1 (by simp; omega) (by simpa using t1)]
  have e1 : (a ++ b).drop (0 + a.length) = b := by simp
  rw [e1]
  obtain ⟨f, hf⟩ : ∃ f, (a ++ b).length = f + 1 + 1 := ⟨a.length + b.length - 2, by simp; omega⟩
  rw [hf, ke l2 (by omega) (by simpa using htb)]
  have e2 : b.drop (0 + b.length) = [] := by simp
  rw [e2, lQ l3 rfl]
  simp
 have hne : ¬ (az a = 0 ∨ az b = 0) := by rw [ha, hb]; rintro (h | h); exact hka h; exact hkb h
 rw [qq (t0 := ⟨ka, [], a⟩) (t1 := ⟨kb, [], b⟩) hne (by rw [hs]) (by rw [hs]) (by rw [hs])]
 simp
theorem Bm {x : List UInt8} {c : UInt8} (hx : x.length ≤ 4095) (hc : c = 40 ∨ c = 41 ∨ c = 44 ∨ c = 58 ∨ c = 93) : fusesT x [c] = false := by
 by_cases h : az x = 0
 ·simp [fusesT, h]
 ·have hg : ∀ c : UInt8, aK c = false → aT c = false → (c.toNat == 61) = false → fU x c = false := fun c h1 h2 h3 => by simp [fU, h1, h2, h3]
  rcases hc with rfl | rfl | rfl | rfl | rfl <;> exact ss rfl h rfl (by decide) (by simp; omega) (hg _ (by decide) (by decide) (by decide))
theorem CP {x : List UInt8} {o : UInt8} (hx : x.length ≤ 4095) (ho : o = 40 ∨ o = 91) : fusesT [o] x = false := by
 by_cases h : az x = 0
 ·simp [fusesT, h]
 ·have hg : ∀ o c : UInt8, aV o = false → aT o = false → ([o] == [(61 : UInt8)]) = false → fU [o] c = false := fun o c h1 h2 h3 => by
   show ((aV o && _) || (aT o && _) || (_ && _)) = false
   rw [h1, h2, h3]; rfl
  rcases ho with rfl | rfl <;> exact ss rfl (by decide) rfl h (by simp; omega) (hg _ _ (by decide) (by decide) (by decide))
def Gst (last f : List UInt8) : Prop := ∀ x : List UInt8, x.length ≤ 4095 → ah last f x = f
theorem nF {last f : List UInt8} (h : f ≠ []) : Gst last f := fun x _ => if_neg fun e => h e.1
theorem EK {f : List UInt8} : Gst [] f := fun x _ => if_neg fun e => e.2.1 rfl
theorem rE {o : UInt8} {f : List UInt8} (ho : o = 40 ∨ o = 91) : Gst [o] f := fun x hx => if_neg fun e => by
 have := e.2.2
 rw [CP hx ho] at this
 cases this
theorem g32 (a b : List UInt8) : ah a [32] b = [32] := if_neg fun e => by cases e.1
theorem gcl {x : List UInt8} {c : UInt8} (hx : x.length ≤ 4095) (hc : c = 40 ∨ c = 41 ∨ c = 44 ∨ c = 58 ∨ c = 93) : ah x [] [c] = [] := if_neg fun e => by
 have := e.2.2
 rw [Bm hx hc] at this
 cases this
def Bp (l : List Pce) : Prop := ∀ p ∈ l, p.Text.length ≤ 4095
theorem ib : ∀ {l : List Pce} {last : List UInt8}, Bp l → last.length ≤ 4095 → (ak last l).length ≤ 4095
 | [], last, h, hl => hl
 | p :: r, last, h, hl => by
  show (ak p.Text r).length ≤ 4095
  exact ib (fun q hq => h q (by simp [hq])) (h p (by simp))
theorem qR {ls : List (List UInt8)} {c : Nat} {p : Pce} : ∀ {gs : List (List Pce)} {g : List Pce} {i : Nat}, g ∈ gs → p ∈ g → p ∈ aA ls c gs i
 | f :: r, g, i, hg, hp => by
  rw [aA]
  rcases List.mem_cons.1 hg with rfl | hg
  ·exact List.mem_append_right _ (List.mem_append_left _ hp)
  ·exact List.mem_append_right _ (List.mem_append_right _ (qR hg hp))
def Arr (u : Tree) : Prop := ∀ f last : List UInt8, last.length ≤ 4095 → Bp (pcT (arrT u f)) → Gst last f → spT (arrT u f) last = arrT u f
theorem qf : ∀ (ks : List Tree) (b c : List UInt8) (i : Nat) (last : List UInt8), (∀ u ∈ ks, Arr u) → c ≠ [] → (∀ g ∈ pcTs (arrTs ks b c), Bp g) → last.length ≤ 4095 → Gst (if 0 < i then [44] else last) b → du (spTs (arrTs ks b c)) (pcTs (arrTs ks b c)) i last = arrTs ks b c
 | [], b, c, i, last, hu, hc, hb, hl, hg => rfl
 | u :: r, b, c, i, last, hu, hc, hb, hl, hg => by
  simp only [arrTs, pcTs] at hb
  have h0 := hb (pcT (arrT u b)) (by simp)
  have hl' : (if 0 < i then [44] else last).length ≤ 4095 := by split <;> simp [hl]
  simp only [arrTs, spTs, pcTs, du]
  rw [hu u (by simp) b _ hl' h0 hg, qf r c c (i + 1) _ (fun v hv => hu v (by simp [hv])) hc (fun g hg => hb g (by simp [hg])) (ib h0 hl') (nF hc)]
theorem BL {ls : List (List UInt8)} {c : Nat} (hls : ∀ j, c ≤ j → ls.getD j [] = []) : ∀ (gs : List (List Pce)) (i : Nat) (last : List UInt8), 0 < i → (∀ g ∈ gs, Bp g) → last.length ≤ 4095 → ec ls c gs i last = List.replicate gs.length []
 | [], i, last, hi, hb, hl => rfl
 | g :: s, i, last, hi, hb, hl => by
  simp only [ec, if_pos hi, List.cons_append, List.nil_append, List.length_cons, List.replicate_succ]
  rw [hls _ (by omega), gcl hl (by simp), BL hls s (i + 1) _ (by omega) (fun g hg => hb g (by simp [hg])) (ib (hb g (by simp)) (by decide))]
theorem yq {ls : List (List UInt8)} {c : Nat} (hls : ∀ j, c ≤ j → ls.getD j [] = []) : ∀ {gs : List (List Pce)} {last : List UInt8}, (∀ g ∈ gs, Bp g) → last.length ≤ 4095 → ec ls c gs 0 last = List.replicate (gs.length - 1) []
 | [], last, hb, hl => rfl
 | g :: s, last, hb, hl => BL hls s 1 _ (by decide) (fun g hg => hb g (by simp [hg])) (ib (hb g (by simp)) hl)
theorem uU : ∀ (ks : List Tree) (b c last : List UInt8), (∀ u ∈ ks, Arr u) → b ≠ [] → c ≠ [] → (∀ g ∈ pcTs (arrTs ks b c), Bp g) → last.length ≤ 4095 → iZ (spTs (arrTs ks b c)) (pcTs (arrTs ks b c)) last = arrTs ks b c
 | [], b, c, last, hu, hb0, hc, hb, hl => rfl
 | u :: r, b, c, last, hu, hb0, hc, hb, hl => by
  simp only [arrTs, pcTs] at hb
  have h0 := hb (pcT (arrT u b)) (by simp)
  simp only [arrTs, spTs, pcTs, iZ]
  rw [hu u (by simp) b _ hl h0 (nF hb0), uU r c c _ (fun v hv => hu v (by simp [hv])) hc hc (fun g hg => hb g (by simp [hg])) (ib h0 hl)]
theorem uN : ∀ (us vs : List Tree) (b c : List UInt8), arrTs (us ++ vs) b c = arrTs us b c ++ arrTs vs (if us = [] then b else c) c
 | [], vs, b, c => rfl
 | u :: r, vs, b, c => by
  have h1 : (if u :: r = [] then b else c) = c := if_neg (by simp)
  have h2 : (if r = [] then c else c) = c := by split <;> rfl
  simp only [List.cons_append, arrTs, uN r vs c c, h1, h2]
theorem CV (m : Nat) (f : List UInt8) (h : 2 ≤ m) : ldA 2 (m : Int) f = f :: [32] :: [] :: [] :: [] :: [32] :: List.replicate (m - 3) [] := by
 have e : (aU 2 (m : Int)).toNat = (m - 3) + 6 := by simp only [aU, f0]; simp; split <;> first | omega | (split <;> omega)
 show ((((List.replicate (aU 2 (m : Int)).toNat ([] : List UInt8)).set 1 [32]).set 5 [32]).set 0 f) = _
 rw [e]; rfl
theorem CB (m : Nat) (f : List UInt8) : ldA 16 (m : Int) f = f :: [] :: [] :: List.replicate (m - 1) [] := by
 have e : (aU 16 (m : Int)).toNat = (m - 1) + 3 := by simp only [aU, f0]; simp; split <;> first | omega | (split <;> omega)
 show ((List.replicate (aU 16 (m : Int)).toNat ([] : List UInt8)).set 0 f) = _
 rw [e]; rfl
theorem Ci (m : Nat) (f : List UInt8) (h : 1 ≤ m) : ldA 18 (m : Int) f = f :: [] :: List.replicate (m - 1) [] := by
 have e : (aU 18 (m : Int)).toNat = (m - 1) + 2 := by simp only [aU, f0]; simp; split <;> first | omega | (split <;> omega)
 show ((List.replicate (aU 18 (m : Int)).toNat ([] : List UInt8)).set 0 f) = _
 rw [e]; rfl
theorem yC (n : Nat) : ∀ j, (List.replicate n ([] : List UInt8)).getD j [] = [] := fun j => by
 rw [List.getD_eq_getElem?_getD, List.getElem?_replicate]
 split <;> rfl
theorem DB : ∀ t : Tree, t.kind ≠ 1 → shapeK t = true → Arr t := cw fun t ih h1 hs f last hl hB hG => by
 obtain ⟨f2, f1, f3, f20⟩ := uG hs
 have hn := bB hs
 have ar : ∀ (i : Nat) (u : Tree), t.kids[i]? = some u → Arr u := fun i u hu => ih i u hu (nQ (aR hs hu).2) (aR hs hu).1
 have arm : ∀ u ∈ t.kids, Arr u := fun u hu => by obtain ⟨i, hi⟩ := List.mem_iff_getElem?.1 hu; exact ar i u hi
 rw [jm]
 rw [bp] at hB
 rw [nO] at hB ⊢
 change Bp (bP t.kind t.text (ldA t.kind (t.kids.length : Int) f) (pcTs (arrTs t.kids (bgK t.kind (t.kids.length : Int) f) (rsK t.kind)))) at hB
 change spN t.kind t.text (ldA t.kind (t.kids.length : Int) f) (spTs (arrTs t.kids (bgK t.kind (t.kids.length : Int) f) (rsK t.kind))) (pcTs (arrTs t.kids (bgK t.kind (t.kids.length : Int) f) (rsK t.kind))) last = .node t.kind t.text (ldA t.kind (t.kids.length : Int) f) (arrTs t.kids (bgK t.kind (t.kids.length : Int) f) (rsK t.kind))
 by_cases h2 : t.kind = 2
 ·obtain ⟨us, x, y, e⟩ := f2 h2
  have hx := ar us.length x (by rw [e]; simp)
  have hy := ar (us.length + 1) y (by rw [e]; simp)
  have hlen : t.kids.length = us.length + 2 := by rw [e]; simp
  have hbg : bgK 2 (t.kids.length : Int) f = if us = [] then [32] else [] := by
   rw [hlen]; unfold bgK
   cases us with
   | nil => rfl
   | cons u r => rw [if_neg (by decide), if_pos rfl, if_pos (by simp; omega), if_neg (by simp)]
  have hk : arrTs t.kids (bgK 2 (t.kids.length : Int) f) (rsK 2) = arrTs us (if us = [] then [32] else []) [32] ++ [arrT x [32], arrT y [32]] := by
   rw [hbg, e, uN]
   show _ ++ [arrT x (if us = [] then _ else [32]), arrT y [32]] = _
   congr 2
   split <;> simp_all
  rw [h2, hk, CV _ _ (by omega)] at hB ⊢
  obtain ⟨ks, ek⟩ : ∃ ks, ks = arrTs us (if us = [] then [32] else []) [32] := ⟨_, rfl⟩
  rw [← ek] at hB ⊢
  have hkl : ks.length = us.length := by rw [ek, pj]
  rw [wf] at hB
  change Bp (bP 2 t.text _ (pcTs ks ++ [pcT (arrT x [32]), pcT (arrT y [32])])) at hB
  rw [zG] at hB
  rw [FA]
  have b1 : Bp (pcT (arrT x [32])) := fun p hp => hB p (by simp [hp])
  have b2 : Bp (pcT (arrT y [32])) := fun p hp => hB p (by simp [hp])
  have b3 : ∀ g ∈ pcTs ks, Bp g := fun g hg p hp => hB p (by
   have := qR (ls := f :: [32] :: [] :: [] :: [] :: [32] :: List.replicate (t.kids.length - 3) []) (c := 6) (i := 0) hg hp
   simp only [List.mem_cons, List.mem_append]; exact .inr (.inr (.inr (.inl this))))
  have bx : t.text.length ≤ 4095 := hB ⟨[32], t.text⟩ (by simp)
  have b4 : Bp (aA (f :: [32] :: [] :: [] :: [] :: [32] :: List.replicate (t.kids.length - 3) []) 6 (pcTs ks) 0) := fun p hp => hB p (by simp only [List.mem_cons, List.mem_append]; exact .inr (.inr (.inr (.inl hp))))
  have e1 : du (spTs ks) (pcTs ks) 0 [40] = ks := by
   rw [ek] at b3 ⊢
   exact qf us _ _ 0 [40] (fun u hu => arm u (by rw [e]; simp [hu])) (by simp) b3 (by decide) (rE (.inl rfl))
  have e2 := yq (ls := f :: [32] :: [] :: [] :: [] :: [32] :: List.replicate (t.kids.length - 3) []) (c := 6) (fun j hj => by
   obtain ⟨j, rfl⟩ : ∃ q, j = q + 6 := ⟨j - 6, by omega⟩
   exact yC _ j) (last := [40]) b3 (by decide)
  rw [e1, e2, fQ, hkl, hy [32] [61] (by decide) b2 (nF (by simp)), hx [32] [58] (by decide) b1 (nF (by simp))]
  show Tree.node 2 t.text ([ah last f _, ah _ [32] _, ah t.text [] [40], ah _ [] [41], ah [41] [] [58], ah _ [32] _] ++ _) _ = _
  rw [hG _ (by decide), g32, g32, gcl bx (by simp), gcl (ib b4 (by decide)) (by simp), gcl (x := [41]) (by decide) (by simp), hlen]
  rfl
 by_cases h3 : t.kind = 3
 ·obtain ⟨x, e⟩ := f1 (by omega)
  have hx := ar 0 x (by rw [e]; rfl)
  rw [h3, e] at hB ⊢
  change Bp (⟨_, _⟩ :: ⟨_, _⟩ :: ⟨_, _⟩ :: pcT (arrT x [32])) at hB
  show Tree.node 3 t.text [ah last f _, ah _ [32] _, ah _ [32] _] [spT (arrT x [32]) [61]] = Tree.node 3 t.text [f, [32], [32]] [arrT x [32]]
  rw [hG _ (by decide), g32, g32, hx [32] [61] (by decide) (fun p hp => hB p (by simp [hp])) (nF (by simp))]
 by_cases h4 : t.kind = 4
 ·obtain ⟨x, e⟩ := f1 (by omega)
  have hx := ar 0 x (by rw [e]; rfl)
  rw [h4, e] at hB ⊢
  change Bp (⟨f, t.text⟩ :: ⟨_, _⟩ :: pcT (arrT x [32])) at hB
  have bx : t.text.length ≤ 4095 := hB ⟨f, t.text⟩ (by simp)
  show Tree.node 4 t.text [ah last f _, ah _ [] [58]] [spT (arrT x [32]) [58]] = Tree.node 4 t.text [f, []] [arrT x [32]]
  rw [hG _ bx, gcl bx (by simp), hx [32] [58] (by decide) (fun p hp => hB p (by simp [hp])) (nF (by simp))]
 by_cases h17 : t.kind = 17
 ·obtain ⟨x, e⟩ := f1 (by omega)
  have hx := ar 0 x (by rw [e]; rfl)
  rw [h17, e] at hB ⊢
  change Bp (pcT (arrT x f)) at hB
  show Tree.node 17 t.text [] [spT (arrT x f) last] = Tree.node 17 t.text [] [arrT x f]
  rw [hx f last hl hB hG]
 by_cases h8 : t.kind = 8
 ·obtain ⟨x, e⟩ := f1 (by omega)
  have hx := ar 0 x (by rw [e]; rfl)
  rw [h8, e] at hB ⊢
  change Bp (⟨_, _⟩ :: (pcT (arrT x []) ++ [⟨_, _⟩])) at hB
  have b1 : Bp (pcT (arrT x [])) := fun p hp => hB p (by simp [hp])
  show Tree.node 8 t.text [ah last f _, ah (ak [91] (pcT (arrT x []))) [] [93]] [spT (arrT x []) [91]] = Tree.node 8 t.text [f, []] [arrT x []]
  rw [hG _ (by decide), hx [] [91] (by decide) b1 (rE (.inr rfl)), gcl (ib b1 (by decide)) (by simp)]
 by_cases h16 : t.kind = 16
 ·rw [h16] at hB ⊢
  obtain ⟨ks, ek⟩ : ∃ ks, ks = arrTs t.kids [] [32] := ⟨_, rfl⟩
  have hk : arrTs t.kids (bgK 16 (t.kids.length : Int) f) (rsK 16) = ks := ek.symm
  rw [hk, CB] at hB ⊢
  have hkl : ks.length = t.kids.length := by rw [ek, pj]
  change Bp (⟨f, t.text⟩ :: ⟨_, _⟩ :: (aA (f :: [] :: [] :: List.replicate (t.kids.length - 1) []) 3 (pcTs ks) 0 ++ [⟨_, _⟩])) at hB
  have bx : t.text.length ≤ 4095 := hB ⟨f, t.text⟩ (by simp)
  have b4 : Bp (aA (f :: [] :: [] :: List.replicate (t.kids.length - 1) []) 3 (pcTs ks) 0) := fun p hp => hB p (by simp only [List.mem_cons, List.mem_append]; exact .inr (.inr (.inl hp)))
  have b3 : ∀ g ∈ pcTs ks, Bp g := fun g hg p hp => b4 p (qR hg hp)
  have e1 : du (spTs ks) (pcTs ks) 0 [40] = ks := by
   rw [ek] at b3 ⊢
   exact qf t.kids _ _ 0 [40] arm (by simp) b3 (by decide) (rE (.inl rfl))
  have e2 := yq (ls := f :: [] :: [] :: List.replicate (t.kids.length - 1) []) (c := 3) (fun j hj => by
   obtain ⟨j, rfl⟩ : ∃ q, j = q + 3 := ⟨j - 3, by omega⟩
   exact yC _ j) (last := [40]) b3 (by decide)
  show Tree.node 16 t.text ([ah last f t.text, ah t.text [] [40], ah (ak [40] (aA (f :: [] :: [] :: List.replicate (t.kids.length - 1) []) 3 (pcTs ks) 0)) [] [41]] ++ ec (f :: [] :: [] :: List.replicate (t.kids.length - 1) []) 3 (pcTs ks) 0 [40]) (du (spTs ks) (pcTs ks) 0 [40]) = _
  rw [e1, e2, fQ, hkl, hG _ bx, gcl bx (by simp), gcl (ib b4 (by decide)) (by simp)]
  rfl
 by_cases h18 : t.kind = 18
 ·have h0 := hn.2.1 h18
  rw [h18] at hB ⊢
  obtain ⟨ks, ek⟩ : ∃ ks, ks = arrTs t.kids [] [32] := ⟨_, rfl⟩
  have hk : arrTs t.kids (bgK 18 (t.kids.length : Int) f) (rsK 18) = ks := ek.symm
  rw [hk, Ci _ _ h0] at hB ⊢
  have hkl : ks.length = t.kids.length := by rw [ek, pj]
  change Bp (⟨f, [91]⟩ :: (aA (f :: [] :: List.replicate (t.kids.length - 1) []) 2 (pcTs ks) 0 ++ [⟨_, _⟩])) at hB
  have b4 : Bp (aA (f :: [] :: List.replicate (t.kids.length - 1) []) 2 (pcTs ks) 0) := fun p hp => hB p (by simp only [List.mem_cons, List.mem_append]; exact .inr (.inl hp))
  have b3 : ∀ g ∈ pcTs ks, Bp g := fun g hg p hp => b4 p (qR hg hp)
  have e1 : du (spTs ks) (pcTs ks) 0 [91] = ks := by
   rw [ek] at b3 ⊢
   exact qf t.kids _ _ 0 [91] arm (by simp) b3 (by decide) (rE (.inr rfl))
  have e2 := yq (ls := f :: [] :: List.replicate (t.kids.length - 1) []) (c := 2) (fun j hj => by
   obtain ⟨j, rfl⟩ : ∃ q, j = q + 2 := ⟨j - 2, by omega⟩
   exact yC _ j) (last := [91]) b3 (by decide)
  show Tree.node 18 t.text ([ah last f [91], ah (ak [91] (aA (f :: [] :: List.replicate (t.kids.length - 1) []) 2 (pcTs ks) 0)) [] [93]] ++ ec (f :: [] :: List.replicate (t.kids.length - 1) []) 2 (pcTs ks) 0 [91]) (du (spTs ks) (pcTs ks) 0 [91]) = _
  rw [e1, e2, fQ, hkl, hG _ (by decide), gcl (ib b4 (by decide)) (by simp)]
  rfl
 by_cases h19 : t.kind = 19
 ·obtain ⟨x, y, z, e⟩ := f3 h19
  have hx := ar 0 x (by rw [e]; rfl)
  have hy := ar 1 y (by rw [e]; rfl)
  have hz := ar 2 z (by rw [e]; rfl)
  rw [h19, e] at hB ⊢
  change Bp (⟨_, _⟩ :: (pcT (arrT x [32]) ++ (⟨_, _⟩ :: (pcT (arrT y [32]) ++ (⟨_, _⟩ :: pcT (arrT z [32])))))) at hB
  show Tree.node 19 t.text [ah last f _, ah _ [32] _, ah _ [32] _] [spT (arrT x [32]) _, spT (arrT y [32]) _, spT (arrT z [32]) _] = Tree.node 19 t.text [f, [32], [32]] [arrT x [32], arrT y [32], arrT z [32]]
  rw [hG _ (by decide), g32, g32, hx [32] _ (by decide) (fun p hp => hB p (by simp [hp])) (nF (by simp)), hy [32] _ (by decide) (fun p hp => hB p (by simp [hp])) (nF (by simp)), hz [32] _ (by decide) (fun p hp => hB p (by simp [hp])) (nF (by simp))]
 by_cases h20 : t.kind = 20
 ·obtain ⟨x, y, e⟩ := f20 (by omega)
  have hx := ar 0 x (by rw [e]; rfl)
  have hy := ar 1 y (by rw [e]; rfl)
  rw [h20, e] at hB ⊢
  change Bp (⟨_, _⟩ :: ⟨_, _⟩ :: ⟨_, _⟩ :: (pcT (arrT x [32]) ++ (⟨_, _⟩ :: pcT (arrT y [32])))) at hB
  show Tree.node 20 t.text [ah last f _, ah _ [32] _, ah _ [32] _, ah _ [32] _] [spT (arrT x [32]) _, spT (arrT y [32]) _] = Tree.node 20 t.text [f, [32], [32], [32]] [arrT x [32], arrT y [32]]
  rw [hG _ (by decide), g32, g32, g32, hx [32] _ (by decide) (fun p hp => hB p (by simp [hp])) (nF (by simp)), hy [32] _ (by decide) (fun p hp => hB p (by simp [hp])) (nF (by simp))]
 by_cases h21 : t.kind = 21
 ·obtain ⟨x, y, e⟩ := f20 (by omega)
  have hx := ar 0 x (by rw [e]; rfl)
  have hy := ar 1 y (by rw [e]; rfl)
  rw [h21, e] at hB ⊢
  change Bp (pcT (arrT x f) ++ (⟨[32], t.text⟩ :: pcT (arrT y [32]))) at hB
  have bx : t.text.length ≤ 4095 := hB ⟨[32], t.text⟩ (by simp)
  show Tree.node 21 t.text [ah _ [32] _] [spT (arrT x f) last, spT (arrT y [32]) t.text] = Tree.node 21 t.text [[32]] [arrT x f, arrT y [32]]
  rw [g32, hx f last hl (fun p hp => hB p (by simp [hp])) hG, hy [32] _ bx (fun p hp => hB p (by simp [hp])) (nF (by simp))]
 by_cases h22 : t.kind = 22
 ·obtain ⟨x, e⟩ := f1 (by omega)
  have hx := ar 0 x (by rw [e]; rfl)
  rw [h22, e] at hB ⊢
  change Bp (⟨_, _⟩ :: (pcT (arrT x []) ++ [⟨_, _⟩])) at hB
  have b1 : Bp (pcT (arrT x [])) := fun p hp => hB p (by simp [hp])
  show Tree.node 22 t.text [ah last f _, ah (ak [40] (pcT (arrT x []))) [] [41]] [spT (arrT x []) [40]] = Tree.node 22 t.text [f, []] [arrT x []]
  rw [hG _ (by decide), hx [] [40] (by decide) b1 (rE (.inl rfl)), gcl (ib b1 (by decide)) (by simp)]
 have hsl := iY hs
 have hm : (aU t.kind (t.kids.length : Int)) = 1 ∧ t.kids.length = 0 := by
  simp only [aU, f0, h1, h2, h3, h4, h8, h16, h17, h18, h19, h20, h21, h22, if_false] at hsl ⊢
  split at hsl
  ·rename_i hk
   rw [if_pos hk]
   split at hsl <;> (first | omega | (split at hsl <;> first | omega | skip))
   all_goals (rename_i hh; simp_all)
  ·omega
 have hld : ldA t.kind (t.kids.length : Int) f = [f] := by
  simp only [ldA, ld0, h1, h2, h3, h4, h8, h16, h17, h18, h19, h20, h21, h22, if_false, or_self, hm.1]
  rfl
 have hks : t.kids = [] := List.eq_nil_of_length_eq_zero hm.2
 rw [hld, hks] at hB ⊢
 have hc : bP t.kind t.text [f] (pcTs (arrTs [] (bgK t.kind ((List.nil : List Tree).length : Int) f) (rsK t.kind))) = [⟨f, nR t.kind t.text⟩] := by
  simp only [bP, h1, h2, h3, h4, h8, h16, h17, h18, h19, h20, h21, h22, if_false]; rfl
 rw [hc] at hB
 have bx := hB _ (List.mem_singleton.2 rfl)
 simp only [spN, h1, h2, h3, h4, h8, h16, h17, h18, h19, h20, h21, h22, if_false]
 show Tree.node t.kind t.text [ah last f (nR t.kind t.text)] [] = Tree.node t.kind t.text [f] []
 rw [hG _ bx]
theorem wM : ∀ {r : List Pce} {p : Pce} {s : WS}, p ∈ r → s.2.length + p.Text.length ≤ (bf r s).2.length
 | q :: r, p, s, h => by
  rw [dh]
  have e : (gL q.Lead q.Text s).2.length = s.2.length + (ah s.1 q.Lead q.Text).length + q.Text.length := by simp only [gL, List.length_append]
  rcases List.mem_cons.1 h with rfl | h
  ·have := qc r (gL p.Lead p.Text s); omega
  ·have := wM (s := gL q.Lead q.Text s) h; omega
theorem CO {t : Tree} (hk : t.kind = 1) (hs : shapeK t = true) (hs2 : shapeK (arrT t []) = true) (hz : (dp (arrT t [])).length ≤ 4096) : spT (arrT t []) [] = arrT t [] := by
 have hk' : (arrT t []).kind = 1 := by rw [nO]; exact hk
 have e : arrT t [] = .node 1 t.text [[], [32], [10]] (arrTs t.kids [10, 10] [10, 10]) := by
  rw [nO, hk]
  have : (aU 1 (t.kids.length : Int)).toNat = 3 := by unfold aU; rw [if_pos rfl, if_neg (by omega)]; rfl
  show Tree.node 1 t.text ((((List.replicate (aU 1 (t.kids.length : Int)).toNat ([] : List UInt8)).set 1 [32]).set 2 [10]).set 0 []) _ = _
  rw [this]; rfl
 rw [rH hk' hs2, e] at hz
 rw [List.length_append] at hz
 change (bf (⟨[], [109, 111, 100, 117, 108, 101]⟩ :: ⟨[32], t.text⟩ :: (pcTs (arrTs t.kids [10, 10] [10, 10])).flatten) ([], [])).2.length + _ ≤ 4096 at hz
 have hb : ∀ p ∈ (⟨[32], t.text⟩ : Pce) :: (pcTs (arrTs t.kids [10, 10] [10, 10])).flatten, p.Text.length ≤ 4095 := fun p hp => by
  rw [dh] at hz
  have := wM (s := gL [] [109, 111, 100, 117, 108, 101] ([], [])) hp
  have e6 : (gL [] [109, 111, 100, 117, 108, 101] (([], []) : WS)).2.length = 6 := by decide
  simp only at hz this
  omega
 rw [xq hk', e]
 show Tree.node 1 t.text [ah [] [] _, ah _ [32] _, [10]] (iZ (spTs (arrTs t.kids [10, 10] [10, 10])) (pcTs (arrTs t.kids [10, 10] [10, 10])) t.text) = _
 rw [uU t.kids _ _ t.text (fun u hu => by
  obtain ⟨i, hi⟩ := List.mem_iff_getElem?.1 hu
  exact DB u (nQ (aR hs hi).2) (aR hs hi).1) (by simp) (by simp) (fun g hg p hp => hb p (List.mem_cons_of_mem _ (List.mem_flatten.2 ⟨g, hg, hp⟩))) (hb ⟨[32], t.text⟩ (by simp)), g32]
 have : ah [] [] [109, 111, 100, 117, 108, 101] = [] := EK _ (by decide)
 rw [this]
def bJ : Nat → List UInt8 → List UInt8 → List (List UInt8)
 | m, acc, [] => if m = 2 then [acc] else []
 | m, acc, c :: r =>
  if m = 0 then (if c.toNat = 34 then bJ 1 [] r else if c.toNat = 35 then bJ 2 [c] r else bJ 0 [] r)
  else if m = 1 then (if c.toNat = 34 then bJ 0 [] r else bJ 1 [] r)
  else (if c.toNat = 10 then acc :: bJ 0 [] r else bJ 2 (acc ++ [c]) r)
theorem wF : ∀ (l : List UInt8) (m : Nat) (acc : List UInt8), (bJ m acc l).length ≤ l.length + 1
 | [], m, acc => by simp only [bJ]; split <;> simp
 | c :: r, m, acc => by
  have h := fun m acc => wF r m acc
  simp only [bJ]
  repeat' split
  all_goals simp only [List.length_cons]
  all_goals first | exact Nat.le_succ_of_le (h _ _) | exact Nat.succ_le_succ (h _ _)
theorem mb {l : List UInt8} {i : Nat} (h : ¬ i < l.length) : l.drop i = [] := List.drop_of_length_le (by omega)
theorem Aa {l : List UInt8} {a i : Nat} {c : UInt8} (hc : l[i]? = some c) (h : a ≤ i) : (l.drop a).take (i - a) ++ [c] = (l.drop a).take (i + 1 - a) := by
 rw [show i + 1 - a = (i - a) + 1 by omega, List.take_add_one, List.getElem?_drop, show a + (i - a) = i by omega, hc]; rfl
theorem tC (c : UInt8) : ((c.toNat : Int) = 34) = (c.toNat = 34) := by simp; omega
theorem BH (c : UInt8) : ((c.toNat : Int) = 35) = (c.toNat = 35) := by simp; omega
theorem BE (c : UInt8) : ((c.toNat : Int) = 10) = (c.toNat = 10) := by simp; omega
theorem zR (s : List UInt8) (hs : s.length ≤ 9000000000) : ∀ (k i : Nat) (l : List (List UInt8)), s.length + 2 - i ≤ k → ((l ++ bJ 0 [] (s.drop i)).length ≤ 1000000000 → ∃ M, bY M s i l (l ++ bJ 0 [] (s.drop i))) ∧ (i ≤ s.length → (l ++ bJ 1 [] (s.drop i)).length ≤ 1000000000 → ∃ M, gq M s i l (l ++ bJ 1 [] (s.drop i))) ∧ (∀ a, a ≤ i → i ≤ s.length → (l ++ bJ 2 ((s.drop a).take (i - a)) (s.drop i)).length ≤ 1000000000 → ∃ M, eS M s i l a (l ++ bJ 2 ((s.drop a).take (i - a)) (s.drop i))) := fun k => by
 induction k with
 | zero =>
  intro i l hk
  have hd := mb (l := s) (i := i) (by omega)
  have z : ∃ M, bY M s i l (l ++ bJ 0 [] (s.drop i)) := ⟨1, eo 0 _ _ _ _ ⟨fun h => by omega, fun _ => by rw [hd]; simp [bJ]⟩⟩
  exact ⟨fun _ => z, fun h => by omega, fun a ha h => by omega⟩
 | succ k ih =>
  intro i l hk
  have e2 : ∀ a, a ≤ i → i ≤ s.length → (l ++ bJ 2 ((s.drop a).take (i - a)) (s.drop i)).length ≤ 1000000000 → ∃ M, eS M s i l a (l ++ bJ 2 ((s.drop a).take (i - a)) (s.drop i)) := fun a ha hi hB => by
   have app : ∀ acc : List UInt8, (l ++ acc :: bJ 0 [] (s.drop (i + 1))).length ≤ 1000000000 → ∃ M, bY M s (i + 1) (l ++ [acc]) (l ++ acc :: bJ 0 [] (s.drop (i + 1))) := fun acc hB => by
    obtain ⟨M, hM⟩ := (ih (i + 1) (l ++ [acc]) (by omega)).1 (by simpa using hB)
    exact ⟨M, by simpa using hM⟩
   obtain ⟨c, hc, hlt⟩ | hge := aN s i
   ·rw [bV hc] at hB ⊢
    by_cases h10 : c.toNat = 10
    ·have e : bJ 2 ((s.drop a).take (i - a)) (c :: s.drop (i + 1)) = (s.drop a).take (i - a) :: bJ 0 [] (s.drop (i + 1)) := by simp [bJ, h10]
     rw [e] at hB ⊢
     obtain ⟨M, hM⟩ := app ((s.drop a).take (i - a)) hB
     have hB' : (l ++ [(s.drop a).take (i - a)]).length ≤ 1000000000 := by simp only [List.length_append, List.length_cons, List.length_nil] at hB ⊢; omega
     exact ⟨M + 1, jq M _ _ _ _ _ ⟨fun _ => ⟨c, hc, fun hn => absurd ((BE c).mpr h10) hn, fun _ => ⟨ha, by omega, hB', by omega, hM⟩⟩, fun h => absurd hlt h⟩⟩
    ·have e : bJ 2 ((s.drop a).take (i - a)) (c :: s.drop (i + 1)) = bJ 2 ((s.drop a).take (i + 1 - a)) (s.drop (i + 1)) := by rw [← Aa hc ha]; simp [bJ, h10]
     rw [e] at hB ⊢
     obtain ⟨M, hM⟩ := (ih (i + 1) l (by omega)).2.2 a (by omega) (by omega) hB
     exact ⟨M + 1, jq M _ _ _ _ _ ⟨fun _ => ⟨c, hc, fun _ => ⟨by omega, hM⟩, fun hn => absurd ((BE c).mp hn) h10⟩, fun h => absurd hlt h⟩⟩
   ·rw [mb hge] at hB ⊢
    have e : bJ 2 ((s.drop a).take (i - a)) [] = (s.drop a).take (i - a) :: bJ 0 [] [] := by simp [bJ]
    rw [e] at hB ⊢
    obtain ⟨M, hM⟩ := app ((s.drop a).take (i - a)) (by rw [mb (i := i + 1) (by omega)]; exact hB)
    rw [mb (i := i + 1) (by omega)] at hM
    have hB' : (l ++ [(s.drop a).take (i - a)]).length ≤ 1000000000 := by simp only [List.length_append, List.length_cons, List.length_nil] at hB ⊢; omega
    exact ⟨M + 1, jq M _ _ _ _ _ ⟨fun h => absurd h hge, fun _ => ⟨ha, by omega, hB', by omega, hM⟩⟩⟩
  refine ⟨fun hB => ?_, fun hi hB => ?_, e2⟩
  ·obtain ⟨c, hc, hlt⟩ | hge := aN s i
   ·by_cases h34 : c.toNat = 34
    ·rw [bV hc] at hB ⊢
     have e : bJ 0 [] (c :: s.drop (i + 1)) = bJ 1 [] (s.drop (i + 1)) := by simp [bJ, h34]
     rw [e] at hB ⊢
     obtain ⟨M, hM⟩ := (ih (i + 1) l (by omega)).2.1 (by omega) hB
     exact ⟨M + 1, eo M _ _ _ _ ⟨fun _ => ⟨c, hc, fun _ => ⟨by omega, hM⟩, fun h => absurd ((tC c).mpr h34) h⟩, fun h => absurd hlt h⟩⟩
    ·by_cases h35 : c.toNat = 35
     ·have e : bJ 0 [] (s.drop i) = bJ 2 ((s.drop i).take (i - i)) (s.drop i) := by rw [Nat.sub_self, List.take_zero, bV hc]; simp [bJ, h35]
      rw [e] at hB ⊢
      obtain ⟨M, hM⟩ := e2 i (Nat.le_refl _) (by omega) hB
      exact ⟨M + 1, eo M _ _ _ _ ⟨fun _ => ⟨c, hc, fun h => absurd ((tC c).mp h) h34, fun _ => ⟨fun _ => hM, fun h => absurd ((BH c).mpr h35) h⟩⟩, fun h => absurd hlt h⟩⟩
     ·rw [bV hc] at hB ⊢
      have e : bJ 0 [] (c :: s.drop (i + 1)) = bJ 0 [] (s.drop (i + 1)) := by simp [bJ, h34, h35]
      rw [e] at hB ⊢
      obtain ⟨M, hM⟩ := (ih (i + 1) l (by omega)).1 hB
      exact ⟨M + 1, eo M _ _ _ _ ⟨fun _ => ⟨c, hc, fun h => absurd ((tC c).mp h) h34, fun _ => ⟨fun h => absurd ((BH c).mp h) h35, fun _ => ⟨by omega, hM⟩⟩⟩, fun h => absurd hlt h⟩⟩
   ·rw [mb hge]
    exact ⟨1, eo 0 _ _ _ _ ⟨fun h => absurd h hge, fun _ => by simp [bJ]⟩⟩
  ·obtain ⟨c, hc, hlt⟩ | hge := aN s i
   ·rw [bV hc] at hB ⊢
    by_cases h34 : c.toNat = 34
    ·have e : bJ 1 [] (c :: s.drop (i + 1)) = bJ 0 [] (s.drop (i + 1)) := by simp [bJ, h34]
     rw [e] at hB ⊢
     obtain ⟨M, hM⟩ := (ih (i + 1) l (by omega)).1 hB
     exact ⟨M + 1, jz M _ _ _ _ ⟨fun _ => ⟨c, hc, fun h => absurd ((tC c).mpr h34) h, fun _ => ⟨by omega, hM⟩⟩, fun h => absurd hlt h⟩⟩
    ·have e : bJ 1 [] (c :: s.drop (i + 1)) = bJ 1 [] (s.drop (i + 1)) := by simp [bJ, h34]
     rw [e] at hB ⊢
     obtain ⟨M, hM⟩ := (ih (i + 1) l (by omega)).2.1 (by omega) hB
     exact ⟨M + 1, jz M _ _ _ _ ⟨fun _ => ⟨c, hc, fun _ => ⟨by omega, hM⟩, fun h => absurd ((tC c).mp h) h34⟩, fun h => absurd hlt h⟩⟩
   ·rw [mb hge] at hB ⊢
    have e : bJ 1 [] [] = bJ 0 [] [] := by simp [bJ]
    rw [e] at hB ⊢
    obtain ⟨M, hM⟩ := (ih (i + 1) l (by omega)).1 (by rw [mb (i := i + 1) (by omega)]; exact hB)
    rw [mb (i := i + 1) (by omega)] at hM
    exact ⟨M + 1, jz M _ _ _ _ ⟨fun h => absurd h hge, fun _ => ⟨by omega, hM⟩⟩⟩
theorem DM (t : Tree) (ht : tbulk t ≤ 2000000) (h1 : shapeK t = true) (h2 : leadedT t = true) (hz : (dp t).length ≤ 100000) : kU t (bJ 0 [] (dp t)) := by
 have hp := vM t ht
 rw [h1, h2] at hp
 have hl := wF (dp t) 0 []
 obtain ⟨M, hM⟩ := (zR (dp t) (by omega) ((dp t).length + 2) 0 [] (by omega)).1 (by rw [List.drop_zero, List.nil_append]; omega)
 rw [List.drop_zero, List.nil_append] at hM
 exact rl M _ _ ⟨_, hp, hM⟩
theorem Eu {L : List Int} {a : Int} (hd : Dc L a) : Gt L (fun t a' => lJ L a t L a') 500 := by
 obtain ⟨r, a1, h1, h2, h3⟩ := eU hd (n := 5) (by omega) (by omega)
 by_cases hr : r = 0
 ·obtain ⟨s, a2, g1, g2, g3⟩ := iA h3 [[84], [85]] (by decide) (by decide)
  have hs := gG g2 (by decide)
  obtain ⟨t, a3, q1, q2, q3⟩ := yw 2 g3 (by omega)
  exact ⟨_, a3, nI 0 _ _ _ _ _ ⟨_, _, _, h1, fun _ => ⟨_, _, _, g1, _, _, _, q1, rfl, rfl, rfl⟩, fun h => absurd hr h⟩, q2, by rw [tb1]; omega⟩
 ·obtain ⟨s, a2, g1, g2, g3⟩ := iA h3 [[102], [103], [104]] (by decide) (by decide)
  have hs := gG g2 (by decide)
  obtain ⟨n, a3, g4, g5, g6⟩ := eU g3 (n := 4) (by omega) (by omega)
  have loop : ∀ (k : Nat) (a : Int) (l : List Tree), Dc L a → l.length + k ≤ 100 → Gt L (fun t a' => ii (k + 1) s L a l (k : Int) t L a') (s.length + 1 + kbulk l + k * 13 + 429) := fun k => by
   induction k with
   | zero =>
    intro a l hd hl
    obtain ⟨t1, b1, q1, q2, q3⟩ := yw 1 hd (by omega)
    obtain ⟨t2, b2, q4, q5, q6⟩ := DS 3 q2 (by omega)
    have : eB 3 = 422 := rfl
    refine ⟨_, b2, nu 0 _ _ _ _ _ _ _ _ ⟨fun h => by omega, fun _ => ⟨_, _, _, q1, _, _, _, q4, by simp; omega, rfl, rfl, rfl⟩⟩, q5, ?_⟩
    rw [tbK, eX]; simp only [kbulk]; omega
   | succ k ihk =>
    intro a l hd hl
    obtain ⟨x, b0, q0, q0', q0''⟩ := iA hd [[120], [121], [122]] (by decide) (by decide)
    have hx := gG q0' (by decide)
    obtain ⟨t, b, q1, q2, q3⟩ := yw 1 q0'' (by omega)
    refine (ihk b (l ++ [.node 4 x [] [t]]) q2 (by simp; omega)).map ?_ fun t' a' h => nu (k + 1) _ _ _ _ _ _ _ _ ⟨fun _ => ⟨_, _, _, q0, _, _, _, q1, by simp; omega, by omega, by rw [show ((k + 1 : Nat) : Int) - 1 = (k : Int) by omega]; exact h⟩, fun h => by omega⟩
    rw [eX]; simp only [kbulk, tb1]; omega
  exact (loop n.toNat a3 [] g6 (by simp; omega)).map (by simp only [kbulk]; omega) fun t a' h => nI (n.toNat + 1) _ _ _ _ _ ⟨_, _, _, h1, fun h => absurd h hr, fun _ => ⟨_, _, _, g1, _, _, _, g4, by rw [show n = ((n.toNat : Nat) : Int) by omega]; exact h⟩⟩
def Sh (l : List (List UInt8)) (n : Nat) : Prop := l.length = n ∧ ∀ x ∈ l, x.length ≤ 2
theorem Sh.sum : ∀ {l : List (List UInt8)} {n : Nat}, Sh l n → lsum l ≤ 3 * n
 | [], n, h => by simp [lsum]
 | x :: r, n, h => by
  obtain ⟨h1, h2⟩ := h
  have := h2 x (by simp)
  have := Sh.sum (l := r) (n := n - 1) ⟨by simp at h1; omega, fun y hy => h2 y (by simp [hy])⟩
  simp only [lsum]; simp at h1; omega
theorem Sh.set {l : List (List UInt8)} {n i : Nat} {x : List UInt8} (h : Sh l n) (hx : x.length ≤ 2) : Sh (l.set i x) n := ⟨by simpa using h.1, fun y hy => by
 rcases List.mem_or_eq_of_mem_set hy with h1 | h1
 ·exact h.2 y h1
 ·subst h1; exact hx⟩
theorem Sh.get {l : List (List UInt8)} {n i : Nat} (h : Sh l n) (hi : i < n) : ∃ s, l[i]? = some s := by
 obtain ⟨s, hs, _⟩ | h' := aN l i
 ·exact ⟨s, hs⟩
 ·have := h.1; omega
theorem Br {n : Int} (h0 : 0 ≤ n) (h1 : n ≤ 100000000) : ∃ l, ji n l ∧ Sh l n.toNat := by
 have loop : ∀ k i (l : List (List UInt8)), n.toNat - i ≤ k → i ≤ n.toNat → Sh l i → ∃ r, fd (k + 1) n l i r ∧ Sh r n.toNat := fun k => by
  induction k with
  | zero => intro i l hi hle hl; exact ⟨l, ic 0 _ _ _ _ ⟨fun h => by omega, fun _ => rfl⟩, by rw [show n.toNat = i by omega]; exact hl⟩
  | succ k ihk =>
   intro i l hi hle hl
   by_cases h : (i : Int) < n
   ·obtain ⟨r, e, hr⟩ := ihk (i + 1) (l ++ [[32]]) (by omega) (by omega) ⟨by simp [hl.1], fun x hx => by
     rcases List.mem_append.1 hx with h1 | h1
     ·exact hl.2 x h1
     ·simp at h1; subst h1; simp⟩
    exact ⟨r, ic (k + 1) _ _ _ _ ⟨fun _ => ⟨by simp [hl.1]; omega, by omega, e⟩, fun h' => absurd h h'⟩, hr⟩
   ·exact ⟨l, ic (k + 1) _ _ _ _ ⟨fun h' => absurd h' h, fun _ => rfl⟩, by rw [show n.toNat = i by omega]; exact hl⟩
 obtain ⟨r, e, hr⟩ := loop n.toNat 0 [] (by omega) (by omega) ⟨rfl, fun x hx => by cases hx⟩
 exact ⟨r, pX _ _ _ e, hr⟩
def rM (t : Tree) (i : Int) (first : List UInt8) : List UInt8 := if t.kind = 1 then [10, 10] else if 0 < i then [32] else if t.kind = 8 ∨ t.kind = 22 ∨ t.kind = 16 ∨ t.kind = 18 then [] else if t.kind = 2 then (if (2 : Int) < t.kids.length then [] else [32]) else if t.kind = 17 ∨ t.kind = 21 then first else [32]
theorem AD (t : Tree) (i : Int) (first : List UInt8) : jg t i first (rM t i first) := by
 refine qa 1 _ _ _ _ ?_
 repeat' first | (refine And.intro (fun _ => ?_) (fun _ => ?_)) | (refine pm 0 _ _ _ _ ?_)
 all_goals simp_all [rM]
 all_goals (intro h; omega)
theorem yb (t : Tree) (i : Int) (first : List UInt8) (hf : first.length ≤ 2) : (rM t i first).length ≤ 2 := by
 unfold rM
 repeat' split
 all_goals first | exact hf | simp
theorem nk {n : Int} (hn : 0 ≤ n) (a b c : Nat) (z : Int) : f0 n a b c z ≤ b + n := by
 unfold f0; repeat' split
 all_goals omega
theorem CZ {k n : Int} (hn : 0 ≤ n) : aU k n ≤ 6 + n := by
 have a1 := nk hn 2 6 2 (-1)
 have a2 := nk hn 0 3 0 (-1)
 have a3 := nk hn 1 2 0 (-1)
 have a4 := nk hn 1 3 0 1
 have a5 := nk hn 1 2 0 1
 have a6 := nk hn 1 0 0 1
 have a7 := nk hn 3 3 0 3
 have a8 := nk hn 2 4 0 2
 have a9 := nk hn 2 1 0 2
 have a10 := nk hn 0 1 0 0
 simp only [aU]
 repeat' first | omega | split
theorem Af {t : Tree} (hs : shapeK t = true) : (t.kind = 1 → aU t.kind t.kids.length = 3) ∧ (t.kind = 2 → 6 ≤ aU t.kind t.kids.length) ∧ (t.kind = 4 ∨ t.kind = 8 ∨ t.kind = 22 → aU t.kind t.kids.length = 2) ∧ (t.kind ≠ 17 → 1 ≤ aU t.kind t.kids.length) := by
 have h := iY hs
 refine ⟨fun hk => ?_, fun hk => ?_, fun hk => ?_, fun hk => ?_⟩
 ·rw [hk]; simp only [aU]; simp
 ·rw [hk] at h ⊢; simp only [aU, f0] at h ⊢; simp at h ⊢; repeat' split
  all_goals first | omega | (simp_all; omega)
 ·rcases hk with hk | hk | hk <;> (rw [hk] at h ⊢; simp only [aU, f0] at h ⊢; simp at h ⊢; repeat' split) <;> first | omega | (simp_all; done) | (simp_all; omega)
 ·have key : ∀ k n : Int, 0 ≤ n → k ≠ 17 → 0 ≤ aU k n → 1 ≤ aU k n := fun k n hn hk h => by
   have q : ∀ (a b c : Nat) z, 1 ≤ b → f0 n a b c z = -1 ∨ 1 ≤ f0 n a b c z := fun a b c z hb => by
    unfold f0; repeat' split
    all_goals omega
   have a1 := q 2 6 2 (-1) (by decide)
   have a2 := q 0 3 0 (-1) (by decide)
   have a3 := q 1 2 0 (-1) (by decide)
   have a4 := q 1 3 0 1 (by decide)
   have a5 := q 1 2 0 1 (by decide)
   have a7 := q 3 3 0 3 (by decide)
   have a8 := q 2 4 0 2 (by decide)
   have a9 := q 2 1 0 2 (by decide)
   have a10 := q 0 1 0 0 (by decide)
   revert h
   simp only [aU]
   repeat' first | (intro h; omega) | split
  exact key _ _ (by omega) hk h
section
variable {t : Tree} {N : Nat} {us : List Tree}
theorem CC : ∀ k i (l : List (List UInt8)), N - i ≤ k → Sh l N → ∃ l', eK (k + 1) t l i us (.node t.kind t.text l' us) ∧ Sh l' N := fun k => by
 induction k with
 | zero => intro i l hi hl; exact ⟨l, gj 0 _ _ _ _ _ ⟨fun h => by have := hl.1; omega, fun _ => rfl⟩, hl⟩
 | succ k ihk =>
  intro i l hi hl
  by_cases h : i < l.length
  ·obtain ⟨s, hs⟩ := hl.get (i := i) (by have := hl.1; omega)
   obtain ⟨l', e, h'⟩ := ihk (i + 1) (l.set i []) (by omega) (hl.set (by simp))
   exact ⟨l', gj (k + 1) _ _ _ _ _ ⟨fun _ => ⟨s, hs, e⟩, fun h' => absurd h h'⟩, h'⟩
  ·exact ⟨l, gj (k + 1) _ _ _ _ _ ⟨fun h' => absurd h' h, fun _ => rfl⟩, hl⟩
theorem xV : ∀ k i (l : List (List UInt8)), N - i ≤ k → Sh l N → ∃ l', dz (k + 1) t l i us (.node t.kind t.text l' us) ∧ Sh l' N := fun k => by
 induction k with
 | zero => intro i l hi hl; exact ⟨l, gk 0 _ _ _ _ _ ⟨fun h => by have := hl.1; omega, fun _ => rfl⟩, hl⟩
 | succ k ihk =>
  intro i l hi hl
  by_cases h : i < l.length
  ·obtain ⟨s, hs⟩ := hl.get (i := i) (by have := hl.1; omega)
   obtain ⟨l', e, h'⟩ := ihk (i + 1) (l.set i []) (by omega) (hl.set (by simp))
   exact ⟨l', gk (k + 1) _ _ _ _ _ ⟨fun _ => ⟨s, hs, e⟩, fun h' => absurd h h'⟩, h'⟩
  ·exact ⟨l, gk (k + 1) _ _ _ _ _ ⟨fun h' => absurd h' h, fun _ => rfl⟩, hl⟩
theorem ul (hs : shapeK t = true) (hN : N = (aU t.kind t.kids.length).toNat) {l : List (List UInt8)} (hl : Sh l N) : ∃ l', dy (N + 2) t l us (.node t.kind t.text l' us) ∧ Sh l' N := by
 obtain ⟨g1, g2, g3, g4⟩ := Af hs
 have e0 : ([] : List UInt8).length ≤ 2 := by simp
 by_cases h1 : t.kind = 1
 ·have := g1 h1
  obtain ⟨s, hs⟩ := hl.get (i := 2) (by omega)
  exact ⟨_, bO (N + 1) _ _ _ _ ⟨fun _ => ⟨s, hs, rfl⟩, fun h => absurd h1 h⟩, hl.set (by simp)⟩
 by_cases h2 : t.kind = 2
 ·have := g2 h2
  have l1 := hl.set (i := 2) e0
  have l2 := l1.set (i := 3) e0
  have l3 := l2.set (i := 4) e0
  obtain ⟨s, hs⟩ := hl.get (i := 2) (by omega)
  obtain ⟨s', hs'⟩ := l1.get (i := 3) (by omega)
  obtain ⟨s2, hs2⟩ := l2.get (i := 4) (by omega)
  obtain ⟨l', e, h'⟩ := CC (t := t) (us := us) N 6 _ (by omega) l3
  exact ⟨l', bO (N + 1) _ _ _ _ ⟨fun h => absurd h h1, fun _ => ⟨fun _ => ⟨s, hs, s', hs', s2, hs2, e⟩, fun h => absurd h2 h⟩⟩, h'⟩
 by_cases h4 : t.kind = 4
 ·have := g3 (by simp [h4])
  obtain ⟨s, hs⟩ := hl.get (i := 1) (by omega)
  exact ⟨_, bO (N + 1) _ _ _ _ ⟨fun h => absurd h h1, fun _ => ⟨fun h => absurd h h2, fun _ => ⟨fun _ => ⟨s, hs, rfl⟩, fun h => absurd h4 h⟩⟩⟩, hl.set e0⟩
 by_cases h8 : t.kind = 8
 ·have := g3 (by simp [h8])
  obtain ⟨s, hs⟩ := hl.get (i := 1) (by omega)
  exact ⟨_, bO (N + 1) _ _ _ _ ⟨fun h => absurd h h1, fun _ => ⟨fun h => absurd h h2, fun _ => ⟨fun h => absurd h h4, fun _ => ⟨fun _ => ⟨s, hs, rfl⟩, fun h => absurd h8 h⟩⟩⟩⟩, hl.set e0⟩
 by_cases h22 : t.kind = 22
 ·have := g3 (by simp [h22])
  obtain ⟨s, hs⟩ := hl.get (i := 1) (by omega)
  exact ⟨_, bO (N + 1) _ _ _ _ ⟨fun h => absurd h h1, fun _ => ⟨fun h => absurd h h2, fun _ => ⟨fun h => absurd h h4, fun _ => ⟨fun h => absurd h h8, fun _ => ⟨fun _ => ⟨s, hs, rfl⟩, fun h => absurd h22 h⟩⟩⟩⟩⟩, hl.set e0⟩
 by_cases h16 : t.kind = 16
 ·obtain ⟨l', e, h'⟩ := xV (t := t) (us := us) N 1 _ (by omega) hl
  exact ⟨l', bO (N + 1) _ _ _ _ ⟨fun h => absurd h h1, fun _ => ⟨fun h => absurd h h2, fun _ => ⟨fun h => absurd h h4, fun _ => ⟨fun h => absurd h h8, fun _ => ⟨fun h => absurd h h22, fun _ => ⟨fun _ => e, fun h => absurd h16 h⟩⟩⟩⟩⟩⟩, h'⟩
 by_cases h18 : t.kind = 18
 ·obtain ⟨l', e, h'⟩ := xV (t := t) (us := us) N 1 _ (by omega) hl
  exact ⟨l', bO (N + 1) _ _ _ _ ⟨fun h => absurd h h1, fun _ => ⟨fun h => absurd h h2, fun _ => ⟨fun h => absurd h h4, fun _ => ⟨fun h => absurd h h8, fun _ => ⟨fun h => absurd h h22, fun _ => ⟨fun h => absurd h h16, fun _ => ⟨fun _ => e, fun h => absurd h18 h⟩⟩⟩⟩⟩⟩⟩, h'⟩
 ·exact ⟨l, bO (N + 1) _ _ _ _ ⟨fun h => absurd h h1, fun _ => ⟨fun h => absurd h h2, fun _ => ⟨fun h => absurd h h4, fun _ => ⟨fun h => absurd h h8, fun _ => ⟨fun h => absurd h h22, fun _ => ⟨fun h => absurd h h16, fun _ => ⟨fun h => absurd h h18, fun _ => rfl⟩⟩⟩⟩⟩⟩⟩, hl⟩
end
theorem oS {l : List Tree} {i : Nat} {u : Tree} (h : l[i]? = some u) : kbulk (l.take (i + 1)) = kbulk (l.take i) + tbulk u := by
 rw [List.take_add_one, h, eX]; simp [kbulk]
theorem zZ : ∀ t : Tree, tbulk t ≤ 1000000 → shapeK t = true → ∀ first, first.length ≤ 2 → ∃ u, fb t first u ∧ tbulk u + 3 ≤ 25 * tbulk t ∧ u.kind = t.kind := cw fun t ih ht hs first hf => by
 have hk := eE t
 have hbt := bN t
 have h0 := iY hs
 have h6 := CZ (k := t.kind) (n := (t.kids.length : Int)) (by omega)
 obtain ⟨g1, g2, g3, g4⟩ := Af hs
 obtain ⟨bl, hbl, hsh⟩ := Br h0 (by omega)
 have loop : ∀ k i (done rest : List Tree), t.kids.length - i ≤ k → done.length = i → i ≤ t.kids.length → rest.length = t.kids.length - i → kbulk done + 3 * i ≤ 25 * kbulk (t.kids.take i) → ∃ M r, dA M t first bl (done ++ rest) i r ∧ tbulk r + 3 ≤ 25 * tbulk t ∧ r.kind = t.kind := fun k => by
  have last : ∀ i (done rest : List Tree), ¬ i < t.kids.length → done.length = i → i ≤ t.kids.length → rest.length = t.kids.length - i → kbulk done + 3 * i ≤ 25 * kbulk (t.kids.take i) → ∃ M r, dA M t first bl (done ++ rest) i r ∧ tbulk r + 3 ≤ 25 * tbulk t ∧ r.kind = t.kind := fun i done rest hi hd hle hr hb => by
   have hr0 : rest = [] := List.length_eq_zero_iff.1 (by omega)
   subst hr0
   rw [List.append_nil]
   rw [List.take_of_length_le (by omega)] at hb
   have fin : ∀ l', Sh l' (aU t.kind t.kids.length).toNat → tbulk (.node t.kind t.text l' done) + 3 ≤ 25 * tbulk t ∧ (Tree.node t.kind t.text l' done).kind = t.kind := fun l' hl' => by
    have := hl'.sum
    exact ⟨by simp only [tbulk]; omega, rfl⟩
   by_cases h17 : t.kind = 17
   ·obtain ⟨l', e, h'⟩ := ul (us := done) hs rfl hsh
    exact ⟨_, _, en _ _ _ _ _ _ _ ⟨fun h => absurd h hi, fun _ => ⟨fun h => absurd h17 h, fun _ => e⟩⟩, fin l' h'⟩
   ·by_cases h21 : t.kind = 21
    ·obtain ⟨l', e, h'⟩ := ul (us := done) hs rfl hsh
     exact ⟨_, _, en _ _ _ _ _ _ _ ⟨fun h => absurd h hi, fun _ => ⟨fun _ => ⟨fun h => absurd h21 h, fun _ => e⟩, fun h => absurd h h17⟩⟩, fin l' h'⟩
    ·obtain ⟨l', e, h'⟩ := ul (us := done) hs rfl (hsh.set (i := 0) hf)
     have := g4 h17
     obtain ⟨s, hs0⟩ := hsh.get (i := 0) (by omega)
     exact ⟨_, _, en _ _ _ _ _ _ _ ⟨fun h => absurd h hi, fun _ => ⟨fun _ => ⟨fun _ => ⟨s, hs0, e⟩, fun h => absurd h h21⟩, fun h => absurd h h17⟩⟩, fin l' h'⟩
  induction k with
  | zero => intro i done rest hi hd hle hr hb; exact last i done rest (by omega) hd hle hr hb
  | succ k ihk =>
   intro i done rest hi hd hle hr hb
   obtain ⟨u, hu, hul⟩ | h' := aN t.kids i
   ·have hbu := eb hu
    obtain ⟨v, hv, hvb, _⟩ := ih i u hu (by omega) (aR hs hu).1 _ (yb t i first hf)
    match rest, hr with
    | z :: rest', hr =>
     obtain ⟨M, r, e, hb2⟩ := ihk (i + 1) (done ++ [v]) rest' (by omega) (by simp [hd]) (by omega) (by simp at hr; omega) (by rw [oS hu, eX]; simp only [kbulk]; omega)
     refine ⟨M + 1, r, en M _ _ _ _ _ _ ⟨fun _ => ⟨u, hu, _, AD t i first, v, hv, z, by simp [← hd], by omega, ?_⟩, fun h => absurd hul h⟩, hb2⟩
     have : (done ++ z :: rest').set i v = done ++ [v] ++ rest' := by simp [← hd]
     rw [this]; exact e
    | [], hr => simp at hr; omega
   ·exact last i done rest h' hd hle hr hb
 obtain ⟨M, r, e, hb⟩ := loop t.kids.length 0 [] (List.replicate t.kids.length (.node 0 [] [] [])) (by omega) rfl (by omega) (by simp) (by simp [kbulk])
 exact ⟨r, pp (M + 1) _ _ _ ⟨_, qV (by omega) (by omega), bl, hbl, oM M _ _ _ _ ⟨by omega, by simpa using e⟩⟩, hb⟩
theorem zw (t : Tree) (ht : tbulk t ≤ 1000000) : ∃ u, iK t u ∧ tbulk u ≤ 25 * tbulk t ∧ (u.kind = t.kind ∨ u.kind = 0) := by
 have h1 := uQ t (by omega)
 have := bX t
 cases hs : shapeK t with
 | false => rw [hs] at h1; exact ⟨.node 0 [] [] [], kX 0 _ _ ⟨_, h1, fun _ => rfl, fun h => (by cases h)⟩, by rw [tb0]; simp; omega, .inr rfl⟩
 | true =>
  rw [hs] at h1
  obtain ⟨u, hu, hb, hkk⟩ := zZ t ht hs [] (by simp)
  exact ⟨u, kX 0 _ _ ⟨_, h1, fun h => (by cases h), fun _ => ⟨u, hu, rfl⟩⟩, by omega, .inl hkk⟩
theorem wJ : ∀ (l : List (List UInt8)) (i : Nat) (x : List UInt8), lsum (l.set i x) ≤ lsum l + x.length
 | [], i, x => by simp [lsum]
 | y :: r, 0, x => by simp only [List.set_cons_zero, lsum]; omega
 | y :: r, i + 1, x => by have := wJ r i x; simp only [List.set_cons_succ, lsum]; omega
theorem AQ {L : List Int} : ∀ t : Tree, tbulk t ≤ 1000000 → ∀ {a : Int}, Dc L a → Gt L (fun u a' => gD L a t u L a' ∧ u.kind = t.kind) (6 * tbulk t) := cw fun t ih ht a hd => by
 have hk := eE t
 have hl := pg t
 have hbt := bN t
 have kids : ∀ k i (done : List Tree) (ls : List (List UInt8)) (a : Int), t.kids.length - i ≤ k → i ≤ t.kids.length → done.length = i → kbulk done ≤ 6 * kbulk (t.kids.take i) → lsum ls ≤ 6 * lsum t.leads → Dc L a → ∃ M, Gt L (fun u a' => eu M t L a (done ++ t.kids.drop i) i ls u L a' ∧ u.kind = t.kind) (6 * tbulk t) := fun k => by
  have last : ∀ i (done : List Tree) (ls : List (List UInt8)) (a : Int), ¬ i < t.kids.length → i ≤ t.kids.length → done.length = i → kbulk done ≤ 6 * kbulk (t.kids.take i) → lsum ls ≤ 6 * lsum t.leads → Dc L a → ∃ M, Gt L (fun u a' => eu M t L a (done ++ t.kids.drop i) i ls u L a' ∧ u.kind = t.kind) (6 * tbulk t) := fun i done ls a hi hle hdn hb hls hd => by
   rw [List.drop_of_length_le (by omega), List.append_nil]
   rw [List.take_of_length_le (by omega)] at hb
   exact ⟨1, _, a, ⟨mh 0 _ _ _ _ _ _ _ _ _ ⟨fun h => absurd h (by omega), fun _ => ⟨rfl, rfl, rfl⟩⟩, rfl⟩, hd, by simp only [tbulk]; omega⟩
  induction k with
  | zero => intro i done ls a hi hle hdn hb hls hd; exact last i done ls a (by omega) hle hdn hb hls hd
  | succ k ihk =>
   intro i done ls a hi hle hdn hb hls hd
   obtain ⟨u, hu, hul⟩ | h' := aN t.kids i
   ·have hbu := eb hu
    obtain ⟨v, a1, ⟨q1, _⟩, q2, q3⟩ := ih i u hu (by omega) hd
    obtain ⟨M, hM⟩ := ihk (i + 1) (done ++ [v]) ls a1 (by omega) (by omega) (by simp [hdn]) (by rw [oS hu, eX]; simp only [kbulk]; omega) hls q2
    have hg : (done ++ t.kids.drop i)[i]? = some u := by rw [List.getElem?_append_right (by omega), hdn]; simpa using hu
    refine ⟨M + 1, hM.map (Nat.le_refl _) fun w b ⟨h, hw⟩ => ⟨mh M _ _ _ _ _ _ _ _ _ ⟨fun _ => ⟨u, hg, _, _, _, q1, u, hg, ?_⟩, fun h' => absurd (by simp [hdn]; omega) h'⟩, hw⟩⟩
    have : (done ++ t.kids.drop i).set i v = done ++ [v] ++ t.kids.drop (i + 1) := by rw [bV hu]; simp [← hdn]
    rw [this]; exact h
   ·exact last i done ls a h' hle hdn hb hls hd
 have lead : ∀ k i (ls : List (List UInt8)) (a : Int), t.leads.length - i ≤ k → i ≤ t.leads.length → ls.length = t.leads.length → lsum ls ≤ lsum t.leads + 5 * i → Dc L a → ∃ M, Gt L (fun u a' => dv M t L a ls i u L a' ∧ u.kind = t.kind) (6 * tbulk t) := fun k => by
  have hll := qF t.leads
  have last : ∀ i (ls : List (List UInt8)) (a : Int), ¬ i < t.leads.length → i ≤ t.leads.length → ls.length = t.leads.length → lsum ls ≤ lsum t.leads + 5 * i → Dc L a → ∃ M, Gt L (fun u a' => dv M t L a ls i u L a' ∧ u.kind = t.kind) (6 * tbulk t) := fun i ls a hi hle hlen hb hd => by
   obtain ⟨M, hM⟩ := kids t.kids.length 0 [] ls a (by omega) (by omega) rfl (by simp [kbulk]) (by omega) hd
   exact ⟨M + 1, hM.map (Nat.le_refl _) fun w b ⟨h, hw⟩ => ⟨jk M _ _ _ _ _ _ _ _ ⟨fun h' => absurd h' (by omega), fun _ => ⟨by omega, by simpa using h⟩⟩, hw⟩⟩
  induction k with
  | zero => intro i ls a hi hle hlen hb hd; exact last i ls a (by omega) hle hlen hb hd
  | succ k ihk =>
   intro i ls a hi hle hlen hb hd
   obtain ⟨x, hx, hxl⟩ | h' := aN ls i
   ·obtain ⟨n, a1, h1, h2, h3⟩ := eU hd (n := 9) (by omega) (by omega)
    by_cases hn : n = 1
    ·obtain ⟨s, a2, g1, g2, g3⟩ := iA h3 [[32, 35, 32, 99, 10], [32, 32], [10, 9], [35, 10]] (by decide) (by decide)
     have hs5 := gG g2 (by decide)
     have := wJ ls i s
     obtain ⟨M, hM⟩ := ihk (i + 1) (ls.set i s) a2 (by omega) (by omega) (by simpa using hlen) (by omega) g3
     exact ⟨M + 1, hM.map (Nat.le_refl _) fun w b ⟨h, hw⟩ => ⟨jk M _ _ _ _ _ _ _ _ ⟨fun _ => ⟨_, _, _, h1, fun _ => ⟨_, _, _, g1, x, hx, h⟩, fun h' => absurd hn h'⟩, fun h' => absurd hxl h'⟩, hw⟩⟩
    ·obtain ⟨M, hM⟩ := ihk (i + 1) ls a1 (by omega) (by omega) hlen (by omega) h3
     exact ⟨M + 1, hM.map (Nat.le_refl _) fun w b ⟨h, hw⟩ => ⟨jk M _ _ _ _ _ _ _ _ ⟨fun _ => ⟨_, _, _, h1, fun h' => absurd h' hn, fun _ => h⟩, fun h' => absurd hxl h'⟩, hw⟩⟩
   ·exact last i ls a (by omega) hle hlen hb hd
 obtain ⟨M, hM⟩ := lead t.leads.length 0 t.leads a (by omega) (by omega) rfl (by omega) hd
 exact hM.map (Nat.le_refl _) fun w b ⟨h, hw⟩ => ⟨rf M _ _ _ _ _ _ ⟨by omega, h⟩, hw⟩
theorem Ba {L : List Int} {a : Int} (hd : Dc L a) (name : List UInt8) (hname : name.length ≤ 5) : Gt L (fun t a' => ju L a name t L a' ∧ (t.kind = 1 ∨ t.kind = 0)) 300000 := by
 obtain ⟨n, a1, h1, h2, h3⟩ := eU hd (n := 4) (by omega) (by omega)
 have loop : ∀ (k : Nat) (a : Int) (l : List Tree), Dc L a → l.length + k ≤ 100 → kbulk l + k * 500 ≤ 1500 → Gt L (fun t a' => fx (k + 1) name L a l (k : Int) t L a' ∧ (t.kind = 1 ∨ t.kind = 0)) 300000 := fun k => by
  induction k with
  | zero =>
   intro a l hd hl hb
   have ht : tbulk (.node 1 name [] l) ≤ 1506 := by rw [tbK]; omega
   obtain ⟨u, hu, hub, huk⟩ := zw (.node 1 name [] l) (by omega)
   obtain ⟨z, a2, g1, g2, g3⟩ := eU hd (n := 2) (by omega) (by omega)
   by_cases hz : z = 0
   ·exact (AQ u (by omega) g3).map (by omega) fun w b ⟨h, hw⟩ => ⟨iu 0 _ _ _ _ _ _ _ _ ⟨fun h' => by omega, fun _ => ⟨u, hu, _, _, _, g1, fun _ => ⟨_, _, _, h, rfl, rfl, rfl⟩, fun h' => absurd hz h'⟩⟩, by rw [hw]; exact huk⟩
   ·exact ⟨u, a2, ⟨iu 0 _ _ _ _ _ _ _ _ ⟨fun h' => by omega, fun _ => ⟨u, hu, _, _, _, g1, fun h' => absurd h' hz, fun _ => ⟨rfl, rfl, rfl⟩⟩⟩, huk⟩, g3, by omega⟩
  | succ k ihk =>
   intro a l hd hl hb
   obtain ⟨t, b, q1, q2, q3⟩ := Eu hd
   exact (ihk b (l ++ [t]) q2 (by simp; omega) (by rw [eX]; simp only [kbulk]; omega)).map (Nat.le_refl _) fun w c ⟨h, hw⟩ => ⟨iu (k + 1) _ _ _ _ _ _ _ _ ⟨fun _ => ⟨_, _, _, q1, by simp; omega, by omega, by rw [show ((k + 1 : Nat) : Int) - 1 = (k : Int) by omega]; exact h⟩, fun h => by omega⟩, hw⟩
 exact (loop n.toNat a1 [] h3 (by simp; omega) (by simp only [kbulk]; omega)).map (Nat.le_refl _) fun w b ⟨h, hw⟩ => ⟨qh (n.toNat + 1) _ _ _ _ _ _ ⟨_, _, _, h1, by rw [show n = ((n.toNat : Nat) : Int) by omega]; exact h⟩, hw⟩
def Mok (p : List Tree) : Prop := ∀ t ∈ p, t.kind = 1 ∧ Vld t
theorem xY (l : List Int) (hl : l.length ≤ 1000000) : ∃ p, jh l p ∧ kbulk p ≤ 1000000 ∧ Mok p := by
 have hd0 : Dc l 0 := ⟨by omega, by omega, by omega⟩
 obtain ⟨n, a1, h1, h2, h3⟩ := eU hd0 (n := 4) (by omega) (by omega)
 have loop : ∀ (k : Nat) (a : Int) (p : List Tree), Dc l a → p.length + k ≤ 3 → kbulk p + k * 300001 ≤ 900003 → Mok p → ∃ r, bK (k + 1) l a p (k : Int) r ∧ kbulk r ≤ 900003 ∧ Mok r := fun k => by
  induction k with
  | zero => intro a p hd hp hb hmk; exact ⟨p, gX 0 _ _ _ _ _ ⟨fun h => by omega, fun _ => rfl⟩, by omega, hmk⟩
  | succ k ihk =>
   intro a p hd hp hb hmk
   have hb2 : kbulk p + k * 300001 + 300001 ≤ 900003 := Nat.le_trans (Nat.le_of_eq (by rw [Nat.succ_mul, Nat.add_assoc])) hb
   have hb3 : kbulk p + k * 300001 ≤ 900003 := Nat.le_trans (Nat.le_add_right _ _) hb2
   obtain ⟨x, hx, _⟩ | h' := aN [[(65 : UInt8)], [66], [67]] p.length
   rotate_left
   ·simp at h'; omega
   have hx5 : x.length ≤ 5 := gG (List.mem_of_getElem? hx) (by decide)
   obtain ⟨t, a2, ⟨q1, qk⟩, q2, q3⟩ := Ba hd x hx5
   obtain ⟨z, a3, g1, g2, g3⟩ := eU q2 (n := 8) (by omega) (by omega)
   have step : ∀ u : Tree, tbulk u ≤ 300001 → (u.kind = 1 ∨ u.kind = 0) → ∃ b r, dw u b ∧ ((b = true) → (p ++ [u]).length ≤ 1000000000 ∧ InI (((k + 1 : Nat) : Int) - 1) ∧ bK (k + 1) l a3 (p ++ [u]) (((k + 1 : Nat) : Int) - 1) r) ∧ ((b = false) → InI (((k + 1 : Nat) : Int) - 1) ∧ bK (k + 1) l a3 p (((k + 1 : Nat) : Int) - 1) r) ∧ kbulk r ≤ 900003 ∧ Mok r := fun u hu huk => by
    obtain ⟨b, hb', hbs⟩ := wd u (by omega)
    have e : ((k + 1 : Nat) : Int) - 1 = (k : Int) := by omega
    rw [e]
    cases b with
    | true =>
     have hus := hbs.1 rfl
     have hu1 : u.kind = 1 := by
      rcases huk with h | h
      ·exact h
      ·have := iY hus.shape; rw [h] at this; simp [aU] at this
     obtain ⟨r, hr, hrb⟩ := ihk a3 (p ++ [u]) g3 (by simp; omega) (by clear hb; rw [eX]; simp only [kbulk]; omega) (fun t ht => by
      rcases List.mem_append.1 ht with h | h
      ·exact hmk t h
      ·rw [List.mem_singleton] at h; subst h; exact ⟨hu1, hus⟩)
     exact ⟨true, r, hb', fun _ => ⟨by simp; omega, by omega, hr⟩, fun h => (by cases h), hrb⟩
    | false =>
     obtain ⟨r, hr, hrb⟩ := ihk a3 p g3 (by omega) hb3 hmk
     exact ⟨false, r, hb', fun h => (by cases h), fun _ => ⟨by omega, hr⟩, hrb⟩
   by_cases hz : z = 7
   ·have hub : tbulk (.node t.kind [65] t.leads t.kids) ≤ 300001 := by have := bN t; simp only [tbulk, List.length_cons, List.length_nil]; omega
    obtain ⟨b, r, e1, e2, e3, e4⟩ := step _ hub qk
    exact ⟨r, gX (k + 1) _ _ _ _ _ ⟨fun _ => ⟨x, hx, _, _, _, q1, _, _, _, g1, fun _ => ⟨b, e1, e2, e3⟩, fun h => absurd hz h⟩, fun h => by omega⟩, e4⟩
   ·obtain ⟨b, r, e1, e2, e3, e4⟩ := step t (by omega) qk
    exact ⟨r, gX (k + 1) _ _ _ _ _ ⟨fun _ => ⟨x, hx, _, _, _, q1, _, _, _, g1, fun h => absurd h hz, fun _ => ⟨b, e1, e2, e3⟩⟩, fun h => by omega⟩, e4⟩
 obtain ⟨r, hr, hrb, hrm⟩ := loop n.toNat a1 [] h3 (by simp; omega) (by simp only [kbulk]; omega) (fun t h => by cases h)
 exact ⟨r, pS (n.toNat + 1) _ _ ⟨_, _, rt 0 _ _ _ ⟨by omega, rfl, rfl⟩, _, _, _, h1, by rw [show n = ((n.toNat : Nat) : Int) by omega]; exact hr⟩, by omega, hrm⟩
def gH : Tree := .node 1 [77] [[], [32], []] [.node 2 [102] [[32, 35, 32, 120, 10], [32], [32], [32], [], [], [32]] [.node 4 [97] [[32], []] [.node 5 [] [[]] []], .node 4 [98] [[32], [32]] [.node 5 [] [[]] []], .node 5 [] [[]] [], .node 16 [103] [[], [], [], []] [.node 17 [] [] [.node 12 [97] [[]] []], .node 17 [] [] [.node 18 [] [[], []] [.node 12 [98] [[]] []]]]]]
def zg (t : Tree) : Bool := shapeK t && leadedT t && limK t && decide (depK t ≤ 40) && decide ((dp t).length ≤ 4096)
theorem xv {t : Tree} (h : zg t = true) : Vld t := by
 simp only [zg, Bool.and_eq_true, decide_eq_true_eq] at h
 exact ⟨h.1.1.1.1, h.1.1.1.2, h.1.1.2, h.1.2, h.2⟩
theorem AL : zg gH = true ∧ tbulk gH ≤ 1000 ∧ zg (pw gH) = true ∧ tbulk (pw gH) ≤ 1000 := by decide +kernel
theorem zC : dp gH = [109, 111, 100, 117, 108, 101, 32, 77, 32, 35, 32, 120, 10, 100, 101, 102, 32, 102, 32, 40, 32, 97, 58, 73, 110, 116, 32, 44, 32, 98, 32, 58, 73, 110, 116, 32, 41, 58, 73, 110, 116, 61, 103, 40, 97, 44, 91, 98, 93, 41] := by decide +kernel
theorem AT : dp (pw gH) = [109, 111, 100, 117, 108, 101, 32, 77, 10, 10, 100, 101, 102, 32, 102, 40, 97, 58, 32, 73, 110, 116, 44, 32, 98, 58, 32, 73, 110, 116, 41, 58, 32, 73, 110, 116, 32, 61, 32, 103, 40, 97, 44, 32, 91, 98, 93, 41, 10] := by decide +kernel
theorem AY : bJ 0 [] [109, 111, 100, 117, 108, 101, 32, 77, 32, 35, 32, 120, 10, 100, 101, 102, 32, 102, 32, 40, 32, 97, 58, 73, 110, 116, 32, 44, 32, 98, 32, 58, 73, 110, 116, 32, 41, 58, 73, 110, 116, 61, 103, 40, 97, 44, 91, 98, 93, 41] = [[35, 32, 120]] := by decide +kernel
theorem Bn : (shapeK gH && eqT gH (pw gH)) = false := by decide +kernel
theorem vQ {t : Tree} (ht : tbulk t ≤ 2000000) (v : Vld t) : fJ t (dp t) := by
 have h := vM t ht
 rw [v.shape, v.lead] at h
 exact h
theorem sv : gb true := by
 obtain ⟨v1, b1, v2, b2⟩ := AL
 have hv := xv v1
 have hp := so (t := gH) rfl (by omega) hv
 have hc := DM gH (by omega) hv.shape hv.lead (Nat.le_trans hv.size (by decide))
 have hpr := vQ (t := pw gH) (by omega) (xv v2)
 have hcn := vX gH (by omega)
 rw [zC] at hp hc
 rw [AY] at hc
 rw [AT] at hpr
 rw [Bn] at hcn
 have hsp : spT gH [] = gH := by rfl
 rw [hsp] at hp
 exact qI 0 _ ⟨gH, 0, 0, hp, _, hc, fun _ => ⟨fun _ => ⟨_, rfl, fun _ => ⟨_, hcn, fun _ => ⟨_, qx gH (by omega), _, hpr, by simp⟩, fun h => (by cases h)⟩, fun h => absurd rfl h⟩, fun h => absurd rfl h⟩, fun h => absurd rfl h⟩
theorem Ca (k : Int) (n : Nat) (f : List UInt8) (h : 0 ≤ aU k n) (hf : f.length ≤ 2) : lsum (ldA k n f) ≤ 2 * (aU k n).toNat + 1 := by
 obtain ⟨g1, g2, g3, g4⟩ := xr h
 have hr : ∀ m : Nat, lsum (List.replicate m ([] : List UInt8)) ≤ m := fun m => by
  induction m with
  | zero => exact Nat.le_refl _
  | succ m ih => rw [List.replicate_succ]; simp only [lsum, List.length_nil]; omega
 have hs : ∀ (l : List (List UInt8)) (i : Nat) (x : List UInt8), lsum (l.set i x) ≤ lsum l + x.length := fun l => by
  induction l with
  | nil => intro i x; simp [lsum]
  | cons a r ih =>
   intro i x
   cases i with
   | zero => simp only [List.set_cons_zero, lsum]; omega
   | succ i => simp only [List.set_cons_succ, lsum]; have := ih i x; omega
 have h2 := hr (aU k n).toNat
 obtain ⟨z, hz⟩ : ∃ z, z = List.replicate (aU k n).toNat ([] : List UInt8) := ⟨_, rfl⟩
 have q1 : ∀ (i : Nat) (x : List UInt8), lsum (z.set i x) ≤ lsum z + x.length := hs z
 have s1 := q1 1 [32]
 have s2 := hs (z.set 1 [32]) 2 [10]
 have s3 := hs (z.set 1 [32]) 5 [32]
 have s4 := hs (z.set 1 [32]) 2 [32]
 have s5 := hs ((z.set 1 [32]).set 2 [32]) 3 [32]
 have s6 := q1 0 [32]
 have s7 := hs (ld0 k n) 0 f
 rw [← hz] at h2
 simp only [List.length_cons, List.length_nil] at s1 s2 s3 s4 s5 s6
 have e0 : ld0 k n = if k = 1 then (z.set 1 [32]).set 2 [10] else if k = 2 then (z.set 1 [32]).set 5 [32] else if k = 3 ∨ k = 19 then (z.set 1 [32]).set 2 [32] else if k = 20 then ((z.set 1 [32]).set 2 [32]).set 3 [32] else if k = 21 then z.set 0 [32] else z := by rw [hz]; rfl
 unfold ldA
 by_cases h1 : k = 1
 ·rw [if_neg (by omega)]; rw [e0, if_pos h1] at s7 ⊢; omega
 by_cases hk2 : k = 2
 ·rw [if_neg (by omega)]; rw [e0, if_neg h1, if_pos hk2] at s7 ⊢; omega
 by_cases h3 : k = 3 ∨ k = 19
 ·rw [if_neg (by omega)]; rw [e0, if_neg h1, if_neg hk2, if_pos h3] at s7 ⊢; omega
 by_cases h20 : k = 20
 ·rw [if_neg (by omega)]; rw [e0, if_neg h1, if_neg hk2, if_neg h3, if_pos h20] at s7 ⊢; omega
 by_cases h21 : k = 21
 ·rw [if_pos (.inl h21), e0, if_neg h1, if_neg hk2, if_neg h3, if_neg h20, if_pos h21]; omega
 rw [e0, if_neg h1, if_neg hk2, if_neg h3, if_neg h20, if_neg h21] at s7 ⊢
 by_cases h17 : k = 17
 ·rw [if_pos (.inr h17)]; omega
 ·rw [if_neg (by omega)]; have := g4 h17; omega
theorem AN : ∀ t : Tree, shapeK t = true → leadedT t = true → ∀ f, f.length ≤ 2 → tbulk (arrT t f) ≤ 2 * tbulk t := cw fun t ih hs hl f hf => by
 obtain ⟨g1, _, g3⟩ := km hl
 rw [lA] at g1
 have ks : ∀ (l : List Tree) (b c : List UInt8), (∀ u ∈ l, u ∈ t.kids) → b.length ≤ 2 → c.length ≤ 2 → kbulk (arrTs l b c) ≤ 2 * kbulk l := fun l => by
  induction l with
  | nil => intro b c _ _ _; exact Nat.le_refl _
  | cons u r ihl =>
   intro b c hu hb hc
   obtain ⟨i, hi⟩ := List.mem_iff_getElem?.1 (hu u (by simp))
   have h1 := ih i u hi (aR hs hi).1 (iI g3 hi) b hb
   have h2 := ihl c c (fun v hv => hu v (by simp [hv])) hc hc
   simp only [arrTs, kbulk]
   omega
 have hb : (bgK t.kind (t.kids.length : Int) f).length ≤ 2 := by
  unfold bgK
  repeat' split
  all_goals first | exact hf | decide
 have hr : (rsK t.kind).length ≤ 2 := by unfold rsK; split <;> decide
 have h1 := ks t.kids _ _ (fun u hu => hu) hb hr
 have h2 := Ca t.kind t.kids.length f (iY hs) hf
 have h3 := qF t.leads
 rw [nO, bN t]
 simp only [tbulk]
 omega
theorem vy (l : List Int) : jM l (decide (((l.length : Nat) : Int) ≤ 120)) := rg 0 _ _ rfl
theorem CU (l : List Int) : jA l true := by
 by_cases hl : ((l.length : Nat) : Int) ≤ 120
 rotate_left
 ·exact jn 0 _ _ ⟨_, vy l, fun _ => ⟨_, sv, rfl⟩, fun h => absurd (of_decide_eq_true h) hl⟩
 obtain ⟨p, hp, hb, hm⟩ := xY l (by omega)
 have hpl := rx p
 have loop : ∀ k i, p.length - i ≤ k → ∃ M, cj M p i true := fun k => by
  have last : ∀ i, ¬ i < p.length → ∃ M, cj M p i true := fun i hi => ⟨1, eT 0 _ _ _ ⟨fun h => absurd h hi, fun _ => ⟨_, sv, rfl⟩⟩⟩
  induction k with
  | zero => intro i hi; exact last i (by omega)
  | succ k ih =>
   intro i hi
   obtain ⟨t, ht, hlt⟩ | hge := aN p i
   ·have htb := nv ht
    obtain ⟨hk, v⟩ := hm t (List.mem_of_getElem? ht)
    obtain ⟨M, hM⟩ := ih (i + 1) (by omega)
    have ea := qx t (by omega)
    have e : pw t = arrT t [] := if_pos v.shape
    rw [e] at ea
    have hbk := AN t v.shape v.lead [] (by decide)
    obtain ⟨b, hb2, hbv⟩ := wd (arrT t []) (by omega)
    cases b with
    | false => exact ⟨M + 1, eT M _ _ _ ⟨fun _ => ⟨t, ht, _, ea, false, hb2, fun _ => hM, fun h => (by cases h)⟩, fun h => absurd hlt h⟩⟩
    | true =>
     have va := hbv.1 rfl
     have hk' : (arrT t []).kind = 1 := by rw [nO]; exact hk
     have hpa := so hk' (by omega) va
     rw [CO hk v.shape va.shape va.size] at hpa
     have hsame := tl (arrT t []) (by omega) (arrT t [])
     rw [eqT_refl] at hsame
     exact ⟨M + 1, eT M _ _ _ ⟨fun _ => ⟨t, ht, _, ea, true, hb2, fun h => (by cases h), fun _ => ⟨_, vQ (by omega) va, _, _, _, hpa, fun h => absurd rfl h, fun _ => ⟨true, hsame, fun h => (by cases h), fun _ => hM⟩⟩⟩, fun h => absurd hlt h⟩⟩
   ·exact last i hge
 obtain ⟨M, hM⟩ := loop p.length 0 (by omega)
 exact jn M _ _ ⟨_, vy l, fun _ => ⟨_, sv, rfl⟩, fun _ => ⟨p, hp, hM⟩⟩
open Go.RowKit Go.ChangeShapes Go.WideShapes Go.Deep
theorem zM : Tryz.prog.cellsOf 3 = 1 := by kernel_rfl
theorem Es {H : Type} {enc : TypeId × Value → H} {W : World} {a0 : Option Addr} {len cap : Nat} {d : DataW H} {p : List MemPlace} (h : DataW.Trod enc Tryz.prog W 0 (fun _ => true) true 35 (.slice a0 len cap) d p) :
  ∃ zs : List Int, len = zs.length ∧ len ≤ cap ∧ cap ≤ maxLen ∧ RowIn Any W 1 a0 zs.length (zs.map fun z => .int .i64 z) := by
 obtain ⟨fuel, hf⟩ := h
 rcases open_ints Tryz.underlying35 Tryz.underlying3 zM hf with ⟨hcs, hx⟩ | ⟨a, len', cap', zs, hcs, hb, hl, hm, hlen, hx, hcell, hwf⟩
 ·simp [Value.cells] at hcs
  obtain ⟨rfl, rfl, rfl⟩ := hcs
  exact ⟨[], rfl, Nat.le_refl _, Nat.zero_le _, RowIn.none_⟩
 ·simp [Value.cells] at hcs
  obtain ⟨rfl, rfl, rfl⟩ := hcs
  simp only [if_true] at hlen
  have hlt : (zs.take len).length = len := by simp; omega
  refine ⟨zs.take len, hlt.symm, hl, hm, by simp, fun h0 => ?_⟩
  rw [hlt] at h0 ⊢
  have hs : a.spot = none := World.cell?_spot (a := a) (by have := hcell 0 (by omega); simpa [Addr.add] using this)
  obtain ⟨b, off, spot⟩ := a
  simp only at hs
  subst hs
  have hadd : ∀ k, (⟨b, off, none⟩ : Addr).add k = ⟨b, off + k, none⟩ := fun k => by unfold Addr.add; split <;> simp_all
  refine ⟨b, off, rfl, trivial, ?_, fun j hj => ?_⟩
  ·have := hcell 0 (by omega)
   exact World.block_lt_of_cell? W ⟨b, off, none⟩ (by simpa [Addr.add] using this)
  ·have hj' : j < len := by omega
   have := hcell j (by omega)
   rw [hadd] at this
   rw [this]
   simp [hj', List.getD_eq_getElem?_getD, show j < zs.length from by omega]
end Go.Proofs.YtaoiaeohojfdgaaGreat
