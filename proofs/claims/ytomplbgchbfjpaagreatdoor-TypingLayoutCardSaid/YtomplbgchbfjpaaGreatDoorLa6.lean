/- Contracts of the functions that the law reaches, part 6. -/
import Derived.Test.YtomplbgchbfjpaaGreatDoorLa5
set_option linter.unusedVariables false
set_option linter.unusedSimpArgs false
namespace Go.Proofs.YtomplbgchbfjpaaGreatDoor
open Go.RowKit Lx Sx
set_option maxRecDepth 100000
set_option maxHeartbeats 1000000
set_option maxHeartbeats 4000000
open Go.RowKit
theorem JG : vq pk (BI DU 10000 20 [.str KI]) = true := by kernel_rfl
theorem AQ : bg [pk] = true := by decide +kernel
theorem BS : kbulk [pk] ≤ 10000000 := by decide +kernel
theorem LD (nm : List ((Int × List UInt8) × ac)) : (ke [pk] nm 0 []).fa = [⟨⟨0, [0, 1, 1]⟩, 6⟩, ⟨⟨0, [1, 2, 2]⟩, 3⟩] := by kernel_rfl
theorem Ac (nm : List ((Int × List UInt8) × ac)) : (ke [pk] nm 0 [0, 1]).rs = 5 ∧ (ke [pk] nm 0 [0, 1]).rl = 0 := ⟨by kernel_rfl, by kernel_rfl⟩
def LY : Tree := (atK pk [0, 1]).getD (.node 0 [] [] [])
theorem Lv : gu LY.kind = true := by decide +kernel
theorem Jp : Ew 4000 pk [0, 1] LY = true := by kernel_rfl
theorem Iu : nJ true := by
 obtain ⟨nm, _, e0⟩ := (wR BS).2 AQ
 have e1 : cS [pk] [⟨⟨0, [0, 1, 1]⟩, 6⟩, ⟨⟨0, [1, 2, 2]⟩, 3⟩] := e0 _ (by
  rw [LD nm]
  refine HJ (by decide) (fun x hx => ?_) (List.Perm.refl _) (List.pairwise_cons.2 ⟨fun y hy => ?_, List.pairwise_singleton _ _⟩)
  ·simp only [List.mem_cons, List.not_mem_nil, or_false] at hx
   rcases hx with rfl | rfl <;> decide
  ·simp only [List.mem_singleton] at hy
   subst hy
   unfold leE; decide)
 obtain ⟨nm2, _, e2'⟩ := NI (m := 0) (q := [0, 1]) AQ BS rfl (JT Jp) Lv
 have e2 := e2' 0 (Ac nm2).2 (by decide)
 have e3 : ofN (ke [pk] nm2 ((0 : Nat) : Int) [0, 1]) = (.node 5 [] [] [], 0) := by
  unfold ofN
  rw [show (ke [pk] nm2 ((0 : Nat) : Int) [0, 1]).rs = 5 from (Ac nm2).1, show (ke [pk] nm2 ((0 : Nat) : Int) [0, 1]).rl = 0 from (Ac nm2).2]
  rfl
 rw [e3] at e2
 exact sh 0 _ (⟨pk, 0, 0, Ke JG, _, e1, _, _, e2, fun _ => ⟨fun _ => ⟨fun _ => ⟨fun _ => ⟨_, rfl, fun _ => ⟨_, rfl, _, tM _, fun _ => ⟨_, rfl, fun _ => ⟨_, rfl, _, tM _, rfl⟩, fun h => absurd rfl h⟩, fun h => (by cases h)⟩, fun h => absurd rfl h⟩, fun h => absurd rfl h⟩, fun h => absurd rfl h⟩, fun h => absurd rfl h⟩, fun h => absurd rfl h⟩)
theorem IV : kU true := Iu
theorem xw : ∀ l : List Tree, baresK l = l.map bareK
 | [] => by simp [baresK]
 | t :: r => by simp [baresK, xw r]
theorem gz (t : Tree) : (bareK t).kind = t.kind := by rw [nA]; rfl
theorem gD (t : Tree) : (bareK t).text = t.text := by rw [nA]; rfl
theorem ca (t : Tree) : (bareK t).kids = t.kids.map bareK := by rw [nA, xw]; rfl
theorem Gz (l : List Tree) (i : Nat) : (l.map bareK).getD i (.node 0 [] [] []) = bareK (l.getD i (.node 0 [] [] [])) := by
 rw [List.getD_eq_getElem?_getD, List.getD_eq_getElem?_getD, List.getElem?_map]
 cases l[i]? with
 | none => simp [bareK, baresK]
 | some t => rfl
theorem iz (t : Tree) (i : Nat) : cp (bareK t) i = bareK (cp t i) := by unfold cp; rw [ca]; exact Gz _ _
theorem tX (s : List UInt8) : ∀ (l : List Tree) (i : Nat), fy s (l.map bareK) i = fy s l i
 | [], i => rfl
 | t :: r, i => by simp only [List.map_cons, fy, gD, tX s r]
theorem CX (p : List Tree) (m : Int) (w : List UInt8) : inK (p.map bareK) m w = inK p m w := by
 unfold inK
 rw [List.getElem?_map]
 cases p[m.toNat]? with
 | none => rfl
 | some t => simp only [Option.map_some, ca, tX]
theorem vk (p : List Tree) (m : Int) (w : List UInt8) : bd (p.map bareK) m w = bd p m w := by
 unfold bd
 rw [tX, CX, CX]
theorem wd (k n : Int) : ∀ (l : List Tree) (i : Nat), (∀ t, t ∈ l → shapeK (bareK t) = shapeK t) → shapeKs k n i (l.map bareK) = shapeKs k n i l
 | [], i, _ => rfl
 | t :: r, i, h => by simp only [List.map_cons, shapeKs, gz, h t (by simp), wd k n r (i + 1) fun x hx => h x (by simp [hx])]
theorem Fd : ∀ t, shapeK (bareK t) = shapeK t := cy fun t ih => by
 rw [bG, bG t, gz, gD, ca, List.length_map, wd _ _ t.kids 0 fun x hx => by
  obtain ⟨i, hi⟩ := List.getElem?_of_mem hx
  exact ih i x hi]
theorem pX : ∀ p, bg (p.map bareK) = bg p
 | [] => rfl
 | t :: r => by simp only [List.map_cons, bg, gz, Fd, pX r]
theorem Fs : ∀ t : Tree, tbulk (bareK t) ≤ tbulk t := cy fun t ih => by
 have h : ∀ l : List Tree, (∀ u, u ∈ l → tbulk (bareK u) ≤ tbulk u) → kbulk (l.map bareK) ≤ kbulk l := fun l => by
  induction l with
  | nil => intro _; exact Nat.le_refl _
  | cons u r ihr =>
   intro hh
   have h1 := hh u (by simp)
   have h2 := ihr fun x hx => hh x (by simp [hx])
   simp only [List.map_cons, kbulk]; omega
 have := h t.kids fun u hu => by
  obtain ⟨i, hi⟩ := List.getElem?_of_mem hu
  exact ih i u hi
 rw [aW, aW t, gD, ca]
 have e : (bareK t).leads = [] := by rw [nA]; rfl
 rw [e]; simp only [lsum]; omega
theorem xU : ∀ p : List Tree, kbulk (p.map bareK) ≤ kbulk p
 | [] => Nat.le_refl _
 | t :: r => by have := Fs t; have := xU r; simp only [List.map_cons, kbulk]; omega
theorem pU : ∀ t, leafK (bareK t) = bareK (leafK t) ∧ lisK (bareK t) = lisK t := cy fun t ih => by
 obtain ⟨k, w, ls, ks⟩ := t
 simp only [Tree.kids] at ih
 by_cases h8 : k = 8
 ·subst h8
  cases ks with
  | nil => simp [leafK, leafH, lisK, lisH, bareK, baresK]
  | cons u r =>
   obtain ⟨e1, e2⟩ := ih 0 u rfl
   simp only [bareK, baresK, leafK, leafH, lisK, lisH, if_true, e1, e2, and_self]
 ·simp only [bareK, leafK, lisK, if_neg h8, and_self]
theorem Bq (p : List Tree) (i d : Int) : lK (p.map bareK) i d = bareK (lK p i d) := by
 unfold lK
 rw [List.getElem?_map]
 cases p[i.toNat]? with
 | none => rfl
 | some t =>
  simp only [Option.map_some, ca, List.getElem?_map]
  cases t.kids[d.toNat]? with
  | none => rfl
  | some a =>
   simp only [Option.map_some, ca]
   cases a.kids with
   | nil => rfl
   | cons b r => rfl
theorem tx : ∀ (i : Nat) (p : List Tree), (dG i p).length ≤ kbulk p := vg
theorem yX {p : List Tree} (hp : bg p = true) : ∀ (f f' : Nat) (seen : List (Int × Int)) (n : Nat) (M : Int) (u : Tree), lI p seen → (dG 0 p).length + 1 ≤ f + seen.length → (dG 0 p).length + 1 ≤ f' + seen.length → tyK u → gM (p.map bareK) f' seen n M (bareK u) = gM p f seen n M u
 | 0, f', seen, n, M, u, hs, hf, _, _ => by
  have := nL _ _ hs.1 hs.2
  omega
 | f + 1, 0, seen, n, M, u, hs, _, hf, _ => by
  have := nL _ _ hs.1 hs.2
  omega
 | f + 1, f' + 1, seen, n, M, u, hs, hf, hf', hu => by
  rw [gM, gM, gz, gD]
  simp only [vk]
  by_cases h9 : u.kind = 9
  ·rw [if_pos h9, if_pos h9]
   by_cases hfd : (bd p M u.text).2.2 = false
   ·rw [if_pos hfd, if_pos hfd]
   ·rw [if_neg hfd, if_neg hfd]
    obtain ⟨i, d, t, a, b', g1, g2, g3, g4, g5, g6, g7⟩ := tC hp h9 hu.1 (by simpa using hfd)
    rw [g1, g2]
    by_cases hm : ((i : Int), (d : Int)) ∈ seen
    ·rw [if_pos hm, if_pos hm]
    ·rw [if_neg hm, if_neg hm]
     have hal := tf g3 g4 g6
     have hs' := pG hs g3 g4 hm
     rw [Bq, hal, (pU b').1, (pU b').2]
     exact yX hp f f' _ _ _ _ hs' (by simp only [List.length_cons]; omega) (by simp only [List.length_cons]; omega) (pj b' g7).1
  ·rw [if_neg h9, if_neg h9]
theorem IZ (p : List Tree) : lI p [] := ⟨List.nodup_nil, fun x h => by simp at h⟩
theorem Kc (p : List Tree) (m : Int) (w : List UInt8) : nmK (p.map bareK) m w = nmK p m w := by
 have e : lr (p.map bareK) m (.node 9 w [] []) = lr p m (.node 9 w [] []) := by
  unfold lr
  rw [pX, List.length_map]
  by_cases hc : bg p = true ∧ 0 ≤ m ∧ m < p.length ∧ hJ (Tree.kind (.node 9 w [] [])) = true ∧ shapeK (.node 9 w [] []) = true
  ·rw [if_pos hc, if_pos hc]
   have hty : tyK (.node 9 w [] []) := ⟨hc.2.2.2.2, hc.2.2.2.1⟩
   have hl := (ir (t := .node 9 w [] []) (by simp [Tree.kind])).1
   rw [hl]
   have h1 := tx 0 p
   have h2 := tx 0 (p.map bareK)
   have h3 : (dG 0 (p.map bareK)).length = (dG 0 p).length := by
    have : ∀ (l : List Tree) (i : Nat), dG i (l.map bareK) = dG i l := fun l => by
     induction l with
     | nil => intro i; rfl
     | cons t r ih => intro i; simp only [List.map_cons, dG, ih, rg, ca, List.length_map]
    rw [this]
   have := yX hc.1 (kbulk p + 1) (kbulk (p.map bareK) + 1) [] (lisK (.node 9 w [] [])) m (.node 9 w [] []) (IZ p) (by simp; omega) (by simp; omega) hty
   exact this
  ·rw [if_neg hc, if_neg hc]
 unfold nmK
 rw [e]
theorem Dm (p : List Tree) (m : Int) (t : Tree) : tyN (p.map bareK) m (bareK t) = tyN p m t := by
 unfold tyN knK
 rw [(pU t).1, (pU t).2, gz, gD, Kc]
theorem Hk (p : List Tree) (m : Int) (f : Tree) : mz (p.map bareK) m (bareK f) = mz p m f := by
 unfold mz
 rw [ca, List.length_map, iz, Dm, ← List.map_take, List.map_map]
 congr 1
 apply List.map_congr_left
 intro k _
 simp only [Function.comp, iz, Dm]
theorem AW (p : List Tree) (m : Int) : ∀ (l : List Tree) (d : Nat) (s : List ((Int × Int) × aj)), sgD (p.map bareK) m (l.map bareK) d s = sgD p m l d s
 | [], d, s => rfl
 | f :: r, d, s => by simp only [List.map_cons, sgD, gz, Hk, AW p m r]
theorem BP (P : List Tree) : ∀ (p : List Tree) (m : Nat) (s : List ((Int × Int) × aj)), sgM (P.map bareK) (p.map bareK) m s = sgM P p m s
 | [], m, s => rfl
 | t :: r, m, s => by simp only [List.map_cons, sgM, ca, AW, BP P r]
theorem yI (p : List Tree) (a : Int × Int) : ec (p.map bareK) a = ec p a := by
 unfold ec
 rw [List.getElem?_map]
 cases p[a.1.toNat]? with
 | none => rfl
 | some t =>
  simp only [Option.map_some, ca, List.getElem?_map]
  cases t.kids[a.2.toNat]? with
  | none => rfl
  | some x => simp only [Option.map_some, gz, Bq, (pU _).1, gD, vk]
theorem xx {p : List Tree} (s : Int × Int) : ∀ (f f' : Nat) (seen : List (Int × Int)) (a : Option (Int × Int)), lI p seen → (∀ b, a = some b → b ∈ dG 0 p) → (dG 0 p).length + 1 ≤ f + seen.length → (dG 0 p).length + 1 ≤ f' + seen.length → jh (p.map bareK) s f' seen a = jh p s f seen a
 | 0, f', seen, a, hs, _, hf, _ => by
  have := nL _ _ hs.1 hs.2
  omega
 | f + 1, 0, seen, a, hs, _, _, hf => by
  have := nL _ _ hs.1 hs.2
  omega
 | f + 1, f' + 1, seen, none, hs, _, _, _ => rfl
 | f + 1, f' + 1, seen, some a, hs, ha, hf, hf' => by
  rw [jh, jh]
  by_cases h1 : a = s
  ·rw [if_pos h1, if_pos h1]
  ·rw [if_neg h1, if_neg h1]
   by_cases h2 : a ∈ seen
   ·rw [if_pos h2, if_pos h2]
   ·rw [if_neg h2, if_neg h2, yI]
    refine xx s f f' (a :: seen) _ ⟨List.nodup_cons.2 ⟨h2, hs.1⟩, fun x hx => ?_⟩ (fun b hb => ?_) (by simp only [List.length_cons]; omega) (by simp only [List.length_cons]; omega)
    ·rcases List.mem_cons.1 hx with rfl | hx
     ·exact ha x rfl
     ·exact hs.2 x hx
    ·obtain ⟨i, d, t, x, rfl, g1, g2⟩ := ve hb
     have := rR (j := 0) g1 g2; simpa using this
theorem FM (p : List Tree) (M D : Int) : ox (p.map bareK) M D = ox p M D := by
 unfold ox
 rw [pX, yI]
 have h1 := tx 0 p
 have h2 := tx 0 (p.map bareK)
 have h3 : (dG 0 (p.map bareK)).length = (dG 0 p).length := by
  have : ∀ (l : List Tree) (i : Nat), dG i (l.map bareK) = dG i l := fun l => by
   induction l with
   | nil => intro i; rfl
   | cons t r ih => intro i; simp only [List.map_cons, dG, ih, rg, ca, List.length_map]
  rw [this]
 rw [xx (M, D) (kbulk p + 1) (kbulk (p.map bareK) + 1) [] _ (IZ p) (fun b hb => by
  obtain ⟨i, d, t, x, rfl, g1, g2⟩ := ve hb
  have := rR (j := 0) g1 g2; simpa using this) (by simp; omega) (by simp; omega)]
mutual
theorem bare_tgs (p : List Tree) (m : Int) : ∀ (t : Tree) (q : List Int), eS (p.map bareK) m (nodK (bareK t) q) = eS p m (nodK t q)
 | .node k w ls ks, q => by
  simp only [bareK, nodK, eS, bare_tgs_s p m ks q 0, ny, Tree.kind, tgK, Tree.text, vk]
  rfl
theorem bare_tgs_s (p : List Tree) (m : Int) : ∀ (l : List Tree) (q : List Int) (i : Nat), eS (p.map bareK) m (nodKs (baresK l) q i) = eS p m (nodKs l q i)
 | [], q, i => by simp only [baresK, nodKs, eS]
 | t :: r, q, i => by simp only [baresK, nodKs, tw, bare_tgs p m t, bare_tgs_s p m r]
end
theorem ze (P : List Tree) : ∀ (l : List Tree) (i : Nat), jm (P.map bareK) i (l.map bareK) = jm P i l
 | [], i => rfl
 | t :: r, i => by simp only [List.map_cons, jm, bare_tgs, ze P r]
theorem BT (p : List Tree) : bv (p.map bareK) = bv p := by
 unfold bv; rw [pX, ze]
def Cx.pn (x : Cx) (p : List Tree) (nm : List ((Int × List UInt8) × ac)) : Cx := { x with p := p, nm := nm }
theorem IN (n : Nat) (x : Cx) (env : Env) (s : Sv) : aT n x (.node 0 [] [] []) env s = (⟨0, 0⟩, s) := by cases n <;> rfl
theorem GN (t : Tree) (i : Nat) : (∃ u, t.kids[i]? = some u ∧ cp t i = u) ∨ cp t i = .node 0 [] [] [] := by
 by_cases h : i < t.kids.length
 ·exact .inl ⟨_, lp h, rfl⟩
 ·exact .inr (by simp only [cp, List.getD_eq_getElem?_getD, List.getElem?_eq_none (Nat.le_of_not_lt h)]; rfl)
theorem IT : bareK (.node 0 [] [] []) = .node 0 [] [] [] := by simp only [bareK, baresK]
section
variable {p : List Tree} {nm : List ((Int × List UInt8) × ac)}
def ExB (p : List Tree) (nm : List ((Int × List UInt8) × ac)) (n n' : Nat) : Prop := ∀ (t : Tree) (x : Cx) (env : Env) (s : Sv), tbulk t ≤ n → tbulk (bareK t) ≤ n' → aT n' (x.pn p nm) (bareK t) env s = aT n x t env s
theorem uh {n n' : Nat} (h : ExB p nm n n') {t : Tree} (h1 : tbulk t ≤ n + 1) (h2 : tbulk (bareK t) ≤ n' + 1) (x : Cx) (i : Nat) (env : Env) (s : Sv) : aU (aT n') (x.pn p nm) (bareK t) i env s = aU (aT n) x t i env s := by
 have e : aT n' ((x.go i).pn p nm) (bareK (cp t i)) env s = aT n (x.go i) (cp t i) env s := by
  rcases GN t i with ⟨u, hu, e⟩ | e
  ·rw [e]
   have g1 := aK hu
   have g2 := aK (t := bareK t) (i := i) (u := bareK u) (by rw [ca, List.getElem?_map, hu]; rfl)
   exact h u _ _ _ (by omega) (by omega)
  ·rw [e, IT, IN, IN]
 show DW (x.pn p nm) i (aT n' ((x.go i).pn p nm) (cp (bareK t) i) env s) = DW x i (aT n (x.go i) (cp t i) env s)
 rw [iz, e]
 rfl
theorem yY {n n' : Nat} (h : ExB p nm n n') (x : Cx) (ps : List Kn) (env : Env) : ∀ (l : List Tree) (i : Nat) (s : Sv), (∀ a ∈ l, tbulk a ≤ n + 1 ∧ tbulk (bareK a) ≤ n' + 1) → ij (aT n') (x.pn p nm) ps env (l.map bareK) i s = ij (aT n) x ps env l i s
 | [], i, s, _ => rfl
 | a :: r, i, s, hb => by
  have e := uh h (hb a (by simp)).1 (hb a (by simp)).2 (x.go (i : Int)) 0 env s
  show ij (aT n') (x.pn p nm) ps env (r.map bareK) (i + 1) (sF (x.pn p nm) ps i (aU (aT n') ((x.go (i : Int)).pn p nm) (bareK a) 0 env s)) = _
  rw [e, yY h x ps env r (i + 1) _ (fun b hb' => hb b (by simp [hb']))]
  rfl
theorem Bt {n n' : Nat} (h : ExB p nm n n') {t : Tree} (h1 : tbulk t ≤ n + 1) (h2 : tbulk (bareK t) ≤ n' + 1) (x : Cx) (env : Env) : ∀ (k i : Nat) (r : Kn × Sv), im (aT n') (x.pn p nm) (bareK t) env k i r = im (aT n) x t env k i r
 | 0, i, r => rfl
 | k + 1, i, (f, s) => by
  show im (aT n') (x.pn p nm) (bareK t) env k (i + 1) (Bl (x.pn p nm) i f (aU (aT n') (x.pn p nm) (bareK t) i env s)) = _
  rw [uh h h1 h2, Bt h h1 h2 x env k (i + 1) _]
  rfl
theorem yK : ∀ n n' : Nat, ExB p nm n n'
 | 0, _ => fun t x env s h1 _ => by have := bf t; omega
 | _ + 1, 0 => fun t x env s _ h1 => by have := bf (bareK t); omega
 | n + 1, n' + 1 => fun t x env s h1 h2 => by
  have h := yK n n'
  have K := fun (i : Nat) (env : Env) (s : Sv) => uh h h1 h2 x i env s
  simp only [aT, cX, gz, gD]
  have e16 : pD (aT n') (x.pn p nm) (bareK t) env s = pD (aT n) x t env s := by
   unfold pD
   have ea := yY h x (oM x (s.tg.headD noT)).params env t.kids 0 (rL x t (s.tg.headD noT) (oM x (s.tg.headD noT)) (dy s)) (fun a ha => by
    obtain ⟨i, hi⟩ := List.getElem?_of_mem ha
    have g1 := aK hi
    have g2 := aK (t := bareK t) (i := i) (u := bareK a) (by rw [ca, List.getElem?_map, hi]; rfl)
    omega)
   rw [ca]
   have ef : rL (x.pn p nm) (bareK t) (s.tg.headD noT) (oM (x.pn p nm) (s.tg.headD noT)) (dy s) = rL x t (s.tg.headD noT) (oM x (s.tg.headD noT)) (dy s) := by
    unfold rL
    rw [ca, List.length_map]
    rfl
   rw [ef]
   show ((oM x (s.tg.headD noT)).result, ij (aT n') (x.pn p nm) (oM x (s.tg.headD noT)).params env (t.kids.map bareK) 0 _) = _
   rw [ea]
  have e18 : kP (im (aT n') (x.pn p nm) (bareK t) env (bareK t).kids.length 0 (⟨0, 0⟩, s)) = kP (im (aT n) x t env t.kids.length 0 (⟨0, 0⟩, s)) := by
   rw [ca, List.length_map, Bt h h1 h2]
  have e19 : ifP (aT n') (x.pn p nm) (bareK t) env s = ifP (aT n) x t env s := by
   unfold ifP
   rw [K 0 env s]
   show ifR (aT n') (x.pn p nm) (bareK t) env (aU (aT n') (x.pn p nm) (bareK t) 1 env (ifS x (aU (aT n) x t 0 env s))) = _
   rw [K 1]
   cases hq : aU (aT n) x t 1 env (ifS x (aU (aT n) x t 0 env s)) with
   | mk a s1 =>
    simp only [ifR]
    rw [K 2]
    rfl
  have e20 : Ak (aT n') (x.pn p nm) (bareK t) env (aU (aT n') (x.pn p nm) (bareK t) 0 env s) = Ak (aT n) x t env (aU (aT n) x t 0 env s) := by
   rw [K 0 env s]
   cases hq : aU (aT n) x t 0 env s with
   | mk a s1 =>
    simp only [Ak, gD]
    rw [K 1]
  have e21 : ua (aT n') (x.pn p nm) (bareK t) env (aU (aT n') (x.pn p nm) (bareK t) 0 env s) = ua (aT n) x t env (aU (aT n) x t 0 env s) := by
   rw [K 0 env s]
   cases hq : aU (aT n) x t 0 env s with
   | mk a s1 =>
    simp only [ua, gD]
    rw [K 1]
    rfl
  rw [e16, e18, e19, e20, e21, K 0 env s]
  rfl
theorem tB : ∀ (n n' : Nat) (u : Tree) (x : Cx) (s : Sv), tbulk u ≤ n → tbulk (bareK u) ≤ n' → eu n' (x.pn p nm) (bareK u) s = eu n x u s
 | 0, _, u, x, s, h, _ => by have := bf u; omega
 | _ + 1, 0, u, x, s, _, h => by have := bf (bareK u); omega
 | n + 1, n' + 1, u, x, s, h1, h2 => by
  have t0 : ∀ (n : Nat) (x : Cx) (s : Sv), eu n x (.node 0 [] [] []) s = s := fun n x s => by cases n <;> rfl
  have e : eu n' ((x.go ((0 : Nat) : Int)).pn p nm) (bareK (cp u 0)) s = eu n (x.go ((0 : Nat) : Int)) (cp u 0) s := by
   rcases GN u 0 with ⟨v, hv, e⟩ | e
   ·rw [e]
    have g1 := aK hv
    have g2 := aK (t := bareK u) (i := 0) (u := bareK v) (by rw [ca, List.getElem?_map, hv]; rfl)
    exact tB n n' v _ _ (by omega) (by omega)
   ·rw [e, IT, t0, t0]
  simp only [eu, gz]
  rw [show (x.pn p nm).go ((0 : Nat) : Int) = (x.go ((0 : Nat) : Int)).pn p nm from rfl, iz, e]
  rfl
theorem AK (x : Cx) : ∀ (l : List Tree) (i : Nat) (s : Sv), lH (x.pn p nm) (l.map bareK) i s = lH x l i s
 | [], i, s => rfl
 | k :: r, i, s => by
  simp only [List.map_cons, lH]
  rw [iz, show ((x.pn p nm).go i).go ((0 : Nat) : Int) = ((x.go i).go ((0 : Nat) : Int)).pn p nm from rfl, tB _ _ (cp k 0) _ _ (Nat.le_refl _) (Nat.le_refl _), AK x r]
theorem zP : ∀ (l : List Tree) (q : List Kn), kQ (l.map bareK) q = kQ l q
 | [], q => rfl
 | k :: r, [] => rfl
 | k :: r, q :: l => by simp only [List.map_cons, kQ, gD, zP r l]
theorem Hm (x : Cx) (f : Tree) (g : aj) (s : Sv) : so (x.pn p nm) (bareK f) g s = so x f g s := by
 unfold so
 rw [ca, List.length_map, ← List.map_take, AK, zP, iz, show (x.pn p nm).go ((f.kids.length - 2 : Nat) : Int) = (x.go ((f.kids.length - 2 : Nat) : Int)).pn p nm from rfl]
 obtain ⟨s1, hs1⟩ : ∃ s1, s1 = lH x (f.kids.take (f.kids.length - 2)) 0 s := ⟨_, rfl⟩
 rw [← hs1]
 have et : eu (tbulk (bareK f)) ((x.go ((f.kids.length - 2 : Nat) : Int)).pn p nm) (bareK (cp f (f.kids.length - 2))) s1 = eu (tbulk f) (x.go ((f.kids.length - 2 : Nat) : Int)) (cp f (f.kids.length - 2)) s1 := by
  refine tB _ _ _ _ _ (ly f _) ?_
  rw [← iz]; exact ly _ _
 rw [et]
 have ek := fun (env : Env) (s : Sv) => uh (p := p) (nm := nm) (yK (tbulk f) (tbulk (bareK f))) (t := f) (by omega) (by omega) x (f.kids.length - 1) env s
 rw [ek]
 rfl
end
theorem HP {p : List Tree} {nm : List ((Int × List UInt8) × ac)} (x : Cx) (hx : x.p = p) (d : Nat) (f : Tree) (s : Sv) : nW (x.pn (p.map bareK) nm) d (bareK f) s = nW x d f s := by
 unfold nW
 rw [gz]
 have e1 := fun g => Hm (p := p.map bareK) (nm := nm) (x.go (d : Int)) f g s
 rw [show (x.pn (p.map bareK) nm).go (d : Int) = (x.go (d : Int)).pn (p.map bareK) nm from rfl, e1]
 have e2 : yq ((x.go (d : Int)).pn (p.map bareK) nm) d (bareK f) s = yq (x.go (d : Int)) d f s := by
  unfold yq
  rw [iz, show ((x.go (d : Int)).pn (p.map bareK) nm).go ((0 : Nat) : Int) = ((x.go (d : Int)).go ((0 : Nat) : Int)).pn (p.map bareK) nm from rfl, tB (tbulk f) (tbulk (bareK f)) (cp f 0) _ _ (ly f 0) (by rw [← iz]; exact ly _ _)]
  show eu _ _ _ (if ox (p.map bareK) x.mo (d : Int) = true then faP (x.go (d : Int)) 5 [] s else s) = _
  rw [FM, ← hx]
  rfl
 rw [e2]
 rfl
theorem yU {p : List Tree} {nm : List ((Int × List UInt8) × ac)} (x : Cx) (hx : x.p = p) : ∀ (l : List Tree) (d : Nat) (s : Sv), lm (x.pn (p.map bareK) nm) (l.map bareK) d s = lm x l d s
 | [], d, s => rfl
 | f :: r, d, s => by simp only [List.map_cons, lm, HP x hx, yU x hx r]
theorem yO {p : List Tree} {nm : List ((Int × List UInt8) × ac)} (x : Cx) (hx : x.p = p) : ∀ (l : List Tree) (m : Nat) (s : Sv), ld (x.pn (p.map bareK) nm) (l.map bareK) m s = ld x l m s
 | [], m, s => rfl
 | t :: r, m, s => by
  simp only [List.map_cons, ld]
  rw [ca, show (x.pn (p.map bareK) nm).md (m : Int) = (x.md (m : Int)).pn (p.map bareK) nm from rfl, yU (x.md (m : Int)) hx, yO x hx r]
theorem Hh (p : List Tree) (nm nm' : List ((Int × List UInt8) × ac)) (wm : Int) (wp : List Int) : ke (p.map bareK) nm' wm wp = ke p nm wm wp := by
 unfold ke
 have e : cxN (p.map bareK) nm' wm wp = (cxN p nm wm wp).pn (p.map bareK) nm' := by
  unfold cxN Cx.pn
  rw [BP]
 rw [e, BT, yO (p := p) (cxN p nm wm wp) rfl]
def gP (p0 p1 : List ae) (r0 : Bool) : Prop := qS 13 [.row 3 (List.map ae.w p0), .row 3 (List.map ae.w p1)] (.bool r0)
def dY (m : Nat) (p0 p1 : List ae) (a : Nat) (r0 : Bool) : Prop := ∀ (K : Ctx) (j1 : Nat), av K [] → m ≤ j1 → qLG K Tryz.f13 (fun u _ => u = .bool r0) (xI (ah Tryz.f13)) [.loop (xI (ah Tryz.f13)) j1, .blk 0, .seq (xH (ah Tryz.f13))] 59 (mkF 59 0 [(0, .row 3 (List.map ae.w p0)), (1, .row 3 (List.map ae.w p1)), (5, .int .i64 (a : Int))]) ⟨0, []⟩
theorem qw (m : Nat) (p0 p1 : List ae) (r0 : Bool) (h : ((p0.length ≠ p1.length) → false = r0) ∧ ((p0.length = p1.length) → dY m p0 p1 0 r0)) : gP p0 p1 r0 := by
 refine ⟨rfl, rfl, ?_⟩
 refine qA 59 [] Tryz.func13 fun K hK => ?_
 refine gR 10 rfl <| gV 7 (.int .i64 (p0.length : Int)) rfl (aP (az ae.w _)) rfl <| gLB 6 rfl (az ae.w _) fun b => gR 2 rfl <| gV 9 (.int .i64 (p1.length : Int)) rfl (aP (az ae.w _)) rfl <| gLB 8 rfl (az ae.w _) fun a => gR 3 rfl <| qXh 10 rfl rfl rfl h DP DE ?_ ?_ <;> intro hd h
 refine gR 8 rfl ?_
 subst h
 exact qN [.tmp 4]
 exact gR 10 rfl <| go_loop m <| qJ hK (h K _ hK (by omega)) []
theorem kE (m : Nat) (p0 p1 : List ae) (a : Nat) (r0 : Bool) (h : ((a < p0.length) → ∃ b, p0[a]? = some b ∧ ∃ c, p1[a]? = some c ∧ ((b.Kind ≠ c.Kind) → false = r0) ∧ ((b.Kind = c.Kind) → ∃ d, p0[a]? = some d ∧ ∃ e, p1[a]? = some e ∧ ((d.At.Module ≠ e.At.Module) → false = r0) ∧ ((d.At.Module = e.At.Module) → ∃ i, p0[a]? = some i ∧ ∃ j, p1[a]? = some j ∧ ∃ g, dD i.At.Path j.At.Path g ∧ ((g = false) → false = r0) ∧ ((g = true) → dY m p0 p1 (a + 1) r0)))) ∧ ((¬ a < p0.length) → true = r0)) : dY (m + 1) p0 p1 a r0 := by
 refine qj fun K j1 hK t => ?_
 refine gR 6 rfl <| gV 13 (.int .i64 (p0.length : Int)) rfl (aP (az ae.w _)) rfl <| gLB 12 rfl (az ae.w _) fun r => gR 3 rfl <| qXh 14 rfl rfl rfl h cF cC ?_ ?_ <;> intro hd h
 refine gR 6 rfl <| qDs [] 42 42 <| qDr [(0, 2), (1, 2)] rfl rfl ?_
 obtain ⟨b, k, h⟩ := h
 refine gYd 2 rfl (by kernel_rfl) (aH (mapget (f := ae.w) k) ai rfl rfl rfl rfl) rfl rfl <| qDr [(3, 2), (4, 2), (5, 2), (6, 0)] rfl rfl ?_
 obtain ⟨c, l, h⟩ := h
 refine bS 7 rfl (by kernel_rfl) (aH (mapget (f := ae.w) l) ai rfl rfl rfl rfl) rfl rfl ?_
 refine qDr [(8, 0), (9, 0), (10, 0), (11, 0)] rfl rfl <| qXhZ 28 27 rfl rfl rfl rfl h ep cM ?_ ?_ <;> intro hd h
 refine qDr [(12, 2), (13, 2), (14, 2), (15, 2), (16, 2), (17, 2), (18, 2), (19, 0), (20, 0), (21, 0), (22, 0), (23, 0), (24, 0), (25, 0), (26, 0), (27, 2), (28, 2), (29, 2), (30, 2), (31, 2), (32, 2), (33, 2), (34, 0), (35, 0), (36, 0), (37, 0), (38, 0), (39, 0), (40, 0), (41, 0)] rfl rfl <| qDe <| gR 2 rfl <| go_sub (F' := (mkF 59 0 [])) (H' := ⟨0, []⟩) [] [] rfl hK trivial trivial rfl <| gR 8 rfl <| go_xloopR <| gR 2 rfl ?_
 subst h
 exact qN [.tmp 4]
 refine qDr [(12, 2), (13, 2)] rfl rfl ?_
 obtain ⟨d, n, h⟩ := h
 refine gYd 14 rfl (by kernel_rfl) (aH (mapget (f := ae.w) n) ai rfl rfl rfl rfl) rfl rfl <| qDr [(15, 2), (16, 2), (17, 2), (18, 2), (19, 0)] rfl rfl ?_
 obtain ⟨e, o, h⟩ := h
 refine bS 20 rfl (by kernel_rfl) (aH (mapget (f := ae.w) o) ai rfl rfl rfl rfl) rfl rfl ?_
 refine qDr [(21, 0), (22, 0), (23, 0), (24, 0), (25, 0), (26, 0)] rfl rfl <| qXhZ 43 42 rfl rfl rfl rfl h ep cM ?_ ?_ <;> intro hd h
 refine qDr [(27, 2), (28, 2), (29, 2), (30, 2), (31, 2), (32, 2), (33, 2), (34, 0), (35, 0), (36, 0), (37, 0), (38, 0), (39, 0), (40, 0), (41, 0)] rfl rfl <| qDe <| gR 2 rfl <| go_sub (F' := (mkF 59 0 [])) (H' := ⟨0, []⟩) [] [] rfl hK trivial trivial rfl <| gR 8 rfl <| go_xloopR <| gR 2 rfl ?_
 subst h
 exact qN [.tmp 4]
 refine qDr [(27, 2), (28, 2)] rfl rfl ?_
 obtain ⟨i, p, h⟩ := h
 refine gYd 29 rfl (by kernel_rfl) (aH (mapget (f := ae.w) p) ai rfl rfl rfl rfl) rfl rfl <| qDr [(30, 2), (31, 2), (32, 2), (33, 2), (34, 0)] rfl rfl ?_
 obtain ⟨j, q, h⟩ := h
 refine bS 35 rfl (by kernel_rfl) (aH (mapget (f := ae.w) q) ai rfl rfl rfl rfl) rfl rfl ?_
 refine qDr [(36, 0), (37, 0), (38, 0)] rfl rfl ?_
 obtain ⟨g, s, h⟩ := h
 refine bN 39 s (by kernel_rfl) rfl (by kernel_rfl) rfl rfl .rfl rfl rfl ?_
 refine qDr [(40, 0), (41, 0)] rfl rfl <| qDe <| gR 1 rfl <| qXh 58 rfl rfl rfl h ci ch ?_ ?_ <;> intro hd h
 refine gR 1 rfl <| go_sub (F' := (mkF 59 0 [])) (H' := ⟨0, []⟩) [] [] rfl hK trivial trivial rfl <| gR 8 rfl <| go_xloopR <| gR 2 rfl ?_
 subst h
 exact qN [.tmp 4]
 exact gR 7 rfl <| gV 16 (.int .i64 ((a + 1 : Nat) : Int)) rfl (al (by have := r; omega) (by omega)) rfl <| gR 2 rfl <| go_xloop <| qJ hK (h K _ hK (by omega)) []
 refine gR 3 rfl <| go_xloopE <| gR 8 rfl ?_
 subst h
 exact qN [.tmp 4]
end Go.Proofs.YtomplbgchbfjpaaGreatDoor
