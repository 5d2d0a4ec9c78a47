/- Contracts of the functions that the law reaches, part 6. -/
import Derived.Test.YtgpcdfbmbcognaaGreatTa5
set_option linter.unusedVariables false
set_option linter.unusedSimpArgs false
namespace Go.Proofs.YtgpcdfbmbcognaaGreat
open Go.RowKit Lx Sx
set_option maxRecDepth 100000
set_option maxHeartbeats 1000000
theorem tv : ∀ {k : Int} {ls : List (List UInt8)} {i : Nat}, k ≠ 1 → cu k ls i = true → ∀ j, aM false (ls.getD j []) false = true
 | k, [], i, hk, h, j => by simp [aM]
 | k, l :: r, i, hk, h, 0 => by
  simp only [cu, Bool.and_eq_true] at h
  have h1 := h.1
  rw [show (k == 1) = false from by simpa using hk, Bool.false_and] at h1
  exact h1
 | k, l :: r, i, hk, h, j + 1 => by
  simp only [cu, Bool.and_eq_true] at h
  have := tv hk h.2 j
  simpa using this
theorem qN : ∀ {ls : List (List UInt8)} {i : Nat}, cu 1 ls i = true → ∀ j, i + j ≠ 2 → aM false (ls.getD j []) false = true
 | [], i, h, j, hj => by simp [aM]
 | l :: r, i, h, 0, hj => by
  simp only [cu, Bool.and_eq_true] at h
  have h1 := h.1
  rw [show ((i : Int) == 2) = false from by simp; omega, Bool.and_false] at h1
  exact h1
 | l :: r, i, h, j + 1, hj => by
  simp only [cu, Bool.and_eq_true] at h
  have := qN h.2 j (by omega)
  simpa using this
theorem tm : ∀ {ls : List (List UInt8)} {i : Nat}, cu 1 ls i = true → ∀ j, i + j = 2 → aM false (ls.getD j []) true = true
 | [], i, h, j, hj => by simp [aM]
 | l :: r, i, h, 0, hj => by
  simp only [cu, Bool.and_eq_true] at h
  have h1 := h.1
  rw [show ((i : Int) == 2) = true from by simp; omega] at h1
  exact h1
 | l :: r, i, h, j + 1, hj => by
  simp only [cu, Bool.and_eq_true] at h
  have := tm h.2 j (by omega)
  simpa using this
theorem mn : ∀ {ks : List Tree} {i : Nat} {u : Tree}, leadedsT ks = true → ks[i]? = some u → leadedT u = true
 | [], i, u, h, hu => by simp at hu
 | t :: r, 0, u, h, hu => by
  simp only [leadedsT, Bool.and_eq_true] at h
  simp at hu; subst hu; exact h.1
 | t :: r, i + 1, u, h, hu => by
  simp only [leadedsT, Bool.and_eq_true] at h
  exact mn h.2 (by simpa using hu)
theorem oE {t : Tree} (h : leadedT t = true) : (t.leads.length : Int) = bC t.kind t.kids.length ∧ cu t.kind t.leads 0 = true ∧ leadedsT t.kids = true := by
 cases t
 simp only [leadedT, Bool.and_eq_true, decide_eq_true_eq] at h
 exact ⟨h.1.1, h.1.2, h.2⟩
theorem CB : ∀ t : Tree, t.kind ≠ 1 → shapeK t = true → leadedT t = true → GdP (pcT t) := ec fun t ih hk hs hl => by
 obtain ⟨g1, g2, g3⟩ := oE hl
 have hs' := hs
 rw [jM] at hs'
 simp only [Bool.and_eq_true, decide_eq_true_eq] at hs'
 rw [cr]
 refine BC hs'.1.1 hk hs'.1.2 (tv hk g2) fun g hg => ?_
 rw [jG] at hg
 obtain ⟨u, hu, rfl⟩ := List.mem_map.1 hg
 obtain ⟨i, hi⟩ := List.mem_iff_getElem?.1 hu
 exact ih i u hi (qc (dq hs hi).2) (dq hs hi).1 (mn g3 hi)
theorem Dh {t : Tree} (hk : t.kind = 1) (hs : shapeK t = true) (hl : leadedT t = true) : GdP (pcM t) := by
 obtain ⟨g1, g2, g3⟩ := oE hl
 have hs' := hs
 rw [jM] at hs'
 simp only [Bool.and_eq_true, decide_eq_true_eq] at hs'
 have hw : ar t.text ≠ 0 := by
  have := hs'.1.2
  rw [hk] at this
  intro e
  unfold jy at this
  rw [if_pos (.inl rfl), e] at this
  revert this; decide
 rw [hk] at g2
 refine gdw (by decide) (qN g2 0 (by decide)) (gdw hw (qN g2 1 (by decide)) (gdf fun g hg => ?_))
 rw [jG] at hg
 obtain ⟨u, hu, rfl⟩ := List.mem_map.1 hg
 obtain ⟨i, hi⟩ := List.mem_iff_getElem?.1 hu
 exact CB u (qc (dq hs hi).2) (dq hs hi).1 (mn g3 hi)
theorem pI {t : Tree} (hk : t.kind = 1) (hs : shapeK t = true) : eD t = bL (tkA [] (pcM t)) (t.leads.getD 2 []) := by
 rw [vY hk hs, sT, List.nil_append, ← sW, List.nil_append]
theorem tr {t : Tree} (hk : t.kind = 1) (hs : shapeK t = true) (hl : leadedT t = true) (h4 : (eD t).length ≤ 4096) : scan (eD t) = ⟨tkA [] (pcM t), t.leads.getD 2 [], 0, 0⟩ := by
 obtain ⟨g1, g2, g3⟩ := oE hl
 rw [hk] at g2
 have hg := Dh hk hs hl
 rw [pI hk hs] at h4 ⊢
 exact xq (uB _ _ hg) (tC _ _ hg) (tm g2 2 rfl) h4
theorem sw : ∀ (l : List Pce) (last : List UInt8), (tkA last l).length = l.length
 | [], last => rfl
 | p :: r, last => by simp only [tkA, List.length_cons, sw r]
theorem sJ : ∀ {l : List Pce} {last : List UInt8} {i : Nat} {t : TokZ}, (tkA last l)[i]? = some t → ∃ p, l[i]? = some p ∧ t.kind = (ar p.Text : Int) ∧ t.text = p.Text
 | [], last, i, t, h => by simp [tkA] at h
 | p :: r, last, 0, t, h => by simp [tkA] at h; subst h; exact ⟨p, rfl, rfl, rfl⟩
 | p :: r, last, i + 1, t, h => by simp only [tkA, List.getElem?_cons_succ] at h ⊢; exact sJ h
mutual
def bareE : Tree → Tree
 | .node k x ls ks => .node k x (List.replicate ls.length []) (bareEs ks)
def bareEs : List Tree → List Tree
 | [] => []
 | t :: r => bareE t :: bareEs r
end
theorem oU (t : Tree) : bareE t = .node t.kind t.text (List.replicate t.leads.length []) (bareEs t.kids) := by cases t; simp only [bareE]; rfl
theorem rG : ∀ l : List Tree, bareEs l = l.map bareE
 | [] => rfl
 | t :: r => by simp [bareEs, rG r]
theorem oM (t : Tree) : (bareE t).kind = t.kind := by rw [oU]; rfl
def stP (p : Pce) : Pce := ⟨[], p.Text⟩
theorem sK (n i : Nat) : (List.replicate n ([] : List UInt8)).getD i [] = [] := by
 rw [List.getD_eq_getElem?_getD, List.getElem?_replicate]
 split <;> rfl
theorem Bi (gs : List (List Pce)) (i : Nat) : (gs.map (List.map stP)).getD i [] = (gs.getD i []).map stP := by
 rw [List.getD_eq_getElem?_getD, List.getD_eq_getElem?_getD, List.getElem?_map]
 cases gs[i]? <;> rfl
theorem uY {ls ls' : List (List UInt8)} (h : ∀ i, ls'.getD i [] = []) (c : Nat) : ∀ (gs : List (List Pce)) (i : Nat), gd ls' c (gs.map (List.map stP)) i = (gd ls c gs i).map stP
 | [], i => rfl
 | g :: r, i => by
  simp only [List.map_cons, gd, uY (ls := ls) h c r, h]
  split <;> simp [stP]
theorem yT {k : Int} {x : List UInt8} {ls ls' : List (List UInt8)} {gs : List (List Pce)} (h : ∀ i, ls'.getD i [] = []) : bo k x ls' (gs.map (List.map stP)) = (bo k x ls gs).map stP := by
 have hr := fun c => uY (ls := ls) h c
 unfold bo
 simp only [List.length_map, Bi, h, ← List.map_take, hr, apply_ite (List.map stP), List.map_cons, List.map_append, List.map_nil, List.map_flatten]
 rfl
mutual
theorem pc_bare : ∀ t : Tree, pcT (bareE t) = (pcT t).map stP
 | .node k x ls ks => by
  simp only [bareE, pcT]
  rw [pcs_bare ks]
  exact yT (fun i => sK _ i)
theorem pcs_bare : ∀ l : List Tree, pcTs (bareEs l) = (pcTs l).map (List.map stP)
 | [] => rfl
 | t :: r => by simp only [bareEs, pcTs, List.map_cons, pc_bare t, pcs_bare r]
end
theorem uq (t : Tree) : pcM (bareE t) = (pcM t).map stP := by
 unfold pcM
 rw [oU]
 simp only [Tree.leads, Tree.text, Tree.kids, sK, pcs_bare, List.map_cons, List.map_flatten, stP]
theorem sk (l : List Tree) : (bareEs l).length = l.length := by rw [rG, List.length_map]
mutual
theorem shape_bare : ∀ t : Tree, shapeK (bareE t) = shapeK t
 | .node k x ls ks => by simp only [bareE, shapeK, sk, shapes_bare ks]
theorem shapes_bare : ∀ (l : List Tree) (k n : Int) (i : Nat), shapeKs k n i (bareEs l) = shapeKs k n i l
 | [], k, n, i => rfl
 | t :: r, k, n, i => by simp only [bareEs, shapeKs, oM, shape_bare t, shapes_bare r]
end
theorem sX (k : Int) : ∀ (n i : Nat), cu k (List.replicate n []) i = true
 | 0, i => rfl
 | n + 1, i => by
  rw [List.replicate_succ, cu, sX k n]
  simp [aM]
mutual
theorem leaded_bare : ∀ t : Tree, leadedT t = true → leadedT (bareE t) = true
 | .node k x ls ks, h => by
  simp only [leadedT, Bool.and_eq_true, decide_eq_true_eq] at h
  simp only [bareE, leadedT, Bool.and_eq_true, decide_eq_true_eq, List.length_replicate, sk]
  exact ⟨⟨h.1.1, sX _ _ _⟩, leadeds_bare ks h.2⟩
theorem leadeds_bare : ∀ l : List Tree, leadedsT l = true → leadedsT (bareEs l) = true
 | [], h => rfl
 | t :: r, h => by
  simp only [leadedsT, Bool.and_eq_true] at h
  simp only [bareEs, leadedsT, leaded_bare t h.1, leadeds_bare r h.2, Bool.and_true]
end
theorem uh : ∀ (ls : List (List UInt8)), lsum (List.replicate ls.length []) ≤ lsum ls
 | [] => Nat.le_refl _
 | a :: r => by have := uh r; simp only [List.length_cons, List.replicate_succ, lsum, List.length_nil]; omega
mutual
theorem bulk_bare : ∀ t : Tree, tbulk (bareE t) ≤ tbulk t
 | .node k x ls ks => by have h1 := bulks_bare ks; have h2 := uh ls; simp only [bareE, tbulk]; omega
theorem bulks_bare : ∀ l : List Tree, kbulk (bareEs l) ≤ kbulk l
 | [] => Nat.le_refl _
 | t :: r => by have h1 := bulk_bare t; have h2 := bulks_bare r; simp only [bareEs, kbulk]; omega
end
theorem Cn (last lead tok : List UInt8) : (ca last [] tok).length ≤ (ca last lead tok).length := by
 unfold ca
 by_cases h : lead = []
 ·subst h; exact Nat.le_refl _
 ·rw [if_neg (c := lead = [] ∧ _) (fun q => h q.1)]
  have : 0 < lead.length := List.length_pos_iff.2 h
  split <;> simp only [List.length_cons, List.length_nil] <;> omega
theorem vW : ∀ (l : List Pce) (last x y : List UInt8), x.length ≤ y.length → (bL (tkA last (l.map stP)) x).length ≤ (bL (tkA last l) y).length
 | [], last, x, y, h => h
 | p :: r, last, x, y, h => by
  have h1 := Cn last p.Lead p.Text
  have h2 := vW r p.Text x y h
  simp only [List.map_cons, tkA, bL, List.length_append, stP] at h2 ⊢
  omega
theorem zg {t : Tree} (hk : t.kind = 1) (hs : shapeK t = true) : (eD (bareE t)).length ≤ (eD t).length := by
 rw [pI hk hs, pI (by rw [oM]; exact hk) (by rw [shape_bare]; exact hs), uq]
 refine vW _ _ _ _ ?_
 rw [oU]
 simp only [Tree.leads, sK]
 exact Nat.zero_le _
end Go.Proofs.YtgpcdfbmbcognaaGreat
namespace Go.Proofs.YtgpcdfbmbcognaaGreat
open Go.RowKit Lx Sx
set_option maxRecDepth 100000
set_option maxHeartbeats 4000000
def hO (r0 : Bool) : Prop := qS 5 [] (.bool r0)
def rc (p0 : List UInt8) (r0 : Tree) (r1 r2 : Int) : Prop := qS 10 [.str p0] (.tup [.agg (ak r0), .int .i64 r1, .int .i64 r2])
def fD (p0 r0 : Tree) : Prop := qS 9 [.agg (ak p0)] (.agg (ak r0))
def gZ (p0 : List Int) (r0 : Bool) : Prop := qS 3 [.row 1 (List.map (V.int .i64) p0)] (.bool r0)
def jK (r0 : Bool) : Prop := qS 5 [] (.bool r0)
def kK (m : Nat) (p0 r0 : Tree) : Prop := ∀ (K : Ctx), aI K [] → Go Tryz.prog K (bodyPost Tryz.prog Tryz.f9 (SP K (fun u _ => u = .agg (ak r0)))) (.ex .normal) [.seq (xB (ae Tryz.f9))] 33 (mkF 33 0 [(1, .box (ak p0) 0), (2, .ptr 0 0), (3, .ptr 1 0)]) ⟨3, [(2, .row 9 1 (List.map V.str (List.replicate p0.leads.length ([] : List UInt8)))), (1, .var 34 [.int .i64 p0.kind, .str p0.text, .sl 2, .nils]), (0, .var 34 [.int .i64 0, .str [], .nils, .nils])]⟩
def dz (m : Nat) (p0 : Tree) (a : List Tree) (b : Nat) (r0 : Tree) : Prop := ∀ (K : Ctx) (j1 : Nat), aI K [] → m ≤ j1 → qLG K Tryz.f9 (fun u _ => u = .agg (ak r0)) (xI (ae Tryz.f9)) [.loop (xI (ae Tryz.f9)) j1, .blk 0, .seq (xH (ae Tryz.f9))] 33 (mkF 33 0 [(1, .box (ak p0) 0), (2, .ptr 0 0), (3, .ptr 1 0), (4, .int .i64 (b : Int))]) ⟨4, [(3, .row 34 4 (kidsV a)), (2, .row 9 1 (List.map V.str (List.replicate p0.leads.length ([] : List UInt8)))), (1, .var 34 [.int .i64 p0.kind, .str p0.text, .sl 2, .sl 3]), (0, .var 34 [.int .i64 0, .str [], .nils, .nils])]⟩
theorem ph (m : Nat) (p0 r0 : Tree) (h : p0.leads.length ≤ 1000000000 ∧ kK m p0 r0) : fD p0 r0 := by
 refine ⟨rfl, rfl, ?_⟩
 refine av 33 [] Tryz.func9 rfl rfl rfl (aY rfl) fun K hK => ?_
 refine gR 3 rfl <| gFP 0 rfl rfl rfl rfl <| gR 4 rfl <| gDs [] 10 11 rfl (by kernel_rfl) (by kernel_rfl) <| gDr [(0, 2), (1, 2), (2, 2), (3, 2), (4, 2), (5, 2), (6, 2)] (by kernel_rfl) rfl rfl <| gV 11 (.int .i64 (p0.leads.length : Int)) rfl (bV (aV V.str _)) rfl <| gLB 10 rfl (aV V.str _) fun hl18 => ?_
 obtain ⟨hb, h⟩ := h
 have hb19 := hb
 apply ou (i := 7) (j := 9) (by kernel_rfl) rfl rfl rfl rfl
 exact (zd (.new (.row 9 1 (List.replicate p0.leads.length (.str [])))) (dMk ab rfl rfl rfl rfl rfl rfl rfl (by kernel_rfl) hb19) trivial (by kernel_rfl))
 exact (oV ab rfl rfl)
 exact gHR 2 (List.map V.str (List.replicate p0.leads.length ([] : List UInt8))) rfl (by first | (simp only [iG, List.map_replicate]; done) | (simp only [iG, List.map_replicate]; rfl)) rfl <| gDr [(8, 2), (9, 0), (10, 1)] (by kernel_rfl) rfl rfl <| gDe (by kernel_rfl) <| gJ (h K hK) [1, 3, 2] [] rfl hK pq3 ⟨⟨_, rfl, rfl, rfl, (aq _ V.str (fun _ => rfl) (List.replicate p0.leads.length ([] : List UInt8))).symm⟩, (pqo2 rfl rfl rfl rfl)⟩ rfl
 refine cJ 7 (.new (.row 9 1 (List.replicate p0.leads.length (.str [])))) rfl (by kernel_rfl) (dMk ab rfl rfl rfl rfl rfl rfl rfl (by kernel_rfl) hb19) trivial rfl (by kernel_rfl) rfl rfl ?_
 exact gHR 3 (List.map V.str (List.replicate p0.leads.length ([] : List UInt8))) rfl (by first | (simp only [iG, List.map_replicate]; done) | (simp only [iG, List.map_replicate]; rfl)) rfl <| gDr [(8, 0), (10, 1)] (by kernel_rfl) rfl rfl <| gDe (by kernel_rfl) <| gJ (h K hK) [1, 2, 3] [] rfl hK pq3 ⟨⟨_, rfl, rfl, rfl, (aq _ V.str (fun _ => rfl) (List.replicate p0.leads.length ([] : List UInt8))).symm⟩, (pqo2 rfl rfl rfl rfl)⟩ rfl
theorem oD (m : Nat) (p0 r0 : Tree) (h : dz m p0 ([] : List Tree) 0 r0) : kK (m + 1) p0 r0 := by
 intro K hK
 exact gR 8 rfl <| go_loop m <| gNC 1 3 34 4 rfl rfl rfl rfl <| gJ (h K _ hK (by omega)) [0, 1, 2, 3] [] rfl hK pq4 ⟨⟨_, rfl, rfl, rfl, rfl⟩, ⟨_, rfl, rfl, rfl, (aq _ V.str (fun _ => rfl) (List.replicate p0.leads.length ([] : List UInt8))).symm⟩, (pqo2 rfl rfl rfl rfl)⟩ rfl
theorem kh (m : Nat) (p0 : Tree) (a : List Tree) (c : Nat) (r0 : Tree) (h : ((c < p0.kids.length) → ∃ d, p0.kids[c]? = some d ∧ ∃ b, fD d b ∧ (a ++ [b]).length ≤ 1000000000 ∧ dz m p0 (a ++ [b]) (c + 1) r0) ∧ ((¬ c < p0.kids.length) → (Tree.node p0.kind p0.text (List.replicate p0.leads.length ([] : List UInt8)) a) = r0)) : dz (m + 1) p0 a c r0 := by
 intro K j1 hK hj1
 obtain ⟨j1, rfl⟩ : ∃ j, j1 = j + 1 := ⟨j1 - 1, by omega⟩
 refine gR 7 rfl <| gV 17 (.int .i64 (p0.kids.length : Int)) rfl (bV (bq _)) rfl <| gLB 16 rfl (bq _) fun hl20 => gR 3 rfl <| gB 18 rfl rfl rfl ?_ ?_ <;> intro hd
 replace hd := (ia hd)
 replace h := h.1 hd
 refine gR 5 rfl <| gDs [1] 11 12 rfl (by kernel_rfl) (by kernel_rfl) <| gDr [(0, 2), (1, 3), (2, 2), (3, 2), (4, 0)] (by kernel_rfl) rfl rfl ?_
 obtain ⟨d, hxt2_1, h⟩ := h
 refine fk 5 rfl (by kernel_rfl) (bw (aJ hxt2_1) ab rfl rfl rfl rfl) rfl rfl ?_
 refine gDr [(6, 0)] (by kernel_rfl) rfl rfl ?_
 obtain ⟨b, hs21, h⟩ := h
 refine bP 7 hs21 (by kernel_rfl) rfl (by kernel_rfl) rfl rfl .rfl rfl rfl ?_
 refine gDr [(8, 0)] (by kernel_rfl) rfl rfl <| gHR 4 (kidsV [b]) rfl (ld b) rfl ?_
 obtain ⟨hb, h⟩ := h
 refine cJ 9 (.repl 3 (.row 34 4 (kidsV (a ++ [b])))) rfl (by kernel_rfl) (bO ab rfl rfl rfl rfl rfl (fE a [b]).symm (by rw [bq]; exact hb)) (okR rfl) rfl (by kernel_rfl) rfl rfl ?_
 exact gDr [(10, 0), (11, 1)] (by kernel_rfl) rfl rfl <| gDe (by kernel_rfl) <| gR 5 rfl <| gV 20 (.int .i64 ((c + 1 : Nat) : Int)) rfl (aG (by have := hl20; omega) (by omega)) rfl <| gR 2 rfl <| go_xloop <| gJ (h K _ hK (by omega)) [0, 1, 2, 5] [] rfl hK pq4 ⟨⟨_, rfl, rfl, rfl, (ff _ (a ++ [b])).symm⟩, ⟨_, rfl, rfl, rfl, (aq _ V.str (fun _ => rfl) (List.replicate p0.leads.length ([] : List UInt8))).symm⟩, (pqo2 rfl rfl rfl rfl)⟩ rfl
 replace hd := (ib hd)
 replace h := h.2 hd
 refine gR 3 rfl <| go_xloopE <| gR 9 rfl <| gFR 2 rfl (iJ _ (fun _ => rfl) _) rfl rfl <| gFR 3 rfl (cN _) rfl rfl ?_
 subst h
 exact go_sub (F' := (mkF 33 0 [(2, .ptr 0 0)])) (H' := ⟨1, [(0, .var 34 [.int .i64 ((Tree.node p0.kind p0.text (List.replicate p0.leads.length ([] : List UInt8)) a).kind), .str ((Tree.node p0.kind p0.text (List.replicate p0.leads.length ([] : List UInt8)) a).text), .row 1 (List.map V.str ((Tree.node p0.kind p0.text (List.replicate p0.leads.length ([] : List UInt8)) a).leads)), .row 4 (kidsV ((Tree.node p0.kind p0.text (List.replicate p0.leads.length ([] : List UInt8)) a).kids))])]⟩) [0] [] rfl hK pq1 (pqo1 rfl rfl) rfl <| go_end ab (rs := [.cell 2 34]) rfl rfl rfl
def bS (m : Nat) (a : List Tree) (b : Nat) (r0 : Bool) : Prop := ∀ (K : Ctx) (j1 : Nat), aI K [] → m ≤ j1 → qLG K Tryz.f3 (fun u _ => u = .bool r0) (xI (cB (ae Tryz.f3))) [.loop (xI (cB (ae Tryz.f3))) j1, .blk 0, .seq (xK (ae Tryz.f3))] 93 (mkF 93 0 [(3, .row 4 (kidsV a)), (4, .int .i64 (b : Int))]) ⟨0, []⟩
def bR (m : Nat) (b : List Tree) (c a : List GToken) (d e : Nat) (r0 : Bool) : Prop := ∀ (K : Ctx) (j1 j2 : Nat), aI K [] → m ≤ j1 → m ≤ j2 → qLG K Tryz.f3 (fun u _ => u = .bool r0) (cL (cK (xK (cK (cA (cB (xI (cB (ae Tryz.f3))))))))) [.loop (cL (cK (xK (cK (cA (cB (xI (cB (ae Tryz.f3))))))))) j1, .blk 2, .blk 1, .seq (xB (xI (cB (ae Tryz.f3)))), .loop (xI (cB (ae Tryz.f3))) j2, .blk 0, .seq (xK (ae Tryz.f3))] 93 (mkF 93 0 [(3, .row 4 (kidsV b)), (4, .int .i64 (e : Int)), (5, .row 3 (List.map GToken.w c)), (9, .row 3 (List.map GToken.w a)), (13, .int .i64 (d : Int))]) ⟨0, []⟩
theorem gD (m : Nat) (p0 : List Int) (r0 : Bool) (h : ∃ a, iB p0 a ∧ ((a = false) → ∃ b, hO b ∧ b = r0) ∧ ((a = true) → ∃ c, gH p0 c ∧ bS m c 0 r0)) : gZ p0 r0 := by
 refine ⟨rfl, rfl, ?_⟩
 refine av 93 [] Tryz.func3 rfl rfl rfl (aY rfl) fun K hK => ?_
 refine gR 9 rfl ?_
 obtain ⟨a, hs40, h⟩ := h
 refine gC0 hs40 (by kernel_rfl) rfl rfl .rfl rfl <| gR 3 rfl <| gB 16 rfl rfl rfl ?_ ?_ <;> intro hd
 replace hd := (eE hd)
 replace h := h.1 hd
 refine gR 3 rfl ?_
 obtain ⟨b, hs41, h⟩ := h
 refine gC0 hs41 (by kernel_rfl) rfl rfl .rfl rfl <| gR 5 rfl ?_
 subst h
 exact go_end ab (rs := [.tmp 2]) rfl rfl rfl
 replace hd := (eC hd)
 replace h := h.2 hd
 refine gR 6 rfl ?_
 obtain ⟨c, hs42, h⟩ := h
 exact gC0 hs42 (by kernel_rfl) rfl rfl .rfl rfl <| gR 10 rfl <| go_loop m <| gJ (h K _ hK (by omega)) [] [] rfl hK pq2 trivial rfl
theorem gh (m : Nat) (b : List Tree) (c : Nat) (r0 : Bool) (h : ((c < b.length) → ∃ i, b[c]? = some i ∧ ∃ k, gm i k ∧ ∃ d r s g, oe k d r s g ∧ ∃ l, b[c]? = some l ∧ ∃ n, fD l n ∧ ∃ o, gm n o ∧ ∃ a p q e, oe o a p q e ∧ ((g ≠ 0) → false = r0) ∧ ((g = 0) → ((e ≠ 0) → false = r0) ∧ ((e = 0) → ((d.length ≠ a.length) → false = r0) ∧ ((d.length = a.length) → bR m b d a 0 c r0)))) ∧ ((¬ c < b.length) → ∃ f, hO f ∧ f = r0)) : bS (m + 1) b c r0 := by
 intro K j1 hK hj1
 obtain ⟨j1, rfl⟩ : ∃ j, j1 = j + 1 := ⟨j1 - 1, by omega⟩
 refine gR 6 rfl <| gV 22 (.int .i64 (b.length : Int)) rfl (bV (bq _)) rfl <| gLB 21 rfl (bq _) fun hl43 => gR 3 rfl <| gB 23 rfl rfl rfl ?_ ?_ <;> intro hd
 replace hd := (ia hd)
 replace h := h.1 hd
 refine gR 9 rfl ?_
 obtain ⟨i, hxt1_1, h⟩ := h
 refine gY (bw (aJ hxt1_1) ab rfl rfl rfl rfl) rfl rfl <| gR 1 rfl ?_
 obtain ⟨k, hs44, h⟩ := h
 refine gC0 hs44 (by kernel_rfl) rfl rfl .rfl rfl ?_
 obtain ⟨d, r, s, g, hs45, h⟩ := h
 refine gC0 hs45 (by kernel_rfl) rfl rfl .rfl rfl <| gR 15 rfl ?_
 obtain ⟨l, hxt1_7, h⟩ := h
 refine gY (bw (aJ hxt1_7) ab rfl rfl rfl rfl) rfl rfl <| gR 1 rfl ?_
 obtain ⟨n, hs46, h⟩ := h
 refine gC0 hs46 (by kernel_rfl) rfl rfl .rfl rfl ?_
 obtain ⟨o, hs47, h⟩ := h
 refine gC0 hs47 (by kernel_rfl) rfl rfl .rfl rfl ?_
 obtain ⟨a, p, q, e, hs48, h⟩ := h
 refine gC0 hs48 (by kernel_rfl) rfl rfl .rfl rfl <| gR 17 rfl <| gB 51 rfl rfl rfl ?_ ?_ <;> intro hd
 refine gT 50 rfl hd rfl ?_
 replace hd := (lf hd)
 replace h := h.1 hd
 refine gR 13 rfl <| go_sub (F' := (mkF 93 0 [])) (H' := ⟨0, []⟩) [] [] rfl hK trivial trivial rfl <| gR 9 rfl <| go_xloopR <| gR 2 rfl ?_
 subst h
 exact go_end ab (rs := [.tmp 2]) rfl rfl rfl
 refine gF 50 rfl hd rfl ?_
 replace hd := (iK hd)
 replace h := h.2 hd
 refine gR 4 rfl <| gB 55 rfl rfl rfl ?_ ?_ <;> intro hd
 refine gT 54 rfl hd rfl ?_
 replace hd := (lf hd)
 replace h := h.1 hd
 refine gR 9 rfl <| go_sub (F' := (mkF 93 0 [])) (H' := ⟨0, []⟩) [] [] rfl hK trivial trivial rfl <| gR 9 rfl <| go_xloopR <| gR 2 rfl ?_
 subst h
 exact go_end ab (rs := [.tmp 2]) rfl rfl rfl
 refine gF 54 rfl hd rfl ?_
 replace hd := (iK hd)
 replace h := h.2 hd
 refine gR 2 rfl <| gV 57 (.int .i64 (d.length : Int)) rfl (bV (aV GToken.w _)) rfl <| gLB 56 rfl (aV GToken.w _) fun hl49 => gR 2 rfl <| gV 59 (.int .i64 (a.length : Int)) rfl (bV (aV GToken.w _)) rfl <| gLB 58 rfl (aV GToken.w _) fun hl50 => gR 4 rfl <| gB 61 rfl rfl rfl ?_ ?_ <;> intro hd
 replace hd := (Fg hd)
 replace h := h.1 hd
 refine gR 1 rfl <| go_sub (F' := (mkF 93 0 [])) (H' := ⟨0, []⟩) [] [] rfl hK trivial trivial rfl <| gR 9 rfl <| go_xloopR <| gR 2 rfl ?_
 subst h
 exact go_end ab (rs := [.tmp 2]) rfl rfl rfl
 replace hd := (Fh hd)
 replace h := h.2 hd
 exact gR 3 rfl <| go_sub (F' := (mkF 93 0 [(3, .row 4 (kidsV b)), (4, .int .i64 (c : Int)), (5, .row 3 (List.map GToken.w d)), (9, .row 3 (List.map GToken.w a))])) (H' := ⟨0, []⟩) [] [] rfl hK pq4 trivial rfl <| gR 6 rfl <| go_loop m <| gJ (h K _ _ hK (by omega) (by omega)) [] [] rfl hK pq5 trivial rfl
 replace hd := (ib hd)
 replace h := h.2 hd
 refine gR 3 rfl <| go_xloopE <| gR 4 rfl ?_
 obtain ⟨f, hs51, h⟩ := h
 refine gC0 hs51 (by kernel_rfl) rfl rfl .rfl rfl <| gR 4 rfl ?_
 subst h
 exact go_end ab (rs := [.tmp 2]) rfl rfl rfl
theorem gj (m : Nat) (l : List Tree) (b c : List GToken) (a d : Nat) (r0 : Bool) (h : ((a < b.length) → ∃ e, b[a]? = some e ∧ ∃ g, c[a]? = some g ∧ ((e.Kind ≠ g.Kind) → false = r0) ∧ ((e.Kind = g.Kind) → ∃ i, b[a]? = some i ∧ ∃ k, c[a]? = some k ∧ ((i.Text ≠ k.Text) → false = r0) ∧ ((i.Text = k.Text) → bR m l b c (a + 1) d r0))) ∧ ((¬ a < b.length) → d + 1 ≤ 9223372036854775807 ∧ bS m l (d + 1) r0)) : bR (m + 1) l b c a d r0 := by
 intro K j1 j2 hK hj1 hj2
 obtain ⟨j1, rfl⟩ : ∃ j, j1 = j + 1 := ⟨j1 - 1, by omega⟩
 obtain ⟨j2, rfl⟩ : ∃ j, j2 = j + 1 := ⟨j2 - 1, by omega⟩
 refine gR 6 rfl <| gV 64 (.int .i64 (b.length : Int)) rfl (bV (aV GToken.w _)) rfl <| gLB 63 rfl (aV GToken.w _) fun hl52 => gR 3 rfl <| gB 65 rfl rfl rfl ?_ ?_ <;> intro hd
 replace hd := (ia hd)
 replace h := h.1 hd
 refine gR 6 rfl <| gDs [] 24 24 rfl (by kernel_rfl) (by kernel_rfl) <| gDr [(0, 2), (1, 2)] (by kernel_rfl) rfl rfl ?_
 obtain ⟨e, hxx2_1, h⟩ := h
 refine gYd 2 rfl (by kernel_rfl) (bw (mapget (f := GToken.w) hxx2_1) ab rfl rfl rfl rfl) rfl rfl <| gDr [(3, 2), (4, 2), (5, 2), (6, 0)] (by kernel_rfl) rfl rfl ?_
 obtain ⟨g, hxx2_2, h⟩ := h
 refine fk 7 rfl (by kernel_rfl) (bw (mapget (f := GToken.w) hxx2_2) ab rfl rfl rfl rfl) rfl rfl ?_
 refine gDr [(8, 0), (9, 0), (10, 0), (11, 0)] (by kernel_rfl) rfl rfl <| gB 79 rfl rfl rfl ?_ ?_ <;> intro hd
 refine gT 78 rfl hd rfl ?_
 replace hd := (lf hd)
 replace h := h.1 hd
 refine gDr [(12, 2), (13, 2), (14, 2), (15, 2), (16, 2), (17, 2), (18, 0), (19, 0), (20, 0), (21, 0), (22, 0), (23, 0)] (by kernel_rfl) rfl rfl <| gDe (by kernel_rfl) <| gR 10 rfl <| go_xloopR <| gR 3 rfl <| go_xloopR <| gR 2 rfl ?_
 subst h
 exact go_end ab (rs := [.tmp 2]) rfl rfl rfl
 refine gF 78 rfl hd rfl ?_
 replace hd := (iK hd)
 replace h := h.2 hd
 refine gDr [(12, 2), (13, 2)] (by kernel_rfl) rfl rfl ?_
 obtain ⟨i, hxx2_3, h⟩ := h
 refine gYd 14 rfl (by kernel_rfl) (bw (mapget (f := GToken.w) hxx2_3) ab rfl rfl rfl rfl) rfl rfl <| gDr [(15, 2), (16, 2), (17, 2), (18, 0)] (by kernel_rfl) rfl rfl ?_
 obtain ⟨k, hxx2_4, h⟩ := h
 refine fk 19 rfl (by kernel_rfl) (bw (mapget (f := GToken.w) hxx2_4) ab rfl rfl rfl rfl) rfl rfl ?_
 refine gDr [(20, 0), (21, 0), (22, 0), (23, 0)] (by kernel_rfl) rfl rfl <| gDe (by kernel_rfl) <| gR 1 rfl <| gB 91 rfl rfl rfl ?_ ?_ <;> intro hd
 replace hd := (lf hd)
 replace h := h.1 hd
 refine gR 9 rfl <| go_xloopR <| gR 3 rfl <| go_xloopR <| gR 2 rfl ?_
 subst h
 exact go_end ab (rs := [.tmp 2]) rfl rfl rfl
 replace hd := (iK hd)
 replace h := h.2 hd
 exact gR 7 rfl <| gV 67 (.int .i64 ((a + 1 : Nat) : Int)) rfl (aG (by have := hl52; omega) (by omega)) rfl <| gR 2 rfl <| go_xloop <| gJ (h K _ _ hK (by omega) (by omega)) [] [] rfl hK pq5 trivial rfl
 replace hd := (ib hd)
 replace h := h.2 hd
 refine gR 3 rfl <| go_xloopE <| gR 5 rfl ?_
 obtain ⟨hb, h⟩ := h
 exact gR 1 rfl <| gV 25 (.int .i64 ((d + 1 : Nat) : Int)) rfl (aG (by omega) (by omega)) rfl <| gR 2 rfl <| go_xloop <| gJ (h K _ hK (by omega)) [] [] rfl hK pq2 trivial rfl
theorem no (m : Nat) (r0 : Bool) (h : ∃ a c d, rc [109, 111, 100, 117, 108, 101, 32, 77, 32, 100, 101, 102, 32, 102, 40, 120, 58, 32, 73, 110, 116, 41, 58, 32, 73, 110, 116, 32, 61, 32, 120, 32, 43, 32, 49, 32, 35, 32, 101, 110, 100] a c d ∧ ((d = 0) → ((c = 0) → (((a.kids.length : Int) = 1) → ((a.text = [77]) → ∃ b, a.kids[0]? = some b ∧ (((b.kids.length : Int) = 3) → ∃ e, gm a e ∧ ((e = [109, 111, 100, 117, 108, 101, 32, 77, 32, 100, 101, 102, 32, 102, 40, 120, 58, 32, 73, 110, 116, 41, 58, 32, 73, 110, 116, 32, 61, 32, 120, 32, 43, 32, 49, 32, 35, 32, 101, 110, 100]) → ∃ f, eM 2 4 f ∧ (f == 7) = r0) ∧ ((e ≠ [109, 111, 100, 117, 108, 101, 32, 77, 32, 100, 101, 102, 32, 102, 40, 120, 58, 32, 73, 110, 116, 41, 58, 32, 73, 110, 116, 32, 61, 32, 120, 32, 43, 32, 49, 32, 35, 32, 101, 110, 100]) → false = r0)) ∧ (((b.kids.length : Int) ≠ 3) → false = r0)) ∧ ((a.text ≠ [77]) → false = r0)) ∧ (((a.kids.length : Int) ≠ 1) → false = r0)) ∧ ((c ≠ 0) → false = r0)) ∧ ((d ≠ 0) → false = r0)) : jK r0 := by
 refine ⟨rfl, rfl, ?_⟩
 refine av 47 [] Tryz.func5 rfl rfl rfl (aY rfl) fun K hK => ?_
 refine gR 13 rfl ?_
 obtain ⟨a, c, d, hs6, h⟩ := h
 refine gC0 hs6 (by kernel_rfl) rfl rfl .rfl rfl <| gR 15 rfl <| qBeZ 13 12 rfl rfl rfl rfl h (fun h => ?_) fun h => ?_
 refine gR 4 rfl <| qBeZ 17 16 rfl rfl rfl rfl h (fun h => ?_) fun h => ?_
 refine gR 3 rfl <| gV 20 (.int .i64 (a.kids.length : Int)) rfl (bV (bq _)) rfl <| gLB 19 rfl (bq _) fun hl7 => gR 3 rfl <| qBeZ 23 22 rfl rfl rfl rfl h (fun h => ?_) fun h => ?_
 refine gR 5 rfl <| qBeZ 28 27 rfl rfl rfl rfl h (fun h => ?_) fun h => ?_
 refine gR 2 rfl ?_
 obtain ⟨b, hxt0_4, h⟩ := h
 refine gY (bw (aJ hxt0_4) ab rfl rfl rfl rfl) rfl rfl <| gR 3 rfl <| gV 34 (.int .i64 (b.kids.length : Int)) rfl (bV (bq _)) rfl <| gLB 33 rfl (bq _) fun hl8 => gR 3 rfl <| qBeZ 37 36 rfl rfl rfl rfl h (fun h => ?_) fun h => ?_
 refine gR 1 rfl ?_
 obtain ⟨e, hs9, h⟩ := h
 refine gC0 hs9 (by kernel_rfl) rfl rfl .rfl rfl <| gR 4 rfl <| qBeZ 43 42 rfl rfl rfl rfl h (fun h => ?_) fun h => ?_
 obtain ⟨f, hs10, h⟩ := h
 refine gC0 hs10 (by kernel_rfl) rfl rfl .rfl rfl <| gR 6 rfl ?_
 subst h
 exact go_end ab (rs := [.tmp 0]) rfl rfl rfl
 refine gR 7 rfl ?_
 subst h
 exact go_end ab (rs := [.tmp 0]) rfl rfl rfl
 refine gR 13 rfl ?_
 subst h
 exact go_end ab (rs := [.tmp 0]) rfl rfl rfl
 refine gR 22 rfl ?_
 subst h
 exact go_end ab (rs := [.tmp 0]) rfl rfl rfl
 refine gR 27 rfl ?_
 subst h
 exact go_end ab (rs := [.tmp 0]) rfl rfl rfl
 refine gR 33 rfl ?_
 subst h
 exact go_end ab (rs := [.tmp 0]) rfl rfl rfl
 refine gR 37 rfl ?_
 subst h
 exact go_end ab (rs := [.tmp 0]) rfl rfl rfl
end Go.Proofs.YtgpcdfbmbcognaaGreat
namespace Go.Proofs.YtgpcdfbmbcognaaGreat
open Go.RowKit Lx Sx
set_option maxHeartbeats 1000000
set_option maxRecDepth 100000
theorem Ei {L : List Int} {a : Int} (hd : Dc L a) : Gt L (fun t a' => jI L a t L a') 500 := by
 obtain ⟨r, a1, h1, h2, h3⟩ := dO hd (n := 5) (by omega) (by omega)
 by_cases hr : r = 0
 ·obtain ⟨s, a2, g1, g2, g3⟩ := gp h3 [[84], [85]] (by decide) (by decide)
  have hs := fy g2 (by decide)
  obtain ⟨t, a3, q1, q2, q3⟩ := yd 2 g3 (by omega)
  exact ⟨_, a3, lQ 0 _ _ _ _ _ ⟨_, _, _, h1, fun _ => ⟨_, _, _, g1, _, _, _, q1, rfl, rfl, rfl⟩, fun h => absurd hr h⟩, q2, by rw [tb1]; omega⟩
 ·obtain ⟨s, a2, g1, g2, g3⟩ := gp h3 [[102], [103], [104]] (by decide) (by decide)
  have hs := fy g2 (by decide)
  obtain ⟨n, a3, g4, g5, g6⟩ := dO g3 (n := 4) (by omega) (by omega)
  have loop : ∀ (k : Nat) (a : Int) (l : List Tree), Dc L a → l.length + k ≤ 100 → Gt L (fun t a' => fZ (k + 1) s L a l (k : Int) t L a') (s.length + 1 + kbulk l + k * 13 + 429) := fun k => by
   induction k with
   | zero =>
    intro a l hd hl
    obtain ⟨t1, b1, q1, q2, q3⟩ := yd 1 hd (by omega)
    obtain ⟨t2, b2, q4, q5, q6⟩ := Ds 3 q2 (by omega)
    have : eB 3 = 422 := rfl
    refine ⟨_, b2, lD 0 _ _ _ _ _ _ _ _ ⟨fun h => by omega, fun _ => ⟨_, _, _, q1, _, _, _, q4, by simp; omega, rfl, rfl, rfl⟩⟩, q5, ?_⟩
    rw [tbK, dr]; simp only [kbulk]; omega
   | succ k ihk =>
    intro a l hd hl
    obtain ⟨x, b0, q0, q0', q0''⟩ := gp hd [[120], [121], [122]] (by decide) (by decide)
    have hx := fy q0' (by decide)
    obtain ⟨t, b, q1, q2, q3⟩ := yd 1 q0'' (by omega)
    refine (ihk b (l ++ [.node 4 x [] [t]]) q2 (by simp; omega)).map ?_ fun t' a' h => lD (k + 1) _ _ _ _ _ _ _ _ ⟨fun _ => ⟨_, _, _, q0, _, _, _, q1, by simp; omega, by omega, by rw [show ((k + 1 : Nat) : Int) - 1 = (k : Int) by omega]; exact h⟩, fun h => by omega⟩
    rw [dr]; simp only [kbulk, tb1]; omega
  exact (loop n.toNat a3 [] g6 (by simp; omega)).map (by simp only [kbulk]; omega) fun t a' h => lQ (n.toNat + 1) _ _ _ _ _ ⟨_, _, _, h1, fun h => absurd h hr, fun _ => ⟨_, _, _, g1, _, _, _, g4, by rw [show n = ((n.toNat : Nat) : Int) by omega]; exact h⟩⟩
def Sh (l : List (List UInt8)) (n : Nat) : Prop := l.length = n ∧ ∀ x ∈ l, x.length ≤ 2
theorem Sh.sum : ∀ {l : List (List UInt8)} {n : Nat}, Sh l n → lsum l ≤ 3 * n
 | [], n, h => by simp [lsum]
 | x :: r, n, h => by
  obtain ⟨h1, h2⟩ := h
  have := h2 x (by simp)
  have := Sh.sum (l := r) (n := n - 1) ⟨by simp at h1; omega, fun y hy => h2 y (by simp [hy])⟩
  simp only [lsum]; simp at h1; omega
theorem Sh.set {l : List (List UInt8)} {n i : Nat} {x : List UInt8} (h : Sh l n) (hx : x.length ≤ 2) : Sh (l.set i x) n := ⟨by simpa using h.1, fun y hy => by
 rcases List.mem_or_eq_of_mem_set hy with h1 | h1
 ·exact h.2 y h1
 ·subst h1; exact hx⟩
theorem Sh.get {l : List (List UInt8)} {n i : Nat} (h : Sh l n) (hi : i < n) : ∃ s, l[i]? = some s := by
 obtain ⟨s, hs, _⟩ | h' := bd l i
 ·exact ⟨s, hs⟩
 ·have := h.1; omega
theorem AQ {n : Int} (h0 : 0 ≤ n) (h1 : n ≤ 100000000) : ∃ l, gL n l ∧ Sh l n.toNat := by
 have loop : ∀ k i (l : List (List UInt8)), n.toNat - i ≤ k → i ≤ n.toNat → Sh l i → ∃ r, dT (k + 1) n l i r ∧ Sh r n.toNat := fun k => by
  induction k with
  | zero => intro i l hi hle hl; exact ⟨l, fW 0 _ _ _ _ ⟨fun h => by omega, fun _ => rfl⟩, by rw [show n.toNat = i by omega]; exact hl⟩
  | succ k ihk =>
   intro i l hi hle hl
   by_cases h : (i : Int) < n
   ·obtain ⟨r, e, hr⟩ := ihk (i + 1) (l ++ [[32]]) (by omega) (by omega) ⟨by simp [hl.1], fun x hx => by
     rcases List.mem_append.1 hx with h1 | h1
     ·exact hl.2 x h1
     ·simp at h1; subst h1; simp⟩
    exact ⟨r, fW (k + 1) _ _ _ _ ⟨fun _ => ⟨by simp [hl.1]; omega, by omega, e⟩, fun h' => absurd h h'⟩, hr⟩
   ·exact ⟨l, fW (k + 1) _ _ _ _ ⟨fun h' => absurd h' h, fun _ => rfl⟩, by rw [show n.toNat = i by omega]; exact hl⟩
 obtain ⟨r, e, hr⟩ := loop n.toNat 0 [] (by omega) (by omega) ⟨rfl, fun x hx => by cases hx⟩
 exact ⟨r, nQ _ _ _ e, hr⟩
def qe (t : Tree) (i : Int) (first : List UInt8) : List UInt8 := if t.kind = 1 then [10, 10] else if 0 < i then [32] else if t.kind = 8 ∨ t.kind = 22 ∨ t.kind = 16 ∨ t.kind = 18 then [] else if t.kind = 2 then (if (2 : Int) < t.kids.length then [] else [32]) else if t.kind = 17 ∨ t.kind = 21 then first else [32]
theorem AI (t : Tree) (i : Int) (first : List UInt8) : gX t i first (qe t i first) := by
 refine nE 1 _ _ _ _ ?_
 repeat' first | (refine And.intro (fun _ => ?_) (fun _ => ?_)) | (refine nr 0 _ _ _ _ ?_)
 all_goals simp_all [qe]
 all_goals (intro h; omega)
theorem xR (t : Tree) (i : Int) (first : List UInt8) (hf : first.length ≤ 2) : (qe t i first).length ≤ 2 := by
 unfold qe
 repeat' split
 all_goals first | exact hf | simp
theorem lu {n : Int} (hn : 0 ≤ n) (a b c : Nat) (z : Int) : f0 n a b c z ≤ b + n := by
 unfold f0; repeat' split
 all_goals omega
theorem DT {k n : Int} (hn : 0 ≤ n) : co k n ≤ 6 + n := by
 have a1 := lu hn 2 6 2 (-1)
 have a2 := lu hn 0 3 0 (-1)
 have a3 := lu hn 1 2 0 (-1)
 have a4 := lu hn 1 3 0 1
 have a5 := lu hn 1 2 0 1
 have a6 := lu hn 1 0 0 1
 have a7 := lu hn 3 3 0 3
 have a8 := lu hn 2 4 0 2
 have a9 := lu hn 2 1 0 2
 have a10 := lu hn 0 1 0 0
 simp only [co]
 repeat' first | omega | split
theorem zC {t : Tree} (hs : shapeK t = true) : (t.kind = 1 → co t.kind t.kids.length = 3) ∧ (t.kind = 2 → 6 ≤ co t.kind t.kids.length) ∧ (t.kind = 4 ∨ t.kind = 8 ∨ t.kind = 22 → co t.kind t.kids.length = 2) ∧ (t.kind ≠ 17 → 1 ≤ co t.kind t.kids.length) := by
 have h := mY hs
 refine ⟨fun hk => ?_, fun hk => ?_, fun hk => ?_, fun hk => ?_⟩
 ·rw [hk]; simp only [co]; simp
 ·rw [hk] at h ⊢; simp only [co, f0] at h ⊢; simp at h ⊢; repeat' split
  all_goals first | omega | (simp_all; omega)
 ·rcases hk with hk | hk | hk <;> (rw [hk] at h ⊢; simp only [co, f0] at h ⊢; simp at h ⊢; repeat' split) <;> first | omega | (simp_all; done) | (simp_all; omega)
 ·have key : ∀ k n : Int, 0 ≤ n → k ≠ 17 → 0 ≤ co k n → 1 ≤ co k n := fun k n hn hk h => by
   have q : ∀ (a b c : Nat) z, 1 ≤ b → f0 n a b c z = -1 ∨ 1 ≤ f0 n a b c z := fun a b c z hb => by
    unfold f0; repeat' split
    all_goals omega
   have a1 := q 2 6 2 (-1) (by decide)
   have a2 := q 0 3 0 (-1) (by decide)
   have a3 := q 1 2 0 (-1) (by decide)
   have a4 := q 1 3 0 1 (by decide)
   have a5 := q 1 2 0 1 (by decide)
   have a7 := q 3 3 0 3 (by decide)
   have a8 := q 2 4 0 2 (by decide)
   have a9 := q 2 1 0 2 (by decide)
   have a10 := q 0 1 0 0 (by decide)
   revert h
   simp only [co]
   repeat' first | (intro h; omega) | split
  exact key _ _ (by omega) hk h
section
variable {t : Tree} {N : Nat} {us : List Tree}
theorem Cc : ∀ k i (l : List (List UInt8)), N - i ≤ k → Sh l N → ∃ l', dJ (k + 1) t l i us (.node t.kind t.text l' us) ∧ Sh l' N := fun k => by
 induction k with
 | zero => intro i l hi hl; exact ⟨l, fi 0 _ _ _ _ _ ⟨fun h => by have := hl.1; omega, fun _ => rfl⟩, hl⟩
 | succ k ihk =>
  intro i l hi hl
  by_cases h : i < l.length
  ·obtain ⟨s, hs⟩ := hl.get (i := i) (by have := hl.1; omega)
   obtain ⟨l', e, h'⟩ := ihk (i + 1) (l.set i []) (by omega) (hl.set (by simp))
   exact ⟨l', fi (k + 1) _ _ _ _ _ ⟨fun _ => ⟨s, hs, e⟩, fun h' => absurd h h'⟩, h'⟩
  ·exact ⟨l, fi (k + 1) _ _ _ _ _ ⟨fun h' => absurd h' h, fun _ => rfl⟩, hl⟩
theorem wA : ∀ k i (l : List (List UInt8)), N - i ≤ k → Sh l N → ∃ l', cM (k + 1) t l i us (.node t.kind t.text l' us) ∧ Sh l' N := fun k => by
 induction k with
 | zero => intro i l hi hl; exact ⟨l, fh 0 _ _ _ _ _ ⟨fun h => by have := hl.1; omega, fun _ => rfl⟩, hl⟩
 | succ k ihk =>
  intro i l hi hl
  by_cases h : i < l.length
  ·obtain ⟨s, hs⟩ := hl.get (i := i) (by have := hl.1; omega)
   obtain ⟨l', e, h'⟩ := ihk (i + 1) (l.set i []) (by omega) (hl.set (by simp))
   exact ⟨l', fh (k + 1) _ _ _ _ _ ⟨fun _ => ⟨s, hs, e⟩, fun h' => absurd h h'⟩, h'⟩
  ·exact ⟨l, fh (k + 1) _ _ _ _ _ ⟨fun h' => absurd h' h, fun _ => rfl⟩, hl⟩
theorem sE (hs : shapeK t = true) (hN : N = (co t.kind t.kids.length).toNat) {l : List (List UInt8)} (hl : Sh l N) : ∃ l', cH (N + 2) t l us (.node t.kind t.text l' us) ∧ Sh l' N := by
 obtain ⟨g1, g2, g3, g4⟩ := zC hs
 have e0 : ([] : List UInt8).length ≤ 2 := by simp
 by_cases h1 : t.kind = 1
 ·have := g1 h1
  obtain ⟨s, hs⟩ := hl.get (i := 2) (by omega)
  exact ⟨_, br (N + 1) _ _ _ _ ⟨fun _ => ⟨s, hs, rfl⟩, fun h => absurd h1 h⟩, hl.set (by simp)⟩
 by_cases h2 : t.kind = 2
 ·have := g2 h2
  have l1 := hl.set (i := 2) e0
  have l2 := l1.set (i := 3) e0
  have l3 := l2.set (i := 4) e0
  obtain ⟨s, hs⟩ := hl.get (i := 2) (by omega)
  obtain ⟨s', hs'⟩ := l1.get (i := 3) (by omega)
  obtain ⟨s2, hs2⟩ := l2.get (i := 4) (by omega)
  obtain ⟨l', e, h'⟩ := Cc (t := t) (us := us) N 6 _ (by omega) l3
  exact ⟨l', br (N + 1) _ _ _ _ ⟨fun h => absurd h h1, fun _ => ⟨fun _ => ⟨s, hs, s', hs', s2, hs2, e⟩, fun h => absurd h2 h⟩⟩, h'⟩
 by_cases h4 : t.kind = 4
 ·have := g3 (by simp [h4])
  obtain ⟨s, hs⟩ := hl.get (i := 1) (by omega)
  exact ⟨_, br (N + 1) _ _ _ _ ⟨fun h => absurd h h1, fun _ => ⟨fun h => absurd h h2, fun _ => ⟨fun _ => ⟨s, hs, rfl⟩, fun h => absurd h4 h⟩⟩⟩, hl.set e0⟩
 by_cases h8 : t.kind = 8
 ·have := g3 (by simp [h8])
  obtain ⟨s, hs⟩ := hl.get (i := 1) (by omega)
  exact ⟨_, br (N + 1) _ _ _ _ ⟨fun h => absurd h h1, fun _ => ⟨fun h => absurd h h2, fun _ => ⟨fun h => absurd h h4, fun _ => ⟨fun _ => ⟨s, hs, rfl⟩, fun h => absurd h8 h⟩⟩⟩⟩, hl.set e0⟩
 by_cases h22 : t.kind = 22
 ·have := g3 (by simp [h22])
  obtain ⟨s, hs⟩ := hl.get (i := 1) (by omega)
  exact ⟨_, br (N + 1) _ _ _ _ ⟨fun h => absurd h h1, fun _ => ⟨fun h => absurd h h2, fun _ => ⟨fun h => absurd h h4, fun _ => ⟨fun h => absurd h h8, fun _ => ⟨fun _ => ⟨s, hs, rfl⟩, fun h => absurd h22 h⟩⟩⟩⟩⟩, hl.set e0⟩
 by_cases h16 : t.kind = 16
 ·obtain ⟨l', e, h'⟩ := wA (t := t) (us := us) N 1 _ (by omega) hl
  exact ⟨l', br (N + 1) _ _ _ _ ⟨fun h => absurd h h1, fun _ => ⟨fun h => absurd h h2, fun _ => ⟨fun h => absurd h h4, fun _ => ⟨fun h => absurd h h8, fun _ => ⟨fun h => absurd h h22, fun _ => ⟨fun _ => e, fun h => absurd h16 h⟩⟩⟩⟩⟩⟩, h'⟩
 by_cases h18 : t.kind = 18
 ·obtain ⟨l', e, h'⟩ := wA (t := t) (us := us) N 1 _ (by omega) hl
  exact ⟨l', br (N + 1) _ _ _ _ ⟨fun h => absurd h h1, fun _ => ⟨fun h => absurd h h2, fun _ => ⟨fun h => absurd h h4, fun _ => ⟨fun h => absurd h h8, fun _ => ⟨fun h => absurd h h22, fun _ => ⟨fun h => absurd h h16, fun _ => ⟨fun _ => e, fun h => absurd h18 h⟩⟩⟩⟩⟩⟩⟩, h'⟩
 ·exact ⟨l, br (N + 1) _ _ _ _ ⟨fun h => absurd h h1, fun _ => ⟨fun h => absurd h h2, fun _ => ⟨fun h => absurd h h4, fun _ => ⟨fun h => absurd h h8, fun _ => ⟨fun h => absurd h h22, fun _ => ⟨fun h => absurd h h16, fun _ => ⟨fun h => absurd h h18, fun _ => rfl⟩⟩⟩⟩⟩⟩⟩, hl⟩
end
theorem nj {l : List Tree} {i : Nat} {u : Tree} (h : l[i]? = some u) : kbulk (l.take (i + 1)) = kbulk (l.take i) + tbulk u := by
 rw [List.take_add_one, h, dr]; simp [kbulk]
theorem zQ : ∀ t : Tree, tbulk t ≤ 1000000 → shapeK t = true → ∀ first, first.length ≤ 2 → ∃ u, dS t first u ∧ tbulk u + 3 ≤ 25 * tbulk t ∧ u.kind = t.kind := ec fun t ih ht hs first hf => by
 have hk := eh t
 have hbt := bD t
 have h0 := mY hs
 have h6 := DT (k := t.kind) (n := (t.kids.length : Int)) (by omega)
 obtain ⟨g1, g2, g3, g4⟩ := zC hs
 obtain ⟨bl, hbl, hsh⟩ := AQ h0 (by omega)
 have loop : ∀ k i (done rest : List Tree), t.kids.length - i ≤ k → done.length = i → i ≤ t.kids.length → rest.length = t.kids.length - i → kbulk done + 3 * i ≤ 25 * kbulk (t.kids.take i) → ∃ M r, cI M t first bl (done ++ rest) i r ∧ tbulk r + 3 ≤ 25 * tbulk t ∧ r.kind = t.kind := fun k => by
  have last : ∀ i (done rest : List Tree), ¬ i < t.kids.length → done.length = i → i ≤ t.kids.length → rest.length = t.kids.length - i → kbulk done + 3 * i ≤ 25 * kbulk (t.kids.take i) → ∃ M r, cI M t first bl (done ++ rest) i r ∧ tbulk r + 3 ≤ 25 * tbulk t ∧ r.kind = t.kind := fun i done rest hi hd hle hr hb => by
   have hr0 : rest = [] := List.length_eq_zero_iff.1 (by omega)
   subst hr0
   rw [List.append_nil]
   rw [List.take_of_length_le (by omega)] at hb
   have fin : ∀ l', Sh l' (co t.kind t.kids.length).toNat → tbulk (.node t.kind t.text l' done) + 3 ≤ 25 * tbulk t ∧ (Tree.node t.kind t.text l' done).kind = t.kind := fun l' hl' => by
    have := hl'.sum
    exact ⟨by simp only [tbulk]; omega, rfl⟩
   by_cases h17 : t.kind = 17
   ·obtain ⟨l', e, h'⟩ := sE (us := done) hs rfl hsh
    exact ⟨_, _, dt _ _ _ _ _ _ _ ⟨fun h => absurd h hi, fun _ => ⟨fun h => absurd h17 h, fun _ => e⟩⟩, fin l' h'⟩
   ·by_cases h21 : t.kind = 21
    ·obtain ⟨l', e, h'⟩ := sE (us := done) hs rfl hsh
     exact ⟨_, _, dt _ _ _ _ _ _ _ ⟨fun h => absurd h hi, fun _ => ⟨fun _ => ⟨fun h => absurd h21 h, fun _ => e⟩, fun h => absurd h h17⟩⟩, fin l' h'⟩
    ·obtain ⟨l', e, h'⟩ := sE (us := done) hs rfl (hsh.set (i := 0) hf)
     have := g4 h17
     obtain ⟨s, hs0⟩ := hsh.get (i := 0) (by omega)
     exact ⟨_, _, dt _ _ _ _ _ _ _ ⟨fun h => absurd h hi, fun _ => ⟨fun _ => ⟨fun _ => ⟨s, hs0, e⟩, fun h => absurd h h21⟩, fun h => absurd h h17⟩⟩, fin l' h'⟩
  induction k with
  | zero => intro i done rest hi hd hle hr hb; exact last i done rest (by omega) hd hle hr hb
  | succ k ihk =>
   intro i done rest hi hd hle hr hb
   obtain ⟨u, hu, hul⟩ | h' := bd t.kids i
   ·have hbu := dP hu
    obtain ⟨v, hv, hvb, _⟩ := ih i u hu (by omega) (dq hs hu).1 _ (xR t i first hf)
    match rest, hr with
    | z :: rest', hr =>
     obtain ⟨M, r, e, hb2⟩ := ihk (i + 1) (done ++ [v]) rest' (by omega) (by simp [hd]) (by omega) (by simp at hr; omega) (by rw [nj hu, dr]; simp only [kbulk]; omega)
     refine ⟨M + 1, r, dt M _ _ _ _ _ _ ⟨fun _ => ⟨u, hu, _, AI t i first, v, hv, z, by simp [← hd], by omega, ?_⟩, fun h => absurd hul h⟩, hb2⟩
     have : (done ++ z :: rest').set i v = done ++ [v] ++ rest' := by simp [← hd]
     rw [this]; exact e
    | [], hr => simp at hr; omega
   ·exact last i done rest h' hd hle hr hb
 obtain ⟨M, r, e, hb⟩ := loop t.kids.length 0 [] (List.replicate t.kids.length (.node 0 [] [] [])) (by omega) rfl (by omega) (by simp) (by simp [kbulk])
 exact ⟨r, nm (M + 1) _ _ _ ⟨_, oa (by omega) (by omega), bl, hbl, mH M _ _ _ _ ⟨by omega, by simpa using e⟩⟩, hb⟩
theorem Ac (t : Tree) (ht : tbulk t ≤ 1000000) : ∃ u, gq t u ∧ tbulk u ≤ 25 * tbulk t ∧ (u.kind = t.kind ∨ u.kind = 0) := by
 have h1 := tq t (by omega)
 have := bu t
 cases hs : shapeK t with
 | false => rw [hs] at h1; exact ⟨.node 0 [] [] [], js 0 _ _ ⟨_, h1, fun _ => rfl, fun h => (by cases h)⟩, by rw [tb0]; simp; omega, .inr rfl⟩
 | true =>
  rw [hs] at h1
  obtain ⟨u, hu, hb, hkk⟩ := zQ t ht hs [] (by simp)
  exact ⟨u, js 0 _ _ ⟨_, h1, fun h => (by cases h), fun _ => ⟨u, hu, rfl⟩⟩, by omega, .inl hkk⟩
theorem uQ : ∀ (l : List (List UInt8)) (i : Nat) (x : List UInt8), lsum (l.set i x) ≤ lsum l + x.length
 | [], i, x => by simp [lsum]
 | y :: r, 0, x => by simp only [List.set_cons_zero, lsum]; omega
 | y :: r, i + 1, x => by have := uQ r i x; simp only [List.set_cons_succ, lsum]; omega
theorem AP {L : List Int} : ∀ t : Tree, tbulk t ≤ 1000000 → ∀ {a : Int}, Dc L a → Gt L (fun u a' => fH L a t u L a' ∧ u.kind = t.kind) (6 * tbulk t) := ec fun t ih ht a hd => by
 have hk := eh t
 have hl := mQ t
 have hbt := bD t
 have kids : ∀ k i (done : List Tree) (ls : List (List UInt8)) (a : Int), t.kids.length - i ≤ k → i ≤ t.kids.length → done.length = i → kbulk done ≤ 6 * kbulk (t.kids.take i) → lsum ls ≤ 6 * lsum t.leads → Dc L a → ∃ M, Gt L (fun u a' => dx M t L a (done ++ t.kids.drop i) i ls u L a' ∧ u.kind = t.kind) (6 * tbulk t) := fun k => by
  have last : ∀ i (done : List Tree) (ls : List (List UInt8)) (a : Int), ¬ i < t.kids.length → i ≤ t.kids.length → done.length = i → kbulk done ≤ 6 * kbulk (t.kids.take i) → lsum ls ≤ 6 * lsum t.leads → Dc L a → ∃ M, Gt L (fun u a' => dx M t L a (done ++ t.kids.drop i) i ls u L a' ∧ u.kind = t.kind) (6 * tbulk t) := fun i done ls a hi hle hdn hb hls hd => by
   rw [List.drop_of_length_le (by omega), List.append_nil]
   rw [List.take_of_length_le (by omega)] at hb
   exact ⟨1, _, a, ⟨jV 0 _ _ _ _ _ _ _ _ _ ⟨fun h => absurd h (by omega), fun _ => ⟨rfl, rfl, rfl⟩⟩, rfl⟩, hd, by simp only [tbulk]; omega⟩
  induction k with
  | zero => intro i done ls a hi hle hdn hb hls hd; exact last i done ls a (by omega) hle hdn hb hls hd
  | succ k ihk =>
   intro i done ls a hi hle hdn hb hls hd
   obtain ⟨u, hu, hul⟩ | h' := bd t.kids i
   ·have hbu := dP hu
    obtain ⟨v, a1, ⟨q1, _⟩, q2, q3⟩ := ih i u hu (by omega) hd
    obtain ⟨M, hM⟩ := ihk (i + 1) (done ++ [v]) ls a1 (by omega) (by omega) (by simp [hdn]) (by rw [nj hu, dr]; simp only [kbulk]; omega) hls q2
    have hg : (done ++ t.kids.drop i)[i]? = some u := by rw [List.getElem?_append_right (by omega), hdn]; simpa using hu
    refine ⟨M + 1, hM.map (Nat.le_refl _) fun w b ⟨h, hw⟩ => ⟨jV M _ _ _ _ _ _ _ _ _ ⟨fun _ => ⟨u, hg, _, _, _, q1, u, hg, ?_⟩, fun h' => absurd (by simp [hdn]; omega) h'⟩, hw⟩⟩
    have : (done ++ t.kids.drop i).set i v = done ++ [v] ++ t.kids.drop (i + 1) := by rw [dD hu]; simp [← hdn]
    rw [this]; exact h
   ·exact last i done ls a h' hle hdn hb hls hd
 have lead : ∀ k i (ls : List (List UInt8)) (a : Int), t.leads.length - i ≤ k → i ≤ t.leads.length → ls.length = t.leads.length → lsum ls ≤ lsum t.leads + 5 * i → Dc L a → ∃ M, Gt L (fun u a' => cw M t L a ls i u L a' ∧ u.kind = t.kind) (6 * tbulk t) := fun k => by
  have hll := gN t.leads
  have last : ∀ i (ls : List (List UInt8)) (a : Int), ¬ i < t.leads.length → i ≤ t.leads.length → ls.length = t.leads.length → lsum ls ≤ lsum t.leads + 5 * i → Dc L a → ∃ M, Gt L (fun u a' => cw M t L a ls i u L a' ∧ u.kind = t.kind) (6 * tbulk t) := fun i ls a hi hle hlen hb hd => by
   obtain ⟨M, hM⟩ := kids t.kids.length 0 [] ls a (by omega) (by omega) rfl (by simp [kbulk]) (by omega) hd
   exact ⟨M + 1, hM.map (Nat.le_refl _) fun w b ⟨h, hw⟩ => ⟨gP M _ _ _ _ _ _ _ _ ⟨fun h' => absurd h' (by omega), fun _ => ⟨by omega, by simpa using h⟩⟩, hw⟩⟩
  induction k with
  | zero => intro i ls a hi hle hlen hb hd; exact last i ls a (by omega) hle hlen hb hd
  | succ k ihk =>
   intro i ls a hi hle hlen hb hd
   obtain ⟨x, hx, hxl⟩ | h' := bd ls i
   ·obtain ⟨n, a1, h1, h2, h3⟩ := dO hd (n := 9) (by omega) (by omega)
    by_cases hn : n = 1
    ·obtain ⟨s, a2, g1, g2, g3⟩ := gp h3 [[32, 35, 32, 99, 10], [32, 32], [10, 9], [35, 10]] (by decide) (by decide)
     have hs5 := fy g2 (by decide)
     have := uQ ls i s
     obtain ⟨M, hM⟩ := ihk (i + 1) (ls.set i s) a2 (by omega) (by omega) (by simpa using hlen) (by omega) g3
     exact ⟨M + 1, hM.map (Nat.le_refl _) fun w b ⟨h, hw⟩ => ⟨gP M _ _ _ _ _ _ _ _ ⟨fun _ => ⟨_, _, _, h1, fun _ => ⟨_, _, _, g1, x, hx, h⟩, fun h' => absurd hn h'⟩, fun h' => absurd hxl h'⟩, hw⟩⟩
    ·obtain ⟨M, hM⟩ := ihk (i + 1) ls a1 (by omega) (by omega) hlen (by omega) h3
     exact ⟨M + 1, hM.map (Nat.le_refl _) fun w b ⟨h, hw⟩ => ⟨gP M _ _ _ _ _ _ _ _ ⟨fun _ => ⟨_, _, _, h1, fun h' => absurd h' hn, fun _ => h⟩, fun h' => absurd hxl h'⟩, hw⟩⟩
   ·exact last i ls a (by omega) hle hlen hb hd
 obtain ⟨M, hM⟩ := lead t.leads.length 0 t.leads a (by omega) (by omega) rfl (by omega) hd
 exact hM.map (Nat.le_refl _) fun w b ⟨h, hw⟩ => ⟨pg M _ _ _ _ _ _ ⟨by omega, h⟩, hw⟩
theorem Aj {L : List Int} {a : Int} (hd : Dc L a) (name : List UInt8) (hname : name.length ≤ 5) : Gt L (fun t a' => hU L a name t L a' ∧ (t.kind = 1 ∨ t.kind = 0)) 300000 := by
 obtain ⟨n, a1, h1, h2, h3⟩ := dO hd (n := 4) (by omega) (by omega)
 have loop : ∀ (k : Nat) (a : Int) (l : List Tree), Dc L a → l.length + k ≤ 100 → kbulk l + k * 500 ≤ 1500 → Gt L (fun t a' => eI (k + 1) name L a l (k : Int) t L a' ∧ (t.kind = 1 ∨ t.kind = 0)) 300000 := fun k => by
  induction k with
  | zero =>
   intro a l hd hl hb
   have ht : tbulk (.node 1 name [] l) ≤ 1506 := by rw [tbK]; omega
   obtain ⟨u, hu, hub, huk⟩ := Ac (.node 1 name [] l) (by omega)
   obtain ⟨z, a2, g1, g2, g3⟩ := dO hd (n := 2) (by omega) (by omega)
   by_cases hz : z = 0
   ·exact (AP u (by omega) g3).map (by omega) fun w b ⟨h, hw⟩ => ⟨gz 0 _ _ _ _ _ _ _ _ ⟨fun h' => by omega, fun _ => ⟨u, hu, _, _, _, g1, fun _ => ⟨_, _, _, h, rfl, rfl, rfl⟩, fun h' => absurd hz h'⟩⟩, by rw [hw]; exact huk⟩
   ·exact ⟨u, a2, ⟨gz 0 _ _ _ _ _ _ _ _ ⟨fun h' => by omega, fun _ => ⟨u, hu, _, _, _, g1, fun h' => absurd h' hz, fun _ => ⟨rfl, rfl, rfl⟩⟩⟩, huk⟩, g3, by omega⟩
  | succ k ihk =>
   intro a l hd hl hb
   obtain ⟨t, b, q1, q2, q3⟩ := Ei hd
   exact (ihk b (l ++ [t]) q2 (by simp; omega) (by rw [dr]; simp only [kbulk]; omega)).map (Nat.le_refl _) fun w c ⟨h, hw⟩ => ⟨gz (k + 1) _ _ _ _ _ _ _ _ ⟨fun _ => ⟨_, _, _, q1, by simp; omega, by omega, by rw [show ((k + 1 : Nat) : Int) - 1 = (k : Int) by omega]; exact h⟩, fun h => by omega⟩, hw⟩
 exact (loop n.toNat a1 [] h3 (by simp; omega) (by simp only [kbulk]; omega)).map (Nat.le_refl _) fun w b ⟨h, hw⟩ => ⟨om (n.toNat + 1) _ _ _ _ _ _ ⟨_, _, _, h1, by rw [show n = ((n.toNat : Nat) : Int) by omega]; exact h⟩, hw⟩
def Mok (p : List Tree) : Prop := ∀ t ∈ p, t.kind = 1 ∧ shapeK t = true ∧ leadedT t = true ∧ (eD t).length ≤ 4096
theorem xy (l : List Int) (hl : l.length ≤ 1000000) : ∃ p, gH l p ∧ kbulk p ≤ 1000000 ∧ Mok p := by
 have hd0 : Dc l 0 := ⟨by omega, by omega, by omega⟩
 obtain ⟨n, a1, h1, h2, h3⟩ := dO hd0 (n := 4) (by omega) (by omega)
 have loop : ∀ (k : Nat) (a : Int) (p : List Tree), Dc l a → p.length + k ≤ 3 → kbulk p + k * 300001 ≤ 900003 → Mok p → ∃ r, bn (k + 1) l a p (k : Int) r ∧ kbulk r ≤ 900003 ∧ Mok r := fun k => by
  induction k with
  | zero => intro a p hd hp hb hmk; exact ⟨p, fX 0 _ _ _ _ _ ⟨fun h => by omega, fun _ => rfl⟩, by omega, hmk⟩
  | succ k ihk =>
   intro a p hd hp hb hmk
   have hb2 : kbulk p + k * 300001 + 300001 ≤ 900003 := Nat.le_trans (Nat.le_of_eq (by rw [Nat.succ_mul, Nat.add_assoc])) hb
   have hb3 : kbulk p + k * 300001 ≤ 900003 := Nat.le_trans (Nat.le_add_right _ _) hb2
   obtain ⟨x, hx, _⟩ | h' := bd [[(65 : UInt8)], [66], [67]] p.length
   rotate_left
   ·simp at h'; omega
   have hx5 : x.length ≤ 5 := fy (List.mem_of_getElem? hx) (by decide)
   obtain ⟨t, a2, ⟨q1, qk⟩, q2, q3⟩ := Aj hd x hx5
   obtain ⟨z, a3, g1, g2, g3⟩ := dO q2 (n := 8) (by omega) (by omega)
   have step : ∀ u : Tree, tbulk u ≤ 300001 → (u.kind = 1 ∨ u.kind = 0) → ∃ b r, dA u b ∧ ((b = true) → (p ++ [u]).length ≤ 1000000000 ∧ InI (((k + 1 : Nat) : Int) - 1) ∧ bn (k + 1) l a3 (p ++ [u]) (((k + 1 : Nat) : Int) - 1) r) ∧ ((b = false) → InI (((k + 1 : Nat) : Int) - 1) ∧ bn (k + 1) l a3 p (((k + 1 : Nat) : Int) - 1) r) ∧ kbulk r ≤ 900003 ∧ Mok r := fun u hu huk => by
    obtain ⟨b, hb', hbs⟩ := Bf u (by omega)
    have e : ((k + 1 : Nat) : Int) - 1 = (k : Int) := by omega
    rw [e]
    cases b with
    | true =>
     have hus := hbs rfl
     have hu1 : u.kind = 1 := by
      rcases huk with h | h
      ·exact h
      ·have := mY hus.1; rw [h] at this; simp [co] at this
     obtain ⟨r, hr, hrb⟩ := ihk a3 (p ++ [u]) g3 (by simp; omega) (by clear hb; rw [dr]; simp only [kbulk]; omega) (fun t ht => by
      rcases List.mem_append.1 ht with h | h
      ·exact hmk t h
      ·rw [List.mem_singleton] at h; subst h; exact ⟨hu1, hus⟩)
     exact ⟨true, r, hb', fun _ => ⟨by simp; omega, by omega, hr⟩, fun h => (by cases h), hrb⟩
    | false =>
     obtain ⟨r, hr, hrb⟩ := ihk a3 p g3 (by omega) hb3 hmk
     exact ⟨false, r, hb', fun h => (by cases h), fun _ => ⟨by omega, hr⟩, hrb⟩
   by_cases hz : z = 7
   ·have hub : tbulk (.node t.kind [65] t.leads t.kids) ≤ 300001 := by have := bD t; simp only [tbulk, List.length_cons, List.length_nil]; omega
    obtain ⟨b, r, e1, e2, e3, e4⟩ := step _ hub qk
    exact ⟨r, fX (k + 1) _ _ _ _ _ ⟨fun _ => ⟨x, hx, _, _, _, q1, _, _, _, g1, fun _ => ⟨b, e1, e2, e3⟩, fun h => absurd hz h⟩, fun h => by omega⟩, e4⟩
   ·obtain ⟨b, r, e1, e2, e3, e4⟩ := step t (by omega) qk
    exact ⟨r, fX (k + 1) _ _ _ _ _ ⟨fun _ => ⟨x, hx, _, _, _, q1, _, _, _, g1, fun h => absurd h hz, fun _ => ⟨b, e1, e2, e3⟩⟩, fun h => by omega⟩, e4⟩
 obtain ⟨r, hr, hrb, hrm⟩ := loop n.toNat a1 [] h3 (by simp; omega) (by simp only [kbulk]; omega) (fun t h => by cases h)
 exact ⟨r, nM (n.toNat + 1) _ _ ⟨_, _, pJ 0 _ _ _ ⟨by omega, rfl, rfl⟩, _, _, _, h1, by rw [show n = ((n.toNat : Nat) : Int) by omega]; exact hr⟩, by omega, hrm⟩
end Go.Proofs.YtgpcdfbmbcognaaGreat
namespace Go.Proofs.YtgpcdfbmbcognaaGreat
open Go.RowKit Lx Sx
set_option maxRecDepth 100000
set_option maxHeartbeats 1000000
def wY : List UInt8 := [109, 111, 100, 117, 108, 101, 32, 77, 32, 100, 101, 102, 32, 102, 40, 120, 58, 32, 73, 110, 116, 41, 58, 32, 73, 110, 116, 32, 61, 32, 120, 32, 43, 32, 49, 32, 35, 32, 101, 110, 100]
def jz : Tree := (DE wY).1
end Go.Proofs.YtgpcdfbmbcognaaGreat
