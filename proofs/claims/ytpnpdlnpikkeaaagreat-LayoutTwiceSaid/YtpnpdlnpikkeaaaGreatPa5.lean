/- Contracts of the functions that the law reaches, part 5. -/
import Derived.Test.YtpnpdlnpikkeaaaGreatPa4
set_option linter.unusedVariables false
set_option linter.unusedSimpArgs false
namespace Go.Proofs.YtpnpdlnpikkeaaaGreat
open Go.RowKit Lx Sx
set_option maxHeartbeats 2000000
theorem BM (a b : List UInt8) (ha : a.length ≤ 140737488355328) (hb : b.length ≤ 140737488355328) : lN a b (fusesT a b) := sum0_calls rfl rfl fun S w ρ xs hx => by
 simp only [LRel] at hx
 obtain ⟨x, ys, rfl, h1, y, zs, rfl, h2, rfl⟩ := hx
 simp only [VRel] at h1 h2; subst h1 h2
 exact (El a b w ha hb).mono fun e w' ⟨h1, h2⟩ => ⟨_, h1, by simp only [VRel], xk h2⟩
theorem nT (a : List UInt8) (f : Bool) (ha : a.length ≤ 140737488351232) : iA a f (aU false a f) := sum0_calls rfl rfl fun S w ρ xs hx => by
 simp only [LRel] at hx
 obtain ⟨x, ys, rfl, h1, y, zs, rfl, h2, rfl⟩ := hx
 simp only [VRel] at h1 h2; subst h1 h2
 exact (CK a f w (by omega)).mono fun e w' ⟨h1, h2⟩ => ⟨_, h1, by simp only [VRel], h2 ▸ Chg.refl _ _⟩
abbrev Pce := aa
def Qp (l : List Pce) : Prop := ∀ x ∈ l, x.Lead.length ≤ 2000000 ∧ x.Text.length ≤ 2000010
theorem bR {a b : List Pce} : Qp (a ++ b) ↔ Qp a ∧ Qp b := ⟨fun h => ⟨fun x hx => h x (by simp [hx]), fun x hx => h x (by simp [hx])⟩, fun h x hx => by rcases List.mem_append.1 hx with h1 | h1; exact h.1 x h1; exact h.2 x h1⟩
theorem bw {x : Pce} {a : List Pce} : Qp (x :: a) ↔ (x.Lead.length ≤ 2000000 ∧ x.Text.length ≤ 2000010) ∧ Qp a := ⟨fun h => ⟨h x (by simp), fun y hy => h y (by simp [hy])⟩, fun h y hy => by rcases List.mem_cons.1 hy with h1 | h1; subst h1; exact h.1; exact h.2 y h1⟩
theorem bL : Qp [] := fun x hx => by cases hx
theorem bh {t : Tree} (k : Nat) (ht : tbulk t ≤ 2000000) : ∃ s, ah t (k : Int) s ∧ s.length ≤ 2000000 ∧ s = t.leads.getD k [] := by
 by_cases h : (k : Int) < (t.leads.length : Nat)
 ·obtain ⟨s, hs, _⟩ | h' := aH t.leads k
  ·have := np hs
   have := bu t
   exact ⟨s, lQ 0 _ _ _ ⟨fun _ => ⟨k, rfl, s, hs, rfl⟩, fun h' => absurd h h'⟩, by omega, by rw [List.getD_eq_getElem?_getD, hs]; rfl⟩
  ·omega
 ·exact ⟨[], lQ 0 _ _ _ ⟨fun h' => absurd h' h, fun _ => rfl⟩, by simp, by rw [List.getD_eq_getElem?_getD, List.getElem?_eq_none (by omega)]; rfl⟩
def jn (ls : List (List UInt8)) (c : Nat) : List (List (List UInt8)) → Nat → List (List UInt8)
 | [], _ => []
 | f :: r, i => (if 0 < i then [ls.getD (c + i - 1) []] else []) ++ (f ++ jn ls c r (i + 1))
def bN (k : Int) (ls : List (List UInt8)) (fs : List (List (List UInt8))) : List (List UInt8) :=
 if k = 1 then ls.getD 0 [] :: ls.getD 1 [] :: (fs.flatten ++ [ls.getD 2 []])
 else if k = 2 then ls.getD 0 [] :: ls.getD 1 [] :: ls.getD 2 [] :: (jn ls 6 (fs.take (fs.length - 2)) 0 ++ (ls.getD 3 [] :: ls.getD 4 [] :: (fs.getD (fs.length - 2) [] ++ (ls.getD 5 [] :: fs.getD (fs.length - 1) []))))
 else if k = 3 then ls.getD 0 [] :: ls.getD 1 [] :: ls.getD 2 [] :: fs.getD 0 []
 else if k = 4 then ls.getD 0 [] :: ls.getD 1 [] :: fs.getD 0 []
 else if k = 17 then fs.getD 0 []
 else if k = 8 then ls.getD 0 [] :: (fs.getD 0 [] ++ [ls.getD 1 []])
 else if k = 16 then ls.getD 0 [] :: ls.getD 1 [] :: (jn ls 3 fs 0 ++ [ls.getD 2 []])
 else if k = 18 then ls.getD 0 [] :: (jn ls 2 fs 0 ++ [ls.getD 1 []])
 else if k = 19 then ls.getD 0 [] :: (fs.getD 0 [] ++ (ls.getD 1 [] :: (fs.getD 1 [] ++ (ls.getD 2 [] :: fs.getD 2 []))))
 else if k = 20 then ls.getD 0 [] :: ls.getD 1 [] :: ls.getD 2 [] :: (fs.getD 0 [] ++ (ls.getD 3 [] :: fs.getD 1 []))
 else if k = 21 then fs.getD 0 [] ++ (ls.getD 0 [] :: fs.getD 1 [])
 else if k = 22 then ls.getD 0 [] :: (fs.getD 0 [] ++ [ls.getD 1 []])
 else [ls.getD 0 []]
mutual
def ldT : Tree → List (List UInt8)
 | .node k _ ls ks => bN k ls (ldTs ks)
def ldTs : List Tree → List (List (List UInt8))
 | [] => []
 | t :: r => ldT t :: ldTs r
end
theorem dl (t : Tree) : ldT t = bN t.kind t.leads (ldTs t.kids) := by cases t; simp only [ldT]; rfl
theorem nt : ∀ ks : List Tree, ldTs ks = ks.map ldT
 | [] => rfl
 | t :: r => by simp [ldTs, nt r]
theorem dq {ks : List Tree} {i : Nat} {u : Tree} (h : ks[i]? = some u) : (ldTs ks)[i]? = some (ldT u) := by rw [nt, List.getElem?_map, h]; rfl
theorem pn (ks : List Tree) : (ldTs ks).length = ks.length := by rw [nt, List.length_map]
theorem zN (ks : List Tree) (n : Nat) : ldTs (ks.take n) = (ldTs ks).take n := by rw [nt, nt, List.map_take]
def Pok (t : Tree) : Prop := ∀ l, l.length + 8 * tbulk t ≤ 900000000 → ∃ r, ai l t r ∧ r.length + 1 ≤ l.length + 8 * tbulk t ∧ (Qp l → Qp r) ∧ r.map (·.Lead) = l.map (·.Lead) ++ ldT t
theorem rv {k n : Int} : ∀ {l : List Tree} {i : Nat}, shapeKs k n i l = true → ∀ j u, l[j]? = some u → mT k n ((i + j : Nat) : Int) u.kind = true ∧ shapeK u = true
 | [], _, _, j, u, h => by simp at h
 | t :: r, i, hs, 0, u, h => by
  simp only [shapeKs, Bool.and_eq_true] at hs
  simp at h; subst h
  exact ⟨hs.1.1, hs.1.2⟩
 | t :: r, i, hs, j + 1, u, h => by
  simp only [shapeKs, Bool.and_eq_true] at hs
  have := rv hs.2 j u (by simpa using h)
  rw [show i + 1 + j = i + (j + 1) by omega] at this
  exact this
theorem kQ {t u : Tree} {i : Nat} (hs : shapeK t = true) (hu : t.kids[i]? = some u) : shapeK u = true ∧ mT t.kind t.kids.length i u.kind = true := by
 rw [nU] at hs
 simp only [Bool.and_eq_true] at hs
 have := rv hs.2 i u hu
 rw [Nat.zero_add] at this
 exact ⟨this.2, this.1⟩
theorem kR {t : Tree} (hs : shapeK t = true) : 0 ≤ bb t.kind t.kids.length := by
 rw [nU] at hs
 simp only [Bool.and_eq_true, decide_eq_true_eq] at hs
 exact hs.1.1
theorem fw {t : Tree} (hs : shapeK t = true) : (t.kind = 2 → 2 ≤ t.kids.length) ∧ (t.kind = 18 → 1 ≤ t.kids.length) ∧ (t.kind = 3 ∨ t.kind = 4 ∨ t.kind = 8 ∨ t.kind = 17 ∨ t.kind = 22 → t.kids.length = 1) ∧ (t.kind = 19 → t.kids.length = 3) ∧ (t.kind = 20 ∨ t.kind = 21 → t.kids.length = 2) := by
 have h := kR hs
 refine ⟨fun hk => ?_, fun hk => ?_, fun hk => ?_, fun hk => ?_, fun hk => ?_⟩
 ·rw [hk] at h; simp only [bb, f0] at h; simp at h; omega
 ·rw [hk] at h; simp only [bb, f0] at h; simp at h; omega
 ·rcases hk with hk | hk | hk | hk | hk <;> (rw [hk] at h; simp only [bb, f0] at h; simp at h; omega)
 ·rw [hk] at h; simp only [bb, f0] at h; simp at h; omega
 ·rcases hk with hk | hk <;> (rw [hk] at h; simp only [bb, f0] at h; simp at h; omega)
theorem dn1 {l r : List Pce} {t : Tree} (M : Nat) (hk : t.kind ∉ [(1 : Int)]) (h : gZ M l t r) : ai l t r := kY M _ _ _ ⟨fun e => absurd (by simp [e]) hk, fun _ => h⟩
theorem dn2 {l r : List Pce} {t : Tree} (M : Nat) (hk : t.kind ∉ [(1 : Int), 2]) (h : hD M l t r) : ai l t r := dn1 (M + 1) (fun e => hk (by simp only [List.mem_cons, List.not_mem_nil, or_false] at e ⊢; omega)) (km M _ _ _ ⟨fun e => absurd (by simp [e]) hk, fun _ => h⟩)
theorem dn3 {l r : List Pce} {t : Tree} (M : Nat) (hk : t.kind ∉ [(1 : Int), 2, 3]) (h : ij M l t r) : ai l t r := dn2 (M + 1) (fun e => hk (by simp only [List.mem_cons, List.not_mem_nil, or_false] at e ⊢; omega)) (kf M _ _ _ ⟨fun e => absurd (by simp [e]) hk, fun _ => h⟩)
theorem dn4 {l r : List Pce} {t : Tree} (M : Nat) (hk : t.kind ∉ [(1 : Int), 2, 3, 4]) (h : ib M l t r) : ai l t r := dn3 (M + 1) (fun e => hk (by simp only [List.mem_cons, List.not_mem_nil, or_false] at e ⊢; omega)) (kc M _ _ _ ⟨fun e => absurd (by simp [e]) hk, fun _ => h⟩)
theorem dn5 {l r : List Pce} {t : Tree} (M : Nat) (hk : t.kind ∉ [(1 : Int), 2, 3, 4, 5]) (h : hJ M l t r) : ai l t r := dn4 (M + 1) (fun e => hk (by simp only [List.mem_cons, List.not_mem_nil, or_false] at e ⊢; omega)) (kq M _ _ _ ⟨fun e => absurd (by simp [e]) hk, fun _ => h⟩)
theorem dn6 {l r : List Pce} {t : Tree} (M : Nat) (hk : t.kind ∉ [(1 : Int), 2, 3, 4, 5, 6]) (h : gK M l t r) : ai l t r := dn5 (M + 1) (fun e => hk (by simp only [List.mem_cons, List.not_mem_nil, or_false] at e ⊢; omega)) (kA M _ _ _ ⟨fun e => absurd (by simp [e]) hk, fun _ => h⟩)
theorem dn7 {l r : List Pce} {t : Tree} (M : Nat) (hk : t.kind ∉ [(1 : Int), 2, 3, 4, 5, 6, 7]) (h : gM M l t r) : ai l t r := dn6 (M + 1) (fun e => hk (by simp only [List.mem_cons, List.not_mem_nil, or_false] at e ⊢; omega)) (jS M _ _ _ ⟨fun e => absurd (by simp [e]) hk, fun _ => h⟩)
theorem dn8 {l r : List Pce} {t : Tree} (M : Nat) (hk : t.kind ∉ [(1 : Int), 2, 3, 4, 5, 6, 7, 13]) (h : gv M l t r) : ai l t r := dn7 (M + 1) (fun e => hk (by simp only [List.mem_cons, List.not_mem_nil, or_false] at e ⊢; omega)) (jO M _ _ _ ⟨fun e => absurd (by simp [e]) hk, fun _ => h⟩)
theorem dn9 {l r : List Pce} {t : Tree} (M : Nat) (hk : t.kind ∉ [(1 : Int), 2, 3, 4, 5, 6, 7, 13, 14]) (h : gy M l t r) : ai l t r := dn8 (M + 1) (fun e => hk (by simp only [List.mem_cons, List.not_mem_nil, or_false] at e ⊢; omega)) (jR M _ _ _ ⟨fun e => absurd (by simp [e]) hk, fun _ => h⟩)
theorem Et {l r : List Pce} {t : Tree} (M : Nat) (hk : t.kind ∉ [(1 : Int), 2, 3, 4, 5, 6, 7, 13, 14, 15]) (h : gE M l t r) : ai l t r := dn9 (M + 1) (fun e => hk (by simp only [List.mem_cons, List.not_mem_nil, or_false] at e ⊢; omega)) (jK M _ _ _ ⟨fun e => absurd (by simp [e]) hk, fun _ => h⟩)
theorem EM {l r : List Pce} {t : Tree} (M : Nat) (hk : t.kind ∉ [(1 : Int), 2, 3, 4, 5, 6, 7, 13, 14, 15, 8]) (h : gq M l t r) : ai l t r := Et (M + 1) (fun e => hk (by simp only [List.mem_cons, List.not_mem_nil, or_false] at e ⊢; omega)) (jT M _ _ _ ⟨fun e => absurd (by simp [e]) hk, fun _ => h⟩)
theorem EB {l r : List Pce} {t : Tree} (M : Nat) (hk : t.kind ∉ [(1 : Int), 2, 3, 4, 5, 6, 7, 13, 14, 15, 8, 16]) (h : gG M l t r) : ai l t r := EM (M + 1) (fun e => hk (by simp only [List.mem_cons, List.not_mem_nil, or_false] at e ⊢; omega)) (jI M _ _ _ ⟨fun e => absurd (by simp [e]) hk, fun _ => h⟩)
theorem DW {l r : List Pce} {t : Tree} (M : Nat) (hk : t.kind ∉ [(1 : Int), 2, 3, 4, 5, 6, 7, 13, 14, 15, 8, 16, 17]) (h : gL M l t r) : ai l t r := EB (M + 1) (fun e => hk (by simp only [List.mem_cons, List.not_mem_nil, or_false] at e ⊢; omega)) (jJ M _ _ _ ⟨fun e => absurd (by simp [e]) hk, fun _ => h⟩)
theorem DG {l r : List Pce} {t : Tree} (M : Nat) (hk : t.kind ∉ [(1 : Int), 2, 3, 4, 5, 6, 7, 13, 14, 15, 8, 16, 17, 18]) (h : gz M l t r) : ai l t r := DW (M + 1) (fun e => hk (by simp only [List.mem_cons, List.not_mem_nil, or_false] at e ⊢; omega)) (jF M _ _ _ ⟨fun e => absurd (by simp [e]) hk, fun _ => h⟩)
theorem DK {l r : List Pce} {t : Tree} (M : Nat) (hk : t.kind ∉ [(1 : Int), 2, 3, 4, 5, 6, 7, 13, 14, 15, 8, 16, 17, 18, 19]) (h : gA M l t r) : ai l t r := DG (M + 1) (fun e => hk (by simp only [List.mem_cons, List.not_mem_nil, or_false] at e ⊢; omega)) (jM M _ _ _ ⟨fun e => absurd (by simp [e]) hk, fun _ => h⟩)
theorem DP {l r : List Pce} {t : Tree} (M : Nat) (hk : t.kind ∉ [(1 : Int), 2, 3, 4, 5, 6, 7, 13, 14, 15, 8, 16, 17, 18, 19, 20]) (h : gn M l t r) : ai l t r := DK (M + 1) (fun e => hk (by simp only [List.mem_cons, List.not_mem_nil, or_false] at e ⊢; omega)) (jP M _ _ _ ⟨fun e => absurd (by simp [e]) hk, fun _ => h⟩)
theorem DN {l r : List Pce} {t : Tree} (M : Nat) (hk : t.kind ∉ [(1 : Int), 2, 3, 4, 5, 6, 7, 13, 14, 15, 8, 16, 17, 18, 19, 20, 21]) (h : gI M l t r) : ai l t r := DP (M + 1) (fun e => hk (by simp only [List.mem_cons, List.not_mem_nil, or_false] at e ⊢; omega)) (jG M _ _ _ ⟨fun e => absurd (by simp [e]) hk, fun _ => h⟩)
theorem p_5 {t : Tree} (hk : t.kind = 5) (ht : tbulk t ≤ 2000000) : Pok t := fun l hl => by
 obtain ⟨s1, g1, b1, x1⟩ := bh 0 ht
 have htp := bz t
 have M := 0
 refine ⟨l ++ [⟨s1, [73, 110, 116]⟩], ?_, by simp; omega, fun hq => by simp only [bR, bw]; exact ⟨hq, ⟨b1, by decide⟩, bL⟩, by simp [dl, bN, hk, x1]⟩
 exact dn4 (M + 2) (by rw [hk]; decide) (kq (M + 1) _ _ _ ⟨fun _ => ⟨_, g1, by simp; omega, rfl⟩, fun h => absurd hk h⟩)
theorem p_6 {t : Tree} (hk : t.kind = 6) (ht : tbulk t ≤ 2000000) : Pok t := fun l hl => by
 obtain ⟨s1, g1, b1, x1⟩ := bh 0 ht
 have htp := bz t
 have M := 0
 refine ⟨l ++ [⟨s1, [84, 101, 120, 116]⟩], ?_, by simp; omega, fun hq => by simp only [bR, bw]; exact ⟨hq, ⟨b1, by decide⟩, bL⟩, by simp [dl, bN, hk, x1]⟩
 exact dn5 (M + 2) (by rw [hk]; decide) (kA (M + 1) _ _ _ ⟨fun _ => ⟨_, g1, by simp; omega, rfl⟩, fun h => absurd hk h⟩)
theorem p_7 {t : Tree} (hk : t.kind = 7) (ht : tbulk t ≤ 2000000) : Pok t := fun l hl => by
 obtain ⟨s1, g1, b1, x1⟩ := bh 0 ht
 have htp := bz t
 have M := 0
 refine ⟨l ++ [⟨s1, [66, 111, 111, 108]⟩], ?_, by simp; omega, fun hq => by simp only [bR, bw]; exact ⟨hq, ⟨b1, by decide⟩, bL⟩, by simp [dl, bN, hk, x1]⟩
 exact dn6 (M + 2) (by rw [hk]; decide) (jS (M + 1) _ _ _ ⟨fun _ => ⟨_, g1, by simp; omega, rfl⟩, fun h => absurd hk h⟩)
theorem FW {t : Tree} (hk : t.kind = 13) (ht : tbulk t ≤ 2000000) : Pok t := fun l hl => by
 obtain ⟨s1, g1, b1, x1⟩ := bh 0 ht
 have htp := bz t
 have M := 0
 refine ⟨l ++ [⟨s1, [116, 114, 117, 101]⟩], ?_, by simp; omega, fun hq => by simp only [bR, bw]; exact ⟨hq, ⟨b1, by decide⟩, bL⟩, by simp [dl, bN, hk, x1]⟩
 exact dn7 (M + 2) (by rw [hk]; decide) (jO (M + 1) _ _ _ ⟨fun _ => ⟨_, g1, by simp; omega, rfl⟩, fun h => absurd hk h⟩)
theorem FZ {t : Tree} (hk : t.kind = 14) (ht : tbulk t ≤ 2000000) : Pok t := fun l hl => by
 obtain ⟨s1, g1, b1, x1⟩ := bh 0 ht
 have htp := bz t
 have M := 0
 refine ⟨l ++ [⟨s1, [102, 97, 108, 115, 101]⟩], ?_, by simp; omega, fun hq => by simp only [bR, bw]; exact ⟨hq, ⟨b1, by decide⟩, bL⟩, by simp [dl, bN, hk, x1]⟩
 exact dn8 (M + 2) (by rw [hk]; decide) (jR (M + 1) _ _ _ ⟨fun _ => ⟨_, g1, by simp; omega, rfl⟩, fun h => absurd hk h⟩)
theorem Gc {t : Tree} (hk : t.kind = 15) (ht : tbulk t ≤ 2000000) : Pok t := fun l hl => by
 obtain ⟨s1, g1, b1, x1⟩ := bh 0 ht
 have htp := bz t
 have M := 0
 refine ⟨l ++ [⟨s1, [63]⟩], ?_, by simp; omega, fun hq => by simp only [bR, bw]; exact ⟨hq, ⟨b1, by decide⟩, bL⟩, by simp [dl, bN, hk, x1]⟩
 exact dn9 (M + 2) (by rw [hk]; decide) (jK (M + 1) _ _ _ ⟨fun _ => ⟨_, g1, by simp; omega, rfl⟩, fun h => absurd hk h⟩)
theorem oP {l : List Tree} {u : Tree} (h0 : l[0]? = some u) : tbulk u ≤ kbulk l := kS h0
theorem tG {l : List Tree} {u v : Tree} (h0 : l[0]? = some u) (h1 : l[1]? = some v) : tbulk u + tbulk v ≤ kbulk l := by
 match l, h0, h1 with
 | a :: r, h0, h1 => simp at h0; subst h0; have := kS (ks := r) (i := 0) (by simpa using h1); simp only [kbulk]; omega
theorem Dy {l : List Tree} {u v x : Tree} (h0 : l[0]? = some u) (h1 : l[1]? = some v) (h2 : l[2]? = some x) : tbulk u + tbulk v + tbulk x ≤ kbulk l := by
 match l, h0, h1, h2 with
 | a :: r, h0, h1, h2 => simp at h0; subst h0; have := tG (l := r) (by simpa using h1) (by simpa using h2); simp only [kbulk]; omega
theorem p_3 {t : Tree} (hk : t.kind = 3) (hs : shapeK t = true) (ht : tbulk t ≤ 2000000) (ih : ∀ (i : Nat) (u : Tree), t.kids[i]? = some u → Pok u) : Pok t := fun l hl => by
 have htp := bz t
 have htx := ds t
 have hn := fw hs
 have M := 0
 have hkn : t.kids.length = 1 := hn.2.2.1 (by simp [hk])
 obtain ⟨u0, hu0, _⟩ | h' := aH t.kids 0
 rotate_left
 ·omega
 have hsum : tbulk u0 + 1 ≤ tbulk t := by
  have hb := bu t
  have hx := oP hu0
  omega
 obtain ⟨s1, g1, b1, x1⟩ := bh 0 ht
 obtain ⟨s2, g2, b2, x2⟩ := bh 1 ht
 obtain ⟨s3, g3, b3, x3⟩ := bh 2 ht
 have q1 : Qp l → Qp (l ++ [⟨s1, [116, 121, 112, 101]⟩, ⟨s2, t.text⟩, ⟨s3, [61]⟩]) := fun hq => by simp only [bR, bw]; exact ⟨hq, ⟨b1, by decide⟩, ⟨b2, by omega⟩, ⟨b3, by decide⟩, bL⟩
 obtain ⟨r0, e0, z0, y0, m0⟩ := ih 0 u0 hu0 (l ++ [⟨s1, [116, 121, 112, 101]⟩, ⟨s2, t.text⟩, ⟨s3, [61]⟩]) (by first | omega | (simp only [List.length_append, List.length_cons, List.length_nil]; omega))
 try simp only [List.length_append, List.length_cons, List.length_nil] at z0
 refine ⟨r0, ?_, by first | omega | (simp only [List.length_append, List.length_cons, List.length_nil]; omega), fun hq => (y0 (q1 hq)), by simp [dl, bN, hk, m0, x1, x2, x3, dq hu0]⟩
 exact dn2 (M + 2) (by rw [hk]; decide) (kf (M + 1) _ _ _ ⟨fun _ => oB (M) _ _ _ ⟨_, g1, _, g2, _, g3, by simp; omega, u0, hu0, _, e0, rfl⟩, fun h => absurd hk h⟩)
theorem p_4 {t : Tree} (hk : t.kind = 4) (hs : shapeK t = true) (ht : tbulk t ≤ 2000000) (ih : ∀ (i : Nat) (u : Tree), t.kids[i]? = some u → Pok u) : Pok t := fun l hl => by
 have htp := bz t
 have htx := ds t
 have hn := fw hs
 have M := 0
 have hkn : t.kids.length = 1 := hn.2.2.1 (by simp [hk])
 obtain ⟨u0, hu0, _⟩ | h' := aH t.kids 0
 rotate_left
 ·omega
 have hsum : tbulk u0 + 1 ≤ tbulk t := by
  have hb := bu t
  have hx := oP hu0
  omega
 obtain ⟨s1, g1, b1, x1⟩ := bh 0 ht
 obtain ⟨s2, g2, b2, x2⟩ := bh 1 ht
 have q1 : Qp l → Qp (l ++ [⟨s1, t.text⟩, ⟨s2, [58]⟩]) := fun hq => by simp only [bR, bw]; exact ⟨hq, ⟨b1, by omega⟩, ⟨b2, by decide⟩, bL⟩
 obtain ⟨r0, e0, z0, y0, m0⟩ := ih 0 u0 hu0 (l ++ [⟨s1, t.text⟩, ⟨s2, [58]⟩]) (by first | omega | (simp only [List.length_append, List.length_cons, List.length_nil]; omega))
 try simp only [List.length_append, List.length_cons, List.length_nil] at z0
 refine ⟨r0, ?_, by first | omega | (simp only [List.length_append, List.length_cons, List.length_nil]; omega), fun hq => (y0 (q1 hq)), by simp [dl, bN, hk, m0, x1, x2, dq hu0]⟩
 exact dn3 (M + 2) (by rw [hk]; decide) (kc (M + 1) _ _ _ ⟨fun _ => oD (M) _ _ _ ⟨_, g1, _, g2, by simp; omega, u0, hu0, _, e0, rfl⟩, fun h => absurd hk h⟩)
theorem p_8 {t : Tree} (hk : t.kind = 8) (hs : shapeK t = true) (ht : tbulk t ≤ 2000000) (ih : ∀ (i : Nat) (u : Tree), t.kids[i]? = some u → Pok u) : Pok t := fun l hl => by
 have htp := bz t
 have htx := ds t
 have hn := fw hs
 have M := 0
 have hkn : t.kids.length = 1 := hn.2.2.1 (by simp [hk])
 obtain ⟨u0, hu0, _⟩ | h' := aH t.kids 0
 rotate_left
 ·omega
 have hsum : tbulk u0 + 1 ≤ tbulk t := by
  have hb := bu t
  have hx := oP hu0
  omega
 obtain ⟨s1, g1, b1, x1⟩ := bh 0 ht
 have q1 : Qp l → Qp (l ++ [⟨s1, [91]⟩]) := fun hq => by simp only [bR, bw]; exact ⟨hq, ⟨b1, by decide⟩, bL⟩
 obtain ⟨r0, e0, z0, y0, m0⟩ := ih 0 u0 hu0 (l ++ [⟨s1, [91]⟩]) (by first | omega | (simp only [List.length_append, List.length_cons, List.length_nil]; omega))
 try simp only [List.length_append, List.length_cons, List.length_nil] at z0
 obtain ⟨s2, g2, b2, x2⟩ := bh 1 ht
 have q3 : Qp r0 → Qp (r0 ++ [⟨s2, [93]⟩]) := fun hq => by simp only [bR, bw]; exact ⟨hq, ⟨b2, by decide⟩, bL⟩
 refine ⟨(r0 ++ [⟨s2, [93]⟩]), ?_, by first | omega | (simp only [List.length_append, List.length_cons, List.length_nil]; omega), fun hq => (q3 (y0 (q1 hq))), by simp [dl, bN, hk, m0, x1, x2, dq hu0]⟩
 exact Et (M + 2) (by rw [hk]; decide) (jT (M + 1) _ _ _ ⟨fun _ => nL (M) _ _ _ ⟨_, g1, by simp; omega, u0, hu0, _, e0, _, g2, by simp; omega, rfl⟩, fun h => absurd hk h⟩)
theorem FT {t : Tree} (hk : t.kind = 17) (hs : shapeK t = true) (ht : tbulk t ≤ 2000000) (ih : ∀ (i : Nat) (u : Tree), t.kids[i]? = some u → Pok u) : Pok t := fun l hl => by
 have htp := bz t
 have htx := ds t
 have hn := fw hs
 have M := 0
 have hkn : t.kids.length = 1 := hn.2.2.1 (by simp [hk])
 obtain ⟨u0, hu0, _⟩ | h' := aH t.kids 0
 rotate_left
 ·omega
 have hsum : tbulk u0 + 1 ≤ tbulk t := by
  have hb := bu t
  have hx := oP hu0
  omega
 obtain ⟨r0, e0, z0, y0, m0⟩ := ih 0 u0 hu0 l (by first | omega | (simp only [List.length_append, List.length_cons, List.length_nil]; omega))
 try simp only [List.length_append, List.length_cons, List.length_nil] at z0
 refine ⟨r0, ?_, by first | omega | (simp only [List.length_append, List.length_cons, List.length_nil]; omega), fun hq => (y0 hq), by simp [dl, bN, hk, m0, dq hu0]⟩
 exact EB (M + 2) (by rw [hk]; decide) (jJ (M + 1) _ _ _ ⟨fun _ => ⟨u0, hu0, _, e0, rfl⟩, fun h => absurd hk h⟩)
theorem Gb {t : Tree} (hk : t.kind = 19) (hs : shapeK t = true) (ht : tbulk t ≤ 2000000) (ih : ∀ (i : Nat) (u : Tree), t.kids[i]? = some u → Pok u) : Pok t := fun l hl => by
 have htp := bz t
 have htx := ds t
 have hn := fw hs
 have M := 0
 have hkn : t.kids.length = 3 := hn.2.2.2.1 hk
 obtain ⟨u0, hu0, _⟩ | h' := aH t.kids 0
 rotate_left
 ·omega
 obtain ⟨u1, hu1, _⟩ | h' := aH t.kids 1
 rotate_left
 ·omega
 obtain ⟨u2, hu2, _⟩ | h' := aH t.kids 2
 rotate_left
 ·omega
 have hsum : tbulk u0 + tbulk u1 + tbulk u2 + 1 ≤ tbulk t := by
  have hb := bu t
  have hx := Dy hu0 hu1 hu2
  omega
 obtain ⟨s1, g1, b1, x1⟩ := bh 0 ht
 have q1 : Qp l → Qp (l ++ [⟨s1, [105, 102]⟩]) := fun hq => by simp only [bR, bw]; exact ⟨hq, ⟨b1, by decide⟩, bL⟩
 obtain ⟨r0, e0, z0, y0, m0⟩ := ih 0 u0 hu0 (l ++ [⟨s1, [105, 102]⟩]) (by first | omega | (simp only [List.length_append, List.length_cons, List.length_nil]; omega))
 try simp only [List.length_append, List.length_cons, List.length_nil] at z0
 obtain ⟨s2, g2, b2, x2⟩ := bh 1 ht
 have q3 : Qp r0 → Qp (r0 ++ [⟨s2, [116, 104, 101, 110]⟩]) := fun hq => by simp only [bR, bw]; exact ⟨hq, ⟨b2, by decide⟩, bL⟩
 obtain ⟨r1, e1, z1, y1, m1⟩ := ih 1 u1 hu1 (r0 ++ [⟨s2, [116, 104, 101, 110]⟩]) (by first | omega | (simp only [List.length_append, List.length_cons, List.length_nil]; omega))
 try simp only [List.length_append, List.length_cons, List.length_nil] at z1
 obtain ⟨s3, g3, b3, x3⟩ := bh 2 ht
 have q5 : Qp r1 → Qp (r1 ++ [⟨s3, [101, 108, 115, 101]⟩]) := fun hq => by simp only [bR, bw]; exact ⟨hq, ⟨b3, by decide⟩, bL⟩
 obtain ⟨r2, e2, z2, y2, m2⟩ := ih 2 u2 hu2 (r1 ++ [⟨s3, [101, 108, 115, 101]⟩]) (by first | omega | (simp only [List.length_append, List.length_cons, List.length_nil]; omega))
 try simp only [List.length_append, List.length_cons, List.length_nil] at z2
 refine ⟨r2, ?_, by first | omega | (simp only [List.length_append, List.length_cons, List.length_nil]; omega), fun hq => (y2 (q5 (y1 (q3 (y0 (q1 hq)))))), by simp [dl, bN, hk, m0, m1, m2, x1, x2, x3, dq hu0, dq hu1, dq hu2]⟩
 exact DG (M + 2) (by rw [hk]; decide) (jM (M + 1) _ _ _ ⟨fun _ => nF (M) _ _ _ ⟨u0, hu0, _, g1, by simp; omega, _, e0, u1, hu1, _, g2, by simp; omega, _, e1, u2, hu2, _, g3, by simp; omega, _, e2, rfl⟩, fun h => absurd hk h⟩)
theorem Gl {t : Tree} (hk : t.kind = 20) (hs : shapeK t = true) (ht : tbulk t ≤ 2000000) (ih : ∀ (i : Nat) (u : Tree), t.kids[i]? = some u → Pok u) : Pok t := fun l hl => by
 have htp := bz t
 have htx := ds t
 have hn := fw hs
 have M := 0
 have hkn : t.kids.length = 2 := hn.2.2.2.2 (by simp [hk])
 obtain ⟨u0, hu0, _⟩ | h' := aH t.kids 0
 rotate_left
 ·omega
 obtain ⟨u1, hu1, _⟩ | h' := aH t.kids 1
 rotate_left
 ·omega
 have hsum : tbulk u0 + tbulk u1 + 1 ≤ tbulk t := by
  have hb := bu t
  have hx := tG hu0 hu1
  omega
 obtain ⟨s1, g1, b1, x1⟩ := bh 0 ht
 obtain ⟨s2, g2, b2, x2⟩ := bh 1 ht
 obtain ⟨s3, g3, b3, x3⟩ := bh 2 ht
 have q1 : Qp l → Qp (l ++ [⟨s1, [108, 101, 116]⟩, ⟨s2, t.text⟩, ⟨s3, [61]⟩]) := fun hq => by simp only [bR, bw]; exact ⟨hq, ⟨b1, by decide⟩, ⟨b2, by omega⟩, ⟨b3, by decide⟩, bL⟩
 obtain ⟨r0, e0, z0, y0, m0⟩ := ih 0 u0 hu0 (l ++ [⟨s1, [108, 101, 116]⟩, ⟨s2, t.text⟩, ⟨s3, [61]⟩]) (by first | omega | (simp only [List.length_append, List.length_cons, List.length_nil]; omega))
 try simp only [List.length_append, List.length_cons, List.length_nil] at z0
 obtain ⟨s4, g4, b4, x4⟩ := bh 3 ht
 have q3 : Qp r0 → Qp (r0 ++ [⟨s4, [105, 110]⟩]) := fun hq => by simp only [bR, bw]; exact ⟨hq, ⟨b4, by decide⟩, bL⟩
 obtain ⟨r1, e1, z1, y1, m1⟩ := ih 1 u1 hu1 (r0 ++ [⟨s4, [105, 110]⟩]) (by first | omega | (simp only [List.length_append, List.length_cons, List.length_nil]; omega))
 try simp only [List.length_append, List.length_cons, List.length_nil] at z1
 refine ⟨r1, ?_, by first | omega | (simp only [List.length_append, List.length_cons, List.length_nil]; omega), fun hq => (y1 (q3 (y0 (q1 hq)))), by simp [dl, bN, hk, m0, m1, x1, x2, x3, x4, dq hu0, dq hu1]⟩
 exact DK (M + 2) (by rw [hk]; decide) (jP (M + 1) _ _ _ ⟨fun _ => nG (M) _ _ _ ⟨_, g1, _, g2, _, g3, by simp; omega, u0, hu0, _, e0, _, g4, by simp; omega, u1, hu1, _, e1, rfl⟩, fun h => absurd hk h⟩)
theorem Gd {t : Tree} (hk : t.kind = 21) (hs : shapeK t = true) (ht : tbulk t ≤ 2000000) (ih : ∀ (i : Nat) (u : Tree), t.kids[i]? = some u → Pok u) : Pok t := fun l hl => by
 have htp := bz t
 have htx := ds t
 have hn := fw hs
 have M := 0
 have hkn : t.kids.length = 2 := hn.2.2.2.2 (by simp [hk])
 obtain ⟨u0, hu0, _⟩ | h' := aH t.kids 0
 rotate_left
 ·omega
 obtain ⟨u1, hu1, _⟩ | h' := aH t.kids 1
 rotate_left
 ·omega
 have hsum : tbulk u0 + tbulk u1 + 1 ≤ tbulk t := by
  have hb := bu t
  have hx := tG hu0 hu1
  omega
 obtain ⟨r0, e0, z0, y0, m0⟩ := ih 0 u0 hu0 l (by first | omega | (simp only [List.length_append, List.length_cons, List.length_nil]; omega))
 try simp only [List.length_append, List.length_cons, List.length_nil] at z0
 obtain ⟨s1, g1, b1, x1⟩ := bh 0 ht
 have q2 : Qp r0 → Qp (r0 ++ [⟨s1, t.text⟩]) := fun hq => by simp only [bR, bw]; exact ⟨hq, ⟨b1, by omega⟩, bL⟩
 obtain ⟨r1, e1, z1, y1, m1⟩ := ih 1 u1 hu1 (r0 ++ [⟨s1, t.text⟩]) (by first | omega | (simp only [List.length_append, List.length_cons, List.length_nil]; omega))
 try simp only [List.length_append, List.length_cons, List.length_nil] at z1
 refine ⟨r1, ?_, by first | omega | (simp only [List.length_append, List.length_cons, List.length_nil]; omega), fun hq => (y1 (q2 (y0 hq))), by simp [dl, bN, hk, m0, m1, x1, dq hu0, dq hu1]⟩
 exact DP (M + 2) (by rw [hk]; decide) (jG (M + 1) _ _ _ ⟨fun _ => nJ (M) _ _ _ ⟨u0, hu0, _, e0, _, g1, by simp; omega, u1, hu1, _, e1, rfl⟩, fun h => absurd hk h⟩)
theorem Gj {t : Tree} (hk : t.kind = 22) (hs : shapeK t = true) (ht : tbulk t ≤ 2000000) (ih : ∀ (i : Nat) (u : Tree), t.kids[i]? = some u → Pok u) : Pok t := fun l hl => by
 have htp := bz t
 have htx := ds t
 have hn := fw hs
 have M := 0
 have hkn : t.kids.length = 1 := hn.2.2.1 (by simp [hk])
 obtain ⟨u0, hu0, _⟩ | h' := aH t.kids 0
 rotate_left
 ·omega
 have hsum : tbulk u0 + 1 ≤ tbulk t := by
  have hb := bu t
  have hx := oP hu0
  omega
 obtain ⟨s1, g1, b1, x1⟩ := bh 0 ht
 have q1 : Qp l → Qp (l ++ [⟨s1, [40]⟩]) := fun hq => by simp only [bR, bw]; exact ⟨hq, ⟨b1, by decide⟩, bL⟩
 obtain ⟨r0, e0, z0, y0, m0⟩ := ih 0 u0 hu0 (l ++ [⟨s1, [40]⟩]) (by first | omega | (simp only [List.length_append, List.length_cons, List.length_nil]; omega))
 try simp only [List.length_append, List.length_cons, List.length_nil] at z0
 obtain ⟨s2, g2, b2, x2⟩ := bh 1 ht
 have q3 : Qp r0 → Qp (r0 ++ [⟨s2, [41]⟩]) := fun hq => by simp only [bR, bw]; exact ⟨hq, ⟨b2, by decide⟩, bL⟩
 refine ⟨(r0 ++ [⟨s2, [41]⟩]), ?_, by first | omega | (simp only [List.length_append, List.length_cons, List.length_nil]; omega), fun hq => (q3 (y0 (q1 hq))), by simp [dl, bN, hk, m0, x1, x2, dq hu0]⟩
 exact DN (M + 2) (by rw [hk]; decide) (jQ (M + 1) _ _ _ ⟨fun _ => nK (M) _ _ _ ⟨_, g1, by simp; omega, u0, hu0, _, e0, _, g2, by simp; omega, rfl⟩, fun h => absurd hk h⟩)
theorem Em {t : Tree} (hn : ∀ c : Int, c ∈ [(1 : Int), 2, 3, 4, 5, 6, 7, 13, 14, 15, 8, 16, 17, 18, 19, 20, 21, 22] → t.kind ≠ c) (ht : tbulk t ≤ 2000000) : Pok t := fun l hl => by
 obtain ⟨s1, g1, b1, x1⟩ := bh 0 ht
 have htp := bz t
 have htx := ds t
 have M := 0
 refine ⟨l ++ [⟨s1, t.text⟩], ?_, by simp; omega, fun hq => by simp only [bR, bw]; exact ⟨hq, ⟨b1, by omega⟩, bL⟩, by have h1 := hn 1 (by decide); have h2 := hn 2 (by decide); have h3 := hn 3 (by decide); have h4 := hn 4 (by decide); have h5 := hn 17 (by decide); have h6 := hn 8 (by decide); have h7 := hn 16 (by decide); have h8 := hn 18 (by decide); have h9 := hn 19 (by decide); have h10 := hn 20 (by decide); have h11 := hn 21 (by decide); have h12 := hn 22 (by decide); simp [dl, bN, h1, h2, h3, h4, h5, h6, h7, h8, h9, h10, h11, h12, x1]⟩
 exact DN (M + 2) (fun e => hn t.kind (by simp only [List.mem_cons, List.not_mem_nil, or_false] at e ⊢; omega) rfl) (jQ (M + 1) _ _ _ ⟨fun h => absurd h (hn 22 (by decide)), fun _ => ⟨_, g1, by simp; omega, rfl⟩⟩)
theorem yQ {t : Tree} (ht : tbulk t ≤ 2000000) (ih : ∀ (i : Nat) (u : Tree), t.kids[i]? = some u → Pok u) (n comma : Nat) (hn : n ≤ t.kids.length) (hc : comma ≤ 10) : ∀ l, l.length + 8 * kbulk (t.kids.take n) ≤ 899999999 → ∃ r, dS l t 0 (n : Int) (comma : Int) r ∧ r.length ≤ l.length + 8 * kbulk (t.kids.take n) ∧ (Qp l → Qp r) ∧ r.map (·.Lead) = l.map (·.Lead) ++ jn t.leads comma (ldTs (t.kids.take n)) 0 := by
 have hk := da t
 have loop : ∀ k i l, n - i ≤ k → i ≤ n → l.length + 8 * kbulk ((t.kids.take n).drop i) ≤ 899999999 → ∃ r, eD (k + 1) t 0 (n : Int) (comma : Int) l (i : Int) r ∧ r.length ≤ l.length + 8 * kbulk ((t.kids.take n).drop i) ∧ (Qp l → Qp r) ∧ r.map (·.Lead) = l.map (·.Lead) ++ jn t.leads comma (ldTs ((t.kids.take n).drop i)) i := fun k => by
  induction k with
  | zero =>
   intro i l hi hle hl
   exact ⟨l, fQ 0 _ _ _ _ _ _ _ ⟨fun h => by omega, fun _ => rfl⟩, by omega, fun h => h, by rw [List.drop_of_length_le (by simp; omega)]; simp [ldTs, jn]⟩
  | succ k ihk =>
   intro i l hi hle hl
   by_cases hin : i < n
   ·obtain ⟨u, hu, hul⟩ | h' := aH t.kids i
    ·have hu' : (t.kids.take n)[i]? = some u := by rw [List.getElem?_take, if_pos hin]; exact hu
     have hd := bE hu'
     rw [hd, kbulk] at hl ⊢
     have hup := bz u
     by_cases h0 : 0 < i
     ·obtain ⟨s, g, b, x⟩ := bh (t := t) (comma + i - 1) ht
      have g' : ah t ((((comma : Int) + (i : Int)) - 0) - 1) s := by rw [show (((comma : Int) + (i : Int)) - 0) - 1 = ((comma + i - 1 : Nat) : Int) by omega]; exact g
      obtain ⟨r, e, z, y, m⟩ := ih i u hu (l ++ [⟨s, [44]⟩]) (by simp; omega)
      simp only [List.length_append, List.length_cons, List.length_nil] at z
      obtain ⟨r2, e2, z2, y2, m2⟩ := ihk (i + 1) r (by omega) (by omega) (by omega)
      refine ⟨r2, fQ (k + 1) _ _ _ _ _ _ _ ⟨fun _ => ⟨fun _ => ⟨by omega, by omega, by omega, s, g', by simp; omega, i, rfl, u, hu, r, e, by omega, ?_⟩, fun h => by omega⟩, fun h => by omega⟩, by omega, fun hq => y2 (y (by simp only [bR, bw]; exact ⟨hq, ⟨b, by decide⟩, bL⟩)), by simp [ldTs, jn, h0, m2, m, x]⟩
      exact e2
     ·obtain ⟨r, e, z, y, m⟩ := ih i u hu l (by omega)
      obtain ⟨r2, e2, z2, y2, m2⟩ := ihk (i + 1) r (by omega) (by omega) (by omega)
      refine ⟨r2, fQ (k + 1) _ _ _ _ _ _ _ ⟨fun _ => ⟨fun h => by omega, fun _ => ⟨i, rfl, u, hu, r, e, by omega, e2⟩⟩, fun h => by omega⟩, by omega, fun hq => y2 (y hq), by simp [ldTs, jn, h0, m2, m]⟩
    ·omega
   ·exact ⟨l, fQ (k + 1) _ _ _ _ _ _ _ ⟨fun h => by omega, fun _ => rfl⟩, by omega, fun h => h, by rw [List.drop_of_length_le (by simp; omega)]; simp [ldTs, jn]⟩
 intro l hl
 have h1 : kbulk (t.kids.take n) ≤ kbulk t.kids := by
  have : ∀ (l : List Tree) n, kbulk (l.take n) ≤ kbulk l := fun l => by
   induction l with
   | nil => intro n; simp
   |cons a r ih => intro n; cases n with
    | zero => simp [kbulk]
    | succ n => have := ih n; simp only [List.take_succ_cons, kbulk]; omega
  exact this _ _
 have h2 := bu t
 obtain ⟨r, e, z, y, m⟩ := loop n 0 l (by omega) (by omega) (by simpa using hl)
 exact ⟨r, qp (n + 1) _ _ _ _ _ _ e, by simpa using z, y, by simpa using m⟩
theorem rt (l : List Tree) (n : Nat) : kbulk (l.take n) + kbulk (l.drop n) = kbulk l := by rw [← dU, List.take_append_drop]
theorem Gi {t : Tree} (hk : t.kind = 16) (hs : shapeK t = true) (ht : tbulk t ≤ 2000000) (ih : ∀ (i : Nat) (u : Tree), t.kids[i]? = some u → Pok u) : Pok t := fun l hl => by
 have hb := bu t
 have htx := ds t
 have M := 0
 obtain ⟨s1, g1, b1, x1⟩ := bh 0 ht
 obtain ⟨s2, g2, b2, x2⟩ := bh 1 ht
 obtain ⟨r, e, z, y, m⟩ := yQ ht ih t.kids.length 3 (Nat.le_refl _) (by decide) (l ++ [⟨s1, t.text⟩, ⟨s2, [40]⟩]) (by simp only [List.length_append, List.length_cons, List.length_nil, List.take_length]; omega)
 simp only [List.length_append, List.length_cons, List.length_nil, List.take_length] at z
 obtain ⟨s9, g9, b9, x9⟩ := bh 2 ht
 refine ⟨r ++ [⟨s9, [41]⟩], ?_, by simp only [List.length_append, List.length_cons, List.length_nil]; omega, fun hq => by
  have := y (by simp only [bR, bw]; exact ⟨hq, ⟨b1, by omega⟩, ⟨b2, by decide⟩, bL⟩)
  simp only [bR, bw]; exact ⟨this, ⟨b9, by decide⟩, bL⟩, by simp [dl, bN, hk, m, x9, x1, x2]⟩
 exact EM (M + 2) (by rw [hk]; decide) (jI (M + 1) _ _ _ ⟨fun _ => nE (M) _ _ _ ⟨_, g1, _, g2, by simp only [List.length_append, List.length_cons, List.length_nil]; omega, _, e, _, g9, by simp only [List.length_append, List.length_cons, List.length_nil]; omega, rfl⟩, fun h => absurd hk h⟩)
theorem FN {t : Tree} (hk : t.kind = 18) (hs : shapeK t = true) (ht : tbulk t ≤ 2000000) (ih : ∀ (i : Nat) (u : Tree), t.kids[i]? = some u → Pok u) : Pok t := fun l hl => by
 have hb := bu t
 have htx := ds t
 have M := 0
 obtain ⟨s1, g1, b1, x1⟩ := bh 0 ht
 obtain ⟨r, e, z, y, m⟩ := yQ ht ih t.kids.length 2 (Nat.le_refl _) (by decide) (l ++ [⟨s1, [91]⟩]) (by simp only [List.length_append, List.length_cons, List.length_nil, List.take_length]; omega)
 simp only [List.length_append, List.length_cons, List.length_nil, List.take_length] at z
 obtain ⟨s9, g9, b9, x9⟩ := bh 1 ht
 refine ⟨r ++ [⟨s9, [93]⟩], ?_, by simp only [List.length_append, List.length_cons, List.length_nil]; omega, fun hq => by
  have := y (by simp only [bR, bw]; exact ⟨hq, ⟨b1, by decide⟩, bL⟩)
  simp only [bR, bw]; exact ⟨this, ⟨b9, by decide⟩, bL⟩, by simp [dl, bN, hk, m, x9, x1]⟩
 exact DW (M + 2) (by rw [hk]; decide) (jF (M + 1) _ _ _ ⟨fun _ => nH (M) _ _ _ ⟨_, g1, by simp only [List.length_append, List.length_cons, List.length_nil]; omega, _, e, _, g9, by simp only [List.length_append, List.length_cons, List.length_nil]; omega, rfl⟩, fun h => absurd hk h⟩)
theorem p_2 {t : Tree} (hk : t.kind = 2) (hs : shapeK t = true) (ht : tbulk t ≤ 2000000) (ih : ∀ (i : Nat) (u : Tree), t.kids[i]? = some u → Pok u) : Pok t := fun l hl => by
 have hb := bu t
 have htx := ds t
 have hn := (fw hs).1 hk
 have hkl := da t
 have M := 0
 obtain ⟨s1, g1, b1, x1⟩ := bh 0 ht
 obtain ⟨s2, g2, b2, x2⟩ := bh 1 ht
 obtain ⟨s3, g3, b3, x3⟩ := bh 2 ht
 obtain ⟨s4, g4, b4, x4⟩ := bh 3 ht
 obtain ⟨s5, g5, b5, x5⟩ := bh 4 ht
 obtain ⟨s6, g6, b6, x6⟩ := bh 5 ht
 obtain ⟨r, e, z, y, m⟩ := yQ ht ih (t.kids.length - 2) 6 (by omega) (by decide) (l ++ [⟨s1, [100, 101, 102]⟩, ⟨s2, t.text⟩, ⟨s3, [40]⟩]) (by have := rt t.kids (t.kids.length - 2); simp only [List.length_append, List.length_cons, List.length_nil]; omega)
 simp only [List.length_append, List.length_cons, List.length_nil] at z
 obtain ⟨u, hu, _⟩ | h' := aH t.kids (t.kids.length - 2)
 rotate_left
 ·omega
 obtain ⟨v, hv, _⟩ | h' := aH t.kids (t.kids.length - 1)
 rotate_left
 ·omega
 have hsp := rt t.kids (t.kids.length - 2)
 have hd1 := bE hu
 have hd2 : t.kids.drop (t.kids.length - 2 + 1) = v :: t.kids.drop (t.kids.length - 1 + 1) := by rw [show t.kids.length - 2 + 1 = t.kids.length - 1 by omega]; exact bE hv
 rw [hd1, kbulk, hd2, kbulk] at hsp
 have hup := bz u
 have hvp := bz v
 have e' : dS (l ++ [⟨s1, [100, 101, 102]⟩, ⟨s2, t.text⟩, ⟨s3, [40]⟩]) t 0 (((t.kids.length : Nat) : Int) - 2) 6 r := by rw [show ((t.kids.length : Nat) : Int) - 2 = ((t.kids.length - 2 : Nat) : Int) by omega]; exact e
 obtain ⟨r1, e1, z1, y1, m1⟩ := ih _ u hu (r ++ [⟨s4, [41]⟩, ⟨s5, [58]⟩]) (by simp only [List.length_append, List.length_cons, List.length_nil]; omega)
 simp only [List.length_append, List.length_cons, List.length_nil] at z1
 obtain ⟨r2, e2, z2, y2, m2⟩ := ih _ v hv (r1 ++ [⟨s6, [61]⟩]) (by simp only [List.length_append, List.length_cons, List.length_nil]; omega)
 simp only [List.length_append, List.length_cons, List.length_nil] at z2
 refine ⟨r2, ?_, by omega, fun hq => ?_, by simp [dl, bN, hk, m, m1, m2, x1, x2, x3, x4, x5, x6, dq hu, dq hv, zN, pn]⟩
 ·exact dn1 (M + 2) (by rw [hk]; decide) (km (M + 1) _ _ _ ⟨fun _ => oA (M) _ _ _ ⟨_, g1, _, g2, _, g3, by simp only [List.length_append, List.length_cons, List.length_nil]; omega, by omega, r, e', _, g4, _, g5, by simp only [List.length_append, List.length_cons, List.length_nil]; omega, by omega, t.kids.length - 2, by omega, u, hu, r1, e1, _, g6, by simp only [List.length_append, List.length_cons, List.length_nil]; omega, by omega, t.kids.length - 1, by omega, v, hv, r2, e2, rfl⟩, fun h => absurd hk h⟩)
 ·have q1 := y (by simp only [bR, bw]; exact ⟨hq, ⟨b1, by decide⟩, ⟨b2, by omega⟩, ⟨b3, by decide⟩, bL⟩)
  have q2 := y1 (by simp only [bR, bw]; exact ⟨q1, ⟨b4, by decide⟩, ⟨b5, by decide⟩, bL⟩)
  exact y2 (by simp only [bR, bw]; exact ⟨q2, ⟨b6, by decide⟩, bL⟩)
theorem p_1 {t : Tree} (hk : t.kind = 1) (hs : shapeK t = true) (ht : tbulk t ≤ 2000000) (ih : ∀ (i : Nat) (u : Tree), t.kids[i]? = some u → Pok u) : Pok t := fun l hl => by
 have hb := bu t
 have htx := ds t
 have hkl := da t
 obtain ⟨s1, g1, b1, x1⟩ := bh 0 ht
 obtain ⟨s2, g2, b2, x2⟩ := bh 1 ht
 obtain ⟨s3, g3, b3, x3⟩ := bh 2 ht
 have loop : ∀ k i l, t.kids.length - i ≤ k → l.length + 8 * kbulk (t.kids.drop i) ≤ 899999996 → ∃ r, dA (k + 1) t l i r ∧ r.length ≤ l.length + 8 * kbulk (t.kids.drop i) + 1 ∧ (Qp l → Qp r) ∧ r.map (·.Lead) = l.map (·.Lead) ++ ((ldTs (t.kids.drop i)).flatten ++ [t.leads.getD 2 []]) := fun k => by
  have last : ∀ k i l, ¬ i < t.kids.length → l.length ≤ 899999996 → ∃ r, dA (k + 1) t l i r ∧ r.length ≤ l.length + 8 * kbulk (t.kids.drop i) + 1 ∧ (Qp l → Qp r) ∧ r.map (·.Lead) = l.map (·.Lead) ++ ((ldTs (t.kids.drop i)).flatten ++ [t.leads.getD 2 []]) := fun k i l hi hl => by
   refine ⟨l ++ [⟨s3, []⟩], ke k _ _ _ _ ⟨fun h => absurd h hi, fun _ => ⟨s3, g3, by simp only [List.length_append, List.length_cons, List.length_nil]; omega, rfl⟩⟩, by simp only [List.length_append, List.length_cons, List.length_nil]; omega, fun hq => by simp only [bR, bw]; exact ⟨hq, ⟨b3, by decide⟩, bL⟩, by rw [List.drop_of_length_le (by omega)]; simp [ldTs, x3]⟩
  induction k with
  | zero => intro i l hi hl; exact last 0 i l (by omega) (by omega)
  | succ k ihk =>
   intro i l hi hl
   obtain ⟨u, hu, hul⟩ | h' := aH t.kids i
   ·have hd := bE hu
    rw [hd, kbulk] at hl ⊢
    obtain ⟨r, e, z, y, m⟩ := ih i u hu l (by omega)
    obtain ⟨r2, e2, z2, y2, m2⟩ := ihk (i + 1) r (by omega) (by omega)
    exact ⟨r2, ke (k + 1) _ _ _ _ ⟨fun _ => ⟨u, hu, r, e, by omega, e2⟩, fun h => absurd hul h⟩, by omega, fun hq => y2 (y hq), by simp [ldTs, m2, m]⟩
   ·exact last (k + 1) i l h' (by omega)
 obtain ⟨r, e, z, y, m⟩ := loop t.kids.length 0 (l ++ [⟨s1, [109, 111, 100, 117, 108, 101]⟩, ⟨s2, t.text⟩]) (by omega) (by simp only [List.length_append, List.length_cons, List.length_nil, List.drop_zero]; omega)
 simp only [List.length_append, List.length_cons, List.length_nil, List.drop_zero] at z
 refine ⟨r, kY (t.kids.length + 2) _ _ _ ⟨fun _ => ox (t.kids.length + 1) _ _ _ ⟨_, g1, _, g2, by simp only [List.length_append, List.length_cons, List.length_nil]; omega, e⟩, fun h => absurd hk h⟩, by omega, fun hq => y (by simp only [bR, bw]; exact ⟨hq, ⟨b1, by decide⟩, ⟨b2, by omega⟩, bL⟩), by simp [dl, bN, hk, m, x1, x2]⟩
theorem vg : ∀ t : Tree, tbulk t ≤ 2000000 → shapeK t = true → Pok t := dc fun t ih ht hs => by
 have ih' : ∀ (i : Nat) (u : Tree), t.kids[i]? = some u → Pok u := fun i u hu => ih i u hu (by have := cJ hu; omega) (kQ hs hu).1
 by_cases h : ∃ c ∈ [(1 : Int), 2, 3, 4, 5, 6, 7, 13, 14, 15, 8, 16, 17, 18, 19, 20, 21, 22], t.kind = c
 ·obtain ⟨c, hc, e⟩ := h
  simp only [List.mem_cons, List.not_mem_nil, or_false] at hc
  rcases hc with rfl | rfl | rfl | rfl | rfl | rfl | rfl | rfl | rfl | rfl | rfl | rfl | rfl | rfl | rfl | rfl | rfl | rfl
  ·exact p_1 e hs ht ih'
  ·exact p_2 e hs ht ih'
  ·exact p_3 e hs ht ih'
  ·exact p_4 e hs ht ih'
  ·exact p_5 e ht
  ·exact p_6 e ht
  ·exact p_7 e ht
  ·exact FW e ht
  ·exact FZ e ht
  ·exact Gc e ht
  ·exact p_8 e hs ht ih'
  ·exact Gi e hs ht ih'
  ·exact FT e hs ht ih'
  ·exact FN e hs ht ih'
  ·exact Gb e hs ht ih'
  ·exact Gl e hs ht ih'
  ·exact Gd e hs ht ih'
  ·exact Gj e hs ht ih'
 ·exact Em (fun c hc e => h ⟨c, hc, e⟩) ht
theorem Bj : ∀ t : Tree, tbulk t ≤ 2000000 → ∃ b, ek t b := dc fun t ih ht => by
 have hk := da t
 have hl := mA t
 have kids : ∀ k i, t.kids.length - i ≤ k → ∃ b, cW (k + 1) t i b := fun k => by
  induction k with
  | zero => intro i hi; exact ⟨_, cC 0 _ _ _ ⟨fun h => by omega, fun _ => rfl⟩⟩
  | succ k ihk =>
   intro i hi
   obtain ⟨u, hu, hul⟩ | h' := aH t.kids i
   ·have := cJ hu
    obtain ⟨b, hb⟩ := ih i u hu (by omega)
    cases b with
    | false => exact ⟨false, cC (k + 1) _ _ _ ⟨fun _ => ⟨u, hu, _, hb, fun _ => rfl, fun h => (by cases h)⟩, fun h => absurd hul h⟩⟩
    | true =>
     obtain ⟨b2, hb2⟩ := ihk (i + 1) (by omega)
     exact ⟨b2, cC (k + 1) _ _ _ ⟨fun _ => ⟨u, hu, _, hb, fun h => (by cases h), fun _ => hb2⟩, fun h => absurd hul h⟩⟩
   ·exact ⟨true, cC (k + 1) _ _ _ ⟨fun h => absurd h h', fun _ => rfl⟩⟩
 have lead : ∀ k i, t.leads.length - i ≤ k → ∃ b M, bS M t i b := fun k => by
  have last : ∀ i, ¬ i < t.leads.length → ∃ b M, bS M t i b := fun i hi => by
   obtain ⟨b, hb⟩ := kids t.kids.length 0 (by omega)
   exact ⟨b, _, bO _ _ _ _ ⟨fun h => absurd h hi, fun _ => hb⟩⟩
  induction k with
  | zero => intro i hi; exact last i (by omega)
  | succ k ihk =>
   intro i hi
   obtain ⟨s, hs, hsl⟩ | h' := aH t.leads i
   ·have := np hs
    have := bu t
    obtain ⟨b2, M, hb2⟩ := ihk (i + 1) (by omega)
    by_cases h1 : t.kind = 1
    ·have ht1 := nT s (((i : Nat) : Int) == 2) (by omega)
     cases hb : aU false s (((i : Nat) : Int) == 2) with
     | false => rw [hb] at ht1; exact ⟨false, 1, bO 0 _ _ _ ⟨fun _ => ⟨s, hs, fun _ => ⟨_, ht1, fun _ => rfl, fun h => (by cases h)⟩, fun h => absurd h1 h⟩, fun h => absurd hsl h⟩⟩
     | true => rw [hb] at ht1; exact ⟨b2, M + 1, bO M _ _ _ ⟨fun _ => ⟨s, hs, fun _ => ⟨_, ht1, fun h => (by cases h), fun _ => hb2⟩, fun h => absurd h1 h⟩, fun h => absurd hsl h⟩⟩
    ·have ht1 := nT s false (by omega)
     cases hb : aU false s false with
     | false => rw [hb] at ht1; exact ⟨false, 1, bO 0 _ _ _ ⟨fun _ => ⟨s, hs, fun h => absurd h h1, fun _ => ⟨_, ht1, fun _ => rfl, fun h => (by cases h)⟩⟩, fun h => absurd hsl h⟩⟩
     | true => rw [hb] at ht1; exact ⟨b2, M + 1, bO M _ _ _ ⟨fun _ => ⟨s, hs, fun h => absurd h h1, fun _ => ⟨_, ht1, fun h => (by cases h), fun _ => hb2⟩⟩, fun h => absurd hsl h⟩⟩
   ·exact last i h'
 by_cases h : ((t.leads.length : Nat) : Int) = bb t.kind t.kids.length
 ·obtain ⟨b, M, hb⟩ := lead t.leads.length 0 (by omega)
  exact ⟨b, fg M _ _ ⟨_, kJ (by omega) (by omega), fun h' => absurd h h', fun _ => hb⟩⟩
 ·exact ⟨false, fg 0 _ _ ⟨_, kJ (by omega) (by omega), fun _ => rfl, fun h' => absurd h' h⟩⟩
theorem At : ∀ t : Tree, tbulk t ≤ 2000000 → ∃ b, fq t b := dc fun t ih ht => by
 have hk := da t
 have kids : ∀ k i, t.kids.length - i ≤ k → ∃ b, ay (k + 1) t i b := fun k => by
  induction k with
  | zero => intro i hi; exact ⟨_, ev 0 _ _ _ ⟨fun h => by omega, fun _ => rfl⟩⟩
  | succ k ihk =>
   intro i hi
   obtain ⟨u, hu, hul⟩ | h' := aH t.kids i
   ·have := cJ hu
    obtain ⟨b, hb⟩ := ih i u hu (by omega)
    cases b with
    | false => exact ⟨false, ev (k + 1) _ _ _ ⟨fun _ => ⟨u, hu, _, hb, fun _ => rfl, fun h => (by cases h)⟩, fun h => absurd hul h⟩⟩
    | true =>
     obtain ⟨b2, hb2⟩ := ihk (i + 1) (by omega)
     exact ⟨b2, ev (k + 1) _ _ _ ⟨fun _ => ⟨u, hu, _, hb, fun h => (by cases h), fun _ => ⟨by omega, hb2⟩⟩, fun h => absurd hul h⟩⟩
   ·exact ⟨true, ev (k + 1) _ _ _ ⟨fun h => absurd h h', fun _ => rfl⟩⟩
 obtain ⟨b, hb⟩ := kids t.kids.length 0 (by omega)
 by_cases hall : (t.kind = 1 ∧ (40 : Int) < t.kids.length) ∨ (t.kind = 2 ∧ (10 : Int) < t.kids.length) ∨ (t.kind = 16 ∧ (8 : Int) < t.kids.length) ∨ (t.kind = 18 ∧ (16 : Int) < t.kids.length)
 ·refine ⟨false, lf (t.kids.length + 1) _ _ ?_⟩
  repeat' (refine And.intro (fun _ => ?_) (fun _ => ?_))
  all_goals first | rfl | (exfalso; omega)
 ·refine ⟨b, lf (t.kids.length + 1) _ _ ?_⟩
  repeat' (refine And.intro (fun _ => ?_) (fun _ => ?_))
  all_goals first | exact hb | (exfalso; omega)
theorem BU : ∀ t : Tree, tbulk t ≤ 2000000 → ∃ n, fP t n ∧ 0 ≤ n ∧ n ≤ tbulk t := dc fun t ih ht => by
 have hk := da t
 have kids : ∀ k i (z : Int), t.kids.length - i ≤ k → 0 ≤ z → z < tbulk t → ∃ n, fo (k + 1) t z i n ∧ 0 ≤ n ∧ n ≤ tbulk t := fun k => by
  induction k with
  | zero => intro i z hi h0 hz; exact ⟨_, ie 0 _ _ _ _ ⟨fun h => by omega, fun _ => ⟨by omega, rfl⟩⟩, by omega, by omega⟩
  | succ k ihk =>
   intro i z hi h0 hz
   obtain ⟨u, hu, hul⟩ | h' := aH t.kids i
   ·have := cJ hu
    obtain ⟨n, hn, n0, n1⟩ := ih i u hu (by omega)
    obtain ⟨r, hr, r0, r1⟩ := ihk (i + 1) (max z n) (by omega) (by omega) (by omega)
    exact ⟨r, ie (k + 1) _ _ _ _ ⟨fun _ => ⟨u, hu, _, hn, hr⟩, fun h => absurd hul h⟩, r0, r1⟩
   ·exact ⟨_, ie (k + 1) _ _ _ _ ⟨fun h => absurd h h', fun _ => ⟨by omega, rfl⟩⟩, by omega, by omega⟩
 obtain ⟨n, hn, n0, n1⟩ := kids t.kids.length 0 0 (by omega) (by omega) (by have := bz t; omega)
 exact ⟨n, pz _ _ _ hn, n0, n1⟩
theorem qv (t : Tree) (ht : tbulk t ≤ 2000000) : ∃ b, cj t b ∧ (b = true → shapeK t = true) := by
 have h1 := mF t (by omega)
 cases hs : shapeK t with
 | false => rw [hs] at h1; exact ⟨false, fH 0 _ _ ⟨_, h1, fun h => by (cases h), fun _ => rfl⟩, fun h => (by cases h)⟩
 | true =>
  rw [hs] at h1
  obtain ⟨b, hb⟩ := Bj t ht
  exact ⟨b, fH 0 _ _ ⟨_, h1, fun _ => ⟨_, hb, rfl⟩, fun h => (by cases h)⟩, fun _ => rfl⟩
theorem AX (t : Tree) (ht : tbulk t ≤ 2000000) : ∃ s, iQ t s := by
 obtain ⟨b, hb, hs⟩ := qv t ht
 cases b with
 | false => exact ⟨[], ln 0 _ _ ⟨_, hb, fun _ => rfl, fun h => (by cases h)⟩⟩
 | true =>
  obtain ⟨l, e, z, q, _⟩ := vg t ht (hs rfl) [] (by simp; omega)
  have hq := q bL
  simp only [List.length_nil] at z
  have loop : ∀ k i (s : List UInt8), l.length - i ≤ k → s.length ≤ i * 4000020 → i ≤ l.length → ∃ r, bT (k + 1) l s i r := fun k => by
   induction k with
   | zero => intro i s hi hsl hil; exact ⟨_, cD 0 _ _ _ _ ⟨fun h => by omega, fun _ => rfl⟩⟩
   | succ k ihk =>
    intro i s hi hsl hil
    obtain ⟨x, hx, hxl⟩ | h' := aH l i
    ·obtain ⟨hx1, hx2⟩ := hq x (List.mem_of_getElem? hx)
     have hmul : (i + 1) * 4000020 = i * 4000020 + 4000020 := Nat.succ_mul _ _
     obtain ⟨r1, hr1⟩ := ihk (i + 1) (((s ++ [32]) ++ x.Lead) ++ x.Text) (by omega) (by simp only [List.length_append, List.length_cons, List.length_nil]; omega) (by omega)
     obtain ⟨r2, hr2⟩ := ihk (i + 1) ((s ++ x.Lead) ++ x.Text) (by omega) (by simp only [List.length_append]; omega) (by omega)
     have plain : s.length + x.Lead.length ≤ 9223372036854775807 ∧ ∃ y : Pce, l[i]? = some y ∧ (s ++ x.Lead).length + y.Text.length ≤ 9223372036854775807 ∧ bT (k + 1) l ((s ++ x.Lead) ++ y.Text) (i + 1) r2 := ⟨by omega, x, hx, by simp only [List.length_append]; omega, hr2⟩
     by_cases h0 : (0 : Int) < ((i : Nat) : Int)
     ·by_cases hle : x.Lead = []
      ·obtain ⟨y, hy, hyl⟩ | h' := aH l (i - 1)
       rotate_left
       ·omega
       obtain ⟨hy1, hy2⟩ := hq y (List.mem_of_getElem? hy)
       have hf := BM y.Text x.Text (by omega) (by omega)
       cases hb2 : fusesT y.Text x.Text with
       | true =>
        rw [hb2] at hf
        exact ⟨r1, cD (k + 1) _ _ _ _ ⟨fun _ => ⟨fun _ => ⟨x, hx, fun _ => ⟨by omega, i - 1, by omega, y, hy, x, hx, _, hf, fun _ => ⟨by simp only [List.length_cons, List.length_nil]; omega, x, hx, by simp only [List.length_append, List.length_cons, List.length_nil]; omega, x, hx, by simp only [List.length_append, List.length_cons, List.length_nil]; omega, hr1⟩, fun h => by (cases h)⟩, fun h => absurd hle h⟩, fun h => absurd h0 h⟩, fun h => absurd hxl h⟩⟩
       | false =>
        rw [hb2] at hf
        exact ⟨r2, cD (k + 1) _ _ _ _ ⟨fun _ => ⟨fun _ => ⟨x, hx, fun _ => ⟨by omega, i - 1, by omega, y, hy, x, hx, _, hf, fun h => by (cases h), fun _ => ⟨x, hx, plain⟩⟩, fun h => absurd hle h⟩, fun h => absurd h0 h⟩, fun h => absurd hxl h⟩⟩
      ·exact ⟨r2, cD (k + 1) _ _ _ _ ⟨fun _ => ⟨fun _ => ⟨x, hx, fun h => absurd h hle, fun _ => ⟨x, hx, plain⟩⟩, fun h => absurd h0 h⟩, fun h => absurd hxl h⟩⟩
     ·exact ⟨r2, cD (k + 1) _ _ _ _ ⟨fun _ => ⟨fun h => absurd h h0, fun _ => ⟨x, hx, plain⟩⟩, fun h => absurd hxl h⟩⟩
    ·exact ⟨s, cD (k + 1) _ _ _ _ ⟨fun h => absurd h h', fun _ => rfl⟩⟩
  obtain ⟨r, hr⟩ := loop l.length 0 [] (by omega) (by simp) (by omega)
  exact ⟨r, ln (l.length + 1) _ _ ⟨_, hb, fun h => by (cases h), fun _ => ⟨l, kW 0 _ _ ⟨_, e, rfl⟩, hr⟩⟩⟩
theorem AY (t : Tree) (ht : tbulk t ≤ 2000000) : ∃ b, en t b ∧ (b = true → shapeK t = true) := by
 obtain ⟨b, hb, hsh⟩ := qv t ht
 cases b with
 | false => exact ⟨false, fj 0 _ _ ⟨_, hb, fun h => by (cases h), fun _ => rfl⟩, fun h => (by cases h)⟩
 | true =>
  obtain ⟨b2, hb2⟩ := At t ht
  cases b2 with
  | false => exact ⟨false, fj 0 _ _ ⟨_, hb, fun _ => ⟨_, hb2, fun h => by (cases h), fun _ => rfl⟩, fun h => (by cases h)⟩, fun h => (by cases h)⟩
  | true =>
   obtain ⟨n, hn, _, _⟩ := BU t ht
   obtain ⟨s, hs⟩ := AX t ht
   by_cases h40 : n ≤ 40
   ·exact ⟨_, fj 0 _ _ ⟨_, hb, fun _ => ⟨_, hb2, fun _ => ⟨n, hn, fun _ => ⟨s, hs, rfl⟩, fun h => absurd h40 h⟩, fun h => (by cases h)⟩, fun h => (by cases h)⟩, fun _ => hsh rfl⟩
   ·exact ⟨false, fj 0 _ _ ⟨_, hb, fun _ => ⟨_, hb2, fun _ => ⟨n, hn, fun h => absurd h h40, fun _ => rfl⟩, fun h => (by cases h)⟩, fun h => (by cases h)⟩, fun h => (by cases h)⟩
end Go.Proofs.YtpnpdlnpikkeaaaGreat
namespace Go.Proofs.YtpnpdlnpikkeaaaGreat
open Go.RowKit Lx Sx
set_option maxRecDepth 100000
set_option maxHeartbeats 1000000
def aL : Nat → List UInt8 → List UInt8 → List (List UInt8)
 | m, acc, [] => if m = 2 then [acc] else []
 | m, acc, c :: r =>
  if m = 0 then (if c.toNat = 34 then aL 1 [] r else if c.toNat = 35 then aL 2 [c] r else aL 0 [] r)
  else if m = 1 then (if c.toNat = 34 then aL 0 [] r else aL 1 [] r)
  else (if c.toNat = 10 then acc :: aL 0 [] r else aL 2 (acc ++ [c]) r)
def ldM : Bool → List UInt8 → List UInt8 → List (List UInt8)
 | b, acc, [] => if b = true then [acc] else []
 | b, acc, c :: r => if b = true then (if c.toNat = 10 then acc :: ldM false [] r else ldM true (acc ++ [c]) r) else (if c.toNat = 35 then ldM true [c] r else ldM false [] r)
def cl (ls : List (List UInt8)) : List (List UInt8) := ls.flatMap (ldM false [])
theorem iE : cl [] = [] := rfl
theorem eQ (a : List UInt8) (l : List (List UInt8)) : cl (a :: l) = ldM false [] a ++ cl l := by simp [cl]
theorem iG (a b : List (List UInt8)) : cl (a ++ b) = cl a ++ cl b := by simp [cl]
theorem BR (a : List UInt8) (r : List UInt8) : aL 0 a r = aL 0 [] r := by cases r <;> simp [aL]
theorem nm : ∀ (l : List UInt8) (b : Bool) (acc rest : List UInt8), aU b l false = true → aL (if b = true then 2 else 0) acc (l ++ rest) = ldM b acc l ++ aL 0 [] rest
 | [], b, acc, rest, h => by
  cases b
  ·simp [ldM, BR]
  ·simp [aU] at h
 | c :: r, true, acc, rest, h => by
  rw [aU] at h
  split at h
  ·cases h
  ·rw [if_pos rfl] at h
   by_cases h10 : c.toNat = 10
   ·have := nm r false [] rest (by simpa [h10] using h)
    simpa [aL, ldM, h10] using this
   ·have := nm r true (acc ++ [c]) rest (by rw [show (c.toNat == 10) = false by simpa using h10] at h; exact h)
    simpa [aL, ldM, h10] using this
 | c :: r, false, acc, rest, h => by
  rw [aU] at h
  split at h
  ·cases h
  ·rw [if_neg (by decide)] at h
   by_cases h35 : c.toNat = 35
   ·have := nm r true [c] rest (by simpa [h35] using h)
    simpa [aL, ldM, h35] using this
   ·rw [if_neg h35] at h
    by_cases hw : bn c = false
    ·rw [if_pos hw] at h; cases h
    ·rw [if_neg hw] at h
     have h34 : ¬ c.toNat = 34 := fun e => hw (by simp [bn, e])
     have := nm r false [] rest h
     simpa [aL, ldM, h35, h34] using this
theorem nv : ∀ (l : List UInt8) (b : Bool) (acc : List UInt8), aU b l true = true → aL (if b = true then 2 else 0) acc l = ldM b acc l
 | [], b, acc, h => by cases b <;> simp [ldM, aL]
 | c :: r, true, acc, h => by
  rw [aU] at h
  split at h
  ·cases h
  ·rw [if_pos rfl] at h
   by_cases h10 : c.toNat = 10
   ·have := nv r false [] (by simpa [h10] using h)
    simpa [aL, ldM, h10] using this
   ·have := nv r true (acc ++ [c]) (by rw [show (c.toNat == 10) = false by simpa using h10] at h; exact h)
    simpa [aL, ldM, h10] using this
 | c :: r, false, acc, h => by
  rw [aU] at h
  split at h
  ·cases h
  ·rw [if_neg (by decide)] at h
   by_cases h35 : c.toNat = 35
   ·have := nv r true [c] (by simpa [h35] using h)
    simpa [aL, ldM, h35] using this
   ·rw [if_neg h35] at h
    by_cases hw : bn c = false
    ·rw [if_pos hw] at h; cases h
    ·rw [if_neg hw] at h
     have h34 : ¬ c.toNat = 34 := fun e => hw (by simp [bn, e])
     have := nv r false [] h
     simpa [aL, ldM, h35, h34] using this
def Cq (tok : List UInt8) : Prop := ∀ rest, aL 0 [] (tok ++ rest) = aL 0 [] rest
theorem gu : ∀ {tok : List UInt8}, (∀ c ∈ tok, c.toNat ≠ 34 ∧ c.toNat ≠ 35) → Cq tok
 | [], h => fun rest => rfl
 | c :: r, h => fun rest => by
  have h1 := h c (by simp)
  have := gu (tok := r) (fun x hx => h x (by simp [hx])) rest
  simpa [aL, h1.1, h1.2] using this
theorem ug : ∀ (body : List UInt8), (∀ c ∈ body, c.toNat ≠ 34) → ∀ rest, aL 1 [] (body ++ [34] ++ rest) = aL 0 [] rest
 | [], h, rest => by simp [aL]
 | c :: r, h, rest => by
  have h1 := h c (by simp)
  have := ug r (fun x hx => h x (by simp [hx])) rest
  simpa [aL, h1] using this
theorem nz (p : UInt8 → Bool) : ∀ (l : List UInt8) (c : UInt8), c ∈ l.take (spanN p l) → p c = true
 | [], c, h => by simp at h
 | x :: r, c, h => by
  unfold spanN at h
  rw [List.takeWhile_cons] at h
  split at h
  ·rename_i hx
   rw [List.length_cons, List.take_succ_cons] at h
   rcases List.mem_cons.1 h with rfl | h
   ·exact hx
   ·exact nz p r c h
  ·simp at h
theorem tF {c : UInt8} (h : aM c = true) : c.toNat ≠ 34 ∧ c.toNat ≠ 35 := by
 simp [aM, be, ce, upperB, bi] at h; omega
theorem tY : ∀ (r : List UInt8) (i : Nat), quotedT r i = (i + r.length, 0) → ∃ body, r = body ++ [34] ∧ ∀ c ∈ body, c.toNat ≠ 34
 | [], i, h => by simp [quotedT] at h
 | c :: r, i, h => by
  rw [quotedT] at h
  split at h
  ·simp at h
  ·split at h
   ·rename_i h34
    simp at h
    have : r = [] := by cases r with
     | nil => rfl
     | cons x y => simp at h
    subst this
    refine ⟨[], ?_, by simp⟩
    have : c = 34 := UInt8.toNat_inj.1 h34
    simp [this]
   ·split at h
    ·simp at h
    ·rename_i h34 _
     obtain ⟨b, hb, hq⟩ := tY r (i + 1) (by rw [h, List.length_cons]; congr 1; omega)
     exact ⟨c :: b, by simp [hb], fun x hx => by rcases List.mem_cons.1 hx with rfl | hx; exact h34; exact hq x hx⟩
theorem AZ {w : List UInt8} (h0 : (bF w).2.2 = 0) (hn : (bF w).2.1 = w.length) : ∀ c ∈ w, c.toNat ≠ 34 ∧ c.toNat ≠ 35 := by
 unfold bF at h0 hn
 split at h0
 ·rename_i hc
  rw [if_pos hc] at hn
  have hlen : spanN aM w + 1 + spanN aM (w.drop (spanN aM w + 1)) = w.length := by
   unfold dN at h0 hn
   repeat' split at h0
   all_goals first | exact absurd h0 (by decide) | simp_all
  simp only [cO, Bool.and_eq_true] at hc
  have h46 : (w.getD (spanN aM w) 0).toNat = 46 := by simpa using hc.1.2
  intro c hcm
  have hsplit : w = w.take (spanN aM w) ++ (w.drop (spanN aM w)) := (List.take_append_drop ..).symm
  rw [hsplit] at hcm
  rcases List.mem_append.1 hcm with h | h
  ·exact tF (nz _ _ _ h)
  ·have hlt : spanN aM w < w.length := by omega
   rw [List.drop_eq_getElem_cons hlt] at h
   rcases List.mem_cons.1 h with rfl | h
   ·have : w.getD (spanN aM w) 0 = w[spanN aM w] := by simp [List.getD, hlt]
    rw [this] at h46; omega
   ·have hall : (w.drop (spanN aM w + 1)).take (spanN aM (w.drop (spanN aM w + 1))) = w.drop (spanN aM w + 1) := List.take_of_length_le (by rw [List.length_drop]; omega)
    rw [← hall] at h
    exact tF (nz _ _ _ h)
 ·rename_i hc
  rw [if_neg hc] at hn
  have hlen : spanN aM w = w.length := by
   unfold bD at h0 hn
   repeat' split at h0
   all_goals first | exact absurd h0 (by decide) | simp_all
  intro c hcm
  have hall : w.take (spanN aM w) = w := List.take_of_length_le (by omega)
  rw [← hall] at hcm
  exact tF (nz _ _ _ hcm)
theorem lY {w : List UInt8} (h : aJ w ≠ 0) : Cq w := by
 unfold aJ at h
 split at h
 ·exact absurd rfl h
 ·rename_i hne
  split at h
  ·rename_i ht
   obtain ⟨h0, hn⟩ := ht
   have hd : w = w.getD 0 0 :: w.tail := by cases w with
    | nil => exact absurd rfl hne
    | cons a b => rfl
   unfold tokenT at h0 hn h
   dsimp only at h0 hn h
   split at h0
   ·cases h0
   ·rename_i ha; rw [if_neg ha] at hn h
    split at h0
    ·rename_i hl; rw [if_pos hl] at hn
     exact gu (AZ h0 hn)
    ·rename_i hl; rw [if_neg hl] at hn h
     split at h0
     ·rename_i hdg; rw [if_pos hdg] at hn
      have hN : (cU w).2 = 0 → (cU w).1 = spanN bi w := by
       unfold cU
       dsimp only
       split
       ·intro h; cases h
       ·split
        ·intro h; cases h
        ·intro _; rfl
      have hlen : spanN bi w = w.length := (hN h0).symm.trans hn
      refine gu fun c hcm => ?_
      have hall : w.take (spanN bi w) = w := List.take_of_length_le (by omega)
      rw [← hall] at hcm
      have := nz _ _ _ hcm
      simp [bi] at this; omega
     ·rename_i hdg; rw [if_neg hdg] at hn h
      split at h0
      ·rename_i hq; rw [if_pos hq] at hn
       obtain ⟨body, hb, hbq⟩ := tY w.tail 1 (by
        have h1 : (quotedT w.tail 1).2 = 0 := h0
        have h2 : (quotedT w.tail 1).1 = w.length := hn
        rw [show quotedT w.tail 1 = ((quotedT w.tail 1).1, (quotedT w.tail 1).2) from rfl, h1, h2]
        congr 1
        rw [List.length_tail]
        have : 0 < w.length := List.length_pos_iff.2 hne
        omega)
       intro rest
       rw [hd, hb]
       have := ug body hbq rest
       show aL 0 [] (w.getD 0 0 :: ((body ++ [34]) ++ rest)) = _
       rw [aL, if_pos rfl, if_pos hq]; exact this
      ·rename_i hq; rw [if_neg hq] at hn h
       split at h0
       ·rename_i he; rw [if_pos he] at hn
        have hl2 : w.length = 2 := by simpa using hn.symm
        match w, hl2, he with
        | [a, b], _, he =>
         refine gu fun c hc => ?_
         have h1 : a.toNat = 61 := he.1
         have h2 : b.toNat = 61 := he.2.2
         simp only [List.mem_cons, List.not_mem_nil, or_false] at hc
         rcases hc with rfl | rfl <;> omega
       ·rename_i he; rw [if_neg he] at hn h
        split at h0
        ·rename_i hs; rw [if_pos hs] at hn
         have hl1 : w.length = 1 := by simpa using hn.symm
         match w, hl1, hs with
         | [a], _, hs =>
          refine gu fun c hc => ?_
          simp only [List.mem_cons, List.not_mem_nil, or_false] at hc
          subst hc
          have : c ∈ signs := by simpa using hs
          simp only [signs, List.mem_cons, List.not_mem_nil, or_false] at this
          rcases this with rfl | rfl | rfl | rfl | rfl | rfl | rfl | rfl | rfl | rfl | rfl | rfl <;> decide
        ·cases h0
  ·exact absurd rfl h
theorem DT : Cq [] := fun _ => rfl
def Ap (s s' : WS) (cs : List (List UInt8)) : Prop := ∃ X, s'.2 = s.2 ++ X ∧ ∀ rest, aL 0 [] (X ++ rest) = cs ++ aL 0 [] rest
theorem Ap.t {s s1 s2 : WS} {a b : List (List UInt8)} (h1 : Ap s s1 a) (h2 : Ap s1 s2 b) : Ap s s2 (a ++ b) := by
 obtain ⟨X, e1, c1⟩ := h1
 obtain ⟨Y, e2, c2⟩ := h2
 exact ⟨X ++ Y, by rw [e2, e1, List.append_assoc], fun rest => by rw [List.append_assoc, c1, c2, List.append_assoc]⟩
theorem Ap.e {s s' : WS} {a b : List (List UInt8)} (h : Ap s s' a) (e : a = b) : Ap s s' b := e ▸ h
theorem Ap.nil0 {s : WS} : Ap s s [] := ⟨[], by simp, fun _ => rfl⟩
theorem Ap.put {lead tok : List UInt8} {s : WS} (hl : aU false lead false = true) (ht : Cq tok) : Ap s (ae lead tok s) (ldM false [] lead) := by
 refine ⟨iZ s.1 lead tok ++ tok, by simp [ae], fun rest => ?_⟩
 unfold iZ
 split
 ·rename_i h
  have := ht rest
  rw [h.1]
  simpa [aL, ldM] using this
 ·have h1 := nm lead false [] (tok ++ rest) hl
  rw [List.append_assoc]
  rw [ht rest] at h1
  simpa using h1
theorem Ap.list {ls : List (List UInt8)} {c : Nat} (hl : ∀ i, aU false (ls.getD i []) false = true) : ∀ (fs : List (WS → WS)) (gs : List (List (List UInt8))) (i : Nat) (s : WS), fs.length = gs.length → (∀ (j : Nat) (s : WS), Ap s (fs.getD j id s) (cl (gs.getD j []))) → Ap s (bf ls c fs i s) (cl (jn ls c gs i))
 | [], [], i, s, h, hk => Ap.nil0
 | f :: fs, g :: gs, i, s, h, hk => by
  rw [bf, jn]
  have hr := fun s => Ap.list (c := c) hl fs gs (i + 1) s (by simpa using h) (fun j s => by have := hk (j + 1) s; simpa using this)
  have hf := fun s => hk 0 s
  simp only [List.getD_cons_zero] at hf
  by_cases h0 : 0 < i
  ·rw [if_pos h0, if_pos h0]
   exact (((Ap.put (hl _) (gu (by decide))).t (hf _)).t (hr _)).e (by simp [cl])
  ·rw [if_neg h0, if_neg h0]
   exact ((hf _).t (hr _)).e (by simp [cl])
 | [], g :: gs, i, s, h, hk => by simp at h
 | f :: fs, [], i, s, h, hk => by simp at h
theorem Ap.fold : ∀ (fs : List (WS → WS)) (gs : List (List (List UInt8))) (s : WS), fs.length = gs.length → (∀ (j : Nat) (s : WS), Ap s (fs.getD j id s) (cl (gs.getD j []))) → Ap s (fs.foldl (fun s f => f s) s) (cl gs.flatten)
 | [], [], s, h, hk => Ap.nil0
 | f :: fs, g :: gs, s, h, hk => by
  have hr := fun s => Ap.fold fs gs s (by simpa using h) (fun j s => by have := hk (j + 1) s; simpa using this)
  have hf := fun s => hk 0 s
  simp only [List.getD_cons_zero] at hf
  exact ((hf s).t (hr _)).e (by simp [cl])
 | [], g :: gs, s, h, hk => by simp at h
 | f :: fs, [], s, h, hk => by simp at h
theorem tW {α : Type} (l : List α) (n j : Nat) (d : α) : (l.take n).getD j d = if j < n then l.getD j d else d := by
 simp only [List.getD_eq_getElem?_getD, List.getElem?_take]
 split <;> rfl
theorem tp {k : Int} {x : List UInt8} (h : mX k x = true) : Cq x := by
 unfold mX at h
 repeat' split at h
 ·exact lY (by intro e; simp [e] at h)
 ·exact lY (by intro e; simp [e] at h)
 ·exact lY (by intro e; simp [e] at h)
 ·exact lY (by intro e; simp [e] at h)
 ·exact lY (by intro e; simp [e] at h)
 ·exact lY (by intro e; simp [e] at h)
 ·refine gu ?_
  simp [uG] at h
  rcases h with (((h | h) | h) | h) | h <;> (subst h; decide)
 ·have : x = [] := by simpa using h
  subst this; exact DT
theorem AT {k : Int} {x : List UInt8} (h : Cq x) : Cq (cV k x) := by
 unfold cV
 repeat' split
 all_goals first | exact h | exact gu (by decide)
theorem Ap.node {k : Int} {x : List UInt8} {ls : List (List UInt8)} {fs : List (WS → WS)} {gs : List (List (List UInt8))} (hk1 : k ≠ 1) (hx : Cq x) (hl : ∀ i, aU false (ls.getD i []) false = true) (hfg : fs.length = gs.length) (hk : ∀ (j : Nat) (s : WS), Ap s (fs.getD j id s) (cl (gs.getD j []))) (s : WS) : Ap s (ew k x ls fs s) (cl (bN k ls gs)) := by
 have P : ∀ {i tok} {s : WS}, Cq tok → Ap s (ae (ls.getD i []) tok s) (ldM false [] (ls.getD i [])) := fun ht => Ap.put (hl _) ht
 have B : ∀ {tok : List UInt8}, (∀ c ∈ tok, c.toNat ≠ 34 ∧ c.toNat ≠ 35) → Cq tok := fun h => gu h
 have T : ∀ n (j : Nat) (s : WS), Ap s ((fs.take n).getD j id s) (cl ((gs.take n).getD j [])) := fun n j s => by
  rw [tW, tW]
  split
  ·exact hk j s
  ·exact Ap.nil0
 by_cases h2 : k = 2
 ·subst h2
  have e1 : ew 2 x ls fs s = (fs.getD (fs.length - 1) id (ae (ls.getD 5 []) [61] (fs.getD (fs.length - 2) id (ae (ls.getD 4 []) [58] (ae (ls.getD 3 []) [41] (bf ls 6 (fs.take (fs.length - 2)) 0 (ae (ls.getD 2 []) [40] (ae (ls.getD 1 []) x (ae (ls.getD 0 []) [100, 101, 102] s))))))))) := rfl
  have e2 : bN 2 ls gs = ((ls.getD 0 []) :: ((ls.getD 1 []) :: ((ls.getD 2 []) :: (jn ls 6 (gs.take (gs.length - 2)) 0 ++ ((ls.getD 3 []) :: ((ls.getD 4 []) :: (gs.getD (gs.length - 2) [] ++ ((ls.getD 5 []) :: gs.getD (gs.length - 1) [])))))))) := rfl
  rw [e1, e2]
  have hk1 := hk (fs.length - 1); have hk2 := hk (fs.length - 2)
  rw [hfg] at hk1 hk2
  rw [hfg]
  exact ((((((((((P (B (by decide))).t (P hx)).t (P (B (by decide)))).t (Ap.list hl _ _ _ _ (by rw [List.length_take, List.length_take, hfg]) (T _))).t (P (B (by decide)))).t (P (B (by decide)))).t (hk2 _)).t (P (B (by decide)))).t (hk1 _))).e (by simp only [eQ, iG, iE, List.append_assoc, List.append_nil])
 by_cases h3 : k = 3
 ·subst h3
  have e1 : ew 3 x ls fs s = (fs.getD (0) id (ae (ls.getD 2 []) [61] (ae (ls.getD 1 []) x (ae (ls.getD 0 []) [116, 121, 112, 101] s)))) := rfl
  have e2 : bN 3 ls gs = ((ls.getD 0 []) :: ((ls.getD 1 []) :: ((ls.getD 2 []) :: gs.getD (0) []))) := rfl
  rw [e1, e2]
  exact (((((P (B (by decide))).t (P hx)).t (P (B (by decide)))).t (hk _ _))).e (by simp only [eQ, iG, iE, List.append_assoc, List.append_nil])
 by_cases h4 : k = 4
 ·subst h4
  have e1 : ew 4 x ls fs s = (fs.getD (0) id (ae (ls.getD 1 []) [58] (ae (ls.getD 0 []) x s))) := rfl
  have e2 : bN 4 ls gs = ((ls.getD 0 []) :: ((ls.getD 1 []) :: gs.getD (0) [])) := rfl
  rw [e1, e2]
  exact ((((P hx).t (P (B (by decide)))).t (hk _ _))).e (by simp only [eQ, iG, iE, List.append_assoc, List.append_nil])
 by_cases h17 : k = 17
 ·subst h17
  have e1 : ew 17 x ls fs s = (fs.getD (0) id s) := rfl
  have e2 : bN 17 ls gs = gs.getD (0) [] := rfl
  rw [e1, e2]
  exact ((hk _ _)).e (by simp only [eQ, iG, iE, List.append_assoc, List.append_nil])
 by_cases h8 : k = 8
 ·subst h8
  have e1 : ew 8 x ls fs s = (ae (ls.getD 1 []) [93] (fs.getD (0) id (ae (ls.getD 0 []) [91] s))) := rfl
  have e2 : bN 8 ls gs = ((ls.getD 0 []) :: (gs.getD (0) [] ++ [(ls.getD 1 [])])) := rfl
  rw [e1, e2]
  exact ((((P (B (by decide))).t (hk _ _)).t (P (B (by decide))))).e (by simp only [eQ, iG, iE, List.append_assoc, List.append_nil])
 by_cases h16 : k = 16
 ·subst h16
  have e1 : ew 16 x ls fs s = (ae (ls.getD 2 []) [41] (bf ls 3 fs 0 (ae (ls.getD 1 []) [40] (ae (ls.getD 0 []) x s)))) := rfl
  have e2 : bN 16 ls gs = ((ls.getD 0 []) :: ((ls.getD 1 []) :: (jn ls 3 gs 0 ++ [(ls.getD 2 [])]))) := rfl
  rw [e1, e2]
  exact (((((P hx).t (P (B (by decide)))).t (Ap.list hl _ _ _ _ hfg hk)).t (P (B (by decide))))).e (by simp only [eQ, iG, iE, List.append_assoc, List.append_nil])
 by_cases h18 : k = 18
 ·subst h18
  have e1 : ew 18 x ls fs s = (ae (ls.getD 1 []) [93] (bf ls 2 fs 0 (ae (ls.getD 0 []) [91] s))) := rfl
  have e2 : bN 18 ls gs = ((ls.getD 0 []) :: (jn ls 2 gs 0 ++ [(ls.getD 1 [])])) := rfl
  rw [e1, e2]
  exact ((((P (B (by decide))).t (Ap.list hl _ _ _ _ hfg hk)).t (P (B (by decide))))).e (by simp only [eQ, iG, iE, List.append_assoc, List.append_nil])
 by_cases h19 : k = 19
 ·subst h19
  have e1 : ew 19 x ls fs s = (fs.getD (2) id (ae (ls.getD 2 []) [101, 108, 115, 101] (fs.getD (1) id (ae (ls.getD 1 []) [116, 104, 101, 110] (fs.getD (0) id (ae (ls.getD 0 []) [105, 102] s)))))) := rfl
  have e2 : bN 19 ls gs = ((ls.getD 0 []) :: (gs.getD (0) [] ++ ((ls.getD 1 []) :: (gs.getD (1) [] ++ ((ls.getD 2 []) :: gs.getD (2) []))))) := rfl
  rw [e1, e2]
  exact (((((((P (B (by decide))).t (hk _ _)).t (P (B (by decide)))).t (hk _ _)).t (P (B (by decide)))).t (hk _ _))).e (by simp only [eQ, iG, iE, List.append_assoc, List.append_nil])
 by_cases h20 : k = 20
 ·subst h20
  have e1 : ew 20 x ls fs s = (fs.getD (1) id (ae (ls.getD 3 []) [105, 110] (fs.getD (0) id (ae (ls.getD 2 []) [61] (ae (ls.getD 1 []) x (ae (ls.getD 0 []) [108, 101, 116] s)))))) := rfl
  have e2 : bN 20 ls gs = ((ls.getD 0 []) :: ((ls.getD 1 []) :: ((ls.getD 2 []) :: (gs.getD (0) [] ++ ((ls.getD 3 []) :: gs.getD (1) []))))) := rfl
  rw [e1, e2]
  exact (((((((P (B (by decide))).t (P hx)).t (P (B (by decide)))).t (hk _ _)).t (P (B (by decide)))).t (hk _ _))).e (by simp only [eQ, iG, iE, List.append_assoc, List.append_nil])
 by_cases h21 : k = 21
 ·subst h21
  have e1 : ew 21 x ls fs s = (fs.getD (1) id (ae (ls.getD 0 []) x (fs.getD (0) id s))) := rfl
  have e2 : bN 21 ls gs = (gs.getD (0) [] ++ ((ls.getD 0 []) :: gs.getD (1) [])) := rfl
  rw [e1, e2]
  exact ((((hk _ _).t (P hx)).t (hk _ _))).e (by simp only [eQ, iG, iE, List.append_assoc, List.append_nil])
 by_cases h22 : k = 22
 ·subst h22
  have e1 : ew 22 x ls fs s = (ae (ls.getD 1 []) [41] (fs.getD (0) id (ae (ls.getD 0 []) [40] s))) := rfl
  have e2 : bN 22 ls gs = ((ls.getD 0 []) :: (gs.getD (0) [] ++ [(ls.getD 1 [])])) := rfl
  rw [e1, e2]
  exact ((((P (B (by decide))).t (hk _ _)).t (P (B (by decide))))).e (by simp only [eQ, iG, iE, List.append_assoc, List.append_nil])
 have e1 : ew k x ls fs s = ae (ls.getD 0 []) (cV k x) s := by simp only [ew, hk1, h2, h3, h4, h17, h8, h16, h18, h19, h20, h21, h22, or_self, if_false]
 have e2 : bN k ls gs = [ls.getD 0 []] := by simp only [bN, hk1, h2, h3, h4, h17, h8, h16, h18, h19, h20, h21, h22, if_false]
 rw [e1, e2]
 exact (P (AT hx)).e (by simp [cl])
theorem tX : ∀ {k : Int} {ls : List (List UInt8)} {i : Nat}, k ≠ 1 → dx k ls i = true → ∀ j, aU false (ls.getD j []) false = true
 | k, [], i, hk, h, j => by simp [aU]
 | k, l :: r, i, hk, h, 0 => by
  simp only [dx, Bool.and_eq_true] at h
  have h1 := h.1
  rw [show (k == 1) = false from by simpa using hk, Bool.false_and] at h1
  exact h1
 | k, l :: r, i, hk, h, j + 1 => by
  simp only [dx, Bool.and_eq_true] at h
  have := tX hk h.2 j
  simpa using this
theorem sn : ∀ {ls : List (List UInt8)} {i : Nat}, dx 1 ls i = true → ∀ j, i + j ≠ 2 → aU false (ls.getD j []) false = true
 | [], i, h, j, hj => by simp [aU]
 | l :: r, i, h, 0, hj => by
  simp only [dx, Bool.and_eq_true] at h
  have h1 := h.1
  rw [show ((i : Int) == 2) = false from by simp; omega, Bool.and_false] at h1
  exact h1
 | l :: r, i, h, j + 1, hj => by
  simp only [dx, Bool.and_eq_true] at h
  have := sn h.2 j (by omega)
  simpa using this
theorem ue : ∀ {ls : List (List UInt8)} {i : Nat}, dx 1 ls i = true → ∀ j, i + j = 2 → aU false (ls.getD j []) true = true
 | [], i, h, j, hj => by simp [aU]
 | l :: r, i, h, 0, hj => by
  simp only [dx, Bool.and_eq_true] at h
  have h1 := h.1
  rw [show ((i : Int) == 2) = true from by simp; omega] at h1
  exact h1
 | l :: r, i, h, j + 1, hj => by
  simp only [dx, Bool.and_eq_true] at h
  have := ue h.2 j (by omega)
  simpa using this
theorem nc : ∀ {ks : List Tree} {i : Nat} {u : Tree}, leadedsT ks = true → ks[i]? = some u → leadedT u = true
 | [], i, u, h, hu => by simp at hu
 | t :: r, 0, u, h, hu => by
  simp only [leadedsT, Bool.and_eq_true] at h
  simp at hu; subst hu; exact h.1
 | t :: r, i + 1, u, h, hu => by
  simp only [leadedsT, Bool.and_eq_true] at h
  exact nc h.2 (by simpa using hu)
theorem mI : ∀ {k : Int} {n : Nat} {ks : List Tree} {j i : Nat} {u : Tree}, kidsT k n ks j = true → ks[i]? = some u → oO k n (j + i) u.kind = true ∧ shapedT u = true
 | k, n, [], j, i, u, h, hu => by simp at hu
 | k, n, t :: r, j, 0, u, h, hu => by
  simp only [kidsT, Bool.and_eq_true] at h
  simp at hu; subst hu; exact h.1
 | k, n, t :: r, j, i + 1, u, h, hu => by
  simp only [kidsT, Bool.and_eq_true] at h
  have := mI h.2 (by simpa using hu : r[i]? = some u)
  rwa [show j + 1 + i = j + (i + 1) by omega] at this
theorem xu {k : Int} {n i : Nat} {kk : Int} (h : oO k n i kk = true) : kk ≠ 1 := by
 intro e
 subst e
 unfold oO at h
 repeat' split at h
 all_goals (revert h; simp [nb, pa, qP])
theorem xQ {ks : List Tree} {i : Nat} {u : Tree} (h : ks[i]? = some u) : (treesP ks).getD i id = treeP u := by
 obtain ⟨hl, rfl⟩ := List.getElem?_eq_some_iff.1 h
 exact qN hl
theorem xw {ks : List Tree} (h : ∀ (i : Nat) (u : Tree), ks[i]? = some u → ∀ s, Ap s (treeP u s) (cl (ldT u))) (j : Nat) (s : WS) : Ap s ((treesP ks).getD j id s) (cl ((ldTs ks).getD j [])) := by
 rcases aH ks j with ⟨u, hu, _⟩ | hj
 ·rw [xQ hu, List.getD_eq_getElem?_getD, dq hu]
  exact h j u hu s
 ·rw [List.getD_eq_getElem?_getD, List.getD_eq_getElem?_getD, List.getElem?_eq_none (by rw [eU]; omega), List.getElem?_eq_none (by rw [pn]; omega)]
  exact Ap.nil0
theorem th {t : Tree} (h : shapedT t = true) : 0 ≤ bH t.kind t.kids.length ∧ mX t.kind t.text = true ∧ kidsT t.kind t.kids.length t.kids 0 = true := by
 cases t
 simp only [shapedT, Bool.and_eq_true, decide_eq_true_eq] at h
 exact ⟨h.1.1, h.1.2, h.2⟩
theorem sE {t : Tree} (h : leadedT t = true) : (t.leads.length : Int) = bH t.kind t.kids.length ∧ dx t.kind t.leads 0 = true ∧ leadedsT t.kids = true := by
 cases t
 simp only [leadedT, Bool.and_eq_true, decide_eq_true_eq] at h
 exact ⟨h.1.1, h.1.2, h.2⟩
theorem uX (t : Tree) : treeP t = ew t.kind t.text t.leads (treesP t.kids) := by cases t; simp only [treeP]; rfl
theorem ws : ∀ t : Tree, t.kind ≠ 1 → shapedT t = true → leadedT t = true → ∀ s, Ap s (treeP t s) (cl (ldT t)) := dc fun t ih hk hs hl s => by
 obtain ⟨h1, h2, h3⟩ := th hs
 obtain ⟨g1, g2, g3⟩ := sE hl
 rw [uX, dl]
 exact Ap.node hk (tp h2) (tX hk g2) (by rw [eU, pn]) (xw fun i u hu s => ih i u hu (xu (mI h3 hu).1) (mI h3 hu).2 (nc g3 hu) s) s
theorem rH {t : Tree} (hs : shapedT t = true) (hl : leadedT t = true) : aL 0 [] (ja t) = cl (ldT t) := by
 by_cases hk : t.kind = 1
 ·obtain ⟨h1, h2, h3⟩ := th hs
  obtain ⟨g1, g2, g3⟩ := sE hl
  rw [hk] at g2 h3
  have hkids := xw fun i u hu s => ws u (xu (mI h3 hu).1) (mI h3 hu).2 (nc g3 hu) s
  have hA := ((Ap.put (s := ([], [])) (sn g2 0 (by decide)) (gu (tok := [109, 111, 100, 117, 108, 101]) (by decide))).t (Ap.put (sn g2 1 (by decide)) (tp h2))).t (Ap.fold (treesP t.kids) (ldTs t.kids) _ (by rw [eU, pn]) hkids)
  obtain ⟨X, e, c⟩ := hA
  have ht : ja t = X ++ t.leads.getD 2 [] := by
   unfold ja
   rw [uX, hk]
   show _ ++ _ = _
   rw [e]; rfl
  have hL : ldT t = t.leads.getD 0 [] :: t.leads.getD 1 [] :: ((ldTs t.kids).flatten ++ [t.leads.getD 2 []]) := by rw [dl, hk]; rfl
  rw [ht, c, hL]
  have := nv (t.leads.getD 2 []) false [] (ue g2 2 rfl)
  rw [if_neg (by decide)] at this
  rw [this]
  simp only [eQ, iG, iE, List.append_assoc, List.append_nil]
 ·obtain ⟨X, e, c⟩ := ws t hk hs hl ([], [])
  have := c []
  rw [List.append_nil] at this
  unfold ja
  rw [e]
  simpa [aL] using this
end Go.Proofs.YtpnpdlnpikkeaaaGreat
namespace Go.Proofs.YtpnpdlnpikkeaaaGreat
open Go.RowKit Lx Sx
set_option maxRecDepth 100000
set_option maxHeartbeats 4000000
def pU (p0 : Tree) (r0 : List UInt8) : Prop := qS 35 [.agg (aj p0)] (.str r0)
def nn (p0 : List UInt8) (p1 r0 : Bool) : Prop := qS 61 [.str p0, .bool p1] (.bool r0)
def je (p0 : Tree) (r0 : Bool) : Prop := qS 34 [.agg (aj p0)] (.bool r0)
def jD (p0 : Tree) (r0 : List UInt8) : Prop := qS 19 [.agg (aj p0)] (.str r0)
def dT (p0 : Tree) (r0 : (List (List UInt8))) : Prop := qS 12 [.agg (aj p0)] (.row 1 (List.map V.str r0))
def gH (p0 : Tree) (r0 : (List (List UInt8))) : Prop := qS 13 [.agg (aj p0)] (.row 1 (List.map V.str r0))
def eb (p0 : (List (List UInt8))) (p1 : (List (List UInt8))) (r0 : Bool) : Prop := qS 11 [.row 1 (List.map V.str p0), .row 1 (List.map V.str p1)] (.bool r0)
def ep (m : Nat) (p0 : Tree) (a : Nat) (r0 : Bool) : Prop := ∀ (K : Ctx) (j1 : Nat), aB K [] → m ≤ j1 → qLG K Tryz.f34 (fun u _ => u = .bool r0) (xH (ac Tryz.f34)) [.loop (xH (ac Tryz.f34)) j1, .blk 0, .seq (xI (ac Tryz.f34))] 47 (mkF 47 0 [(1, .box (aj p0) 0), (18, .row 1 (List.map V.str p0.leads)), (19, .int .i64 (p0.leads.length : Int)), (20, .int .i64 (a : Int))]) ⟨0, []⟩
def fF (m : Nat) (p0 : Tree) (a : Nat) (r0 : Bool) : Prop := ∀ (K : Ctx) (j1 : Nat), aB K [] → m ≤ j1 → qLG K Tryz.f34 (fun u _ => u = .bool r0) (xN (ac Tryz.f34)) [.loop (xN (ac Tryz.f34)) j1, .blk 2, .seq (xJ (ac Tryz.f34))] 47 (mkF 47 0 [(37, .row 4 (kidsV p0.kids)), (38, .int .i64 (p0.kids.length : Int)), (39, .int .i64 (a : Int))]) ⟨0, []⟩
theorem nj (m : Nat) (p0 : Tree) (r0 : Bool) (h : ∃ a, hV p0.kind (p0.kids.length : Int) a ∧ (((p0.leads.length : Int) ≠ a) → false = r0) ∧ (((p0.leads.length : Int) = a) → ep m p0 0 r0)) : je p0 r0 := by
 refine ⟨rfl, rfl, ?_⟩
 refine am 47 [] Tryz.func34 rfl rfl rfl (aQ rfl) fun K hK => ?_
 refine gR 3 rfl <| gFP 0 rfl rfl rfl rfl <| gR 5 rfl <| gDs [] 10 10 rfl (by kernel_rfl) (by kernel_rfl) <| gDr [(0, 2), (1, 2), (2, 2)] (by kernel_rfl) rfl rfl <| gV 9 (.int .i64 (p0.leads.length : Int)) rfl (bo (aP V.str _)) rfl <| gLB 8 rfl (aP V.str _) fun hl33 => gDr [(3, 2), (4, 2), (5, 0), (6, 0), (7, 0)] (by kernel_rfl) rfl rfl <| gV 14 (.int .i64 (p0.kids.length : Int)) rfl (bo (aR _)) rfl <| gLB 13 rfl (aR _) fun hl34 => ?_
 obtain ⟨a, hs35, h⟩ := h
 refine aW 8 hs35 (by kernel_rfl) rfl (by kernel_rfl) rfl rfl .rfl rfl rfl ?_
 refine gDr [(9, 0)] (by kernel_rfl) rfl rfl <| gDe (by kernel_rfl) <| gR 1 rfl <| gB 16 rfl rfl rfl ?_ ?_ <;> intro hd
 replace hd := (gw hd)
 replace h := h.1 hd
 refine gR 8 rfl ?_
 subst h
 exact go_end ab (rs := [.tmp 2]) rfl rfl rfl
 replace hd := (ey hd)
 replace h := h.2 hd
 exact gR 9 rfl <| gV 19 (.int .i64 (p0.leads.length : Int)) rfl (bo (aP V.str _)) rfl <| gR 4 rfl <| go_loop m <| gJ (h K _ hK (by omega)) [] [] rfl hK pq4 trivial rfl
theorem jX (m : Nat) (p0 : Tree) (a : Nat) (r0 : Bool) (h : ((a < p0.leads.length) → ∃ b, p0.leads[a]? = some b ∧ ((p0.kind = 1) → ∃ c, nn b ((a : Int) == 2) c ∧ ((c = false) → false = r0) ∧ ((c = true) → a + 1 ≤ 9223372036854775807 ∧ ep m p0 (a + 1) r0)) ∧ ((p0.kind ≠ 1) → ∃ d, nn b false d ∧ ((d = false) → false = r0) ∧ ((d = true) → a + 1 ≤ 9223372036854775807 ∧ ep m p0 (a + 1) r0))) ∧ ((¬ a < p0.leads.length) → fF m p0 0 r0)) : ep (m + 1) p0 a r0 := by
 intro K j1 hK hj1
 obtain ⟨j1, rfl⟩ : ∃ j, j1 = j + 1 := ⟨j1 - 1, by omega⟩
 refine gR 6 rfl <| gB 21 rfl rfl rfl ?_ ?_ <;> intro hd
 replace hd := (dX hd)
 replace h := h.1 hd
 refine gR 8 rfl ?_
 obtain ⟨b, hxs1_1, h⟩ := h
 refine gY (bc (mapget (f := V.str) hxs1_1) ab rfl rfl rfl rfl) rfl rfl <| gR 12 rfl <| gB 29 rfl rfl rfl ?_ ?_ <;> intro hd
 refine gT 28 rfl hd rfl ?_
 replace hd := (eq_of_beq hd)
 replace h := h.1 hd
 refine gR 3 rfl ?_
 obtain ⟨c, hs36, h⟩ := h
 refine gC0 hs36 (by kernel_rfl) rfl rfl .rfl rfl <| gR 3 rfl <| gB 34 rfl rfl rfl ?_ ?_ <;> intro hd
 replace hd := (cg hd)
 replace h := h.1 hd
 refine gR 9 rfl <| go_xloopR <| gR 2 rfl ?_
 subst h
 exact go_end ab (rs := [.tmp 2]) rfl rfl rfl
 replace hd := (cf hd)
 replace h := h.2 hd
 refine gR 5 rfl ?_
 obtain ⟨hb, h⟩ := h
 exact gR 1 rfl <| gV 35 (.int .i64 ((a + 1 : Nat) : Int)) rfl (au (by omega) (by omega)) rfl <| gR 2 rfl <| go_xloop <| gJ (h K _ hK (by omega)) [] [] rfl hK pq4 trivial rfl
 refine gF 28 rfl hd rfl ?_
 replace hd := (ne_of_beq_false hd)
 replace h := h.2 hd
 refine gR 3 rfl ?_
 obtain ⟨d, hs37, h⟩ := h
 refine gC0 hs37 (by kernel_rfl) rfl rfl .rfl rfl <| gR 3 rfl <| gB 34 rfl rfl rfl ?_ ?_ <;> intro hd
 replace hd := (cg hd)
 replace h := h.1 hd
 refine gR 9 rfl <| go_xloopR <| gR 2 rfl ?_
 subst h
 exact go_end ab (rs := [.tmp 2]) rfl rfl rfl
 replace hd := (cf hd)
 replace h := h.2 hd
 refine gR 5 rfl ?_
 obtain ⟨hb, h⟩ := h
 exact gR 1 rfl <| gV 35 (.int .i64 ((a + 1 : Nat) : Int)) rfl (au (by omega) (by omega)) rfl <| gR 2 rfl <| go_xloop <| gJ (h K _ hK (by omega)) [] [] rfl hK pq4 trivial rfl
 replace hd := (dW hd)
 replace h := h.2 hd
 exact gR 3 rfl <| go_xloopE <| gR 8 rfl <| gV 38 (.int .i64 (p0.kids.length : Int)) rfl (bo (aR _)) rfl <| gLB 37 rfl (aR _) fun hl38 => gR 4 rfl <| go_loop m <| gJ (h K _ hK (by omega)) [] [] rfl hK pq3 trivial rfl
theorem mO (m : Nat) (p0 : Tree) (a : Nat) (r0 : Bool) (h : ((a < p0.kids.length) → ∃ c, p0.kids[a]? = some c ∧ ∃ b, je c b ∧ ((b = false) → false = r0) ∧ ((b = true) → a + 1 ≤ 9223372036854775807 ∧ fF m p0 (a + 1) r0)) ∧ ((¬ a < p0.kids.length) → true = r0)) : fF (m + 1) p0 a r0 := by
 intro K j1 hK hj1
 obtain ⟨j1, rfl⟩ : ∃ j, j1 = j + 1 := ⟨j1 - 1, by omega⟩
 refine gR 6 rfl <| gB 40 rfl rfl rfl ?_ ?_ <;> intro hd
 replace hd := (dX hd)
 replace h := h.1 hd
 refine gR 7 rfl ?_
 obtain ⟨c, hxt2_1, h⟩ := h
 refine gY (bc (aw hxt2_1) ab rfl rfl rfl rfl) rfl rfl <| gR 8 rfl ?_
 obtain ⟨b, hs39, h⟩ := h
 refine gC0 hs39 (by kernel_rfl) rfl rfl .rfl rfl <| gR 3 rfl <| gB 45 rfl rfl rfl ?_ ?_ <;> intro hd
 replace hd := (cg hd)
 replace h := h.1 hd
 refine gR 9 rfl <| go_xloopR <| gR 2 rfl ?_
 subst h
 exact go_end ab (rs := [.tmp 2]) rfl rfl rfl
 replace hd := (cf hd)
 replace h := h.2 hd
 refine gR 5 rfl ?_
 obtain ⟨hb, h⟩ := h
 exact gR 1 rfl <| gV 46 (.int .i64 ((a + 1 : Nat) : Int)) rfl (au (by omega) (by omega)) rfl <| gR 2 rfl <| go_xloop <| gJ (h K _ hK (by omega)) [] [] rfl hK pq3 trivial rfl
 replace hd := (dW hd)
 replace h := h.2 hd
 refine gR 3 rfl <| go_xloopE <| gR 8 rfl ?_
 subst h
 exact go_end ab (rs := [.tmp 2]) rfl rfl rfl
theorem sB (m : Nat) (p0 : Tree) (r0 : List UInt8) (h : ∃ a, eM p0 a ∧ ((a = false) → [] = r0) ∧ ((a = true) → ∃ b, je p0 b ∧ ((b = false) → [] = r0) ∧ ((b = true) → ∃ c, pU p0 c ∧ c = r0))) : jD p0 r0 := by
 refine ⟨rfl, rfl, ?_⟩
 refine am 13 [] Tryz.func19 rfl rfl rfl (aQ rfl) fun K hK => ?_
 refine gR 3 rfl <| gFP 0 rfl rfl rfl rfl <| gR 7 rfl ?_
 obtain ⟨a, hs4, h⟩ := h
 refine gC0 hs4 (by kernel_rfl) rfl rfl .rfl rfl <| gR 2 rfl <| qBhZ 6 5 rfl rfl rfl rfl h cg cf (fun h => ?_) fun h => ?_
 refine gR 14 rfl ?_
 subst h
 exact go_end ab (rs := [.tmp 2]) rfl rfl rfl
 refine gR 1 rfl ?_
 obtain ⟨b, hs5, h⟩ := h
 refine gC0 hs5 (by kernel_rfl) rfl rfl .rfl rfl <| gR 4 rfl <| qBh 10 rfl rfl rfl h cg cf (fun h => ?_) fun h => ?_
 refine gR 8 rfl ?_
 subst h
 exact go_end ab (rs := [.tmp 2]) rfl rfl rfl
 refine gR 6 rfl ?_
 obtain ⟨c, hs6, h⟩ := h
 refine gC0 hs6 (by kernel_rfl) rfl rfl .rfl rfl <| gR 4 rfl ?_
 subst h
 exact go_end ab (rs := [.tmp 2]) rfl rfl rfl
def bI (m : Nat) (a : List UInt8) (b : Nat) (c : (List (List UInt8))) (r0 : (List (List UInt8))) : Prop := ∀ (K : Ctx) (j1 : Nat), aB K [] → m ≤ j1 → qLG K Tryz.f12 (fun u _ => u = .row 1 (List.map V.str r0)) (xN (ac Tryz.f12)) [.loop (xN (ac Tryz.f12)) j1, .blk 0, .seq (xJ (ac Tryz.f12))] 57 (mkF 57 0 [(3, .str a), (4, .sl 0), (5, .int .i64 (b : Int))]) ⟨1, [(0, .row 9 1 (List.map V.str c))]⟩
def gi (m : Nat) (a : List UInt8) (b : Nat) (c : (List (List UInt8))) (r0 : (List (List UInt8))) : Prop := ∀ (K : Ctx) (j1 j2 : Nat), aB K [] → m ≤ j1 → m ≤ j2 → qLG K Tryz.f12 (fun u _ => u = .row 1 (List.map V.str r0)) (cL (xD (xM (cK (xA (cK (cA (cB (xN (ac Tryz.f12)))))))))) [.loop (cL (xD (xM (cK (xA (cK (cA (cB (xN (ac Tryz.f12)))))))))) j1, .blk 3, .blk 2, .blk 1, .seq (xA (xN (ac Tryz.f12))), .loop (xN (ac Tryz.f12)) j2, .blk 0, .seq (xJ (ac Tryz.f12))] 57 (mkF 57 0 [(3, .str a), (4, .sl 0), (5, .int .i64 (b : Int))]) ⟨1, [(0, .row 9 1 (List.map V.str c))]⟩
def eF (m : Nat) (a : List UInt8) (b : Nat) (c : (List (List UInt8))) (d : Nat) (r0 : (List (List UInt8))) : Prop := ∀ (K : Ctx) (j1 j2 : Nat), aB K [] → m ≤ j1 → m ≤ j2 → qLG K Tryz.f12 (fun u _ => u = .row 1 (List.map V.str r0)) (cL (cK (cA (xM (xB (cK (xA (cK (cA (cB (xN (ac Tryz.f12)))))))))))) [.loop (cL (cK (cA (xM (xB (cK (xA (cK (cA (cB (xN (ac Tryz.f12)))))))))))) j1, .blk 5, .seq (cB (xM (xB (cK (xA (cK (cA (cB (xN (ac Tryz.f12)))))))))), .blk 2, .blk 1, .seq (xA (xN (ac Tryz.f12))), .loop (xN (ac Tryz.f12)) j2, .blk 0, .seq (xJ (ac Tryz.f12))] 57 (mkF 57 0 [(3, .str a), (4, .sl 0), (5, .int .i64 (b : Int)), (6, .int .i64 (d : Int))]) ⟨1, [(0, .row 9 1 (List.map V.str c))]⟩
theorem mz (m : Nat) (p0 : Tree) (r0 : (List (List UInt8))) (h : ∃ a, jD p0 a ∧ bI m a 0 ([] : List (List UInt8)) r0) : dT p0 r0 := by
 refine ⟨rfl, rfl, ?_⟩
 refine am 57 [] Tryz.func12 rfl rfl rfl (aQ rfl) fun K hK => ?_
 refine gR 3 rfl <| gFP 0 rfl rfl rfl rfl <| gR 6 rfl ?_
 obtain ⟨a, hs4, h⟩ := h
 exact gC0 hs4 (by kernel_rfl) rfl rfl .rfl rfl <| gR 15 rfl <| go_loop m <| gNS 4 9 1 rfl rfl rfl rfl <| gJ (h K _ hK (by omega)) [1] [] rfl hK pq3 ⟨⟨_, rfl, rfl, rfl, rfl⟩, trivial⟩ rfl
theorem eo (m : Nat) (c : List UInt8) (a : Nat) (b : (List (List UInt8))) (r0 : (List (List UInt8))) (h : ((a < c.length) → ∃ d, c[a]? = some d ∧ (((d.toNat : Int) = 34) → a + 1 ≤ 9223372036854775807 ∧ gi m c (a + 1) b r0) ∧ (((d.toNat : Int) ≠ 34) → (((d.toNat : Int) = 35) → eF m c a b a r0) ∧ (((d.toNat : Int) ≠ 35) → a + 1 ≤ 9223372036854775807 ∧ bI m c (a + 1) b r0))) ∧ ((¬ a < c.length) → b = r0)) : bI (m + 1) c a b r0 := by
 intro K j1 hK hj1
 obtain ⟨j1, rfl⟩ : ∃ j, j1 = j + 1 := ⟨j1 - 1, by omega⟩
 refine gR 9 rfl <| gB 12 rfl rfl rfl ?_ ?_ <;> intro hd
 replace hd := (dX hd)
 replace h := h.1 hd
 refine gR 15 rfl ?_
 obtain ⟨d, hxc1_1, h⟩ := h
 refine gY (yIS ab rfl rfl rfl hxc1_1) rfl rfl <| gR 9 rfl <| gB 19 rfl rfl rfl ?_ ?_ <;> intro hd
 refine gT 20 rfl hd rfl ?_
 replace hd := (eq_of_beq hd)
 replace h := h.1 hd
 refine gR 4 rfl ?_
 obtain ⟨hb, h⟩ := h
 exact gR 1 rfl <| gV 22 (.int .i64 ((a + 1 : Nat) : Int)) rfl (au (by omega) (by omega)) rfl <| gR 4 rfl <| go_loop m <| gJ (h K _ _ hK (by omega) (by omega)) [0] [] rfl hK pq3 ⟨⟨_, rfl, rfl, rfl, (ak _ V.str (fun _ => rfl) b).symm⟩, trivial⟩ rfl
 refine gF 20 rfl hd rfl ?_
 replace hd := (ne_of_beq_false hd)
 replace h := h.2 hd
 refine gR 7 rfl <| gB 35 rfl rfl rfl ?_ ?_ <;> intro hd
 refine gT 36 rfl hd rfl ?_
 replace hd := (eq_of_beq hd)
 replace h := h.1 hd
 exact gR 3 rfl <| go_loop m <| gJ (h K _ _ hK (by omega) (by omega)) [0] [] rfl hK pq4 ⟨⟨_, rfl, rfl, rfl, (ak _ V.str (fun _ => rfl) b).symm⟩, trivial⟩ rfl
 refine gF 36 rfl hd rfl ?_
 replace hd := (ne_of_beq_false hd)
 replace h := h.2 hd
 refine gR 7 rfl ?_
 obtain ⟨hb, h⟩ := h
 exact gR 1 rfl <| gV 14 (.int .i64 ((a + 1 : Nat) : Int)) rfl (au (by omega) (by omega)) rfl <| gR 2 rfl <| go_xloop <| gJ (h K _ hK (by omega)) [0] [] rfl hK pq3 ⟨⟨_, rfl, rfl, rfl, (ak _ V.str (fun _ => rfl) b).symm⟩, trivial⟩ rfl
 replace hd := (dW hd)
 replace h := h.2 hd
 refine gR 3 rfl <| go_xloopE <| gR 9 rfl <| gFR 0 rfl (iX _ (fun _ => rfl) _) rfl rfl ?_
 subst h
 exact go_end ab (rs := [.tmp 2]) rfl rfl rfl
theorem iM (m : Nat) (b : List UInt8) (a : Nat) (c : (List (List UInt8))) (r0 : (List (List UInt8))) (h : ((a < b.length) → ∃ d, b[a]? = some d ∧ (((d.toNat : Int) ≠ 34) → a + 1 ≤ 9223372036854775807 ∧ gi m b (a + 1) c r0) ∧ (((d.toNat : Int) = 34) → a + 1 ≤ 9223372036854775807 ∧ bI m b (a + 1) c r0)) ∧ ((¬ a < b.length) → a + 1 ≤ 9223372036854775807 ∧ bI m b (a + 1) c r0)) : gi (m + 1) b a c r0 := by
 intro K j1 j2 hK hj1 hj2
 obtain ⟨j1, rfl⟩ : ∃ j, j1 = j + 1 := ⟨j1 - 1, by omega⟩
 obtain ⟨j2, rfl⟩ : ∃ j, j2 = j + 1 := ⟨j2 - 1, by omega⟩
 refine gR 8 rfl <| gB 27 rfl rfl rfl ?_ ?_ <;> intro hd
 refine gT 26 rfl hd rfl ?_
 replace hd := (dX hd)
 replace h := h.1 hd
 refine gR 2 rfl ?_
 obtain ⟨d, hxc2_1, h⟩ := h
 refine gY (yIS ab rfl rfl rfl hxc2_1) rfl rfl <| gR 4 rfl <| gB 32 rfl rfl rfl ?_ ?_ <;> intro hd
 replace hd := (gw hd)
 replace h := h.1 hd
 refine gR 10 rfl ?_
 obtain ⟨hb, h⟩ := h
 exact gR 1 rfl <| gV 34 (.int .i64 ((a + 1 : Nat) : Int)) rfl (au (by omega) (by omega)) rfl <| gR 2 rfl <| go_xloop <| gJ (h K _ _ hK (by omega) (by omega)) [0] [] rfl hK pq3 ⟨⟨_, rfl, rfl, rfl, (ak _ V.str (fun _ => rfl) c).symm⟩, trivial⟩ rfl
 replace hd := (ey hd)
 replace h := h.2 hd
 refine gR 3 rfl <| go_xloopE <| gR 6 rfl ?_
 obtain ⟨hb, h⟩ := h
 exact gR 1 rfl <| gV 14 (.int .i64 ((a + 1 : Nat) : Int)) rfl (au (by omega) (by omega)) rfl <| gR 2 rfl <| go_xloop <| gJ (h K _ hK (by omega)) [0] [] rfl hK pq3 ⟨⟨_, rfl, rfl, rfl, (ak _ V.str (fun _ => rfl) c).symm⟩, trivial⟩ rfl
 refine gF 26 rfl hd rfl ?_
 replace hd := (dW hd)
 replace h := h.2 hd
 refine gR 10 rfl <| go_xloopE <| gR 6 rfl ?_
 obtain ⟨hb, h⟩ := h
 exact gR 1 rfl <| gV 14 (.int .i64 ((a + 1 : Nat) : Int)) rfl (au (by omega) (by omega)) rfl <| gR 2 rfl <| go_xloop <| gJ (h K _ hK (by omega)) [0] [] rfl hK pq3 ⟨⟨_, rfl, rfl, rfl, (ak _ V.str (fun _ => rfl) c).symm⟩, trivial⟩ rfl
theorem iS (m : Nat) (c : List UInt8) (a : Nat) (d : (List (List UInt8))) (b : Nat) (r0 : (List (List UInt8))) (h : ((a < c.length) → ∃ e, c[a]? = some e ∧ (((e.toNat : Int) ≠ 10) → a + 1 ≤ 9223372036854775807 ∧ eF m c (a + 1) d b r0) ∧ (((e.toNat : Int) = 10) → b ≤ a ∧ a ≤ c.length ∧ (d ++ [((c.drop b).take (a - b))]).length ≤ 1000000000 ∧ a + 1 ≤ 9223372036854775807 ∧ bI m c (a + 1) (d ++ [((c.drop b).take (a - b))]) r0)) ∧ ((¬ a < c.length) → b ≤ a ∧ a ≤ c.length ∧ (d ++ [((c.drop b).take (a - b))]).length ≤ 1000000000 ∧ a + 1 ≤ 9223372036854775807 ∧ bI m c (a + 1) (d ++ [((c.drop b).take (a - b))]) r0)) : eF (m + 1) c a d b r0 := by
 intro K j1 j2 hK hj1 hj2
 obtain ⟨j1, rfl⟩ : ∃ j, j1 = j + 1 := ⟨j1 - 1, by omega⟩
 obtain ⟨j2, rfl⟩ : ∃ j, j2 = j + 1 := ⟨j2 - 1, by omega⟩
 refine gR 8 rfl <| gB 41 rfl rfl rfl ?_ ?_ <;> intro hd
 refine gT 40 rfl hd rfl ?_
 replace hd := (dX hd)
 replace h := h.1 hd
 refine gR 2 rfl ?_
 obtain ⟨e, hxc3_1, h⟩ := h
 refine gY (yIS ab rfl rfl rfl hxc3_1) rfl rfl <| gR 4 rfl <| gB 46 rfl rfl rfl ?_ ?_ <;> intro hd
 replace hd := (gw hd)
 replace h := h.1 hd
 refine gR 6 rfl ?_
 obtain ⟨hb, h⟩ := h
 exact gR 1 rfl <| gV 48 (.int .i64 ((a + 1 : Nat) : Int)) rfl (au (by omega) (by omega)) rfl <| gR 3 rfl <| go_xloop <| gJ (h K _ _ hK (by omega) (by omega)) [0] [] rfl hK pq4 ⟨⟨_, rfl, rfl, rfl, (ak _ V.str (fun _ => rfl) d).symm⟩, trivial⟩ rfl
 replace hd := (ey hd)
 replace h := h.2 hd
 refine gR 3 rfl <| go_xloopE <| gR 7 rfl ?_
 obtain ⟨hb, h⟩ := h
 obtain ⟨hb', h⟩ := h
 refine gY (ySS ab rfl rfl (sj rfl) (sj rfl) hb hb' rfl) rfl rfl <| gR 1 rfl ?_
 obtain ⟨hb, h⟩ := h
 refine gDo (.repl 0 (.row 9 1 (List.map V.str (d ++ [((c.drop b).take (a - b))])))) (bP ab rfl rfl rfl rfl rfl (apM V.str d ((c.drop b).take (a - b))) (by rw [aP]; exact hb)) (okR rfl) rfl rfl rfl <| gR 7 rfl ?_
 obtain ⟨hb, h⟩ := h
 exact gR 1 rfl <| gV 14 (.int .i64 ((a + 1 : Nat) : Int)) rfl (au (by omega) (by omega)) rfl <| gR 2 rfl <| go_xloop <| gJ (h K _ hK (by omega)) [2] [] rfl hK pq3 ⟨⟨_, rfl, rfl, rfl, (ak _ V.str (fun _ => rfl) (d ++ [((c.drop b).take (a - b))])).symm⟩, trivial⟩ rfl
 refine gF 40 rfl hd rfl ?_
 replace hd := (dW hd)
 replace h := h.2 hd
 refine gR 10 rfl <| go_xloopE <| gR 7 rfl ?_
 obtain ⟨hb, h⟩ := h
 obtain ⟨hb', h⟩ := h
 refine gY (ySS ab rfl rfl (sj rfl) (sj rfl) hb hb' rfl) rfl rfl <| gR 1 rfl ?_
 obtain ⟨hb, h⟩ := h
 refine gDo (.repl 0 (.row 9 1 (List.map V.str (d ++ [((c.drop b).take (a - b))])))) (bP ab rfl rfl rfl rfl rfl (apM V.str d ((c.drop b).take (a - b))) (by rw [aP]; exact hb)) (okR rfl) rfl rfl rfl <| gR 7 rfl ?_
 obtain ⟨hb, h⟩ := h
 exact gR 1 rfl <| gV 14 (.int .i64 ((a + 1 : Nat) : Int)) rfl (au (by omega) (by omega)) rfl <| gR 2 rfl <| go_xloop <| gJ (h K _ hK (by omega)) [2] [] rfl hK pq3 ⟨⟨_, rfl, rfl, rfl, (ak _ V.str (fun _ => rfl) (d ++ [((c.drop b).take (a - b))])).symm⟩, trivial⟩ rfl
def bQ (m : Nat) (a : List aa) (b : Nat) (c : (List (List UInt8))) (r0 : (List (List UInt8))) : Prop := ∀ (K : Ctx) (j1 : Nat), aB K [] → m ≤ j1 → qLG K Tryz.f13 (fun u _ => u = .row 1 (List.map V.str r0)) (xH (xA (ac Tryz.f13))) [.loop (xH (xA (ac Tryz.f13))) j1, .blk 0, .seq (xA (xI (ac Tryz.f13)))] 66 (mkF 66 0 [(3, .sl 0), (4, .row 2 (List.map aa.w a)), (5, .int .i64 (b : Int))]) ⟨1, [(0, .row 9 1 (List.map V.str c))]⟩
def ba (m : Nat) (a : List aa) (b : aa) (c : Int) (d e : Nat) (f : (List (List UInt8))) (r0 : (List (List UInt8))) : Prop := ∀ (K : Ctx) (j1 j2 : Nat), aB K [] → m ≤ j1 → m ≤ j2 → qLG K Tryz.f13 (fun u _ => u = .row 1 (List.map V.str r0)) (xH (cK (cA (cB (xH (xA (ac Tryz.f13))))))) [.loop (xH (cK (cA (cB (xH (xA (ac Tryz.f13))))))) j1, .blk 2, .seq (xI (cK (cA (cB (xH (xA (ac Tryz.f13))))))), .blk 1, .seq (xA (xH (xA (ac Tryz.f13)))), .loop (xH (xA (ac Tryz.f13))) j2, .blk 0, .seq (xA (xI (ac Tryz.f13)))] 66 (mkF 66 0 [(3, .sl 0), (4, .row 2 (List.map aa.w a)), (5, .int .i64 (e : Int)), (6, .int .i64 c), (7, .str b.Lead), (8, .int .i64 (d : Int))]) ⟨1, [(0, .row 9 1 (List.map V.str f))]⟩
def fR (m : Nat) (a : List aa) (b : aa) (c : Nat) (d : Int) (e : Nat) (f : Bool) (g : (List (List UInt8))) (r0 : (List (List UInt8))) : Prop := ∀ (K : Ctx) (j1 j2 : Nat), aB K [] → m ≤ j1 → m ≤ j2 → qLG K Tryz.f13 (fun u _ => u = .row 1 (List.map V.str r0)) (cB (cK (cK (cA (cB (xH (cK (cA (cB (xH (xA (ac Tryz.f13)))))))))))) [.blk 4, .blk 3, .seq (xA (xH (cK (cA (cB (xH (xA (ac Tryz.f13)))))))), .loop (xH (cK (cA (cB (xH (xA (ac Tryz.f13))))))) j1, .blk 2, .seq (xI (cK (cA (cB (xH (xA (ac Tryz.f13))))))), .blk 1, .seq (xA (xH (xA (ac Tryz.f13)))), .loop (xH (xA (ac Tryz.f13))) j2, .blk 0, .seq (xA (xI (ac Tryz.f13)))] 66 (mkF 66 0 [(3, .sl 0), (4, .row 2 (List.map aa.w a)), (5, .int .i64 (c : Int)), (6, .int .i64 d), (7, .str b.Lead), (8, .int .i64 (e : Int)), (31, .bool f)]) ⟨1, [(0, .row 9 1 (List.map V.str g))]⟩
theorem jL (m : Nat) (p0 : Tree) (r0 : (List (List UInt8))) (h : ∃ a, cj p0 a ∧ ((a = false) → [] = r0) ∧ ((a = true) → ∃ b, ir p0 b ∧ bQ m b 0 ([] : List (List UInt8)) r0)) : gH p0 r0 := by
 refine ⟨rfl, rfl, ?_⟩
 refine am 66 [] Tryz.func13 rfl rfl rfl (aQ rfl) fun K hK => ?_
 refine gR 3 rfl <| gFP 0 rfl rfl rfl rfl <| gR 12 rfl ?_
 obtain ⟨a, hs19, h⟩ := h
 refine gC0 hs19 (by kernel_rfl) rfl rfl .rfl rfl <| gR 3 rfl <| gB 11 rfl rfl rfl ?_ ?_ <;> intro hd
 replace hd := (cg hd)
 replace h := h.1 hd
 refine gR 8 rfl ?_
 subst h
 exact go_sub (F' := (mkF 66 0 [(2, .row 1 (List.map V.str []))])) (H' := ⟨0, []⟩) [] [] rfl hK ⟨⟨_, rfl, (.nil 1)⟩, trivial⟩ trivial rfl <| go_end ab (rs := [.tmp 2]) rfl rfl rfl
 replace hd := (cf hd)
 replace h := h.2 hd
 refine gR 6 rfl ?_
 obtain ⟨b, hs20, h⟩ := h
 exact gC0 hs20 (by kernel_rfl) rfl rfl .rfl rfl <| gR 10 rfl <| go_loop m <| gNS 3 9 1 rfl rfl rfl rfl <| gJ (h K _ hK (by omega)) [1] [] rfl hK pq3 ⟨⟨_, rfl, rfl, rfl, rfl⟩, trivial⟩ rfl
theorem jh (m : Nat) (a : List aa) (b : Nat) (c : (List (List UInt8))) (r0 : (List (List UInt8))) (h : ((b < a.length) → ∃ d, a[b]? = some d ∧ ba m a d (-1) 0 b c r0) ∧ ((¬ b < a.length) → c = r0)) : bQ (m + 1) a b c r0 := by
 intro K j1 hK hj1
 obtain ⟨j1, rfl⟩ : ∃ j, j1 = j + 1 := ⟨j1 - 1, by omega⟩
 refine gR 6 rfl <| gV 16 (.int .i64 (a.length : Int)) rfl (bo (aP aa.w _)) rfl <| gLB 15 rfl (aP aa.w _) fun hl21 => gR 3 rfl <| gB 17 rfl rfl rfl ?_ ?_ <;> intro hd
 replace hd := (dX hd)
 replace h := h.1 hd
 refine gR 14 rfl ?_
 obtain ⟨d, hxx1_1, h⟩ := h
 exact gY (bc (mapget (f := aa.w) hxx1_1) ab rfl rfl rfl rfl) rfl rfl <| gR 12 rfl <| go_loop m <| gJ (h K _ _ hK (by omega) (by omega)) [0] [] rfl hK pq6 ⟨⟨_, rfl, rfl, rfl, (ak _ V.str (fun _ => rfl) c).symm⟩, trivial⟩ rfl
 replace hd := (dW hd)
 replace h := h.2 hd
 refine gR 3 rfl <| go_xloopE <| gR 9 rfl <| gFR 0 rfl (iX _ (fun _ => rfl) _) rfl rfl ?_
 subst h
 exact go_end ab (rs := [.tmp 2]) rfl rfl rfl
theorem cd (m : Nat) (g : List aa) (a : aa) (e : Int) (f c : Nat) (b : (List (List UInt8))) (r0 : (List (List UInt8))) (h : ((f < a.Lead.length) → ((e < 0) → ∃ i, a.Lead[f]? = some i ∧ fR m g a c e f ((i.toNat : Int) == 35) b r0) ∧ ((¬ e < 0) → fR m g a c e f false b r0)) ∧ ((¬ f < a.Lead.length) → ((0 ≤ e) → ∃ d, e = ((d : Nat) : Int) ∧ d ≤ a.Lead.length ∧ (b ++ [(a.Lead.drop d)]).length ≤ 1000000000 ∧ c + 1 ≤ 9223372036854775807 ∧ bQ m g (c + 1) (b ++ [(a.Lead.drop d)]) r0) ∧ ((¬ 0 ≤ e) → c + 1 ≤ 9223372036854775807 ∧ bQ m g (c + 1) b r0))) : ba (m + 1) g a e f c b r0 := by
 intro K j1 j2 hK hj1 hj2
 obtain ⟨j1, rfl⟩ : ∃ j, j1 = j + 1 := ⟨j1 - 1, by omega⟩
 obtain ⟨j2, rfl⟩ : ∃ j, j2 = j + 1 := ⟨j2 - 1, by omega⟩
 refine gR 9 rfl <| gB 28 rfl rfl rfl ?_ ?_ <;> intro hd
 replace hd := (dX hd)
 replace h := h.1 hd
 refine gR 11 rfl <| gB 34 rfl rfl rfl ?_ ?_ <;> intro hd
 refine gT 33 rfl hd rfl ?_
 replace hd := (of_decide_eq_true hd)
 replace h := h.1 hd
 refine gR 2 rfl ?_
 obtain ⟨i, hxc2_1, h⟩ := h
 exact gY (yIS ab rfl rfl rfl hxc2_1) rfl rfl <| gR 5 rfl <| gJ (h K _ _ hK (by omega) (by omega)) [0] [] rfl hK pq7 ⟨⟨_, rfl, rfl, rfl, (ak _ V.str (fun _ => rfl) b).symm⟩, trivial⟩ rfl
 refine gF 33 rfl hd rfl ?_
 replace hd := (of_decide_eq_false hd)
 replace h := h.2 hd
 exact gR 8 rfl <| gJ (h K _ _ hK (by omega) (by omega)) [0] [] rfl hK pq7 ⟨⟨_, rfl, rfl, rfl, (ak _ V.str (fun _ => rfl) b).symm⟩, trivial⟩ rfl
 replace hd := (dW hd)
 replace h := h.2 hd
 refine gR 3 rfl <| go_xloopE <| gR 8 rfl <| gB 58 rfl rfl rfl ?_ ?_ <;> intro hd
 replace hd := (of_decide_eq_true hd)
 replace h := h.1 hd
 refine gR 5 rfl ?_
 obtain ⟨d, k, h⟩ := h
 refine gV 61 (.int .i64 ((d : Nat) : Int)) rfl (jz k) rfl ?_
 obtain ⟨hb, h⟩ := h
 refine gY (ySS ab rfl rfl (sj rfl) FX hb (Nat.le_refl _) (Bv _ _)) rfl rfl <| gR 1 rfl ?_
 obtain ⟨hb, h⟩ := h
 refine gDo (.repl 0 (.row 9 1 (List.map V.str (b ++ [(a.Lead.drop d)])))) (bP ab rfl rfl rfl rfl rfl (apM V.str b (a.Lead.drop d)) (by rw [aP]; exact hb)) (okR rfl) rfl rfl rfl <| gR 6 rfl ?_
 obtain ⟨hb, h⟩ := h
 exact gR 1 rfl <| gV 19 (.int .i64 ((c + 1 : Nat) : Int)) rfl (au (by omega) (by omega)) rfl <| gR 2 rfl <| go_xloop <| gJ (h K _ hK (by omega)) [2] [] rfl hK pq3 ⟨⟨_, rfl, rfl, rfl, (ak _ V.str (fun _ => rfl) (b ++ [(a.Lead.drop d)])).symm⟩, trivial⟩ rfl
 replace hd := (of_decide_eq_false hd)
 replace h := h.2 hd
 refine gR 6 rfl ?_
 obtain ⟨hb, h⟩ := h
 exact gR 1 rfl <| gV 19 (.int .i64 ((c + 1 : Nat) : Int)) rfl (au (by omega) (by omega)) rfl <| gR 2 rfl <| go_xloop <| gJ (h K _ hK (by omega)) [0] [] rfl hK pq3 ⟨⟨_, rfl, rfl, rfl, (ak _ V.str (fun _ => rfl) b).symm⟩, trivial⟩ rfl
theorem dJ (m : Nat) (f : List aa) (c : aa) (g : Nat) (e : Int) (a : Nat) (k : Bool) (d : (List (List UInt8))) (r0 : (List (List UInt8))) (h : ((k = true) → a + 1 ≤ 9223372036854775807 ∧ ba m f c (a : Int) (a + 1) g d r0) ∧ ((k = false) → ((0 ≤ e) → ∃ i, c.Lead[a]? = some i ∧ (((i.toNat : Int) = 10) → ∃ b, e = ((b : Nat) : Int) ∧ b ≤ a ∧ a ≤ c.Lead.length ∧ (d ++ [((c.Lead.drop b).take (a - b))]).length ≤ 1000000000 ∧ a + 1 ≤ 9223372036854775807 ∧ ba m f c (-1) (a + 1) g (d ++ [((c.Lead.drop b).take (a - b))]) r0) ∧ (((i.toNat : Int) ≠ 10) → a + 1 ≤ 9223372036854775807 ∧ ba m f c e (a + 1) g d r0)) ∧ ((¬ 0 ≤ e) → a + 1 ≤ 9223372036854775807 ∧ ba m f c e (a + 1) g d r0))) : fR (m + 1) f c g e a k d r0 := by
 intro K j1 j2 hK hj1 hj2
 obtain ⟨j1, rfl⟩ : ∃ j, j1 = j + 1 := ⟨j1 - 1, by omega⟩
 obtain ⟨j2, rfl⟩ : ∃ j, j2 = j + 1 := ⟨j2 - 1, by omega⟩
 refine gB 31 rfl rfl rfl ?_ ?_ <;> intro hd
 replace h := h.1 hd
 refine gR 10 rfl ?_
 obtain ⟨hb, h⟩ := h
 exact gR 1 rfl <| gV 30 (.int .i64 ((a + 1 : Nat) : Int)) rfl (au (by omega) (by omega)) rfl <| gR 2 rfl <| go_xloop <| gJ (h K _ _ hK (by omega) (by omega)) [0] [] rfl hK pq6 ⟨⟨_, rfl, rfl, rfl, (ak _ V.str (fun _ => rfl) d).symm⟩, trivial⟩ rfl
 replace h := h.2 hd
 refine gR 6 rfl <| gB 44 rfl rfl rfl ?_ ?_ <;> intro hd
 refine gT 43 rfl hd rfl ?_
 replace hd := (of_decide_eq_true hd)
 replace h := h.1 hd
 refine gR 2 rfl ?_
 obtain ⟨i, hxc3_1, h⟩ := h
 refine gY (yIS ab rfl rfl rfl hxc3_1) rfl rfl <| gR 5 rfl <| gB 41 rfl rfl rfl ?_ ?_ <;> intro hd
 refine gT 49 rfl hd rfl ?_
 replace hd := (eq_of_beq hd)
 replace h := h.1 hd
 refine gR 7 rfl ?_
 obtain ⟨b, l, h⟩ := h
 refine gV 52 (.int .i64 ((b : Nat) : Int)) rfl (jz l) rfl ?_
 obtain ⟨hb, h⟩ := h
 obtain ⟨hb', h⟩ := h
 refine gY (ySS ab rfl rfl (sj rfl) (sj rfl) hb hb' rfl) rfl rfl <| gR 1 rfl ?_
 obtain ⟨hb, h⟩ := h
 refine gDo (.repl 0 (.row 9 1 (List.map V.str (d ++ [((c.Lead.drop b).take (a - b))])))) (bP ab rfl rfl rfl rfl rfl (apM V.str d ((c.Lead.drop b).take (a - b))) (by rw [aP]; exact hb)) (okR rfl) rfl rfl rfl <| gR 11 rfl ?_
 obtain ⟨hb, h⟩ := h
 exact gR 1 rfl <| gV 30 (.int .i64 ((a + 1 : Nat) : Int)) rfl (au (by omega) (by omega)) rfl <| gR 2 rfl <| go_xloop <| gJ (h K _ _ hK (by omega) (by omega)) [2] [] rfl hK pq6 ⟨⟨_, rfl, rfl, rfl, (ak _ V.str (fun _ => rfl) (d ++ [((c.Lead.drop b).take (a - b))])).symm⟩, trivial⟩ rfl
 refine gF 49 rfl hd rfl ?_
 replace hd := (ne_of_beq_false hd)
 replace h := h.2 hd
 refine gR 7 rfl ?_
 obtain ⟨hb, h⟩ := h
 exact gR 1 rfl <| gV 30 (.int .i64 ((a + 1 : Nat) : Int)) rfl (au (by omega) (by omega)) rfl <| gR 2 rfl <| go_xloop <| gJ (h K _ _ hK (by omega) (by omega)) [0] [] rfl hK pq6 ⟨⟨_, rfl, rfl, rfl, (ak _ V.str (fun _ => rfl) d).symm⟩, trivial⟩ rfl
 refine gF 43 rfl hd rfl ?_
 replace hd := (of_decide_eq_false hd)
 replace h := h.2 hd
 refine gR 15 rfl ?_
 obtain ⟨hb, h⟩ := h
 exact gR 1 rfl <| gV 30 (.int .i64 ((a + 1 : Nat) : Int)) rfl (au (by omega) (by omega)) rfl <| gR 2 rfl <| go_xloop <| gJ (h K _ _ hK (by omega) (by omega)) [0] [] rfl hK pq6 ⟨⟨_, rfl, rfl, rfl, (ak _ V.str (fun _ => rfl) d).symm⟩, trivial⟩ rfl
def cH (m : Nat) (p0 : (List (List UInt8))) (p1 : (List (List UInt8))) (a : Nat) (r0 : Bool) : Prop := ∀ (K : Ctx) (j1 : Nat), aB K [] → m ≤ j1 → qLG K Tryz.f11 (fun u _ => u = .bool r0) (xH (ac Tryz.f11)) [.loop (xH (ac Tryz.f11)) j1, .blk 0, .seq (xI (ac Tryz.f11))] 26 (mkF 26 0 [(0, .row 1 (List.map V.str p0)), (1, .row 1 (List.map V.str p1)), (5, .int .i64 (a : Int))]) ⟨0, []⟩
theorem jt (m : Nat) (p0 : (List (List UInt8))) (p1 : (List (List UInt8))) (r0 : Bool) (h : ((p0.length ≠ p1.length) → false = r0) ∧ ((p0.length = p1.length) → cH m p0 p1 0 r0)) : eb p0 p1 r0 := by
 refine ⟨rfl, rfl, ?_⟩
 refine am 26 [] Tryz.func11 rfl rfl rfl (aQ rfl) fun K hK => ?_
 refine gR 10 rfl <| gV 7 (.int .i64 (p0.length : Int)) rfl (bo (aP V.str _)) rfl <| gLB 6 rfl (aP V.str _) fun hl7 => gR 2 rfl <| gV 9 (.int .i64 (p1.length : Int)) rfl (bo (aP V.str _)) rfl <| gLB 8 rfl (aP V.str _) fun hl8 => gR 3 rfl <| gB 10 rfl rfl rfl ?_ ?_ <;> intro hd
 replace hd := (yH hd)
 replace h := h.1 hd
 refine gR 8 rfl ?_
 subst h
 exact go_end ab (rs := [.tmp 4]) rfl rfl rfl
 replace hd := (yn hd)
 replace h := h.2 hd
 exact gR 10 rfl <| go_loop m <| gJ (h K _ hK (by omega)) [] [] rfl hK pq3 trivial rfl
theorem fe (m : Nat) (p0 : (List (List UInt8))) (p1 : (List (List UInt8))) (a : Nat) (r0 : Bool) (h : ((a < p0.length) → ∃ b, p0[a]? = some b ∧ ∃ c, p1[a]? = some c ∧ ((b ≠ c) → false = r0) ∧ ((b = c) → cH m p0 p1 (a + 1) r0)) ∧ ((¬ a < p0.length) → true = r0)) : cH (m + 1) p0 p1 a r0 := by
 intro K j1 hK hj1
 obtain ⟨j1, rfl⟩ : ∃ j, j1 = j + 1 := ⟨j1 - 1, by omega⟩
 refine gR 6 rfl <| gV 13 (.int .i64 (p0.length : Int)) rfl (bo (aP V.str _)) rfl <| gLB 12 rfl (aP V.str _) fun hl9 => gR 3 rfl <| gB 14 rfl rfl rfl ?_ ?_ <;> intro hd
 replace hd := (dX hd)
 replace h := h.1 hd
 refine gR 6 rfl <| gDs [] 9 9 rfl (by kernel_rfl) (by kernel_rfl) <| gDr [(0, 2), (1, 2)] (by kernel_rfl) rfl rfl ?_
 obtain ⟨b, hxs1_1, h⟩ := h
 refine gYd 2 rfl (by kernel_rfl) (bc (mapget (f := V.str) hxs1_1) ab rfl rfl rfl rfl) rfl rfl <| gDr [(3, 2), (4, 2), (5, 0)] (by kernel_rfl) rfl rfl ?_
 obtain ⟨c, hxs1_2, h⟩ := h
 refine db 6 rfl (by kernel_rfl) (bc (mapget (f := V.str) hxs1_2) ab rfl rfl rfl rfl) rfl rfl ?_
 refine gDr [(7, 0), (8, 0)] (by kernel_rfl) rfl rfl <| gDe (by kernel_rfl) <| gR 1 rfl <| gB 25 rfl rfl rfl ?_ ?_ <;> intro hd
 replace hd := (gw hd)
 replace h := h.1 hd
 refine gR 9 rfl <| go_xloopR <| gR 2 rfl ?_
 subst h
 exact go_end ab (rs := [.tmp 4]) rfl rfl rfl
 replace hd := (ey hd)
 replace h := h.2 hd
 exact gR 7 rfl <| gV 16 (.int .i64 ((a + 1 : Nat) : Int)) rfl (au (by have := hl9; omega) (by omega)) rfl <| gR 2 rfl <| go_xloop <| gJ (h K _ hK (by omega)) [] [] rfl hK pq3 trivial rfl
 replace hd := (dW hd)
 replace h := h.2 hd
 refine gR 3 rfl <| go_xloopE <| gR 8 rfl ?_
 subst h
 exact go_end ab (rs := [.tmp 4]) rfl rfl rfl
end Go.Proofs.YtpnpdlnpikkeaaaGreat
namespace Go.Proofs.YtpnpdlnpikkeaaaGreat
open Go.RowKit Lx Sx
def Gw (n : Nat) (s s' : WS) : Prop := s'.2.length ≤ s.2.length + n ∧ s'.1.length ≤ s.1.length + n
theorem Gw.refl (s : WS) : Gw 0 s s := ⟨Nat.le_refl _, Nat.le_refl _⟩
theorem Gw.le {n m : Nat} {s s' : WS} (h : Gw n s s') (hm : n ≤ m) : Gw m s s' := ⟨by have := h.1; omega, by have := h.2; omega⟩
theorem zZ (a b c : List UInt8) : (iZ a b c).length ≤ b.length + 1 := by unfold iZ; split <;> simp
theorem Gw.put {n : Nat} {s s' : WS} {a b : List UInt8} (h : Gw n s s') : Gw (n + (a.length + 1 + b.length)) s (ae a b s') := by
 have := zZ s'.1 a b
 refine ⟨?_, ?_⟩
 ·have := h.1; simp only [ae, List.length_append]; omega
 ·simp only [ae]; omega
theorem Gw.app {n m : Nat} {s s' : WS} {f : WS → WS} (h : Gw n s s') (hf : ∀ s, Gw m s (f s)) : Gw (n + m) s (f s') := by
 have h1 := h.1; have h2 := h.2; have h3 := (hf s').1; have h4 := (hf s').2
 exact ⟨by omega, by omega⟩
theorem qj : ∀ (ls : List (List UInt8)) (i : Nat), (ls.getD i []).length + lsum (ls.drop (i + 1)) ≤ lsum (ls.drop i)
 | [], i => by simp [lsum]
 | l :: r, 0 => by simp [lsum]
 | l :: r, i + 1 => by have := qj r i; simpa using this
theorem jq : ∀ (ls : List (List UInt8)) (i : Nat), lsum (ls.drop i) ≤ lsum ls
 | [], i => by simp [lsum]
 | l :: r, 0 => by simp
 | l :: r, i + 1 => by have := jq r i; simp only [List.drop_succ_cons, lsum]; omega
theorem fB (ls : List (List UInt8)) (i : Nat) : (ls.getD i []).length ≤ lsum ls := by have := qj ls i; have := jq ls i; omega
theorem rq : ∀ (ks : List Tree) (n : Nat), treesP (ks.take n) = (treesP ks).take n
 | [], n => by simp [treesP]
 | t :: r, 0 => by simp [treesP]
 | t :: r, n + 1 => by simp [treesP, rq r n]
theorem pF : ∀ (ks : List Tree) (n : Nat), kbulk (ks.take n) ≤ kbulk ks
 | [], n => by simp [kbulk]
 | t :: r, 0 => by simp [kbulk]
 | t :: r, n + 1 => by have := pF r n; simp only [List.take_succ_cons, kbulk]; omega
theorem Gw.list {ls : List (List UInt8)} {c : Nat} (hc : 1 ≤ c) : ∀ (ks : List Tree) (i : Nat), (∀ t, t ∈ ks → ∀ s, Gw (100 * tbulk t) s (treeP t s)) → ∀ s, Gw (lsum (ls.drop (c + i - 1)) + 2 * ks.length + 100 * kbulk ks) s (bf ls c (treesP ks) i s)
 | [], i, _, s => by simp only [treesP, bf]; exact (Gw.refl s).le (Nat.zero_le _)
 | t :: r, i, h, s => by
  have ht := h t (by simp)
  have hr := Gw.list (ls := ls) hc r (i + 1) (fun u hu => h u (by simp [hu]))
  have e := qj ls (c + i - 1)
  rw [show c + i - 1 + 1 = c + (i + 1) - 1 from by omega] at e
  simp only [treesP, bf, kbulk, List.length_cons]
  split
  ·refine ((((Gw.refl s).put).app ht).app hr).le ?_
   simp only [List.length_cons, List.length_nil]; omega
  ·exact (((Gw.refl s).app ht).app hr).le (by omega)
theorem Gw.fold : ∀ (ks : List Tree), (∀ t, t ∈ ks → ∀ s, Gw (100 * tbulk t) s (treeP t s)) → ∀ s, Gw (100 * kbulk ks) s ((treesP ks).foldl (fun s f => f s) s)
 | [], _, s => (Gw.refl s)
 | t :: r, h, s => by
  have ht := h t (by simp)
  have hr := Gw.fold r (fun u hu => h u (by simp [hu]))
  simp only [treesP, List.foldl_cons, kbulk]
  exact (((Gw.refl s).app ht).app hr).le (by omega)
def qb (ks : List Tree) (i : Nat) : Nat := if h : i < ks.length then tbulk ks[i] else 0
theorem Gw.kid {ks : List Tree} (h : ∀ t, t ∈ ks → ∀ s, Gw (100 * tbulk t) s (treeP t s)) (i : Nat) (s : WS) : Gw (100 * qb ks i) s ((treesP ks).getD i id s) := by
 by_cases hi : i < ks.length
 ·rw [qN hi, qb, dif_pos hi]; exact h _ (List.getElem_mem hi) s
 ·rw [qb, dif_neg hi, show (treesP ks).getD i id = id from by simp [List.getD_eq_getElem?_getD, List.getElem?_eq_none (show (treesP ks).length ≤ i from by rw [eU]; omega)]]; exact Gw.refl s
theorem lU : ∀ (ks : List Tree) (i : Nat), kbulk (ks.take i) + qb ks i ≤ kbulk (ks.take (i + 1))
 | [], i => by simp [kbulk, qb]
 | t :: r, 0 => by simp [kbulk, qb]
 | t :: r, i + 1 => by
  have := lU r i
  simp only [List.take_succ_cons, kbulk]
  have e : qb (t :: r) (i + 1) = qb r i := by simp [qb]
  omega
theorem qb3 (ks : List Tree) : qb ks 0 + qb ks 1 + qb ks 2 ≤ kbulk ks := by
 have a0 : kbulk (ks.take 0) + qb ks 0 ≤ kbulk (ks.take 1) := lU ks 0
 have a1 : kbulk (ks.take 1) + qb ks 1 ≤ kbulk (ks.take 2) := lU ks 1
 have a2 : kbulk (ks.take 2) + qb ks 2 ≤ kbulk (ks.take 3) := lU ks 2
 have a3 := pF ks 3
 omega
theorem Gw.defn {k : Int} {x : List UInt8} {ls : List (List UInt8)} {ks : List Tree} (hs : (ls.length : Int) = bH k ks.length) (h : ∀ t, t ∈ ks → ∀ s, Gw (100 * tbulk t) s (treeP t s)) (s : WS) : Gw (100 * (x.length + lsum ls + kbulk ks + 1)) s (uH k x ls (treesP ks) s) := by
 have L0 := fB ls 0; have L1 := fB ls 1; have L2 := fB ls 2; have L3 := fB ls 3; have L4 := fB ls 4; have L5 := fB ls 5
 have Q0 := qb3 ks
 have LL := iq ls
 unfold uH
 dsimp only
 split
 ·have g := (((Gw.refl s).put (a := ls.getD 0 []) (b := [109, 111, 100, 117, 108, 101])).put (a := ls.getD 1 []) (b := x)).app (Gw.fold ks h)
  have g1 := g.1; have g2 := g.2
  simp only [List.length_cons, List.length_nil] at g1 g2
  exact ⟨by simp only [List.length_append]; omega, by dsimp only; omega⟩
 ·split
  ·rename_i hk
   have hn : 2 ≤ ks.length := by
    subst hk; unfold bH at hs
    rcases Nat.lt_or_ge ks.length 2 with h2 | h2
    ·rw [if_neg (by decide), if_pos rfl, if_pos (by omega)] at hs; omega
    ·exact h2
   have hn2 : ks.length ≤ ls.length := by
    subst hk; unfold bH at hs
    rw [if_neg (by decide), if_pos rfl, if_neg (by omega)] at hs
    split at hs <;> omega
   have hl := Gw.list (ls := ls) (c := 6) (by decide) (ks.take (ks.length - 2)) 0 (fun t ht => h t (List.mem_of_mem_take ht))
   rw [rq] at hl
   have A1 := lU ks (ks.length - 2); have A2 := lU ks (ks.length - 1)
   rw [show ks.length - 2 + 1 = ks.length - 1 from by omega] at A1
   rw [show ks.length - 1 + 1 = ks.length from by omega, List.take_length] at A2
   have A3 := jq ls (6 + 0 - 1)
   have A4 := io ks
   rw [eU]
   refine ((((((((((Gw.refl s).put).put).put).app hl).put).put).app (Gw.kid h _)).put).app (Gw.kid h _)).le ?_
   simp only [List.length_cons, List.length_nil, List.length_take]
   omega
  ·split
   ·refine (((((Gw.refl s).put).put).put).app (Gw.kid h _)).le ?_
    simp only [List.length_cons, List.length_nil]; omega
   ·refine ((((Gw.refl s).put).put).app (Gw.kid h _)).le ?_
    simp only [List.length_cons, List.length_nil]; omega
theorem rz (k : Int) (x : List UInt8) : (cV k x).length ≤ x.length + 5 := by
 unfold cV
 repeat' split
 all_goals simp
theorem Gw.node {k : Int} {x : List UInt8} {ls : List (List UInt8)} {ks : List Tree} (hs : (ls.length : Int) = bH k ks.length) (h : ∀ t, t ∈ ks → ∀ s, Gw (100 * tbulk t) s (treeP t s)) (s : WS) : Gw (100 * (x.length + lsum ls + kbulk ks + 1)) s (ew k x ls (treesP ks) s) := by
 have L0 := fB ls 0; have L1 := fB ls 1; have L2 := fB ls 2; have L3 := fB ls 3
 have Q0 := qb3 ks
 have LL := iq ls
 have SL := rz k x
 unfold ew
 dsimp only
 split
 ·exact Gw.defn hs h s
 ·split
  ·exact ((Gw.refl s).app (Gw.kid h _)).le (by omega)
  ·split
   ·refine ((((Gw.refl s).put).app (Gw.kid h _)).put).le ?_
    simp only [List.length_cons, List.length_nil]; omega
   ·split
    ·rename_i hk
     have hl := Gw.list (ls := ls) (c := 3) (by decide) ks 0 h
     have A3 := jq ls (3 + 0 - 1)
     have hn2 : ks.length ≤ ls.length := by
      subst hk; unfold bH at hs
      rw [if_neg (by decide), if_neg (by decide), if_pos rfl] at hs
      split at hs
      ·omega
      ·split at hs <;> omega
     refine (((((Gw.refl s).put).put).app hl).put).le ?_
     simp only [List.length_cons, List.length_nil]; omega
    ·split
     ·rename_i hk
      have hl := Gw.list (ls := ls) (c := 2) (by decide) ks 0 h
      have A3 := jq ls (2 + 0 - 1)
      have hn2 : ks.length ≤ ls.length := by
       subst hk; unfold bH at hs
       rw [if_neg (by decide), if_neg (by decide), if_neg (by decide), if_pos rfl] at hs
       split at hs <;> omega
      refine ((((Gw.refl s).put).app hl).put).le ?_
      simp only [List.length_cons, List.length_nil]; omega
     ·split
      ·refine (((((((Gw.refl s).put).app (Gw.kid h _)).put).app (Gw.kid h _)).put).app (Gw.kid h _)).le ?_
       simp only [List.length_cons, List.length_nil]; omega
      ·split
       ·refine (((((((Gw.refl s).put).put).put).app (Gw.kid h _)).put).app (Gw.kid h _)).le ?_
        simp only [List.length_cons, List.length_nil]; omega
       ·split
        ·refine ((((Gw.refl s).app (Gw.kid h _)).put).app (Gw.kid h _)).le ?_
         omega
        ·split
         ·refine ((((Gw.refl s).put).app (Gw.kid h _)).put).le ?_
          simp only [List.length_cons, List.length_nil]; omega
         ·refine ((Gw.refl s).put).le ?_
          omega
theorem qe : ∀ {ks : List Tree} {t : Tree}, leadedsT ks = true → t ∈ ks → leadedT t = true
 | u :: r, t, h, ht => by
  simp only [leadedsT, Bool.and_eq_true] at h
  rcases List.mem_cons.1 ht with e | e
  ·exact e ▸ h.1
  ·exact qe h.2 e
theorem qw : ∀ {ks : List Tree} {t : Tree}, t ∈ ks → tsize t ≤ tsizes ks
 | u :: r, t, ht => by
  simp only [tsizes]
  rcases List.mem_cons.1 ht with e | e
  ·subst e; omega
  ·have := qw e; omega
theorem Gw.tree : ∀ (N : Nat) (t : Tree), tsize t ≤ N → leadedT t = true → ∀ s, Gw (100 * tbulk t) s (treeP t s)
 | 0, t, hN, _, s => by cases t; simp only [tsize] at hN; omega
 | N + 1, .node k x ls ks, hN, hl, s => by
  simp only [leadedT, Bool.and_eq_true, decide_eq_true_eq] at hl
  simp only [tsize] at hN
  simp only [treeP, tbulk]
  exact Gw.node hl.1.1 (fun t ht s => Gw.tree N t (by have := qw ht; omega) (qe hl.2 ht) s) s
end Go.Proofs.YtpnpdlnpikkeaaaGreat
namespace Go.Proofs.YtpnpdlnpikkeaaaGreat
open Go.RowKit Lx Sx
set_option maxRecDepth 100000
set_option maxHeartbeats 4000000
def dk (N : Nat) : Prop := ∀ (t : Tree) (w : World) (Bs b : Nat) (s : WS) (c0 c1 c2 c3 : Value), tsize t ≤ N → shapedT t = true → leadedT t = true → s.2.length + 100 * tbulk t ≤ 1000000000000 → s.1.length + 100 * tbulk t ≤ 1000000000000 → Pr Bs b s.1 s.2 w → TreeIs (fun b => b < Bs) w t [c0, c1, c2, c3] → Bs ≤ w.heap.size →
 Calls Tryz.prog 62 [.pointer (some ⟨b, 0, none⟩), .agg #[c0, c1, c2, c3]].toArray w fun e w' => e = .returned (.tuple #[]) ∧ Pr Bs b (treeP t s).1 (treeP t s).2 w' ∧ Prn Bs b w w'
theorem sU (ls : List (List UInt8)) (c : Nat) : ∀ (fs : List (WS → WS)) (g : WS → WS) (i : Nat) (s : WS), bf ls c (fs ++ [g]) i s = g (if 0 < i + fs.length then ae (ls.getD (c + (i + fs.length) - 1) []) [44] (bf ls c fs i s) else bf ls c fs i s)
 | [], g, i, s => by simp only [List.nil_append, bf, List.length_nil, Nat.add_zero]
 | f :: r, g, i, s => by
  simp only [List.cons_append, bf, List.length_cons]
  rw [sU ls c r g (i + 1), show i + 1 + r.length = i + (r.length + 1) from by omega]
theorem mV : ∀ (a b : List Tree), treesP (a ++ b) = treesP a ++ treesP b
 | [], b => rfl
 | t :: r, b => by simp only [List.cons_append, treesP, mV r b]
theorem Bp {ls : List (List UInt8)} {c : Nat} {ks : List Tree} {i : Nat} (s : WS) (h : i < ks.length) : bf ls c (treesP (ks.take (i + 1))) 0 s = treeP ks[i] (if 0 < i then ae (ls.getD (c + i - 1) []) [44] (bf ls c (treesP (ks.take i)) 0 s) else bf ls c (treesP (ks.take i)) 0 s) := by
 rw [List.take_succ_eq_append_getElem h, mV, treesP, treesP, sU, eU, List.length_take, Nat.min_eq_left (Nat.le_of_lt h), Nat.zero_add]
theorem Pr.lt {Bs b : Nat} {x l : List UInt8} {w : World} (h : Pr Bs b x l w) : b < w.heap.size := by
 obtain ⟨p, v, hp, hB, hbk, hown⟩ := h
 exact Blk.lt (show Blk w b _ [p, v, aS x] from hbk)
theorem Pr.chgN {Bs b : Nat} {x l : List UInt8} {w w' : World} {c : Nat} {t : TypeId} {cs : List Value} (h : Pr Bs b x l w) (hc : Blk w c t cs) (ht : t ≠ 5) (hne : b ≠ c) (hx : Chg [c] w w') : Pr Bs b x l w' := by
 obtain ⟨p, v, hp, hB, hbk, hown⟩ := h
 have hv : v.ownBlock ≠ some c := Lib.ownBlock_ne hown hc ht
 exact ⟨p, v, hp, hB, (show Blk w b _ [p, v, aS x] from hbk).chg hx (nmc hne nm0), own_chg hown hx (fun g hg => nmc (fun e => hv (e ▸ hg)) nm0)⟩
theorem Prn.now {Bs b : Nat} {w w' : World} (h : Prn Bs b w w') : Bs ≤ w'.heap.size := nlt h.base h.below.size
theorem ax {Bs b : Nat} {w w' : World} {lb lo n : Nat} {ls : List (List UInt8)} {x : List UInt8} {j : Nat} (hL : RowIn (fun b => b < Bs) w 1 (some ⟨lb, lo, none⟩) n (ls.map aS)) (hE : Prn Bs b w w') (hj : ls[j]? = some x) : w'.cell? ⟨lb, lo + j, none⟩ = some (aS x) := by
 have hl := hL.1
 simp only [List.length_map, Nat.mul_one] at hl
 have hjl : j < ls.length := by rw [List.getElem?_eq_some_iff] at hj; exact hj.1
 obtain ⟨b', off, e, hS, hlt, hc⟩ := hL.2 (by omega)
 injection e with e
 injection e with e1 e2
 subst e1 e2
 rw [hE.chg.cell hlt (nl hS), hc j (by omega)]
 simp [hj]
theorem dQ {Bs b : Nat} {w w' : World} {ks : List Tree} {cs : List Value} {kb ko n : Nat} {t : Tree} {i : Nat} (hK : KidsAre (fun b => b < Bs) w ks cs) (hR : RowIn (fun b => b < Bs) w 4 (some ⟨kb, ko, none⟩) n cs) (hE : Prn Bs b w w') (hi : ks[i]? = some t) :
  ∃ c0 c1 c2 c3, TreeIs (fun b => b < Bs) w' t [c0, c1, c2, c3] ∧ ∀ j, j < 4 → w'.cell? ⟨kb, ko + i * 4 + j, none⟩ = ([c0, c1, c2, c3] : List Value)[j]? := by
 obtain ⟨hil, rfl⟩ := List.getElem?_eq_some_iff.1 hi
 have hcl := hK.length
 have hl := hR.1
 obtain ⟨b', off, e, hS, hlt, hc⟩ := hR.2 (by omega)
 injection e with e
 injection e with e1 e2
 subst e1 e2
 obtain ⟨c0, c1, c2, c3, hT, h0, h1, h2, h3⟩ := hK.at_ hil
 refine ⟨c0, c1, c2, c3, hT.chg hE.chg (fun _ hb _ => nl hb), fun j hj => ?_⟩
 rw [hE.chg.cell hlt (nl hS), Nat.add_assoc, hc _ (by omega)]
 rcases (by omega : j = 0 ∨ j = 1 ∨ j = 2 ∨ j = 3) with rfl | rfl | rfl | rfl
 ·exact h0
 ·exact h1
 ·exact h2
 ·exact h3
theorem bm (a b : List UInt8) (s : WS) : (ae a b s).2.length ≤ s.2.length + (a.length + 1 + b.length) ∧ (ae a b s).1.length ≤ s.1.length + (a.length + 1 + b.length) := by
 have := (Gw.refl s).put (a := a) (b := b); exact ⟨by have := this.1; omega, by have := this.2; omega⟩
theorem sP {ks : List Tree} {i : Nat} (h : i < ks.length) : kbulk (ks.take i) + tbulk ks[i] ≤ kbulk ks := by
 have a := lU ks i
 have b := pF ks (i + 1)
 rw [qb, dif_pos h] at a
 omega
theorem Eo {N : Nat} (ih : dk N) {w : World} {Bs b c : Nat} {s : WS} {ls : List (List UInt8)} {ks : List Tree} {cs : List Value} {k : Int} {x : List UInt8} {A B B2 : Option Addr} {m n n2 m2 : Nat} (h1c : 1 ≤ c) (hc6 : c ≤ 6) (hcl : c + ks.length ≤ ls.length + 1) (hks : ∀ t, t ∈ ks → tsize t ≤ N ∧ shapedT t = true ∧ leadedT t = true) (hl1 : s.2.length + 10 * lsum ls + 100 * kbulk ks + 10 ≤ 1000000000000) (hl2 : s.1.length + 10 * lsum ls + 100 * kbulk ks + 10 ≤ 1000000000000)
    (hP : Pr Bs b s.1 s.2 w) (hL : RowIn (fun b => b < Bs) w 1 A ls.length (ls.map aS)) (hK : KidsAre (fun b => b < Bs) w ks cs) (hR : RowIn (fun b => b < Bs) w 4 B ks.length cs) (hBw : Bs ≤ w.heap.size) :
    Calls Tryz.prog 95 [.pointer (some ⟨b, 0, none⟩), .agg #[.int .i64 k, aS x, .slice A ls.length m, .slice B2 n2 m2], .slice B ks.length n, .int .i64 (c : Nat)].toArray w fun e w' => e = .returned (.tuple #[]) ∧ Pr Bs b (bf ls c (treesP ks) 0 s).1 (bf ls c (treesP ks) 0 s).2 w' ∧ Prn Bs b w w' := by
  have hgk : ∀ t, t ∈ ks → ∀ s, Gw (100 * tbulk t) s (treeP t s) := fun t ht s => Gw.tree _ t (Nat.le_refl _) (hks t ht).2.2 s
  have hE := Prn.refl (b := b) hBw
  refine rE 33 Tryz.func95 rfl rfl rfl ?_
  intro a hf
  refine rR 2 hf rfl ?_
  clear hf a; intro a hf
  obtain ⟨w1, b2, he, hB3, hx4, eb5, lb6⟩ := di (P := Tryz.prog) (t := 30) (x := (.tmp 1)) hf rfl rfl w 0
  refine rV hf rfl he ?_
  clear he hf a; intro a hf
  have ge_b2 := Prn.ge_new hE eb5
  have ne_b_b2 : b ≠ b2 := cP hP.lt eb5
  replace hP := hP.chg0 hx4
  replace hE := hE.t0 hx4
  clear eb5 lb6
  refine rR 5 hf rfl ?_
  clear hf a; intro a hf
  refine rV hf rfl (oQ hf Tryz.underlying25 rfl) ?_
  clear hf a; intro a hf
  refine rR 4 hf rfl ?_
  clear hf a; intro a hf
  refine rL (fun g a w' => ∃ i, Fr a 33 (fm [(0, .pointer (some ⟨b, 0, none⟩)), (3, .int .i64 (c : Nat)), (5, .pointer (some ⟨b2, 0, none⟩)), (10, .slice B ks.length n), (11, .int .i64 (ks.length : Nat)), (12, .int .i64 (i : Nat))]) ∧ Prn Bs b w w' ∧ Blk w' b2 30 [.int .i64 k, aS x, .slice A ls.length m, .slice B2 n2 m2] ∧ Pr Bs b (bf ls c (treesP (ks.take i)) 0 s).1 (bf ls c (treesP (ks.take i)) 0 s).2 w' ∧ i ≤ ks.length ∧ g = ks.length - i) _ ⟨0, hf.pick ⟨rfl, rfl, rfl, rfl, rfl, rfl, trivial⟩, hE, hB3, by simpa [treesP, bf] using hP, Nat.zero_le _, rfl⟩ ?_
  obtain ⟨b5, eb5⟩ : ∃ x, b2 = x := ⟨_, rfl⟩
  rw [eb5]
  have ge_b5 : w.heap.size ≤ b5 := eb5 ▸ ge_b2
  have ne_b_b5 : b ≠ b5 := eb5 ▸ ne_b_b2
  clear eb5 hf a hP
  intro g0 a w' hI
  obtain ⟨i, hf, hE, hB5, hP, hi, rfl⟩ := hI
  by_cases hlt : i < ks.length
  obtain ⟨kb, ko, rfl, _, hkb, _⟩ := hR.2 (by omega)
  have hki : ks[i]? = some ks[i] := List.getElem?_eq_getElem hlt
  obtain ⟨d0, d1, d2, d3, hT, hK4⟩ := dQ hK hR hE hki
  have on_T := hT.one
  have hmem : ks[i] ∈ ks := List.getElem_mem hlt
  have htt := sP hlt
  have hst := Bp (ls := ls) (c := c) s hlt
  have hG := Gw.list (ls := ls) (c := c) h1c (ks.take i) 0 (fun t ht => hgk t (List.mem_of_mem_take ht)) s
  have hG1 := hG.1
  have hG2 := hG.2
  simp only [List.length_take] at hG1 hG2
  have hd0 := jq ls (c + 0 - 1)
  have hmin : min i ks.length = i := Nat.min_eq_left hi
  have hLL := iq ls
  have hKL := io ks
  refine rR 2 hf rfl ?_
  clear hf a; intro a hf
  refine rV hf rfl (ql (c := true) hf rfl rfl (by simp; omega)) ?_
  clear hf a; intro a hf
  refine rR 11 hf rfl ?_
  clear hf a; intro a hf
  refine rV hf rfl (az (sz := 4) (k := i) (r := ko + i * 4) hf Tryz.underlying25 (by kernel_rfl) rfl rfl rfl hlt rfl) ?_
  clear hf a; intro a hf
  refine rV hf rfl (ex_loadN (cs := [d0, d1, d2, d3]) (m := 4) hf rfl (by kernel_rfl) rfl hK4) ?_
  clear hf a; intro a hf
  obtain ⟨w7, b8, he, hB9, hx10, eb11, lb12⟩ := eT a w' 0
  refine rV hf rfl he ?_
  clear he hf a; intro a hf
  have ne_b5_b8 : b5 ≠ b8 := cP hB5.lt eb11
  have ge_b8 := Prn.ge_new hE eb11
  have ne_b_b8 : b ≠ b8 := cP hP.lt eb11
  replace hB5 := hB5.c0 hx10
  replace hP := hP.chg0 hx10
  replace hT := hT.t0 hx10
  replace hE := hE.t0 hx10
  clear eb11 lb12
  refine rR 1 hf rfl ?_
  clear hf a; intro a hf
  obtain ⟨w13, he, hB14, hx15⟩ := eN (.tmp 9) (.tmp 16) hf rfl rfl rfl on_T hB9 rfl 0
  refine rS hf rfl he ?_
  clear he hf a; intro a hf
  replace hB5 := hB5.c1 hx15 ne_b5_b8
  replace hP := hP.chgN hB9 (by decide) ne_b_b8 hx15
  replace hT := hT.chg hx15 (fun k hb hlt2 => (nmc (by have := hE.base; omega) nm0))
  replace hE := hE.n1 hx15 ge_b8
  clear hB9
  refine rR 6 hf rfl ?_
  clear hf a; intro a hf
  refine rB hf rfl (fun c hc => zR hf rfl rfl hc) ?_ ?_
  clear hf a; intro h18 a hf
  have hip : 0 < i := by simp at h18; omega
  refine rR 6 hf rfl ?_
  clear hf a; intro a hf
  obtain ⟨lb, lo, rfl, _, hlb, _⟩ := hL.2 (by omega)
  have hlj : ls[c + i - 1]? = some (ls.getD (c + i - 1) []) := by rw [List.getD_eq_getElem?_getD, List.getElem?_eq_getElem (by omega)]; rfl
  have hlg := fB ls (c + i - 1)
  refine rV hf rfl (aq hf rfl (by kernel_rfl) hB5 rfl) ?_
  clear hf a; intro a hf
  refine rR 2 hf rfl ?_
  clear hf a; intro a hf
  refine rV hf rfl (rg hf rfl rfl rfl (by omega)) ?_
  clear hf a; intro a hf
  refine rV hf rfl (qY hf rfl rfl rfl (by omega)) ?_
  clear hf a; intro a hf
  refine rV hf rfl (az (sz := 1) (k := (c + i - 1)) (r := lo + (c + i - 1) * 1) hf Tryz.underlying28 (by kernel_rfl) rfl rfl (by omega) (by omega) rfl) ?_
  clear hf a; intro a hf
  refine rV hf rfl (ex_load hf rfl (by kernel_rfl) (by rw [Nat.mul_one]; exact ax hL hE hlj)) ?_
  clear hf a; intro a hf
  refine rC hf rfl rfl (by kernel_rfl) (dj (lead := (ls.getD (c + i - 1) [])) (tok := [44]) hP (by (try simp only [ae, List.length_append, List.length_cons, List.length_nil]); omega) (by (try simp only [ae, List.length_append, List.length_cons, List.length_nil]); omega) hE.now) ?_
  rintro _ w17 ⟨rfl, hPn, hEn⟩
  refine ⟨_, rfl, ?_⟩
  clear hf a; intro a hf
  have hx16 := hEn.chg
  replace hB5 := hB5.chg hx16 (aF hB5 rfl (Ne.symm ne_b_b5))
  replace hB14 := hB14.chg hx16 (aF hB14 rfl (Ne.symm ne_b_b8))
  replace hT := hT.chg hx16 (fun k hb hlt2 => (nl hb))
  replace hE := hE.trans hx16 (fun _ h => .inl h)
  clear hP; have hP : Pr Bs b (ae (ls.getD (c + i - 1) []) [44] (bf ls c (treesP (ks.take i)) 0 s)).1 (ae (ls.getD (c + i - 1) []) [44] (bf ls c (treesP (ks.take i)) 0 s)).2 w17 := hPn; clear hPn hEn
  refine rR 4 hf rfl ?_
  clear hf a; intro a hf
  refine rV hf rfl (fy (m := 4) hf rfl (by kernel_rfl) hB14 rfl) ?_
  clear hf a; intro a hf
  rw [if_pos hip] at hst
  obtain ⟨hp1, hp2⟩ := bm (ls.getD (c + i - 1) []) [44] (bf ls c (treesP (ks.take i)) 0 s)
  simp only [List.length_cons, List.length_nil] at hp1 hp2
  refine rC hf rfl rfl (by kernel_rfl) (ih ks[i] _ Bs b (ae (ls.getD (c + i - 1) []) [44] (bf ls c (treesP (ks.take i)) 0 s)) d0 d1 d2 d3 (hks _ hmem).1 (hks _ hmem).2.1 (hks _ hmem).2.2 (by omega) (by omega) hP hT hE.now) ?_
  rintro _ w19 ⟨rfl, hPn, hEn⟩
  refine ⟨_, rfl, ?_⟩
  clear hf a; intro a hf
  have hx18 := hEn.chg
  replace hB5 := hB5.chg hx18 (aF hB5 rfl (Ne.symm ne_b_b5))
  replace hB14 := hB14.chg hx18 (aF hB14 rfl (Ne.symm ne_b_b8))
  replace hT := hT.chg hx18 (fun k hb hlt2 => (nl hb))
  replace hE := hE.trans hx18 (fun _ h => .inl h)
  clear hP; have hP : Pr Bs b (treeP ks[i] (ae (ls.getD (c + i - 1) []) [44] (bf ls c (treesP (ks.take i)) 0 s))).1 (treeP ks[i] (ae (ls.getD (c + i - 1) []) [44] (bf ls c (treesP (ks.take i)) 0 s))).2 w19 := hPn; clear hPn hEn
  refine rR 4 hf rfl ?_
  clear hf a; intro a hf
  refine rV hf rfl (rg hf rfl rfl rfl (by omega)) ?_
  clear hf a; intro a hf
  refine rR 2 hf rfl ?_
  clear hf a; intro a hf
  rw [← hst] at hP
  exact rX ⟨_, (by omega : ks.length - (i + 1) < ks.length - i), i + 1, hf.pick ⟨rfl, rfl, rfl, rfl, rfl, rfl, trivial⟩, hE, hB5, hP, by omega, rfl⟩
  clear hf a; intro h18 a hf
  have hip : i = 0 := by simp at h18; omega
  refine rR 7 hf rfl ?_
  clear hf a; intro a hf
  refine rV hf rfl (fy (m := 4) hf rfl (by kernel_rfl) hB14 rfl) ?_
  clear hf a; intro a hf
  rw [if_neg (by omega)] at hst
  refine rC hf rfl rfl (by kernel_rfl) (ih ks[i] _ Bs b (bf ls c (treesP (ks.take i)) 0 s) d0 d1 d2 d3 (hks _ hmem).1 (hks _ hmem).2.1 (hks _ hmem).2.2 (by omega) (by omega) hP hT hE.now) ?_
  rintro _ w21 ⟨rfl, hPn, hEn⟩
  refine ⟨_, rfl, ?_⟩
  clear hf a; intro a hf
  have hx20 := hEn.chg
  replace hB5 := hB5.chg hx20 (aF hB5 rfl (Ne.symm ne_b_b5))
  replace hB14 := hB14.chg hx20 (aF hB14 rfl (Ne.symm ne_b_b8))
  replace hT := hT.chg hx20 (fun k hb hlt2 => (nl hb))
  replace hE := hE.trans hx20 (fun _ h => .inl h)
  clear hP; have hP : Pr Bs b (treeP ks[i] (bf ls c (treesP (ks.take i)) 0 s)).1 (treeP ks[i] (bf ls c (treesP (ks.take i)) 0 s)).2 w21 := hPn; clear hPn hEn
  refine rR 4 hf rfl ?_
  clear hf a; intro a hf
  refine rV hf rfl (rg hf rfl rfl rfl (by omega)) ?_
  clear hf a; intro a hf
  refine rR 2 hf rfl ?_
  clear hf a; intro a hf
  rw [← hst] at hP
  exact rX ⟨_, (by omega : ks.length - (i + 1) < ks.length - i), i + 1, hf.pick ⟨rfl, rfl, rfl, rfl, rfl, rfl, trivial⟩, hE, hB5, hP, by omega, rfl⟩
  refine rR 2 hf rfl ?_
  clear hf a; intro a hf
  refine rV hf rfl (ql (c := false) hf rfl rfl (by simp; omega)) ?_
  clear hf a; intro a hf
  refine rR 6 hf rfl ?_
  clear hf a; intro a hf
  refine rO ?_
  refine rR 1 hf rfl ?_
  clear hf a; intro a hf
  have hz : ks.take i = ks := List.take_of_length_le (by omega)
  rw [hz] at hP
  exact rF (rs := []) hf rfl rfl ⟨rfl, hP, hE⟩
theorem vc {N : Nat} (ih : dk N) {w : World} {Bs b c : Nat} {s : WS} {ls : List (List UInt8)} {ks : List Tree} {cs : List Value} {k : Int} {x : List UInt8} {A B B2 : Option Addr} {m n n2 m2 : Nat} {ci : Int} (hci : ci = c) (h1c : 1 ≤ c) (hc6 : c ≤ 6) (hcl : c + ks.length ≤ ls.length + 1) (hks : ∀ t, t ∈ ks → tsize t ≤ N ∧ shapedT t = true ∧ leadedT t = true) (hl1 : s.2.length + 10 * lsum ls + 100 * kbulk ks + 10 ≤ 1000000000000) (hl2 : s.1.length + 10 * lsum ls + 100 * kbulk ks + 10 ≤ 1000000000000)
  (hP : Pr Bs b s.1 s.2 w) (hL : RowIn (fun b => b < Bs) w 1 A ls.length (ls.map aS)) (hK : KidsAre (fun b => b < Bs) w ks cs) (hR : RowIn (fun b => b < Bs) w 4 B ks.length cs) (hBw : Bs ≤ w.heap.size) :
  Calls Tryz.prog 95 [.pointer (some ⟨b, 0, none⟩), .agg #[.int .i64 k, aS x, .slice A ls.length m, .slice B2 n2 m2], .slice B ks.length n, .int .i64 ci].toArray w fun e w' => e = .returned (.tuple #[]) ∧ Pr Bs b (bf ls c (treesP ks) 0 s).1 (bf ls c (treesP ks) 0 s).2 w' ∧ Prn Bs b w w' := by
 subst hci; exact Eo ih h1c hc6 hcl hks hl1 hl2 hP hL hK hR hBw
end Go.Proofs.YtpnpdlnpikkeaaaGreat
namespace Go.Proofs.YtpnpdlnpikkeaaaGreat
open Go.RowKit Lx Sx
set_option maxRecDepth 100000
set_option maxHeartbeats 4000000
theorem dp {t : Tree} (h : leadedT t = true) (s : WS) : (treeP t s).2.length ≤ s.2.length + 100 * tbulk t ∧ (treeP t s).1.length ≤ s.1.length + 100 * tbulk t := Gw.tree _ t (Nat.le_refl _) h s
theorem st {ls : List (List UInt8)} {c : Nat} (hc : 1 ≤ c) {ks : List Tree} (h : ∀ t, t ∈ ks → ∀ s, Gw (100 * tbulk t) s (treeP t s)) (s : WS) : (bf ls c (treesP ks) 0 s).2.length ≤ s.2.length + (lsum ls + 2 * ks.length + 100 * kbulk ks) ∧ (bf ls c (treesP ks) 0 s).1.length ≤ s.1.length + (lsum ls + 2 * ks.length + 100 * kbulk ks) := by
 have h1 := Gw.list (ls := ls) hc ks 0 h s
 have h2 := jq ls (c + 0 - 1)
 exact ⟨by have := h1.1; omega, by have := h1.2; omega⟩
theorem t17 {N : Nat} (ih : dk N) {w : World} {Bs b : Nat} {s : WS} {x : List UInt8} {k0 : Tree} {cs : List Value} {A B : Option Addr} {m n : Nat} (hks : ∀ t, t ∈ [k0] → tsize t ≤ N ∧ shapedT t = true ∧ leadedT t = true)
    (hl1 : s.2.length + 100 * (x.length + lsum ([] : List (List UInt8)) + kbulk [k0] + 1) ≤ 1000000000000) (hl2 : s.1.length + 100 * (x.length + lsum ([] : List (List UInt8)) + kbulk [k0] + 1) ≤ 1000000000000) (hP : Pr Bs b s.1 s.2 w) (hL : RowIn (fun b => b < Bs) w 1 A ([] : List (List UInt8)).length (([] : List (List UInt8)).map aS)) (hn : [k0].length ≤ n) (hn2 : n ≤ maxLen) (hK : KidsAre (fun b => b < Bs) w [k0] cs) (hR : RowIn (fun b => b < Bs) w 4 B [k0].length cs) (hBw : Bs ≤ w.heap.size) :
    Calls Tryz.prog 62 [.pointer (some ⟨b, 0, none⟩), .agg #[.int .i64 17, aS x, .slice A ([] : List (List UInt8)).length m, .slice B [k0].length n]].toArray w fun e w' => e = .returned (.tuple #[]) ∧ Pr Bs b (treeP (.node 17 x ([] : List (List UInt8)) [k0]) s).1 (treeP (.node 17 x ([] : List (List UInt8)) [k0]) s).2 w' ∧ Prn Bs b w w' := by
  simp only [lsum, kbulk] at hl1 hl2
  have hE := Prn.refl (b := b) hBw
  have hG : s.2.length ≤ s.2.length := Nat.le_refl _
  have hG' : s.1.length ≤ s.1.length := Nat.le_refl _
  obtain ⟨kb, ko, rfl, _, hkb, _⟩ := hR.2 (by simp)
  refine rE 216 Tryz.func62 rfl rfl rfl ?_
  intro a hf
  refine rR 2 hf rfl fun a hf => ?_
  obtain ⟨w1, b2, he, hB3, hx4, eb5, lb6⟩ := di (P := Tryz.prog) (t := 30) (x := (.tmp 1)) hf rfl rfl w 0
  refine rV hf rfl he fun a hf => ?_
  have ge_b2 := Prn.ge_new hE eb5
  have ne_b_b2 : b ≠ b2 := cP hP.lt eb5
  replace hP := hP.chg0 hx4
  replace hE := hE.t0 hx4
  clear eb5 lb6
  refine rR 5 hf rfl fun a hf => rV hf rfl (aq hf rfl (by kernel_rfl) hB3 rfl) fun a hf => rR 41 hf rfl fun a hf => rV hf rfl (aq hf rfl (by kernel_rfl) hB3 rfl) fun a hf => rV hf rfl (az (sz := 4) (k := 0) (r := ko) hf Tryz.underlying25 (by kernel_rfl) rfl rfl rfl (by simp) rfl) fun a hf => ?_
  obtain ⟨d0, d1, d2, d3, hT, hK4⟩ := dQ hK hR hE (i := 0) (t := k0) rfl
  have on_T := hT.one
  refine rV hf rfl (ex_loadN (cs := [d0, d1, d2, d3]) (m := 4) hf rfl (by kernel_rfl) rfl hK4) fun a hf => rC hf rfl rfl (by kernel_rfl) (ih k0 _ Bs b s d0 d1 d2 d3 (hks _ (by simp)).1 (hks _ (by simp)).2.1 (hks _ (by simp)).2.2 (by (try simp only [ae, List.length_append, List.length_cons, List.length_nil]); omega) (by (try simp only [ae, List.length_append, List.length_cons, List.length_nil]); omega) hP hT hE.now) ?_
  rintro _ w9 ⟨rfl, hPn, hEn⟩
  refine ⟨_, rfl, fun a hf => ?_⟩
  have hx8 := hEn.chg
  replace hB3 := hB3.chg hx8 (aF hB3 rfl (Ne.symm ne_b_b2))
  replace hE := hE.trans hx8 (fun _ h => .inl h)
  obtain ⟨s7, es7⟩ : ∃ z, z = treeP k0 s := ⟨_, rfl⟩
  replace hPn : Pr Bs b (treeP k0 s).1 (treeP k0 s).2 w9 := hPn
  rw [← es7] at hPn
  have gs7 := dp (t := k0) (hks _ (by simp)).2.2 s
  rw [← es7] at gs7
  obtain ⟨gs7, gs7'⟩ := gs7
  (try simp only [List.length_cons, List.length_nil, lsum] at gs7 gs7')
  replace hG := nlt gs7 (Nat.add_le_add_right hG _)
  replace hG' := nlt gs7' (Nat.add_le_add_right hG' _)
  clear gs7 gs7'
  clear hP; have hP := hPn; clear hPn hEn
  refine rR 2 hf rfl fun a hf => ?_
  have eq : treeP (.node 17 x ([] : List (List UInt8)) [k0]) s = s7 := by subst es7; rfl
  rw [eq]
  exact rF (rs := []) hf rfl rfl ⟨rfl, hP, hE⟩
theorem t8 {N : Nat} (ih : dk N) {w : World} {Bs b : Nat} {s : WS} {x : List UInt8} {l0 l1 : List UInt8} {k0 : Tree} {cs : List Value} {A B : Option Addr} {m n : Nat} (hks : ∀ t, t ∈ [k0] → tsize t ≤ N ∧ shapedT t = true ∧ leadedT t = true)
    (hl1 : s.2.length + 100 * (x.length + lsum [l0, l1] + kbulk [k0] + 1) ≤ 1000000000000) (hl2 : s.1.length + 100 * (x.length + lsum [l0, l1] + kbulk [k0] + 1) ≤ 1000000000000) (hP : Pr Bs b s.1 s.2 w) (hL : RowIn (fun b => b < Bs) w 1 A [l0, l1].length ([l0, l1].map aS)) (hn : [k0].length ≤ n) (hn2 : n ≤ maxLen) (hK : KidsAre (fun b => b < Bs) w [k0] cs) (hR : RowIn (fun b => b < Bs) w 4 B [k0].length cs) (hBw : Bs ≤ w.heap.size) :
    Calls Tryz.prog 62 [.pointer (some ⟨b, 0, none⟩), .agg #[.int .i64 8, aS x, .slice A [l0, l1].length m, .slice B [k0].length n]].toArray w fun e w' => e = .returned (.tuple #[]) ∧ Pr Bs b (treeP (.node 8 x [l0, l1] [k0]) s).1 (treeP (.node 8 x [l0, l1] [k0]) s).2 w' ∧ Prn Bs b w w' := by
  simp only [lsum, kbulk] at hl1 hl2
  have hE := Prn.refl (b := b) hBw
  have hG : s.2.length ≤ s.2.length := Nat.le_refl _
  have hG' : s.1.length ≤ s.1.length := Nat.le_refl _
  obtain ⟨lb, lo, rfl, _, hlb, _⟩ := hL.2 (by simp)
  obtain ⟨kb, ko, rfl, _, hkb, _⟩ := hR.2 (by simp)
  refine rE 216 Tryz.func62 rfl rfl rfl ?_
  intro a hf
  refine rR 2 hf rfl fun a hf => ?_
  obtain ⟨w1, b2, he, hB3, hx4, eb5, lb6⟩ := di (P := Tryz.prog) (t := 30) (x := (.tmp 1)) hf rfl rfl w 0
  refine rV hf rfl he fun a hf => ?_
  have ge_b2 := Prn.ge_new hE eb5
  have ne_b_b2 : b ≠ b2 := cP hP.lt eb5
  replace hP := hP.chg0 hx4
  replace hE := hE.t0 hx4
  clear eb5 lb6
  refine rR 5 hf rfl fun a hf => rV hf rfl (aq hf rfl (by kernel_rfl) hB3 rfl) fun a hf => rR 49 hf rfl fun a hf => rV hf rfl (aq hf rfl (by kernel_rfl) hB3 rfl) fun a hf => rV hf rfl (az (sz := 1) (k := 0) (r := lo) hf Tryz.underlying28 (by kernel_rfl) rfl rfl rfl (by simp) rfl) fun a hf => rV hf rfl (ex_load hf rfl (by kernel_rfl) (ax hL hE (j := 0) rfl)) fun a hf => rC hf rfl rfl (by kernel_rfl) (dj (lead := l0) (tok := [91]) hP (by (try simp only [ae, List.length_append, List.length_cons, List.length_nil]); omega) (by (try simp only [ae, List.length_append, List.length_cons, List.length_nil]); omega) hE.now) ?_
  rintro _ w9 ⟨rfl, hPn, hEn⟩
  refine ⟨_, rfl, fun a hf => ?_⟩
  have hx8 := hEn.chg
  replace hB3 := hB3.chg hx8 (aF hB3 rfl (Ne.symm ne_b_b2))
  replace hE := hE.trans hx8 (fun _ h => .inl h)
  obtain ⟨s7, es7⟩ : ∃ z, z = ae l0 [91] s := ⟨_, rfl⟩
  replace hPn : Pr Bs b (ae l0 [91] s).1 (ae l0 [91] s).2 w9 := hPn
  rw [← es7] at hPn
  have gs7 := bm l0 [91] s
  rw [← es7] at gs7
  obtain ⟨gs7, gs7'⟩ := gs7
  (try simp only [List.length_cons, List.length_nil, lsum] at gs7 gs7')
  replace hG := nlt gs7 (Nat.add_le_add_right hG _)
  replace hG' := nlt gs7' (Nat.add_le_add_right hG' _)
  clear gs7 gs7'
  clear hP; have hP := hPn; clear hPn hEn
  refine rR 6 hf rfl fun a hf => rV hf rfl (aq hf rfl (by kernel_rfl) hB3 rfl) fun a hf => rV hf rfl (az (sz := 4) (k := 0) (r := ko) hf Tryz.underlying25 (by kernel_rfl) rfl rfl rfl (by simp) rfl) fun a hf => ?_
  obtain ⟨d0, d1, d2, d3, hT, hK4⟩ := dQ hK hR hE (i := 0) (t := k0) rfl
  have on_T := hT.one
  refine rV hf rfl (ex_loadN (cs := [d0, d1, d2, d3]) (m := 4) hf rfl (by kernel_rfl) rfl hK4) fun a hf => rC hf rfl rfl (by kernel_rfl) (ih k0 _ Bs b s7 d0 d1 d2 d3 (hks _ (by simp)).1 (hks _ (by simp)).2.1 (hks _ (by simp)).2.2 (by (try simp only [ae, List.length_append, List.length_cons, List.length_nil]); omega) (by (try simp only [ae, List.length_append, List.length_cons, List.length_nil]); omega) hP hT hE.now) ?_
  rintro _ w12 ⟨rfl, hPn, hEn⟩
  refine ⟨_, rfl, fun a hf => ?_⟩
  have hx11 := hEn.chg
  replace hB3 := hB3.chg hx11 (aF hB3 rfl (Ne.symm ne_b_b2))
  replace hE := hE.trans hx11 (fun _ h => .inl h)
  obtain ⟨s10, es10⟩ : ∃ z, z = treeP k0 s7 := ⟨_, rfl⟩
  replace hPn : Pr Bs b (treeP k0 s7).1 (treeP k0 s7).2 w12 := hPn
  rw [← es10] at hPn
  have gs10 := dp (t := k0) (hks _ (by simp)).2.2 s7
  rw [← es10] at gs10
  obtain ⟨gs10, gs10'⟩ := gs10
  (try simp only [List.length_cons, List.length_nil, lsum] at gs10 gs10')
  replace hG := nlt gs10 (Nat.add_le_add_right hG _)
  replace hG' := nlt gs10' (Nat.add_le_add_right hG' _)
  clear gs10 gs10'
  clear hP; have hP := hPn; clear hPn hEn
  refine rR 5 hf rfl fun a hf => rV hf rfl (aq hf rfl (by kernel_rfl) hB3 rfl) fun a hf => rV hf rfl (az (sz := 1) (k := 1) (r := lo + 1) hf Tryz.underlying28 (by kernel_rfl) rfl rfl rfl (by simp) rfl) fun a hf => rV hf rfl (ex_load hf rfl (by kernel_rfl) (ax hL hE (j := 1) rfl)) fun a hf => rC hf rfl rfl (by kernel_rfl) (dj (lead := l1) (tok := [93]) hP (by (try simp only [ae, List.length_append, List.length_cons, List.length_nil]); omega) (by (try simp only [ae, List.length_append, List.length_cons, List.length_nil]); omega) hE.now) ?_
  rintro _ w15 ⟨rfl, hPn, hEn⟩
  refine ⟨_, rfl, fun a hf => ?_⟩
  have hx14 := hEn.chg
  replace hB3 := hB3.chg hx14 (aF hB3 rfl (Ne.symm ne_b_b2))
  replace hE := hE.trans hx14 (fun _ h => .inl h)
  obtain ⟨s13, es13⟩ : ∃ z, z = ae l1 [93] s10 := ⟨_, rfl⟩
  replace hPn : Pr Bs b (ae l1 [93] s10).1 (ae l1 [93] s10).2 w15 := hPn
  rw [← es13] at hPn
  have gs13 := bm l1 [93] s10
  rw [← es13] at gs13
  obtain ⟨gs13, gs13'⟩ := gs13
  (try simp only [List.length_cons, List.length_nil, lsum] at gs13 gs13')
  replace hG := nlt gs13 (Nat.add_le_add_right hG _)
  replace hG' := nlt gs13' (Nat.add_le_add_right hG' _)
  clear gs13 gs13'
  clear hP; have hP := hPn; clear hPn hEn
  refine rR 2 hf rfl fun a hf => ?_
  have eq : treeP (.node 8 x [l0, l1] [k0]) s = s13 := by subst es13; subst es10; subst es7; rfl
  rw [eq]
  exact rF (rs := []) hf rfl rfl ⟨rfl, hP, hE⟩
theorem t19 {N : Nat} (ih : dk N) {w : World} {Bs b : Nat} {s : WS} {x : List UInt8} {l0 l1 l2 : List UInt8} {k0 k1 k2 : Tree} {cs : List Value} {A B : Option Addr} {m n : Nat} (hks : ∀ t, t ∈ [k0, k1, k2] → tsize t ≤ N ∧ shapedT t = true ∧ leadedT t = true)
    (hl1 : s.2.length + 100 * (x.length + lsum [l0, l1, l2] + kbulk [k0, k1, k2] + 1) ≤ 1000000000000) (hl2 : s.1.length + 100 * (x.length + lsum [l0, l1, l2] + kbulk [k0, k1, k2] + 1) ≤ 1000000000000) (hP : Pr Bs b s.1 s.2 w) (hL : RowIn (fun b => b < Bs) w 1 A [l0, l1, l2].length ([l0, l1, l2].map aS)) (hn : [k0, k1, k2].length ≤ n) (hn2 : n ≤ maxLen) (hK : KidsAre (fun b => b < Bs) w [k0, k1, k2] cs) (hR : RowIn (fun b => b < Bs) w 4 B [k0, k1, k2].length cs) (hBw : Bs ≤ w.heap.size) :
    Calls Tryz.prog 62 [.pointer (some ⟨b, 0, none⟩), .agg #[.int .i64 19, aS x, .slice A [l0, l1, l2].length m, .slice B [k0, k1, k2].length n]].toArray w fun e w' => e = .returned (.tuple #[]) ∧ Pr Bs b (treeP (.node 19 x [l0, l1, l2] [k0, k1, k2]) s).1 (treeP (.node 19 x [l0, l1, l2] [k0, k1, k2]) s).2 w' ∧ Prn Bs b w w' := by
  simp only [lsum, kbulk] at hl1 hl2
  have hE := Prn.refl (b := b) hBw
  have hG : s.2.length ≤ s.2.length := Nat.le_refl _
  have hG' : s.1.length ≤ s.1.length := Nat.le_refl _
  obtain ⟨lb, lo, rfl, _, hlb, _⟩ := hL.2 (by simp)
  obtain ⟨kb, ko, rfl, _, hkb, _⟩ := hR.2 (by simp)
  refine rE 216 Tryz.func62 rfl rfl rfl ?_
  intro a hf
  refine rR 2 hf rfl fun a hf => ?_
  obtain ⟨w1, b2, he, hB3, hx4, eb5, lb6⟩ := di (P := Tryz.prog) (t := 30) (x := (.tmp 1)) hf rfl rfl w 0
  refine rV hf rfl he fun a hf => ?_
  have ge_b2 := Prn.ge_new hE eb5
  have ne_b_b2 : b ≠ b2 := cP hP.lt eb5
  replace hP := hP.chg0 hx4
  replace hE := hE.t0 hx4
  clear eb5 lb6
  refine rR 5 hf rfl fun a hf => rV hf rfl (aq hf rfl (by kernel_rfl) hB3 rfl) fun a hf => rR 70 hf rfl fun a hf => rV hf rfl (aq hf rfl (by kernel_rfl) hB3 rfl) fun a hf => rV hf rfl (az (sz := 1) (k := 0) (r := lo) hf Tryz.underlying28 (by kernel_rfl) rfl rfl rfl (by simp) rfl) fun a hf => rV hf rfl (ex_load hf rfl (by kernel_rfl) (ax hL hE (j := 0) rfl)) fun a hf => rC hf rfl rfl (by kernel_rfl) (dj (lead := l0) (tok := [105, 102]) hP (by (try simp only [ae, List.length_append, List.length_cons, List.length_nil]); omega) (by (try simp only [ae, List.length_append, List.length_cons, List.length_nil]); omega) hE.now) ?_
  rintro _ w9 ⟨rfl, hPn, hEn⟩
  refine ⟨_, rfl, fun a hf => ?_⟩
  have hx8 := hEn.chg
  replace hB3 := hB3.chg hx8 (aF hB3 rfl (Ne.symm ne_b_b2))
  replace hE := hE.trans hx8 (fun _ h => .inl h)
  obtain ⟨s7, es7⟩ : ∃ z, z = ae l0 [105, 102] s := ⟨_, rfl⟩
  replace hPn : Pr Bs b (ae l0 [105, 102] s).1 (ae l0 [105, 102] s).2 w9 := hPn
  rw [← es7] at hPn
  have gs7 := bm l0 [105, 102] s
  rw [← es7] at gs7
  obtain ⟨gs7, gs7'⟩ := gs7
  (try simp only [List.length_cons, List.length_nil, lsum] at gs7 gs7')
  replace hG := nlt gs7 (Nat.add_le_add_right hG _)
  replace hG' := nlt gs7' (Nat.add_le_add_right hG' _)
  clear gs7 gs7'
  clear hP; have hP := hPn; clear hPn hEn
  refine rR 6 hf rfl fun a hf => rV hf rfl (aq hf rfl (by kernel_rfl) hB3 rfl) fun a hf => rV hf rfl (az (sz := 4) (k := 0) (r := ko) hf Tryz.underlying25 (by kernel_rfl) rfl rfl rfl (by simp) rfl) fun a hf => ?_
  obtain ⟨d0, d1, d2, d3, hT, hK4⟩ := dQ hK hR hE (i := 0) (t := k0) rfl
  have on_T := hT.one
  refine rV hf rfl (ex_loadN (cs := [d0, d1, d2, d3]) (m := 4) hf rfl (by kernel_rfl) rfl hK4) fun a hf => rC hf rfl rfl (by kernel_rfl) (ih k0 _ Bs b s7 d0 d1 d2 d3 (hks _ (by simp)).1 (hks _ (by simp)).2.1 (hks _ (by simp)).2.2 (by (try simp only [ae, List.length_append, List.length_cons, List.length_nil]); omega) (by (try simp only [ae, List.length_append, List.length_cons, List.length_nil]); omega) hP hT hE.now) ?_
  rintro _ w12 ⟨rfl, hPn, hEn⟩
  refine ⟨_, rfl, fun a hf => ?_⟩
  have hx11 := hEn.chg
  replace hB3 := hB3.chg hx11 (aF hB3 rfl (Ne.symm ne_b_b2))
  replace hE := hE.trans hx11 (fun _ h => .inl h)
  obtain ⟨s10, es10⟩ : ∃ z, z = treeP k0 s7 := ⟨_, rfl⟩
  replace hPn : Pr Bs b (treeP k0 s7).1 (treeP k0 s7).2 w12 := hPn
  rw [← es10] at hPn
  have gs10 := dp (t := k0) (hks _ (by simp)).2.2 s7
  rw [← es10] at gs10
  obtain ⟨gs10, gs10'⟩ := gs10
  (try simp only [List.length_cons, List.length_nil, lsum] at gs10 gs10')
  replace hG := nlt gs10 (Nat.add_le_add_right hG _)
  replace hG' := nlt gs10' (Nat.add_le_add_right hG' _)
  clear gs10 gs10'
  clear hP; have hP := hPn; clear hPn hEn
  refine rR 6 hf rfl fun a hf => rV hf rfl (aq hf rfl (by kernel_rfl) hB3 rfl) fun a hf => rV hf rfl (az (sz := 1) (k := 1) (r := lo + 1) hf Tryz.underlying28 (by kernel_rfl) rfl rfl rfl (by simp) rfl) fun a hf => rV hf rfl (ex_load hf rfl (by kernel_rfl) (ax hL hE (j := 1) rfl)) fun a hf => rC hf rfl rfl (by kernel_rfl) (dj (lead := l1) (tok := [116, 104, 101, 110]) hP (by (try simp only [ae, List.length_append, List.length_cons, List.length_nil]); omega) (by (try simp only [ae, List.length_append, List.length_cons, List.length_nil]); omega) hE.now) ?_
  rintro _ w15 ⟨rfl, hPn, hEn⟩
  refine ⟨_, rfl, fun a hf => ?_⟩
  have hx14 := hEn.chg
  replace hB3 := hB3.chg hx14 (aF hB3 rfl (Ne.symm ne_b_b2))
  replace hE := hE.trans hx14 (fun _ h => .inl h)
  obtain ⟨s13, es13⟩ : ∃ z, z = ae l1 [116, 104, 101, 110] s10 := ⟨_, rfl⟩
  replace hPn : Pr Bs b (ae l1 [116, 104, 101, 110] s10).1 (ae l1 [116, 104, 101, 110] s10).2 w15 := hPn
  rw [← es13] at hPn
  have gs13 := bm l1 [116, 104, 101, 110] s10
  rw [← es13] at gs13
  obtain ⟨gs13, gs13'⟩ := gs13
  (try simp only [List.length_cons, List.length_nil, lsum] at gs13 gs13')
  replace hG := nlt gs13 (Nat.add_le_add_right hG _)
  replace hG' := nlt gs13' (Nat.add_le_add_right hG' _)
  clear gs13 gs13'
  clear hP; have hP := hPn; clear hPn hEn
  refine rR 6 hf rfl fun a hf => rV hf rfl (aq hf rfl (by kernel_rfl) hB3 rfl) fun a hf => rV hf rfl (az (sz := 4) (k := 1) (r := ko + 4) hf Tryz.underlying25 (by kernel_rfl) rfl rfl rfl (by simp) rfl) fun a hf => ?_
  obtain ⟨d0, d1, d2, d3, hT, hK4⟩ := dQ hK hR hE (i := 1) (t := k1) rfl
  have on_T := hT.one
  refine rV hf rfl (ex_loadN (cs := [d0, d1, d2, d3]) (m := 4) hf rfl (by kernel_rfl) rfl hK4) fun a hf => rC hf rfl rfl (by kernel_rfl) (ih k1 _ Bs b s13 d0 d1 d2 d3 (hks _ (by simp)).1 (hks _ (by simp)).2.1 (hks _ (by simp)).2.2 (by (try simp only [ae, List.length_append, List.length_cons, List.length_nil]); omega) (by (try simp only [ae, List.length_append, List.length_cons, List.length_nil]); omega) hP hT hE.now) ?_
  rintro _ w18 ⟨rfl, hPn, hEn⟩
  refine ⟨_, rfl, fun a hf => ?_⟩
  have hx17 := hEn.chg
  replace hB3 := hB3.chg hx17 (aF hB3 rfl (Ne.symm ne_b_b2))
  replace hE := hE.trans hx17 (fun _ h => .inl h)
  obtain ⟨s16, es16⟩ : ∃ z, z = treeP k1 s13 := ⟨_, rfl⟩
  replace hPn : Pr Bs b (treeP k1 s13).1 (treeP k1 s13).2 w18 := hPn
  rw [← es16] at hPn
  have gs16 := dp (t := k1) (hks _ (by simp)).2.2 s13
  rw [← es16] at gs16
  obtain ⟨gs16, gs16'⟩ := gs16
  (try simp only [List.length_cons, List.length_nil, lsum] at gs16 gs16')
  replace hG := nlt gs16 (Nat.add_le_add_right hG _)
  replace hG' := nlt gs16' (Nat.add_le_add_right hG' _)
  clear gs16 gs16'
  clear hP; have hP := hPn; clear hPn hEn
  refine rR 6 hf rfl fun a hf => rV hf rfl (aq hf rfl (by kernel_rfl) hB3 rfl) fun a hf => rV hf rfl (az (sz := 1) (k := 2) (r := lo + 2) hf Tryz.underlying28 (by kernel_rfl) rfl rfl rfl (by simp) rfl) fun a hf => rV hf rfl (ex_load hf rfl (by kernel_rfl) (ax hL hE (j := 2) rfl)) fun a hf => rC hf rfl rfl (by kernel_rfl) (dj (lead := l2) (tok := [101, 108, 115, 101]) hP (by (try simp only [ae, List.length_append, List.length_cons, List.length_nil]); omega) (by (try simp only [ae, List.length_append, List.length_cons, List.length_nil]); omega) hE.now) ?_
  rintro _ w21 ⟨rfl, hPn, hEn⟩
  refine ⟨_, rfl, fun a hf => ?_⟩
  have hx20 := hEn.chg
  replace hB3 := hB3.chg hx20 (aF hB3 rfl (Ne.symm ne_b_b2))
  replace hE := hE.trans hx20 (fun _ h => .inl h)
  obtain ⟨s19, es19⟩ : ∃ z, z = ae l2 [101, 108, 115, 101] s16 := ⟨_, rfl⟩
  replace hPn : Pr Bs b (ae l2 [101, 108, 115, 101] s16).1 (ae l2 [101, 108, 115, 101] s16).2 w21 := hPn
  rw [← es19] at hPn
  have gs19 := bm l2 [101, 108, 115, 101] s16
  rw [← es19] at gs19
  obtain ⟨gs19, gs19'⟩ := gs19
  (try simp only [List.length_cons, List.length_nil, lsum] at gs19 gs19')
  replace hG := nlt gs19 (Nat.add_le_add_right hG _)
  replace hG' := nlt gs19' (Nat.add_le_add_right hG' _)
  clear gs19 gs19'
  clear hP; have hP := hPn; clear hPn hEn
  refine rR 5 hf rfl fun a hf => rV hf rfl (aq hf rfl (by kernel_rfl) hB3 rfl) fun a hf => rV hf rfl (az (sz := 4) (k := 2) (r := ko + 8) hf Tryz.underlying25 (by kernel_rfl) rfl rfl rfl (by simp) rfl) fun a hf => ?_
  obtain ⟨d0, d1, d2, d3, hT, hK4⟩ := dQ hK hR hE (i := 2) (t := k2) rfl
  have on_T := hT.one
  refine rV hf rfl (ex_loadN (cs := [d0, d1, d2, d3]) (m := 4) hf rfl (by kernel_rfl) rfl hK4) fun a hf => rC hf rfl rfl (by kernel_rfl) (ih k2 _ Bs b s19 d0 d1 d2 d3 (hks _ (by simp)).1 (hks _ (by simp)).2.1 (hks _ (by simp)).2.2 (by (try simp only [ae, List.length_append, List.length_cons, List.length_nil]); omega) (by (try simp only [ae, List.length_append, List.length_cons, List.length_nil]); omega) hP hT hE.now) ?_
  rintro _ w24 ⟨rfl, hPn, hEn⟩
  refine ⟨_, rfl, fun a hf => ?_⟩
  have hx23 := hEn.chg
  replace hB3 := hB3.chg hx23 (aF hB3 rfl (Ne.symm ne_b_b2))
  replace hE := hE.trans hx23 (fun _ h => .inl h)
  obtain ⟨s22, es22⟩ : ∃ z, z = treeP k2 s19 := ⟨_, rfl⟩
  replace hPn : Pr Bs b (treeP k2 s19).1 (treeP k2 s19).2 w24 := hPn
  rw [← es22] at hPn
  have gs22 := dp (t := k2) (hks _ (by simp)).2.2 s19
  rw [← es22] at gs22
  obtain ⟨gs22, gs22'⟩ := gs22
  (try simp only [List.length_cons, List.length_nil, lsum] at gs22 gs22')
  replace hG := nlt gs22 (Nat.add_le_add_right hG _)
  replace hG' := nlt gs22' (Nat.add_le_add_right hG' _)
  clear gs22 gs22'
  clear hP; have hP := hPn; clear hPn hEn
  refine rR 2 hf rfl fun a hf => ?_
  have eq : treeP (.node 19 x [l0, l1, l2] [k0, k1, k2]) s = s22 := by subst es22; subst es19; subst es16; subst es13; subst es10; subst es7; rfl
  rw [eq]
  exact rF (rs := []) hf rfl rfl ⟨rfl, hP, hE⟩
theorem t20 {N : Nat} (ih : dk N) {w : World} {Bs b : Nat} {s : WS} {x : List UInt8} {l0 l1 l2 l3 : List UInt8} {k0 k1 : Tree} {cs : List Value} {A B : Option Addr} {m n : Nat} (hks : ∀ t, t ∈ [k0, k1] → tsize t ≤ N ∧ shapedT t = true ∧ leadedT t = true)
    (hl1 : s.2.length + 100 * (x.length + lsum [l0, l1, l2, l3] + kbulk [k0, k1] + 1) ≤ 1000000000000) (hl2 : s.1.length + 100 * (x.length + lsum [l0, l1, l2, l3] + kbulk [k0, k1] + 1) ≤ 1000000000000) (hP : Pr Bs b s.1 s.2 w) (hL : RowIn (fun b => b < Bs) w 1 A [l0, l1, l2, l3].length ([l0, l1, l2, l3].map aS)) (hn : [k0, k1].length ≤ n) (hn2 : n ≤ maxLen) (hK : KidsAre (fun b => b < Bs) w [k0, k1] cs) (hR : RowIn (fun b => b < Bs) w 4 B [k0, k1].length cs) (hBw : Bs ≤ w.heap.size) :
    Calls Tryz.prog 62 [.pointer (some ⟨b, 0, none⟩), .agg #[.int .i64 20, aS x, .slice A [l0, l1, l2, l3].length m, .slice B [k0, k1].length n]].toArray w fun e w' => e = .returned (.tuple #[]) ∧ Pr Bs b (treeP (.node 20 x [l0, l1, l2, l3] [k0, k1]) s).1 (treeP (.node 20 x [l0, l1, l2, l3] [k0, k1]) s).2 w' ∧ Prn Bs b w w' := by
  simp only [lsum, kbulk] at hl1 hl2
  have hE := Prn.refl (b := b) hBw
  have hG : s.2.length ≤ s.2.length := Nat.le_refl _
  have hG' : s.1.length ≤ s.1.length := Nat.le_refl _
  obtain ⟨lb, lo, rfl, _, hlb, _⟩ := hL.2 (by simp)
  obtain ⟨kb, ko, rfl, _, hkb, _⟩ := hR.2 (by simp)
  refine rE 216 Tryz.func62 rfl rfl rfl ?_
  intro a hf
  refine rR 2 hf rfl fun a hf => ?_
  obtain ⟨w1, b2, he, hB3, hx4, eb5, lb6⟩ := di (P := Tryz.prog) (t := 30) (x := (.tmp 1)) hf rfl rfl w 0
  refine rV hf rfl he fun a hf => ?_
  have ge_b2 := Prn.ge_new hE eb5
  have ne_b_b2 : b ≠ b2 := cP hP.lt eb5
  replace hP := hP.chg0 hx4
  replace hE := hE.t0 hx4
  clear eb5 lb6
  refine rR 5 hf rfl fun a hf => rV hf rfl (aq hf rfl (by kernel_rfl) hB3 rfl) fun a hf => rR 77 hf rfl fun a hf => rV hf rfl (aq hf rfl (by kernel_rfl) hB3 rfl) fun a hf => rV hf rfl (az (sz := 1) (k := 0) (r := lo) hf Tryz.underlying28 (by kernel_rfl) rfl rfl rfl (by simp) rfl) fun a hf => rV hf rfl (ex_load hf rfl (by kernel_rfl) (ax hL hE (j := 0) rfl)) fun a hf => rC hf rfl rfl (by kernel_rfl) (dj (lead := l0) (tok := [108, 101, 116]) hP (by (try simp only [ae, List.length_append, List.length_cons, List.length_nil]); omega) (by (try simp only [ae, List.length_append, List.length_cons, List.length_nil]); omega) hE.now) ?_
  rintro _ w9 ⟨rfl, hPn, hEn⟩
  refine ⟨_, rfl, fun a hf => ?_⟩
  have hx8 := hEn.chg
  replace hB3 := hB3.chg hx8 (aF hB3 rfl (Ne.symm ne_b_b2))
  replace hE := hE.trans hx8 (fun _ h => .inl h)
  obtain ⟨s7, es7⟩ : ∃ z, z = ae l0 [108, 101, 116] s := ⟨_, rfl⟩
  replace hPn : Pr Bs b (ae l0 [108, 101, 116] s).1 (ae l0 [108, 101, 116] s).2 w9 := hPn
  rw [← es7] at hPn
  have gs7 := bm l0 [108, 101, 116] s
  rw [← es7] at gs7
  obtain ⟨gs7, gs7'⟩ := gs7
  (try simp only [List.length_cons, List.length_nil, lsum] at gs7 gs7')
  replace hG := nlt gs7 (Nat.add_le_add_right hG _)
  replace hG' := nlt gs7' (Nat.add_le_add_right hG' _)
  clear gs7 gs7'
  clear hP; have hP := hPn; clear hPn hEn
  refine rR 3 hf rfl fun a hf => ?_
  have s_lb := ax hL hE (j := 1) rfl
  have s_hB3 := hB3
  refine rD (fun x => x.cell? ⟨b2, 2, none⟩ = w9.cell? ⟨b2, 2, none⟩ ∧ x.cell? ⟨lb, lo + 1, none⟩ = w9.cell? ⟨lb, lo + 1, none⟩ ∧ x.cell? ⟨b2, 1, none⟩ = w9.cell? ⟨b2, 1, none⟩) 8 8 rfl (by kernel_rfl) (by kernel_rfl) ?_
  intro w10 hx11 hsel
  replace hB3 := hB3.c0 hx11
  replace hP := hP.chg0 hx11
  replace hE := hE.t0 hx11
  have hS0 : w10.cell? ⟨b2, 2, none⟩ = w9.cell? ⟨b2, 2, none⟩ ∧ w10.cell? ⟨lb, lo + 1, none⟩ = w9.cell? ⟨lb, lo + 1, none⟩ ∧ w10.cell? ⟨b2, 1, none⟩ = w9.cell? ⟨b2, 1, none⟩ := ⟨(hB3.cell 2).trans (s_hB3.cell 2).symm, ((ax hL hE (j := 1) rfl).trans s_lb.symm), (hB3.cell 1).trans (s_hB3.cell 1).symm⟩
  refine dR [0, 1] hsel (by kernel_rfl) hf rfl rfl (.inl hS0) fun a hf => dL 2 rfl rfl hsel (by kernel_rfl) hf rfl hS0 (fun x hS => ex_load hf rfl (by kernel_rfl) (hS.1.trans ((s_hB3.cell 2).trans rfl))) fun a hf => dV 3 rfl rfl hsel (by kernel_rfl) hf rfl (.inl hS0) (fun x => az (sz := 1) (k := 1) (r := lo + 1) hf Tryz.underlying28 (by kernel_rfl) rfl rfl rfl (by simp) rfl) fun a hf => dL 4 rfl rfl hsel (by kernel_rfl) hf rfl hS0 (fun x hS => ex_load hf rfl (by kernel_rfl) (hS.2.1.trans s_lb)) fun a hf => dR [5] hsel (by kernel_rfl) hf rfl rfl (.inl hS0) fun a hf => dL 6 rfl rfl hsel (by kernel_rfl) hf rfl hS0 (fun x hS => ex_load hf rfl (by kernel_rfl) (hS.2.2.trans ((s_hB3.cell 1).trans rfl))) fun a hf => nB 7 (by kernel_rfl) rfl hf rfl rfl rfl (by kernel_rfl) (dj (lead := l1) (tok := x) hP (by (try simp only [ae, List.length_append, List.length_cons, List.length_nil]); omega) (by (try simp only [ae, List.length_append, List.length_cons, List.length_nil]); omega) hE.now) ?_
  rintro _ w14 ⟨rfl, hPn, hEn⟩
  refine ⟨_, rfl, fun a hf => ?_⟩
  have hx13 := hEn.chg
  replace hB3 := hB3.chg hx13 (aF hB3 rfl (Ne.symm ne_b_b2))
  replace hE := hE.trans hx13 (fun _ h => .inl h)
  obtain ⟨s12, es12⟩ : ∃ z, z = ae l1 x s7 := ⟨_, rfl⟩
  replace hPn : Pr Bs b (ae l1 x s7).1 (ae l1 x s7).2 w14 := hPn
  rw [← es12] at hPn
  have gs12 := bm l1 x s7
  rw [← es12] at gs12
  obtain ⟨gs12, gs12'⟩ := gs12
  (try simp only [List.length_cons, List.length_nil, lsum] at gs12 gs12')
  replace hG := nlt gs12 (Nat.add_le_add_right hG _)
  replace hG' := nlt gs12' (Nat.add_le_add_right hG' _)
  clear gs12 gs12'
  clear hP; have hP := hPn; clear hPn hEn
  clear hS0
  have hS0 : w14.cell? ⟨b2, 2, none⟩ = w9.cell? ⟨b2, 2, none⟩ ∧ w14.cell? ⟨lb, lo + 1, none⟩ = w9.cell? ⟨lb, lo + 1, none⟩ ∧ w14.cell? ⟨b2, 1, none⟩ = w9.cell? ⟨b2, 1, none⟩ := ⟨(hB3.cell 2).trans (s_hB3.cell 2).symm, ((ax hL hE (j := 1) rfl).trans s_lb.symm), (hB3.cell 1).trans (s_hB3.cell 1).symm⟩
  refine ⟨.inl hS0, ?_⟩
  refine rN (by kernel_rfl) ?_
  clear hS0 hsel
  refine rR 5 hf rfl fun a hf => rV hf rfl (aq hf rfl (by kernel_rfl) hB3 rfl) fun a hf => rV hf rfl (az (sz := 1) (k := 2) (r := lo + 2) hf Tryz.underlying28 (by kernel_rfl) rfl rfl rfl (by simp) rfl) fun a hf => rV hf rfl (ex_load hf rfl (by kernel_rfl) (ax hL hE (j := 2) rfl)) fun a hf => rC hf rfl rfl (by kernel_rfl) (dj (lead := l2) (tok := [61]) hP (by (try simp only [ae, List.length_append, List.length_cons, List.length_nil]); omega) (by (try simp only [ae, List.length_append, List.length_cons, List.length_nil]); omega) hE.now) ?_
  rintro _ w17 ⟨rfl, hPn, hEn⟩
  refine ⟨_, rfl, fun a hf => ?_⟩
  have hx16 := hEn.chg
  replace hB3 := hB3.chg hx16 (aF hB3 rfl (Ne.symm ne_b_b2))
  replace hE := hE.trans hx16 (fun _ h => .inl h)
  obtain ⟨s15, es15⟩ : ∃ z, z = ae l2 [61] s12 := ⟨_, rfl⟩
  replace hPn : Pr Bs b (ae l2 [61] s12).1 (ae l2 [61] s12).2 w17 := hPn
  rw [← es15] at hPn
  have gs15 := bm l2 [61] s12
  rw [← es15] at gs15
  obtain ⟨gs15, gs15'⟩ := gs15
  (try simp only [List.length_cons, List.length_nil, lsum] at gs15 gs15')
  replace hG := nlt gs15 (Nat.add_le_add_right hG _)
  replace hG' := nlt gs15' (Nat.add_le_add_right hG' _)
  clear gs15 gs15'
  clear hP; have hP := hPn; clear hPn hEn
  refine rR 6 hf rfl fun a hf => rV hf rfl (aq hf rfl (by kernel_rfl) hB3 rfl) fun a hf => rV hf rfl (az (sz := 4) (k := 0) (r := ko) hf Tryz.underlying25 (by kernel_rfl) rfl rfl rfl (by simp) rfl) fun a hf => ?_
  obtain ⟨d0, d1, d2, d3, hT, hK4⟩ := dQ hK hR hE (i := 0) (t := k0) rfl
  have on_T := hT.one
  refine rV hf rfl (ex_loadN (cs := [d0, d1, d2, d3]) (m := 4) hf rfl (by kernel_rfl) rfl hK4) fun a hf => rC hf rfl rfl (by kernel_rfl) (ih k0 _ Bs b s15 d0 d1 d2 d3 (hks _ (by simp)).1 (hks _ (by simp)).2.1 (hks _ (by simp)).2.2 (by (try simp only [ae, List.length_append, List.length_cons, List.length_nil]); omega) (by (try simp only [ae, List.length_append, List.length_cons, List.length_nil]); omega) hP hT hE.now) ?_
  rintro _ w20 ⟨rfl, hPn, hEn⟩
  refine ⟨_, rfl, fun a hf => ?_⟩
  have hx19 := hEn.chg
  replace hB3 := hB3.chg hx19 (aF hB3 rfl (Ne.symm ne_b_b2))
  replace hE := hE.trans hx19 (fun _ h => .inl h)
  obtain ⟨s18, es18⟩ : ∃ z, z = treeP k0 s15 := ⟨_, rfl⟩
  replace hPn : Pr Bs b (treeP k0 s15).1 (treeP k0 s15).2 w20 := hPn
  rw [← es18] at hPn
  have gs18 := dp (t := k0) (hks _ (by simp)).2.2 s15
  rw [← es18] at gs18
  obtain ⟨gs18, gs18'⟩ := gs18
  (try simp only [List.length_cons, List.length_nil, lsum] at gs18 gs18')
  replace hG := nlt gs18 (Nat.add_le_add_right hG _)
  replace hG' := nlt gs18' (Nat.add_le_add_right hG' _)
  clear gs18 gs18'
  clear hP; have hP := hPn; clear hPn hEn
  refine rR 6 hf rfl fun a hf => rV hf rfl (aq hf rfl (by kernel_rfl) hB3 rfl) fun a hf => rV hf rfl (az (sz := 1) (k := 3) (r := lo + 3) hf Tryz.underlying28 (by kernel_rfl) rfl rfl rfl (by simp) rfl) fun a hf => rV hf rfl (ex_load hf rfl (by kernel_rfl) (ax hL hE (j := 3) rfl)) fun a hf => rC hf rfl rfl (by kernel_rfl) (dj (lead := l3) (tok := [105, 110]) hP (by (try simp only [ae, List.length_append, List.length_cons, List.length_nil]); omega) (by (try simp only [ae, List.length_append, List.length_cons, List.length_nil]); omega) hE.now) ?_
  rintro _ w23 ⟨rfl, hPn, hEn⟩
  refine ⟨_, rfl, fun a hf => ?_⟩
  have hx22 := hEn.chg
  replace hB3 := hB3.chg hx22 (aF hB3 rfl (Ne.symm ne_b_b2))
  replace hE := hE.trans hx22 (fun _ h => .inl h)
  obtain ⟨s21, es21⟩ : ∃ z, z = ae l3 [105, 110] s18 := ⟨_, rfl⟩
  replace hPn : Pr Bs b (ae l3 [105, 110] s18).1 (ae l3 [105, 110] s18).2 w23 := hPn
  rw [← es21] at hPn
  have gs21 := bm l3 [105, 110] s18
  rw [← es21] at gs21
  obtain ⟨gs21, gs21'⟩ := gs21
  (try simp only [List.length_cons, List.length_nil, lsum] at gs21 gs21')
  replace hG := nlt gs21 (Nat.add_le_add_right hG _)
  replace hG' := nlt gs21' (Nat.add_le_add_right hG' _)
  clear gs21 gs21'
  clear hP; have hP := hPn; clear hPn hEn
  refine rR 5 hf rfl fun a hf => rV hf rfl (aq hf rfl (by kernel_rfl) hB3 rfl) fun a hf => rV hf rfl (az (sz := 4) (k := 1) (r := ko + 4) hf Tryz.underlying25 (by kernel_rfl) rfl rfl rfl (by simp) rfl) fun a hf => ?_
  obtain ⟨d0, d1, d2, d3, hT, hK4⟩ := dQ hK hR hE (i := 1) (t := k1) rfl
  have on_T := hT.one
  refine rV hf rfl (ex_loadN (cs := [d0, d1, d2, d3]) (m := 4) hf rfl (by kernel_rfl) rfl hK4) fun a hf => rC hf rfl rfl (by kernel_rfl) (ih k1 _ Bs b s21 d0 d1 d2 d3 (hks _ (by simp)).1 (hks _ (by simp)).2.1 (hks _ (by simp)).2.2 (by (try simp only [ae, List.length_append, List.length_cons, List.length_nil]); omega) (by (try simp only [ae, List.length_append, List.length_cons, List.length_nil]); omega) hP hT hE.now) ?_
  rintro _ w26 ⟨rfl, hPn, hEn⟩
  refine ⟨_, rfl, fun a hf => ?_⟩
  have hx25 := hEn.chg
  replace hB3 := hB3.chg hx25 (aF hB3 rfl (Ne.symm ne_b_b2))
  replace hE := hE.trans hx25 (fun _ h => .inl h)
  obtain ⟨s24, es24⟩ : ∃ z, z = treeP k1 s21 := ⟨_, rfl⟩
  replace hPn : Pr Bs b (treeP k1 s21).1 (treeP k1 s21).2 w26 := hPn
  rw [← es24] at hPn
  have gs24 := dp (t := k1) (hks _ (by simp)).2.2 s21
  rw [← es24] at gs24
  obtain ⟨gs24, gs24'⟩ := gs24
  (try simp only [List.length_cons, List.length_nil, lsum] at gs24 gs24')
  replace hG := nlt gs24 (Nat.add_le_add_right hG _)
  replace hG' := nlt gs24' (Nat.add_le_add_right hG' _)
  clear gs24 gs24'
  clear hP; have hP := hPn; clear hPn hEn
  refine rR 2 hf rfl fun a hf => ?_
  have eq : treeP (.node 20 x [l0, l1, l2, l3] [k0, k1]) s = s24 := by subst es24; subst es21; subst es18; subst es15; subst es12; subst es7; rfl
  rw [eq]
  exact rF (rs := []) hf rfl rfl ⟨rfl, hP, hE⟩
theorem t21 {N : Nat} (ih : dk N) {w : World} {Bs b : Nat} {s : WS} {x : List UInt8} {l0 : List UInt8} {k0 k1 : Tree} {cs : List Value} {A B : Option Addr} {m n : Nat} (hks : ∀ t, t ∈ [k0, k1] → tsize t ≤ N ∧ shapedT t = true ∧ leadedT t = true)
    (hl1 : s.2.length + 100 * (x.length + lsum [l0] + kbulk [k0, k1] + 1) ≤ 1000000000000) (hl2 : s.1.length + 100 * (x.length + lsum [l0] + kbulk [k0, k1] + 1) ≤ 1000000000000) (hP : Pr Bs b s.1 s.2 w) (hL : RowIn (fun b => b < Bs) w 1 A [l0].length ([l0].map aS)) (hn : [k0, k1].length ≤ n) (hn2 : n ≤ maxLen) (hK : KidsAre (fun b => b < Bs) w [k0, k1] cs) (hR : RowIn (fun b => b < Bs) w 4 B [k0, k1].length cs) (hBw : Bs ≤ w.heap.size) :
    Calls Tryz.prog 62 [.pointer (some ⟨b, 0, none⟩), .agg #[.int .i64 21, aS x, .slice A [l0].length m, .slice B [k0, k1].length n]].toArray w fun e w' => e = .returned (.tuple #[]) ∧ Pr Bs b (treeP (.node 21 x [l0] [k0, k1]) s).1 (treeP (.node 21 x [l0] [k0, k1]) s).2 w' ∧ Prn Bs b w w' := by
  simp only [lsum, kbulk] at hl1 hl2
  have hE := Prn.refl (b := b) hBw
  have hG : s.2.length ≤ s.2.length := Nat.le_refl _
  have hG' : s.1.length ≤ s.1.length := Nat.le_refl _
  obtain ⟨lb, lo, rfl, _, hlb, _⟩ := hL.2 (by simp)
  obtain ⟨kb, ko, rfl, _, hkb, _⟩ := hR.2 (by simp)
  refine rE 216 Tryz.func62 rfl rfl rfl ?_
  intro a hf
  refine rR 2 hf rfl fun a hf => ?_
  obtain ⟨w1, b2, he, hB3, hx4, eb5, lb6⟩ := di (P := Tryz.prog) (t := 30) (x := (.tmp 1)) hf rfl rfl w 0
  refine rV hf rfl he fun a hf => ?_
  have ge_b2 := Prn.ge_new hE eb5
  have ne_b_b2 : b ≠ b2 := cP hP.lt eb5
  replace hP := hP.chg0 hx4
  replace hE := hE.t0 hx4
  clear eb5 lb6
  refine rR 5 hf rfl fun a hf => rV hf rfl (aq hf rfl (by kernel_rfl) hB3 rfl) fun a hf => rR 84 hf rfl fun a hf => rV hf rfl (aq hf rfl (by kernel_rfl) hB3 rfl) fun a hf => rV hf rfl (az (sz := 4) (k := 0) (r := ko) hf Tryz.underlying25 (by kernel_rfl) rfl rfl rfl (by simp) rfl) fun a hf => ?_
  obtain ⟨d0, d1, d2, d3, hT, hK4⟩ := dQ hK hR hE (i := 0) (t := k0) rfl
  have on_T := hT.one
  refine rV hf rfl (ex_loadN (cs := [d0, d1, d2, d3]) (m := 4) hf rfl (by kernel_rfl) rfl hK4) fun a hf => rC hf rfl rfl (by kernel_rfl) (ih k0 _ Bs b s d0 d1 d2 d3 (hks _ (by simp)).1 (hks _ (by simp)).2.1 (hks _ (by simp)).2.2 (by (try simp only [ae, List.length_append, List.length_cons, List.length_nil]); omega) (by (try simp only [ae, List.length_append, List.length_cons, List.length_nil]); omega) hP hT hE.now) ?_
  rintro _ w9 ⟨rfl, hPn, hEn⟩
  refine ⟨_, rfl, fun a hf => ?_⟩
  have hx8 := hEn.chg
  replace hB3 := hB3.chg hx8 (aF hB3 rfl (Ne.symm ne_b_b2))
  replace hE := hE.trans hx8 (fun _ h => .inl h)
  obtain ⟨s7, es7⟩ : ∃ z, z = treeP k0 s := ⟨_, rfl⟩
  replace hPn : Pr Bs b (treeP k0 s).1 (treeP k0 s).2 w9 := hPn
  rw [← es7] at hPn
  have gs7 := dp (t := k0) (hks _ (by simp)).2.2 s
  rw [← es7] at gs7
  obtain ⟨gs7, gs7'⟩ := gs7
  (try simp only [List.length_cons, List.length_nil, lsum] at gs7 gs7')
  replace hG := nlt gs7 (Nat.add_le_add_right hG _)
  replace hG' := nlt gs7' (Nat.add_le_add_right hG' _)
  clear gs7 gs7'
  clear hP; have hP := hPn; clear hPn hEn
  refine rR 3 hf rfl fun a hf => ?_
  have s_lb := ax hL hE (j := 0) rfl
  have s_hB3 := hB3
  refine rD (fun x => x.cell? ⟨b2, 2, none⟩ = w9.cell? ⟨b2, 2, none⟩ ∧ x.cell? ⟨lb, lo, none⟩ = w9.cell? ⟨lb, lo, none⟩ ∧ x.cell? ⟨b2, 1, none⟩ = w9.cell? ⟨b2, 1, none⟩) 8 8 rfl (by kernel_rfl) (by kernel_rfl) ?_
  intro w10 hx11 hsel
  replace hB3 := hB3.c0 hx11
  replace hP := hP.chg0 hx11
  replace hE := hE.t0 hx11
  have hS0 : w10.cell? ⟨b2, 2, none⟩ = w9.cell? ⟨b2, 2, none⟩ ∧ w10.cell? ⟨lb, lo, none⟩ = w9.cell? ⟨lb, lo, none⟩ ∧ w10.cell? ⟨b2, 1, none⟩ = w9.cell? ⟨b2, 1, none⟩ := ⟨(hB3.cell 2).trans (s_hB3.cell 2).symm, ((ax hL hE (j := 0) rfl).trans s_lb.symm), (hB3.cell 1).trans (s_hB3.cell 1).symm⟩
  refine dR [0, 1] hsel (by kernel_rfl) hf rfl rfl (.inl hS0) fun a hf => dL 2 rfl rfl hsel (by kernel_rfl) hf rfl hS0 (fun x hS => ex_load hf rfl (by kernel_rfl) (hS.1.trans ((s_hB3.cell 2).trans rfl))) fun a hf => dV 3 rfl rfl hsel (by kernel_rfl) hf rfl (.inl hS0) (fun x => az (sz := 1) (k := 0) (r := lo) hf Tryz.underlying28 (by kernel_rfl) rfl rfl rfl (by simp) rfl) fun a hf => dL 4 rfl rfl hsel (by kernel_rfl) hf rfl hS0 (fun x hS => ex_load hf rfl (by kernel_rfl) (hS.2.1.trans s_lb)) fun a hf => dR [5] hsel (by kernel_rfl) hf rfl rfl (.inl hS0) fun a hf => dL 6 rfl rfl hsel (by kernel_rfl) hf rfl hS0 (fun x hS => ex_load hf rfl (by kernel_rfl) (hS.2.2.trans ((s_hB3.cell 1).trans rfl))) fun a hf => nB 7 (by kernel_rfl) rfl hf rfl rfl rfl (by kernel_rfl) (dj (lead := l0) (tok := x) hP (by (try simp only [ae, List.length_append, List.length_cons, List.length_nil]); omega) (by (try simp only [ae, List.length_append, List.length_cons, List.length_nil]); omega) hE.now) ?_
  rintro _ w14 ⟨rfl, hPn, hEn⟩
  refine ⟨_, rfl, fun a hf => ?_⟩
  have hx13 := hEn.chg
  replace hB3 := hB3.chg hx13 (aF hB3 rfl (Ne.symm ne_b_b2))
  replace hE := hE.trans hx13 (fun _ h => .inl h)
  obtain ⟨s12, es12⟩ : ∃ z, z = ae l0 x s7 := ⟨_, rfl⟩
  replace hPn : Pr Bs b (ae l0 x s7).1 (ae l0 x s7).2 w14 := hPn
  rw [← es12] at hPn
  have gs12 := bm l0 x s7
  rw [← es12] at gs12
  obtain ⟨gs12, gs12'⟩ := gs12
  (try simp only [List.length_cons, List.length_nil, lsum] at gs12 gs12')
  replace hG := nlt gs12 (Nat.add_le_add_right hG _)
  replace hG' := nlt gs12' (Nat.add_le_add_right hG' _)
  clear gs12 gs12'
  clear hP; have hP := hPn; clear hPn hEn
  clear hS0
  have hS0 : w14.cell? ⟨b2, 2, none⟩ = w9.cell? ⟨b2, 2, none⟩ ∧ w14.cell? ⟨lb, lo, none⟩ = w9.cell? ⟨lb, lo, none⟩ ∧ w14.cell? ⟨b2, 1, none⟩ = w9.cell? ⟨b2, 1, none⟩ := ⟨(hB3.cell 2).trans (s_hB3.cell 2).symm, ((ax hL hE (j := 0) rfl).trans s_lb.symm), (hB3.cell 1).trans (s_hB3.cell 1).symm⟩
  refine ⟨.inl hS0, ?_⟩
  refine rN (by kernel_rfl) ?_
  clear hS0 hsel
  refine rR 4 hf rfl fun a hf => rV hf rfl (aq hf rfl (by kernel_rfl) hB3 rfl) fun a hf => rV hf rfl (az (sz := 4) (k := 1) (r := ko + 4) hf Tryz.underlying25 (by kernel_rfl) rfl rfl rfl (by simp) rfl) fun a hf => ?_
  obtain ⟨d0, d1, d2, d3, hT, hK4⟩ := dQ hK hR hE (i := 1) (t := k1) rfl
  have on_T := hT.one
  refine rV hf rfl (ex_loadN (cs := [d0, d1, d2, d3]) (m := 4) hf rfl (by kernel_rfl) rfl hK4) fun a hf => rC hf rfl rfl (by kernel_rfl) (ih k1 _ Bs b s12 d0 d1 d2 d3 (hks _ (by simp)).1 (hks _ (by simp)).2.1 (hks _ (by simp)).2.2 (by (try simp only [ae, List.length_append, List.length_cons, List.length_nil]); omega) (by (try simp only [ae, List.length_append, List.length_cons, List.length_nil]); omega) hP hT hE.now) ?_
  rintro _ w17 ⟨rfl, hPn, hEn⟩
  refine ⟨_, rfl, fun a hf => ?_⟩
  have hx16 := hEn.chg
  replace hB3 := hB3.chg hx16 (aF hB3 rfl (Ne.symm ne_b_b2))
  replace hE := hE.trans hx16 (fun _ h => .inl h)
  obtain ⟨s15, es15⟩ : ∃ z, z = treeP k1 s12 := ⟨_, rfl⟩
  replace hPn : Pr Bs b (treeP k1 s12).1 (treeP k1 s12).2 w17 := hPn
  rw [← es15] at hPn
  have gs15 := dp (t := k1) (hks _ (by simp)).2.2 s12
  rw [← es15] at gs15
  obtain ⟨gs15, gs15'⟩ := gs15
  (try simp only [List.length_cons, List.length_nil, lsum] at gs15 gs15')
  replace hG := nlt gs15 (Nat.add_le_add_right hG _)
  replace hG' := nlt gs15' (Nat.add_le_add_right hG' _)
  clear gs15 gs15'
  clear hP; have hP := hPn; clear hPn hEn
  refine rR 2 hf rfl fun a hf => ?_
  have eq : treeP (.node 21 x [l0] [k0, k1]) s = s15 := by subst es15; subst es12; subst es7; rfl
  rw [eq]
  exact rF (rs := []) hf rfl rfl ⟨rfl, hP, hE⟩
theorem t22 {N : Nat} (ih : dk N) {w : World} {Bs b : Nat} {s : WS} {x : List UInt8} {l0 l1 : List UInt8} {k0 : Tree} {cs : List Value} {A B : Option Addr} {m n : Nat} (hks : ∀ t, t ∈ [k0] → tsize t ≤ N ∧ shapedT t = true ∧ leadedT t = true)
    (hl1 : s.2.length + 100 * (x.length + lsum [l0, l1] + kbulk [k0] + 1) ≤ 1000000000000) (hl2 : s.1.length + 100 * (x.length + lsum [l0, l1] + kbulk [k0] + 1) ≤ 1000000000000) (hP : Pr Bs b s.1 s.2 w) (hL : RowIn (fun b => b < Bs) w 1 A [l0, l1].length ([l0, l1].map aS)) (hn : [k0].length ≤ n) (hn2 : n ≤ maxLen) (hK : KidsAre (fun b => b < Bs) w [k0] cs) (hR : RowIn (fun b => b < Bs) w 4 B [k0].length cs) (hBw : Bs ≤ w.heap.size) :
    Calls Tryz.prog 62 [.pointer (some ⟨b, 0, none⟩), .agg #[.int .i64 22, aS x, .slice A [l0, l1].length m, .slice B [k0].length n]].toArray w fun e w' => e = .returned (.tuple #[]) ∧ Pr Bs b (treeP (.node 22 x [l0, l1] [k0]) s).1 (treeP (.node 22 x [l0, l1] [k0]) s).2 w' ∧ Prn Bs b w w' := by
  simp only [lsum, kbulk] at hl1 hl2
  have hE := Prn.refl (b := b) hBw
  have hG : s.2.length ≤ s.2.length := Nat.le_refl _
  have hG' : s.1.length ≤ s.1.length := Nat.le_refl _
  obtain ⟨lb, lo, rfl, _, hlb, _⟩ := hL.2 (by simp)
  obtain ⟨kb, ko, rfl, _, hkb, _⟩ := hR.2 (by simp)
  refine rE 216 Tryz.func62 rfl rfl rfl ?_
  intro a hf
  refine rR 2 hf rfl fun a hf => ?_
  obtain ⟨w1, b2, he, hB3, hx4, eb5, lb6⟩ := di (P := Tryz.prog) (t := 30) (x := (.tmp 1)) hf rfl rfl w 0
  refine rV hf rfl he fun a hf => ?_
  have ge_b2 := Prn.ge_new hE eb5
  have ne_b_b2 : b ≠ b2 := cP hP.lt eb5
  replace hP := hP.chg0 hx4
  replace hE := hE.t0 hx4
  clear eb5 lb6
  refine rR 5 hf rfl fun a hf => rV hf rfl (aq hf rfl (by kernel_rfl) hB3 rfl) fun a hf => rR 91 hf rfl fun a hf => rV hf rfl (aq hf rfl (by kernel_rfl) hB3 rfl) fun a hf => rV hf rfl (az (sz := 1) (k := 0) (r := lo) hf Tryz.underlying28 (by kernel_rfl) rfl rfl rfl (by simp) rfl) fun a hf => rV hf rfl (ex_load hf rfl (by kernel_rfl) (ax hL hE (j := 0) rfl)) fun a hf => rC hf rfl rfl (by kernel_rfl) (dj (lead := l0) (tok := [40]) hP (by (try simp only [ae, List.length_append, List.length_cons, List.length_nil]); omega) (by (try simp only [ae, List.length_append, List.length_cons, List.length_nil]); omega) hE.now) ?_
  rintro _ w9 ⟨rfl, hPn, hEn⟩
  refine ⟨_, rfl, fun a hf => ?_⟩
  have hx8 := hEn.chg
  replace hB3 := hB3.chg hx8 (aF hB3 rfl (Ne.symm ne_b_b2))
  replace hE := hE.trans hx8 (fun _ h => .inl h)
  obtain ⟨s7, es7⟩ : ∃ z, z = ae l0 [40] s := ⟨_, rfl⟩
  replace hPn : Pr Bs b (ae l0 [40] s).1 (ae l0 [40] s).2 w9 := hPn
  rw [← es7] at hPn
  have gs7 := bm l0 [40] s
  rw [← es7] at gs7
  obtain ⟨gs7, gs7'⟩ := gs7
  (try simp only [List.length_cons, List.length_nil, lsum] at gs7 gs7')
  replace hG := nlt gs7 (Nat.add_le_add_right hG _)
  replace hG' := nlt gs7' (Nat.add_le_add_right hG' _)
  clear gs7 gs7'
  clear hP; have hP := hPn; clear hPn hEn
  refine rR 6 hf rfl fun a hf => rV hf rfl (aq hf rfl (by kernel_rfl) hB3 rfl) fun a hf => rV hf rfl (az (sz := 4) (k := 0) (r := ko) hf Tryz.underlying25 (by kernel_rfl) rfl rfl rfl (by simp) rfl) fun a hf => ?_
  obtain ⟨d0, d1, d2, d3, hT, hK4⟩ := dQ hK hR hE (i := 0) (t := k0) rfl
  have on_T := hT.one
  refine rV hf rfl (ex_loadN (cs := [d0, d1, d2, d3]) (m := 4) hf rfl (by kernel_rfl) rfl hK4) fun a hf => rC hf rfl rfl (by kernel_rfl) (ih k0 _ Bs b s7 d0 d1 d2 d3 (hks _ (by simp)).1 (hks _ (by simp)).2.1 (hks _ (by simp)).2.2 (by (try simp only [ae, List.length_append, List.length_cons, List.length_nil]); omega) (by (try simp only [ae, List.length_append, List.length_cons, List.length_nil]); omega) hP hT hE.now) ?_
  rintro _ w12 ⟨rfl, hPn, hEn⟩
  refine ⟨_, rfl, fun a hf => ?_⟩
  have hx11 := hEn.chg
  replace hB3 := hB3.chg hx11 (aF hB3 rfl (Ne.symm ne_b_b2))
  replace hE := hE.trans hx11 (fun _ h => .inl h)
  obtain ⟨s10, es10⟩ : ∃ z, z = treeP k0 s7 := ⟨_, rfl⟩
  replace hPn : Pr Bs b (treeP k0 s7).1 (treeP k0 s7).2 w12 := hPn
  rw [← es10] at hPn
  have gs10 := dp (t := k0) (hks _ (by simp)).2.2 s7
  rw [← es10] at gs10
  obtain ⟨gs10, gs10'⟩ := gs10
  (try simp only [List.length_cons, List.length_nil, lsum] at gs10 gs10')
  replace hG := nlt gs10 (Nat.add_le_add_right hG _)
  replace hG' := nlt gs10' (Nat.add_le_add_right hG' _)
  clear gs10 gs10'
  clear hP; have hP := hPn; clear hPn hEn
  refine rR 5 hf rfl fun a hf => rV hf rfl (aq hf rfl (by kernel_rfl) hB3 rfl) fun a hf => rV hf rfl (az (sz := 1) (k := 1) (r := lo + 1) hf Tryz.underlying28 (by kernel_rfl) rfl rfl rfl (by simp) rfl) fun a hf => rV hf rfl (ex_load hf rfl (by kernel_rfl) (ax hL hE (j := 1) rfl)) fun a hf => rC hf rfl rfl (by kernel_rfl) (dj (lead := l1) (tok := [41]) hP (by (try simp only [ae, List.length_append, List.length_cons, List.length_nil]); omega) (by (try simp only [ae, List.length_append, List.length_cons, List.length_nil]); omega) hE.now) ?_
  rintro _ w15 ⟨rfl, hPn, hEn⟩
  refine ⟨_, rfl, fun a hf => ?_⟩
  have hx14 := hEn.chg
  replace hB3 := hB3.chg hx14 (aF hB3 rfl (Ne.symm ne_b_b2))
  replace hE := hE.trans hx14 (fun _ h => .inl h)
  obtain ⟨s13, es13⟩ : ∃ z, z = ae l1 [41] s10 := ⟨_, rfl⟩
  replace hPn : Pr Bs b (ae l1 [41] s10).1 (ae l1 [41] s10).2 w15 := hPn
  rw [← es13] at hPn
  have gs13 := bm l1 [41] s10
  rw [← es13] at gs13
  obtain ⟨gs13, gs13'⟩ := gs13
  (try simp only [List.length_cons, List.length_nil, lsum] at gs13 gs13')
  replace hG := nlt gs13 (Nat.add_le_add_right hG _)
  replace hG' := nlt gs13' (Nat.add_le_add_right hG' _)
  clear gs13 gs13'
  clear hP; have hP := hPn; clear hPn hEn
  refine rR 2 hf rfl fun a hf => ?_
  have eq : treeP (.node 22 x [l0, l1] [k0]) s = s13 := by subst es13; subst es10; subst es7; rfl
  rw [eq]
  exact rF (rs := []) hf rfl rfl ⟨rfl, hP, hE⟩
theorem d3 {N : Nat} (ih : dk N) {w : World} {Bs b : Nat} {s : WS} {x : List UInt8} {l0 l1 l2 : List UInt8} {k0 : Tree} {cs : List Value} {A B : Option Addr} {m n : Nat} (hks : ∀ t, t ∈ [k0] → tsize t ≤ N ∧ shapedT t = true ∧ leadedT t = true)
    (hl1 : s.2.length + 100 * (x.length + lsum [l0, l1, l2] + kbulk [k0] + 1) ≤ 1000000000000) (hl2 : s.1.length + 100 * (x.length + lsum [l0, l1, l2] + kbulk [k0] + 1) ≤ 1000000000000) (hP : Pr Bs b s.1 s.2 w) (hL : RowIn (fun b => b < Bs) w 1 A [l0, l1, l2].length ([l0, l1, l2].map aS)) (hn : [k0].length ≤ n) (hn2 : n ≤ maxLen) (hK : KidsAre (fun b => b < Bs) w [k0] cs) (hR : RowIn (fun b => b < Bs) w 4 B [k0].length cs) (hBw : Bs ≤ w.heap.size) :
    Calls Tryz.prog 93 [.pointer (some ⟨b, 0, none⟩), .agg #[.int .i64 3, aS x, .slice A [l0, l1, l2].length m, .slice B [k0].length n]].toArray w fun e w' => e = .returned (.tuple #[]) ∧ Pr Bs b (treeP (.node 3 x [l0, l1, l2] [k0]) s).1 (treeP (.node 3 x [l0, l1, l2] [k0]) s).2 w' ∧ Prn Bs b w w' := by
  simp only [lsum, kbulk] at hl1 hl2
  have hE := Prn.refl (b := b) hBw
  have hG : s.2.length ≤ s.2.length := Nat.le_refl _
  have hG' : s.1.length ≤ s.1.length := Nat.le_refl _
  obtain ⟨lb, lo, rfl, _, hlb, _⟩ := hL.2 (by simp)
  obtain ⟨kb, ko, rfl, _, hkb, _⟩ := hR.2 (by simp)
  refine rE 161 Tryz.func93 rfl rfl rfl ?_
  intro a hf
  refine rR 2 hf rfl fun a hf => ?_
  obtain ⟨w1, b2, he, hB3, hx4, eb5, lb6⟩ := di (P := Tryz.prog) (t := 30) (x := (.tmp 1)) hf rfl rfl w 0
  refine rV hf rfl he fun a hf => ?_
  have ge_b2 := Prn.ge_new hE eb5
  have ne_b_b2 : b ≠ b2 := cP hP.lt eb5
  replace hP := hP.chg0 hx4
  replace hE := hE.t0 hx4
  clear eb5 lb6
  refine rR 5 hf rfl fun a hf => rV hf rfl (aq hf rfl (by kernel_rfl) hB3 rfl) fun a hf => rR 28 hf rfl fun a hf => rV hf rfl (aq hf rfl (by kernel_rfl) hB3 rfl) fun a hf => rV hf rfl (az (sz := 1) (k := 0) (r := lo) hf Tryz.underlying28 (by kernel_rfl) rfl rfl rfl (by simp) rfl) fun a hf => rV hf rfl (ex_load hf rfl (by kernel_rfl) (ax hL hE (j := 0) rfl)) fun a hf => rC hf rfl rfl (by kernel_rfl) (dj (lead := l0) (tok := [116, 121, 112, 101]) hP (by (try simp only [ae, List.length_append, List.length_cons, List.length_nil]); omega) (by (try simp only [ae, List.length_append, List.length_cons, List.length_nil]); omega) hE.now) ?_
  rintro _ w9 ⟨rfl, hPn, hEn⟩
  refine ⟨_, rfl, fun a hf => ?_⟩
  have hx8 := hEn.chg
  replace hB3 := hB3.chg hx8 (aF hB3 rfl (Ne.symm ne_b_b2))
  replace hE := hE.trans hx8 (fun _ h => .inl h)
  obtain ⟨s7, es7⟩ : ∃ z, z = ae l0 [116, 121, 112, 101] s := ⟨_, rfl⟩
  replace hPn : Pr Bs b (ae l0 [116, 121, 112, 101] s).1 (ae l0 [116, 121, 112, 101] s).2 w9 := hPn
  rw [← es7] at hPn
  have gs7 := bm l0 [116, 121, 112, 101] s
  rw [← es7] at gs7
  obtain ⟨gs7, gs7'⟩ := gs7
  (try simp only [List.length_cons, List.length_nil, lsum] at gs7 gs7')
  replace hG := nlt gs7 (Nat.add_le_add_right hG _)
  replace hG' := nlt gs7' (Nat.add_le_add_right hG' _)
  clear gs7 gs7'
  clear hP; have hP := hPn; clear hPn hEn
  refine rR 3 hf rfl fun a hf => ?_
  have s_lb := ax hL hE (j := 1) rfl
  have s_hB3 := hB3
  refine rD (fun x => x.cell? ⟨b2, 2, none⟩ = w9.cell? ⟨b2, 2, none⟩ ∧ x.cell? ⟨lb, lo + 1, none⟩ = w9.cell? ⟨lb, lo + 1, none⟩ ∧ x.cell? ⟨b2, 1, none⟩ = w9.cell? ⟨b2, 1, none⟩) 8 8 rfl (by kernel_rfl) (by kernel_rfl) ?_
  intro w10 hx11 hsel
  replace hB3 := hB3.c0 hx11
  replace hP := hP.chg0 hx11
  replace hE := hE.t0 hx11
  have hS0 : w10.cell? ⟨b2, 2, none⟩ = w9.cell? ⟨b2, 2, none⟩ ∧ w10.cell? ⟨lb, lo + 1, none⟩ = w9.cell? ⟨lb, lo + 1, none⟩ ∧ w10.cell? ⟨b2, 1, none⟩ = w9.cell? ⟨b2, 1, none⟩ := ⟨(hB3.cell 2).trans (s_hB3.cell 2).symm, ((ax hL hE (j := 1) rfl).trans s_lb.symm), (hB3.cell 1).trans (s_hB3.cell 1).symm⟩
  refine dR [0, 1] hsel (by kernel_rfl) hf rfl rfl (.inl hS0) fun a hf => dL 2 rfl rfl hsel (by kernel_rfl) hf rfl hS0 (fun x hS => ex_load hf rfl (by kernel_rfl) (hS.1.trans ((s_hB3.cell 2).trans rfl))) fun a hf => dV 3 rfl rfl hsel (by kernel_rfl) hf rfl (.inl hS0) (fun x => az (sz := 1) (k := 1) (r := lo + 1) hf Tryz.underlying28 (by kernel_rfl) rfl rfl rfl (by simp) rfl) fun a hf => dL 4 rfl rfl hsel (by kernel_rfl) hf rfl hS0 (fun x hS => ex_load hf rfl (by kernel_rfl) (hS.2.1.trans s_lb)) fun a hf => dR [5] hsel (by kernel_rfl) hf rfl rfl (.inl hS0) fun a hf => dL 6 rfl rfl hsel (by kernel_rfl) hf rfl hS0 (fun x hS => ex_load hf rfl (by kernel_rfl) (hS.2.2.trans ((s_hB3.cell 1).trans rfl))) fun a hf => nB 7 (by kernel_rfl) rfl hf rfl rfl rfl (by kernel_rfl) (dj (lead := l1) (tok := x) hP (by (try simp only [ae, List.length_append, List.length_cons, List.length_nil]); omega) (by (try simp only [ae, List.length_append, List.length_cons, List.length_nil]); omega) hE.now) ?_
  rintro _ w14 ⟨rfl, hPn, hEn⟩
  refine ⟨_, rfl, fun a hf => ?_⟩
  have hx13 := hEn.chg
  replace hB3 := hB3.chg hx13 (aF hB3 rfl (Ne.symm ne_b_b2))
  replace hE := hE.trans hx13 (fun _ h => .inl h)
  obtain ⟨s12, es12⟩ : ∃ z, z = ae l1 x s7 := ⟨_, rfl⟩
  replace hPn : Pr Bs b (ae l1 x s7).1 (ae l1 x s7).2 w14 := hPn
  rw [← es12] at hPn
  have gs12 := bm l1 x s7
  rw [← es12] at gs12
  obtain ⟨gs12, gs12'⟩ := gs12
  (try simp only [List.length_cons, List.length_nil, lsum] at gs12 gs12')
  replace hG := nlt gs12 (Nat.add_le_add_right hG _)
  replace hG' := nlt gs12' (Nat.add_le_add_right hG' _)
  clear gs12 gs12'
  clear hP; have hP := hPn; clear hPn hEn
  clear hS0
  have hS0 : w14.cell? ⟨b2, 2, none⟩ = w9.cell? ⟨b2, 2, none⟩ ∧ w14.cell? ⟨lb, lo + 1, none⟩ = w9.cell? ⟨lb, lo + 1, none⟩ ∧ w14.cell? ⟨b2, 1, none⟩ = w9.cell? ⟨b2, 1, none⟩ := ⟨(hB3.cell 2).trans (s_hB3.cell 2).symm, ((ax hL hE (j := 1) rfl).trans s_lb.symm), (hB3.cell 1).trans (s_hB3.cell 1).symm⟩
  refine ⟨.inl hS0, ?_⟩
  refine rN (by kernel_rfl) ?_
  clear hS0 hsel
  refine rR 5 hf rfl fun a hf => rV hf rfl (aq hf rfl (by kernel_rfl) hB3 rfl) fun a hf => rV hf rfl (az (sz := 1) (k := 2) (r := lo + 2) hf Tryz.underlying28 (by kernel_rfl) rfl rfl rfl (by simp) rfl) fun a hf => rV hf rfl (ex_load hf rfl (by kernel_rfl) (ax hL hE (j := 2) rfl)) fun a hf => rC hf rfl rfl (by kernel_rfl) (dj (lead := l2) (tok := [61]) hP (by (try simp only [ae, List.length_append, List.length_cons, List.length_nil]); omega) (by (try simp only [ae, List.length_append, List.length_cons, List.length_nil]); omega) hE.now) ?_
  rintro _ w17 ⟨rfl, hPn, hEn⟩
  refine ⟨_, rfl, fun a hf => ?_⟩
  have hx16 := hEn.chg
  replace hB3 := hB3.chg hx16 (aF hB3 rfl (Ne.symm ne_b_b2))
  replace hE := hE.trans hx16 (fun _ h => .inl h)
  obtain ⟨s15, es15⟩ : ∃ z, z = ae l2 [61] s12 := ⟨_, rfl⟩
  replace hPn : Pr Bs b (ae l2 [61] s12).1 (ae l2 [61] s12).2 w17 := hPn
  rw [← es15] at hPn
  have gs15 := bm l2 [61] s12
  rw [← es15] at gs15
  obtain ⟨gs15, gs15'⟩ := gs15
  (try simp only [List.length_cons, List.length_nil, lsum] at gs15 gs15')
  replace hG := nlt gs15 (Nat.add_le_add_right hG _)
  replace hG' := nlt gs15' (Nat.add_le_add_right hG' _)
  clear gs15 gs15'
  clear hP; have hP := hPn; clear hPn hEn
  refine rR 5 hf rfl fun a hf => rV hf rfl (aq hf rfl (by kernel_rfl) hB3 rfl) fun a hf => rV hf rfl (az (sz := 4) (k := 0) (r := ko) hf Tryz.underlying25 (by kernel_rfl) rfl rfl rfl (by simp) rfl) fun a hf => ?_
  obtain ⟨d0, d1, d2, d3, hT, hK4⟩ := dQ hK hR hE (i := 0) (t := k0) rfl
  have on_T := hT.one
  refine rV hf rfl (ex_loadN (cs := [d0, d1, d2, d3]) (m := 4) hf rfl (by kernel_rfl) rfl hK4) fun a hf => rC hf rfl rfl (by kernel_rfl) (ih k0 _ Bs b s15 d0 d1 d2 d3 (hks _ (by simp)).1 (hks _ (by simp)).2.1 (hks _ (by simp)).2.2 (by (try simp only [ae, List.length_append, List.length_cons, List.length_nil]); omega) (by (try simp only [ae, List.length_append, List.length_cons, List.length_nil]); omega) hP hT hE.now) ?_
  rintro _ w20 ⟨rfl, hPn, hEn⟩
  refine ⟨_, rfl, fun a hf => ?_⟩
  have hx19 := hEn.chg
  replace hB3 := hB3.chg hx19 (aF hB3 rfl (Ne.symm ne_b_b2))
  replace hE := hE.trans hx19 (fun _ h => .inl h)
  obtain ⟨s18, es18⟩ : ∃ z, z = treeP k0 s15 := ⟨_, rfl⟩
  replace hPn : Pr Bs b (treeP k0 s15).1 (treeP k0 s15).2 w20 := hPn
  rw [← es18] at hPn
  have gs18 := dp (t := k0) (hks _ (by simp)).2.2 s15
  rw [← es18] at gs18
  obtain ⟨gs18, gs18'⟩ := gs18
  (try simp only [List.length_cons, List.length_nil, lsum] at gs18 gs18')
  replace hG := nlt gs18 (Nat.add_le_add_right hG _)
  replace hG' := nlt gs18' (Nat.add_le_add_right hG' _)
  clear gs18 gs18'
  clear hP; have hP := hPn; clear hPn hEn
  refine rR 2 hf rfl fun a hf => ?_
  have eq : treeP (.node 3 x [l0, l1, l2] [k0]) s = s18 := by subst es18; subst es15; subst es12; subst es7; rfl
  rw [eq]
  exact rF (rs := []) hf rfl rfl ⟨rfl, hP, hE⟩
theorem d4 {N : Nat} (ih : dk N) {w : World} {Bs b : Nat} {s : WS} {x : List UInt8} {l0 l1 : List UInt8} {k0 : Tree} {cs : List Value} {A B : Option Addr} {m n : Nat} (hks : ∀ t, t ∈ [k0] → tsize t ≤ N ∧ shapedT t = true ∧ leadedT t = true)
    (hl1 : s.2.length + 100 * (x.length + lsum [l0, l1] + kbulk [k0] + 1) ≤ 1000000000000) (hl2 : s.1.length + 100 * (x.length + lsum [l0, l1] + kbulk [k0] + 1) ≤ 1000000000000) (hP : Pr Bs b s.1 s.2 w) (hL : RowIn (fun b => b < Bs) w 1 A [l0, l1].length ([l0, l1].map aS)) (hn : [k0].length ≤ n) (hn2 : n ≤ maxLen) (hK : KidsAre (fun b => b < Bs) w [k0] cs) (hR : RowIn (fun b => b < Bs) w 4 B [k0].length cs) (hBw : Bs ≤ w.heap.size) :
    Calls Tryz.prog 93 [.pointer (some ⟨b, 0, none⟩), .agg #[.int .i64 4, aS x, .slice A [l0, l1].length m, .slice B [k0].length n]].toArray w fun e w' => e = .returned (.tuple #[]) ∧ Pr Bs b (treeP (.node 4 x [l0, l1] [k0]) s).1 (treeP (.node 4 x [l0, l1] [k0]) s).2 w' ∧ Prn Bs b w w' := by
  simp only [lsum, kbulk] at hl1 hl2
  have hE := Prn.refl (b := b) hBw
  have hG : s.2.length ≤ s.2.length := Nat.le_refl _
  have hG' : s.1.length ≤ s.1.length := Nat.le_refl _
  obtain ⟨lb, lo, rfl, _, hlb, _⟩ := hL.2 (by simp)
  obtain ⟨kb, ko, rfl, _, hkb, _⟩ := hR.2 (by simp)
  refine rE 161 Tryz.func93 rfl rfl rfl ?_
  intro a hf
  refine rR 2 hf rfl fun a hf => ?_
  obtain ⟨w1, b2, he, hB3, hx4, eb5, lb6⟩ := di (P := Tryz.prog) (t := 30) (x := (.tmp 1)) hf rfl rfl w 0
  refine rV hf rfl he fun a hf => ?_
  have ge_b2 := Prn.ge_new hE eb5
  have ne_b_b2 : b ≠ b2 := cP hP.lt eb5
  replace hP := hP.chg0 hx4
  replace hE := hE.t0 hx4
  clear eb5 lb6
  refine rR 5 hf rfl fun a hf => rV hf rfl (aq hf rfl (by kernel_rfl) hB3 rfl) fun a hf => rR 32 hf rfl fun a hf => ?_
  have s_lb := ax hL hE (j := 0) rfl
  have s_hB3 := hB3
  refine rD (fun x => x.cell? ⟨b2, 2, none⟩ = w1.cell? ⟨b2, 2, none⟩ ∧ x.cell? ⟨lb, lo, none⟩ = w1.cell? ⟨lb, lo, none⟩ ∧ x.cell? ⟨b2, 1, none⟩ = w1.cell? ⟨b2, 1, none⟩) 8 8 rfl (by kernel_rfl) (by kernel_rfl) ?_
  intro w7 hx8 hsel
  replace hB3 := hB3.c0 hx8
  replace hP := hP.chg0 hx8
  replace hE := hE.t0 hx8
  have hS0 : w7.cell? ⟨b2, 2, none⟩ = w1.cell? ⟨b2, 2, none⟩ ∧ w7.cell? ⟨lb, lo, none⟩ = w1.cell? ⟨lb, lo, none⟩ ∧ w7.cell? ⟨b2, 1, none⟩ = w1.cell? ⟨b2, 1, none⟩ := ⟨(hB3.cell 2).trans (s_hB3.cell 2).symm, ((ax hL hE (j := 0) rfl).trans s_lb.symm), (hB3.cell 1).trans (s_hB3.cell 1).symm⟩
  refine dR [0, 1] hsel (by kernel_rfl) hf rfl rfl (.inl hS0) fun a hf => dL 2 rfl rfl hsel (by kernel_rfl) hf rfl hS0 (fun x hS => ex_load hf rfl (by kernel_rfl) (hS.1.trans ((s_hB3.cell 2).trans rfl))) fun a hf => dV 3 rfl rfl hsel (by kernel_rfl) hf rfl (.inl hS0) (fun x => az (sz := 1) (k := 0) (r := lo) hf Tryz.underlying28 (by kernel_rfl) rfl rfl rfl (by simp) rfl) fun a hf => dL 4 rfl rfl hsel (by kernel_rfl) hf rfl hS0 (fun x hS => ex_load hf rfl (by kernel_rfl) (hS.2.1.trans s_lb)) fun a hf => dR [5] hsel (by kernel_rfl) hf rfl rfl (.inl hS0) fun a hf => dL 6 rfl rfl hsel (by kernel_rfl) hf rfl hS0 (fun x hS => ex_load hf rfl (by kernel_rfl) (hS.2.2.trans ((s_hB3.cell 1).trans rfl))) fun a hf => nB 7 (by kernel_rfl) rfl hf rfl rfl rfl (by kernel_rfl) (dj (lead := l0) (tok := x) hP (by (try simp only [ae, List.length_append, List.length_cons, List.length_nil]); omega) (by (try simp only [ae, List.length_append, List.length_cons, List.length_nil]); omega) hE.now) ?_
  rintro _ w11 ⟨rfl, hPn, hEn⟩
  refine ⟨_, rfl, fun a hf => ?_⟩
  have hx10 := hEn.chg
  replace hB3 := hB3.chg hx10 (aF hB3 rfl (Ne.symm ne_b_b2))
  replace hE := hE.trans hx10 (fun _ h => .inl h)
  obtain ⟨s9, es9⟩ : ∃ z, z = ae l0 x s := ⟨_, rfl⟩
  replace hPn : Pr Bs b (ae l0 x s).1 (ae l0 x s).2 w11 := hPn
  rw [← es9] at hPn
  have gs9 := bm l0 x s
  rw [← es9] at gs9
  obtain ⟨gs9, gs9'⟩ := gs9
  (try simp only [List.length_cons, List.length_nil, lsum] at gs9 gs9')
  replace hG := nlt gs9 (Nat.add_le_add_right hG _)
  replace hG' := nlt gs9' (Nat.add_le_add_right hG' _)
  clear gs9 gs9'
  clear hP; have hP := hPn; clear hPn hEn
  clear hS0
  have hS0 : w11.cell? ⟨b2, 2, none⟩ = w1.cell? ⟨b2, 2, none⟩ ∧ w11.cell? ⟨lb, lo, none⟩ = w1.cell? ⟨lb, lo, none⟩ ∧ w11.cell? ⟨b2, 1, none⟩ = w1.cell? ⟨b2, 1, none⟩ := ⟨(hB3.cell 2).trans (s_hB3.cell 2).symm, ((ax hL hE (j := 0) rfl).trans s_lb.symm), (hB3.cell 1).trans (s_hB3.cell 1).symm⟩
  refine ⟨.inl hS0, ?_⟩
  refine rN (by kernel_rfl) ?_
  clear hS0 hsel
  refine rR 5 hf rfl fun a hf => rV hf rfl (aq hf rfl (by kernel_rfl) hB3 rfl) fun a hf => rV hf rfl (az (sz := 1) (k := 1) (r := lo + 1) hf Tryz.underlying28 (by kernel_rfl) rfl rfl rfl (by simp) rfl) fun a hf => rV hf rfl (ex_load hf rfl (by kernel_rfl) (ax hL hE (j := 1) rfl)) fun a hf => rC hf rfl rfl (by kernel_rfl) (dj (lead := l1) (tok := [58]) hP (by (try simp only [ae, List.length_append, List.length_cons, List.length_nil]); omega) (by (try simp only [ae, List.length_append, List.length_cons, List.length_nil]); omega) hE.now) ?_
  rintro _ w14 ⟨rfl, hPn, hEn⟩
  refine ⟨_, rfl, fun a hf => ?_⟩
  have hx13 := hEn.chg
  replace hB3 := hB3.chg hx13 (aF hB3 rfl (Ne.symm ne_b_b2))
  replace hE := hE.trans hx13 (fun _ h => .inl h)
  obtain ⟨s12, es12⟩ : ∃ z, z = ae l1 [58] s9 := ⟨_, rfl⟩
  replace hPn : Pr Bs b (ae l1 [58] s9).1 (ae l1 [58] s9).2 w14 := hPn
  rw [← es12] at hPn
  have gs12 := bm l1 [58] s9
  rw [← es12] at gs12
  obtain ⟨gs12, gs12'⟩ := gs12
  (try simp only [List.length_cons, List.length_nil, lsum] at gs12 gs12')
  replace hG := nlt gs12 (Nat.add_le_add_right hG _)
  replace hG' := nlt gs12' (Nat.add_le_add_right hG' _)
  clear gs12 gs12'
  clear hP; have hP := hPn; clear hPn hEn
  refine rR 5 hf rfl fun a hf => rV hf rfl (aq hf rfl (by kernel_rfl) hB3 rfl) fun a hf => rV hf rfl (az (sz := 4) (k := 0) (r := ko) hf Tryz.underlying25 (by kernel_rfl) rfl rfl rfl (by simp) rfl) fun a hf => ?_
  obtain ⟨d0, d1, d2, d3, hT, hK4⟩ := dQ hK hR hE (i := 0) (t := k0) rfl
  have on_T := hT.one
  refine rV hf rfl (ex_loadN (cs := [d0, d1, d2, d3]) (m := 4) hf rfl (by kernel_rfl) rfl hK4) fun a hf => rC hf rfl rfl (by kernel_rfl) (ih k0 _ Bs b s12 d0 d1 d2 d3 (hks _ (by simp)).1 (hks _ (by simp)).2.1 (hks _ (by simp)).2.2 (by (try simp only [ae, List.length_append, List.length_cons, List.length_nil]); omega) (by (try simp only [ae, List.length_append, List.length_cons, List.length_nil]); omega) hP hT hE.now) ?_
  rintro _ w17 ⟨rfl, hPn, hEn⟩
  refine ⟨_, rfl, fun a hf => ?_⟩
  have hx16 := hEn.chg
  replace hB3 := hB3.chg hx16 (aF hB3 rfl (Ne.symm ne_b_b2))
  replace hE := hE.trans hx16 (fun _ h => .inl h)
  obtain ⟨s15, es15⟩ : ∃ z, z = treeP k0 s12 := ⟨_, rfl⟩
  replace hPn : Pr Bs b (treeP k0 s12).1 (treeP k0 s12).2 w17 := hPn
  rw [← es15] at hPn
  have gs15 := dp (t := k0) (hks _ (by simp)).2.2 s12
  rw [← es15] at gs15
  obtain ⟨gs15, gs15'⟩ := gs15
  (try simp only [List.length_cons, List.length_nil, lsum] at gs15 gs15')
  replace hG := nlt gs15 (Nat.add_le_add_right hG _)
  replace hG' := nlt gs15' (Nat.add_le_add_right hG' _)
  clear gs15 gs15'
  clear hP; have hP := hPn; clear hPn hEn
  refine rR 2 hf rfl fun a hf => ?_
  have eq : treeP (.node 4 x [l0, l1] [k0]) s = s15 := by subst es15; subst es12; subst es9; rfl
  rw [eq]
  exact rF (rs := []) hf rfl rfl ⟨rfl, hP, hE⟩
theorem FF {N : Nat} {w : World} {Bs b : Nat} {s : WS} {k : Int} {x : List UInt8} {l0 : List UInt8} {cs : List Value} {A B : Option Addr} {m n : Nat} (hk : k = 5 ∨ k = 6 ∨ k = 7 ∨ k = 9 ∨ k = 10 ∨ k = 11 ∨ k = 12 ∨ k = 13 ∨ k = 14 ∨ k = 15) (hks : ∀ t, t ∈ ([] : List Tree) → tsize t ≤ N ∧ shapedT t = true ∧ leadedT t = true)
    (hl1 : s.2.length + 100 * (x.length + lsum [l0] + kbulk ([] : List Tree) + 1) ≤ 1000000000000) (hl2 : s.1.length + 100 * (x.length + lsum [l0] + kbulk ([] : List Tree) + 1) ≤ 1000000000000) (hP : Pr Bs b s.1 s.2 w) (hL : RowIn (fun b => b < Bs) w 1 A [l0].length ([l0].map aS)) (hn : ([] : List Tree).length ≤ n) (hn2 : n ≤ maxLen) (hK : KidsAre (fun b => b < Bs) w ([] : List Tree) cs) (hR : RowIn (fun b => b < Bs) w 4 B ([] : List Tree).length cs) (hBw : Bs ≤ w.heap.size) :
    Calls Tryz.prog 62 [.pointer (some ⟨b, 0, none⟩), .agg #[.int .i64 k, aS x, .slice A [l0].length m, .slice B ([] : List Tree).length n]].toArray w fun e w' => e = .returned (.tuple #[]) ∧ Pr Bs b (treeP (.node k x [l0] ([] : List Tree)) s).1 (treeP (.node k x [l0] ([] : List Tree)) s).2 w' ∧ Prn Bs b w w' := by
  simp only [lsum, kbulk] at hl1 hl2
  have sl := rz k x
  have hE := Prn.refl (b := b) hBw
  have hG : s.2.length ≤ s.2.length := Nat.le_refl _
  have hG' : s.1.length ≤ s.1.length := Nat.le_refl _
  obtain ⟨lb, lo, rfl, _, hlb, _⟩ := hL.2 (by simp)
  refine rE 216 Tryz.func62 rfl rfl rfl ?_
  intro a hf
  refine rR 2 hf rfl fun a hf => ?_
  obtain ⟨w1, b2, he, hB3, hx4, eb5, lb6⟩ := di (P := Tryz.prog) (t := 30) (x := (.tmp 1)) hf rfl rfl w 0
  refine rV hf rfl he fun a hf => ?_
  have ge_b2 := Prn.ge_new hE eb5
  have ne_b_b2 : b ≠ b2 := cP hP.lt eb5
  replace hP := hP.chg0 hx4
  replace hE := hE.t0 hx4
  clear eb5 lb6
  refine rR 5 hf rfl fun a hf => rV hf rfl (aq hf rfl (by kernel_rfl) hB3 rfl) fun a hf => rR 6 hf rfl fun a hf => rV hf rfl (dt (c := false) hf rfl rfl (by simp; omega)) fun a hf => rR 6 hf rfl fun a hf => rV hf rfl (dt (c := false) hf rfl rfl (by simp; omega)) fun a hf => rR 6 hf rfl fun a hf => rV hf rfl (dt (c := false) hf rfl rfl (by simp; omega)) fun a hf => rR 5 hf rfl fun a hf => rV hf rfl (dt (c := false) hf rfl rfl (by simp; omega)) fun a hf => rR 6 hf rfl fun a hf => rV hf rfl (dt (c := false) hf rfl rfl (by simp; omega)) fun a hf => rR 6 hf rfl fun a hf => rV hf rfl (dt (c := false) hf rfl rfl (by simp; omega)) fun a hf => rR 6 hf rfl fun a hf => rV hf rfl (dt (c := false) hf rfl rfl (by simp; omega)) fun a hf => rR 6 hf rfl fun a hf => rV hf rfl (dt (c := false) hf rfl rfl (by simp; omega)) fun a hf => rR 6 hf rfl fun a hf => rV hf rfl (dt (c := false) hf rfl rfl (by simp; omega)) fun a hf => rR 6 hf rfl fun a hf => rV hf rfl (dt (c := false) hf rfl rfl (by simp; omega)) fun a hf => rR 6 hf rfl fun a hf => rV hf rfl (dt (c := false) hf rfl rfl (by simp; omega)) fun a hf => rR 6 hf rfl fun a hf => rV hf rfl (dt (c := false) hf rfl rfl (by simp; omega)) fun a hf => rR 4 hf rfl fun a hf => ?_
  have s_lb := ax hL hE (j := 0) rfl
  have s_hB3 := hB3
  refine rD (fun x => x.cell? ⟨b2, 2, none⟩ = w1.cell? ⟨b2, 2, none⟩ ∧ x.cell? ⟨lb, lo, none⟩ = w1.cell? ⟨lb, lo, none⟩ ∧ x.cell? ⟨b2, 0, none⟩ = w1.cell? ⟨b2, 0, none⟩ ∧ x.cell? ⟨b2, 1, none⟩ = w1.cell? ⟨b2, 1, none⟩ ∧ x.cell? ⟨b2, 3, none⟩ = w1.cell? ⟨b2, 3, none⟩) 8 8 rfl (by kernel_rfl) (by kernel_rfl) ?_
  intro w7 hx8 hsel
  replace hB3 := hB3.c0 hx8
  replace hP := hP.chg0 hx8
  replace hE := hE.t0 hx8
  have hS0 : w7.cell? ⟨b2, 2, none⟩ = w1.cell? ⟨b2, 2, none⟩ ∧ w7.cell? ⟨lb, lo, none⟩ = w1.cell? ⟨lb, lo, none⟩ ∧ w7.cell? ⟨b2, 0, none⟩ = w1.cell? ⟨b2, 0, none⟩ ∧ w7.cell? ⟨b2, 1, none⟩ = w1.cell? ⟨b2, 1, none⟩ ∧ w7.cell? ⟨b2, 3, none⟩ = w1.cell? ⟨b2, 3, none⟩ := ⟨(hB3.cell 2).trans (s_hB3.cell 2).symm, ((ax hL hE (j := 0) rfl).trans s_lb.symm), (hB3.cell 0).trans (s_hB3.cell 0).symm, (hB3.cell 1).trans (s_hB3.cell 1).symm, (hB3.cell 3).trans (s_hB3.cell 3).symm⟩
  refine dR [0, 1] hsel (by kernel_rfl) hf rfl rfl (.inl hS0) fun a hf => dL 2 rfl rfl hsel (by kernel_rfl) hf rfl hS0 (fun x hS => ex_load hf rfl (by kernel_rfl) (hS.1.trans ((s_hB3.cell 2).trans rfl))) fun a hf => dV 3 rfl rfl hsel (by kernel_rfl) hf rfl (.inl hS0) (fun x => az (sz := 1) (k := 0) (r := lo) hf Tryz.underlying28 (by kernel_rfl) rfl rfl rfl (by simp) rfl) fun a hf => dL 4 rfl rfl hsel (by kernel_rfl) hf rfl hS0 (fun x hS => ex_load hf rfl (by kernel_rfl) (hS.2.1.trans s_lb)) fun a hf => dL 5 rfl rfl hsel (by kernel_rfl) hf rfl hS0 (fun x hS => ul hf rfl (by kernel_rfl) s_hB3 rfl hS.2.2.1 hS.2.2.2.1 hS.1 hS.2.2.2.2) fun a hf => nB 6 (by kernel_rfl) rfl hf rfl rfl rfl (by kernel_rfl) (CS (k := k) (tx := x)) ?_
  rintro _ w10 ⟨rfl, hx9⟩
  refine ⟨_, rfl, fun a hf => ?_⟩
  replace hB3 := hB3.c0 hx9
  replace hP := hP.chg0 hx9
  replace hE := hE.t0 hx9
  clear hS0
  have hS0 : w10.cell? ⟨b2, 2, none⟩ = w1.cell? ⟨b2, 2, none⟩ ∧ w10.cell? ⟨lb, lo, none⟩ = w1.cell? ⟨lb, lo, none⟩ ∧ w10.cell? ⟨b2, 0, none⟩ = w1.cell? ⟨b2, 0, none⟩ ∧ w10.cell? ⟨b2, 1, none⟩ = w1.cell? ⟨b2, 1, none⟩ ∧ w10.cell? ⟨b2, 3, none⟩ = w1.cell? ⟨b2, 3, none⟩ := ⟨(hB3.cell 2).trans (s_hB3.cell 2).symm, ((ax hL hE (j := 0) rfl).trans s_lb.symm), (hB3.cell 0).trans (s_hB3.cell 0).symm, (hB3.cell 1).trans (s_hB3.cell 1).symm, (hB3.cell 3).trans (s_hB3.cell 3).symm⟩
  refine ⟨.inl hS0, ?_⟩
  refine nB 7 (by kernel_rfl) rfl hf rfl rfl rfl (by kernel_rfl) (dj (lead := l0) (tok := (cV k x)) hP (by (try simp only [ae, List.length_append, List.length_cons, List.length_nil]); omega) (by (try simp only [ae, List.length_append, List.length_cons, List.length_nil]); omega) hE.now) ?_
  rintro _ w13 ⟨rfl, hPn, hEn⟩
  refine ⟨_, rfl, fun a hf => ?_⟩
  have hx12 := hEn.chg
  replace hB3 := hB3.chg hx12 (aF hB3 rfl (Ne.symm ne_b_b2))
  replace hE := hE.trans hx12 (fun _ h => .inl h)
  obtain ⟨s11, es11⟩ : ∃ z, z = ae l0 (cV k x) s := ⟨_, rfl⟩
  replace hPn : Pr Bs b (ae l0 (cV k x) s).1 (ae l0 (cV k x) s).2 w13 := hPn
  rw [← es11] at hPn
  have gs11 := bm l0 (cV k x) s
  rw [← es11] at gs11
  obtain ⟨gs11, gs11'⟩ := gs11
  (try simp only [List.length_cons, List.length_nil, lsum] at gs11 gs11')
  replace hG := nlt gs11 (Nat.add_le_add_right hG _)
  replace hG' := nlt gs11' (Nat.add_le_add_right hG' _)
  clear gs11 gs11'
  clear hP; have hP := hPn; clear hPn hEn
  clear hS0
  have hS0 : w13.cell? ⟨b2, 2, none⟩ = w1.cell? ⟨b2, 2, none⟩ ∧ w13.cell? ⟨lb, lo, none⟩ = w1.cell? ⟨lb, lo, none⟩ ∧ w13.cell? ⟨b2, 0, none⟩ = w1.cell? ⟨b2, 0, none⟩ ∧ w13.cell? ⟨b2, 1, none⟩ = w1.cell? ⟨b2, 1, none⟩ ∧ w13.cell? ⟨b2, 3, none⟩ = w1.cell? ⟨b2, 3, none⟩ := ⟨(hB3.cell 2).trans (s_hB3.cell 2).symm, ((ax hL hE (j := 0) rfl).trans s_lb.symm), (hB3.cell 0).trans (s_hB3.cell 0).symm, (hB3.cell 1).trans (s_hB3.cell 1).symm, (hB3.cell 3).trans (s_hB3.cell 3).symm⟩
  refine ⟨.inl hS0, ?_⟩
  refine rN (by kernel_rfl) ?_
  clear hS0 hsel
  refine rR 1 hf rfl fun a hf => ?_
  have eq : treeP (.node k x [l0] ([] : List Tree)) s = s11 := by subst es11; rw [treeP, treesP]; simp only [ew]; rw [if_neg (by omega), if_neg (by omega), if_neg (by omega), if_neg (by omega), if_neg (by omega), if_neg (by omega), if_neg (by omega), if_neg (by omega), if_neg (by omega)]; rfl
  rw [eq]
  exact rF (rs := []) hf rfl rfl ⟨rfl, hP, hE⟩
end Go.Proofs.YtpnpdlnpikkeaaaGreat
namespace Go.Proofs.YtpnpdlnpikkeaaaGreat
open Go.RowKit Lx Sx
set_option maxRecDepth 100000
set_option maxHeartbeats 4000000
theorem KidsAre.part {S : Nat → Prop} {w : World} : ∀ {a b : List Tree} {cs : List Value}, KidsAre S w (a ++ b) cs → ∃ c d, cs = c ++ d ∧ KidsAre S w a c ∧ KidsAre S w b d
 | [], b, cs, h => ⟨[], cs, rfl, rfl, h⟩
 | t :: r, b, cs, h => by
  simp only [List.cons_append, KidsAre] at h
  obtain ⟨c, d, e, h1, h2⟩ := h
  obtain ⟨c', d', e', h3, h4⟩ := KidsAre.part h2
  exact ⟨c ++ c', d', by rw [e, e', List.append_assoc], by simp only [KidsAre]; exact ⟨c, c', rfl, h1, h3⟩, h4⟩
theorem RowIn.now {Bs b : Nat} {w w' : World} {A : Option Addr} {sz n : Nat} {cs : List Value} (h : RowIn (fun b => b < Bs) w sz A n cs) (hE : Prn Bs b w w') : RowIn (fun b => b < Bs) w' sz A n cs := h.keepB (fun _ h _ => h) (fun _ hb _ => hE.below.block _ hb)
theorem KidsAre.now {Bs b : Nat} {w w' : World} {ks : List Tree} {cs : List Value} (h : KidsAre (fun b => b < Bs) w ks cs) (hE : Prn Bs b w w') : KidsAre (fun b => b < Bs) w' ks cs := h.keepB (fun _ h _ => h) (fun _ hb _ => hE.below.block _ hb)
theorem RowIn.part {S : Nat → Prop} {w : World} {A : Option Addr} {n n1 : Nat} {c d : List Value} (h : RowIn S w 4 A n (c ++ d)) (hc : c.length = n1 * 4) (hn : n1 ≤ n) : RowIn S w 4 A n1 c := by
 refine ⟨hc, fun h0 => ?_⟩
 obtain ⟨b, off, e, hS, hb, hcell⟩ := h.2 (by omega)
 refine ⟨b, off, e, hS, hb, fun j hj => ?_⟩
 rw [hcell j (by omega), List.getElem?_append_left (by omega)]
theorem Ey {P : Program} {a : Act} {w : World} {n : Nat} {f : Nat → Option Value} {ty : TypeId} {t e : TypeId} {x y : Operand} {A : Option Addr} {m c sz k : Nat} {i : Int} (h : Fr a n f) (ht : P.underlying t = some (.slice e)) (hz : dG P e = some sz) (hx : av f x = some (.slice A m c)) (hy : av f y = some (.int .i64 i)) (hi : i = (k : Int)) (hk : k ≤ c) :
  Runs P a ty (.slice t x none (some y) none) w (.value (.slice A k c)) w := fun _ _ _ _ => by
 subst hi
 obtain ⟨inf, hinf, hs⟩ := Option.map_eq_some_iff.1 (show (P.info? e).map (·.size) = some sz from hz)
 simp only [execOp, h.eval hx, Option.map_some, Option.map_none, h.eval hy]
 simp [Instr.sliceAt, Instr.slice, run_underlying ht, Instr.sliceBounds, run_sliceBound w .i64 (k : Int) c .sliceAcap (by omega) (by omega), sizeOf, typeInfo, hinf, hs]
 try (split <;> simp_all)
 try (cases A <;> simp)
 all_goals (intro _; unfold Addr.add; split <;> simp_all)
theorem t16 {N : Nat} (ih : dk N) {w : World} {Bs b : Nat} {s : WS} {x : List UInt8} {l0 l1 l2 : List UInt8} {ms : List (List UInt8)} {ks : List Tree} {cs : List Value} {A B : Option Addr} {m n : Nat} (hcl : 3 + ks.length ≤ (l0 :: l1 :: l2 :: ms).length + 1) (hks : ∀ t, t ∈ ks → tsize t ≤ N ∧ shapedT t = true ∧ leadedT t = true)
    (hl1 : s.2.length + 100 * (x.length + lsum (l0 :: l1 :: l2 :: ms) + kbulk ks + 1) ≤ 1000000000000) (hl2 : s.1.length + 100 * (x.length + lsum (l0 :: l1 :: l2 :: ms) + kbulk ks + 1) ≤ 1000000000000) (hP : Pr Bs b s.1 s.2 w) (hL : RowIn (fun b => b < Bs) w 1 A (l0 :: l1 :: l2 :: ms).length ((l0 :: l1 :: l2 :: ms).map aS)) (hn : ks.length ≤ n) (hn2 : n ≤ maxLen) (hK : KidsAre (fun b => b < Bs) w ks cs) (hR : RowIn (fun b => b < Bs) w 4 B ks.length cs) (hBw : Bs ≤ w.heap.size) :
    Calls Tryz.prog 62 [.pointer (some ⟨b, 0, none⟩), .agg #[.int .i64 16, aS x, .slice A (l0 :: l1 :: l2 :: ms).length m, .slice B ks.length n]].toArray w fun e w' => e = .returned (.tuple #[]) ∧ Pr Bs b (treeP (.node 16 x (l0 :: l1 :: l2 :: ms) ks) s).1 (treeP (.node 16 x (l0 :: l1 :: l2 :: ms) ks) s).2 w' ∧ Prn Bs b w w' := by
  simp only [lsum, kbulk] at hl1 hl2
  have hgk : ∀ t, t ∈ ks → ∀ s, Gw (100 * tbulk t) s (treeP t s) := fun t ht s => Gw.tree _ t (Nat.le_refl _) (hks t ht).2.2 s
  have hKL := io ks
  have hll := iq ms
  have hcl' := hcl
  simp only [List.length_cons] at hcl'
  have hE := Prn.refl (b := b) hBw
  have hG : s.2.length ≤ s.2.length := Nat.le_refl _
  have hG' : s.1.length ≤ s.1.length := Nat.le_refl _
  obtain ⟨lb, lo, rfl, _, hlb, _⟩ := hL.2 (by simp)
  refine rE 216 Tryz.func62 rfl rfl rfl ?_
  intro a hf
  refine rR 2 hf rfl fun a hf => ?_
  obtain ⟨w1, b2, he, hB3, hx4, eb5, lb6⟩ := di (P := Tryz.prog) (t := 30) (x := (.tmp 1)) hf rfl rfl w 0
  refine rV hf rfl he fun a hf => ?_
  have ge_b2 := Prn.ge_new hE eb5
  have ne_b_b2 : b ≠ b2 := cP hP.lt eb5
  replace hP := hP.chg0 hx4
  replace hE := hE.t0 hx4
  clear eb5 lb6
  refine rR 5 hf rfl fun a hf => rV hf rfl (aq hf rfl (by kernel_rfl) hB3 rfl) fun a hf => rR 53 hf rfl fun a hf => ?_
  have s_lb := ax hL hE (j := 0) rfl
  have s_hB3 := hB3
  refine rD (fun x => x.cell? ⟨b2, 2, none⟩ = w1.cell? ⟨b2, 2, none⟩ ∧ x.cell? ⟨lb, lo, none⟩ = w1.cell? ⟨lb, lo, none⟩ ∧ x.cell? ⟨b2, 1, none⟩ = w1.cell? ⟨b2, 1, none⟩) 8 8 rfl (by kernel_rfl) (by kernel_rfl) ?_
  intro w7 hx8 hsel
  replace hB3 := hB3.c0 hx8
  replace hP := hP.chg0 hx8
  replace hE := hE.t0 hx8
  have hS0 : w7.cell? ⟨b2, 2, none⟩ = w1.cell? ⟨b2, 2, none⟩ ∧ w7.cell? ⟨lb, lo, none⟩ = w1.cell? ⟨lb, lo, none⟩ ∧ w7.cell? ⟨b2, 1, none⟩ = w1.cell? ⟨b2, 1, none⟩ := ⟨(hB3.cell 2).trans (s_hB3.cell 2).symm, ((ax hL hE (j := 0) rfl).trans s_lb.symm), (hB3.cell 1).trans (s_hB3.cell 1).symm⟩
  refine dR [0, 1] hsel (by kernel_rfl) hf rfl rfl (.inl hS0) fun a hf => dL 2 rfl rfl hsel (by kernel_rfl) hf rfl hS0 (fun x hS => ex_load hf rfl (by kernel_rfl) (hS.1.trans ((s_hB3.cell 2).trans rfl))) fun a hf => dV 3 rfl rfl hsel (by kernel_rfl) hf rfl (.inl hS0) (fun x => az (sz := 1) (k := 0) (r := lo) hf Tryz.underlying28 (by kernel_rfl) rfl rfl rfl (by simp) rfl) fun a hf => dL 4 rfl rfl hsel (by kernel_rfl) hf rfl hS0 (fun x hS => ex_load hf rfl (by kernel_rfl) (hS.2.1.trans s_lb)) fun a hf => dR [5] hsel (by kernel_rfl) hf rfl rfl (.inl hS0) fun a hf => dL 6 rfl rfl hsel (by kernel_rfl) hf rfl hS0 (fun x hS => ex_load hf rfl (by kernel_rfl) (hS.2.2.trans ((s_hB3.cell 1).trans rfl))) fun a hf => nB 7 (by kernel_rfl) rfl hf rfl rfl rfl (by kernel_rfl) (dj (lead := l0) (tok := x) hP (by (try simp only [ae, List.length_append, List.length_cons, List.length_nil]); omega) (by (try simp only [ae, List.length_append, List.length_cons, List.length_nil]); omega) hE.now) ?_
  rintro _ w11 ⟨rfl, hPn, hEn⟩
  refine ⟨_, rfl, fun a hf => ?_⟩
  have hx10 := hEn.chg
  replace hB3 := hB3.chg hx10 (aF hB3 rfl (Ne.symm ne_b_b2))
  replace hE := hE.trans hx10 (fun _ h => .inl h)
  obtain ⟨s9, es9⟩ : ∃ z, z = ae l0 x s := ⟨_, rfl⟩
  replace hPn : Pr Bs b (ae l0 x s).1 (ae l0 x s).2 w11 := hPn
  rw [← es9] at hPn
  have gs9 := bm l0 x s
  rw [← es9] at gs9
  obtain ⟨gs9, gs9'⟩ := gs9
  (try simp only [List.length_cons, List.length_nil, lsum] at gs9 gs9')
  replace hG := nlt gs9 (Nat.add_le_add_right hG _)
  replace hG' := nlt gs9' (Nat.add_le_add_right hG' _)
  clear gs9 gs9'
  clear hP; have hP := hPn; clear hPn hEn
  clear hS0
  have hS0 : w11.cell? ⟨b2, 2, none⟩ = w1.cell? ⟨b2, 2, none⟩ ∧ w11.cell? ⟨lb, lo, none⟩ = w1.cell? ⟨lb, lo, none⟩ ∧ w11.cell? ⟨b2, 1, none⟩ = w1.cell? ⟨b2, 1, none⟩ := ⟨(hB3.cell 2).trans (s_hB3.cell 2).symm, ((ax hL hE (j := 0) rfl).trans s_lb.symm), (hB3.cell 1).trans (s_hB3.cell 1).symm⟩
  refine ⟨.inl hS0, ?_⟩
  refine rN (by kernel_rfl) ?_
  clear hS0 hsel
  refine rR 5 hf rfl fun a hf => rV hf rfl (aq hf rfl (by kernel_rfl) hB3 rfl) fun a hf => rV hf rfl (az (sz := 1) (k := 1) (r := lo + 1) hf Tryz.underlying28 (by kernel_rfl) rfl rfl rfl (by simp) rfl) fun a hf => rV hf rfl (ex_load hf rfl (by kernel_rfl) (ax hL hE (j := 1) rfl)) fun a hf => rC hf rfl rfl (by kernel_rfl) (dj (lead := l1) (tok := [40]) hP (by (try simp only [ae, List.length_append, List.length_cons, List.length_nil]); omega) (by (try simp only [ae, List.length_append, List.length_cons, List.length_nil]); omega) hE.now) ?_
  rintro _ w14 ⟨rfl, hPn, hEn⟩
  refine ⟨_, rfl, fun a hf => ?_⟩
  have hx13 := hEn.chg
  replace hB3 := hB3.chg hx13 (aF hB3 rfl (Ne.symm ne_b_b2))
  replace hE := hE.trans hx13 (fun _ h => .inl h)
  obtain ⟨s12, es12⟩ : ∃ z, z = ae l1 [40] s9 := ⟨_, rfl⟩
  replace hPn : Pr Bs b (ae l1 [40] s9).1 (ae l1 [40] s9).2 w14 := hPn
  rw [← es12] at hPn
  have gs12 := bm l1 [40] s9
  rw [← es12] at gs12
  obtain ⟨gs12, gs12'⟩ := gs12
  (try simp only [List.length_cons, List.length_nil, lsum] at gs12 gs12')
  replace hG := nlt gs12 (Nat.add_le_add_right hG _)
  replace hG' := nlt gs12' (Nat.add_le_add_right hG' _)
  clear gs12 gs12'
  clear hP; have hP := hPn; clear hPn hEn
  refine rR 5 hf rfl fun a hf => rV hf rfl (fy (m := 4) hf rfl (by kernel_rfl) hB3 rfl) fun a hf => rR 1 hf rfl fun a hf => rV hf rfl (aq hf rfl (by kernel_rfl) hB3 rfl) fun a hf => ?_
  have hLn := hL.now hE
  have hKn := hK.now hE
  have hRn := hR.now hE
  refine rC hf rfl rfl (by kernel_rfl) (vc ih (s := s12) (ls := (l0 :: l1 :: l2 :: ms)) (ks := ks) (c := 3) (ci := 3) (by decide) (by decide) (by decide) hcl hks (by simp only [lsum]; omega) (by simp only [lsum]; omega) hP hLn hKn hRn hE.now) ?_
  rintro _ w17 ⟨rfl, hPn, hEn⟩
  refine ⟨_, rfl, fun a hf => ?_⟩
  have hx16 := hEn.chg
  replace hB3 := hB3.chg hx16 (aF hB3 rfl (Ne.symm ne_b_b2))
  replace hE := hE.trans hx16 (fun _ h => .inl h)
  obtain ⟨s15, es15⟩ : ∃ z, z = bf (l0 :: l1 :: l2 :: ms) 3 (treesP ks) 0 s12 := ⟨_, rfl⟩
  replace hPn : Pr Bs b (bf (l0 :: l1 :: l2 :: ms) 3 (treesP ks) 0 s12).1 (bf (l0 :: l1 :: l2 :: ms) 3 (treesP ks) 0 s12).2 w17 := hPn
  rw [← es15] at hPn
  have gs15 := st (ls := (l0 :: l1 :: l2 :: ms)) (c := 3) (by decide) hgk s12
  rw [← es15] at gs15
  obtain ⟨gs15, gs15'⟩ := gs15
  (try simp only [List.length_cons, List.length_nil, lsum] at gs15 gs15')
  replace hG := nlt gs15 (Nat.add_le_add_right hG _)
  replace hG' := nlt gs15' (Nat.add_le_add_right hG' _)
  clear gs15 gs15'
  clear hP; have hP := hPn; clear hPn hEn
  refine rR 5 hf rfl fun a hf => rV hf rfl (aq hf rfl (by kernel_rfl) hB3 rfl) fun a hf => rV hf rfl (az (sz := 1) (k := 2) (r := lo + 2) hf Tryz.underlying28 (by kernel_rfl) rfl rfl rfl (by simp) rfl) fun a hf => rV hf rfl (ex_load hf rfl (by kernel_rfl) (ax hL hE (j := 2) rfl)) fun a hf => rC hf rfl rfl (by kernel_rfl) (dj (lead := l2) (tok := [41]) hP (by (try simp only [ae, List.length_append, List.length_cons, List.length_nil]); omega) (by (try simp only [ae, List.length_append, List.length_cons, List.length_nil]); omega) hE.now) ?_
  rintro _ w20 ⟨rfl, hPn, hEn⟩
  refine ⟨_, rfl, fun a hf => ?_⟩
  have hx19 := hEn.chg
  replace hB3 := hB3.chg hx19 (aF hB3 rfl (Ne.symm ne_b_b2))
  replace hE := hE.trans hx19 (fun _ h => .inl h)
  obtain ⟨s18, es18⟩ : ∃ z, z = ae l2 [41] s15 := ⟨_, rfl⟩
  replace hPn : Pr Bs b (ae l2 [41] s15).1 (ae l2 [41] s15).2 w20 := hPn
  rw [← es18] at hPn
  have gs18 := bm l2 [41] s15
  rw [← es18] at gs18
  obtain ⟨gs18, gs18'⟩ := gs18
  (try simp only [List.length_cons, List.length_nil, lsum] at gs18 gs18')
  replace hG := nlt gs18 (Nat.add_le_add_right hG _)
  replace hG' := nlt gs18' (Nat.add_le_add_right hG' _)
  clear gs18 gs18'
  clear hP; have hP := hPn; clear hPn hEn
  refine rR 2 hf rfl fun a hf => ?_
  have eq : treeP (.node 16 x (l0 :: l1 :: l2 :: ms) ks) s = s18 := by subst es18; subst es15; subst es12; subst es9; rw [treeP]; rfl
  rw [eq]
  exact rF (rs := []) hf rfl rfl ⟨rfl, hP, hE⟩
theorem t18 {N : Nat} (ih : dk N) {w : World} {Bs b : Nat} {s : WS} {x : List UInt8} {l0 l1 : List UInt8} {ms : List (List UInt8)} {ks : List Tree} {cs : List Value} {A B : Option Addr} {m n : Nat} (hcl : 2 + ks.length ≤ (l0 :: l1 :: ms).length + 1) (hks : ∀ t, t ∈ ks → tsize t ≤ N ∧ shapedT t = true ∧ leadedT t = true)
    (hl1 : s.2.length + 100 * (x.length + lsum (l0 :: l1 :: ms) + kbulk ks + 1) ≤ 1000000000000) (hl2 : s.1.length + 100 * (x.length + lsum (l0 :: l1 :: ms) + kbulk ks + 1) ≤ 1000000000000) (hP : Pr Bs b s.1 s.2 w) (hL : RowIn (fun b => b < Bs) w 1 A (l0 :: l1 :: ms).length ((l0 :: l1 :: ms).map aS)) (hn : ks.length ≤ n) (hn2 : n ≤ maxLen) (hK : KidsAre (fun b => b < Bs) w ks cs) (hR : RowIn (fun b => b < Bs) w 4 B ks.length cs) (hBw : Bs ≤ w.heap.size) :
    Calls Tryz.prog 62 [.pointer (some ⟨b, 0, none⟩), .agg #[.int .i64 18, aS x, .slice A (l0 :: l1 :: ms).length m, .slice B ks.length n]].toArray w fun e w' => e = .returned (.tuple #[]) ∧ Pr Bs b (treeP (.node 18 x (l0 :: l1 :: ms) ks) s).1 (treeP (.node 18 x (l0 :: l1 :: ms) ks) s).2 w' ∧ Prn Bs b w w' := by
  simp only [lsum, kbulk] at hl1 hl2
  have hgk : ∀ t, t ∈ ks → ∀ s, Gw (100 * tbulk t) s (treeP t s) := fun t ht s => Gw.tree _ t (Nat.le_refl _) (hks t ht).2.2 s
  have hKL := io ks
  have hll := iq ms
  have hcl' := hcl
  simp only [List.length_cons] at hcl'
  have hE := Prn.refl (b := b) hBw
  have hG : s.2.length ≤ s.2.length := Nat.le_refl _
  have hG' : s.1.length ≤ s.1.length := Nat.le_refl _
  obtain ⟨lb, lo, rfl, _, hlb, _⟩ := hL.2 (by simp)
  refine rE 216 Tryz.func62 rfl rfl rfl ?_
  intro a hf
  refine rR 2 hf rfl fun a hf => ?_
  obtain ⟨w1, b2, he, hB3, hx4, eb5, lb6⟩ := di (P := Tryz.prog) (t := 30) (x := (.tmp 1)) hf rfl rfl w 0
  refine rV hf rfl he fun a hf => ?_
  have ge_b2 := Prn.ge_new hE eb5
  have ne_b_b2 : b ≠ b2 := cP hP.lt eb5
  replace hP := hP.chg0 hx4
  replace hE := hE.t0 hx4
  clear eb5 lb6
  refine rR 5 hf rfl fun a hf => rV hf rfl (aq hf rfl (by kernel_rfl) hB3 rfl) fun a hf => rR 63 hf rfl fun a hf => rV hf rfl (aq hf rfl (by kernel_rfl) hB3 rfl) fun a hf => rV hf rfl (az (sz := 1) (k := 0) (r := lo) hf Tryz.underlying28 (by kernel_rfl) rfl rfl rfl (by simp) rfl) fun a hf => rV hf rfl (ex_load hf rfl (by kernel_rfl) (ax hL hE (j := 0) rfl)) fun a hf => rC hf rfl rfl (by kernel_rfl) (dj (lead := l0) (tok := [91]) hP (by (try simp only [ae, List.length_append, List.length_cons, List.length_nil]); omega) (by (try simp only [ae, List.length_append, List.length_cons, List.length_nil]); omega) hE.now) ?_
  rintro _ w9 ⟨rfl, hPn, hEn⟩
  refine ⟨_, rfl, fun a hf => ?_⟩
  have hx8 := hEn.chg
  replace hB3 := hB3.chg hx8 (aF hB3 rfl (Ne.symm ne_b_b2))
  replace hE := hE.trans hx8 (fun _ h => .inl h)
  obtain ⟨s7, es7⟩ : ∃ z, z = ae l0 [91] s := ⟨_, rfl⟩
  replace hPn : Pr Bs b (ae l0 [91] s).1 (ae l0 [91] s).2 w9 := hPn
  rw [← es7] at hPn
  have gs7 := bm l0 [91] s
  rw [← es7] at gs7
  obtain ⟨gs7, gs7'⟩ := gs7
  (try simp only [List.length_cons, List.length_nil, lsum] at gs7 gs7')
  replace hG := nlt gs7 (Nat.add_le_add_right hG _)
  replace hG' := nlt gs7' (Nat.add_le_add_right hG' _)
  clear gs7 gs7'
  clear hP; have hP := hPn; clear hPn hEn
  refine rR 5 hf rfl fun a hf => rV hf rfl (fy (m := 4) hf rfl (by kernel_rfl) hB3 rfl) fun a hf => rR 1 hf rfl fun a hf => rV hf rfl (aq hf rfl (by kernel_rfl) hB3 rfl) fun a hf => ?_
  have hLn := hL.now hE
  have hKn := hK.now hE
  have hRn := hR.now hE
  refine rC hf rfl rfl (by kernel_rfl) (vc ih (s := s7) (ls := (l0 :: l1 :: ms)) (ks := ks) (c := 2) (ci := 2) (by decide) (by decide) (by decide) hcl hks (by simp only [lsum]; omega) (by simp only [lsum]; omega) hP hLn hKn hRn hE.now) ?_
  rintro _ w12 ⟨rfl, hPn, hEn⟩
  refine ⟨_, rfl, fun a hf => ?_⟩
  have hx11 := hEn.chg
  replace hB3 := hB3.chg hx11 (aF hB3 rfl (Ne.symm ne_b_b2))
  replace hE := hE.trans hx11 (fun _ h => .inl h)
  obtain ⟨s10, es10⟩ : ∃ z, z = bf (l0 :: l1 :: ms) 2 (treesP ks) 0 s7 := ⟨_, rfl⟩
  replace hPn : Pr Bs b (bf (l0 :: l1 :: ms) 2 (treesP ks) 0 s7).1 (bf (l0 :: l1 :: ms) 2 (treesP ks) 0 s7).2 w12 := hPn
  rw [← es10] at hPn
  have gs10 := st (ls := (l0 :: l1 :: ms)) (c := 2) (by decide) hgk s7
  rw [← es10] at gs10
  obtain ⟨gs10, gs10'⟩ := gs10
  (try simp only [List.length_cons, List.length_nil, lsum] at gs10 gs10')
  replace hG := nlt gs10 (Nat.add_le_add_right hG _)
  replace hG' := nlt gs10' (Nat.add_le_add_right hG' _)
  clear gs10 gs10'
  clear hP; have hP := hPn; clear hPn hEn
  refine rR 5 hf rfl fun a hf => rV hf rfl (aq hf rfl (by kernel_rfl) hB3 rfl) fun a hf => rV hf rfl (az (sz := 1) (k := 1) (r := lo + 1) hf Tryz.underlying28 (by kernel_rfl) rfl rfl rfl (by simp) rfl) fun a hf => rV hf rfl (ex_load hf rfl (by kernel_rfl) (ax hL hE (j := 1) rfl)) fun a hf => rC hf rfl rfl (by kernel_rfl) (dj (lead := l1) (tok := [93]) hP (by (try simp only [ae, List.length_append, List.length_cons, List.length_nil]); omega) (by (try simp only [ae, List.length_append, List.length_cons, List.length_nil]); omega) hE.now) ?_
  rintro _ w15 ⟨rfl, hPn, hEn⟩
  refine ⟨_, rfl, fun a hf => ?_⟩
  have hx14 := hEn.chg
  replace hB3 := hB3.chg hx14 (aF hB3 rfl (Ne.symm ne_b_b2))
  replace hE := hE.trans hx14 (fun _ h => .inl h)
  obtain ⟨s13, es13⟩ : ∃ z, z = ae l1 [93] s10 := ⟨_, rfl⟩
  replace hPn : Pr Bs b (ae l1 [93] s10).1 (ae l1 [93] s10).2 w15 := hPn
  rw [← es13] at hPn
  have gs13 := bm l1 [93] s10
  rw [← es13] at gs13
  obtain ⟨gs13, gs13'⟩ := gs13
  (try simp only [List.length_cons, List.length_nil, lsum] at gs13 gs13')
  replace hG := nlt gs13 (Nat.add_le_add_right hG _)
  replace hG' := nlt gs13' (Nat.add_le_add_right hG' _)
  clear gs13 gs13'
  clear hP; have hP := hPn; clear hPn hEn
  refine rR 2 hf rfl fun a hf => ?_
  have eq : treeP (.node 18 x (l0 :: l1 :: ms) ks) s = s13 := by subst es13; subst es10; subst es7; rw [treeP]; rfl
  rw [eq]
  exact rF (rs := []) hf rfl rfl ⟨rfl, hP, hE⟩
theorem FG (x : List UInt8) (ls : List (List UInt8)) (fs : List (WS → WS)) (f g : WS → WS) (s : WS) : ew 2 x ls (fs ++ [f, g]) s = g (ae (ls.getD 5 []) [61] (f (ae (ls.getD 4 []) [58] (ae (ls.getD 3 []) [41] (bf ls 6 fs 0 (ae (ls.getD 2 []) [40] (ae (ls.getD 1 []) x (ae (ls.getD 0 []) [100, 101, 102] s)))))))) := by
 unfold ew
 rw [if_pos (by decide)]
 unfold uH
 dsimp only
 rw [if_neg (by decide), if_pos rfl]
 have k1 : (fs ++ [f, g]).length - 2 = fs.length := by simp
 have k2 : (fs ++ [f, g]).length - 1 = fs.length + 1 := by simp
 rw [k1, k2]
 have t1 : (fs ++ [f, g]).take fs.length = fs := by rw [List.take_append_of_le_length (Nat.le_refl _), List.take_length]
 have t2 : (fs ++ [f, g]).getD fs.length id = f := by rw [List.getD_eq_getElem?_getD, List.getElem?_append_right (Nat.le_refl _), Nat.sub_self]; rfl
 have t3 : (fs ++ [f, g]).getD (fs.length + 1) id = g := by rw [List.getD_eq_getElem?_getD, List.getElem?_append_right (by omega), show fs.length + 1 - fs.length = 1 from by omega]; rfl
 rw [t1, t2, t3]
theorem d2 {N : Nat} (ih : dk N) {w : World} {Bs b : Nat} {s : WS} {x : List UInt8} {l0 l1 l2 l3 l4 l5 : List UInt8} {ms : List (List UInt8)} {k0 k1 : Tree} {ps : List Tree} {cs : List Value} {A B : Option Addr} {m n : Nat} (hcl : 6 + ps.length ≤ (l0 :: l1 :: l2 :: l3 :: l4 :: l5 :: ms).length + 1) (hks : ∀ t, t ∈ (ps ++ [k0, k1]) → tsize t ≤ N ∧ shapedT t = true ∧ leadedT t = true)
    (hl1 : s.2.length + 100 * (x.length + lsum (l0 :: l1 :: l2 :: l3 :: l4 :: l5 :: ms) + kbulk (ps ++ [k0, k1]) + 1) ≤ 1000000000000) (hl2 : s.1.length + 100 * (x.length + lsum (l0 :: l1 :: l2 :: l3 :: l4 :: l5 :: ms) + kbulk (ps ++ [k0, k1]) + 1) ≤ 1000000000000) (hP : Pr Bs b s.1 s.2 w) (hL : RowIn (fun b => b < Bs) w 1 A (l0 :: l1 :: l2 :: l3 :: l4 :: l5 :: ms).length ((l0 :: l1 :: l2 :: l3 :: l4 :: l5 :: ms).map aS)) (hn : (ps ++ [k0, k1]).length ≤ n) (hn2 : n ≤ maxLen) (hK : KidsAre (fun b => b < Bs) w (ps ++ [k0, k1]) cs) (hR : RowIn (fun b => b < Bs) w 4 B (ps ++ [k0, k1]).length cs) (hBw : Bs ≤ w.heap.size) :
    Calls Tryz.prog 93 [.pointer (some ⟨b, 0, none⟩), .agg #[.int .i64 2, aS x, .slice A (l0 :: l1 :: l2 :: l3 :: l4 :: l5 :: ms).length m, .slice B (ps ++ [k0, k1]).length n]].toArray w fun e w' => e = .returned (.tuple #[]) ∧ Pr Bs b (treeP (.node 2 x (l0 :: l1 :: l2 :: l3 :: l4 :: l5 :: ms) (ps ++ [k0, k1])) s).1 (treeP (.node 2 x (l0 :: l1 :: l2 :: l3 :: l4 :: l5 :: ms) (ps ++ [k0, k1])) s).2 w' ∧ Prn Bs b w w' := by
  simp only [lsum, kbulk] at hl1 hl2
  have hgk : ∀ t, t ∈ ps → ∀ s, Gw (100 * tbulk t) s (treeP t s) := fun t ht s => Gw.tree _ t (Nat.le_refl _) (hks t (by simp [ht])).2.2 s
  have hKL := io ps
  simp only [dU, kbulk] at hl1 hl2
  have hll := iq ms
  have hcl' := hcl
  simp only [List.length_cons] at hcl'
  obtain ⟨cs1, cs2, rfl, hKp, hKq⟩ := hK.part
  have hRp := hR.part hKp.length (by simp)
  have hE := Prn.refl (b := b) hBw
  have hG : s.2.length ≤ s.2.length := Nat.le_refl _
  have hG' : s.1.length ≤ s.1.length := Nat.le_refl _
  obtain ⟨lb, lo, rfl, _, hlb, _⟩ := hL.2 (by simp)
  obtain ⟨kb, ko, rfl, _, hkb, _⟩ := hR.2 (by simp)
  refine rE 161 Tryz.func93 rfl rfl rfl ?_
  intro a hf
  refine rR 2 hf rfl fun a hf => ?_
  obtain ⟨w1, b2, he, hB3, hx4, eb5, lb6⟩ := di (P := Tryz.prog) (t := 30) (x := (.tmp 1)) hf rfl rfl w 0
  refine rV hf rfl he fun a hf => ?_
  have ge_b2 := Prn.ge_new hE eb5
  have ne_b_b2 : b ≠ b2 := cP hP.lt eb5
  replace hP := hP.chg0 hx4
  replace hE := hE.t0 hx4
  clear eb5 lb6
  refine rR 5 hf rfl fun a hf => rV hf rfl (aq hf rfl (by kernel_rfl) hB3 rfl) fun a hf => rR 20 hf rfl fun a hf => rV hf rfl (aq hf rfl (by kernel_rfl) hB3 rfl) fun a hf => rV hf rfl (oQ hf Tryz.underlying25 rfl) fun a hf => rR 7 hf rfl fun a hf => rV hf rfl (aq hf rfl (by kernel_rfl) hB3 rfl) fun a hf => rV hf rfl (az (sz := 1) (k := 0) (r := lo) hf Tryz.underlying28 (by kernel_rfl) rfl rfl rfl (by simp) rfl) fun a hf => rV hf rfl (ex_load hf rfl (by kernel_rfl) (ax hL hE (j := 0) rfl)) fun a hf => rC hf rfl rfl (by kernel_rfl) (dj (lead := l0) (tok := [100, 101, 102]) hP (by (try simp only [ae, List.length_append, List.length_cons, List.length_nil]); omega) (by (try simp only [ae, List.length_append, List.length_cons, List.length_nil]); omega) hE.now) ?_
  rintro _ w9 ⟨rfl, hPn, hEn⟩
  refine ⟨_, rfl, fun a hf => ?_⟩
  have hx8 := hEn.chg
  replace hB3 := hB3.chg hx8 (aF hB3 rfl (Ne.symm ne_b_b2))
  replace hE := hE.trans hx8 (fun _ h => .inl h)
  obtain ⟨s7, es7⟩ : ∃ z, z = ae l0 [100, 101, 102] s := ⟨_, rfl⟩
  replace hPn : Pr Bs b (ae l0 [100, 101, 102] s).1 (ae l0 [100, 101, 102] s).2 w9 := hPn
  rw [← es7] at hPn
  have gs7 := bm l0 [100, 101, 102] s
  rw [← es7] at gs7
  obtain ⟨gs7, gs7'⟩ := gs7
  (try simp only [List.length_cons, List.length_nil, lsum] at gs7 gs7')
  replace hG := nlt gs7 (Nat.add_le_add_right hG _)
  replace hG' := nlt gs7' (Nat.add_le_add_right hG' _)
  clear gs7 gs7'
  clear hP; have hP := hPn; clear hPn hEn
  refine rR 3 hf rfl fun a hf => ?_
  have s_lb := ax hL hE (j := 1) rfl
  have s_hB3 := hB3
  refine rD (fun x => x.cell? ⟨b2, 2, none⟩ = w9.cell? ⟨b2, 2, none⟩ ∧ x.cell? ⟨lb, lo + 1, none⟩ = w9.cell? ⟨lb, lo + 1, none⟩ ∧ x.cell? ⟨b2, 1, none⟩ = w9.cell? ⟨b2, 1, none⟩) 8 8 rfl (by kernel_rfl) (by kernel_rfl) ?_
  intro w10 hx11 hsel
  replace hB3 := hB3.c0 hx11
  replace hP := hP.chg0 hx11
  replace hE := hE.t0 hx11
  have hS0 : w10.cell? ⟨b2, 2, none⟩ = w9.cell? ⟨b2, 2, none⟩ ∧ w10.cell? ⟨lb, lo + 1, none⟩ = w9.cell? ⟨lb, lo + 1, none⟩ ∧ w10.cell? ⟨b2, 1, none⟩ = w9.cell? ⟨b2, 1, none⟩ := ⟨(hB3.cell 2).trans (s_hB3.cell 2).symm, ((ax hL hE (j := 1) rfl).trans s_lb.symm), (hB3.cell 1).trans (s_hB3.cell 1).symm⟩
  refine dR [0, 1] hsel (by kernel_rfl) hf rfl rfl (.inl hS0) fun a hf => dL 2 rfl rfl hsel (by kernel_rfl) hf rfl hS0 (fun x hS => ex_load hf rfl (by kernel_rfl) (hS.1.trans ((s_hB3.cell 2).trans rfl))) fun a hf => dV 3 rfl rfl hsel (by kernel_rfl) hf rfl (.inl hS0) (fun x => az (sz := 1) (k := 1) (r := lo + 1) hf Tryz.underlying28 (by kernel_rfl) rfl rfl rfl (by simp) rfl) fun a hf => dL 4 rfl rfl hsel (by kernel_rfl) hf rfl hS0 (fun x hS => ex_load hf rfl (by kernel_rfl) (hS.2.1.trans s_lb)) fun a hf => dR [5] hsel (by kernel_rfl) hf rfl rfl (.inl hS0) fun a hf => dL 6 rfl rfl hsel (by kernel_rfl) hf rfl hS0 (fun x hS => ex_load hf rfl (by kernel_rfl) (hS.2.2.trans ((s_hB3.cell 1).trans rfl))) fun a hf => nB 7 (by kernel_rfl) rfl hf rfl rfl rfl (by kernel_rfl) (dj (lead := l1) (tok := x) hP (by (try simp only [ae, List.length_append, List.length_cons, List.length_nil]); omega) (by (try simp only [ae, List.length_append, List.length_cons, List.length_nil]); omega) hE.now) ?_
  rintro _ w14 ⟨rfl, hPn, hEn⟩
  refine ⟨_, rfl, fun a hf => ?_⟩
  have hx13 := hEn.chg
  replace hB3 := hB3.chg hx13 (aF hB3 rfl (Ne.symm ne_b_b2))
  replace hE := hE.trans hx13 (fun _ h => .inl h)
  obtain ⟨s12, es12⟩ : ∃ z, z = ae l1 x s7 := ⟨_, rfl⟩
  replace hPn : Pr Bs b (ae l1 x s7).1 (ae l1 x s7).2 w14 := hPn
  rw [← es12] at hPn
  have gs12 := bm l1 x s7
  rw [← es12] at gs12
  obtain ⟨gs12, gs12'⟩ := gs12
  (try simp only [List.length_cons, List.length_nil, lsum] at gs12 gs12')
  replace hG := nlt gs12 (Nat.add_le_add_right hG _)
  replace hG' := nlt gs12' (Nat.add_le_add_right hG' _)
  clear gs12 gs12'
  clear hP; have hP := hPn; clear hPn hEn
  clear hS0
  have hS0 : w14.cell? ⟨b2, 2, none⟩ = w9.cell? ⟨b2, 2, none⟩ ∧ w14.cell? ⟨lb, lo + 1, none⟩ = w9.cell? ⟨lb, lo + 1, none⟩ ∧ w14.cell? ⟨b2, 1, none⟩ = w9.cell? ⟨b2, 1, none⟩ := ⟨(hB3.cell 2).trans (s_hB3.cell 2).symm, ((ax hL hE (j := 1) rfl).trans s_lb.symm), (hB3.cell 1).trans (s_hB3.cell 1).symm⟩
  refine ⟨.inl hS0, ?_⟩
  refine rN (by kernel_rfl) ?_
  clear hS0 hsel
  refine rR 5 hf rfl fun a hf => rV hf rfl (aq hf rfl (by kernel_rfl) hB3 rfl) fun a hf => rV hf rfl (az (sz := 1) (k := 2) (r := lo + 2) hf Tryz.underlying28 (by kernel_rfl) rfl rfl rfl (by simp) rfl) fun a hf => rV hf rfl (ex_load hf rfl (by kernel_rfl) (ax hL hE (j := 2) rfl)) fun a hf => rC hf rfl rfl (by kernel_rfl) (dj (lead := l2) (tok := [40]) hP (by (try simp only [ae, List.length_append, List.length_cons, List.length_nil]); omega) (by (try simp only [ae, List.length_append, List.length_cons, List.length_nil]); omega) hE.now) ?_
  rintro _ w17 ⟨rfl, hPn, hEn⟩
  refine ⟨_, rfl, fun a hf => ?_⟩
  have hx16 := hEn.chg
  replace hB3 := hB3.chg hx16 (aF hB3 rfl (Ne.symm ne_b_b2))
  replace hE := hE.trans hx16 (fun _ h => .inl h)
  obtain ⟨s15, es15⟩ : ∃ z, z = ae l2 [40] s12 := ⟨_, rfl⟩
  replace hPn : Pr Bs b (ae l2 [40] s12).1 (ae l2 [40] s12).2 w17 := hPn
  rw [← es15] at hPn
  have gs15 := bm l2 [40] s12
  rw [← es15] at gs15
  obtain ⟨gs15, gs15'⟩ := gs15
  (try simp only [List.length_cons, List.length_nil, lsum] at gs15 gs15')
  replace hG := nlt gs15 (Nat.add_le_add_right hG _)
  replace hG' := nlt gs15' (Nat.add_le_add_right hG' _)
  clear gs15 gs15'
  clear hP; have hP := hPn; clear hPn hEn
  refine rR 3 hf rfl fun a hf => ?_
  have s_hB3 := hB3
  refine rD (fun x => x.cell? ⟨b2, 0, none⟩ = w17.cell? ⟨b2, 0, none⟩ ∧ x.cell? ⟨b2, 1, none⟩ = w17.cell? ⟨b2, 1, none⟩ ∧ x.cell? ⟨b2, 2, none⟩ = w17.cell? ⟨b2, 2, none⟩ ∧ x.cell? ⟨b2, 3, none⟩ = w17.cell? ⟨b2, 3, none⟩) 8 8 rfl (by kernel_rfl) (by kernel_rfl) ?_
  intro w18 hx19 hsel
  replace hB3 := hB3.c0 hx19
  replace hP := hP.chg0 hx19
  replace hE := hE.t0 hx19
  have hS0 : w18.cell? ⟨b2, 0, none⟩ = w17.cell? ⟨b2, 0, none⟩ ∧ w18.cell? ⟨b2, 1, none⟩ = w17.cell? ⟨b2, 1, none⟩ ∧ w18.cell? ⟨b2, 2, none⟩ = w17.cell? ⟨b2, 2, none⟩ ∧ w18.cell? ⟨b2, 3, none⟩ = w17.cell? ⟨b2, 3, none⟩ := ⟨(hB3.cell 0).trans (s_hB3.cell 0).symm, (hB3.cell 1).trans (s_hB3.cell 1).symm, (hB3.cell 2).trans (s_hB3.cell 2).symm, (hB3.cell 3).trans (s_hB3.cell 3).symm⟩
  refine dR [0] hsel (by kernel_rfl) hf rfl rfl (.inl hS0) fun a hf => dL 1 rfl rfl hsel (by kernel_rfl) hf rfl hS0 (fun x hS => ul hf rfl (by kernel_rfl) s_hB3 rfl hS.1 hS.2.1 hS.2.2.1 hS.2.2.2) fun a hf => dR [2] hsel (by kernel_rfl) hf rfl rfl (.inl hS0) fun a hf => dL 3 rfl rfl hsel (by kernel_rfl) hf rfl hS0 (fun x hS => ex_load hf rfl (by kernel_rfl) (hS.2.2.2.trans ((s_hB3.cell 3).trans rfl))) fun a hf => dR [4] hsel (by kernel_rfl) hf rfl rfl (.inl hS0) fun a hf => dV 5 rfl rfl hsel (by kernel_rfl) hf rfl (.inl hS0) (fun x => qY hf rfl rfl rfl (by simp only [List.length_append, List.length_cons, List.length_nil]; omega)) fun a hf => dV 6 rfl rfl hsel (by kernel_rfl) hf rfl (.inl hS0) (fun x => Ey (sz := 4) (k := ps.length) hf Tryz.underlying25 (by kernel_rfl) rfl rfl (by simp only [List.length_append, List.length_cons, List.length_nil]; omega) (by simp only [List.length_append, List.length_cons, List.length_nil] at hn; omega)) fun a hf => ?_
  have hLn := hL.now hE
  have hKn := hKp.now hE
  have hRn := hRp.now hE
  refine nB 7 (by kernel_rfl) rfl hf rfl rfl rfl (by kernel_rfl) (vc ih (s := s15) (ls := (l0 :: l1 :: l2 :: l3 :: l4 :: l5 :: ms)) (ks := ps) (c := 6) (ci := 6) (by decide) (by decide) (by decide) hcl (fun t ht => hks t (by simp [ht])) (by simp only [lsum]; omega) (by simp only [lsum]; omega) hP hLn hKn hRn hE.now) ?_
  rintro _ w22 ⟨rfl, hPn, hEn⟩
  refine ⟨_, rfl, fun a hf => ?_⟩
  have hx21 := hEn.chg
  replace hB3 := hB3.chg hx21 (aF hB3 rfl (Ne.symm ne_b_b2))
  replace hE := hE.trans hx21 (fun _ h => .inl h)
  obtain ⟨s20, es20⟩ : ∃ z, z = bf (l0 :: l1 :: l2 :: l3 :: l4 :: l5 :: ms) 6 (treesP ps) 0 s15 := ⟨_, rfl⟩
  replace hPn : Pr Bs b (bf (l0 :: l1 :: l2 :: l3 :: l4 :: l5 :: ms) 6 (treesP ps) 0 s15).1 (bf (l0 :: l1 :: l2 :: l3 :: l4 :: l5 :: ms) 6 (treesP ps) 0 s15).2 w22 := hPn
  rw [← es20] at hPn
  have gs20 := st (ls := (l0 :: l1 :: l2 :: l3 :: l4 :: l5 :: ms)) (c := 6) (by decide) hgk s15
  rw [← es20] at gs20
  obtain ⟨gs20, gs20'⟩ := gs20
  (try simp only [List.length_cons, List.length_nil, lsum] at gs20 gs20')
  replace hG := nlt gs20 (Nat.add_le_add_right hG _)
  replace hG' := nlt gs20' (Nat.add_le_add_right hG' _)
  clear gs20 gs20'
  clear hP; have hP := hPn; clear hPn hEn
  clear hS0
  have hS0 : w22.cell? ⟨b2, 0, none⟩ = w17.cell? ⟨b2, 0, none⟩ ∧ w22.cell? ⟨b2, 1, none⟩ = w17.cell? ⟨b2, 1, none⟩ ∧ w22.cell? ⟨b2, 2, none⟩ = w17.cell? ⟨b2, 2, none⟩ ∧ w22.cell? ⟨b2, 3, none⟩ = w17.cell? ⟨b2, 3, none⟩ := ⟨(hB3.cell 0).trans (s_hB3.cell 0).symm, (hB3.cell 1).trans (s_hB3.cell 1).symm, (hB3.cell 2).trans (s_hB3.cell 2).symm, (hB3.cell 3).trans (s_hB3.cell 3).symm⟩
  refine ⟨.inl hS0, ?_⟩
  refine rN (by kernel_rfl) ?_
  clear hS0 hsel
  refine rR 5 hf rfl fun a hf => rV hf rfl (aq hf rfl (by kernel_rfl) hB3 rfl) fun a hf => rV hf rfl (az (sz := 1) (k := 3) (r := lo + 3) hf Tryz.underlying28 (by kernel_rfl) rfl rfl rfl (by simp) rfl) fun a hf => rV hf rfl (ex_load hf rfl (by kernel_rfl) (ax hL hE (j := 3) rfl)) fun a hf => rC hf rfl rfl (by kernel_rfl) (dj (lead := l3) (tok := [41]) hP (by (try simp only [ae, List.length_append, List.length_cons, List.length_nil]); omega) (by (try simp only [ae, List.length_append, List.length_cons, List.length_nil]); omega) hE.now) ?_
  rintro _ w25 ⟨rfl, hPn, hEn⟩
  refine ⟨_, rfl, fun a hf => ?_⟩
  have hx24 := hEn.chg
  replace hB3 := hB3.chg hx24 (aF hB3 rfl (Ne.symm ne_b_b2))
  replace hE := hE.trans hx24 (fun _ h => .inl h)
  obtain ⟨s23, es23⟩ : ∃ z, z = ae l3 [41] s20 := ⟨_, rfl⟩
  replace hPn : Pr Bs b (ae l3 [41] s20).1 (ae l3 [41] s20).2 w25 := hPn
  rw [← es23] at hPn
  have gs23 := bm l3 [41] s20
  rw [← es23] at gs23
  obtain ⟨gs23, gs23'⟩ := gs23
  (try simp only [List.length_cons, List.length_nil, lsum] at gs23 gs23')
  replace hG := nlt gs23 (Nat.add_le_add_right hG _)
  replace hG' := nlt gs23' (Nat.add_le_add_right hG' _)
  clear gs23 gs23'
  clear hP; have hP := hPn; clear hPn hEn
  refine rR 6 hf rfl fun a hf => rV hf rfl (aq hf rfl (by kernel_rfl) hB3 rfl) fun a hf => rV hf rfl (az (sz := 1) (k := 4) (r := lo + 4) hf Tryz.underlying28 (by kernel_rfl) rfl rfl rfl (by simp) rfl) fun a hf => rV hf rfl (ex_load hf rfl (by kernel_rfl) (ax hL hE (j := 4) rfl)) fun a hf => rC hf rfl rfl (by kernel_rfl) (dj (lead := l4) (tok := [58]) hP (by (try simp only [ae, List.length_append, List.length_cons, List.length_nil]); omega) (by (try simp only [ae, List.length_append, List.length_cons, List.length_nil]); omega) hE.now) ?_
  rintro _ w28 ⟨rfl, hPn, hEn⟩
  refine ⟨_, rfl, fun a hf => ?_⟩
  have hx27 := hEn.chg
  replace hB3 := hB3.chg hx27 (aF hB3 rfl (Ne.symm ne_b_b2))
  replace hE := hE.trans hx27 (fun _ h => .inl h)
  obtain ⟨s26, es26⟩ : ∃ z, z = ae l4 [58] s23 := ⟨_, rfl⟩
  replace hPn : Pr Bs b (ae l4 [58] s23).1 (ae l4 [58] s23).2 w28 := hPn
  rw [← es26] at hPn
  have gs26 := bm l4 [58] s23
  rw [← es26] at gs26
  obtain ⟨gs26, gs26'⟩ := gs26
  (try simp only [List.length_cons, List.length_nil, lsum] at gs26 gs26')
  replace hG := nlt gs26 (Nat.add_le_add_right hG _)
  replace hG' := nlt gs26' (Nat.add_le_add_right hG' _)
  clear gs26 gs26'
  clear hP; have hP := hPn; clear hPn hEn
  refine rR 6 hf rfl fun a hf => rV hf rfl (aq hf rfl (by kernel_rfl) hB3 rfl) fun a hf => rR 1 hf rfl fun a hf => rV hf rfl (qY hf rfl rfl rfl (by simp only [List.length_append, List.length_cons, List.length_nil]; omega)) fun a hf => rV hf rfl (az (sz := 4) (k := ps.length) (r := ko + ps.length * 4) hf Tryz.underlying25 (by kernel_rfl) rfl rfl (by simp only [List.length_append, List.length_cons, List.length_nil]; omega) (by simp only [List.length_append, List.length_cons, List.length_nil]; omega) rfl) fun a hf => ?_
  obtain ⟨d0, d1, d2, d3, hT, hK4⟩ := dQ hK hR hE (i := ps.length) (t := k0) (by simp)
  have on_T := hT.one
  refine rV hf rfl (ex_loadN (cs := [d0, d1, d2, d3]) (m := 4) hf rfl (by kernel_rfl) rfl hK4) fun a hf => rC hf rfl rfl (by kernel_rfl) (ih k0 _ Bs b s26 d0 d1 d2 d3 (hks _ (by simp)).1 (hks _ (by simp)).2.1 (hks _ (by simp)).2.2 (by (try simp only [ae, List.length_append, List.length_cons, List.length_nil]); omega) (by (try simp only [ae, List.length_append, List.length_cons, List.length_nil]); omega) hP hT hE.now) ?_
  rintro _ w31 ⟨rfl, hPn, hEn⟩
  refine ⟨_, rfl, fun a hf => ?_⟩
  have hx30 := hEn.chg
  replace hB3 := hB3.chg hx30 (aF hB3 rfl (Ne.symm ne_b_b2))
  replace hE := hE.trans hx30 (fun _ h => .inl h)
  obtain ⟨s29, es29⟩ : ∃ z, z = treeP k0 s26 := ⟨_, rfl⟩
  replace hPn : Pr Bs b (treeP k0 s26).1 (treeP k0 s26).2 w31 := hPn
  rw [← es29] at hPn
  have gs29 := dp (t := k0) (hks _ (by simp)).2.2 s26
  rw [← es29] at gs29
  obtain ⟨gs29, gs29'⟩ := gs29
  (try simp only [List.length_cons, List.length_nil, lsum] at gs29 gs29')
  replace hG := nlt gs29 (Nat.add_le_add_right hG _)
  replace hG' := nlt gs29' (Nat.add_le_add_right hG' _)
  clear gs29 gs29'
  clear hP; have hP := hPn; clear hPn hEn
  refine rR 6 hf rfl fun a hf => rV hf rfl (aq hf rfl (by kernel_rfl) hB3 rfl) fun a hf => rV hf rfl (az (sz := 1) (k := 5) (r := lo + 5) hf Tryz.underlying28 (by kernel_rfl) rfl rfl rfl (by simp) rfl) fun a hf => rV hf rfl (ex_load hf rfl (by kernel_rfl) (ax hL hE (j := 5) rfl)) fun a hf => rC hf rfl rfl (by kernel_rfl) (dj (lead := l5) (tok := [61]) hP (by (try simp only [ae, List.length_append, List.length_cons, List.length_nil]); omega) (by (try simp only [ae, List.length_append, List.length_cons, List.length_nil]); omega) hE.now) ?_
  rintro _ w34 ⟨rfl, hPn, hEn⟩
  refine ⟨_, rfl, fun a hf => ?_⟩
  have hx33 := hEn.chg
  replace hB3 := hB3.chg hx33 (aF hB3 rfl (Ne.symm ne_b_b2))
  replace hE := hE.trans hx33 (fun _ h => .inl h)
  obtain ⟨s32, es32⟩ : ∃ z, z = ae l5 [61] s29 := ⟨_, rfl⟩
  replace hPn : Pr Bs b (ae l5 [61] s29).1 (ae l5 [61] s29).2 w34 := hPn
  rw [← es32] at hPn
  have gs32 := bm l5 [61] s29
  rw [← es32] at gs32
  obtain ⟨gs32, gs32'⟩ := gs32
  (try simp only [List.length_cons, List.length_nil, lsum] at gs32 gs32')
  replace hG := nlt gs32 (Nat.add_le_add_right hG _)
  replace hG' := nlt gs32' (Nat.add_le_add_right hG' _)
  clear gs32 gs32'
  clear hP; have hP := hPn; clear hPn hEn
  refine rR 5 hf rfl fun a hf => rV hf rfl (aq hf rfl (by kernel_rfl) hB3 rfl) fun a hf => rR 1 hf rfl fun a hf => rV hf rfl (qY hf rfl rfl rfl (by simp only [List.length_append, List.length_cons, List.length_nil]; omega)) fun a hf => rV hf rfl (az (sz := 4) (k := (ps.length + 1)) (r := ko + (ps.length + 1) * 4) hf Tryz.underlying25 (by kernel_rfl) rfl rfl (by simp only [List.length_append, List.length_cons, List.length_nil]; omega) (by simp only [List.length_append, List.length_cons, List.length_nil]; omega) rfl) fun a hf => ?_
  obtain ⟨d0, d1, d2, d3, hT, hK4⟩ := dQ hK hR hE (i := (ps.length + 1)) (t := k1) (by simp)
  have on_T := hT.one
  refine rV hf rfl (ex_loadN (cs := [d0, d1, d2, d3]) (m := 4) hf rfl (by kernel_rfl) rfl hK4) fun a hf => rC hf rfl rfl (by kernel_rfl) (ih k1 _ Bs b s32 d0 d1 d2 d3 (hks _ (by simp)).1 (hks _ (by simp)).2.1 (hks _ (by simp)).2.2 (by (try simp only [ae, List.length_append, List.length_cons, List.length_nil]); omega) (by (try simp only [ae, List.length_append, List.length_cons, List.length_nil]); omega) hP hT hE.now) ?_
  rintro _ w37 ⟨rfl, hPn, hEn⟩
  refine ⟨_, rfl, fun a hf => ?_⟩
  have hx36 := hEn.chg
  replace hB3 := hB3.chg hx36 (aF hB3 rfl (Ne.symm ne_b_b2))
  replace hE := hE.trans hx36 (fun _ h => .inl h)
  obtain ⟨s35, es35⟩ : ∃ z, z = treeP k1 s32 := ⟨_, rfl⟩
  replace hPn : Pr Bs b (treeP k1 s32).1 (treeP k1 s32).2 w37 := hPn
  rw [← es35] at hPn
  have gs35 := dp (t := k1) (hks _ (by simp)).2.2 s32
  rw [← es35] at gs35
  obtain ⟨gs35, gs35'⟩ := gs35
  (try simp only [List.length_cons, List.length_nil, lsum] at gs35 gs35')
  replace hG := nlt gs35 (Nat.add_le_add_right hG _)
  replace hG' := nlt gs35' (Nat.add_le_add_right hG' _)
  clear gs35 gs35'
  clear hP; have hP := hPn; clear hPn hEn
  refine rR 2 hf rfl fun a hf => ?_
  have eq : treeP (.node 2 x (l0 :: l1 :: l2 :: l3 :: l4 :: l5 :: ms) (ps ++ [k0, k1])) s = s35 := by subst es35; subst es32; subst es29; subst es26; subst es23; subst es20; subst es15; subst es12; subst es7; rw [treeP, mV, treesP, treesP, treesP, FG]; rfl
  rw [eq]
  exact rF (rs := []) hf rfl rfl ⟨rfl, hP, hE⟩
end Go.Proofs.YtpnpdlnpikkeaaaGreat
