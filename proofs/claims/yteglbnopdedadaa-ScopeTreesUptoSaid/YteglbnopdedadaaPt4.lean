/- Contracts of the functions that the law reaches, part 4. -/
import Derived.Test.YteglbnopdedadaaPt3
set_option linter.unusedVariables false
set_option linter.unusedSimpArgs false
namespace Go.Proofs.Yteglbnopdedadaa
open Go.RowKit Lx Sx
set_option maxRecDepth 100000
theorem lZ : ∀ {l : List Tree} {q : List Int} {i : Nat} {x : List Int × Tree}, x ∈ nodKs l q i → ∃ j w, l[j]? = some w ∧ x ∈ nodK w (q ++ [((i + j : Nat) : Int)])
  | [], q, i, x, h => by simp [nodKs] at h
  | t :: r, q, i, x, h => by
    simp only [nodKs, List.mem_append] at h
    rcases h with h | h
    · exact ⟨0, t, rfl, h⟩
    · obtain ⟨j, w, h1, h2⟩ := lZ h
      exact ⟨j + 1, w, by simpa using h1, by rw [show i + (j + 1) = i + 1 + j by omega]; exact h2⟩
theorem mu {k : Int} {s : List UInt8} : ∀ {l : List Tree} {q : List Int} {i : Nat} {E : List GScopeBinder} {x : List Int × Tree × List GScopeBinder}, x ∈ nodEs k s l q i E → ∃ j w, l[j]? = some w ∧ x ∈ nodE w (q ++ [((i + j : Nat) : Int)]) (if k = 20 ∧ i + j = 1 then E ++ [⟨s, q⟩] else E)
  | [], q, i, E, x, h => by simp [nodEs] at h
  | t :: r, q, i, E, x, h => by
    simp only [nodEs, List.mem_append] at h
    rcases h with h | h
    · exact ⟨0, t, rfl, h⟩
    · obtain ⟨j, w, h1, h2⟩ := mu h
      exact ⟨j + 1, w, by simpa using h1, by rw [show i + (j + 1) = i + 1 + j by omega]; exact h2⟩
theorem eQ {k n : Int} : ∀ {l : List Tree} {i j : Nat} {u : Tree}, shapeKs k n i l = true → l[j]? = some u → eW k n ((i + j : Nat) : Int) u.kind = true ∧ shapeK u = true
  | [], i, j, u, _, h => by simp at h
  | t :: r, i, 0, u, h, hj => by
    simp only [shapeKs, Bool.and_eq_true] at h
    simp only [List.getElem?_cons_zero, Option.some.injEq] at hj
    subst hj
    exact ⟨by simpa using h.1.1, h.1.2⟩
  | t :: r, i, j + 1, u, h, hj => by
    simp only [shapeKs, Bool.and_eq_true] at h
    have := eQ (i := i + 1) (j := j) h.2 (by simpa using hj)
    exact ⟨by rw [show i + (j + 1) = i + 1 + j by omega]; exact this.1, this.2⟩
theorem vq : ∀ (v : Tree) (q : List Int), shapeK v = true → (eD v.kind = true ∨ v.kind = 4) → ∀ x ∈ nodK v q, x.2.kind ≠ 12 := fe fun v ih q hs hk x hx => by
  rw [lQ, List.mem_cons] at hx
  rw [ei] at hs
  simp only [Bool.and_eq_true, decide_eq_true_eq] at hs
  have hk' : (5 ≤ v.kind ∧ v.kind ≤ 9) ∨ v.kind = 4 := by
    rcases hk with h | h
    · exact .inl (by simpa [eD] using h)
    · exact .inr h
  rcases hx with rfl | hx
  · simp only; omega
  · obtain ⟨j, w, hj, hw⟩ := lZ hx
    obtain ⟨h1, h2⟩ := eQ hs.2 hj
    have hlen := (List.getElem?_eq_some_iff.1 hj).1
    refine ih j w hj _ h2 (.inl ?_) x hw
    have hl := hs.1.1
    by_cases h4 : v.kind = 4
    · rw [h4] at h1; simpa [eW] using h1
    · by_cases h8 : v.kind = 8
      · rw [h8] at h1; simpa [eW] using h1
      · exfalso
        have h5 : v.kind = 5 ∨ v.kind = 6 ∨ v.kind = 7 ∨ v.kind = 9 := by omega
        have : iD v.kind v.kids.length = f0 v.kids.length 0 1 0 0 := by
          rcases h5 with e | e | e | e <;> rw [e] <;> rfl
        have h6 : f0 v.kids.length 0 1 0 0 = -1 := by
          unfold f0
          rw [if_pos ⟨by omega, by omega⟩]
        omega
theorem mM (t : Tree) (q s : List Int) : ∀ n, n ≤ q.length → cf t (q ++ s) n = cf t q n
  | 0, _ => rfl
  | n + 1, h => by
    simp only [cf, mM t q s n (by omega)]
    rw [List.take_append_of_le_length (by omega), List.getElem?_append_left (by omega)]
theorem m8 {t v : Tree} {q : List Int} {b : Int} {r : List Int} {j : Nat} (hq : q = b :: r) (hb : b = (t.kids.length : Int) - 1) (h1 : atK t q = some v) (h2 : (atK t (q ++ [(j : Int)])).isSome = true) : arP t (q ++ [(j : Int)]) = (if v.kind = 20 ∧ j = 1 then [q] else []) ++ arP t q := by
  subst hq
  have e1 : arP t (b :: r) = cf t (b :: r) (b :: r).length ++ fu (t.kids.length - 2) := by
    unfold arP; rw [h1]; simp [hb]
  have e2 : arP t (b :: r ++ [(j : Int)]) = cf t (b :: r ++ [(j : Int)]) (b :: r ++ [(j : Int)]).length ++ fu (t.kids.length - 2) := by
    unfold arP
    rw [if_neg (by rw [h2]; simp)]
    simp only [List.cons_append]
    rw [if_pos hb]
  rw [e1, e2, ← List.append_assoc]
  congr 1
  rw [List.length_append, List.length_singleton, cf, mM t (b :: r) _ _ (Nat.le_refl _)]
  congr 1
  have e3 : (b :: r ++ [(j : Int)]).take (b :: r).length = b :: r := by rw [List.take_append_of_le_length (Nat.le_refl _), List.take_length]
  have e4 : (b :: r ++ [(j : Int)])[(b :: r).length]? = some (j : Int) := by rw [List.getElem?_append_right (Nat.le_refl _)]; simp
  rw [e3, e4]
  have e5 : atD t (b :: r) = v := by unfold atD; rw [h1]; rfl
  rw [e5]
  by_cases h : v.kind = 20 ∧ j = 1
  · rw [if_pos h, if_pos ⟨h.1, by rw [h.2]; rfl⟩]
  · rw [if_neg h, if_neg (fun hc => h ⟨hc.1, by have := hc.2; injection this with this; omega⟩)]
theorem tY {t : Tree} {b : Int} (hb : b = (t.kids.length : Int) - 1) : ∀ (v : Tree) (q : List Int) (E : List GScopeBinder), atK t q = some v → (∃ r, q = b :: r) → E.reverse = (arP t q).map (aL t) → ∀ x ∈ nodE v q E, x.2.2.reverse = (arP t x.1).map (aL t) := fe fun v ih q E hq hr hE x hx => by
  rw [oW, List.mem_cons] at hx
  rcases hx with rfl | hx
  · exact hE
  · obtain ⟨j, w, hj, hw⟩ := mu hx
    rw [Nat.zero_add] at hw
    have hat : atK t (q ++ [(j : Int)]) = some w := by rw [j9, hq]; exact ga hj
    obtain ⟨r, hr⟩ := hr
    refine ih j w hj _ _ hat ⟨r ++ [(j : Int)], by rw [hr]; rfl⟩ ?_ x hw
    rw [m8 hr hb hq (by rw [hat]; rfl), List.map_append, ← hE]
    by_cases h : v.kind = 20 ∧ j = 1
    · rw [if_pos h, if_pos h, List.reverse_append]
      have : aL t q = ⟨v.text, q⟩ := by unfold aL atD; rw [hq]; rfl
      simp [this]
    · rw [if_neg h, if_neg h]; rfl
def dM (t : Tree) : List (List Int × Tree) → List GVariable
  | [] => []
  | x :: r => (if x.2.kind = 12 then [⟨x.1, (cd ((arP t x.1).map (aL t)) x.2.text).1, !(cd ((arP t x.1).map (aL t)) x.2.text).2⟩] else []) ++ dM t r
theorem nr (t : Tree) : ∀ a b, dM t (a ++ b) = dM t a ++ dM t b
  | [], b => rfl
  | x :: r, b => by simp only [List.cons_append, dM, nr t r b, List.append_assoc]
theorem mi (t : Tree) : ∀ a, (∀ x ∈ a, x.2.kind ≠ 12) → dM t a = []
  | [], _ => rfl
  | x :: r, h => by rw [dM, if_neg (h x (by simp)), mi t r fun y hy => h y (by simp [hy])]; rfl
theorem nj {t : Tree} : ∀ X : List (List Int × Tree × List GScopeBinder), (∀ x ∈ X, x.2.2.reverse = (arP t x.1).map (aL t)) → dj X = dM t (X.map fun x => (x.1, x.2.1))
  | [], _ => rfl
  | x :: r, h => by
    rw [List.map_cons, dM, dj, nj r fun y hy => h y (by simp [hy])]
    congr 1
    rw [rk, h x (by simp)]
end Go.Proofs.Yteglbnopdedadaa
namespace Go.Proofs.Yteglbnopdedadaa
open Go.RowKit Lx Sx
set_option maxRecDepth 100000
def eJ : Nat → List Tree → List GScopeBinder
  | _, [] => []
  | i, t :: r => ⟨t.text, [(i : Int)]⟩ :: eJ (i + 1) r
theorem ib : ∀ (i : Nat) (l : List Tree) (t : Tree), eJ i (l ++ [t]) = eJ i l ++ [⟨t.text, [((i + l.length : Nat) : Int)]⟩]
  | i, [], t => rfl
  | i, u :: r, t => by
    simp only [List.cons_append, eJ, ib (i + 1) r t, List.length_cons]
    rw [show i + 1 + r.length = i + (r.length + 1) by omega]
theorem kl : ∀ (i : Nat) (l : List Tree), (eJ i l).length = l.length
  | i, [] => rfl
  | i, t :: r => by simp [eJ, kl (i + 1) r]
theorem ma : ∀ (i : Nat) (l : List Tree), ∀ b ∈ eJ i l, b.path.length = 1
  | i, [], b, h => by simp [eJ] at h
  | i, t :: r, b, h => by
    simp only [eJ, List.mem_cons] at h
    rcases h with rfl | h
    · rfl
    · exact ma (i + 1) r b h
def eI (t : Tree) : List GScopeBinder := (eJ 0 (t.kids.take (t.kids.length - 2))).reverse
theorem mJ (t : Tree) (h2 : 2 ≤ t.kids.length) (ht : t.kids.length ≤ 400000000) : eB t (eI t) := by
  have loop : ∀ (n : Nat) (l : List GScopeBinder), n ≤ t.kids.length → l.length + n ≤ 1000000000 → d8 (n + 1) t l ((n : Int) - 1) (l ++ (eJ 0 (t.kids.take n)).reverse) := fun n => by
    induction n with
    | zero => intro l _ _; exact gW 0 _ _ _ _ ⟨fun h => by omega, fun _ => by simp [eJ]⟩
    | succ n ih =>
      intro l hn hl
      obtain ⟨x, hx, _⟩ | h' := aO t.kids n
      · refine gW (n + 1) _ _ _ _ ⟨fun _ => ⟨n, by omega, x, hx, by simp; omega, by omega, ?_⟩, fun h => by omega⟩
        rw [show ((n + 1 : Nat) : Int) - 1 - 1 = (n : Int) - 1 by omega]
        have := ih (l ++ [⟨x.text, [((n + 1 : Nat) : Int) - 1]⟩]) (by omega) (by simp; omega)
        rw [List.take_add_one, hx, Option.toList_some, ib, List.length_take, List.reverse_append]
        rw [show min n t.kids.length = n by omega, Nat.zero_add]
        rw [show ((n + 1 : Nat) : Int) - 1 = (n : Int) by omega] at this ⊢
        simpa using this
      · omega
  have := loop (t.kids.length - 2) [] (by omega) (by simp; omega)
  rw [show ((t.kids.length - 2 : Nat) : Int) - 1 = (t.kids.length : Int) - 3 by omega] at this
  exact kZ _ _ _ (by simpa [eI] using this)
def gf (t : Tree) : List GVariable := if br t = true then dM t (nodK t []) else []
theorem qz {t u : Tree} (hf : br t = true) (hu : t.kids[t.kids.length - 1]? = some u) : dj (nodE u [(t.kids.length : Int) - 1] (eI t)) = dM t (nodK t []) := by
  have h2 := eu hf
  have hb : ((t.kids.length - 1 : Nat) : Int) = (t.kids.length : Int) - 1 := by omega
  have hat : atK t [(t.kids.length : Int) - 1] = some u := by rw [← hb]; exact ga hu
  have henv := tY (t := t) (b := (t.kids.length : Int) - 1) rfl u [(t.kids.length : Int) - 1] (eI t) hat ⟨[], rfl⟩ (by
    rw [eI, List.reverse_reverse]
    have e : arP t [(t.kids.length : Int) - 1] = cf t [(t.kids.length : Int) - 1] 1 ++ fu (t.kids.length - 2) := by
      unfold arP; rw [hat]; simp
    simp only [br, Bool.and_eq_true, beq_iff_eq] at hf
    have e2 : cf t [(t.kids.length : Int) - 1] 1 = [] := by
      simp only [cf, List.append_nil]
      rw [if_neg]
      intro h
      have := h.1
      simp only [List.take_zero, atD, atK, Option.getD_some] at this
      omega
    rw [e, e2, List.nil_append, fu, List.map_map]
    have key : ∀ n, n ≤ t.kids.length → eJ 0 (t.kids.take n) = (List.range n).map (aL t ∘ fun (i : Nat) => [(i : Int)]) := fun n => by
      induction n with
      | zero => intro _; simp [eJ]
      | succ n ih =>
        intro hn
        obtain ⟨x, hx, _⟩ | h' := aO t.kids n
        · rw [List.take_add_one, hx, Option.toList_some, ib, ih (by omega), List.range_succ, List.map_append, List.length_take]
          rw [show min n t.kids.length = n by omega, Nat.zero_add]
          congr 1
          simp only [List.map_cons, List.map_nil, Function.comp]
          have : atK t [(n : Int)] = some x := ga hx
          simp [aL, atD, this]
        · omega
    exact key _ (by omega))
  rw [nj _ henv, nodE_nodK, lQ t []]
  simp only [br, Bool.and_eq_true, beq_iff_eq] at hf
  rw [dM, if_neg (by simp only; omega), List.nil_append]
  have hs := hf.2
  rw [ei, hf.1] at hs
  simp only [Bool.and_eq_true] at hs
  have key : ∀ k i, t.kids.length - 1 - i = k → i ≤ t.kids.length - 1 → dM t (nodKs (t.kids.drop i) [] i) = dM t (nodK u [(t.kids.length : Int) - 1]) := fun k => by
    induction k with
    | zero =>
      intro i hk hi
      have e : i = t.kids.length - 1 := by omega
      subst e
      rw [cq hu, nodKs, List.drop_of_length_le (by omega), nodKs, List.append_nil, hb]; rfl
    | succ k ih =>
      intro i hk hi
      obtain ⟨x, hx, _⟩ | h' := aO t.kids i
      · rw [cq hx, nodKs, nr, ih (i + 1) (by omega) (by omega)]
        obtain ⟨g1, g2⟩ := eQ hs.2 hx
        rw [Nat.zero_add] at g1
        rw [mi t _ (vq x _ g2 ?_)]
        · rfl
        · simp only [eW] at g1
          rw [if_neg (by omega), if_pos trivial, if_neg (by omega)] at g1
          split at g1
          · exact .inl g1
          · exact .inr (by simpa using g1)
      · omega
  exact (key _ 0 rfl (by omega)).symm
theorem gH (t : Tree) (ht : tbulk t ≤ 100000000) : cv t (gf t) := by
  have hk := dp t
  refine jS 0 _ _ ⟨_, lq t (by omega), fun h => by simp [gf, h], fun h => ?_⟩
  have h2 := eu h
  obtain ⟨u, hu, _⟩ | h' := aO t.kids (t.kids.length - 1)
  · have hbu := en hu
    have hs : (eI t).length ≤ t.kids.length := by
      rw [eI, List.length_reverse, kl, List.length_take]; omega
    have hv := ri u (eI t) [(t.kids.length : Int) - 1] [] (by simp; omega) (by simp; omega) (by omega) (fun b hb => by
      have := ma 0 _ b (List.mem_reverse.1 hb); omega)
    rw [List.nil_append, qz h hu] at hv
    exact ⟨_, mJ t h2 (by omega), t.kids.length - 1, by omega, u, hu, _, _, _, hv, by simp [gf, h]⟩
  · omega
theorem iq {t : Tree} {q : List Int} {n : Nat} (hq : q.length ≤ n) (hn : 1 ≤ n) : ∀ x ∈ arP t q, x.length ≤ n := by
  have hl : ∀ k, ∀ x ∈ cf t q k, x.length ≤ n := fun k => by
    induction k with
    | zero => intro x hx; simp [cf] at hx
    | succ k ih =>
      intro x hx
      simp only [cf, List.mem_append] at hx
      rcases hx with hx | hx
      · split at hx
        · simp only [List.mem_singleton] at hx
          subst hx; rw [List.length_take]; omega
        · simp at hx
      · exact ih x hx
  intro x hx
  unfold arP at hx
  split at hx
  · simp at hx
  · split at hx
    · simp at hx
    · split at hx
      · rw [List.mem_append] at hx
        rcases hx with hx | hx
        · exact hl _ x hx
        · simp only [fu, List.mem_map] at hx
          obtain ⟨i, _, rfl⟩ := hx
          exact hn
      · simp at hx
theorem nd (t : Tree) (ht : tbulk t ≤ 100000000) : cX t (gf t) := by
  have hnl := nodK_len t []
  have hat : ∀ x ∈ nodK t [], atK t x.1 = some x.2 := nodK_at t t [] rfl
  have hbd : ∀ x ∈ nodK t [], x.1.length ≤ tbulk t := fun x hx => by
    have := nodK_bnd t [] x hx; simp only [List.length_nil] at this; omega
  by_cases hf : br t = true
  rotate_left
  · exact eg 0 _ _ ⟨_, iW t (by omega), fun h => by simp [gf, h], fun h => absurd h hf⟩
  · have hp := s5 t (by omega)
    have hb0 := it t
    have e : gf t = dM t (nodK t []) := if_pos hf
    rw [e]
    obtain ⟨N, hN⟩ : ∃ N, N = nodK t [] := ⟨_, rfl⟩
    rw [← hN] at hnl hat hbd hp ⊢
    have loop : ∀ k i l, N.length - i ≤ k → l.length + (N.length - i) ≤ 1000000000 → bk (2 * k + 1) t (paths N) l i (l ++ dM t (N.drop i)) := fun k => by
      induction k with
      | zero =>
        intro i l hi hl
        refine cz 0 _ _ _ _ _ ⟨fun h => by simp [paths] at h; omega, fun _ => ?_⟩
        rw [List.drop_of_length_le (by omega)]; simp [dM]
      | succ k ih =>
        intro i l hi hl
        rw [show 2 * (k + 1) + 1 = 2 * k + 1 + 1 + 1 by omega]
        obtain ⟨x, hx, _⟩ | h' := aO N i
        · have hmem := List.mem_of_getElem? hx
          have hxa := hat x hmem
          have hxb := hbd x hmem
          have hpx : (paths N)[i]? = some x.1 := by simp [paths, hx]
          have hA := rq t x.1 (by omega)
          rw [hxa] at hA
          refine cz _ _ _ _ _ _ ⟨fun _ => ⟨x.1, hpx, _, _, hA, ?_⟩, fun h => absurd (by simp [paths]; omega) h⟩
          rw [Option.getD_some, cq hx, dM]
          refine gz _ _ _ _ _ _ _ ⟨fun h12 => ⟨x.1, hpx, _, _, nA t x.1 x.2.text hf (by omega) (by omega) (fun y hy => Nat.le_trans (iq (n := 100000000) (by omega) (by omega) y hy) (by omega)), x.1, hpx, by simp; omega, by omega, ?_⟩, fun h12 => ⟨by omega, ?_⟩⟩
          · rw [if_pos h12, ← List.append_assoc]
            exact ih (i + 1) _ (by omega) (by simp; omega)
          · rw [if_neg h12, List.nil_append]
            exact ih (i + 1) _ (by omega) (by omega)
        · refine cz _ _ _ _ _ _ ⟨fun h => by simp [paths] at h; omega, fun _ => ?_⟩
          rw [List.drop_of_length_le (by omega)]; simp [dM]
    have := loop N.length 0 [] (by omega) (by simp; omega)
    rw [List.drop_zero, List.nil_append] at this
    exact eg (2 * N.length + 1) _ _ ⟨_, iW t (by omega), fun h => (by rw [hf] at h; cases h), fun _ => ⟨_, hp, this⟩⟩
end Go.Proofs.Yteglbnopdedadaa
namespace Go.Proofs.Yteglbnopdedadaa
open Go.RowKit Lx Sx
set_option maxRecDepth 100000
def auL (t : Tree) : Tree → List Int → List GScopeBinder → List Int → List GScopeBinder × Bool
  | _, _, l, [] => (l, true)
  | u, done, l, n :: r => if n < 0 then ([], false) else match u.kids[n.toNat]? with
    | none => ([], false)
    | some v => auL t v (done ++ [n]) ((if done = [] ∧ n = (t.kids.length : Int) - 1 then eI t else l) ++ (if u.kind = 20 ∧ n = 1 then [⟨u.text, done⟩] else [])) r
theorem na (t : Tree) (q : List Int) (h2 : 2 ≤ t.kids.length) (ht : t.kids.length ≤ 100000000) (hq : q.length ≤ 100000000) : eC t q (auL t t [] [] q).1 (auL t t [] [] q).2 := by
  have hs0 : (eI t).length ≤ t.kids.length := by
    rw [eI, List.length_reverse, kl, List.length_take]; omega
  have loop : ∀ (r done : List Int) (u : Tree) (l : List GScopeBinder), q = done ++ r → l.length ≤ t.kids.length + done.length → co (2 * r.length + 1) t q l u done.length (auL t u done l r).1 (auL t u done l r).2 := fun r => by
    induction r with
    | nil =>
      intro done u l hqd hl
      refine gX 0 _ _ _ _ _ _ _ ⟨fun h => by rw [hqd] at h; simp at h, fun _ => ⟨rfl, rfl⟩⟩
    | cons n r ih =>
      intro done u l hqd hl
      have hlen : done.length + (r.length + 1) = q.length := by rw [hqd]; simp
      have hn : q[done.length]? = some n := by rw [hqd, List.getElem?_append_right (Nat.le_refl _)]; simp
      have htk : q.take done.length = done := by rw [hqd, List.take_append_of_le_length (Nat.le_refl _), List.take_length]
      rw [show 2 * (n :: r).length + 1 = 2 * r.length + 1 + 1 + 1 by simp; omega]
      have e : auL t u done l (n :: r) = if n < 0 then ([], false) else match u.kids[n.toNat]? with
        | none => ([], false)
        | some v => auL t v (done ++ [n]) ((if done = [] ∧ n = (t.kids.length : Int) - 1 then eI t else l) ++ (if u.kind = 20 ∧ n = 1 then [⟨u.text, done⟩] else [])) r := rfl
      have step : ∀ l', l' = (if done = [] ∧ n = (t.kids.length : Int) - 1 then eI t else l) → ¬ n < 0 → ¬ ((u.kids.length : Nat) : Int) ≤ n → dh (2 * r.length + 1 + 1) t q n l' u done.length done.length (auL t u done l (n :: r)).1 (auL t u done l (n :: r)).2 := fun l' hl' h0 h1 => by
        have hll : l'.length ≤ t.kids.length + done.length := by rw [hl']; split <;> omega
        obtain ⟨v, hv, _⟩ | h' := aO u.kids n.toNat
        rotate_left
        · omega
        · rw [e, if_neg h0, hv]
          simp only
          rw [← hl']
          have hih := ih (done ++ [n]) v
          rw [List.length_append, List.length_singleton] at hih
          refine kv _ _ _ _ _ _ _ _ _ _ ⟨fun h20 => ⟨fun hn1 => ⟨by omega, by simp; omega, n.toNat, by omega, v, hv, by omega, ?_⟩, fun hn1 => ⟨n.toNat, by omega, v, hv, by omega, ?_⟩⟩, fun h20 => ⟨n.toNat, by omega, v, hv, by omega, ?_⟩⟩
          · rw [if_pos ⟨h20, hn1⟩, htk]
            exact hih (l' ++ [⟨u.text, done⟩]) (by rw [hqd]; simp) (by simp; omega)
          · rw [if_neg (fun h => hn1 h.2), List.append_nil]
            exact hih l' (by rw [hqd]; simp) (by omega)
          · rw [if_neg (fun h => h20 h.1), List.append_nil]
            exact hih l' (by rw [hqd]; simp) (by omega)
      refine gX _ _ _ _ _ _ _ _ ⟨fun _ => ⟨n, hn, fun h0 => ?_, fun h0 => ⟨fun h1 => ?_, fun h1 => ⟨fun hd => ⟨fun hb => ⟨_, mJ t h2 (by omega), ?_⟩, fun hb => ?_⟩, fun hd => ?_⟩⟩⟩, fun h => by omega⟩
      · rw [e, if_pos h0]; exact ⟨rfl, rfl⟩
      · rw [e, if_neg h0, List.getElem?_eq_none (by omega)]; exact ⟨rfl, rfl⟩
      · have hdn : done = [] := List.length_eq_zero_iff.1 (by omega)
        exact step _ (by rw [if_pos ⟨hdn, hb⟩]) h0 h1
      · exact step _ (by rw [if_neg (fun h => hb h.2)]) h0 h1
      · exact step _ (by rw [if_neg (fun h => hd (by rw [h.1]; rfl))]) h0 h1
  exact lg (2 * q.length + 1) _ _ _ _ (loop q [] t [] rfl (by simp))
theorem sD (stk : List GScopeBinder) (w : List UInt8) (hs : stk.length ≤ 1000000000) (hp : ∀ b ∈ stk, b.path.length ≤ 1000000000) : eM stk w (cd stk.reverse w).1 (cd stk.reverse w).2 := by
  have loop : ∀ n, n ≤ stk.length → db (n + 1) stk w ((n : Int) - 1) (cd (stk.take n).reverse w).1 (cd (stk.take n).reverse w).2 := fun n => by
    induction n with
    | zero => intro _; exact fN 0 _ _ _ _ _ ⟨fun h => by omega, fun _ => ⟨rfl, rfl⟩⟩
    | succ n ih =>
      intro hn
      obtain ⟨x, hx, _⟩ | h' := aO stk n
      · rw [mR hx, cd]
        refine fN (n + 1) _ _ _ _ _ ⟨fun _ => ⟨n, by omega, x, hx, fun h => ⟨n, by omega, x, hx, _, oC _ (hp x (List.mem_of_getElem? hx)), by rw [if_pos h], by rw [if_pos h]⟩, fun h => ⟨by omega, ?_⟩⟩, fun h => by omega⟩
        rw [if_neg h, show ((n + 1 : Nat) : Int) - 1 - 1 = (n : Int) - 1 by omega]
        exact ih (by omega)
      · omega
  have := loop stk.length (Nat.le_refl _)
  rw [List.take_length] at this
  exact jR (stk.length + 1) _ _ _ _ this
theorem mm (t : Tree) (q : List Int) (w : List UInt8) (hf : br t = true) (ht : tbulk t ≤ 100000000) (hq : q.length ≤ 100000000) (hl : (auL t t [] [] q).1.length ≤ 1000000000) (hp : ∀ b ∈ (auL t t [] [] q).1, b.path.length ≤ 1000000000) : dF t q w (cd (auL t t [] [] q).1.reverse w).1 (cd (auL t t [] [] q).1.reverse w).2 := by
  have := dp t
  exact hW 0 _ _ _ _ _ ⟨_, lq t (by omega), fun h => (by rw [hf] at h; cases h), fun _ => ⟨_, _, na t q (eu hf) (by omega) hq, _, _, sD _ w hl hp, rfl, rfl⟩⟩
end Go.Proofs.Yteglbnopdedadaa
namespace Go.Proofs.Yteglbnopdedadaa
open Go.RowKit Lx Sx
set_option maxRecDepth 100000
abbrev Nm := List UInt8
theorem lf : ∀ x : Nm, Op.bytesLess x x = false
  | [] => by simp [Op.bytesLess]
  | a :: x => by simp [Op.bytesLess, lf x]
theorem jo : ∀ {x y z : Nm}, Op.bytesLess x y = true → Op.bytesLess y z = true → Op.bytesLess x z = true
  | x, y, [], _, h => by cases y <;> simp [Op.bytesLess] at h
  | x, [], c :: z, h, _ => by cases x <;> simp [Op.bytesLess] at h
  | [], b :: y, c :: z, _, _ => by simp [Op.bytesLess]
  | a :: x, b :: y, c :: z, h, k => by
    simp only [Op.bytesLess, Bool.or_eq_true, Bool.and_eq_true, decide_eq_true_eq, beq_iff_eq] at h k ⊢
    rcases h with h | ⟨h1, h2⟩
    · rcases k with k | ⟨k1, _⟩
      · exact .inl (UInt8.lt_trans h k)
      · subst k1; exact .inl h
    · subst h1
      rcases k with k | ⟨k1, k2⟩
      · exact .inl k
      · exact .inr ⟨k1, jo h2 k2⟩
theorem qc : ∀ {x y : Nm}, Op.bytesLess x y = false → Op.bytesLess y x = false → x = y
  | [], [], _, _ => rfl
  | [], b :: y, h, _ => by simp [Op.bytesLess] at h
  | a :: x, [], _, h => by simp [Op.bytesLess] at h
  | a :: x, b :: y, h, k => by
    simp only [Op.bytesLess, Bool.or_eq_false_iff, Bool.and_eq_false_imp, decide_eq_false_iff_not, beq_iff_eq] at h k
    have e : a = b := UInt8.le_antisymm (UInt8.not_lt.1 k.1) (UInt8.not_lt.1 h.1)
    subst e
    rw [qc (h.2 rfl) (k.2 rfl)]
def asc : List Nm → Prop
  | [] => True
  | x :: r => (∀ y ∈ r, Op.bytesLess x y = true) ∧ asc r
def c6 (w : Nm) : List Nm → List Nm
  | [] => [w]
  | x :: r => if Op.bytesLess x w = true then x :: c6 w r else if x = w then x :: r else w :: x :: r
def bh (w : Nm) : List Nm → Nat
  | [] => 0
  | x :: r => if Op.bytesLess x w = true then bh w r + 1 else 0
theorem j7 (w : Nm) : ∀ l, bh w l ≤ l.length
  | [] => Nat.le_refl _
  | x :: r => by have := j7 w r; simp only [bh]; split <;> simp <;> omega
theorem iQ {w : Nm} : ∀ {l : List Nm} {i : Nat} {x : Nm}, asc l → l[i]? = some x → (Op.bytesLess x w = true ↔ i < bh w l)
  | [], i, x, _, h => by simp at h
  | y :: r, i, x, ha, h => by
    simp only [bh]
    by_cases hy : Op.bytesLess y w = true
    · rw [if_pos hy]
      cases i with
      | zero => simp only [List.getElem?_cons_zero, Option.some.injEq] at h; subst h; simp [hy]
      | succ i => rw [iQ (i := i) ha.2 (by simpa using h)]; omega
    · rw [if_neg hy]
      refine ⟨fun hx => absurd ?_ hy, fun h => by omega⟩
      cases i with
      | zero => simp only [List.getElem?_cons_zero, Option.some.injEq] at h; subst h; exact hx
      | succ i => exact jo (ha.1 x (List.mem_of_getElem? (i := i) (by simpa using h))) hx
theorem gG (w : Nm) : ∀ l, c6 w l = if l[bh w l]? = some w then l else l.take (bh w l) ++ w :: l.drop (bh w l)
  | [] => by simp [c6, bh]
  | x :: r => by
    by_cases hx : Op.bytesLess x w = true
    · have e : bh w (x :: r) = bh w r + 1 := if_pos hx
      rw [show c6 w (x :: r) = x :: c6 w r from if_pos hx, gG w r]
      simp only [e, List.getElem?_cons_succ, List.take_succ_cons, List.drop_succ_cons]
      split <;> rfl
    · have e : bh w (x :: r) = 0 := if_neg hx
      rw [show c6 w (x :: r) = if x = w then x :: r else w :: x :: r from if_neg hx]
      simp only [e]
      simp
theorem kq (w : Nm) : ∀ l y, y ∈ c6 w l ↔ y = w ∨ y ∈ l
  | [], y => by simp [c6]
  | x :: r, y => by
    simp only [c6]
    split
    · simp only [List.mem_cons, kq w r]
      constructor
      · rintro (h | h | h)
        · exact .inr (.inl h)
        · exact .inl h
        · exact .inr (.inr h)
      · rintro (h | h | h)
        · exact .inr (.inl h)
        · exact .inl h
        · exact .inr (.inr h)
    · split
      · rename_i h; subst h; simp
      · simp
theorem je (w : Nm) : ∀ l, asc l → asc (c6 w l)
  | [], _ => ⟨fun y hy => by simp at hy, trivial⟩
  | x :: r, h => by
    simp only [c6]
    split
    · rename_i hx
      refine ⟨fun y hy => ?_, je w r h.2⟩
      rcases (kq w r y).1 hy with rfl | hy
      · exact hx
      · exact h.1 y hy
    · rename_i hx
      split
      · exact h
      · rename_i hne
        have hwx : Op.bytesLess w x = true := by
          cases hb : Op.bytesLess w x
          · exact absurd (qc (by simpa using hx) hb) hne
          · rfl
        refine ⟨fun y hy => ?_, h⟩
        rcases List.mem_cons.1 hy with rfl | hy
        · exact hwx
        · exact jo hwx (h.1 y hy)
theorem oD : ∀ {a b : List Nm}, asc a → asc b → (∀ y, y ∈ a ↔ y ∈ b) → a = b
  | [], [], _, _, _ => rfl
  | [], y :: b, _, _, h => by have := (h y).2 (by simp); simp at this
  | x :: a, [], _, _, h => by have := (h x).1 (by simp); simp at this
  | x :: a, y :: b, ha, hb, h => by
    have e : x = y := by
      rcases List.mem_cons.1 ((h x).1 (by simp)) with h1 | h1
      · exact h1
      · rcases List.mem_cons.1 ((h y).2 (by simp)) with h2 | h2
        · exact h2.symm
        · have := jo (ha.1 y h2) (hb.1 x h1); rw [lf] at this; cases this
    subst e
    rw [oD ha.2 hb.2 fun y => ?_]
    constructor
    · intro hy
      rcases List.mem_cons.1 ((h y).1 (List.mem_cons_of_mem _ hy)) with rfl | h1
      · have := ha.1 _ hy; rw [lf] at this; cases this
      · exact h1
    · intro hy
      rcases List.mem_cons.1 ((h y).2 (List.mem_cons_of_mem _ hy)) with rfl | h1
      · have := hb.1 _ hy; rw [lf] at this; cases this
      · exact h1
def e7 (l : List Nm) (ns : List Nm) : List Nm := ns.foldl (fun l w => c6 w l) l
theorem kD : ∀ (ns l : List Nm), asc l → asc (e7 l ns)
  | [], l, h => h
  | w :: r, l, h => kD r (c6 w l) (je w l h)
theorem kL : ∀ (ns l : List Nm) y, y ∈ e7 l ns ↔ y ∈ l ∨ y ∈ ns
  | [], l, y => by simp [e7]
  | w :: r, l, y => by
    have := kL r (c6 w l) y
    simp only [e7, List.foldl_cons] at this ⊢
    rw [this, kq, List.mem_cons]
    constructor
    · rintro ((h | h) | h)
      · exact .inr (.inl h)
      · exact .inl h
      · exact .inr (.inr h)
    · rintro (h | h | h)
      · exact .inl (.inr h)
      · exact .inl (.inl h)
      · exact .inr h
theorem kG (w : Nm) : ∀ l, (c6 w l).length ≤ l.length + 1
  | [] => Nat.le_refl _
  | x :: r => by have := kG w r; simp only [c6]; split <;> (try split) <;> simp <;> omega
theorem r6 (ns : List Nm) : e7 [] ns.reverse = e7 [] ns := oD (kD _ _ trivial) (kD _ _ trivial) fun y => by rw [kL, kL, List.mem_reverse]
def typy (v : Tree) : Prop := shapeK v = true ∧ (eD v.kind = true ∨ v.kind = 4)
theorem sd {v w : Tree} {j : Nat} (h : typy v) (hj : v.kids[j]? = some w) : typy w := by
  obtain ⟨hs, hk⟩ := h
  rw [ei] at hs
  simp only [Bool.and_eq_true, decide_eq_true_eq] at hs
  have hk' : (5 ≤ v.kind ∧ v.kind ≤ 9) ∨ v.kind = 4 := by
    rcases hk with h | h
    · exact .inl (by simpa [eD] using h)
    · exact .inr h
  obtain ⟨h1, h2⟩ := eQ hs.2 hj
  have hlen := (List.getElem?_eq_some_iff.1 hj).1
  refine ⟨h2, .inl ?_⟩
  have hl := hs.1.1
  by_cases h4 : v.kind = 4
  · rw [h4] at h1; simpa [eW] using h1
  · by_cases h8 : v.kind = 8
    · rw [h8] at h1; simpa [eW] using h1
    · exfalso
      have h5 : v.kind = 5 ∨ v.kind = 6 ∨ v.kind = 7 ∨ v.kind = 9 := by omega
      have : iD v.kind v.kids.length = f0 v.kids.length 0 1 0 0 := by
        rcases h5 with e | e | e | e <;> rw [e] <;> rfl
      have h6 : f0 v.kids.length 0 1 0 0 = -1 := by
        unfold f0
        rw [if_pos ⟨by omega, by omega⟩]
      omega
theorem tc {v : Tree} (h : typy v) : v.kind ≠ 20 := by
  rcases h.2 with h | h
  · have : 5 ≤ v.kind ∧ v.kind ≤ 9 := by simpa [eD] using h
    omega
  · omega
theorem oM {t : Tree} : ∀ (r : List Int) (v : Tree) (done : List Int), typy v → done ≠ [] → (auL t v done [] r).1 = []
  | [], v, done, _, _ => rfl
  | n :: r, v, done, hv, hd => by
    unfold auL
    split
    · rfl
    · split
      · rfl
      · rename_i w hw
        rw [if_neg (fun h => hd h.1), if_neg (fun h => tc hv h.1), List.append_nil]
        exact oM r w _ (sd hv hw) (by simp)
theorem oB {t : Tree} {b : Int} (hb : b = (t.kids.length : Int) - 1) : ∀ (r : List Int) (v : Tree) (done : List Int) (l : List GScopeBinder), atK t done = some v → (∃ q, done = b :: q) → l.reverse = (arP t done).map (aL t) → (auL t v done l r).1.reverse = if (atK v r).isSome = true then (arP t (done ++ r)).map (aL t) else []
  | [], v, done, l, hv, hd, hl => by simp [auL, atK, hl]
  | n :: r, v, done, l, hv, hd, hl => by
    unfold auL atK
    split
    · simp
    · rename_i hn
      split
      · rename_i hw; rw [hw]; simp
      · rename_i w hw
        rw [hw]
        simp only
        obtain ⟨q, hq⟩ := hd
        have hne : done ≠ [] := by rw [hq]; simp
        have hnn : n = ((n.toNat : Nat) : Int) := by omega
        have hat : atK t (done ++ [n]) = some w := by
          rw [j9, hv]
          have := ga hw
          rw [← hnn] at this
          exact this
        rw [if_neg (fun h => hne h.1)]
        have := oB hb r w (done ++ [n]) (l ++ if v.kind = 20 ∧ n = 1 then [⟨v.text, done⟩] else []) hat ⟨q ++ [n], by rw [hq]; rfl⟩ (by
          have hs := m8 (j := n.toNat) hq hb hv (by rw [← hnn, hat]; rfl)
          rw [← hnn] at hs
          rw [hs, List.map_append, List.reverse_append, hl]
          by_cases h : v.kind = 20 ∧ n = 1
          · rw [if_pos h, if_pos ⟨h.1, by omega⟩]
            have : aL t done = ⟨v.text, done⟩ := by unfold aL atD; rw [hv]; rfl
            simp [this]
          · rw [if_neg h, if_neg (fun h' => h ⟨h'.1, by omega⟩)]; rfl)
        rw [this, List.append_assoc]; rfl
theorem tW {t u : Tree} (hf : br t = true) (hat : atK t [(t.kids.length : Int) - 1] = some u) : (eI t).reverse = (arP t [(t.kids.length : Int) - 1]).map (aL t) := by
  have h2 := eu hf
  rw [eI, List.reverse_reverse]
  have e : arP t [(t.kids.length : Int) - 1] = cf t [(t.kids.length : Int) - 1] 1 ++ fu (t.kids.length - 2) := by
    unfold arP; rw [hat]; simp
  simp only [br, Bool.and_eq_true, beq_iff_eq] at hf
  have e2 : cf t [(t.kids.length : Int) - 1] 1 = [] := by
    simp only [cf, List.append_nil]
    rw [if_neg]
    intro h
    have := h.1
    simp only [List.take_zero, atD, atK, Option.getD_some] at this
    omega
  rw [e, e2, List.nil_append, fu, List.map_map]
  have key : ∀ n, n ≤ t.kids.length → eJ 0 (t.kids.take n) = (List.range n).map (aL t ∘ fun (i : Nat) => [(i : Int)]) := fun n => by
    induction n with
    | zero => intro _; simp [eJ]
    | succ n ih =>
      intro hn
      obtain ⟨x, hx, _⟩ | h' := aO t.kids n
      · rw [List.take_add_one, hx, Option.toList_some, ib, ih (by omega), List.range_succ, List.map_append, List.length_take]
        rw [show min n t.kids.length = n by omega, Nat.zero_add]
        congr 1
        simp only [List.map_cons, List.map_nil, Function.comp]
        have : atK t [(n : Int)] = some x := ga hx
        simp [aL, atD, this]
      · omega
  exact key _ (by omega)
theorem mz {t : Tree} (hf : br t = true) (q : List Int) : (auL t t [] [] q).1.reverse = (arP t q).map (aL t) := by
  have hf' := hf
  simp only [br, Bool.and_eq_true, beq_iff_eq] at hf'
  have h2 := eu hf
  cases q with
  | nil => simp [auL, arP, atK]
  | cons n r =>
    have e0 : arP t (n :: r) = if (atK t (n :: r)).isSome = false then [] else if n = (t.kids.length : Int) - 1 then cf t (n :: r) (n :: r).length ++ fu (t.kids.length - 2) else [] := rfl
    have e1 : atK t (n :: r) = if n < 0 then none else match t.kids[n.toNat]? with
      | none => none
      | some u => atK u r := rfl
    unfold auL
    split
    · rename_i hn; rw [e0, e1, if_pos hn]; rfl
    · rename_i hn
      split
      · rename_i hw; rw [e0, e1, if_neg hn, hw]; rfl
      · rename_i w hw
        have hnn : n = ((n.toNat : Nat) : Int) := by omega
        have hat : atK t [n] = some w := by
          have := ga hw
          rw [← hnn] at this
          exact this
        by_cases hb : n = (t.kids.length : Int) - 1
        · rw [if_pos ⟨rfl, hb⟩, if_neg (fun h => by omega), List.append_nil]
          have := oB (t := t) rfl r w [n] (eI t) hat ⟨[], by rw [hb]⟩ (by rw [hb] at hat ⊢; exact tW hf hat)
          rw [List.nil_append, this, List.singleton_append]
          split
          · rfl
          · rename_i hs
            rw [e0, e1, if_neg hn, hw]
            simp only
            rw [if_pos (by simpa using hs)]; rfl
        · rw [if_neg (fun h => hb h.2), if_neg (fun h => by omega), List.append_nil]
          have hty : typy w := by
            have hs := hf'.2
            rw [ei, hf'.1] at hs
            simp only [Bool.and_eq_true] at hs
            obtain ⟨g1, g2⟩ := eQ hs.2 hw
            have hlen := (List.getElem?_eq_some_iff.1 hw).1
            refine ⟨g2, ?_⟩
            rw [Nat.zero_add] at g1
            simp only [eW] at g1
            rw [if_neg (by omega), if_pos trivial, if_neg (by omega)] at g1
            split at g1
            · exact .inl g1
            · exact .inr (by simpa using g1)
          have := oM (t := t) r w ([] ++ [n]) hty (by simp)
          rw [this, e0, if_neg hb]
          split <;> rfl
theorem rj {t : Tree} (hf : br t = true) (q : List Int) : e7 [] ((auL t t [] [] q).1.map (·.name)) = e7 [] (((arP t q).map (aL t)).map (·.name)) := by
  rw [← mz hf q, List.map_reverse, r6]
end Go.Proofs.Yteglbnopdedadaa
namespace Go.Proofs.Yteglbnopdedadaa
open Go.RowKit Lx Sx
section
variable {P : Program} {T : Tab} {K : Ctx} {Q : Exit → Act → World → Prop} {s : List EI} {n : Nat} {F : Fm} {H : Hp} {all : Array Oper} {rest : List Oper} {o : Oper}
theorem uX {f : Nat → Option Value} {a : Act} {w : World} {ty src dst : TypeId} {x : Operand} {k k' k1 : IntKind} {m : Int} (h : Fr a n f) (hs : P.underlying src = some (.int k1)) (ht : P.underlying dst = some (.int k)) (hx : ao f x = some (.int k' m)) (hw : k.wrap m = m) : Runs P a ty (.convert src dst x) w (.value (.int k m)) w := fun _ _ _ _ => by
  simp only [execOp, h.eval hx]
  simp [go_sem, convert, run_underlying hs, run_underlying ht, Conv.intToInt, hw]
theorem sV {f : Nat → Option Value} {a : Act} {w : World} {ty t u : TypeId} {x y : Operand} {k k' : IntKind} {m : Int} (h : Fr a n f) (hx : ao f x = some (.int k m)) (hy : ao f y = some (.int k' 1))   : Runs P a ty (.binOp .shr t x y u) w (.value (.int k (m.fdiv 2))) w := fun _ _ _ _ => by
  simp only [execOp, h.eval hx, h.eval hy]
  cases k <;> simp [go_sem, eqGuard, Op.shift]
theorem u1 {m : Int} (h0 : 0 ≤ m) (h1 : m ≤ 9223372036854775807) : IntKind.u64.wrap m = m := IntWalk.u64_in m (by omega)
theorem uP {m : Int} (h0 : 0 ≤ m) (h1 : m ≤ 9223372036854775807) : IntKind.i64.wrap m = m := IntWalk.i64_in m (by omega)
theorem yCv {src dst ty : TypeId} {x : Operand} {k k' k1 : IntKind} {m : Int} (hs : P.underlying src = some (.int k1)) (ht : P.underlying dst = some (.int k)) (hx : au F x = some (.int k' m)) (hw : k.wrap m = m) : ∀ S w ρ a, HRel S w ρ H.get → FRel S w ρ a n F → Yld P S w ρ a ty (.convert src dst x) (.int k m) := fun S w ρ a hr hF => ⟨_, by simp only [VRel], fun w' _ => uX hF.fr hs ht (aC (ae hF hx)) hw⟩
theorem vt {t u ty : TypeId} {x y : Operand} {k k' : IntKind} {m : Nat} (hx : au F x = some (.int k (m : Int))) (hy : au F y = some (.int k' 1)) : ∀ S w ρ a, HRel S w ρ H.get → FRel S w ρ a n F → Yld P S w ρ a ty (.binOp .shr t x y u) (.int k ((m / 2 : Nat) : Int)) := fun S w ρ a hr hF => by
  have e : ((m / 2 : Nat) : Int) = (m : Int).fdiv 2 := by rw [Int.fdiv_eq_ediv_of_nonneg _ (by decide)]; omega
  rw [e]
  exact ⟨_, by simp only [VRel], fun w' _ => sV hF.fr (aC (ae hF hx)) (aC (ae hF hy))⟩
end
end Go.Proofs.Yteglbnopdedadaa
namespace Go.Proofs.Yteglbnopdedadaa
open Go.RowKit Lx Sx
set_option maxRecDepth 100000
set_option maxHeartbeats 4000000
def ii (p0 : (List (List UInt8))) (p1 : Int) (p2 : (List (List UInt8))) (r0 : (List (List UInt8))) : Prop := dU [1] Try.prog 28 [.sl 0, .int .i64 p1, .sl 1] ⟨2, [(1, .row 9 1 (List.map V.str p2)), (0, .row 9 1 (List.map V.str p0))]⟩ (fun u G => u = .sl 2 ∧ G = ⟨3, [(2, .row 9 1 (List.map V.str r0)), (1, .row 9 1 (List.map V.str p2))]⟩)
def kM (p0 : (List UInt8)) (r0 : Tree) (r1 : Int) (r2 : Int) : Prop := aG Try.prog 17 [.str p0] (.tup [.agg (av r0), .int .i64 r1, .int .i64 r2])
def fP (p0 : (List UInt8)) (r0 : Bool) : Prop := aG Try.prog 38 [.str p0] (.bool r0)
def iA (p0 : (List UInt8)) (r0 : Bool) : Prop := aG Try.prog 56 [.str p0] (.bool r0)
def ji (p0 : (List UInt8)) (p1 : (List UInt8)) (r0 : Bool) : Prop := aG Try.prog 37 [.str p0, .str p1] (.bool r0)
def dE (p0 : (List (List UInt8))) (p1 : (List UInt8)) (r0 : Int) (r1 : Bool) : Prop := dU [0] Try.prog 27 [.sl 0, .str p1] ⟨1, [(0, .row 9 1 (List.map V.str p0))]⟩ (fun u G => u = .tup [.int .i64 r0, .bool r1] ∧ G = ⟨1, [(0, .row 9 1 (List.map V.str p0))]⟩)
def d1 (p0 : Tree) (p1 : (List Int)) (r0 : (List (List UInt8))) : Prop := dU [] Try.prog 14 [.agg (av p0), .row 1 (List.map (V.int .i64) p1)] ⟨0, []⟩ (fun u G => u = .sl 0 ∧ G = ⟨1, [(0, .row 9 1 (List.map V.str r0))]⟩)
def dC (r0 : Bool) : Prop := aG Try.prog 6 [] (.bool r0)
theorem lp (m : Nat) (p0 : (List UInt8)) (r0 : Bool) (h : (p0 != p0) = r0) : fP p0 r0 := by
 refine ⟨rfl, rfl, ?_⟩
 refine aj 6 [] Try.func38 rfl rfl rfl (aA rfl) fun K hK => ?_
 refine gR 14 rfl ?_
 subst h
 refine ab (F' := (mkF 6 0 [(2, .bool (p0 != p0))])) (H' := ⟨0, []⟩) [] [] rfl hK ⟨⟨_, rfl, .rfl⟩, trivial⟩ trivial rfl ?_
 exact ac aa (rs := [.tmp 2]) rfl rfl rfl
theorem nU (m : Nat) (p0 : (List UInt8)) (r0 : Bool) (h : (p0 != p0) = r0) : iA p0 r0 := by
 refine ⟨rfl, rfl, ?_⟩
 refine aj 6 [] Try.func56 rfl rfl rfl (aA rfl) fun K hK => ?_
 refine gR 14 rfl ?_
 subst h
 refine ab (F' := (mkF 6 0 [(2, .bool (p0 != p0))])) (H' := ⟨0, []⟩) [] [] rfl hK ⟨⟨_, rfl, .rfl⟩, trivial⟩ trivial rfl ?_
 exact ac aa (rs := [.tmp 2]) rfl rfl rfl
theorem oe (m : Nat) (p0 : (List UInt8)) (p1 : (List UInt8)) (r0 : Bool) (h : ∃ (b0_1 : Bool), iA p0 b0_1 ∧ ((b0_1 = true) → ∃ (b0_2 : Bool), iA p1 b0_2 ∧ ((b0_2 = false) → true = r0) ∧ ((b0_2 = true) → Op.bytesLess p0 p1 = r0)) ∧ ((b0_1 = false) → Op.bytesLess p0 p1 = r0)) : ji p0 p1 r0 := by
 refine ⟨rfl, rfl, ?_⟩
 refine aj 17 [] Try.func37 rfl rfl rfl (aA rfl) fun K hK => ?_
 refine gR 8 rfl ?_
 obtain ⟨b0_1, hs3, h⟩ := h
 refine gC0 hs3 (by kernel_rfl) rfl rfl .rfl rfl ?_
 refine gR 1 rfl ?_
 refine gB 7 rfl rfl rfl (fun hd => ?_) (fun hd => ?_)
 refine gT 6 rfl hd rfl ?_
 replace h := h.1 hd
 refine gR 1 rfl ?_
 obtain ⟨b0_2, hs4, h⟩ := h
 refine gC0 hs4 (by kernel_rfl) rfl rfl .rfl rfl ?_
 refine gR 3 rfl ?_
 refine gB 12 rfl rfl rfl (fun hd => ?_) (fun hd => ?_)
 refine gT 11 rfl hd rfl ?_
 replace hd := (cm hd)
 replace h := h.1 hd
 refine gR 8 rfl ?_
 subst h
 refine ab (F' := (mkF 17 0 [(4, .bool true)])) (H' := ⟨0, []⟩) [] [] rfl hK ⟨⟨_, rfl, .rfl⟩, trivial⟩ trivial rfl ?_
 exact ac aa (rs := [.tmp 4]) rfl rfl rfl
 refine gF 11 rfl hd rfl ?_
 replace hd := (ck hd)
 replace h := h.2 hd
 refine gR 2 rfl ?_
 refine gY (yLt rfl rfl) rfl rfl ?_
 refine gR 5 rfl ?_
 subst h
 refine ab (F' := (mkF 17 0 [(4, .bool (Op.bytesLess p0 p1))])) (H' := ⟨0, []⟩) [] [] rfl hK ⟨⟨_, rfl, .rfl⟩, trivial⟩ trivial rfl ?_
 exact ac aa (rs := [.tmp 4]) rfl rfl rfl
 refine gF 6 rfl hd rfl ?_
 replace h := h.2 hd
 refine gR 7 rfl ?_
 refine gY (yLt rfl rfl) rfl rfl ?_
 refine gR 5 rfl ?_
 subst h
 refine ab (F' := (mkF 17 0 [(4, .bool (Op.bytesLess p0 p1))])) (H' := ⟨0, []⟩) [] [] rfl hK ⟨⟨_, rfl, .rfl⟩, trivial⟩ trivial rfl ?_
 exact ac aa (rs := [.tmp 4]) rfl rfl rfl
def bd (m : Nat) (p0 : (List (List UInt8))) (p1 : (List UInt8)) (i1v1 : Nat) (i1v2 : Nat) (r0 : Int) (r1 : Bool) : Prop := ∀ (K : Ctx) (j1 : Nat), aQ K [0] → m ≤ j1 → Go Try.prog K (bodyPost Try.prog Try.f27 (SP K (fun u G => u = .tup [.int .i64 r0, .bool r1] ∧ G = ⟨1, [(0, .row 9 1 (List.map V.str p0))]⟩))) (.code (cL (cK (cA (cB (cB (cB (ah Try.f27)))))))) [.loop (cL (cK (cA (cB (cB (cB (ah Try.f27))))))) j1, .blk 0, .seq (cB (cB (cB (cB (ah Try.f27)))))] 54 (mkF 54 0 [(0, .sl 0), (1, .str p1), (6, .int .i64 ((p0.length : Nat) : Int)), (7, .int .i64 ((i1v1 : Nat) : Int)), (8, .int .i64 ((i1v2 : Nat) : Int))]) ⟨1, [(0, .row 9 1 (List.map V.str p0))]⟩
theorem iz (m : Nat) (p0 : (List (List UInt8))) (p1 : (List UInt8)) (r0 : Int) (r1 : Bool) (h : bd m p0 p1 0 p0.length r0 r1) : dE p0 p1 r0 r1 := by
 refine aj 54 [0] Try.func27 rfl rfl rfl (aA rfl) fun K hK => ?_
 refine gR 10 rfl ?_
 refine gV 11 (.int .i64 ((p0.length : Nat) : Int)) rfl (aR (an V.str _)) rfl ?_
 refine gLO 0 rfl (an V.str _) fun hl9 => ?_
 refine gR 12 rfl ?_
 refine go_loop m ?_
 exact gJ (h K _ hK (by omega)) [0] [0] rfl hK ⟨⟨_, rfl, .rfl⟩, ⟨_, rfl, .rfl⟩, ⟨_, rfl, .rfl⟩, ⟨_, rfl, .rfl⟩, ⟨_, rfl, .rfl⟩, trivial⟩ ⟨⟨_, rfl, ⟨rfl, rfl, (ak _ V.str (fun _ => rfl) p0).symm⟩⟩, trivial⟩ rfl
theorem eE (m : Nat) (p0 : (List (List UInt8))) (p1 : (List UInt8)) (i1v1 : Nat) (i1v2 : Nat) (r0 : Int) (r1 : Bool) (h : ((i1v1 < i1v2) → i1v1 + i1v2 ≤ 9223372036854775807 ∧ i1v1 + i1v2 ≤ 9223372036854775807 ∧ (i1v1 + i1v2) / 2 ≤ 9223372036854775807 ∧ ∃ (s1_1 : (List UInt8)), p0[(i1v1 + i1v2) / 2]? = some s1_1 ∧ ∃ (b1_2 : Bool), ji s1_1 p1 b1_2 ∧ ((b1_2 = true) → (i1v1 + i1v2) / 2 + 1 ≤ 9223372036854775807 ∧ bd m p0 p1 ((i1v1 + i1v2) / 2 + 1) i1v2 r0 r1) ∧ ((b1_2 = false) → bd m p0 p1 i1v1 ((i1v1 + i1v2) / 2) r0 r1)) ∧ ((¬ i1v1 < i1v2) → ((i1v1 < p0.length) → ∃ (s1_3 : (List UInt8)), p0[i1v1]? = some s1_3 ∧ ((s1_3 = p1) → ((i1v1 : Nat) : Int) = r0 ∧ true = r1) ∧ ((s1_3 ≠ p1) → ∃ (s1_4 : (List UInt8)), p0[i1v1]? = some s1_4 ∧ ∃ (b1_5 : Bool), fP s1_4 b1_5 ∧ ((b1_5 = true) → ∃ (b1_6 : Bool), fP p1 b1_6 ∧ ((i1v1 : Nat) : Int) = r0 ∧ b1_6 = r1) ∧ ((b1_5 = false) → ((i1v1 : Nat) : Int) = r0 ∧ false = r1))) ∧ ((¬ i1v1 < p0.length) → ((i1v1 : Nat) : Int) = r0 ∧ false = r1))) : bd (m + 1) p0 p1 i1v1 i1v2 r0 r1 := by
 intro K j1 hK hj1
 obtain ⟨j1, rfl⟩ : ∃ j, j1 = j + 1 := ⟨j1 - 1, by omega⟩
 refine gR 8 rfl ?_
 refine gB 15 rfl rfl rfl (fun hd => ?_) (fun hd => ?_)
 replace hd := (dW hd)
 replace h := h.1 hd
 refine gR 8 rfl ?_
 obtain ⟨hb, h⟩ := h
 refine gR 1 rfl ?_
 refine gV 18 (.int .i64 ((i1v1 + i1v2 : Nat) : Int)) rfl (ar (by omega) (by omega)) rfl ?_
 obtain ⟨hb, h⟩ := h
 refine gY (yCv Try.underlying3 Try.underlying77 rfl (u1 (by omega) (by omega))) rfl rfl ?_
 refine gY (vt rfl rfl) rfl rfl ?_
 obtain ⟨hb, h⟩ := h
 refine gY (yCv Try.underlying77 Try.underlying3 rfl (uP (by omega) (by omega))) rfl rfl ?_
 refine gR 7 rfl ?_
 obtain ⟨s1_1, hxs1_1, h⟩ := h
 refine gY (yIO aa rfl rfl rfl rfl (by have := (mapget (f := V.str) hxs1_1); exact (List.getElem?_eq_some_iff.1 this).1)) rfl rfl ?_
 refine gDo (.nop) (dLe aa rfl rfl rfl (mapget (f := V.str) hxs1_1) rfl) trivial rfl rfl rfl ?_
 refine gR 1 rfl ?_
 obtain ⟨b1_2, hs10, h⟩ := h
 refine gC0 hs10 (by kernel_rfl) rfl rfl .rfl rfl ?_
 refine gR 2 rfl ?_
 refine gB 27 rfl rfl rfl (fun hd => ?_) (fun hd => ?_)
 replace h := h.1 hd
 refine gR 3 rfl ?_
 obtain ⟨hb, h⟩ := h
 refine gR 1 rfl ?_
 refine gV 29 (.int .i64 (((i1v1 + i1v2) / 2 + 1 : Nat) : Int)) rfl (ar (by omega) (by omega)) rfl ?_
 refine gR 3 rfl ?_
 refine az ?_
 exact gJ (h K _ hK (by omega)) [0] [0] rfl hK ⟨⟨_, rfl, .rfl⟩, ⟨_, rfl, .rfl⟩, ⟨_, rfl, .rfl⟩, ⟨_, rfl, .rfl⟩, ⟨_, rfl, .rfl⟩, trivial⟩ ⟨⟨_, rfl, ⟨rfl, rfl, (ak _ V.str (fun _ => rfl) p0).symm⟩⟩, trivial⟩ rfl
 replace h := h.2 hd
 refine gR 6 rfl ?_
 refine az ?_
 exact gJ (h K _ hK (by omega)) [0] [0] rfl hK ⟨⟨_, rfl, .rfl⟩, ⟨_, rfl, .rfl⟩, ⟨_, rfl, .rfl⟩, ⟨_, rfl, .rfl⟩, ⟨_, rfl, .rfl⟩, trivial⟩ ⟨⟨_, rfl, ⟨rfl, rfl, (ak _ V.str (fun _ => rfl) p0).symm⟩⟩, trivial⟩ rfl
 replace hd := (dS hd)
 replace h := h.2 hd
 refine gR 3 rfl ?_
 refine aE ?_
 refine gR 9 rfl ?_
 refine gB 35 rfl rfl rfl (fun hd => ?_) (fun hd => ?_)
 refine gT 34 rfl hd rfl ?_
 replace hd := (dW hd)
 replace h := h.1 hd
 refine gR 2 rfl ?_
 obtain ⟨s1_3, hxs1_3, h⟩ := h
 refine gY (yIO aa rfl rfl rfl rfl (by have := (mapget (f := V.str) hxs1_3); exact (List.getElem?_eq_some_iff.1 this).1)) rfl rfl ?_
 refine gDo (.nop) (dLe aa rfl rfl rfl (mapget (f := V.str) hxs1_3) rfl) trivial rfl rfl rfl ?_
 refine gR 3 rfl ?_
 refine gB 42 rfl rfl rfl (fun hd => ?_) (fun hd => ?_)
 refine gT 41 rfl hd rfl ?_
 replace hd := (eq_of_beq hd)
 replace h := h.1 hd
 refine gR 16 rfl ?_
 obtain ⟨rfl, rfl⟩ := h
 refine ab (F' := (mkF 54 0 [(4, .int .i64 ((i1v1 : Nat) : Int)), (5, .bool true)])) (H' := ⟨1, [(0, .row 9 1 (List.map V.str p0))]⟩) [0] [0] rfl hK ⟨⟨_, rfl, .rfl⟩, ⟨_, rfl, .rfl⟩, trivial⟩ ⟨⟨_, rfl, ⟨rfl, rfl, (ak _ V.str (fun _ => rfl) p0).symm⟩⟩, trivial⟩ rfl ?_
 exact cM [] aa (rs := [.tmp 4, .tmp 5]) rfl rfl ⟨rfl, rfl⟩
 refine gF 41 rfl hd rfl ?_
 replace hd := (ne_of_beq_false hd)
 replace h := h.2 hd
 refine gR 2 rfl ?_
 obtain ⟨s1_4, hxs1_4, h⟩ := h
 refine gY (yIO aa rfl rfl rfl rfl (by have := (mapget (f := V.str) hxs1_4); exact (List.getElem?_eq_some_iff.1 this).1)) rfl rfl ?_
 refine gDo (.nop) (dLe aa rfl rfl rfl (mapget (f := V.str) hxs1_4) rfl) trivial rfl rfl rfl ?_
 obtain ⟨b1_5, hs11, h⟩ := h
 refine gC0 hs11 (by kernel_rfl) rfl rfl .rfl rfl ?_
 refine gR 1 rfl ?_
 refine gB 48 rfl rfl rfl (fun hd => ?_) (fun hd => ?_)
 refine gT 47 rfl hd rfl ?_
 replace h := h.1 hd
 refine gR 1 rfl ?_
 obtain ⟨b1_6, hs12, h⟩ := h
 refine gC0 hs12 (by kernel_rfl) rfl rfl .rfl rfl ?_
 refine gR 8 rfl ?_
 obtain ⟨rfl, rfl⟩ := h
 refine ab (F' := (mkF 54 0 [(4, .int .i64 ((i1v1 : Nat) : Int)), (5, .bool b1_6)])) (H' := ⟨1, [(0, .row 9 1 (List.map V.str p0))]⟩) [0] [0] rfl hK ⟨⟨_, rfl, .rfl⟩, ⟨_, rfl, .rfl⟩, trivial⟩ ⟨⟨_, rfl, ⟨rfl, rfl, (ak _ V.str (fun _ => rfl) p0).symm⟩⟩, trivial⟩ rfl ?_
 exact cM [] aa (rs := [.tmp 4, .tmp 5]) rfl rfl ⟨rfl, rfl⟩
 refine gF 47 rfl hd rfl ?_
 replace h := h.2 hd
 refine gR 10 rfl ?_
 obtain ⟨rfl, rfl⟩ := h
 refine ab (F' := (mkF 54 0 [(4, .int .i64 ((i1v1 : Nat) : Int)), (5, .bool false)])) (H' := ⟨1, [(0, .row 9 1 (List.map V.str p0))]⟩) [0] [0] rfl hK ⟨⟨_, rfl, .rfl⟩, ⟨_, rfl, .rfl⟩, trivial⟩ ⟨⟨_, rfl, ⟨rfl, rfl, (ak _ V.str (fun _ => rfl) p0).symm⟩⟩, trivial⟩ rfl ?_
 exact cM [] aa (rs := [.tmp 4, .tmp 5]) rfl rfl ⟨rfl, rfl⟩
 refine gF 34 rfl hd rfl ?_
 replace hd := (dS hd)
 replace h := h.2 hd
 refine gR 23 rfl ?_
 obtain ⟨rfl, rfl⟩ := h
 refine ab (F' := (mkF 54 0 [(4, .int .i64 ((i1v1 : Nat) : Int)), (5, .bool false)])) (H' := ⟨1, [(0, .row 9 1 (List.map V.str p0))]⟩) [0] [0] rfl hK ⟨⟨_, rfl, .rfl⟩, ⟨_, rfl, .rfl⟩, trivial⟩ ⟨⟨_, rfl, ⟨rfl, rfl, (ak _ V.str (fun _ => rfl) p0).symm⟩⟩, trivial⟩ rfl ?_
 exact cM [] aa (rs := [.tmp 4, .tmp 5]) rfl rfl ⟨rfl, rfl⟩
def cQ (m : Nat) (r0_2 : (List GScopeBinder)) (l1v1 : (List (List UInt8))) (i1v2 : Nat) (r0 : (List (List UInt8))) : Prop := ∀ (K : Ctx) (j1 : Nat), aQ K [] → m ≤ j1 → Go Try.prog K (bodyPost Try.prog Try.f14 (SP K (fun u G => u = .sl 0 ∧ G = ⟨1, [(0, .row 9 1 (List.map V.str r0))]⟩))) (.code (cL (cK (cB (cA (cB (cB (cB (cB (ah Try.f14)))))))))) [.loop (cL (cK (cB (cA (cB (cB (cB (cB (ah Try.f14))))))))) j1, .blk 0, .seq (cB (cB (cB (cB (cB (ah Try.f14))))))] 44 (mkF 44 0 [(7, .sl 0), (21, .row 2 (List.map GScopeBinder.w r0_2)), (22, .int .i64 ((r0_2.length : Nat) : Int)), (23, .int .i64 ((i1v2 : Nat) : Int))]) ⟨1, [(0, .row 9 1 (List.map V.str l1v1))]⟩
theorem g8 (m : Nat) (p0 : Tree) (p1 : (List Int)) (r0 : (List (List UInt8))) (h : ∃ (b0_1 : Bool), cO p0 b0_1 ∧ ((b0_1 = false) → ([] : List (List UInt8)) = r0) ∧ ((b0_1 = true) → ∃ (r0_2 : (List GScopeBinder)), ∃ (b0_3 : Bool), eC p0 p1 r0_2 b0_3 ∧ cQ m r0_2 ([] : List (List UInt8)) 0 r0)) : d1 p0 p1 r0 := by
 refine aj 44 [] Try.func14 rfl rfl rfl (aA rfl) fun K hK => ?_
 refine gR 3 rfl ?_
 refine gFP 0 rfl rfl rfl rfl ?_
 refine gR 7 rfl ?_
 obtain ⟨b0_1, hs11, h⟩ := h
 refine gC0 hs11 (by kernel_rfl) rfl rfl .rfl rfl ?_
 refine gR 3 rfl ?_
 refine gB 14 rfl rfl rfl (fun hd => ?_) (fun hd => ?_)
 replace hd := (cm hd)
 replace h := h.1 hd
 refine gR 8 rfl ?_
 refine gNS 4 9 1 rfl rfl rfl rfl ?_
 subst h
 refine ab (F' := (mkF 44 0 [(4, .sl 0)])) (H' := ⟨1, [(0, .row 9 1 (List.map V.str ([] : List (List UInt8))))]⟩) [1] [] rfl hK ⟨⟨_, rfl, .rfl⟩, trivial⟩ ⟨⟨_, rfl, ⟨rfl, rfl, rfl⟩⟩, trivial⟩ rfl ?_
 exact cM [] aa (rs := [.tmp 4]) rfl rfl ⟨rfl, rfl⟩
 replace hd := (ck hd)
 replace h := h.2 hd
 refine gR 7 rfl ?_
 obtain ⟨r0_2, b0_3, hs12, h⟩ := h
 refine gC0 hs12 (by kernel_rfl) rfl rfl .rfl rfl ?_
 refine gR 17 rfl ?_
 refine gV 22 (.int .i64 ((r0_2.length : Nat) : Int)) rfl (aR (an GScopeBinder.w _)) rfl ?_
 refine gLB 21 rfl (an GScopeBinder.w _) fun hl13 => ?_
 refine gR 4 rfl ?_
 refine go_loop m ?_
 refine gNS 7 9 1 rfl rfl rfl rfl ?_
 exact gJ (h K _ hK (by omega)) [1] [] rfl hK ⟨⟨_, rfl, .rfl⟩, ⟨_, rfl, .rfl⟩, ⟨_, rfl, .rfl⟩, ⟨_, rfl, .rfl⟩, trivial⟩ ⟨⟨_, rfl, ⟨rfl, rfl, rfl⟩⟩, trivial⟩ rfl
theorem eF (m : Nat) (r0_2 : (List GScopeBinder)) (l1v1 : (List (List UInt8))) (i1v2 : Nat) (r0 : (List (List UInt8))) (h : ((i1v2 < r0_2.length) → ∃ (x1_1 : GScopeBinder), r0_2[i1v2]? = some x1_1 ∧ ∃ (n1_2 : Int), ∃ (b1_3 : Bool), dE l1v1 x1_1.name n1_2 b1_3 ∧ ((b1_3 = false) → ∃ (r1_4 : (List (List UInt8))), ii l1v1 n1_2 [x1_1.name] r1_4 ∧ i1v2 + 1 ≤ 9223372036854775807 ∧ cQ m r0_2 r1_4 (i1v2 + 1) r0) ∧ ((b1_3 = true) → i1v2 + 1 ≤ 9223372036854775807 ∧ cQ m r0_2 l1v1 (i1v2 + 1) r0)) ∧ ((¬ i1v2 < r0_2.length) → l1v1 = r0)) : cQ (m + 1) r0_2 l1v1 i1v2 r0 := by
 intro K j1 hK hj1
 obtain ⟨j1, rfl⟩ : ∃ j, j1 = j + 1 := ⟨j1 - 1, by omega⟩
 refine gR 6 rfl ?_
 refine gB 24 rfl rfl rfl (fun hd => ?_) (fun hd => ?_)
 replace hd := (dW hd)
 replace h := h.1 hd
 refine gR 7 rfl ?_
 obtain ⟨x1_1, hxx1_1, h⟩ := h
 refine gY (aM (mapget (f := GScopeBinder.w) hxx1_1) aa rfl rfl rfl rfl) rfl rfl ?_
 refine gR 10 rfl ?_
 obtain ⟨n1_2, b1_3, hs14, h⟩ := h
 refine gC hs14 [0] (by kernel_rfl) rfl rfl .rfl ⟨⟨_, rfl, ⟨rfl, rfl, (ak _ V.str (fun _ => rfl) l1v1).symm⟩⟩, trivial⟩ rfl ?_
 rintro _ _ ⟨rfl, rfl⟩
 refine gHR 0 (List.map V.str l1v1) rfl (ak _ V.str (fun _ => rfl) l1v1) rfl ?_
 refine gR 13 rfl ?_
 refine gB 35 rfl rfl rfl (fun hd => ?_) (fun hd => ?_)
 replace hd := (cm hd)
 replace h := h.1 hd
 refine gR 7 rfl ?_
 obtain ⟨r1_4, hs15, h⟩ := h
 refine gC hs15 [0, 3] (by kernel_rfl) rfl rfl .rfl ⟨⟨_, rfl, ⟨rfl, rfl, rfl⟩⟩, ⟨⟨_, rfl, ⟨rfl, rfl, (ak _ V.str (fun _ => rfl) l1v1).symm⟩⟩, trivial⟩⟩ rfl ?_
 rintro _ _ ⟨rfl, rfl⟩
 refine gHR 6 (List.map V.str r1_4) rfl (ak _ V.str (fun _ => rfl) r1_4) rfl ?_
 refine gHR 3 (List.map V.str [x1_1.name]) rfl (ak _ V.str (fun _ => rfl) [x1_1.name]) rfl ?_
 refine gR 5 rfl ?_
 obtain ⟨hb, h⟩ := h
 refine gR 1 rfl ?_
 refine gV 42 (.int .i64 ((i1v2 + 1 : Nat) : Int)) rfl (ar (by omega) (by omega)) rfl ?_
 refine gR 2 rfl ?_
 refine az ?_
 exact gJ (h K _ hK (by omega)) [6] [] rfl hK ⟨⟨_, rfl, .rfl⟩, ⟨_, rfl, .rfl⟩, ⟨_, rfl, .rfl⟩, ⟨_, rfl, .rfl⟩, trivial⟩ ⟨⟨_, rfl, ⟨rfl, rfl, (ak _ V.str (fun _ => rfl) r1_4).symm⟩⟩, trivial⟩ rfl
 replace hd := (ck hd)
 replace h := h.2 hd
 refine gR 5 rfl ?_
 obtain ⟨hb, h⟩ := h
 refine gR 1 rfl ?_
 refine gV 42 (.int .i64 ((i1v2 + 1 : Nat) : Int)) rfl (ar (by omega) (by omega)) rfl ?_
 refine gR 2 rfl ?_
 refine az ?_
 exact gJ (h K _ hK (by omega)) [0] [] rfl hK ⟨⟨_, rfl, .rfl⟩, ⟨_, rfl, .rfl⟩, ⟨_, rfl, .rfl⟩, ⟨_, rfl, .rfl⟩, trivial⟩ ⟨⟨_, rfl, ⟨rfl, rfl, (ak _ V.str (fun _ => rfl) l1v1).symm⟩⟩, trivial⟩ rfl
 replace hd := (dS hd)
 replace h := h.2 hd
 refine gR 3 rfl ?_
 refine aE ?_
 refine gR 9 rfl ?_
 subst h
 refine ab (F' := (mkF 44 0 [(4, .sl 0)])) (H' := ⟨1, [(0, .row 9 1 (List.map V.str l1v1))]⟩) [0] [] rfl hK ⟨⟨_, rfl, .rfl⟩, trivial⟩ ⟨⟨_, rfl, ⟨rfl, rfl, (ak _ V.str (fun _ => rfl) l1v1).symm⟩⟩, trivial⟩ rfl ?_
 exact cM [] aa (rs := [.tmp 4]) rfl rfl ⟨rfl, rfl⟩
theorem iC (m : Nat) (r0 : Bool) (h : ∃ (t0_1 : Tree), ∃ (n0_2 : Int), ∃ (n0_3 : Int), kM [109, 111, 100, 117, 108, 101, 32, 77, 32, 100, 101, 102, 32, 102, 40, 120, 58, 32, 73, 110, 116, 41, 58, 32, 73, 110, 116, 32, 61, 32, 108, 101, 116, 32, 121, 32, 61, 32, 120, 32, 105, 110, 32, 108, 101, 116, 32, 120, 32, 61, 32, 121, 32, 105, 110, 32, 120] t0_1 n0_2 n0_3 ∧ ((n0_3 ≠ 0) → false = r0) ∧ ((n0_3 = 0) → ((((t0_1.kids.length : Nat) : Int) ≠ 1) → false = r0) ∧ ((((t0_1.kids.length : Nat) : Int) = 1) → ∃ (t0_4 : Tree), t0_1.kids[0]? = some t0_4 ∧ ∃ (r0_5 : (List GVariable)), cv t0_4 r0_5 ∧ ∃ (t0_6 : Tree), t0_1.kids[0]? = some t0_6 ∧ ∃ (r0_7 : (List Int)), ∃ (b0_8 : Bool), dF t0_6 [2, 0] [121] r0_7 b0_8 ∧ ((((r0_5.length : Nat) : Int) = 3) → ∃ (x0_9 : GVariable), r0_5[0]? = some x0_9 ∧ ((x0_9.Free = false) → ∃ (x0_10 : GVariable), r0_5[0]? = some x0_10 ∧ ∃ (b0_11 : Bool), a6 x0_10.Binder [0] b0_11 ∧ ((b0_11 = true) → ∃ (x0_12 : GVariable), r0_5[2]? = some x0_12 ∧ ∃ (b0_13 : Bool), a6 x0_12.Binder [2, 1] b0_13 ∧ ((b0_13 = true) → ((b0_8 = false) → ∃ (t0_14 : Tree), t0_1.kids[0]? = some t0_14 ∧ ∃ (r0_15 : (List (List UInt8))), d1 t0_14 [2, 1, 1] r0_15 ∧ (((r0_15.length : Nat) : Int) == 2) = r0) ∧ ((b0_8 = true) → false = r0)) ∧ ((b0_13 = false) → false = r0)) ∧ ((b0_11 = false) → false = r0)) ∧ ((x0_9.Free = true) → false = r0)) ∧ ((((r0_5.length : Nat) : Int) ≠ 3) → false = r0)))) : dC r0 := by
 refine ⟨rfl, rfl, ?_⟩
 refine aj 74 [] Try.func6 rfl rfl rfl (aA rfl) fun K hK => ?_
 refine gR 7 rfl ?_
 obtain ⟨t0_1, n0_2, n0_3, hs10, h⟩ := h
 refine gC0 hs10 (by kernel_rfl) rfl rfl .rfl rfl ?_
 refine gR 16 rfl ?_
 refine gB 14 rfl rfl rfl (fun hd => ?_) (fun hd => ?_)
 refine gT 13 rfl hd rfl ?_
 replace hd := (gn hd)
 replace h := h.1 hd
 refine gR 15 rfl ?_
 subst h
 refine ab (F' := (mkF 74 0 [(0, .bool false)])) (H' := ⟨0, []⟩) [] [] rfl hK ⟨⟨_, rfl, .rfl⟩, trivial⟩ trivial rfl ?_
 exact ac aa (rs := [.tmp 0]) rfl rfl rfl
 refine gF 13 rfl hd rfl ?_
 replace hd := (eZ hd)
 replace h := h.2 hd
 refine gR 3 rfl ?_
 refine gV 17 (.int .i64 ((t0_1.kids.length : Nat) : Int)) rfl (aR (bq _)) rfl ?_
 refine gLB 16 rfl (bq _) fun hl11 => ?_
 refine gR 4 rfl ?_
 refine gB 19 rfl rfl rfl (fun hd => ?_) (fun hd => ?_)
 replace hd := (gn hd)
 replace h := h.1 hd
 refine gR 8 rfl ?_
 subst h
 refine ab (F' := (mkF 74 0 [(0, .bool false)])) (H' := ⟨0, []⟩) [] [] rfl hK ⟨⟨_, rfl, .rfl⟩, trivial⟩ trivial rfl ?_
 exact ac aa (rs := [.tmp 0]) rfl rfl rfl
 replace hd := (eZ hd)
 replace h := h.2 hd
 refine gR 7 rfl ?_
 obtain ⟨t0_4, hxt0_4, h⟩ := h
 refine gY (aM (bb hxt0_4) aa rfl rfl rfl rfl) rfl rfl ?_
 refine gR 1 rfl ?_
 obtain ⟨r0_5, hs12, h⟩ := h
 refine gC0 hs12 (by kernel_rfl) rfl rfl .rfl rfl ?_
 refine gR 7 rfl ?_
 obtain ⟨t0_6, hxt0_6, h⟩ := h
 refine gY (aM (bb hxt0_6) aa rfl rfl rfl rfl) rfl rfl ?_
 refine gR 2 rfl ?_
 refine gFR 1 rfl rfl rfl rfl ?_
 obtain ⟨r0_7, b0_8, hs13, h⟩ := h
 refine gC0 hs13 (by kernel_rfl) rfl rfl .rfl rfl ?_
 refine gR 11 rfl ?_
 refine gV 35 (.int .i64 ((r0_5.length : Nat) : Int)) rfl (aR (an GVariable.w _)) rfl ?_
 refine gLB 34 rfl (an GVariable.w _) fun hl14 => ?_
 refine gR 2 rfl ?_
 refine gB 37 rfl rfl rfl (fun hd => ?_) (fun hd => ?_)
 refine gT 36 rfl hd rfl ?_
 replace hd := (eq_of_beq hd)
 replace h := h.1 hd
 refine gR 1 rfl ?_
 obtain ⟨x0_9, hxx0_9, h⟩ := h
 refine gY (aM (mapget (f := GVariable.w) hxx0_9) aa rfl rfl rfl rfl) rfl rfl ?_
 refine gR 5 rfl ?_
 refine gB 44 rfl rfl rfl (fun hd => ?_) (fun hd => ?_)
 refine gT 43 rfl hd rfl ?_
 replace hd := (cm hd)
 replace h := h.1 hd
 refine gR 1 rfl ?_
 obtain ⟨x0_10, hxx0_10, h⟩ := h
 refine gY (aM (mapget (f := GVariable.w) hxx0_10) aa rfl rfl rfl rfl) rfl rfl ?_
 refine gR 3 rfl ?_
 refine gFR 2 rfl rfl rfl rfl ?_
 obtain ⟨b0_11, hs15, h⟩ := h
 refine gC0 hs15 (by kernel_rfl) rfl rfl .rfl rfl ?_
 refine gR 2 rfl ?_
 refine gB 52 rfl rfl rfl (fun hd => ?_) (fun hd => ?_)
 refine gT 51 rfl hd rfl ?_
 replace h := h.1 hd
 refine gR 1 rfl ?_
 obtain ⟨x0_12, hxx0_12, h⟩ := h
 refine gY (aM (mapget (f := GVariable.w) hxx0_12) aa rfl rfl rfl rfl) rfl rfl ?_
 refine gR 3 rfl ?_
 refine gFR 3 rfl rfl rfl rfl ?_
 obtain ⟨b0_13, hs16, h⟩ := h
 refine gC0 hs16 (by kernel_rfl) rfl rfl .rfl rfl ?_
 refine gR 2 rfl ?_
 refine gB 60 rfl rfl rfl (fun hd => ?_) (fun hd => ?_)
 refine gT 59 rfl hd rfl ?_
 replace h := h.1 hd
 refine gR 4 rfl ?_
 refine gB 64 rfl rfl rfl (fun hd => ?_) (fun hd => ?_)
 refine gT 63 rfl hd rfl ?_
 replace hd := (cm hd)
 replace h := h.1 hd
 refine gR 2 rfl ?_
 obtain ⟨t0_14, hxt0_14, h⟩ := h
 refine gY (aM (bb hxt0_14) aa rfl rfl rfl rfl) rfl rfl ?_
 refine gR 2 rfl ?_
 refine gFR 4 rfl rfl rfl rfl ?_
 obtain ⟨r0_15, hs17, h⟩ := h
 refine gC hs17 [] (by kernel_rfl) rfl rfl .rfl trivial rfl ?_
 rintro _ _ ⟨rfl, rfl⟩
 refine gHR 5 (List.map V.str r0_15) rfl (ak _ V.str (fun _ => rfl) r0_15) rfl ?_
 refine gR 1 rfl ?_
 refine gV 71 (.int .i64 ((r0_15.length : Nat) : Int)) rfl (aR (an V.str _)) rfl ?_
 refine gLO 5 rfl (an V.str _) fun hl18 => ?_
 refine gR 6 rfl ?_
 subst h
 refine ab (F' := (mkF 74 0 [(0, .bool (((r0_15.length : Nat) : Int) == 2))])) (H' := ⟨0, []⟩) [] [] rfl hK ⟨⟨_, rfl, .rfl⟩, trivial⟩ trivial rfl ?_
 exact ac aa (rs := [.tmp 0]) rfl rfl rfl
 refine gF 63 rfl hd rfl ?_
 replace hd := (ck hd)
 replace h := h.2 hd
 refine gR 13 rfl ?_
 subst h
 refine ab (F' := (mkF 74 0 [(0, .bool false)])) (H' := ⟨0, []⟩) [] [] rfl hK ⟨⟨_, rfl, .rfl⟩, trivial⟩ trivial rfl ?_
 exact ac aa (rs := [.tmp 0]) rfl rfl rfl
 refine gF 59 rfl hd rfl ?_
 replace h := h.2 hd
 refine gR 17 rfl ?_
 subst h
 refine ab (F' := (mkF 74 0 [(0, .bool false)])) (H' := ⟨0, []⟩) [] [] rfl hK ⟨⟨_, rfl, .rfl⟩, trivial⟩ trivial rfl ?_
 exact ac aa (rs := [.tmp 0]) rfl rfl rfl
 refine gF 51 rfl hd rfl ?_
 replace h := h.2 hd
 refine gR 25 rfl ?_
 subst h
 refine ab (F' := (mkF 74 0 [(0, .bool false)])) (H' := ⟨0, []⟩) [] [] rfl hK ⟨⟨_, rfl, .rfl⟩, trivial⟩ trivial rfl ?_
 exact ac aa (rs := [.tmp 0]) rfl rfl rfl
 refine gF 43 rfl hd rfl ?_
 replace hd := (ck hd)
 replace h := h.2 hd
 refine gR 33 rfl ?_
 subst h
 refine ab (F' := (mkF 74 0 [(0, .bool false)])) (H' := ⟨0, []⟩) [] [] rfl hK ⟨⟨_, rfl, .rfl⟩, trivial⟩ trivial rfl ?_
 exact ac aa (rs := [.tmp 0]) rfl rfl rfl
 refine gF 36 rfl hd rfl ?_
 replace hd := (ne_of_beq_false hd)
 replace h := h.2 hd
 refine gR 40 rfl ?_
 subst h
 refine ab (F' := (mkF 74 0 [(0, .bool false)])) (H' := ⟨0, []⟩) [] [] rfl hK ⟨⟨_, rfl, .rfl⟩, trivial⟩ trivial rfl ?_
 exact ac aa (rs := [.tmp 0]) rfl rfl rfl
end Go.Proofs.Yteglbnopdedadaa
namespace Go.Proofs.Yteglbnopdedadaa
open Go.RowKit Go.Shelf Lx Sx
set_option maxRecDepth 100000
def dO : Go.Shelf.Ren := ⟨fun | 22 => 28 | 29 => 39 | 30 => 40 | 36 => 57 | 17 => 80 | n => n, fun | 24 => 22 | 9 => 9 | 3 => 3 | 4 => 4 | 0 => 0 | n => n, fun | n => n⟩
theorem s3 : Go.Proofs.Lays2.n22 Try.prog dO := {
  mixed := by kernel_rfl
  f17 := Try.func80.trans (congrArg some (by kernel_rfl))
  f22 := Try.func28.trans (congrArg some (by kernel_rfl))
  f29 := Try.func39.trans (congrArg some (by kernel_rfl))
  f30 := Try.func40.trans (congrArg some (by kernel_rfl))
  f36 := Try.func57.trans (congrArg some (by kernel_rfl))
  t0 := Try.underlying0
  a0 := Try.isAgg0
  z0 := Try.sizeOf0
  v0 := Try.zeroValue0
  t3 := Try.underlying3
  a3 := Try.isAgg3
  z3 := Try.sizeOf3
  v3 := Try.zeroValue3
  t4 := Try.underlying4
  a4 := Try.isAgg4
  z4 := Try.sizeOf4
  v4 := Try.zeroValue4
  t9 := Try.underlying9
  a9 := Try.isAgg9
  z9 := Try.sizeOf9
  v9 := Try.zeroValue9
  t24 := Try.underlying22
  a24 := Try.isAgg22
  z24 := Try.sizeOf22
  v24 := Try.zeroValue22
  i9 := by kernel_rfl }
theorem dA {b : Nat} {t : TypeId} : ∀ (vs : List Value) (o : Nat) {w : World} {cs : List Value}, Blk w b t cs → o + vs.length ≤ cs.length → Blk (w.setCells b o vs) b t (cs.take o ++ vs ++ cs.drop (o + vs.length))
  | [], o, w, cs, h, _ => by simpa [World.setCells] using h
  | v :: r, o, w, cs, h, hl => by
    simp only [List.length_cons] at hl
    have := dA r (o + 1) (h.set o v) (by simp; omega)
    have e : (cs.set o v).take (o + 1) ++ r ++ (cs.set o v).drop (o + 1 + r.length) = cs.take o ++ (v :: r) ++ cs.drop (o + (v :: r).length) := by
      have h1 : (cs.set o v).take (o + 1) = cs.take o ++ [v] := by
        rw [List.take_add_one, List.take_set_of_le (Nat.le_refl _), List.getElem?_set_self (by omega)]; rfl
      rw [h1, List.drop_set_of_lt (by omega), List.length_cons, show o + 1 + r.length = o + (r.length + 1) by omega]; simp
    rw [e] at this
    exact this
theorem dB {b : Nat} : ∀ (vs : List Value) (o : Nat) (w : World), Chg [b] w (w.setCells b o vs)
  | [], o, w => Chg.refl _ _
  | v :: r, o, w => (Chg.set w b o v).trans (dB r (o + 1) _) fun _ h => .inl h
theorem j6 {w : World} {g n c : Nat} {e : TypeId} {C xs : List Value} (h : Blk w g e C) (hC : C.length = c) (hn : n ≤ c) (hc : c ≤ maxLen) (hx : C.take n = xs) : w.ownsRow 0 e 1 (.slice (some ⟨g, 0, none⟩) n c) n xs := by
  refine ⟨by rw [← hx, List.length_take]; omega, .inr ⟨g, c, C.toArray, rfl, Nat.zero_le _, h, hn, hc, by simp [hC], by simpa using hx⟩⟩
theorem sw {D M : List Value} {i n : Nat} {x : Value} (hi : i < n) (hD : n + 1 ≤ D.length) (hM : M.length = n - i) :
    ((D.take i ++ [x] ++ D.drop (i + 1)).take (i + 1) ++ M ++ (D.take i ++ [x] ++ D.drop (i + 1)).drop (i + 1 + M.length)).take (n + 1) = D.take i ++ x :: M := by
  have h1 : (D.take i ++ [x]).length = i + 1 := by simp; omega
  rw [List.take_append_of_le_length (by simp; omega), List.take_of_length_le (by simp; omega)]
  rw [List.take_append_of_le_length (by omega), List.take_of_length_le (by omega)]
  simp
theorem p9 {C : List Value} {i n : Nat} {x : Value} (hi : i < n) (hC : n + 1 ≤ C.length) :
    (let C1 := C.take (i + 1) ++ (C.take n).drop i ++ C.drop (i + 1 + ((C.take n).drop i).length); C1.take i ++ [x] ++ C1.drop (i + [x].length)).take (n + 1) = (C.take n).take i ++ x :: (C.take n).drop i := by
  have hl : ((C.take n).drop i).length = n - i := by simp; omega
  have h1 : (C.take (i + 1)).length = i + 1 := by simp; omega
  simp only [List.length_singleton]
  rw [List.append_assoc (C.take (i + 1))]
  have h0 : ∀ Y : List Value, (C.take (i + 1) ++ Y).take i = C.take i := fun Y => by rw [List.take_append_of_le_length (by omega), List.take_take, show min i (i + 1) = i by omega]
  rw [h0]
  have h2 : (C.take (i + 1) ++ ((C.take n).drop i ++ C.drop (i + 1 + ((C.take n).drop i).length))).drop (i + 1) = (C.take n).drop i ++ C.drop (i + 1 + ((C.take n).drop i).length) := by
    rw [List.drop_append_of_le_length (by omega), List.drop_of_length_le (by omega)]; rfl
  rw [h2, ← List.append_assoc, List.take_append_of_le_length (by simp; omega), List.take_of_length_le (by simp; omega), List.take_take, show min i n = i by omega]
  simp
theorem s6 {C : List Value} {n : Nat} {x : Value} (hC : n + 1 ≤ C.length) : (C.take n ++ [x] ++ C.drop (n + [x].length)).take (n + 1) = C.take n ++ [x] := by
  rw [List.take_append_of_le_length (by simp; omega), List.take_of_length_le (by simp; omega)]
theorem sB (w : World) (v v1 : Value) (l : List (List UInt8)) (i : Nat) (x : List UInt8) (h0 : w.ownsRow 0 9 1 v l.length (l.map aD)) (h1 : w.ownsRow 0 9 1 v1 1 [aD x]) (hd : ∀ b, v.ownBlock = some b → v1.ownBlock ≠ some b) (hi : i ≤ l.length) (hl : l.length ≤ 100000000) :
    Calls Try.prog 28 #[v, .int .i64 (i : Int), v1] w fun e w' => ∃ v', e = .returned v' ∧ w'.ownsRow 0 9 1 v' (l.length + 1) ((l.take i ++ x :: l.drop i).map aD) ∧ Chg v.ownBlock.toList w w' ∧ (v'.ownBlock = v.ownBlock ∨ v'.ownBlock = some w.heap.size) := by
  have L := s3
  obtain ⟨_, hv1⟩ := h1
  rcases hv1 with ⟨_, hz⟩ | ⟨g1, c1, cur1, rfl, _, hg1, hn1, hc1, hs1, ht1⟩
  · cases hz
  have hcell1 : ∀ j u, [aD x][j]? = some u → w.cell? ⟨g1, 0 + j, none⟩ = some u := fun j u hj => by
    have : cur1.toList[j]? = some u := by
      have hj1 : j < 1 := by have := (List.getElem?_eq_some_iff.1 hj).1; simpa using this
      rw [← ht1, List.getElem?_take, if_pos (by omega)] at hj; exact hj
    rw [Nat.zero_add]
    simpa [World.cell?, hg1] using this
  have one1 : ∀ u ∈ [aD x], u.oneCell' = true := by simp [aD, Value.oneCell']
  have oneL : ∀ m : List (List UInt8), ∀ u ∈ m.map aD, u.oneCell' = true := fun m u hu => by
    obtain ⟨s, _, rfl⟩ := List.mem_map.1 hu; rfl
  have grow : ∀ (base : Option Addr) (c : Nat), l.length ≤ c → c < l.length + 1 → (base = none → l.length = 0) → (∀ a, base = some a → ∀ j u, (l.map aD)[j]? = some u → w.cell? (a.add j) = some u) → i = l.length →
      Calls Try.prog 28 #[.slice base l.length c, .int .i64 (i : Int), .slice (some ⟨g1, 0, none⟩) 1 c1] w fun e w' => ∃ v', e = .returned v' ∧ w'.ownsRow 0 9 1 v' (l.length + 1) ((l.take i ++ x :: l.drop i).map aD) ∧ Chg [] w w' ∧ v'.ownBlock = some w.heap.size := fun base c hc1 hc2 hb hcs hie => by
    subst hie
    refine (Any2.slices_Insert_string_end_grow L base l.length c g1 0 1 c1 (l.map aD) [aD x] w (by omega) hc1 hc2 (by omega) (by simp) (by simp) hb hcs hcell1 one1).mono ?_
    rintro e w' ⟨rfl, rfl⟩
    have hcap := grownCap_ge w (l.length + 1) c (dO.t 9)
    have hcm := grownCap_le_maxLen w (l.length + 1) c (dO.t 9) (by simp only [maxLen]; omega)
    refine ⟨_, rfl, ?_, (Chg.drew w).trans (Chg.alloc _ _) (by simp), rfl⟩
    refine j6 (C := (l.map aD ++ [aD x]) ++ (Builtin.zeroCells (Value.string ⟨#[]⟩).cells (grownCap w (l.length + 1) c (dO.t 9) - (l.length + 1))).toList) ?_ ?_ hcap hcm ?_
    · have := Blk.new w.drew 9 ((l.map aD ++ [aD x]) ++ (Builtin.zeroCells (Value.string ⟨#[]⟩).cells (grownCap w (l.length + 1) c (dO.t 9) - (l.length + 1))).toList)
      have e : ((l.map aD ++ [aD x]).toArray ++ Builtin.zeroCells (Value.string ⟨#[]⟩).cells (grownCap w (l.length + 1) c (dO.t 9) - (l.length + 1))) = ((l.map aD ++ [aD x]) ++ (Builtin.zeroCells (Value.string ⟨#[]⟩).cells (grownCap w (l.length + 1) c (dO.t 9) - (l.length + 1))).toList).toArray := by
        apply Array.ext'; simp
      rw [e]; exact this
    · have hz : (Builtin.zeroCells (Value.string ⟨#[]⟩).cells (grownCap w (l.length + 1) c (dO.t 9) - (l.length + 1))).toList.length = (grownCap w (l.length + 1) c (dO.t 9) - (l.length + 1)) * 1 := size_zeroCells _ _
      rw [List.length_append, hz]; simp; omega
    · rw [List.take_append_of_le_length (by simp), List.take_of_length_le (by simp)]
      simp
  obtain ⟨_, hv0⟩ := h0
  rcases hv0 with ⟨rfl, hz⟩ | ⟨g, c, cur, rfl, _, hg, hn, hc, hs, ht⟩
  · rw [Nat.mul_one] at *
    have hl0 : l = [] := List.length_eq_zero_iff.1 hz
    subst hl0
    refine (grow none 0 (by simp) (by simp) (fun _ => rfl) (fun a h => by cases h) (by simpa using hi)).mono ?_
    rintro e w' ⟨v', h2, h3, h4, h5⟩
    exact ⟨v', h2, h3, h4, .inr h5⟩
  · rw [Nat.mul_one] at *
    have hgg : g1 ≠ g := fun e => hd g rfl (by rw [e]; rfl)
    obtain ⟨C, rfl⟩ : ∃ C : List Value, cur = C.toArray := ⟨cur.toList, rfl⟩
    simp only [List.size_toArray] at hs ht
    have hB : Blk w g 9 C := hg
    have hcs : ∀ j u, (l.map aD)[j]? = some u → w.cell? ⟨g, 0 + j, none⟩ = some u := fun j u hj => by
      rw [Nat.zero_add, hB.cell j]
      rw [← ht, List.getElem?_take] at hj
      split at hj
      · exact hj
      · cases hj
    have hlt : l.length ≤ C.length := by omega
    by_cases hroom : l.length + 1 ≤ c
    · by_cases hin : i < l.length
      · refine (Any2.slices_Insert_string_shift L g 0 l.length c i g1 0 1 c1 (l.map aD) [aD x] w hin (by omega) hroom (by simp only [maxLen] at hc; omega) hgg (by simp) (by simp) hcs (fun j hj => by rw [Nat.zero_add, hB.cell j, List.getElem?_eq_getElem (by omega)]; rfl) (fun j hj => hB.frozen _) hcell1 (oneL l) one1 9 9 cur1.size C.length (by simp [World.shape?, hg1]) (by simp [World.shape?, hg]) (by omega) (by simp [World.frozen?, hg1]) (by simp [World.frozen?, hg1])).mono ?_
        rintro e w' ⟨rfl, rfl⟩
        refine ⟨_, rfl, ?_, (Chg.drew w |>.mono (by simp)).trans ((dB _ _ _).trans (dB _ _ _) fun _ h => .inl h) (fun b hb => .inl (by simp at hb; subst hb; simp [Value.ownBlock])), .inl rfl⟩
        have hB0 : Blk w.drew g 9 C := hB
        simp only [Nat.zero_add]
        have hB1 := dA ((l.map aD).drop i) (i + 1) hB0 (by simp; omega)
        have hB2 := dA [aD x] i hB1 (by simp; omega)
        have hi' : i < l.length := hin
        refine j6 hB2 (by simp; omega) hroom hc ?_
        rw [← ht]
        have := p9 (C := C) (i := i) (n := l.length) (x := aD x) hin (by omega)
        simp only at this
        rw [this, ht]; simp
      · have hie : i = l.length := by omega
        subst hie
        refine (Any2.slices_Insert_string_end_room L g 0 l.length c g1 0 1 c1 [aD x] w (by omega) hroom (by simp only [maxLen] at hc; omega) (by simp) (fun j hj => by rw [hB.cell, List.getElem?_eq_getElem (by omega)]; rfl) (fun j hj => hB.frozen _) hcell1 one1).mono ?_
        rintro e w' ⟨rfl, rfl⟩
        refine ⟨_, rfl, ?_, (dB _ _ _).mono (fun b hb => by simp at hb; subst hb; simp [Value.ownBlock]), .inl rfl⟩
        simp only [Nat.zero_add]
        have hB1 := dA [aD x] l.length hB (by simp; omega)
        refine j6 hB1 (by simp; omega) hroom hc ?_
        rw [s6 (by omega), ht]; simp
    · by_cases hin : i < l.length
      · refine (Any2.slices_Insert_string_grow L g 0 l.length c i g1 0 1 c1 (l.map aD) [aD x] w hin (by omega) hn (by omega) (by omega) (by simp) (by simp) hcs hcell1 (oneL l) one1).mono ?_
        rintro e w' ⟨rfl, rfl⟩
        have hcap := grownCap_ge w (l.length + 1) c (dO.t 9)
        have hcm := grownCap_le_maxLen w (l.length + 1) c (dO.t 9) (by simp only [maxLen]; omega)
        obtain ⟨cap, hce⟩ : ∃ cap, cap = grownCap w (l.length + 1) c (dO.t 9) := ⟨_, rfl⟩
        rw [← hce] at hcap hcm ⊢
        obtain ⟨D, hD⟩ : ∃ D : List Value, D = (l.map aD).take i ++ ((Builtin.zeroCells (Value.string ⟨#[]⟩).cells (l.length + 1 - i)).toList ++ (Builtin.zeroCells (Value.string ⟨#[]⟩).cells (cap - (l.length + 1))).toList) := ⟨_, rfl⟩
        have h1c : (Value.string ⟨#[]⟩).cells.size = 1 := rfl
        have hz : ∀ k, (Builtin.zeroCells (Value.string ⟨#[]⟩).cells k).toList.length = k * 1 := fun k => size_zeroCells _ _
        have hDl : D.length = cap := by rw [hD, List.length_append, List.length_append, hz, hz]; simp; omega
        have hDt : D.take i = (l.map aD).take i := by rw [hD, List.take_append_of_le_length (by simp; omega), List.take_take]; simp
        have hB0 : Blk (w.alloc (.cells D.toArray 9)).drew w.heap.size 9 D := Blk.new w _ D
        have e : ((((l.map aD).take i).toArray ++ Builtin.zeroCells (Value.string ⟨#[]⟩).cells (l.length + 1 - i)) ++ Builtin.zeroCells (Value.string ⟨#[]⟩).cells (cap - (l.length + 1))) = D.toArray := by
          rw [hD]; apply Array.ext'; simp
        rw [e]
        have hB1 := dA [aD x] i hB0 (by simp; omega)
        have hB2 := dA ((l.map aD).drop i) (i + 1) (show Blk (World.drew ((w.alloc (.cells D.toArray 9)).drew.setCells w.heap.size i [aD x])) w.heap.size 9 _ from hB1) (by simp; omega)
        refine ⟨_, rfl, ?_, ?_, .inr rfl⟩
        · refine j6 hB2 (by simp; omega) hcap hcm ?_
          have := sw (D := D) (M := (l.map aD).drop i) (i := i) (n := l.length) (x := aD x) hin (by omega) (by simp)
          rw [List.length_singleton, this, hDt]; simp
        · have a1 : Chg [] w (w.alloc (.cells D.toArray 9)).drew := (Chg.alloc w _).trans (Chg.drew _) (by simp)
          have a2 := dB (b := w.heap.size) [aD x] i (w.alloc (.cells D.toArray 9)).drew
          have a3 := dB (b := w.heap.size) ((l.map aD).drop i) (i + 1) (World.drew ((w.alloc (.cells D.toArray 9)).drew.setCells w.heap.size i [aD x]))
          refine (Chg.mono ?_ (X := []) (by simp))
          refine a1.trans (Y := [w.heap.size]) (a2.trans (((Chg.drew _).mono (Y := [w.heap.size]) (by simp)).trans a3 fun _ h => .inl h) fun _ h => .inl h) fun b hb => .inr (by simp at hb; omega)
      · refine (grow (some ⟨g, 0, none⟩) c hn (by omega) (fun h => by cases h) (fun a ha j u hj => by cases ha; rw [fY]; exact hcs j u hj) (by omega)).mono ?_
        rintro e w' ⟨v', h2, h3, h4, h5⟩
        exact ⟨v', h2, h3, h4.mono (by simp), .inr h5⟩
theorem gi {S : Nat → Prop} {w : World} {ρ : Nat → Option Value} : ∀ {l : List (List UInt8)} {xs : List Value}, CRel S w ρ 1 (l.map V.str) xs ↔ xs = l.map aD
  | [], xs => by simp [CRel]
  | s :: r, xs => by
    simp only [List.map_cons, CRel]
    constructor
    · rintro ⟨y, ys, rfl, _, h2, h3⟩
      simp only [VRel] at h2; subst h2
      rw [gi.1 h3]; rfl
    · rintro rfl
      exact ⟨aD s, r.map aD, rfl, ⟨rfl, rfl⟩, by simp only [VRel, aD], gi.2 rfl⟩
theorem se (l : List (List UInt8)) (x : List UInt8) (i : Nat) (hi : i ≤ l.length) (hl : l.length ≤ 100000000) : ii l (i : Int) [x] (l.take i ++ x :: l.drop i) := fun S w ρ xs hr hx => by
  simp only [LRel, VRel] at hx
  obtain ⟨v, ys, rfl, ⟨k1, k2⟩, u, zs, rfl, rfl, v1, ts, rfl, ⟨q1, q2⟩, rfl⟩ := hx
  have o0 : (⟨2, [(1, .row 9 1 (List.map V.str [x])), (0, .row 9 1 (List.map V.str l))]⟩ : Hp).get 0 = .row 9 1 (List.map V.str l) := rfl
  have o1 : (⟨2, [(1, .row 9 1 (List.map V.str [x])), (0, .row 9 1 (List.map V.str l))]⟩ : Hp).get 1 = .row 9 1 (List.map V.str [x]) := rfl
  obtain ⟨a, as', e1, e2, e3⟩ := dN hr o0
  rw [k1] at e1; cases e1
  obtain ⟨b, bs, f1, f2, f3⟩ := dN hr o1
  rw [q1] at f1; cases f1
  rw [gi.1 e3, List.length_map] at e2
  rw [gi.1 f3] at f2
  have hdis : ∀ c, v.ownBlock = some c → v1.ownBlock ≠ some c := fun c h1 h2 => by
    have := hr.dis 0 1 c (by rw [o0]; exact ⟨v, k1, h1⟩) (by rw [o1]; exact ⟨v1, q1, h2⟩)
    cases this
  refine (sB w v v1 l i x e2 f2 hdis hi hl).mono fun e w' hR => ?_
  obtain ⟨v', rfl, g2, g3, g4⟩ := hR
  obtain ⟨H, hH⟩ : ∃ H : Hp, H = ⟨2, [(1, .row 9 1 (List.map V.str [x])), (0, .row 9 1 (List.map V.str l))]⟩ := ⟨_, rfl⟩
  rw [← hH] at hr o0 o1 ⊢
  have hf : H.get 2 = .free := by rw [hH]; rfl
  have hX : ∀ b, b ∈ v.ownBlock.toList → own ρ 0 (H.get 0) b := fun b hb => by simp at hb; rw [o0]; exact ⟨v, k1, hb⟩
  have he := kr (x := v') (o := .row 9 1 ((l.take i ++ x :: l.drop i).map V.str)) hr hf (by rw [o0]; simp) g3 hX ⟨v', _, ay _ _ _, by rw [List.length_map, show (l.take i ++ x :: l.drop i).length = l.length + 1 by simp; omega]; exact g2, gi.2 rfl⟩ (fun b hb => by
    obtain ⟨q, e1, e2⟩ := hb
    rw [ay] at e1
    cases e1
    rcases g4 with g4 | g4
    · exact .inl (by rw [o0]; exact ⟨v, k1, by rw [← g4]; exact e2⟩)
    · rw [g4] at e2; simp at e2; exact .inr (by omega))
  have hget : bi (bi H.get 0 .gone) 2 (.row 9 1 ((l.take i ++ x :: l.drop i).map V.str)) = (⟨3, [(2, .row 9 1 (List.map V.str (l.take i ++ x :: l.drop i))), (1, .row 9 1 (List.map V.str [x]))]⟩ : Hp).get := by
    funext j
    match j with
    | 0 => rfl
    | 1 => rw [hH]; rfl
    | 2 => rfl
    | n + 3 => rw [hH]; rfl
  rw [hget] at he
  have hi : Inv ⟨w, S, fun b => ∃ id, own ρ id (H.get id) b, i6 [1] H.get ρ⟩ S w ρ H.get := ⟨ChgP.refl _ _, fun _ h => h, fun _ h => .inl h, fun id b hb => .inl ⟨id, hb⟩, fun id x h => by
    simp only [i6] at h
    split at h
    · exact h
    · cases h⟩
  exact ⟨v', S, bK ρ 2 v', _, _, rfl, ⟨rfl, rfl⟩, he.hr, hi.eff he, by simp only [VRel]; exact ⟨ay _ _ _, lB g2⟩⟩
end Go.Proofs.Yteglbnopdedadaa
namespace Go.Proofs.Yteglbnopdedadaa
open Go.RowKit Lx Sx
set_option maxRecDepth 100000
theorem oE (p : List UInt8) : (p != p) = false := by simp
theorem tv (p q : List UInt8) : ji p q (Op.bytesLess p q) := by
  refine oe 0 _ _ _ ⟨_, nU 0 _ _ rfl, fun h => ?_, fun h => rfl⟩
  rw [oE] at h; cases h
theorem lD (l : List Nm) (w : Nm) (ha : asc l) (hl : l.length ≤ 1000000000) : dE l w (bh w l : Nat) (decide (l[bh w l]? = some w)) := by
  have fin : ∀ m i j, ¬ i < j → i ≤ bh w l → bh w l ≤ j → bd (m + 1) l w i j (bh w l : Nat) (decide (l[bh w l]? = some w)) := fun m i j hij h1 h2 => by
    have e : i = bh w l := by omega
    subst e
    refine eE m _ _ _ _ _ _ ⟨fun h => absurd h hij, fun _ => ⟨fun h => ?_, fun h => ?_⟩⟩
    · obtain ⟨x, hx, _⟩ | h' := aO l (bh w l)
      · refine ⟨x, hx, fun he => ⟨rfl, by rw [hx, he]; simp⟩, fun he => ⟨x, hx, _, lp 0 _ _ rfl, fun hb => ?_, fun _ => ⟨rfl, by rw [hx]; simp [he]⟩⟩⟩
        rw [oE] at hb; cases hb
      · exact absurd h h'
    · refine ⟨rfl, ?_⟩
      rw [List.getElem?_eq_none (by omega)]; simp
  have hp := j7 w l
  have loop : ∀ k i j, j - i ≤ k → i ≤ bh w l → bh w l ≤ j → j ≤ l.length → bd (k + 1) l w i j (bh w l : Nat) (decide (l[bh w l]? = some w)) := fun k => by
    induction k with
    | zero => intro i j h0 h1 h2 h3; exact fin 0 i j (by omega) h1 h2
    | succ k ih =>
      intro i j h0 h1 h2 h3
      by_cases hij : i < j
      · obtain ⟨x, hx, _⟩ | h' := aO l ((i + j) / 2)
        · have hlt := iQ (w := w) ha hx
          refine eE (k + 1) _ _ _ _ _ _ ⟨fun _ => ⟨by omega, by omega, by omega, x, hx, _, tv x w, fun hb => ⟨by omega, ?_⟩, fun hb => ?_⟩, fun h => absurd hij h⟩
          · have := hlt.1 hb
            exact ih _ _ (by omega) (by omega) h2 h3
          · have : ¬ (i + j) / 2 < bh w l := fun h => by rw [hlt.2 h] at hb; cases hb
            exact ih _ _ (by omega) h1 (by omega) (by omega)
        · omega
      · exact fin _ i j hij h1 h2
  exact iz (l.length + 1) _ _ _ _ (loop l.length 0 l.length (by omega) (by omega) hp (Nat.le_refl _))
theorem uT (l : List Nm) (w : Nm) (ha : asc l) (hl : l.length ≤ 100000000) : eN l w (c6 w l) := by
  have hp := j7 w l
  have l2 : ∀ m, l[bh w l]? ≠ some w → dk (m + 1) l w (bh w l) (c6 w l) := fun m hne => by
    refine jx m _ _ _ _ ⟨hp, by simp; omega, by simp; omega, hp, by simp; omega, ?_⟩
    rw [gG, if_neg hne]; simp
  have l1 : ∀ m, dg (m + 2) l w (bh w l) (c6 w l) := fun m => by
    refine ju (m + 1) _ _ _ _ ⟨fun h => ?_, fun h => l2 m ?_⟩
    · obtain ⟨x, hx, _⟩ | h' := aO l (bh w l)
      · refine ⟨x, hx, fun he => ?_, fun he => l2 m ?_⟩
        · rw [gG, if_pos (by rw [hx, he])]
        · rw [hx]; simpa using he
      · exact absurd h h'
    · rw [List.getElem?_eq_none (by omega)]; simp
  have l0 : ∀ k i, bh w l - i ≤ k → i ≤ bh w l → da (k + 3) l w i (c6 w l) := fun k => by
    induction k with
    | zero =>
      intro i h0 h1
      have e : i = bh w l := by omega
      subst e
      refine dV 2 _ _ _ _ ⟨fun h => ?_, fun h => l1 0⟩
      obtain ⟨x, hx, _⟩ | h' := aO l (bh w l)
      · exact ⟨x, hx, fun hb => absurd ((iQ ha hx).1 hb) (by omega), fun hb => l1 0⟩
      · exact absurd h h'
    | succ k ih =>
      intro i h0 h1
      by_cases he : i = bh w l
      · subst he
        refine dV (k + 3) _ _ _ _ ⟨fun h => ?_, fun h => l1 (k + 1)⟩
        obtain ⟨x, hx, _⟩ | h' := aO l (bh w l)
        · exact ⟨x, hx, fun hb => absurd ((iQ ha hx).1 hb) (by omega), fun hb => l1 (k + 1)⟩
        · exact absurd h h'
      · refine dV (k + 3) _ _ _ _ ⟨fun h => ?_, fun h => by omega⟩
        obtain ⟨x, hx, _⟩ | h' := aO l i
        · exact ⟨x, hx, fun hb => ih (i + 1) (by omega) (by omega), fun hb => absurd ((iQ (w := w) ha hx).2 (by omega)) (by rw [hb]; simp)⟩
        · exact absurd h h'
  exact jP (bh w l + 3) _ _ _ (l0 _ 0 (by omega) (by omega))
theorem lJ (t : Tree) (q : List Int) : (arP t q).length ≤ q.length + t.kids.length := by
  cases q with
  | nil => unfold arP; split <;> simp
  | cons i r =>
    have := kn t (i :: r) (i :: r).length
    unfold arP
    split
    · simp
    · simp only
      split
      · simp only [List.length_append, fu, List.length_map, List.length_range]; omega
      · simp
def jL (t : Tree) (q : List Int) : List Nm := if br t = true then e7 [] (((arP t q).map (aL t)).map (·.name)) else []
theorem mq (l : List Nm) (w : Nm) (r : List Nm) : e7 l (w :: r) = e7 (c6 w l) r := rfl
theorem lr (t : Tree) (q : List Int) (ht : tbulk t ≤ 10000000) (hq : q.length ≤ 10000000) : d1 t q (jL t q) := by
  have hk := dp t
  by_cases hf : br t = true
  rotate_left
  · exact g8 0 _ _ _ ⟨_, lq t (by omega), fun h => by simp [jL, h], fun h => absurd h hf⟩
  · have ha := na t q (eu hf) (by omega) (by omega)
    have hlen : (auL t t [] [] q).1.length ≤ q.length + t.kids.length := by
      have := congrArg List.length (mz hf q)
      simp only [List.length_reverse, List.length_map] at this
      rw [this]; exact lJ t q
    have e : jL t q = e7 [] ((auL t t [] [] q).1.map (·.name)) := by rw [jL, if_pos hf, rj hf]
    rw [e]
    obtain ⟨A, hA⟩ : ∃ A, A = (auL t t [] [] q).1 := ⟨_, rfl⟩
    rw [← hA] at ha hlen ⊢
    have loop : ∀ k i l, A.length - i ≤ k → i ≤ A.length → l.length ≤ i → asc l → cQ (k + 1) A l i (e7 l ((A.drop i).map (·.name))) := fun k => by
      induction k with
      | zero =>
        intro i l h0 hi hl hs
        refine eF 0 _ _ _ _ ⟨fun h => by omega, fun _ => ?_⟩
        rw [List.drop_of_length_le (by omega)]; rfl
      | succ k ih =>
        intro i l h0 hi hl hs
        obtain ⟨x, hx, _⟩ | h' := aO A i
        · rw [cq hx, List.map_cons, mq]
          have hil := kG x.name l
          refine eF (k + 1) _ _ _ _ ⟨fun _ => ⟨x, hx, _, _, lD l x.name hs (by omega), fun hb => ⟨c6 x.name l, ?_, by omega, ih (i + 1) _ (by omega) (by omega) (by omega) (je _ _ hs)⟩, fun hb => ⟨by omega, ?_⟩⟩, fun h => by omega⟩
          · have hne := of_decide_eq_false hb
            rw [gG, if_neg hne]
            exact se l x.name _ (j7 _ _) (by omega)
          · have he := of_decide_eq_true hb
            rw [gG, if_pos he]
            exact ih (i + 1) l (by omega) (by omega) (by omega) hs
        · refine eF (k + 1) _ _ _ _ ⟨fun h => absurd h h', fun _ => ?_⟩
          rw [List.drop_of_length_le (by omega)]; rfl
    refine g8 (A.length + 1) _ _ _ ⟨_, lq t (by omega), fun h => (by rw [hf] at h; cases h), fun _ => ⟨_, _, ha, ?_⟩⟩
    have := loop A.length 0 [] (by omega) (by omega) (by simp) trivial
    rwa [List.drop_zero] at this
theorem pi (t : Tree) (q : List Int) (ht : tbulk t ≤ 10000000) (hq : q.length ≤ 10000000) : dy t q (jL t q) := by
  have hk := dp t
  by_cases hf : br t = true
  rotate_left
  · exact eO 0 _ _ _ ⟨_, iW t (by omega), fun h => by simp [jL, h], fun h => absurd h hf⟩
  · have har := m0 t q (eu hf) (by omega) (by omega)
    have hal := lJ t q
    have hsm := iq (t := t) (q := q) (n := 10000000) hq (by omega)
    have e : jL t q = e7 [] (((arP t q).map (aL t)).map (·.name)) := if_pos hf
    rw [e]
    obtain ⟨A, hA⟩ : ∃ A, A = arP t q := ⟨_, rfl⟩
    rw [← hA] at har hal hsm ⊢
    have loop : ∀ k i l, A.length - i ≤ k → i ≤ A.length → l.length ≤ i → asc l → cb (2 * k + 1) t A l i (e7 l (((A.drop i).map (aL t)).map (·.name))) := fun k => by
      induction k with
      | zero =>
        intro i l h0 hi hl hs
        refine cZ 0 _ _ _ _ _ ⟨fun h => by omega, fun _ => ?_⟩
        rw [List.drop_of_length_le (by omega)]; rfl
      | succ k ih =>
        intro i l h0 hi hl hs
        rw [show 2 * (k + 1) + 1 = 2 * k + 1 + 1 + 1 by omega]
        obtain ⟨x, hx, _⟩ | h' := aO A i
        · rw [cq hx, List.map_cons, List.map_cons, mq]
          have hxl := hsm x (List.mem_of_getElem? hx)
          obtain ⟨b, hb⟩ := pF t x (by omega)
          have hil := kG (aL t x).name l
          refine cZ _ _ _ _ _ _ ⟨fun _ => ⟨x, hx, _, b, hb, hO _ _ _ _ _ _ _ ⟨_, uT l _ hs (by omega), by omega, ?_⟩⟩, fun h => by omega⟩
          exact ih (i + 1) _ (by omega) (by omega) (by unfold aL at hil; simp only at hil; omega) (je _ _ hs)
        · refine cZ _ _ _ _ _ _ ⟨fun h => absurd h h', fun _ => ?_⟩
          rw [List.drop_of_length_le (by omega)]; rfl
    refine eO (2 * A.length + 1) _ _ _ ⟨_, iW t (by omega), fun h => (by rw [hf] at h; cases h), fun _ => ⟨_, har, ?_⟩⟩
    have := loop A.length 0 [] (by omega) (by omega) (by simp) trivial
    rwa [List.drop_zero] at this
end Go.Proofs.Yteglbnopdedadaa
namespace Go.Proofs.Yteglbnopdedadaa
open Go.RowKit Lx Sx
set_option maxRecDepth 100000
set_option maxHeartbeats 4000000
def bz (r0 : Bool) : Prop := aG Try.prog 6 [] (.bool r0)
def ek (p0 : (List GVariable)) (p1 : (List GVariable)) (r0 : Bool) : Prop := aG Try.prog 10 [.row 3 (List.map GVariable.w p0), .row 3 (List.map GVariable.w p1)] (.bool r0)
def em (p0 : Tree) (p1 : (List Int)) (p2 : (List UInt8)) (r0 : Bool) : Prop := aG Try.prog 3 [.agg (av p0), .row 1 (List.map (V.int .i64) p1), .str p2] (.bool r0)
def ep (p0 : Int) (r0 : Bool) : Prop := aG Try.prog 4 [.int .i64 p0] (.bool r0)
def ff (p0 : Int) (p1 : Int) (r0 : Int) : Prop := aG Try.prog 16 [.int .i64 p0, .int .i64 p1] (.int .i64 r0)
def df (p0 : Tree) (r0 : Int) : Prop := aG Try.prog 5 [.agg (av p0)] (.int .i64 r0)
def cU (m : Nat) (p0 : (List GVariable)) (p1 : (List GVariable)) (i1v1 : Nat) (r0 : Bool) : Prop := ∀ (K : Ctx) (j1 : Nat), aQ K [] → m ≤ j1 → Go Try.prog K (bodyPost Try.prog Try.f10 (SP K (fun u _ => u = .bool r0))) (.code (cL (cK (cB (cA (cB (cB (ah Try.f10)))))))) [.loop (cL (cK (cB (cA (cB (cB (ah Try.f10))))))) j1, .blk 0, .seq (cB (cB (cB (ah Try.f10))))] 56 (mkF 56 0 [(0, .row 3 (List.map GVariable.w p0)), (1, .row 3 (List.map GVariable.w p1)), (5, .int .i64 ((i1v1 : Nat) : Int))]) ⟨0, []⟩
theorem jv (m : Nat) (p0 : (List GVariable)) (p1 : (List GVariable)) (r0 : Bool) (h : ((p0.length ≠ p1.length) → false = r0) ∧ ((p0.length = p1.length) → cU m p0 p1 0 r0)) : ek p0 p1 r0 := by
 refine ⟨rfl, rfl, ?_⟩
 refine aj 56 [] Try.func10 rfl rfl rfl (aA rfl) fun K hK => ?_
 refine gR 10 rfl ?_
 refine gV 7 (.int .i64 ((p0.length : Nat) : Int)) rfl (aR (an GVariable.w _)) rfl ?_
 refine gLB 6 rfl (an GVariable.w _) fun hl11 => ?_
 refine gR 2 rfl ?_
 refine gV 9 (.int .i64 ((p1.length : Nat) : Int)) rfl (aR (an GVariable.w _)) rfl ?_
 refine gLB 8 rfl (an GVariable.w _) fun hl12 => ?_
 refine gR 3 rfl ?_
 refine gB 10 rfl rfl rfl (fun hd => ?_) (fun hd => ?_)
 replace hd := (pI hd)
 replace h := h.1 hd
 refine gR 8 rfl ?_
 subst h
 refine ab (F' := (mkF 56 0 [(4, .bool false)])) (H' := ⟨0, []⟩) [] [] rfl hK ⟨⟨_, rfl, .rfl⟩, trivial⟩ trivial rfl ?_
 exact ac aa (rs := [.tmp 4]) rfl rfl rfl
 replace hd := (pL hd)
 replace h := h.2 hd
 refine gR 10 rfl ?_
 refine go_loop m ?_
 exact gJ (h K _ hK (by omega)) [] [] rfl hK ⟨⟨_, rfl, .rfl⟩, ⟨_, rfl, .rfl⟩, ⟨_, rfl, .rfl⟩, trivial⟩ trivial rfl
theorem fx (m : Nat) (p0 : (List GVariable)) (p1 : (List GVariable)) (i1v1 : Nat) (r0 : Bool) (h : ((i1v1 < p0.length) → ∃ (x1_1 : GVariable), p0[i1v1]? = some x1_1 ∧ ∃ (x1_2 : GVariable), p1[i1v1]? = some x1_2 ∧ ((x1_1.Free ≠ x1_2.Free) → false = r0) ∧ ((x1_1.Free = x1_2.Free) → ∃ (x1_3 : GVariable), p0[i1v1]? = some x1_3 ∧ ∃ (x1_4 : GVariable), p1[i1v1]? = some x1_4 ∧ ∃ (b1_5 : Bool), a6 x1_3.Path x1_4.Path b1_5 ∧ ((b1_5 = false) → false = r0) ∧ ((b1_5 = true) → ∃ (x1_6 : GVariable), p0[i1v1]? = some x1_6 ∧ ∃ (x1_7 : GVariable), p1[i1v1]? = some x1_7 ∧ ∃ (b1_8 : Bool), a6 x1_6.Binder x1_7.Binder b1_8 ∧ ((b1_8 = false) → false = r0) ∧ ((b1_8 = true) → cU m p0 p1 (i1v1 + 1) r0)))) ∧ ((¬ i1v1 < p0.length) → true = r0)) : cU (m + 1) p0 p1 i1v1 r0 := by
 intro K j1 hK hj1
 obtain ⟨j1, rfl⟩ : ∃ j, j1 = j + 1 := ⟨j1 - 1, by omega⟩
 refine gR 6 rfl ?_
 refine gV 13 (.int .i64 ((p0.length : Nat) : Int)) rfl (aR (an GVariable.w _)) rfl ?_
 refine gLB 12 rfl (an GVariable.w _) fun hl13 => ?_
 refine gR 3 rfl ?_
 refine gB 14 rfl rfl rfl (fun hd => ?_) (fun hd => ?_)
 replace hd := (dW hd)
 replace h := h.1 hd
 refine gR 6 rfl ?_
 refine gDs [] 39 39 rfl (by kernel_rfl) (by kernel_rfl) ?_
 refine gDr [(0, 2), (1, 2)] (by kernel_rfl) rfl rfl ?_
 obtain ⟨x1_1, hxx1_1, h⟩ := h
 refine gYd 2 rfl (by kernel_rfl) (aM (mapget (f := GVariable.w) hxx1_1) aa rfl rfl rfl rfl) rfl rfl ?_
 refine gDr [(3, 2), (4, 2), (5, 2), (6, 0)] (by kernel_rfl) rfl rfl ?_
 obtain ⟨x1_2, hxx1_2, h⟩ := h
 refine g9 7 rfl (by kernel_rfl) (aM (mapget (f := GVariable.w) hxx1_2) aa rfl rfl rfl rfl) rfl rfl ?_
 refine gDr [(8, 0), (9, 0), (10, 0), (11, 0)] (by kernel_rfl) rfl rfl ?_
 refine gB 28 rfl rfl rfl (fun hd => ?_) (fun hd => ?_)
 refine gT 27 rfl hd rfl ?_
 replace hd := (gn hd)
 replace h := h.1 hd
 refine gDr [(12, 2), (13, 2), (14, 2), (15, 2), (16, 2), (17, 2), (18, 0), (19, 0), (20, 0), (21, 0), (22, 0), (23, 0), (24, 0), (25, 0), (26, 2), (27, 2), (28, 2), (29, 2), (30, 2), (31, 2), (32, 0), (33, 0), (34, 0), (35, 0), (36, 0), (37, 0), (38, 0)] (by kernel_rfl) rfl rfl ?_
 refine gDe (by kernel_rfl) ?_
 refine gR 2 rfl ?_
 refine ab (F' := (mkF 56 0 [])) (H' := ⟨0, []⟩) [] [] rfl hK trivial trivial rfl ?_
 refine gR 8 rfl ?_
 refine aW ?_
 refine gR 2 rfl ?_
 subst h
 refine ab (F' := (mkF 56 0 [(4, .bool false)])) (H' := ⟨0, []⟩) [] [] rfl hK ⟨⟨_, rfl, .rfl⟩, trivial⟩ trivial rfl ?_
 exact ac aa (rs := [.tmp 4]) rfl rfl rfl
 refine gF 27 rfl hd rfl ?_
 replace hd := (eZ hd)
 replace h := h.2 hd
 refine gDr [(12, 2), (13, 2)] (by kernel_rfl) rfl rfl ?_
 obtain ⟨x1_3, hxx1_3, h⟩ := h
 refine gYd 14 rfl (by kernel_rfl) (aM (mapget (f := GVariable.w) hxx1_3) aa rfl rfl rfl rfl) rfl rfl ?_
 refine gDr [(15, 2), (16, 2), (17, 2), (18, 0)] (by kernel_rfl) rfl rfl ?_
 obtain ⟨x1_4, hxx1_4, h⟩ := h
 refine g9 19 rfl (by kernel_rfl) (aM (mapget (f := GVariable.w) hxx1_4) aa rfl rfl rfl rfl) rfl rfl ?_
 refine gDr [(20, 0), (21, 0)] (by kernel_rfl) rfl rfl ?_
 obtain ⟨b1_5, hs14, h⟩ := h
 refine eG 22 hs14 (by kernel_rfl) rfl (by kernel_rfl) rfl rfl .rfl rfl rfl ?_
 refine gDr [(23, 0), (24, 0), (25, 0)] (by kernel_rfl) rfl rfl ?_
 refine gB 42 rfl rfl rfl (fun hd => ?_) (fun hd => ?_)
 refine gT 41 rfl hd rfl ?_
 replace hd := (cm hd)
 replace h := h.1 hd
 refine gDr [(26, 2), (27, 2), (28, 2), (29, 2), (30, 2), (31, 2), (32, 0), (33, 0), (34, 0), (35, 0), (36, 0), (37, 0), (38, 0)] (by kernel_rfl) rfl rfl ?_
 refine gDe (by kernel_rfl) ?_
 refine gR 2 rfl ?_
 refine ab (F' := (mkF 56 0 [])) (H' := ⟨0, []⟩) [] [] rfl hK trivial trivial rfl ?_
 refine gR 8 rfl ?_
 refine aW ?_
 refine gR 2 rfl ?_
 subst h
 refine ab (F' := (mkF 56 0 [(4, .bool false)])) (H' := ⟨0, []⟩) [] [] rfl hK ⟨⟨_, rfl, .rfl⟩, trivial⟩ trivial rfl ?_
 exact ac aa (rs := [.tmp 4]) rfl rfl rfl
 refine gF 41 rfl hd rfl ?_
 replace hd := (ck hd)
 replace h := h.2 hd
 refine gDr [(26, 2), (27, 2)] (by kernel_rfl) rfl rfl ?_
 obtain ⟨x1_6, hxx1_6, h⟩ := h
 refine gYd 28 rfl (by kernel_rfl) (aM (mapget (f := GVariable.w) hxx1_6) aa rfl rfl rfl rfl) rfl rfl ?_
 refine gDr [(29, 2), (30, 2), (31, 2), (32, 0)] (by kernel_rfl) rfl rfl ?_
 obtain ⟨x1_7, hxx1_7, h⟩ := h
 refine g9 33 rfl (by kernel_rfl) (aM (mapget (f := GVariable.w) hxx1_7) aa rfl rfl rfl rfl) rfl rfl ?_
 refine gDr [(34, 0), (35, 0)] (by kernel_rfl) rfl rfl ?_
 obtain ⟨b1_8, hs15, h⟩ := h
 refine eG 36 hs15 (by kernel_rfl) rfl (by kernel_rfl) rfl rfl .rfl rfl rfl ?_
 refine gDr [(37, 0), (38, 0)] (by kernel_rfl) rfl rfl ?_
 refine gDe (by kernel_rfl) ?_
 refine gR 1 rfl ?_
 refine gB 55 rfl rfl rfl (fun hd => ?_) (fun hd => ?_)
 replace hd := (cm hd)
 replace h := h.1 hd
 refine gR 1 rfl ?_
 refine ab (F' := (mkF 56 0 [])) (H' := ⟨0, []⟩) [] [] rfl hK trivial trivial rfl ?_
 refine gR 8 rfl ?_
 refine aW ?_
 refine gR 2 rfl ?_
 subst h
 refine ab (F' := (mkF 56 0 [(4, .bool false)])) (H' := ⟨0, []⟩) [] [] rfl hK ⟨⟨_, rfl, .rfl⟩, trivial⟩ trivial rfl ?_
 exact ac aa (rs := [.tmp 4]) rfl rfl rfl
 replace hd := (ck hd)
 replace h := h.2 hd
 refine gR 7 rfl ?_
 refine gV 16 (.int .i64 ((i1v1 + 1 : Nat) : Int)) rfl (ar (by have := hl13; omega) (by omega)) rfl ?_
 refine gR 2 rfl ?_
 refine az ?_
 exact gJ (h K _ hK (by omega)) [] [] rfl hK ⟨⟨_, rfl, .rfl⟩, ⟨_, rfl, .rfl⟩, ⟨_, rfl, .rfl⟩, trivial⟩ trivial rfl
 replace hd := (dS hd)
 replace h := h.2 hd
 refine gR 3 rfl ?_
 refine aE ?_
 refine gR 8 rfl ?_
 subst h
 refine ab (F' := (mkF 56 0 [(4, .bool true)])) (H' := ⟨0, []⟩) [] [] rfl hK ⟨⟨_, rfl, .rfl⟩, trivial⟩ trivial rfl ?_
 exact ac aa (rs := [.tmp 4]) rfl rfl rfl
theorem gw (m : Nat) (p0 : Tree) (p1 : (List Int)) (p2 : (List UInt8)) (r0 : Bool) (h : ∃ (n0_1 : Int), df p0 n0_1 ∧ ((200 < n0_1) → ∃ (b0_2 : Bool), bz b0_2 ∧ b0_2 = r0) ∧ ((¬ 200 < n0_1) → ((60 < ((p1.length : Nat) : Int)) → ∃ (b0_3 : Bool), bz b0_3 ∧ b0_3 = r0) ∧ ((¬ 60 < ((p1.length : Nat) : Int)) → ∃ (r0_4 : (List Int)), ∃ (b0_5 : Bool), dF p0 p1 p2 r0_4 b0_5 ∧ ∃ (r0_6 : (List Int)), ∃ (b0_7 : Bool), bL p0 p1 p2 r0_6 b0_7 ∧ ∃ (b0_8 : Bool), bz b0_8 ∧ ((b0_8 = true) → ((b0_5 = b0_7) → ∃ (b0_9 : Bool), a6 r0_4 r0_6 b0_9 ∧ ((b0_9 = true) → ∃ (r0_10 : (List GVariable)), cv p0 r0_10 ∧ ∃ (r0_11 : (List GVariable)), cX p0 r0_11 ∧ ∃ (b0_12 : Bool), ek r0_10 r0_11 b0_12 ∧ ((b0_12 = true) → ∃ (r0_13 : (List (List UInt8))), d1 p0 p1 r0_13 ∧ ∃ (r0_14 : (List (List UInt8))), dy p0 p1 r0_14 ∧ ∃ (b0_15 : Bool), c5 r0_13 r0_14 b0_15 ∧ b0_15 = r0) ∧ ((b0_12 = false) → false = r0)) ∧ ((b0_9 = false) → false = r0)) ∧ ((b0_5 ≠ b0_7) → false = r0)) ∧ ((b0_8 = false) → false = r0)))) : em p0 p1 p2 r0 := by
 refine ⟨rfl, rfl, ?_⟩
 refine aj 61 [] Try.func3 rfl rfl rfl (aA rfl) fun K hK => ?_
 refine gR 3 rfl ?_
 refine gFP 0 rfl rfl rfl rfl ?_
 refine gR 7 rfl ?_
 obtain ⟨n0_1, hs15, h⟩ := h
 refine gC0 hs15 (by kernel_rfl) rfl rfl .rfl rfl ?_
 refine gR 2 rfl ?_
 refine gB 14 rfl rfl rfl (fun hd => ?_) (fun hd => ?_)
 refine gT 13 rfl hd rfl ?_
 replace hd := (of_decide_eq_true hd)
 replace h := h.1 hd
 refine gR 9 rfl ?_
 obtain ⟨b0_2, hs16, h⟩ := h
 refine gC0 hs16 (by kernel_rfl) rfl rfl .rfl rfl ?_
 refine gR 5 rfl ?_
 subst h
 refine ab (F' := (mkF 61 0 [(6, .bool b0_2)])) (H' := ⟨0, []⟩) [] [] rfl hK ⟨⟨_, rfl, .rfl⟩, trivial⟩ trivial rfl ?_
 exact ac aa (rs := [.tmp 6]) rfl rfl rfl
 refine gF 13 rfl hd rfl ?_
 replace hd := (of_decide_eq_false hd)
 replace h := h.2 hd
 refine gR 2 rfl ?_
 refine gV 16 (.int .i64 ((p1.length : Nat) : Int)) rfl (aR (an (V.int .i64) _)) rfl ?_
 refine gLB 15 rfl (an (V.int .i64) _) fun hl17 => ?_
 refine gR 4 rfl ?_
 refine gB 18 rfl rfl rfl (fun hd => ?_) (fun hd => ?_)
 replace hd := (of_decide_eq_true hd)
 replace h := h.1 hd
 refine gR 3 rfl ?_
 obtain ⟨b0_3, hs18, h⟩ := h
 refine gC0 hs18 (by kernel_rfl) rfl rfl .rfl rfl ?_
 refine gR 5 rfl ?_
 subst h
 refine ab (F' := (mkF 61 0 [(6, .bool b0_3)])) (H' := ⟨0, []⟩) [] [] rfl hK ⟨⟨_, rfl, .rfl⟩, trivial⟩ trivial rfl ?_
 exact ac aa (rs := [.tmp 6]) rfl rfl rfl
 replace hd := (of_decide_eq_false hd)
 replace h := h.2 hd
 refine gR 8 rfl ?_
 obtain ⟨r0_4, b0_5, hs19, h⟩ := h
 refine gC0 hs19 (by kernel_rfl) rfl rfl .rfl rfl ?_
 refine gR 12 rfl ?_
 obtain ⟨r0_6, b0_7, hs20, h⟩ := h
 refine gC0 hs20 (by kernel_rfl) rfl rfl .rfl rfl ?_
 refine gR 8 rfl ?_
 refine gDs [] 28 28 rfl (by kernel_rfl) (by kernel_rfl) ?_
 obtain ⟨b0_8, hs21, h⟩ := h
 refine eG 0 hs21 (by kernel_rfl) rfl (by kernel_rfl) rfl rfl .rfl rfl rfl ?_
 refine gDr [(1, 0)] (by kernel_rfl) rfl rfl ?_
 refine gB 35 rfl rfl rfl (fun hd => ?_) (fun hd => ?_)
 refine gT 34 rfl hd rfl ?_
 replace h := h.1 hd
 refine gDr [(2, 2), (3, 0), (4, 0), (5, 0), (6, 0)] (by kernel_rfl) rfl rfl ?_
 refine gB 40 rfl rfl rfl (fun hd => ?_) (fun hd => ?_)
 refine gT 39 rfl hd rfl ?_
 replace hd := (eq_of_beq hd)
 replace h := h.1 hd
 refine gDr [(7, 2), (8, 0)] (by kernel_rfl) rfl rfl ?_
 obtain ⟨b0_9, hs22, h⟩ := h
 refine eG 9 hs22 (by kernel_rfl) rfl (by kernel_rfl) rfl rfl .rfl rfl rfl ?_
 refine gDr [(10, 0), (11, 0)] (by kernel_rfl) rfl rfl ?_
 refine gB 45 rfl rfl rfl (fun hd => ?_) (fun hd => ?_)
 refine gT 44 rfl hd rfl ?_
 replace h := h.1 hd
 refine gDr [(12, 2), (14, 2)] (by kernel_rfl) rfl rfl ?_
 obtain ⟨r0_10, hs23, h⟩ := h
 refine eG 13 hs23 (by kernel_rfl) rfl (by kernel_rfl) rfl rfl .rfl rfl rfl ?_
 obtain ⟨r0_11, hs24, h⟩ := h
 refine eG 15 hs24 (by kernel_rfl) rfl (by kernel_rfl) rfl rfl .rfl rfl rfl ?_
 obtain ⟨b0_12, hs25, h⟩ := h
 refine eG 16 hs25 (by kernel_rfl) rfl (by kernel_rfl) rfl rfl .rfl rfl rfl ?_
 refine gDr [(17, 0), (18, 0)] (by kernel_rfl) rfl rfl ?_
 refine gB 52 rfl rfl rfl (fun hd => ?_) (fun hd => ?_)
 refine gT 51 rfl hd rfl ?_
 replace h := h.1 hd
 refine gDr [(19, 2), (20, 2), (22, 2), (23, 2)] (by kernel_rfl) rfl rfl ?_
 obtain ⟨r0_13, hs26, h⟩ := h
 refine gDC 21 hs26 [] (by kernel_rfl) rfl (by kernel_rfl) rfl rfl .rfl trivial (by kernel_rfl) rfl ?_
 rintro _ _ ⟨rfl, rfl⟩
 refine gHR 1 (List.map V.str r0_13) rfl (ak _ V.str (fun _ => rfl) r0_13) rfl ?_
 obtain ⟨r0_14, hs27, h⟩ := h
 refine eG 24 hs27 (by kernel_rfl) rfl (by kernel_rfl) rfl rfl .rfl rfl rfl ?_
 refine gFR 1 rfl (ea _ (fun _ => rfl) _) rfl rfl ?_
 obtain ⟨b0_15, hs28, h⟩ := h
 refine eG 25 hs28 (by kernel_rfl) rfl (by kernel_rfl) rfl rfl .rfl rfl rfl ?_
 refine gDr [(26, 0), (27, 0)] (by kernel_rfl) rfl rfl ?_
 refine gDe (by kernel_rfl) ?_
 refine gR 2 rfl ?_
 subst h
 refine ab (F' := (mkF 61 0 [(6, .bool b0_15)])) (H' := ⟨0, []⟩) [] [] rfl hK ⟨⟨_, rfl, .rfl⟩, trivial⟩ trivial rfl ?_
 exact ac aa (rs := [.tmp 6]) rfl rfl rfl
 refine gF 51 rfl hd rfl ?_
 replace h := h.2 hd
 refine gDr [(19, 2), (20, 2), (22, 2), (23, 2), (21, 0), (24, 0), (25, 0), (26, 0), (27, 0)] (by kernel_rfl) rfl rfl ?_
 refine gDe (by kernel_rfl) ?_
 refine gR 2 rfl ?_
 subst h
 refine ab (F' := (mkF 61 0 [(6, .bool false)])) (H' := ⟨0, []⟩) [] [] rfl hK ⟨⟨_, rfl, .rfl⟩, trivial⟩ trivial rfl ?_
 exact ac aa (rs := [.tmp 6]) rfl rfl rfl
 refine gF 44 rfl hd rfl ?_
 replace h := h.2 hd
 refine gDr [(12, 2), (14, 2), (13, 0), (15, 0), (16, 0), (17, 0), (18, 0), (19, 2), (20, 2), (22, 2), (23, 2), (21, 0), (24, 0), (25, 0), (26, 0), (27, 0)] (by kernel_rfl) rfl rfl ?_
 refine gDe (by kernel_rfl) ?_
 refine gR 2 rfl ?_
 subst h
 refine ab (F' := (mkF 61 0 [(6, .bool false)])) (H' := ⟨0, []⟩) [] [] rfl hK ⟨⟨_, rfl, .rfl⟩, trivial⟩ trivial rfl ?_
 exact ac aa (rs := [.tmp 6]) rfl rfl rfl
 refine gF 39 rfl hd rfl ?_
 replace hd := (ne_of_beq_false hd)
 replace h := h.2 hd
 refine gDr [(7, 2), (8, 0), (9, 0), (10, 0), (11, 0), (12, 2), (14, 2), (13, 0), (15, 0), (16, 0), (17, 0), (18, 0), (19, 2), (20, 2), (22, 2), (23, 2), (21, 0), (24, 0), (25, 0), (26, 0), (27, 0)] (by kernel_rfl) rfl rfl ?_
 refine gDe (by kernel_rfl) ?_
 refine gR 2 rfl ?_
 subst h
 refine ab (F' := (mkF 61 0 [(6, .bool false)])) (H' := ⟨0, []⟩) [] [] rfl hK ⟨⟨_, rfl, .rfl⟩, trivial⟩ trivial rfl ?_
 exact ac aa (rs := [.tmp 6]) rfl rfl rfl
 refine gF 34 rfl hd rfl ?_
 replace h := h.2 hd
 refine gDr [(2, 2), (3, 0), (4, 0), (5, 0), (6, 0), (7, 2), (8, 0), (9, 0), (10, 0), (11, 0), (12, 2), (14, 2), (13, 0), (15, 0), (16, 0), (17, 0), (18, 0), (19, 2), (20, 2), (22, 2), (23, 2), (21, 0), (24, 0), (25, 0), (26, 0), (27, 0)] (by kernel_rfl) rfl rfl ?_
 refine gDe (by kernel_rfl) ?_
 refine gR 2 rfl ?_
 subst h
 refine ab (F' := (mkF 61 0 [(6, .bool false)])) (H' := ⟨0, []⟩) [] [] rfl hK ⟨⟨_, rfl, .rfl⟩, trivial⟩ trivial rfl ?_
 exact ac aa (rs := [.tmp 6]) rfl rfl rfl
def bJ (m : Nat) (n0_1 : Int) (i1v1 : Nat) (l1v2 : (List Tree)) (i1v3 : Nat) (r0 : Bool) : Prop := ∀ (K : Ctx) (j1 : Nat), aQ K [] → m ≤ j1 → Go Try.prog K (bodyPost Try.prog Try.f4 (SP K (fun u _ => u = .bool r0))) (.code (cL (cK (cB (cA (cB (cB (cB (ah Try.f4))))))))) [.loop (cL (cK (cB (cA (cB (cB (cB (ah Try.f4)))))))) j1, .blk 0, .seq (cB (cB (cB (cB (ah Try.f4)))))] 60 (mkF 60 0 [(0, .int .i64 (1 + n0_1)), (3, .ptr 0 0), (4, .int .i64 ((i1v3 : Nat) : Int))]) ⟨2, [(1, .row 25 4 (kidsV l1v2)), (0, .var 25 [.int .i64 ((i1v1 : Nat) : Int), .str [120], .nils, .sl 1])]⟩
def bH (m : Nat) (n0_1 : Int) (r1_1 : (List GVariable)) (i2v1 : Nat) (r0 : Bool) : Prop := ∀ (K : Ctx) (j1 : Nat), aQ K [] → m ≤ j1 → Go Try.prog K (bodyPost Try.prog Try.f4 (SP K (fun u _ => u = .bool r0))) (.code (cL (cK (cB (cA (cB (cB (cB (cB (cB (cB (cB (ah Try.f4))))))))))))) [.loop (cL (cK (cB (cA (cB (cB (cB (cB (cB (cB (cB (ah Try.f4)))))))))))) j1, .blk 2, .seq (cB (cB (cB (cB (cB (cB (cB (cB (ah Try.f4)))))))))] 60 (mkF 60 0 [(0, .int .i64 (1 + n0_1)), (6, .row 3 (List.map GVariable.w r1_1)), (7, .int .i64 ((i2v1 : Nat) : Int))]) ⟨0, []⟩
theorem gx (m : Nat) (p0 : Int) (r0 : Bool) (h : ∃ (n0_1 : Int), ff p0 30 n0_1 ∧ InI (1 + n0_1) ∧ bJ m n0_1 12 ([] : List Tree) 0 r0) : ep p0 r0 := by
 refine ⟨rfl, rfl, ?_⟩
 refine aj 60 [] Try.func4 rfl rfl rfl (aA rfl) fun K hK => ?_
 refine gR 8 rfl ?_
 obtain ⟨n0_1, hs11, h⟩ := h
 refine gC0 hs11 (by kernel_rfl) rfl rfl .rfl rfl ?_
 obtain ⟨hb, h⟩ := h
 refine gR 1 rfl ?_
 refine gV 10 (.int .i64 (1 + n0_1)) rfl (ar hb rfl) rfl ?_
 refine gR 17 rfl ?_
 refine go_loop m ?_
 refine gNC 0 3 25 4 rfl rfl rfl rfl ?_
 exact gJ (h K _ hK (by omega)) [0, 1] [] rfl hK ⟨⟨_, rfl, .rfl⟩, ⟨_, rfl, .rfl⟩, ⟨_, rfl, .rfl⟩, trivial⟩ ⟨⟨_, rfl, ⟨rfl, rfl, rfl⟩⟩, ⟨⟨_, rfl, ⟨rfl, aq.rfl⟩⟩, trivial⟩⟩ rfl
theorem dP (m : Nat) (n0_1 : Int) (i1v1 : Nat) (l1v2 : (List Tree)) (i1v3 : Nat) (r0 : Bool) (h : ((((i1v3 : Nat) : Int) < (1 + n0_1)) → i1v3 + 1 ≤ 9223372036854775807 ∧ bJ m n0_1 20 [(Tree.node 12 [120] [] []), (Tree.node ((i1v1 : Nat) : Int) [120] [] l1v2)] (i1v3 + 1) r0) ∧ ((¬ ((i1v3 : Nat) : Int) < (1 + n0_1)) → ∃ (r1_1 : (List GVariable)), cv (Tree.node 2 [102] [] [(Tree.node 5 [] [] []), (Tree.node ((i1v1 : Nat) : Int) [120] [] l1v2)]) r1_1 ∧ InI ((1 + n0_1) + 1) ∧ ((((r1_1.length : Nat) : Int) ≠ ((1 + n0_1) + 1)) → false = r0) ∧ ((((r1_1.length : Nat) : Int) = ((1 + n0_1) + 1)) → ∃ (x1_2 : GVariable), r1_1[0]? = some x1_2 ∧ ((x1_2.Free = false) → false = r0) ∧ ((x1_2.Free = true) → bH m n0_1 r1_1 1 r0)))) : bJ (m + 1) n0_1 i1v1 l1v2 i1v3 r0 := by
 intro K j1 hK hj1
 obtain ⟨j1, rfl⟩ : ∃ j, j1 = j + 1 := ⟨j1 - 1, by omega⟩
 refine gR 8 rfl ?_
 refine gB 14 rfl rfl rfl (fun hd => ?_) (fun hd => ?_)
 replace hd := (of_decide_eq_true hd)
 replace h := h.1 hd
 refine gR 8 rfl ?_
 refine gS 17 (.agg [.int .i64 12, .str [120], .row 1 [], .row 4 (kidsV [])]) rfl (.agg (.cons .rfl (.cons .rfl (.cons (.nil 1) (.cons (.nil 4) .nil))))) rfl ?_
 refine gFR 1 rfl (ph _) rfl rfl ?_
 refine gS 18 (.agg [.int .i64 ((i1v1 : Nat) : Int), .str [120], .row 1 [], .row 4 (kidsV l1v2)]) rfl (.agg (.cons .rfl (.cons .rfl (.cons (.nil 1) (.cons .rfl .nil))))) rfl ?_
 refine gR 1 rfl ?_
 refine gHR 2 (kidsV [(Tree.node 12 [120] [] []), (Tree.node ((i1v1 : Nat) : Int) [120] [] l1v2)]) rfl (tt [(Tree.node 12 [120] [] []), (Tree.node ((i1v1 : Nat) : Int) [120] [] l1v2)]) rfl ?_
 refine gR 7 rfl ?_
 obtain ⟨hb, h⟩ := h
 refine gR 1 rfl ?_
 refine gV 16 (.int .i64 ((i1v3 + 1 : Nat) : Int)) rfl (ar (by omega) (by omega)) rfl ?_
 refine gR 2 rfl ?_
 refine az ?_
 exact gJ (h K _ hK (by omega)) [0, 2] [] rfl hK ⟨⟨_, rfl, .rfl⟩, ⟨_, rfl, .rfl⟩, ⟨_, rfl, .rfl⟩, trivial⟩ ⟨⟨_, rfl, ⟨rfl, rfl, (ud _ [(Tree.node 12 [120] [] []), (Tree.node ((i1v1 : Nat) : Int) [120] [] l1v2)]).symm⟩⟩, ⟨⟨_, rfl, ⟨rfl, aq.rfl⟩⟩, trivial⟩⟩ rfl
 replace hd := (of_decide_eq_false hd)
 replace h := h.2 hd
 refine gR 3 rfl ?_
 refine aE ?_
 refine gR 6 rfl ?_
 refine gS 21 (.agg [.int .i64 5, .str [], .row 1 [], .row 4 (kidsV [])]) rfl (.agg (.cons .rfl (.cons .rfl (.cons (.nil 1) (.cons (.nil 4) .nil))))) rfl ?_
 refine gFR 1 rfl (ph _) rfl rfl ?_
 refine gS 22 (.agg [.int .i64 ((i1v1 : Nat) : Int), .str [120], .row 1 [], .row 4 (kidsV l1v2)]) rfl (.agg (.cons .rfl (.cons .rfl (.cons (.nil 1) (.cons .rfl .nil))))) rfl ?_
 refine gR 1 rfl ?_
 refine gHR 2 (kidsV [(Tree.node 5 [] [] []), (Tree.node ((i1v1 : Nat) : Int) [120] [] l1v2)]) rfl (tt [(Tree.node 5 [] [] []), (Tree.node ((i1v1 : Nat) : Int) [120] [] l1v2)]) rfl ?_
 refine gR 8 rfl ?_
 refine gFR 2 rfl (ph _) rfl rfl ?_
 obtain ⟨r1_1, hs12, h⟩ := h
 refine gC0 hs12 (by kernel_rfl) rfl rfl (.cons (.agg (.cons .rfl (.cons .rfl (.cons (.nil 1) (.cons .rfl .nil))))) .nil) rfl ?_
 refine gR 8 rfl ?_
 refine gV 28 (.int .i64 ((r1_1.length : Nat) : Int)) rfl (aR (an GVariable.w _)) rfl ?_
 refine gLB 27 rfl (an GVariable.w _) fun hl13 => ?_
 refine gR 1 rfl ?_
 obtain ⟨hb, h⟩ := h
 refine gR 1 rfl ?_
 refine gV 30 (.int .i64 ((1 + n0_1) + 1)) rfl (ar hb rfl) rfl ?_
 refine gR 2 rfl ?_
 refine gB 32 rfl rfl rfl (fun hd => ?_) (fun hd => ?_)
 refine gT 31 rfl hd rfl ?_
 replace hd := (gn hd)
 replace h := h.1 hd
 refine gR 16 rfl ?_
 subst h
 refine ab (F' := (mkF 60 0 [(2, .bool false)])) (H' := ⟨0, []⟩) [] [] rfl hK ⟨⟨_, rfl, .rfl⟩, trivial⟩ trivial rfl ?_
 exact ac aa (rs := [.tmp 2]) rfl rfl rfl
 refine gF 31 rfl hd rfl ?_
 replace hd := (eZ hd)
 replace h := h.2 hd
 refine gR 1 rfl ?_
 obtain ⟨x1_2, hxx1_2, h⟩ := h
 refine gY (aM (mapget (f := GVariable.w) hxx1_2) aa rfl rfl rfl rfl) rfl rfl ?_
 refine gR 6 rfl ?_
 refine gB 38 rfl rfl rfl (fun hd => ?_) (fun hd => ?_)
 replace hd := (cm hd)
 replace h := h.1 hd
 refine gR 8 rfl ?_
 subst h
 refine ab (F' := (mkF 60 0 [(2, .bool false)])) (H' := ⟨0, []⟩) [] [] rfl hK ⟨⟨_, rfl, .rfl⟩, trivial⟩ trivial rfl ?_
 exact ac aa (rs := [.tmp 2]) rfl rfl rfl
 replace hd := (ck hd)
 replace h := h.2 hd
 refine gR 10 rfl ?_
 refine go_loop m ?_
 exact gJ (h K _ hK (by omega)) [] [] rfl hK ⟨⟨_, rfl, .rfl⟩, ⟨_, rfl, .rfl⟩, ⟨_, rfl, .rfl⟩, trivial⟩ trivial rfl
theorem dQ (m : Nat) (n0_1 : Int) (r1_1 : (List GVariable)) (i2v1 : Nat) (r0 : Bool) (h : ((((i2v1 : Nat) : Int) ≤ (1 + n0_1)) → ∃ (x2_1 : GVariable), r1_1[i2v1]? = some x2_1 ∧ ((x2_1.Free = true) → false = r0) ∧ ((x2_1.Free = false) → ∃ (x2_2 : GVariable), r1_1[i2v1]? = some x2_2 ∧ ((x2_2.Binder.length ≠ i2v1) → false = r0) ∧ ((x2_2.Binder.length = i2v1) → i2v1 + 1 ≤ 9223372036854775807 ∧ bH m n0_1 r1_1 (i2v1 + 1) r0))) ∧ ((¬ ((i2v1 : Nat) : Int) ≤ (1 + n0_1)) → ∃ (b2_3 : Bool), bz b2_3 ∧ b2_3 = r0)) : bH (m + 1) n0_1 r1_1 i2v1 r0 := by
 intro K j1 hK hj1
 obtain ⟨j1, rfl⟩ : ∃ j, j1 = j + 1 := ⟨j1 - 1, by omega⟩
 refine gR 8 rfl ?_
 refine gB 41 rfl rfl rfl (fun hd => ?_) (fun hd => ?_)
 replace hd := (of_decide_eq_true hd)
 replace h := h.1 hd
 refine gR 9 rfl ?_
 obtain ⟨x2_1, hxx2_1, h⟩ := h
 refine gY (aM (mapget (f := GVariable.w) hxx2_1) aa rfl rfl rfl rfl) rfl rfl ?_
 refine gR 3 rfl ?_
 refine gB 49 rfl rfl rfl (fun hd => ?_) (fun hd => ?_)
 refine gT 48 rfl hd rfl ?_
 replace h := h.1 hd
 refine gR 20 rfl ?_
 refine aW ?_
 refine gR 2 rfl ?_
 subst h
 refine ab (F' := (mkF 60 0 [(2, .bool false)])) (H' := ⟨0, []⟩) [] [] rfl hK ⟨⟨_, rfl, .rfl⟩, trivial⟩ trivial rfl ?_
 exact ac aa (rs := [.tmp 2]) rfl rfl rfl
 refine gF 48 rfl hd rfl ?_
 replace h := h.2 hd
 refine gR 2 rfl ?_
 obtain ⟨x2_2, hxx2_2, h⟩ := h
 refine gY (aM (mapget (f := GVariable.w) hxx2_2) aa rfl rfl rfl rfl) rfl rfl ?_
 refine gR 3 rfl ?_
 refine gV 55 (.int .i64 ((x2_2.Binder.length : Nat) : Int)) rfl (aR (an (V.int .i64) _)) rfl ?_
 refine gLB 54 rfl (an (V.int .i64) _) fun hl14 => ?_
 refine gR 5 rfl ?_
 refine gB 58 rfl rfl rfl (fun hd => ?_) (fun hd => ?_)
 replace hd := (pI hd)
 replace h := h.1 hd
 refine gR 9 rfl ?_
 refine aW ?_
 refine gR 2 rfl ?_
 subst h
 refine ab (F' := (mkF 60 0 [(2, .bool false)])) (H' := ⟨0, []⟩) [] [] rfl hK ⟨⟨_, rfl, .rfl⟩, trivial⟩ trivial rfl ?_
 exact ac aa (rs := [.tmp 2]) rfl rfl rfl
 replace hd := (pL hd)
 replace h := h.2 hd
 refine gR 6 rfl ?_
 obtain ⟨hb, h⟩ := h
 refine gR 1 rfl ?_
 refine gV 43 (.int .i64 ((i2v1 + 1 : Nat) : Int)) rfl (ar (by omega) (by omega)) rfl ?_
 refine gR 2 rfl ?_
 refine az ?_
 exact gJ (h K _ hK (by omega)) [] [] rfl hK ⟨⟨_, rfl, .rfl⟩, ⟨_, rfl, .rfl⟩, ⟨_, rfl, .rfl⟩, trivial⟩ trivial rfl
 replace hd := (of_decide_eq_false hd)
 replace h := h.2 hd
 refine gR 3 rfl ?_
 refine aE ?_
 refine gR 4 rfl ?_
 obtain ⟨b2_3, hs15, h⟩ := h
 refine gC0 hs15 (by kernel_rfl) rfl rfl .rfl rfl ?_
 refine gR 4 rfl ?_
 subst h
 refine ab (F' := (mkF 60 0 [(2, .bool b2_3)])) (H' := ⟨0, []⟩) [] [] rfl hK ⟨⟨_, rfl, .rfl⟩, trivial⟩ trivial rfl ?_
 exact ac aa (rs := [.tmp 2]) rfl rfl rfl
theorem gq (m : Nat) (p0 : Int) (p1 : Int) (r0 : Int) (h : p1 ≠ 0 ∧ (((Int.tmod p0 p1) < 0) → InI ((Int.tmod p0 p1) + p1) ∧ ((Int.tmod p0 p1) + p1) = r0) ∧ ((¬ (Int.tmod p0 p1) < 0) → (Int.tmod p0 p1) = r0)) : ff p0 p1 r0 := by
 refine ⟨rfl, rfl, ?_⟩
 refine aj 14 [] Try.func16 rfl rfl rfl (aA rfl) fun K hK => ?_
 refine gR 9 rfl ?_
 obtain ⟨hb, h⟩ := h
 refine gY (vn rfl rfl hb) rfl rfl ?_
 refine gR 10 rfl ?_
 refine gB 9 rfl rfl rfl (fun hd => ?_) (fun hd => ?_)
 replace hd := (of_decide_eq_true hd)
 replace h := h.1 hd
 refine gR 4 rfl ?_
 obtain ⟨hb, h⟩ := h
 refine gR 1 rfl ?_
 refine gV 12 (.int .i64 ((Int.tmod p0 p1) + p1)) rfl (ar hb rfl) rfl ?_
 refine gR 10 rfl ?_
 subst h
 refine ab (F' := (mkF 14 0 [(4, .int .i64 ((Int.tmod p0 p1) + p1))])) (H' := ⟨0, []⟩) [] [] rfl hK ⟨⟨_, rfl, .rfl⟩, trivial⟩ trivial rfl ?_
 exact ac aa (rs := [.tmp 4]) rfl rfl rfl
 replace hd := (of_decide_eq_false hd)
 replace h := h.2 hd
 refine gR 10 rfl ?_
 subst h
 refine ab (F' := (mkF 14 0 [(4, .int .i64 (Int.tmod p0 p1))])) (H' := ⟨0, []⟩) [] [] rfl hK ⟨⟨_, rfl, .rfl⟩, trivial⟩ trivial rfl ?_
 exact ac aa (rs := [.tmp 4]) rfl rfl rfl
def cW (m : Nat) (p0 : Tree) (z1v1 : Int) (i1v2 : Nat) (r0 : Int) : Prop := ∀ (K : Ctx) (j1 : Nat), aQ K [] → m ≤ j1 → Go Try.prog K (bodyPost Try.prog Try.f5 (SP K (fun u _ => u = .int .i64 r0))) (.code (cL (cK (cB (cA (cB (cB (ah Try.f5)))))))) [.loop (cL (cK (cB (cA (cB (cB (ah Try.f5))))))) j1, .blk 0, .seq (cB (cB (cB (ah Try.f5))))] 21 (mkF 21 0 [(1, .box (av p0) 0), (3, .int .i64 z1v1), (4, .int .i64 ((i1v2 : Nat) : Int))]) ⟨0, []⟩
theorem jB (m : Nat) (p0 : Tree) (r0 : Int) (h : cW m p0 1 0 r0) : df p0 r0 := by
 refine ⟨rfl, rfl, ?_⟩
 refine aj 21 [] Try.func5 rfl rfl rfl (aA rfl) fun K hK => ?_
 refine gR 3 rfl ?_
 refine gFP 0 rfl rfl rfl rfl ?_
 refine gR 15 rfl ?_
 refine go_loop m ?_
 exact gJ (h K _ hK (by omega)) [] [] rfl hK ⟨⟨_, rfl, .rfl⟩, ⟨_, rfl, .rfl⟩, ⟨_, rfl, .rfl⟩, trivial⟩ trivial rfl
theorem dK (m : Nat) (p0 : Tree) (z1v1 : Int) (i1v2 : Nat) (r0 : Int) (h : ((i1v2 < p0.kids.length) → ∃ (t1_1 : Tree), p0.kids[i1v2]? = some t1_1 ∧ ∃ (n1_2 : Int), df t1_1 n1_2 ∧ InI (z1v1 + n1_2) ∧ cW m p0 (z1v1 + n1_2) (i1v2 + 1) r0) ∧ ((¬ i1v2 < p0.kids.length) → z1v1 = r0)) : cW (m + 1) p0 z1v1 i1v2 r0 := by
 intro K j1 hK hj1
 obtain ⟨j1, rfl⟩ : ∃ j, j1 = j + 1 := ⟨j1 - 1, by omega⟩
 refine gR 7 rfl ?_
 refine gV 8 (.int .i64 ((p0.kids.length : Nat) : Int)) rfl (aR (bq _)) rfl ?_
 refine gLB 7 rfl (bq _) fun hl5 => ?_
 refine gR 3 rfl ?_
 refine gB 9 rfl rfl rfl (fun hd => ?_) (fun hd => ?_)
 replace hd := (dW hd)
 replace h := h.1 hd
 refine gR 10 rfl ?_
 obtain ⟨t1_1, hxt1_1, h⟩ := h
 refine gY (aM (bb hxt1_1) aa rfl rfl rfl rfl) rfl rfl ?_
 refine gR 1 rfl ?_
 obtain ⟨n1_2, hs6, h⟩ := h
 refine gC0 hs6 (by kernel_rfl) rfl rfl .rfl rfl ?_
 obtain ⟨hb, h⟩ := h
 refine gR 1 rfl ?_
 refine gV 19 (.int .i64 (z1v1 + n1_2)) rfl (ar hb rfl) rfl ?_
 refine gR 7 rfl ?_
 refine gV 11 (.int .i64 ((i1v2 + 1 : Nat) : Int)) rfl (ar (by have := hl5; omega) (by omega)) rfl ?_
 refine gR 2 rfl ?_
 refine az ?_
 exact gJ (h K _ hK (by omega)) [] [] rfl hK ⟨⟨_, rfl, .rfl⟩, ⟨_, rfl, .rfl⟩, ⟨_, rfl, .rfl⟩, trivial⟩ trivial rfl
 replace hd := (dS hd)
 replace h := h.2 hd
 refine gR 3 rfl ?_
 refine aE ?_
 refine gR 9 rfl ?_
 subst h
 refine ab (F' := (mkF 21 0 [(2, .int .i64 z1v1)])) (H' := ⟨0, []⟩) [] [] rfl hK ⟨⟨_, rfl, .rfl⟩, trivial⟩ trivial rfl ?_
 exact ac aa (rs := [.tmp 2]) rfl rfl rfl
end Go.Proofs.Yteglbnopdedadaa
namespace Go.Proofs.Yteglbnopdedadaa
open Go.RowKit Lx Sx
set_option maxRecDepth 100000
theorem s4 (l : List GVariable) : ek l l true := by
  have loop : ∀ m i, l.length - i ≤ m → cU (m + 1) l l i true := fun m => by
    induction m with
    | zero => intro i hi; exact fx 0 _ _ _ _ ⟨fun h => by omega, fun h => rfl⟩
    | succ m ihm =>
      intro i hi
      refine fx (m + 1) _ _ _ _ ⟨fun h => ?_, fun h => rfl⟩
      obtain ⟨u, hu, _⟩ | h' := aO l i
      · exact ⟨u, hu, u, hu, fun h => absurd rfl h, fun _ => ⟨u, hu, u, hu, _, fD _, fun h => (by cases h), fun _ => ⟨u, hu, u, hu, _, fD _, fun h => (by cases h), fun _ => ihm (i + 1) (by omega)⟩⟩⟩
      · exact absurd h h'
  exact jv (l.length + 1) _ _ _ ⟨fun h => absurd rfl h, fun _ => loop l.length 0 (by omega)⟩
def jO (t : Tree) (q : List Int) (w : List UInt8) : List Int × Bool := if br t = true then cd ((arP t q).map (aL t)) w else ([], false)
theorem uE (t : Tree) (q : List Int) (w : List UInt8) (ht : tbulk t ≤ 10000000) (hq : q.length ≤ 10000000) : bL t q w (jO t q w).1 (jO t q w).2 := by
  by_cases hf : br t = true
  · rw [jO, if_pos hf]
    exact nA t q w hf (by omega) (by omega) fun y hy => Nat.le_trans (iq (n := 10000000) hq (by omega) y hy) (by omega)
  · rw [jO, if_neg hf]
    exact fp 0 _ _ _ _ _ ⟨_, iW t (by omega), fun h => ⟨rfl, rfl⟩, fun h => absurd h hf⟩
theorem tN (t : Tree) (q : List Int) (w : List UInt8) (ht : tbulk t ≤ 10000000) (hq : q.length ≤ 10000000) : dF t q w (jO t q w).1 (jO t q w).2 := by
  by_cases hf : br t = true
  · rw [jO, if_pos hf, ← mz hf q]
    have hk := dp t
    have e := mz hf q
    have hlen : (auL t t [] [] q).1.length ≤ q.length + t.kids.length := by
      have := congrArg List.length e
      simp only [List.length_reverse, List.length_map] at this
      rw [this]; exact lJ t q
    refine mm t q w hf (by omega) (by omega) (by omega) fun b hb => ?_
    have : b ∈ (arP t q).map (aL t) := by rw [← e]; exact List.mem_reverse.2 hb
    obtain ⟨y, hy, rfl⟩ := List.mem_map.1 this
    have := iq (t := t) (n := 10000000) hq (by omega) y hy
    simp only [aL]; omega
  · rw [jO, if_neg hf]
    exact hW 0 _ _ _ _ _ ⟨_, lq t (by omega), fun h => ⟨rfl, rfl⟩, fun h => absurd h hf⟩
theorem tw : ∀ t : Tree, tbulk t ≤ 1000000000 → ∃ n : Int, df t n ∧ 0 ≤ n ∧ n ≤ tbulk t := fe fun t ih hb => by
  have he := fU t
  have loop : ∀ (k i : Nat) (z : Int), t.kids.length - i ≤ k → 0 ≤ z → z + kbulk (t.kids.drop i) ≤ tbulk t → ∃ n : Int, cW (k + 1) t z i n ∧ 0 ≤ n ∧ n ≤ tbulk t := fun k => by
    induction k with
    | zero =>
      intro i z hi h0 h1
      exact ⟨z, dK 0 _ _ _ _ ⟨fun h => by omega, fun _ => rfl⟩, h0, by omega⟩
    | succ k ihk =>
      intro i z hi h0 h1
      obtain ⟨u, hu, _⟩ | h' := aO t.kids i
      · have hbu := en hu
        obtain ⟨n, hn, hn0, hn1⟩ := ih i u hu (by omega)
        rw [cq hu, kbulk] at h1
        obtain ⟨r, hr, hr0, hr1⟩ := ihk (i + 1) (z + n) (by omega) (by omega) (by omega)
        exact ⟨r, dK (k + 1) _ _ _ _ ⟨fun _ => ⟨u, hu, n, hn, by constructor <;> omega, hr⟩, fun h => by omega⟩, hr0, hr1⟩
      · exact ⟨z, dK (k + 1) _ _ _ _ ⟨fun h => absurd h h', fun _ => rfl⟩, h0, by omega⟩
  obtain ⟨n, hn, h0, h1⟩ := loop t.kids.length 0 1 (by omega) (by omega) (by rw [List.drop_zero]; omega)
  exact ⟨n, jB _ _ _ hn, h0, h1⟩
theorem tz (aw : bz true) (t : Tree) (q : List Int) (w : List UInt8) (ht : tbulk t ≤ 1048576) : em t q w true := by
  obtain ⟨n, hn, h0, h1⟩ := tw t (by omega)
  refine gw 0 _ _ _ _ ⟨n, hn, fun _ => ⟨_, aw, rfl⟩, fun _ => ⟨fun _ => ⟨_, aw, rfl⟩, fun hq => ?_⟩⟩
  have hq' : q.length ≤ 60 := by omega
  exact ⟨_, _, tN t q w (by omega) (by omega), _, _, uE t q w (by omega) (by omega), _, aw, fun _ => ⟨fun _ => ⟨_, fD _, fun _ => ⟨_, gH t (by omega), _, nd t (by omega), _, s4 _, fun _ => ⟨_, lr t q (by omega) (by omega), _, pi t q (by omega) (by omega), _, nY _, rfl⟩, fun h => (by cases h)⟩, fun h => (by cases h)⟩, fun h => absurd rfl h⟩, fun h => by cases h⟩
def km : Nat → Tree
  | 0 => .node 12 [120] [] []
  | n + 1 => .node 20 [120] [] [.node 12 [120] [] [], km n]
def lE (n : Nat) : Tree := .node 2 [102] [] [.node 5 [] [] [], km n]
def tI (n : Nat) : Bool := ((gf (lE n)).map fun v => (v.Free, v.Binder.length)) == (true, 0) :: (List.range n).map fun i => (false, i + 1)
theorem t8 : ∀ n, n < 31 → (tI n && decide (tbulk (lE n) ≤ 1000)) = true := by decide +kernel
theorem u6 {a n : Int} (hn : 0 < n) (hn2 : n ≤ 1000000000) : ∃ r, ff a n r ∧ 0 ≤ r ∧ r < n := by
  have h1 := Int.lt_tmod_of_pos a hn
  have h2 := Int.tmod_lt_of_pos a hn
  by_cases h : Int.tmod a n < 0
  · exact ⟨_, gq 0 _ _ _ ⟨by omega, fun _ => ⟨by constructor <;> omega, rfl⟩, fun h' => absurd h h'⟩, by omega, by omega⟩
  · exact ⟨_, gq 0 _ _ _ ⟨by omega, fun h' => absurd h' h, fun _ => rfl⟩, by omega, by omega⟩
theorem tH (aw : bz true) (z : Int) : ep z true := by
  obtain ⟨r, hr, hr0, hr1⟩ := u6 (a := z) (n := 30) (by omega) (by omega)
  obtain ⟨n, hn⟩ : ∃ n : Nat, (n : Int) = 1 + r := ⟨(1 + r).toNat, by omega⟩
  have hn31 : n < 31 := by omega
  have hok := t8 n hn31
  simp only [Bool.and_eq_true, decide_eq_true_eq, tI, beq_iff_eq] at hok
  obtain ⟨h1, h2⟩ := hok
  have hV := gH (lE n) (by omega)
  obtain ⟨V, hVe⟩ : ∃ V, V = gf (lE n) := ⟨_, rfl⟩
  rw [← hVe] at h1 hV
  have hlen : V.length = n + 1 := by have := congrArg List.length h1; simpa using this
  have hget : ∀ i x, V[i]? = some x → (x.Free, x.Binder.length) = if i = 0 then (true, 0) else (false, i) := fun i x hx => by
    have h3 : (V.map fun v => (v.Free, v.Binder.length))[i]? = some (x.Free, x.Binder.length) := by rw [List.getElem?_map, hx]; rfl
    rw [h1] at h3
    cases i with
    | zero => simpa using h3.symm
    | succ i =>
      have hi := (List.getElem?_eq_some_iff.1 hx).1
      simp only [List.getElem?_cons_succ, List.getElem?_map] at h3
      rw [List.getElem?_range (by omega)] at h3
      simp only [Option.map_some, Option.some.injEq] at h3
      rw [if_neg (by omega), ← h3]
  have l1 : ∀ k i, n + 1 - i = k → 1 ≤ i → i ≤ n + 1 → bH (k + 1) r V i true := fun k => by
    induction k with
    | zero => intro i h0 h1 h2; exact dQ 0 _ _ _ _ ⟨fun h => by omega, fun _ => ⟨_, aw, rfl⟩⟩
    | succ k ih =>
      intro i h0 h1 h2
      obtain ⟨x, hx, _⟩ | h' := aO V i
      · have hg := hget i x hx
        rw [if_neg (by omega), Prod.mk.injEq] at hg
        exact dQ (k + 1) _ _ _ _ ⟨fun _ => ⟨x, hx, fun h => (by rw [hg.1] at h; cases h), fun _ => ⟨x, hx, fun h => absurd hg.2 h, fun _ => ⟨by omega, ih (i + 1) (by omega) (by omega) (by omega)⟩⟩⟩, fun h => by omega⟩
      · omega
  have l0 : ∀ k i, n - i = k → i ≤ n → bJ (n + 1 + k + 1) r (km i).kind.toNat (km i).kids i true := fun k => by
    have eT : ∀ i, Tree.node (((km i).kind.toNat : Nat) : Int) [120] [] (km i).kids = km i := fun i => by cases i <;> rfl
    induction k with
    | zero =>
      intro i h0 h1
      have e : i = n := by omega
      subst e
      obtain ⟨x, hx, _⟩ | h' := aO V 0
      rotate_left
      · omega
      have hg := hget 0 x hx
      rw [if_pos rfl, Prod.mk.injEq] at hg
      refine dP _ _ _ _ _ _ ⟨fun h => by omega, fun _ => ⟨V, ?_, by constructor <;> omega, fun h => by omega, fun _ => ⟨x, hx, fun h => (by rw [hg.1] at h; cases h), fun _ => ?_⟩⟩⟩
      · rw [eT]; exact hV
      · have := l1 i 1 (by omega) (by omega) (by omega)
        exact this
    | succ k ih =>
      intro i h0 h1
      refine dP (n + 1 + k + 1) _ _ _ _ _ ⟨fun _ => ⟨by omega, ?_⟩, fun h => by omega⟩
      rw [eT]
      exact ih (i + 1) (by omega) (by omega)
  refine gx (n + 1 + n + 1) _ _ ⟨r, hr, by constructor <;> omega, ?_⟩
  exact l0 n 0 (by omega) (by omega)
end Go.Proofs.Yteglbnopdedadaa
namespace Go.Proofs.Yteglbnopdedadaa
open Go.RowKit Go.ChangeShapes Go.WideShapes Go.Deep
theorem qL : Try.prog.cellsOf 3 = 1 := by kernel_rfl
theorem uI {H : Type} {enc : TypeId × Value → H} {W : World} {a0 : Option Addr} {len cap : Nat} {d : DataW H} {p : List MemPlace} (h : DataW.Trod enc Try.prog W 0 (fun _ => true) true 26 (.slice a0 len cap) d p) :
    ∃ zs : List Int, len = zs.length ∧ len ≤ cap ∧ cap ≤ maxLen ∧ RowIn Any W 1 a0 zs.length (zs.map fun z => .int .i64 z) := by
  obtain ⟨fuel, hf⟩ := h
  rcases open_ints Try.underlying26 Try.underlying3 qL hf with ⟨hcs, hx⟩ | ⟨a, len', cap', zs, hcs, hb, hl, hm, hlen, hx, hcell, hwf⟩
  · simp [Value.cells] at hcs
    obtain ⟨rfl, rfl, rfl⟩ := hcs
    exact ⟨[], rfl, Nat.le_refl _, Nat.zero_le _, RowIn.none_⟩
  · simp [Value.cells] at hcs
    obtain ⟨rfl, rfl, rfl⟩ := hcs
    simp only [if_true] at hlen
    have hlt : (zs.take len).length = len := by simp; omega
    refine ⟨zs.take len, hlt.symm, hl, hm, by simp, fun h0 => ?_⟩
    rw [hlt] at h0 ⊢
    have hs : a.spot = none := World.cell?_spot (a := a) (by have := hcell 0 (by omega); simpa [Addr.add] using this)
    obtain ⟨b, off, spot⟩ := a
    simp only at hs
    subst hs
    have hadd : ∀ k, (⟨b, off, none⟩ : Addr).add k = ⟨b, off + k, none⟩ := fun k => by unfold Addr.add; split <;> simp_all
    refine ⟨b, off, rfl, trivial, ?_, fun j hj => ?_⟩
    · have := hcell 0 (by omega)
      exact World.block_lt_of_cell? W ⟨b, off, none⟩ (by simpa [Addr.add] using this)
    · have hj' : j < len := by omega
      have := hcell j (by omega)
      rw [hadd] at this
      rw [this]
      simp [hj', List.getD_eq_getElem?_getD, show j < zs.length from by omega]
end Go.Proofs.Yteglbnopdedadaa
namespace Go.Proofs.Yteglbnopdedadaa
open Go.RowKit Lx Sx Go.ChangeShapes Go.WideShapes Go.Deep Go.Joins
instance : Inhabited Tree := ⟨eo⟩
theorem k0 : Try.prog.cellsOf 25 = 4 := by kernel_rfl
theorem qr : Try.prog.cellsOf 3 = 1 := by kernel_rfl
theorem mt : Try.prog.cellsOf 9 = 1 := by kernel_rfl
theorem rt : Try.prog.cellsOf 22 = 1 := by kernel_rfl
theorem rD : Try.prog.cellsOf 23 = 1 := by kernel_rfl
theorem l8 {α : Type} {l : List α} (h : l.length = 4) : ∃ a b c d, l = [a, b, c, d] := by
  match l, h with
  | [a, b, c, d], _ => exact ⟨a, b, c, d, rfl⟩
theorem oG {α : Type} {c : Nat → List α} : ∀ (l : List Nat) (i r : Nat), (∀ j ∈ l, (c j).length = 4) → r < 4 → (l.flatMap c)[i * 4 + r]? = (l[i]?).bind fun j => (c j)[r]?
  | [], i, r, _, _ => by simp
  | j :: l, 0, r, h, hr => by
    have := h j (by simp)
    rw [List.flatMap_cons, List.getElem?_append_left (by omega)]; simp
  | j :: l, i + 1, r, h, hr => by
    have h4 := h j (by simp)
    rw [List.flatMap_cons, List.getElem?_append_right (by omega), show (i + 1) * 4 + r - (c j).length = i * 4 + r by omega, oG l i r (fun q hq => h q (by simp [hq])) hr]; simp
theorem vp {v a b c d : Value} (h : v.cells = #[a, b, c, d]) : v = .agg #[a, b, c, d] := by
  cases v <;> simp_all [Value.cells]
section
variable {H : Type} {enc : TypeId × Value → H} {W : World}
theorem lP (b off k : Nat) : (⟨b, off, none⟩ : Addr).add k = ⟨b, off + k, none⟩ := by unfold Addr.add; split <;> simp_all
theorem l7 {g : Nat → Tree} {D : Nat → DataW H} : ∀ (l : List Nat), (∀ i ∈ l, tbulk (g i) ≤ Rows.uptoBulk (D i)) → kbulk (l.map g) ≤ Rows.uptoBulkAll (l.map D)
  | [], _ => by simp [kbulk, Rows.uptoBulkAll]
  | i :: l, h => by
    have := l7 l (fun j hj => h j (by simp [hj]))
    have := h i (by simp)
    simp only [List.map_cons, kbulk, Rows.uptoBulkAll]; omega
theorem mW {g : Nat → List UInt8} {D : Nat → DataW H} : ∀ (l : List Nat), (∀ i ∈ l, D i = .lit (.string (g i))) → lsum (l.map g) ≤ Rows.uptoBulkAll (l.map D)
  | [], _ => by simp [lsum, Rows.uptoBulkAll]
  | i :: l, h => by
    have := mW l (fun j hj => h j (by simp [hj]))
    have := h i (by simp)
    simp only [List.map_cons, lsum, Rows.uptoBulkAll, this, Rows.uptoBulk]; omega
theorem kR {g : Nat → Tree} {c : Nat → List Value} : ∀ (l : List Nat), (∀ i ∈ l, TreeIs Any W (g i) (c i)) → KidsAre Any W (l.map g) (l.flatMap c)
  | [], _ => rfl
  | i :: l, h => by
    simp only [List.map_cons, List.flatMap_cons, KidsAre]
    exact ⟨c i, l.flatMap c, rfl, h i (by simp), kR l (fun j hj => h j (by simp [hj]))⟩
theorem sG {n : Nat} {v : Value} {x : DataW H × List MemPlace} (h : DataW.trod enc Try.prog W 0 (fun _ => true) true n 22 [v] = some x) :
    ∃ (ls : List (List UInt8)) (A : Option Addr) (m : Nat), v = .slice A ls.length m ∧ ls.length ≤ m ∧ m ≤ maxLen ∧ RowIn Any W 1 A ls.length (ls.map aD) ∧ lsum ls ≤ Rows.uptoBulk x.1 := by
  rcases open_slice Try.underlying22 h with ⟨hcs, hx⟩ | ⟨a, len, cap, m, n', D, Pl, hcs, hb, hl, hm, hmm, hx, hi⟩
  · simp only [List.cons.injEq, and_true] at hcs
    exact ⟨[], none, 0, hcs, Nat.le_refl _, by simp [maxLen], RowIn.none_, by simp [lsum]⟩
  · simp only [List.cons.injEq, and_true] at hcs
    simp only [if_true] at hmm
    subst hmm hcs
    rw [mt] at hi
    obtain ⟨T, hT⟩ := choose_lt (α := List UInt8) (p := fun i t => W.cell? (a.add i) = some (aD t) ∧ D i = .lit (.string t)) (n := m) (fun i him => by
      obtain ⟨cs', hc, ht⟩ := hi i him
      obtain ⟨s, e1, f1, _⟩ := DataW.trod_string Try.underlying9 ht
      subst e1
      refine ⟨s.data.toList, ?_, by have := congrArg Prod.fst f1; simpa using this⟩
      have := (World.cells?_some hc).2.2 0 (by omega)
      simpa [Addr.add] using this)
    refine ⟨(List.range len).map T, some a, m, by simp, by simpa using hl, hm, ⟨by simp, fun h0 => ?_⟩, ?_⟩
    · simp only [List.length_map, List.length_range] at h0 ⊢
      have hs : a.spot = none := World.cell?_spot (a := a) (by have := (hT 0 (by omega)).1; simpa [Addr.add] using this)
      obtain ⟨b, off, spot⟩ := a
      simp only at hs
      subst hs
      refine ⟨b, off, rfl, trivial, ?_, fun j hj => ?_⟩
      · have := (hT 0 (by omega)).1
        exact World.block_lt_of_cell? W ⟨b, off, none⟩ (by simpa [Addr.add] using this)
      · have := (hT j (by omega)).1
        rw [lP] at this
        rw [this]; simp [show j < len by omega]
    · rw [hx]
      have := mW (g := T) (D := D) (List.range len) (fun i hi' => (hT i (by have := List.mem_range.1 hi'; omega)).2)
      simp only [Rows.uptoBulk]; omega
theorem oP : ∀ (q n : Nat) (cs : List Value) (x : DataW H × List MemPlace), Rows.uptoBulk x.1 ≤ q → DataW.trod enc Try.prog W 0 (fun _ => true) true n 25 cs = some x → ∃ t, TreeIs Any W t cs ∧ tbulk t ≤ Rows.uptoBulk x.1
  | q, n, cs, x, hq, h => by
    obtain ⟨y0, y1, y2, y3, n', hx, hl, h0, h1, h2, h3⟩ := trod_struct4 Try.underlying25 h
    rw [k0] at hl
    obtain ⟨v0, v1, v2, v3, rfl⟩ := l8 hl
    simp only [qr, mt, rt, rD, List.drop_zero, List.drop_succ_cons, List.take_succ_cons, List.take_zero] at h0 h1 h2 h3
    obtain ⟨k, e0, f0, _⟩ := DataW.trod_int Try.underlying3 h0
    obtain ⟨s1, e1, f1, _⟩ := DataW.trod_string Try.underlying9 h1
    obtain ⟨ls, A, m, e2, l1, l2, l3, l4⟩ := sG h2
    simp only [List.cons.injEq, and_true] at e0 e1
    have hbk : Rows.uptoBulk x.1 = Rows.uptoBulk y0.1 + (Rows.uptoBulk y1.1 + (Rows.uptoBulk y2.1 + (Rows.uptoBulk y3.1 + 0))) + 1 := by rw [hx]; simp only [Rows.uptoBulk, Rows.uptoBulkAll]
    have hs1 : Rows.uptoBulk y1.1 = s1.data.toList.length + 1 := by
      have : y1.1 = .lit (.string s1.data.toList) := by rw [f1]
      rw [this]; rfl
    have go : ∃ (ks : List Tree) (B : Option Addr) (c : Nat) (cells : List Value), v3 = .slice B ks.length c ∧ ks.length ≤ c ∧ c ≤ maxLen ∧ KidsAre Any W ks cells ∧ RowIn Any W 4 B ks.length cells ∧ kbulk ks ≤ Rows.uptoBulk y3.1 := by
      rcases open_slice Try.underlying23 h3 with ⟨hcs, hx3⟩ | ⟨a, len, cap, m3, n3, D, Pl, hcs, hb, hl3, hm3, hmm, hx3, hi⟩
      · simp only [List.cons.injEq, and_true] at hcs
        exact ⟨[], none, 0, [], hcs, Nat.le_refl _, by simp [maxLen], rfl, RowIn.none_, by simp [kbulk]⟩
      · simp only [List.cons.injEq, and_true] at hcs
        simp only [if_true] at hmm
        subst hmm hcs
        rw [k0] at hi
        have hall : Rows.uptoBulk y3.1 = Rows.uptoBulkAll ((List.range len).map D) + Rows.uptoBulkAll ((List.range (m3 - len)).map fun j => D (len + j)) + 1 := by rw [hx3]; simp only [Rows.uptoBulk]
        have hle : ∀ (l : List Nat) i, i ∈ l → Rows.uptoBulk (D i) ≤ Rows.uptoBulkAll (l.map D) := by
          intro l i hi'
          induction l with
          | nil => cases hi'
          | cons j r ih =>
            simp only [List.map_cons, Rows.uptoBulkAll]
            rcases List.mem_cons.1 hi' with e | e
            · subst e; omega
            · have := ih e; omega
        obtain ⟨T, hT⟩ := choose_lt (α := Tree × List Value) (p := fun i t => i < len → W.cells? 0 (a.add (i * 4)) 4 = some t.2 ∧ TreeIs Any W t.1 t.2 ∧ tbulk t.1 ≤ Rows.uptoBulk (D i)) (n := m3) (fun i him => by
          by_cases hil : i < len
          · obtain ⟨cs', hc, ht⟩ := hi i him
            have hb1 := hle (List.range len) i (by simp [hil])
            obtain ⟨t, g1, g2⟩ := oP (q - 1) n3 cs' (D i, Pl i) (by simp only; omega) ht
            exact ⟨(t, cs'), fun _ => ⟨hc, g1, g2⟩⟩
          · exact ⟨(eo, []), fun h => absurd h hil⟩)
        have hTl : ∀ i, i ∈ List.range len → W.cells? 0 (a.add (i * 4)) 4 = some (T i).2 ∧ TreeIs Any W (T i).1 (T i).2 ∧ tbulk (T i).1 ≤ Rows.uptoBulk (D i) := fun i hi' => by
          have := List.mem_range.1 hi'
          exact hT i (by omega) this
        refine ⟨(List.range len).map fun i => (T i).1, some a, m3, (List.range len).flatMap fun i => (T i).2, by simp, by simpa using hl3, hm3, kR _ (fun i hi' => (hTl i hi').2.1), ⟨?_, fun h0 => ?_⟩, ?_⟩
        · have := (kR (W := W) (g := fun i => (T i).1) (c := fun i => (T i).2) (List.range len) (fun i hi' => (hTl i hi').2.1)).length
          rw [this]
        · simp only [List.length_map, List.length_range] at h0 ⊢
          have hcell : ∀ i, i < len → ∀ r, r < 4 → W.cell? ((a.add (i * 4)).add r) = (T i).2[r]? := fun i hi' r hr => by
            have h4 := (hTl i (by simp [hi'])).2.1.four
            have := (World.cells?_some (hTl i (by simp [hi'])).1).2.2 r (by omega)
            rw [this]
          have hsome : ∃ v, W.cell? a = some v := by
            have h4 := (hTl 0 (by simp [h0])).2.1.four
            have := hcell 0 h0 0 (by omega)
            refine ⟨(T 0).2[0]'(by omega), ?_⟩
            rw [List.getElem?_eq_getElem (by omega)] at this
            simpa [Addr.add] using this
          obtain ⟨vv, hvv⟩ := hsome
          have hs : a.spot = none := World.cell?_spot (a := a) hvv
          obtain ⟨b, off, spot⟩ := a
          simp only at hs
          subst hs
          refine ⟨b, off, rfl, trivial, World.block_lt_of_cell? W ⟨b, off, none⟩ hvv, fun j hj => ?_⟩
          have e := hcell (j / 4) (by omega) (j % 4) (by omega)
          rw [lP, lP, show off + j / 4 * 4 + j % 4 = off + j by omega] at e
          have e2 := oG (c := fun i => (T i).2) (List.range len) (j / 4) (j % 4) (fun i hi' => (hTl i hi').2.1.four) (by omega)
          rw [show j / 4 * 4 + j % 4 = j by omega] at e2
          rw [e, e2]; simp [show j / 4 < len by omega]
        · have := l7 (g := fun i => (T i).1) (D := D) (List.range len) (fun i hi' => (hTl i hi').2.2)
          omega
    obtain ⟨ks, B, c, cells, e3, k1, k2, k3, k4, k5⟩ := go
    refine ⟨.node k s1.data.toList ls ks, ?_, ?_⟩
    · subst e0 e1 e2 e3
      simp only [TreeIs]
      exact ⟨A, m, B, c, by simp, l1, l2, k1, k2, l3, cells, k3, k4⟩
    · simp only [tbulk]
      omega
  termination_by q => q
  decreasing_by omega
theorem vk {v : Value} {d : DataW H} {p : List MemPlace} (h : DataW.Trod enc Try.prog W 0 (fun _ => true) true 25 v d p) : ∃ t c0 c1 c2 c3, v.cells = #[c0, c1, c2, c3] ∧ TreeIs Any W t [c0, c1, c2, c3] ∧ tbulk t ≤ Rows.uptoBulk d := by
  obtain ⟨fuel, hf⟩ := h
  obtain ⟨t, h1, h2⟩ := oP _ fuel _ _ (Nat.le_refl _) hf
  have h4 := h1.four
  obtain ⟨c0, c1, c2, c3, e⟩ := l8 h4
  refine ⟨t, c0, c1, c2, c3, ?_, e ▸ h1, h2⟩
  apply Array.ext'
  simpa using e
end
end Go.Proofs.Yteglbnopdedadaa
namespace Go.Proofs.Yteglbnopdedadaa
open Go.RowKit
def bE (R : List Nat) (l : List (Nat × Ob)) : List (Nat × Ob) := l.filter fun p => dG p.1 R
def ung : Ob → Ob
  | .free => .gone
  | o => o
def bU (nx : Nat) (R : List Nat) (l : List (Nat × Ob)) : List (Nat × Ob) := (l.filter fun p => !dG p.1 R && Nat.blt p.1 nx).map fun p => (p.1, ung p.2)
theorem iZ {α : Type} {R : List Nat} : ∀ (l : List (Nat × Ob)) (c : List (Nat × Ob) → α), j4 R l c = c (bE R l)
  | [], c => rfl
  | (i, o) :: r, c => by
    simp only [j4]
    cases h : dG i R
    · simp only; rw [iZ r]; simp [bE, h]
    · simp only; rw [iZ r]; simp [bE, h]
theorem jg {α : Type} {nx : Nat} {R : List Nat} : ∀ (l : List (Nat × Ob)) (c : List (Nat × Ob) → α), jn nx R l c = c (bU nx R l)
  | [], c => rfl
  | (i, o) :: r, c => by
    simp only [jn]
    cases h : (!dG i R && Nat.blt i nx)
    · simp only; rw [jg r]; simp only [bU, List.filter_cons, h]; rfl
    · cases o <;> (simp only; rw [jg r]; simp only [bU, List.filter_cons, h]; rfl)
theorem ic {R : List Nat} {i : Nat} : ∀ {l : List (Nat × Ob)}, ai (bE R l) i = ai l i ∨ (dG i R = false ∧ ai (bE R l) i = .gone)
  | [] => .inl rfl
  | (j, o) :: r => by
    by_cases hj : j = i
    · subst hj
      cases h : dG j R
      · right
        refine ⟨rfl, ?_⟩
        have ih := ic (R := R) (i := j) (l := r)
        simp only [bE, List.filter_cons, h] at ih ⊢
        simp only [Bool.false_eq_true, if_false]
        clear ih
        have key : ∀ (l : List (Nat × Ob)), ai (l.filter fun p => dG p.1 R) j = .gone := by
          intro l
          induction l with
          | nil => rfl
          | cons q t ih =>
            obtain ⟨k, o'⟩ := q
            simp only [List.filter_cons]
            split
            · rename_i hk
              have : k ≠ j := fun e => by subst e; simp [h] at hk
              simp only [ai, nbF this]; exact ih
            · exact ih
        exact key r
      · left
        simp only [bE, List.filter_cons, h, if_true, ai, nbT]
    · have ih := ic (R := R) (i := i) (l := r)
      simp only [bE, List.filter_cons]
      split
      · simp only [ai, nbF hj]; exact ih
      · simp only [ai, nbF hj]; exact ih
theorem mx {R : List Nat} {i : Nat} (h : dG i R = false) (l : List (Nat × Ob)) : ai (bE R l) i = .gone := by
  induction l with
  | nil => rfl
  | cons q t ih =>
    obtain ⟨k, o'⟩ := q
    simp only [bE, List.filter_cons]
    split
    · rename_i hk
      have : k ≠ i := fun e => by subst e; simp [h] at hk
      simp only [ai, nbF this]; exact ih
    · exact ih
theorem qC {nx : Nat} {R : List Nat} {i : Nat} (l : List (Nat × Ob)) : ai (bU nx R l) i = if (!dG i R && Nat.blt i nx) = true then ung (ai l i) else .gone := by
  induction l with
  | nil => simp [bU, ai, ung]
  | cons q t ih =>
    obtain ⟨k, o⟩ := q
    by_cases hk : k = i
    · subst hk
      cases h : (!dG k R && Nat.blt k nx)
      · rw [h] at ih
        simp only [bU, List.filter_cons, h, Bool.false_eq_true, if_false] at ih ⊢
        exact ih
      · simp only [bU, List.filter_cons, h, if_true, List.map_cons, ai, nbT]
    · have e : ai ((k, o) :: t) i = ai t i := by simp only [ai, nbF hk]
      rw [e, ← ih]
      simp only [bU, List.filter_cons]
      split
      · simp only [List.map_cons, ai, nbF hk]
      · rfl
section
variable {P : Program} {T : Tab} {K : Ctx} {Q : Exit → Act → World → Prop} {s : List EI} {n : Nat} {F : Fm} {H : Hp}
theorem oU (lo : Nat) (H : Hp) (v : V) : ∃ v' H', (∀ (α : Type) (c : V → Hp → α), pO lo H v c = c v' H') ∧ H'.nx = H.nx ∧ (∀ K S w ρ x, HRel S w ρ H.get → Inv K S w ρ H.get → VRel S w ρ v x → ∃ S', HRel S' w ρ H'.get ∧ Inv K S' w ρ H'.get ∧ Up S S' w w ρ ρ ∧ VRel S' w ρ v' x) := by
  have triv : ∃ v' H', (∀ (α : Type) (c : V → Hp → α), c v H = c v' H') ∧ H'.nx = H.nx ∧ (∀ K S w ρ x, HRel S w ρ H.get → Inv K S w ρ H.get → VRel S w ρ v x → ∃ S', HRel S' w ρ H'.get ∧ Inv K S' w ρ H'.get ∧ Up S S' w w ρ ρ ∧ VRel S' w ρ v' x) := ⟨v, H, fun _ _ => rfl, rfl, fun K S w ρ x h1 h2 h3 => ⟨S, h1, h2, Up.refl, h3⟩⟩
  cases v with
  | sl id =>
    simp only [pO]
    split
    · split
      · rename_i e sz els ho
        split
        · rename_i hpu
          refine ⟨.row sz els, ⟨H.nx, gd id H.es⟩, fun α c => by rw [ka], rfl, fun K S w ρ x hr hi hx => ?_⟩
          have hg : (⟨H.nx, gd id H.es⟩ : Hp).get = bi H.get id .gone := by
            funext i
            unfold Hp.get
            by_cases hii : i = id
            · subst hii
              rw [aZ]
              simp only []
              have hlt : Nat.blt i H.nx = true := by
                unfold Hp.get at ho
                split at ho
                · assumption
                · cases ho
              rw [hlt]
              simp only [fR, if_true]
            · rw [bu _ _ hii]
              simp only [fR, if_neg hii]
          refine ⟨_, by rw [hg]; exact (di hr).1, by rw [hg]; exact hi.frz hr id, (di hr).2, la hr ho hpu hx⟩
        · exact triv
      · exact triv
    · exact triv
  | _ => exact triv
theorem ot (lo : Nat) : ∀ (vs : List V) (H : Hp), ∃ vs' H', (∀ (α : Type) (c : List V → Hp → α), o8 lo H vs c = c vs' H') ∧ H'.nx = H.nx ∧ (∀ K S w ρ xs, HRel S w ρ H.get → Inv K S w ρ H.get → LRel S w ρ vs xs → ∃ S', HRel S' w ρ H'.get ∧ Inv K S' w ρ H'.get ∧ Up S S' w w ρ ρ ∧ LRel S' w ρ vs' xs)
  | [], H => ⟨[], H, fun _ _ => rfl, rfl, fun K S w ρ x h1 h2 h3 => ⟨S, h1, h2, Up.refl, h3⟩⟩
  | v :: r, H => by
    obtain ⟨v', H1, e1, n1, k1⟩ := oU lo H v
    obtain ⟨r', H2, e2, n2, k2⟩ := ot lo r H1
    refine ⟨v' :: r', H2, fun α c => by simp only [o8, e1, e2], n2.trans n1, fun K S w ρ xs hr hi hx => ?_⟩
    simp only [LRel] at hx
    obtain ⟨x, ys, rfl, h1, h2⟩ := hx
    obtain ⟨S1, a1, a2, a3, a4⟩ := k1 K S w ρ x hr hi h1
    obtain ⟨S2, b1, b2, b3, b4⟩ := k2 K S1 w ρ ys a1 a2 (h2.up a3)
    exact ⟨S2, b1, b2, ⟨fun b hb => b3.s b (a3.s b hb), fun _ _ _ => rfl, fun _ _ h => h⟩, x, ys, rfl, a4.up b3, b4⟩
theorem tk (lo : Nat) (H : Hp) (v : V) : ∃ v' H', (∀ (α : Type) (c : V → Hp → α), rB lo H v c = c v' H') ∧ H'.nx = H.nx ∧ (∀ K S w ρ x, HRel S w ρ H.get → Inv K S w ρ H.get → VRel S w ρ v x → ∃ S', HRel S' w ρ H'.get ∧ Inv K S' w ρ H'.get ∧ Up S S' w w ρ ρ ∧ VRel S' w ρ v' x) := by
  have h0 := oU lo H v
  cases v
  case agg cs =>
    obtain ⟨vs', H', e, hn, k⟩ := ot lo cs H
    refine ⟨.agg vs', H', fun α c => by simp only [rB, e], hn, fun K S w ρ x hr hi hx => ?_⟩
    simp only [VRel] at hx
    obtain ⟨xs, rfl, h1⟩ := hx
    obtain ⟨S', a1, a2, a3, a4⟩ := k K S w ρ xs hr hi h1
    exact ⟨S', a1, a2, a3, by simp only [VRel]; exact ⟨xs, rfl, a4⟩⟩
  all_goals exact h0
theorem lC (lo : Nat) : ∀ (vs : List V) (H : Hp), ∃ vs' H', (∀ (α : Type) (c : List V → Hp → α), nK lo H vs c = c vs' H') ∧ H'.nx = H.nx ∧ (∀ K S w ρ xs, HRel S w ρ H.get → Inv K S w ρ H.get → LRel S w ρ vs xs → ∃ S', HRel S' w ρ H'.get ∧ Inv K S' w ρ H'.get ∧ Up S S' w w ρ ρ ∧ LRel S' w ρ vs' xs)
  | [], H => ⟨[], H, fun _ _ => rfl, rfl, fun K S w ρ x h1 h2 h3 => ⟨S, h1, h2, Up.refl, h3⟩⟩
  | v :: r, H => by
    obtain ⟨v', H1, e1, n1, k1⟩ := tk lo H v
    obtain ⟨r', H2, e2, n2, k2⟩ := lC lo r H1
    refine ⟨v' :: r', H2, fun α c => by simp only [nK, e1, e2], n2.trans n1, fun K S w ρ xs hr hi hx => ?_⟩
    simp only [LRel] at hx
    obtain ⟨x, ys, rfl, h1, h2⟩ := hx
    obtain ⟨S1, a1, a2, a3, a4⟩ := k1 K S w ρ x hr hi h1
    obtain ⟨S2, b1, b2, b3, b4⟩ := k2 K S1 w ρ ys a1 a2 (h2.up a3)
    exact ⟨S2, b1, b2, ⟨fun b hb => b3.s b (a3.s b hb), fun _ _ _ => rfl, fun _ _ h => h⟩, x, ys, rfl, a4.up b3, b4⟩
variable {all : Array Oper} {rest : List Oper} {o : Oper} {u : V} {H' : Hp}
theorem ua {ok : Bool} (hw : aJ F all o.guard = some true) (hx : gu P K o [] ok n F H u H') (k : Go P K Q (.ops all rest) s n (F.seto o.dst (some u)) H') : Go P K Q (.ops all (o :: rest)) s n F H := fun S w ρ a hr hi hF => by
  show wpList P all (bB P Q s) (o :: rest) a w
  unfold wpList
  rw [if_pos (be hF hw)]
  exact .inl (hx S w ρ a hr hi hF _ _ fun x S' w' ρ' hr' hi' hu _ _ hv => k S' w' ρ' _ hr' hi' (bw (hF.up hu) o.dst hv))
variable {L : List Nat} {m left i : Nat} {listed : Array Bool}
theorem t6 (hrd : Region.ready .any all listed = [i]) (hi : all[i]? = some o) (hw : aJ F all o.guard = some true) (hx : gu P K o L ((listed.setIfInBounds i true).getD m false) n F H u H') (k : Go P K Q (.drw all L m left (listed.setIfInBounds i true)) s n (F.seto o.dst (some u)) H') : Go P K Q (.drw all L m (left + 1) listed) s n F H := fun S w ρ a hr hiv hF hs => by
  refine fZ (S := S) hrd ?_
  unfold wpOp
  simp only [hi]
  rw [if_pos (be hF hw)]
  exact .inl (hx S w ρ a hr hiv hF _ _ fun x S' w' ρ' hr' hi' hu hA hL hv => fB hu hA hL (k S' w' ρ' _ hr' hi' (bw (hF.up hu) o.dst hv) hs))
def dX (P : Program) (K : Ctx) (Q : Exit → Act → World → Prop) (n : Nat) : Rs → Prop
  | .ok e F H => ∀ S w ρ a, HRel S w ρ H.get → Inv K S w ρ H.get → FRel S w ρ a n F → Q (match e with | true => .ret | false => .normal) a w
  | .pt p s F H => Go P K Q p s n F H
  | .er _ _ => False
variable {ih : EP → List EI → Fm → Hp → Rs}
theorem oo {S : Nat → Prop} {w : World} {ρ : Nat → Option Value} {x : Value} : ∀ {rs : List V}, VRel S w ρ (fX rs) x → ∃ ys, LRel S w ρ rs ys ∧ x = jN ys
  | [], hvx => by simp only [fX, VRel] at hvx; obtain ⟨ys, rfl, h1⟩ := hvx; exact ⟨ys, h1, by simp only [LRel] at h1; subst h1; rfl⟩
  | [v], hvx => ⟨[x], ⟨x, [], rfl, hvx, rfl⟩, rfl⟩
  | v :: u :: r, hvx => by
    simp only [fX, VRel] at hvx; obtain ⟨ys, rfl, h1⟩ := hvx
    refine ⟨ys, h1, ?_⟩
    simp only [LRel] at h1
    obtain ⟨_, _, rfl, _, _, _, rfl, _⟩ := h1
    rfl
theorem rp (hT : TabOk P T) (IH : ∀ p s F H K Q n, dX P K Q n (ih p s F H) → Go P K Q p s n F H) {X : Rs → Prop} (hX : ∀ n m, ¬ X (.er n m)) {keep ok : Bool} {vs : List V} {fid : FuncId} {fn : Func} {b : Code} {c : V → Hp → Rs} (hf : P.funcs[fid]? = some fn) (hb : fn.body = some b) (hl : Nat.ble vs.length fn.ntmps = true)
    (h : X (pr T ih keep vs fn b H L ok c)) : ∃ u H' L', (L' = L ∨ ok = true) ∧ CallR P K fid vs H L' (fun u' H'' => u' = u ∧ H'' = H') ∧ X (c u H') := by
  unfold pr at h
  simp only [] at h
  generalize hR : gl H 40 (jh vs []) [] = R at h
  split at h
  · rename_i hok
    rw [iZ] at h
    split at h
    · rename_i e F1 H1 hrun
      split at h
      · rename_i rs hres
        split at h
        · rename_i hnx
          have hnx' : H.nx ≤ H1.nx := Nat.le_of_ble_eq_true hnx
          -- the objects that the call gets
          have hin : ∀ i, (⟨H.nx, bE R H.es⟩ : Hp).get i = H.get i ∨ (⟨H.nx, bE R H.es⟩ : Hp).get i = .gone := fun i => by
            unfold Hp.get
            simp only []
            split
            · rcases ic (R := R) (i := i) (l := H.es) with e | ⟨_, e⟩
              · exact .inl e
              · exact .inr e
            · exact .inl rfl
          have hout : ∀ i, dG i R = false → Nat.blt i H.nx = true → (⟨H.nx, bE R H.es⟩ : Hp).get i = .gone := fun i hi hlt => by
            unfold Hp.get
            simp only [hlt]
            exact mx hi _
          -- the objects behind the call
          have key : ∀ (H2 : Hp) (es3 : List (Nat × Ob)), H2.nx = H1.nx → (∀ i, ai es3 i = ai H2.es i ∨ ai es3 i = .gone) → ∀ i, ((⟨H2.nx, es3 ++ bU H.nx R H.es⟩ : Hp).get i = H2.get i ∨ (⟨H2.nx, es3 ++ bU H.nx R H.es⟩ : Hp).get i = .gone) ∨ ((⟨H2.nx, es3 ++ bU H.nx R H.es⟩ : Hp).get i = H.get i ∧ (⟨H.nx, bE R H.es⟩ : Hp).get i = .gone ∧ H.get i ≠ .free) := fun H2 es3 hn h3 i => by
            by_cases hlt2 : Nat.blt i H2.nx = true
            · have e0 : (⟨H2.nx, es3 ++ bU H.nx R H.es⟩ : Hp).get i = ai (es3 ++ bU H.nx R H.es) i := by unfold Hp.get; simp only [hlt2]
              have e2 : H2.get i = ai H2.es i := by unfold Hp.get; rw [hlt2]
              rw [e0, e2]
              rcases nO es3 (bU H.nx R H.es) i with e | ⟨e', e⟩
              · rw [e]
                rcases h3 i with h3 | h3
                · exact .inl (.inl h3)
                · exact .inl (.inr h3)
              · rw [e]
                rw [qC]
                cases hm : (!dG i R && Nat.blt i H.nx)
                · exact .inl (.inr (by simp))
                · have hm' := hm
                  simp only [Bool.and_eq_true, Bool.not_eq_true'] at hm'
                  have eH : H.get i = ai H.es i := by unfold Hp.get; rw [hm'.2]
                  rw [if_pos rfl]
                  cases hf : ai H.es i
                  case free => exact .inl (.inr rfl)
                  all_goals exact .inr ⟨by rw [eH, hf]; rfl, hout i hm'.1 hm'.2, by rw [eH, hf]; simp⟩
            · have e0 : (⟨H2.nx, es3 ++ bU H.nx R H.es⟩ : Hp).get i = .free := by
                unfold Hp.get; simp only [Bool.not_eq_true] at hlt2; simp only [hlt2]
              have e2 : H2.get i = .free := by unfold Hp.get; simp only [Bool.not_eq_true] at hlt2; rw [hlt2]
              exact .inl (.inl (by rw [e0, e2]))
          -- what holds behind the call
          have fin : ∀ (H2 : Hp) (es3 : List (Nat × Ob)) (rs2 : List V), H2.nx = H1.nx → (∀ i, ai es3 i = ai H2.es i ∨ ai es3 i = .gone) →
              (∀ K S w ρ xs, HRel S w ρ H1.get → Inv K S w ρ H1.get → LRel S w ρ rs xs → ∃ S', HRel S' w ρ H2.get ∧ Inv K S' w ρ H2.get ∧ Up S S' w w ρ ρ ∧ LRel S' w ρ rs2 xs) →
              ∃ L', (L' = L ∨ ok = true) ∧ CallR P K fid vs H L' (fun u' H'' => u' = fX rs2 ∧ H'' = ⟨H2.nx, es3 ++ bU H.nx R H.es⟩) := fun H2 es3 rs2 hn h3 hfz => by
            have main : ∀ L', (∀ (S : Nat → Prop) (w : World) (ρ : Nat → Option Value), HRel S w ρ H.get → L' = [] ∨ (bt H.get L' = true ∧ ∀ id, id ∈ L' → (⟨H.nx, bE R H.es⟩ : Hp).get id = .gone)) → CallR P K fid vs H L' (fun u' H'' => u' = fX rs2 ∧ H'' = ⟨H2.nx, es3 ++ bU H.nx R H.es⟩) := fun L' hL' S w ρ xs hr hi hx => by
              have hr1 := hr.drop (h' := (⟨H.nx, bE R H.es⟩ : Hp).get) hin
              have hi1 : Inv ⟨w, S, fun b => ∃ id, own ρ id ((⟨H.nx, bE R H.es⟩ : Hp).get id) b, ρ⟩ S w ρ (⟨H.nx, bE R H.es⟩ : Hp).get := ⟨ChgP.refl _ _, fun _ h => h, fun _ h => .inl h, fun id b hb => .inl ⟨id, hb⟩, fun _ _ h => h⟩
              refine kC hf hb hl hr1 hi1 hx (IH _ _ _ _ _ _ _ ?_)
              rw [hrun]
              intro S' w' ρ' a' hr' hi' hF'
              obtain ⟨rl, hrl⟩ : ∃ l : List ResultVar, fn.results = l.toArray := ⟨fn.results.toList, by simp⟩
              rw [hrl] at hres
              refine ret_go hT (rs := rl) (by cases e <;> simp) hrl hr' hF' (by simpa using hres) fun x hvx => ?_
              have hLR := oo hvx
              obtain ⟨ys, hys, rfl⟩ := hLR
              obtain ⟨S2, a1, a2, a3, a4⟩ := hfz _ S' w' ρ' ys hr' hi' hys
              obtain ⟨m1, m2, m3, m4⟩ := m9 (h1 := (⟨H.nx, bE R H.es⟩ : Hp).get) (h2 := (⟨H2.nx, es3 ++ bU H.nx R H.es⟩ : Hp).get) hr hi hin a1 a2 (key H2 es3 hn h3)
              refine ⟨_, S2, ρ', _, _, rfl, ⟨rfl, rfl⟩, m1, m2, m3, om a4, ?_⟩
              rcases hL' S w ρ hr with rfl | ⟨g1, g2⟩
              · intro id hid; simp at hid
              · exact m4 L' g1 g2
            rcases j0 hok with hok | hok
            · simp only [Bool.and_eq_true] at hok
              refine ⟨L, .inl rfl, main L fun S w ρ hr => .inr ⟨hok.1, fun id hid => ?_⟩⟩
              have hmem := List.all_eq_true.1 hok.2 id hid
              simp only [Bool.not_eq_true'] at hmem
              by_cases hlt : Nat.blt id H.nx = true
              · exact hout id hmem hlt
              · exfalso
                have hfree : H.get id = .free := by unfold Hp.get; simp only [Bool.not_eq_true] at hlt; rw [hlt]
                have hnl : ∀ (l : List Nat), id ∈ l → bt H.get l = true → False := by
                  intro l
                  induction l with
                  | nil => intro h; simp at h
                  | cons j t ih =>
                    intro hm hl
                    simp only [bt] at hl
                    rcases List.mem_cons.1 hm with e | e
                    · subst e; rw [hfree] at hl; cases hl
                    · split at hl
                      · exact ih e hl
                      · exact ih e hl
                      · cases hl
                exact hnl L hid hok.1
            · exact ⟨[], .inr hok, main [] fun _ _ _ _ => .inl rfl⟩
          split at h
          · rw [jg] at h
            obtain ⟨L', g1, g2⟩ := fin H1 H1.es rs rfl (fun i => .inl rfl) (fun K S w ρ xs h1 h2 h3 => ⟨S, h1, h2, Up.refl, h3⟩)
            exact ⟨_, _, L', g1, g2, h⟩
          · obtain ⟨rs2, H2, e1, e2, e3⟩ := lC H.nx rs H1
            rw [e1] at h
            rw [iZ, jg] at h
            obtain ⟨L', g1, g2⟩ := fin H2 (bE _ H2.es) rs2 e2 (fun i => by
              rcases ic (R := gl H2 60 (jh rs2 R) []) (i := i) (l := H2.es) with e | ⟨_, e⟩
              · exact .inl e
              · exact .inr e) e3
            exact ⟨_, _, L', g1, g2, h⟩
        · exact absurd h (hX _ _)
      · exact absurd h (hX _ _)
    · exact absurd h (hX _ _)
    · exact absurd h (hX _ _)
  · exact absurd h (hX _ _)
theorem gE (hT : TabOk P T) (IH : ∀ p s F H K Q n, dX P K Q n (ih p s F H) → Go P K Q p s n F H) {X : Rs → Prop} (hX : ∀ n m, ¬ X (.er n m)) {ok : Bool} {c : Option V → Hp → Rs} (h : X (jm T ih F H L ok o c)) : ∃ u H', gu P K o L ok n F H u H' ∧ X (c (some u) H') := by
  unfold jm at h
  split at h
  · rename_i v hv
    exact ⟨v, H, qZ hT hv, h⟩
  · rw [bx] at h
    split at h
    · rename_i v ed hv
      split at h
      · rename_i hc
        rw [Hp.ap_eq] at h
        refine ⟨_, _, et hT hv hc, ?_⟩
        cases v with
        | none => exact h
        | some v => exact h
      · exact absurd h (hX _ _)
    · split at h
      · rename_i fid args tys hop
        split at h
        · rename_i vs hvs
          split at h
          · rename_i v hn
            obtain ⟨he, hnat⟩ := hT.nat _ _ _ hn
            refine ⟨v, H, fg (L' := L) he (by rw [hop]) hvs (fun S w ρ xs hr hi hx => ?_) (.inl rfl), h⟩
            obtain ⟨x, h1, h2⟩ := hnat S w ρ xs hx
            refine h2.mono fun e w' hR => ?_
            obtain ⟨rfl, rfl⟩ := hR
            exact ⟨x, S, ρ, v, H, rfl, ⟨rfl, rfl⟩, hr, hi, Up.refl, h1, fV⟩
          · split at h
            · rename_i fn hfn
              obtain ⟨hf, he⟩ := hT.fn _ _ hfn
              split at h
              · rename_i b hb
                split at h
                · rename_i hl
                  obtain ⟨u, H', L', g1, g2, g3⟩ := rp (K := K) hT IH hX hf hb hl h
                  exact ⟨u, H', fg he (by rw [hop]) hvs g2 g1, g3⟩
                · exact absurd h (hX _ _)
              · exact absurd h (hX _ _)
            · exact absurd h (hX _ _)
        · exact absurd h (hX _ _)
      · exact absurd h (hX _ _)
theorem qD {l : List Nat} {j : Nat} (h : mO l j = true) : l = [j] := by
  unfold mO at h
  split at h
  · rw [Nat.eq_of_beq_eq_true h]
  · cases h
theorem nD (hT : TabOk P T) (IH : ∀ p s F H K Q n, dX P K Q n (ih p s F H) → Go P K Q p s n F H) {i : Nat} {ps : List (Nat × Operand)} {vs : List (Nat × V)} {v : V} (hp : ir T all i vs = some (o, ps, v)) : ∀ (left : Nat) (listed : Array Bool) (F : Fm) (H : Hp), dX P K Q n (mB T ih all L m i o ps v s left listed F H) → GoP P K Q all L m left listed s n F H i o ps vs v
  | left, listed, F, H, h => by
    unfold mB at h
    split at h
    · rename_i hl
      split at h
      · rename_i x hrd
        split at h
        · rename_i hb
          have := Nat.eq_of_beq_eq_true hb
          subst this
          rw [Fm.puto_eq] at h
          exact sO hT hp hrd hl (IH _ _ _ _ _ _ _ h)
        · exact h.elim
      · rename_i x y hrd
        cases left with
        | zero => exact h.elim
        | succ left =>
          simp only [bx] at h
          generalize hj : pG x y i = j at h
          unfold pG at hj
          split at h
          · exact h.elim
          · rename_i hji
            have hne : j ≠ i := Nat.ne_of_beq_eq_false hji
            split at h
            · rename_i oj hoj
              split at h
              · rename_i hc
                simp only [Bool.and_eq_true] at hc
                obtain ⟨⟨⟨hc1, hc2⟩, hc3⟩, hc4⟩ := hc
                split at h
                · rename_i hw
                  obtain ⟨u, H', hx, hk⟩ := gE (K := K) (n := n) hT IH (X := dX P K Q n) (fun _ _ h => h) h
                  rw [Fm.puto_eq] at hk
                  have ih2 := nD hT IH hp left _ _ _ hk
                  have hpair : (match Region.ready .any all listed with | [x, y] => (Nat.beq x i && Nat.beq y j) || (Nat.beq x j && Nat.beq y i) | _ => false) = true := by
                    rw [hrd]
                    simp only []
                    cases hx1 : Nat.beq x i
                    · rw [hx1] at hj
                      cases hy1 : Nat.beq y i
                      · rw [hy1] at hj; exact absurd hj.symm hne
                      · rw [hy1] at hj; simp only at hj; subst hj; simp
                    · rw [hx1] at hj; simp only at hj; subst hj; simp
                  refine rF hT hp hoj hpair (qD hc1) hl (fun t ht => ?_) hc2 hc3 (Array.setIfInBounds_comm _ _ (Ne.symm hne)) (Post := fun u' H'' => u' = u ∧ H'' = H') (fun S w ρ a hr hi hF K2 hK2 => ?_) (fun u' H'' hP => by obtain ⟨rfl, rfl⟩ := hP; exact ih2)
                  · rw [ht] at hc4
                    simp only [Option.isNone_iff_eq_none] at hc4
                    exact hc4
                  · unfold wpOp
                    simp only [hoj]
                    rw [if_pos (be hF hw)]
                    refine .inl (hx S w ρ a hr hi hF _ _ fun x S' w' ρ' hr' hi' hu hA hL hv => hK2 x S' w' ρ' u H' ⟨rfl, rfl⟩ hr' hi' hu hA (hL.imp id fun h => ?_) hv)
                    simpa only [Bool.and_eq_true] using h
                · exact h.elim
              · exact h.elim
            · exact h.elim
      · exact h.elim
    · exact h.elim
theorem sy (hT : TabOk P T) (IH : ∀ p s F H K Q n, dX P K Q n (ih p s F H) → Go P K Q p s n F H) {i j : Nat} {left : Nat} {listed : Array Bool} (hrd : Region.ready .any all listed = [i, j]) (h : dX P K Q n (rn T ih all L m left i j listed s F H)) : Go P K Q (.drw all L m (left + 1) listed) s n F H := by
  unfold rn at h
  split at h
  · rename_i oi hoi
    split at h
    · rename_i oj hoj
      split at h
      · rename_i hwi
        split at h
        · rename_i hwj
          obtain ⟨ui, Hi, xi, hk⟩ := gE (K := K) (n := n) hT IH (X := dX P K Q n) (fun _ _ h => h) h
          rw [Fm.puto_eq] at hk
          split at hk
          · rename_i F1 H1 e1
            obtain ⟨uj, Hj, xj, hk2⟩ := gE (K := K) (n := n) hT IH (X := dX P K Q n) (fun _ _ h => h) hk
            rw [Fm.puto_eq] at hk2
            split at hk2
            · rename_i F2 H2 e2
              split at hk2
              · rename_i hal
                have c : Go P K Q (.ex .normal) s n F1 H1 := IH _ _ _ _ _ _ _ hk2
                intro S w ρ a hr hi hF
                have hpin : ∀ id x, K.pin id = some x → id < H.nx := fun id x hx => Decidable.byContradiction fun hn => by
                  have h1 := hi.pin id x hx
                  have h2 := hr.ob id
                  have h3 : H.get id = .free := by
                    unfold Hp.get
                    have : Nat.blt id H.nx = false := by
                      cases hb : Nat.blt id H.nx
                      · rfl
                      · exact absurd (by simpa [Nat.blt_eq] using hb) hn
                    simp only [this]
                  rw [h3] at h2
                  have h4 : ρ id = none := h2
                  rw [h4] at h1; cases h1
                have g1 : Go P K (bB P Q s) (.drw all L m left (listed.setIfInBounds i true)) [] n (F.seto oi.dst (some ui)) Hi := IH _ _ _ _ _ _ _ (by rw [e1]; exact fun S w ρ a hr hi hF => c S w ρ a hr hi hF)
                have g2 : Go P K (bB P Q s) (.drw all L m left (listed.setIfInBounds j true)) [] n (F.seto oj.dst (some uj)) Hj := IH _ _ _ _ _ _ _ (by rw [e2]; exact fun S w ρ a hr hi hF => go_alike hal hpin c S w ρ a hr hi hF)
                exact fc (by rw [hrd]; simp) hoi hoj hwi hwj xi xj g1 g2 S w ρ a hr hi hF
              · exact hk2.elim
            · exact hk2.elim
            · exact hk2.elim
          · exact hk.elim
          · exact hk.elim
        · exact h.elim
      · exact h.elim
    · exact h.elim
  · exact h.elim
theorem il : ∀ {R : List Nat} {i : Nat} {ps : List (Nat × Operand)} {v : V}, iV T F all R = some (i, o, ps, v) → ∃ vs, eS F ps = some vs ∧ ir T all i vs = some (o, ps, v)
  | [], _, _, _, h => by cases h
  | j :: r, i, ps, v, h => by
    unfold iV at h
    split at h
    · rename_i hj
      split at h
      · rename_i vs hvs
        split at h
        · rename_i o' ps' v' hpb
          simp only [Option.some.injEq, Prod.mk.injEq] at h
          obtain ⟨rfl, rfl, rfl, rfl⟩ := h
          refine ⟨vs, ?_, hpb⟩
          have := hpb
          unfold ir at this
          rw [hj] at this
          simp only at this
          repeat' (split at this)
          all_goals first
            | (cases this; done)
            | (simp only [bx, Option.some.injEq, Prod.mk.injEq] at this; obtain ⟨_, rfl, _⟩ := this; exact hvs)
        · exact il h
      · exact il h
    · exact il h
theorem sF (hT : TabOk P T) (hm : P.follows .mixedOrders = true) (IH : ∀ p s F H K Q n, dX P K Q n (ih p s F H) → Go P K Q p s n F H) : ∀ (p : EP) (s : List EI) (F : Fm) (H : Hp), dX P K Q n (step T ih p s F H) → Go P K Q p s n F H
  | .code c, s, F, H, h => by
    replace h : dX P K Q n (pX T ih c s F H) := h
    unfold pX at h
    split at h
    · exact qN (IH _ _ _ _ _ _ _ h)
    · exact nW (IH _ _ _ _ _ _ _ h)
    · exact oJ (IH _ _ _ _ _ _ _ h)
    · exact go_ret (IH _ _ _ _ _ _ _ h)
    · exact oy (IH _ _ _ _ _ _ _ h)
    · exact re (IH _ _ _ _ _ _ _ h)
    · exact sb (IH _ _ _ _ _ _ _ h)
    · exact go_loop 1000000 (IH _ _ _ _ _ _ _ h)
    · split at h
      · exact ny ‹_› (IH _ _ _ _ _ _ _ h)
      · exact nt ‹_› (IH _ _ _ _ _ _ _ h)
      · exact h.elim
    · exact mp (IH _ _ _ _ _ _ _ h)
    · split at h
      · rename_i hs
        simp only [bg, bx] at h
        exact oV _ _ _ rfl hm hs (IH _ _ _ _ _ _ _ h)
      · exact h.elim
    · exact h.elim
  | .ops all rest, s, F, H, h => by
    replace h : dX P K Q n (ng T ih all rest s F H) := h
    unfold ng at h
    split at h
    · exact qM (IH _ _ _ _ _ _ _ h)
    · split at h
      · rw [Fm.puto_eq] at h
        exact qa ‹_› (IH _ _ _ _ _ _ _ h)
      · obtain ⟨u, H', hx, hk⟩ := gE (K := K) (n := n) hT IH (X := dX P K Q n) (fun _ _ h => h) h
        rw [Fm.puto_eq] at hk
        exact ua ‹_› hx (IH _ _ _ _ _ _ _ hk)
      · exact h.elim
  | .ex e, s, F, H, h => by
    replace h : dX P K Q n (pb ih e s F H) := h
    unfold pb at h
    split at h
    · split at h
      · exact fun S w ρ a hr hi hF => h S w ρ a hr hi hF
      · exact fun S w ρ a hr hi hF => h S w ρ a hr hi hF
      · exact h.elim
    · split at h
      · exact oF (IH _ _ _ _ _ _ _ h)
      · exact nv (IH _ _ _ _ _ _ _ h)
      · exact m5 (IH _ _ _ _ _ _ _ h)
      · exact h.elim
    · split at h
      · split at h
        · exact h.elim
        · exact az (IH _ _ _ _ _ _ _ h)
      · exact aE (IH _ _ _ _ _ _ _ h)
      · exact aW (IH _ _ _ _ _ _ _ h)
      · exact h.elim
    · split at h
      · exact rH (IH _ _ _ _ _ _ _ h)
      · exact rm (IH _ _ _ _ _ _ _ h)
      · exact rX (IH _ _ _ _ _ _ _ h)
      · exact h.elim
    · split at h
      · exact mY (IH _ _ _ _ _ _ _ h)
      · split at h
        · exact nC ‹_› (IH _ _ _ _ _ _ _ h)
        · exact nc ‹_› (IH _ _ _ _ _ _ _ h)
      · exact mT (IH _ _ _ _ _ _ _ h)
      · exact h.elim
  | .drw all L m left listed, s, F, H, h => by
    replace h : dX P K Q n (pw T ih all L m left listed s F H) := h
    unfold pw at h
    split at h
    · exact nQ ‹_› (IH _ _ _ _ _ _ _ h)
    · rename_i i R hrd
      cases left with
      | zero => exact h.elim
      | succ left =>
        simp only [] at h
        split at h
        · split at h
          · rename_i o ho
            split at h
            · rw [Fm.puto_eq] at h
              exact go_d1S hrd ho ‹_› (IH _ _ _ _ _ _ _ h)
            · obtain ⟨u, H', hx, hk⟩ := gE (K := K) (n := n) hT IH (X := dX P K Q n) (fun _ _ h => h) h
              rw [Fm.puto_eq] at hk
              exact t6 hrd ho ‹_› hx (IH _ _ _ _ _ _ _ hk)
            · exact h.elim
          · exact h.elim
        · split at h
          · split at h
            · rename_i o ho
              split at h
              · rename_i hc
                simp only [Bool.and_eq_true, Bool.not_eq_true'] at hc
                obtain ⟨⟨hc1, hc2⟩, hc3⟩ := hc
                split at h
                · rw [Fm.puto_eq] at h
                  exact pK hc3 ho hc2 hc1 ‹_› (IH _ _ _ _ _ _ _ h)
                · rename_i hw
                  split at h
                  · rename_i v hv
                    rw [Fm.puto_eq] at h
                    exact ss hT hc3 ho hc2 hc1 hw hv (IH _ _ _ _ _ _ _ h)
                  · split at h
                    · rename_i id hid
                      split at h
                      · rename_i hL
                        simp only [Bool.and_eq_true, Bool.not_eq_true'] at hL
                        obtain ⟨⟨hL1, hL2⟩, hL3⟩ := hL
                        split at h
                        · rename_i v ed hv
                          rw [Fm.puto_eq] at h
                          exact sr hT hc3 hL2 hL3 ho hc2 hc1 hw hid hL1 hv (IH _ _ _ _ _ _ _ h)
                        · exact h.elim
                      · exact h.elim
                    · exact h.elim
                · exact h.elim
              · exact h.elim
            · exact h.elim
          · split at h
            · rename_i i' o ps v hpo
              rw [Fm.puto_eq] at h
              obtain ⟨vs, g1, g2⟩ := il hpo
              exact qF g1 (nD hT IH g2 left listed _ _ h)
            · split at h
              · exact sy hT IH hrd h
              · exact h.elim
theorem qp (hT : TabOk P T) (hm : P.follows .mixedOrders = true) : ∀ (k : Nat) (p : EP) (s : List EI) (F : Fm) (H : Hp) (K : Ctx) (Q : Exit → Act → World → Prop) (n : Nat), dX P K Q n (run T k p s F H) → Go P K Q p s n F H
  | 0, p, s, F, H, K, Q, n, h => h
  | k + 1, p, s, F, H, K, Q, n, h => sF hT hm (fun p s F H K Q n h => qp hT hm k p s F H K Q n h) p s F H h
def rZ (T : Tab) (k : Nat) (fid : FuncId) (vs : List V) (H : Hp) : Option (List V × Hp) := match T.fn fid with
  | some fn => match fn.body with
    | some b => match Nat.ble vs.length fn.ntmps with
      | true => match run T k (.code b) [] (fb fn.ntmps vs) H with
        | .ok _ F1 H1 => match jb T H1.get F1 fn.results.toList with
          | some rs => some (rs, H1)
          | none => none
        | _ => none
      | false => none
    | none => none
  | none => none
theorem sK (hT : TabOk P T) (hm : P.follows .mixedOrders = true) {k : Nat} {fid : FuncId} {vs rs : List V} {H H1 : Hp} (h : rZ T k fid vs H = some (rs, H1)) {S : Nat → Prop} {w : World} {ρ : Nat → Option Value} {xs : List Value} (hr : HRel S w ρ H.get) (hx : LRel S w ρ vs xs) : bQ P fid = true ∧
    Calls P fid xs.toArray w fun e w' => ∃ S' ρ' ys, e = .returned (jN ys) ∧ HRel S' w' ρ' H1.get ∧ Inv ⟨w, S, fun b => ∃ id, own ρ id (H.get id) b, ρ⟩ S' w' ρ' H1.get ∧ LRel S' w' ρ' rs ys := by
  unfold rZ at h
  split at h
  · rename_i fn hfn
    obtain ⟨hf, he⟩ := hT.fn _ _ hfn
    split at h
    · rename_i b hb
      split at h
      · rename_i hl
        split at h
        · rename_i e F1 H1' hrun
          split at h
          · rename_i rs' hres
            simp only [Option.some.injEq, Prod.mk.injEq] at h
            obtain ⟨rfl, rfl⟩ := h
            refine ⟨he, ?_⟩
            have hi1 : Inv ⟨w, S, fun b => ∃ id, own ρ id (H.get id) b, ρ⟩ S w ρ H.get := ⟨ChgP.refl _ _, fun _ h => h, fun _ h => .inl h, fun id b hb => .inl ⟨id, hb⟩, fun _ _ h => h⟩
            refine kC hf hb hl hr hi1 hx (qp hT hm k _ _ _ _ _ _ _ ?_)
            rw [hrun]
            intro S' w' ρ' a' hr' hi' hF'
            obtain ⟨rl, hrl⟩ : ∃ l : List ResultVar, fn.results = l.toArray := ⟨fn.results.toList, by simp⟩
            rw [hrl] at hres
            refine ret_go hT (rs := rl) (by cases e <;> simp) hrl hr' hF' (by simpa using hres) fun x hvx => ?_
            have hLR := oo hvx
            obtain ⟨ys, hys, rfl⟩ := hLR
            exact ⟨S', ρ', ys, rfl, hr', hi', hys⟩
          · cases h
        · cases h
      · cases h
    · cases h
  · cases h
end
end Go.Proofs.Yteglbnopdedadaa
namespace Go.Proofs.Yteglbnopdedadaa
open Go.RowKit
set_option maxRecDepth 100000
set_option maxHeartbeats 1000000 in
theorem sY (s : ByteArray) (c : Int) (w : World) : Calls Try.prog 85 #[.string s, .int .u8 c] w fun e w' => e = .returned (.int .i64 (Lib.indexByte s.data.toList c.toNat.toUInt8)) ∧ w = w' := by
  go_enter Try.func85, Try.ntmps85
  go_wp2
  rw [run_callFunc_extern Try.func89 (by kernel_rfl) (by kernel_rfl) (by kernel_rfl) (e := Extern.BytealgIndexByte.indexByte) (by kernel_rfl), Lib.run_indexByteString]
  simp only [Result.andThen]
  rw [Oper.upon_value]
  go_wp2
  go_ret
  exact ⟨rfl, rfl⟩
theorem pJ (s : ByteArray) (c : Int) (w : World) : Calls Try.prog 63 #[.string s, .int .u8 c] w fun e w' => e = .returned (.int .i64 (Lib.indexByte s.data.toList c.toNat.toUInt8)) ∧ w = w' := by
  go_enter Try.func63, Try.ntmps63
  go_wp2_with (go_at_call 85; refine (sY _ _ _).mono ?_; rintro e w' ⟨rfl, rfl⟩)
  go_ret
  exact ⟨rfl, rfl⟩
end Go.Proofs.Yteglbnopdedadaa
namespace Go.Proofs.Yteglbnopdedadaa
open Go.RowKit Lx Sx
set_option maxRecDepth 100000
def mD : List (List UInt8) → List V → Bool
  | [], [] => true
  | s :: r, .str l :: q => lEq s l && mD r q
  | _, _ => false
def nB (ls : List (List UInt8)) : V → Bool
  | .nils => ls.isEmpty
  | .row sz els => Nat.beq sz 1 && mD ls els
  | _ => false
mutual
def treeB : Tree → V → Bool
  | .node k s ls ks, v => match v with
    | .agg [.int .i64 k', .str s', l, r] => iEq k k' && lEq s s' && nB ls l && (match r with
      | .nils => ks.isEmpty
      | .row sz els => Nat.beq sz 4 && kidsB ks els
      | _ => false)
    | _ => false
def kidsB : List Tree → List V → Bool
  | [], vs => match vs with
    | [] => true
    | _ => false
  | t :: r, vs => match vs with
    | v :: q => treeB t v && kidsB r q
    | [] => false
end
section
variable {S : Nat → Prop} {w : World}
theorem nm {ρ : Nat → Option Value} : ∀ {ls : List (List UInt8)} {els : List V} {xs : List Value}, mD ls els = true → CRel S w ρ 1 els xs → els.length = ls.length ∧ xs = ls.map aD
  | [], [], xs, _, hc => by simp only [CRel] at hc; subst hc; exact ⟨rfl, rfl⟩
  | s :: r, v :: q, xs, hb, hc => by
    cases v <;> simp only [mD] at hb <;> first | (cases hb; done) | skip
    rename_i l
    simp only [Bool.and_eq_true] at hb
    have hl := hb.1
    rw [iH] at hl
    simp only [beq_iff_eq] at hl
    subst hl
    simp only [CRel] at hc
    obtain ⟨x, ys, rfl, _, h3, h4⟩ := hc
    simp only [VRel] at h3
    subst h3
    obtain ⟨h5, h6⟩ := nm hb.2 h4
    exact ⟨by simp [h5], by simp [h6, Value.cells]⟩
  | [], _ :: _, _, hb, _ => by cases hb
  | _ :: _, [], _, hb, _ => by cases hb
theorem qq {ρ : Nat → Option Value} {ls : List (List UInt8)} {v : V} {x : Value} (hb : nB ls v = true) (hx : VRel S w ρ v x) : ∃ A m, x = .slice A ls.length m ∧ ls.length ≤ m ∧ m ≤ maxLen ∧ RowIn S w 1 A ls.length (ls.map aD) := by
  cases v <;> simp only [nB] at hb <;> first | (cases hb; done) | skip
  · simp only [List.isEmpty_iff] at hb
    subst hb
    simp only [VRel] at hx; subst hx
    exact ⟨none, 0, rfl, Nat.le_refl _, by decide, RowIn.none_⟩
  · rename_i sz els
    simp only [Bool.and_eq_true, Nat.beq_eq] at hb
    obtain ⟨rfl, hb⟩ := hb
    simp only [VRel] at hx
    obtain ⟨A, c, xs, rfl, h3, h4, h5, h6⟩ := hx
    obtain ⟨h7, rfl⟩ := nm hb h5
    rw [h7] at h3 h6 ⊢
    exact ⟨A, c, rfl, h3, h4, h6⟩
mutual
theorem treeB_ok {ρ : Nat → Option Value} : ∀ {t : Tree} {v : V} {x : Value}, treeB t v = true → VRel S w ρ v x → ∃ c, x = .agg c.toArray ∧ TreeIs S w t c
  | .node k s ls ks, v, x, hb, hx => by
    unfold treeB at hb
    split at hb
    · rename_i k' s' l r
      simp only [Bool.and_eq_true] at hb
      obtain ⟨⟨⟨hb1, hb2⟩, hb3⟩, hb4⟩ := hb
      rw [jH] at hb1
      rw [iH] at hb2
      simp only [beq_iff_eq] at hb1 hb2
      subst hb1 hb2
      simp only [VRel] at hx
      obtain ⟨xs, rfl, hl⟩ := hx
      simp only [LRel] at hl
      obtain ⟨x0, _, rfl, h0, x1, _, rfl, h1, x2, _, rfl, h2, x3, _, rfl, h3, rfl⟩ := hl
      simp only [VRel] at h0 h1
      subst h0 h1
      obtain ⟨A, m, rfl, g1, g2, g3⟩ := qq hb3 h2
      have kk : ∃ B n, x3 = .slice B ks.length n ∧ ks.length ≤ n ∧ n ≤ maxLen ∧ ∃ cs, KidsAre S w ks cs ∧ RowIn S w 4 B ks.length cs := by
        split at hb4
        · simp only [List.isEmpty_iff] at hb4
          subst hb4
          simp only [VRel] at h3; subst h3
          exact ⟨none, 0, rfl, Nat.le_refl _, by decide, [], by simp only [KidsAre], RowIn.none_⟩
        · rename_i sz els
          simp only [Bool.and_eq_true, Nat.beq_eq] at hb4
          obtain ⟨rfl, hb4⟩ := hb4
          simp only [VRel] at h3
          obtain ⟨B, c, ys, rfl, q3, q4, q5, q6⟩ := h3
          obtain ⟨q7, q8⟩ := kidsB_ok hb4 q5
          rw [q7] at q3 q6 ⊢
          exact ⟨B, c, rfl, q3, q4, ys, q8, q6⟩
        · cases hb4
      obtain ⟨B, n, rfl, k1, k2, cs, k3, k4⟩ := kk
      exact ⟨_, rfl, s8 g1 g2 k1 k2 g3 k3 k4⟩
    · cases hb
theorem kidsB_ok {ρ : Nat → Option Value} : ∀ {ts : List Tree} {vs : List V} {xs : List Value}, kidsB ts vs = true → CRel S w ρ 4 vs xs → vs.length = ts.length ∧ KidsAre S w ts xs
  | [], vs, xs, hb, hc => by
    unfold kidsB at hb
    split at hb
    · simp only [CRel] at hc; subst hc; exact ⟨rfl, by simp only [KidsAre]⟩
    · cases hb
  | t :: r, vs, xs, hb, hc => by
    unfold kidsB at hb
    split at hb
    · rename_i v q
      simp only [Bool.and_eq_true] at hb
      simp only [CRel] at hc
      obtain ⟨x, ys, rfl, _, h3, h4⟩ := hc
      obtain ⟨c, rfl, hT⟩ := treeB_ok hb.1 h3
      obtain ⟨h5, h6⟩ := kidsB_ok hb.2 h4
      exact ⟨by simp [h5], by simp only [KidsAre]; exact ⟨c, ys, by simp [Value.cells], hT, h6⟩⟩
    · cases hb
end
end
def nE (T : Tab) (k : Nat) (fid : FuncId) (vs : List V) : Option (List V) := match rZ T k fid vs ⟨0, []⟩ with
  | some (rs, H1) => nK 0 H1 rs fun rs' _ => some rs'
  | none => none
theorem iu (i : Nat) : (⟨0, []⟩ : Hp).get i = .free := by
  unfold Hp.get
  have : Nat.blt i 0 = false := by cases i <;> rfl
  simp only [this]
theorem sg (w : World) : HRel (fun _ => False) w (fun _ => none) (⟨0, []⟩ : Hp).get :=
  ⟨fun i => by rw [iu]; rfl, fun i b hb => by rw [iu] at hb; exact hb.elim, fun i j b hb _ => by rw [iu] at hb; exact hb.elim, fun _ h => h.elim⟩
theorem sA {P : Program} {T : Tab} (hT : TabOk P T) (hm : P.follows .mixedOrders = true) {k : Nat} {fid : FuncId} {vs rs : List V} (h : nE T k fid vs = some rs) {w : World} {xs : List Value} (hx : LRel (fun _ => False) w (fun _ => none) vs xs) :
    Calls P fid xs.toArray w fun e w' => ∃ S' ρ' ys, e = .returned (jN ys) ∧ (∀ b, S' b → w.heap.size ≤ b) ∧ Chg [] w w' ∧ LRel S' w' ρ' rs ys := by
  unfold nE at h
  split at h
  · rename_i rs1 H1 hrun
    obtain ⟨rs2, H2, e1, _, e3⟩ := lC 0 rs1 H1
    rw [e1] at h
    injection h with h; subst h
    have hr0 := sg w
    refine (sK hT hm hrun hr0 hx).2.mono fun e w' hR => ?_
    obtain ⟨S', ρ', ys, rfl, hr, hi, hl⟩ := hR
    obtain ⟨S2, a1, a2, a3, a4⟩ := e3 _ S' w' ρ' ys hr hi hl
    have hno : ∀ b, ¬ ∃ id, own (fun _ => none) id ((⟨0, []⟩ : Hp).get id) b := fun b ⟨id, hb⟩ => by rw [iu] at hb; exact hb
    refine ⟨S2, ρ', ys, rfl, fun b hb => ?_, ⟨hi.chg.os, hi.chg.tape, hi.chg.output, hi.chg.size, fun b hb _ => hi.chg.block b hb (hno b)⟩, a4⟩
    rcases a2.s1 b hb with h | h | h
    · exact h.elim
    · exact absurd h (hno b)
    · exact h
  · cases h
def r8 (fid : FuncId) (vs : List V) : Option V := match Nat.beq fid 63 with
  | true => match vs with
    | [.str s, .int .u8 (.ofNat c)] => py (Lib.indexByte s c.toUInt8) fun n => some (.int .i64 n)
    | _ => none
  | false => none
noncomputable def oY : Tab := ⟨true, gb tyL, gb fnL, r8, fun f => Nat.beq f 31⟩
theorem ti : TabOk Try.prog oY := by
  refine ⟨qt, tT, fun i vs v hv => ?_⟩
  replace hv : r8 i vs = some v := hv
  unfold r8 at hv
  split at hv
  · rename_i hb
    have := Nat.eq_of_beq_eq_true hb
    subst this
    split at hv
    · rename_i s c
      rw [oS] at hv
      injection hv with hv; subst hv
      refine ⟨by kernel_rfl, fun S w ρ xs hx => ?_⟩
      simp only [LRel] at hx
      obtain ⟨x0, _, rfl, h0, x1, _, rfl, h1, rfl⟩ := hx
      simp only [VRel] at h0 h1
      subst h0 h1
      exact ⟨_, by simp only [VRel]; rfl, pJ _ _ _⟩
    · cases hv
  · cases hv
def jY (t : Tree) : Option (List V) → Bool
  | some [v, .int .i64 a, .int .i64 e] => treeB t v && iEq a 0 && iEq e 0
  | _ => false
theorem qH {k : Nat} {l : List UInt8} {t : Tree} (h : jY t (nE oY k 17 [.str l]) = true) {w : World} : Calls Try.prog 17 [aD l].toArray w fun e w' => ∃ c0 c1 c2 c3, e = .returned (.tuple #[.agg #[c0, c1, c2, c3], .int .i64 0, .int .i64 0]) ∧ TreeIs (fun b => w.heap.size ≤ b) w' t [c0, c1, c2, c3] ∧ Chg [] w w' := by
  unfold jY at h
  split at h
  · rename_i v a e hr
    simp only [Bool.and_eq_true, jH, beq_iff_eq] at h
    obtain ⟨⟨h1, rfl⟩, rfl⟩ := h
    refine (sA ti (by kernel_rfl) hr (xs := [aD l]) ⟨_, [], rfl, by simp only [VRel], rfl⟩).mono fun e w' hR => ?_
    obtain ⟨S', ρ', ys, rfl, g1, g2, g3⟩ := hR
    simp only [LRel] at g3
    obtain ⟨x0, _, rfl, h0, x1, _, rfl, h2, x2, _, rfl, h3, rfl⟩ := g3
    simp only [VRel] at h2 h3
    subst h2 h3
    obtain ⟨c, rfl, hT⟩ := treeB_ok h1 h0
    have h4 := hT.four
    match c, h4, hT with
    | [c0, c1, c2, c3], _, hT => exact ⟨c0, c1, c2, c3, rfl, hT.keep g1 (fun _ _ _ => rfl), g2⟩
  · cases h
end Go.Proofs.Yteglbnopdedadaa
namespace Go.Proofs.Yteglbnopdedadaa
open Go.RowKit Lx Sx
section
variable {S : Nat → Prop} {w : World} {ρ : Nat → Option Value}
theorem mQ : ∀ ls : List (List UInt8), CRel S w ρ 1 (ls.map .str) (ls.map aD)
  | [] => by simp [CRel]
  | s :: r => by
    simp only [List.map_cons, CRel]
    exact ⟨aD s, r.map aD, by simp [Value.cells, aD], ⟨rfl, rfl⟩, by unfold VRel; rfl, mQ r⟩
theorem nb : ∀ ls : List Int, CRel S w ρ 1 (ls.map (V.int .i64)) (ls.map fun z => .int .i64 z)
  | [] => by simp [CRel]
  | s :: r => by
    simp only [List.map_cons, CRel]
    exact ⟨.int .i64 s, _, by simp [Value.cells], ⟨rfl, rfl⟩, by unfold VRel; rfl, nb r⟩
mutual
theorem TreeIs.vrel : ∀ {ρ : Nat → Option Value} {t : Tree} {c : List Value}, TreeIs S w t c → LRel S w ρ (av t) c
  | ρ, .node k s ls ks, c, h => by
    simp only [TreeIs] at h
    obtain ⟨A, m, B, n, rfl, h1, h2, h3, h4, h5, cs, h6, h7⟩ := h
    simp only [av, Tree.kind, Tree.text, Tree.leads, Tree.kids, LRel, VRel]
    exact ⟨_, _, rfl, rfl, _, _, rfl, rfl, _, _, rfl, ⟨A, m, _, by simp, by simpa using h1, h2, mQ ls, by simpa using h5⟩, _, _, rfl, ⟨B, n, cs, by simp [gk], by simpa [gk] using h3, h4, KidsAre.crel h6, by simpa [gk] using h7⟩, rfl⟩
theorem KidsAre.crel : ∀ {ρ : Nat → Option Value} {ts : List Tree} {cs : List Value}, KidsAre S w ts cs → CRel S w ρ 4 (kidsV ts) cs
  | ρ, [], cs, h => by simp only [KidsAre] at h; simp only [kidsV, CRel]; exact h
  | ρ, t :: r, cs, h => by
    simp only [KidsAre] at h
    obtain ⟨c, d, rfl, h1, h2⟩ := h
    simp only [kidsV, CRel, gP]
    exact ⟨.agg c.toArray, d, by simp [Value.cells], ⟨by simp [Value.cells, h1.four], by simpa [Value.cells] using h1.one⟩, by simp only [VRel]; exact ⟨c, rfl, h1.vrel⟩, KidsAre.crel h2⟩
end
end
theorem sI {k : Nat} {l : List UInt8} {t : Tree} (h : jY t (nE oY k 17 [.str l]) = true) : aG Try.prog 17 [.str l] (.tup [.agg (av t), .int .i64 0, .int .i64 0]) := by
  refine ⟨rfl, rfl, fun S w ρ xs hr hx => ?_⟩
  simp only [LRel, VRel] at hx
  obtain ⟨x, ys, rfl, rfl, rfl⟩ := hx
  refine (qH h (w := w)).mono ?_
  rintro e w' ⟨c0, c1, c2, c3, rfl, hT, hc⟩
  have hT' := hT.bound
  have g := hr.chg0 hc
  refine ⟨_, fun b => S b ∨ (w.heap.size ≤ b ∧ b < w'.heap.size), ρ, _, ⟨0, []⟩, rfl, rfl, ⟨fun i => ?_, fun i b hb => ?_, fun i j b hb _ => ?_, fun b hb => hb.elim (g.slt b) (·.2)⟩, ⟨ChgP.of0 hc, fun _ h => .inl h, fun b hb => hb.elim .inl fun h => .inr (.inr h.1), fun id b hb => .inl ⟨id, hb⟩, fun id x h => ?_⟩, ?_⟩
  · have := g.ob i; rw [iu] at this ⊢; exact this
  · rw [iu] at hb; exact hb.elim
  · rw [iu] at hb; exact hb.elim
  · simp only [i6] at h
    split at h
    · exact h
    · cases h
  · have hk := TreeIs.vrel (ρ := ρ) (TreeIs.keep (S' := fun b => S b ∨ (w.heap.size ≤ b ∧ b < w'.heap.size)) (fun b hb => .inr hb) (fun _ _ _ => rfl) hT')
    simp only [VRel]
    exact ⟨[.agg #[c0, c1, c2, c3], .int .i64 0, .int .i64 0], rfl, .agg #[c0, c1, c2, c3], _, rfl, by simp only [VRel]; exact ⟨_, rfl, hk⟩, _, _, rfl, by simp only [VRel], _, _, rfl, by simp only [VRel], rfl⟩
end Go.Proofs.Yteglbnopdedadaa
namespace Go.Proofs.Yteglbnopdedadaa
open Go.RowKit Lx Sx
abbrev gy (W : World) : Nat → Prop := fun b => b < W.heap.size
theorem RowIn.live {W : World} {sz n : Nat} {A : Option Addr} {xs : List Value} (h : RowIn Any W sz A n xs) : RowIn (gy W) W sz A n xs := ⟨h.1, fun hp => by
  obtain ⟨b, off, h1, _, h3, h4⟩ := h.2 hp
  exact ⟨b, off, h1, h3, h3, h4⟩⟩
mutual
theorem TreeIs.live {W : World} : ∀ {t : Tree} {c : List Value}, TreeIs Any W t c → TreeIs (gy W) W t c
  | .node k s ls ks, c, h => by
    simp only [TreeIs] at h ⊢
    obtain ⟨A, m, B, n, h1, h2, h3, h4, h5, h6, cs, h7, h8⟩ := h
    exact ⟨A, m, B, n, h1, h2, h3, h4, h5, h6.live, cs, KidsAre.live h7, h8.live⟩
theorem KidsAre.live {W : World} : ∀ {ts : List Tree} {cs : List Value}, KidsAre Any W ts cs → KidsAre (gy W) W ts cs
  | [], cs, h => by simp only [KidsAre] at h ⊢; exact h
  | t :: r, cs, h => by
    simp only [KidsAre] at h ⊢
    obtain ⟨c, d, h1, h2, h3⟩ := h
    exact ⟨c, d, h1, TreeIs.live h2, KidsAre.live h3⟩
end
abbrev VLive (W : World) (v : V) (x : Value) : Prop := VRel (gy W) W (fun _ => none) v x
theorem vx {W : World} {t : Tree} {c0 c1 c2 c3 : Value} (h : TreeIs Any W t [c0, c1, c2, c3]) : VLive W (lc t) (.agg #[c0, c1, c2, c3]) := by
  simp only [VLive, VRel]
  exact ⟨_, rfl, TreeIs.vrel h.live⟩
theorem vy {W : World} {l : List Int} {A : Option Addr} {cap : Nat} (hc : l.length ≤ cap) (hm : cap ≤ maxLen) (hr : RowIn Any W 1 A l.length (l.map fun z => .int .i64 z)) : VLive W (.row 1 (l.map (V.int .i64))) (.slice A l.length cap) := by
  simp only [VLive, VRel]
  exact ⟨A, cap, _, by simp, by simpa using hc, hm, nb l, by simpa using hr.live⟩
theorem vA {W : World} (z : Int) : VLive W (.int .i64 z) (.int .i64 z) := by simp only [VLive, VRel]
theorem vz {W : World} (l : List UInt8) : VLive W (.str l) (.string ⟨l.toArray⟩) := by simp only [VLive, VRel]
theorem vw {fid : FuncId} {us : List V} {b : Bool} (h : aG Try.prog fid us (.bool b)) {W : World} {xs : List Value} (hx : LRel (gy W) W (fun _ => none) us xs) : Calls Try.prog fid xs.toArray W fun e W' => e = .returned (.bool b) ∧ Ext W W' := by
  have h0 := sg W
  have hr' : HRel (gy W) W (fun _ => none) (⟨0, []⟩ : Hp).get := ⟨h0.ob, fun i b hb => by rw [iu] at hb; exact hb.elim, fun i j b hb _ => by rw [iu] at hb; exact hb.elim, fun _ h => h⟩
  refine (h.2.2 _ W _ xs hr' hx).mono ?_
  rintro e W' ⟨x, S', ρ', v, H', rfl, rfl, h1, h2, h3⟩
  simp only [VRel] at h3
  subst h3
  have hno : ∀ b, ¬ ∃ id, own (fun _ => none) id ((⟨0, []⟩ : Hp).get id) b := fun b ⟨id, hb⟩ => by rw [iu] at hb; exact hb
  exact ⟨rfl, Chg.ext ⟨h2.chg.os, h2.chg.tape, h2.chg.output, h2.chg.size, fun b hb _ => h2.chg.block b hb (hno b)⟩⟩
theorem lr1 {W : World} {u : V} {x : Value} (h : VLive W u x) : LRel (gy W) W (fun _ => none) [u] [x] := ⟨x, [], rfl, h, rfl⟩
theorem lrc {W : World} {u : V} {us : List V} {x : Value} {xs : List Value} (h : VLive W u x) (k : LRel (gy W) W (fun _ => none) us xs) : LRel (gy W) W (fun _ => none) (u :: us) (x :: xs) := ⟨x, xs, rfl, h, k⟩
end Go.Proofs.Yteglbnopdedadaa
namespace Go.Proofs.Yteglbnopdedadaa
open Go.RowKit Lx Sx
set_option maxRecDepth 100000
def sn : List UInt8 := [109, 111, 100, 117, 108, 101, 32, 77, 32, 100, 101, 102, 32, 102, 40, 120, 58, 32, 73, 110, 116, 41, 58, 32, 73, 110, 116, 32, 61, 32, 108, 101, 116, 32, 121, 32, 61, 32, 120, 32, 105, 110, 32, 108, 101, 116, 32, 120, 32, 61, 32, 121, 32, 105, 110, 32, 120]
def jV : Tree := (uy sn).1
def de : Tree := jV.kids.headD zT0
theorem r5 : jY jV (nE oY 6000 17 [.str sn]) = true := by kernel_rfl
theorem l9 : jV.kids.length = 1 := by decide +kernel
theorem jD : tbulk de ≤ 10000000 := by decide +kernel
theorem qO : br de = true := by decide +kernel
theorem qu : (gf de).map (fun v => (v.Binder, v.Free)) = [([0], false), ([2], false), ([2, 1], false)] := by decide +kernel
theorem qo : (cd (auL de de [] [] [2, 0]).1.reverse [121]).2 = false := by decide +kernel
theorem rQ : (auL de de [] [] [2, 0]).1.map (·.path) = [[0]] := by decide +kernel
theorem rV : (jL de [2, 1, 1]).length = 2 := by decide +kernel
theorem kp : jV.kids[0]? = some de := by
  have h := l9
  unfold de
  match jV.kids, h with
  | [x], _ => rfl
theorem vl : dC true := by
  have hv := qu
  have hV := gH de (Nat.le_trans jD (by decide))
  obtain ⟨V, hVe⟩ : ∃ V, V = gf de := ⟨_, rfl⟩
  rw [← hVe] at hv hV
  have hl := rQ
  have hB := mm de [2, 0] [121] qO (Nat.le_trans jD (by decide)) (by decide) (by
    have := congrArg List.length hl; simp at this; omega) (fun b hb => by
    have : b.path ∈ [[(0 : Int)]] := by rw [← hl]; exact List.mem_map_of_mem hb
    simp only [List.mem_singleton] at this
    rw [this]; decide)
  rw [qo] at hB
  match V, hv with
  | [x, y, z], hv =>
    simp only [List.map_cons, List.map_nil, List.cons.injEq, Prod.mk.injEq, and_true] at hv
    obtain ⟨⟨a1, a2⟩, _, a3, a4⟩ := hv
    have hw : dC true := by
      refine iC 0 _ ⟨jV, 0, 0, sI r5, fun h => absurd rfl h, fun _ => ⟨fun h => absurd (by rw [l9]; rfl) h, fun _ => ⟨de, kp, _, hV, de, kp, _, _, hB, fun _ => ⟨x, rfl, fun _ => ⟨x, rfl, true, a1 ▸ fD _, fun _ => ⟨z, rfl, true, a3 ▸ fD _, fun _ => ⟨fun _ => ⟨de, kp, _, lr de [2, 1, 1] jD (by decide), by rw [rV]; rfl⟩, fun h => by cases h⟩, fun h => by cases h⟩, fun h => by cases h⟩, fun h => by rw [a2] at h; cases h⟩, fun h => absurd rfl h⟩⟩⟩
    exact hw
end Go.Proofs.Yteglbnopdedadaa
