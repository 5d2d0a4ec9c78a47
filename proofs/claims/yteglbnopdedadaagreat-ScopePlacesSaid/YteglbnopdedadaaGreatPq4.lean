/- Contracts of the functions that the law reaches, part 4. -/
import Derived.Test.YteglbnopdedadaaGreatPq3
set_option linter.unusedVariables false
set_option linter.unusedSimpArgs false
namespace Go.Proofs.YteglbnopdedadaaGreat
open Go.RowKit Lx Sx
set_option maxHeartbeats 1000000
mutual
def nodK : Tree → List Int → List (List Int × Tree)
  | .node k s ls ks, q => (q, .node k s ls ks) :: nodKs ks q 0
def nodKs : List Tree → List Int → Nat → List (List Int × Tree)
  | [], _, _ => []
  | t :: r, q, i => nodK t (q ++ [(i : Int)]) ++ nodKs r q (i + 1)
end
theorem qJ (t : Tree) (q : List Int) : nodK t q = (q, t) :: nodKs t.kids q 0 := by cases t; simp only [nodK]; rfl
mutual
theorem nodK_len : ∀ (t : Tree) (q : List Int), (nodK t q).length ≤ tbulk t
  | .node k s ls ks, q => by have := nodKs_len ks q 0; simp only [nodK, tbulk, List.length_cons]; omega
theorem nodKs_len : ∀ (l : List Tree) (q : List Int) (i : Nat), (nodKs l q i).length ≤ kbulk l
  | [], _, _ => by simp [nodKs, kbulk]
  | t :: r, q, i => by have := nodK_len t (q ++ [(i : Int)]); have := nodKs_len r q (i + 1); simp only [nodKs, kbulk, List.length_append]; omega
end
def atK : Tree → List Int → Option Tree
  | t, [] => some t
  | t, i :: r => if i < 0 then none else match t.kids[i.toNat]? with
    | none => none
    | some u => atK u r
theorem pg : ∀ (t : Tree) (q r : List Int), atK t (q ++ r) = (atK t q).bind fun u => atK u r
  | t, [], r => rfl
  | t, i :: q, r => by
    simp only [List.cons_append, atK]
    split
    · rfl
    · split
      · rfl
      · rename_i u hu; exact pg u q r
theorem j5 {t u : Tree} {i : Nat} (h : t.kids[i]? = some u) : atK t [(i : Int)] = some u := by
  simp [atK, h, show ¬ ((i : Int) < 0) by omega]
mutual
theorem nodK_at (root : Tree) : ∀ (t : Tree) (q : List Int), atK root q = some t → ∀ x ∈ nodK t q, atK root x.1 = some x.2
  | .node k s ls ks, q, h, x, hx => by
    simp only [nodK, List.mem_cons] at hx
    rcases hx with rfl | hx
    · exact h
    · exact nodKs_at root (.node k s ls ks) q h ks 0 rfl x hx
theorem nodKs_at (root t : Tree) (q : List Int) (h : atK root q = some t) : ∀ (l : List Tree) (i : Nat), t.kids.drop i = l → ∀ x ∈ nodKs l q i, atK root x.1 = some x.2
  | [], _, _, x, hx => by simp [nodKs] at hx
  | u :: r, i, hd, x, hx => by
    simp only [nodKs, List.mem_append] at hx
    have hu : t.kids[i]? = some u := by
      have := congrArg (·[0]?) hd
      simpa using this
    rcases hx with hx | hx
    · exact nodK_at root u (q ++ [(i : Int)]) (by rw [pg, h]; exact j5 hu) x hx
    · exact nodKs_at root t q h r (i + 1) (by rw [← List.tail_drop, hd]; rfl) x hx
end
mutual
theorem nodK_bnd : ∀ (t : Tree) (q : List Int), ∀ x ∈ nodK t q, x.1.length + tbulk x.2 ≤ q.length + tbulk t
  | .node k s ls ks, q, x, hx => by
    simp only [nodK, List.mem_cons] at hx
    rcases hx with rfl | hx
    · exact Nat.le_refl _
    · have := nodKs_bnd ks q 0 x hx; simp only [tbulk]; omega
theorem nodKs_bnd : ∀ (l : List Tree) (q : List Int) (i : Nat), ∀ x ∈ nodKs l q i, x.1.length + tbulk x.2 ≤ q.length + kbulk l + 1
  | [], _, _, x, hx => by simp [nodKs] at hx
  | t :: r, q, i, x, hx => by
    simp only [nodKs, List.mem_append] at hx
    rcases hx with hx | hx
    · have := nodK_bnd t (q ++ [(i : Int)]) x hx; simp only [kbulk, List.length_append, List.length_singleton] at *; omega
    · have := nodKs_bnd r q (i + 1) x hx; simp only [kbulk]; omega
end
def paths (l : List (List Int × Tree)) : List (List Int) := l.map (·.1)
theorem t6 (l : List Int) (hl : l.length ≤ 1000000000) : iP l l := qw 0 _ _ fun b hb => ⟨fun h => (List.length_eq_zero_iff.1 (hb h)).symm, fun _ => ⟨hl, rfl⟩⟩
theorem tw (l : List Int) (hl : l.length ≤ 1000000000) : gQ l l := pi 0 _ _ fun b hb => ⟨fun h => (List.length_eq_zero_iff.1 (hb h)).symm, fun _ => ⟨hl, rfl⟩⟩
theorem sC (t : Tree) (q : List Int) (hq : q.length ≤ 1000000000) : bX t q ((atK t q).getD (.node 0 [] [] [])) (atK t q).isSome := by
  have loop : ∀ m i (u : Tree), q.length - i ≤ m → gc (m + 1) q u i ((atK u (q.drop i)).getD (.node 0 [] [] [])) (atK u (q.drop i)).isSome := fun m => by
    induction m with
    | zero =>
      intro i u hi
      refine lq 0 _ _ _ _ _ ⟨fun h => by omega, fun h => ?_⟩
      rw [List.drop_of_length_le (by omega)]; exact ⟨rfl, rfl⟩
    | succ m ihm =>
      intro i u hi
      refine lq (m + 1) _ _ _ _ _ ⟨fun h => ?_, fun h => ?_⟩
      · obtain ⟨x, hx, _⟩ | h' := aE q i
        · rw [ci hx, atK]
          refine ⟨x, hx, fun h1 => by simp [h1], fun h1 => ⟨x, hx, fun h2 => ?_, fun h2 => ?_⟩⟩
          · have : u.kids[x.toNat]? = none := List.getElem?_eq_none (by omega)
            simp [h1, this]
          · obtain ⟨y, hy, _⟩ | h3 := aE u.kids x.toNat
            · refine ⟨x, hx, x.toNat, by omega, y, hy, ?_⟩
              simp only [if_neg h1, hy]
              exact ihm (i + 1) y (by omega)
            · omega
        · exact absurd h h'
      · rw [List.drop_of_length_le (by omega)]; exact ⟨rfl, rfl⟩
  have := loop q.length 0 t (by omega)
  exact pk _ _ _ _ _ (by simpa using this)
theorem yL : ∀ (t : Tree) (q : List Int) (l : List (List Int)), q.length + tbulk t ≤ 1000000000 → l.length + tbulk t ≤ 1000000000 → fh l t q (l ++ paths (nodK t q)) := ei fun t ih q l hq hf => by
  have hk := cv t
  have hb := bA t
  have loop : ∀ k i l, t.kids.length - i ≤ k → l.length + kbulk (t.kids.drop i) ≤ 1000000000 → eD (2 * k + 1) t q l i (l ++ paths (nodKs (t.kids.drop i) q i)) := fun k => by
    induction k with
    | zero =>
      intro i l hi hf
      refine jL _ _ _ _ _ _ ⟨fun h => by omega, fun h => ?_⟩
      rw [List.drop_of_length_le (by omega)]; simp [nodKs, paths]
    | succ k ihk =>
      intro i l hi hf
      refine jL (2 * k + 2) _ _ _ _ _ ⟨fun h => ?_, fun h => ?_⟩
      · obtain ⟨u, hu, _⟩ | h' := aE t.kids i
        · have hd := ci hu
          rw [hd, kbulk] at hf
          have hbu := dJ hu
          have hl := nodK_len u (q ++ [(i : Int)])
          refine ⟨u, hu, by omega, by simp; omega, _, ih i u hu (q ++ [(i : Int)]) l (by simp; omega) (by omega), mU (2 * k + 1) _ _ _ _ _ ⟨by omega, ?_⟩⟩
          have := ihk (i + 1) (l ++ paths (nodK u (q ++ [(i : Int)]))) (by omega) (by simp [paths]; omega)
          rw [hd, nodKs]
          simpa [paths] using this
        · exact absurd h h'
      · rw [List.drop_of_length_le (by omega)]; simp [nodKs, paths]
  refine nL (2 * t.kids.length + 1) _ _ _ _ ⟨by have := bn t; simp; omega, ?_⟩
  have := loop t.kids.length 0 (l ++ [q]) (by omega) (by simp; omega)
  rw [qJ]
  simpa [paths] using this
theorem uv (t : Tree) (ht : tbulk t ≤ 1000000000) : fj t (paths (nodK t [])) := nZ 0 _ _ ⟨_, by simpa using yL t [] [] (by simpa using ht) (by simpa using ht), rfl⟩
theorem kE (l : List Int) : bW l l true := by
  have loop : ∀ m i, l.length - i ≤ m → dO (m + 1) l l i true := fun m => by
    induction m with
    | zero => intro i hi; exact iK 0 _ _ _ _ ⟨fun h => by omega, fun h => rfl⟩
    | succ m ihm =>
      intro i hi
      refine iK (m + 1) _ _ _ _ ⟨fun h => ?_, fun h => rfl⟩
      obtain ⟨u, hu, _⟩ | h' := aE l i
      · exact ⟨u, hu, u, hu, fun h => absurd rfl h, fun _ => ihm (i + 1) (by omega)⟩
      · exact absurd h h'
  exact mf (l.length + 1) _ _ _ ⟨fun h => absurd rfl h, fun _ => loop l.length 0 (by omega)⟩
theorem tT (l : List (List UInt8)) : fq l l true := by
  have loop : ∀ m i, l.length - i ≤ m → dz (m + 1) l l i true := fun m => by
    induction m with
    | zero => intro i hi; exact ii 0 _ _ _ _ ⟨fun h => by omega, fun h => rfl⟩
    | succ m ihm =>
      intro i hi
      refine ii (m + 1) _ _ _ _ ⟨fun h => ?_, fun h => rfl⟩
      obtain ⟨u, hu, _⟩ | h' := aE l i
      · exact ⟨u, hu, u, hu, fun h => absurd rfl h, fun _ => ihm (i + 1) (by omega)⟩
      · exact absurd h h'
  exact l9 (l.length + 1) _ _ _ ⟨fun h => absurd rfl h, fun _ => loop l.length 0 (by omega)⟩
end Go.Proofs.YteglbnopdedadaaGreat
namespace Go.Proofs.YteglbnopdedadaaGreat
open Go.RowKit Lx Sx
set_option maxRecDepth 100000
def cd : List GScopeBinder → List UInt8 → List Int × Bool
  | [], _ => ([], false)
  | b :: r, w => if b.name = w then (b.path, true) else cd r w
theorem sB {n : Nat} : ∀ (l : List GScopeBinder) (w : List UInt8), (∀ b ∈ l, b.path.length ≤ n) → (cd l w).1.length ≤ n
  | [], w, _ => Nat.zero_le _
  | b :: r, w, h => by
    unfold cd
    split
    · exact h b (by simp)
    · exact sB r w fun b hb => h b (by simp [hb])
theorem r7 {α : Type} {l : List α} {n : Nat} {x : α} (h : l[n]? = some x) : (l.take (n + 1)).reverse = x :: (l.take n).reverse := by
  rw [List.take_add_one, h]; simp
theorem xI (stk : List GScopeBinder) (w : List UInt8) (hs : stk.length ≤ 1000000000) (hp : ∀ b ∈ stk, b.path.length ≤ 1000000000) : ia stk w (cd stk.reverse w).1 (cd stk.reverse w).2 := by
  have loop : ∀ n, n ≤ stk.length → eI (n + 1) stk w ((n : Int) - 1) (cd (stk.take n).reverse w).1 (cd (stk.take n).reverse w).2 := fun n => by
    induction n with
    | zero => intro _; exact jT 0 _ _ _ _ _ ⟨fun h => by omega, fun _ => ⟨rfl, rfl⟩⟩
    | succ n ih =>
      intro hn
      obtain ⟨x, hx, _⟩ | h' := aE stk n
      · rw [r7 hx, cd]
        refine jT (n + 1) _ _ _ _ _ ⟨fun _ => ⟨n, by omega, x, hx, fun h => ⟨n, by omega, x, hx, _, t6 _ (hp x (List.mem_of_getElem? hx)), by rw [if_pos h], by rw [if_pos h]⟩, fun h => ⟨by omega, ?_⟩⟩, fun h => by omega⟩
        rw [if_neg h, show ((n + 1 : Nat) : Int) - 1 - 1 = (n : Int) - 1 by omega]
        exact ih (by omega)
      · omega
  have := loop stk.length (Nat.le_refl _)
  rw [List.take_length] at this
  exact nQ (stk.length + 1) _ _ _ _ this
mutual
def nodE : Tree → List Int → List GScopeBinder → List (List Int × Tree × List GScopeBinder)
  | .node k s ls ks, q, E => (q, .node k s ls ks, E) :: nodEs k s ks q 0 E
def nodEs (k : Int) (s : List UInt8) : List Tree → List Int → Nat → List GScopeBinder → List (List Int × Tree × List GScopeBinder)
  | [], _, _, _ => []
  | t :: r, q, i, E => nodE t (q ++ [(i : Int)]) (if k = 20 ∧ i = 1 then E ++ [⟨s, q⟩] else E) ++ nodEs k s r q (i + 1) E
end
theorem ub (t : Tree) (q : List Int) (E : List GScopeBinder) : nodE t q E = (q, t, E) :: nodEs t.kind t.text t.kids q 0 E := by cases t; simp only [nodE]; rfl
mutual
theorem nodE_nodK : ∀ (t : Tree) (q : List Int) (E : List GScopeBinder), (nodE t q E).map (fun x => (x.1, x.2.1)) = nodK t q
  | .node k s ls ks, q, E => by simp only [nodE, nodK, List.map_cons, nodEs_nodKs ks]
theorem nodEs_nodKs {k : Int} {s : List UInt8} : ∀ (l : List Tree) (q : List Int) (i : Nat) (E : List GScopeBinder), (nodEs k s l q i E).map (fun x => (x.1, x.2.1)) = nodKs l q i
  | [], q, i, E => by simp only [nodEs, nodKs, List.map_nil]
  | t :: r, q, i, E => by simp only [nodEs, nodKs, List.map_append, nodE_nodK t, nodEs_nodKs r]
end
theorem x7 (t : Tree) (q : List Int) (E : List GScopeBinder) : (nodE t q E).length ≤ tbulk t := by
  have := nodK_len t q
  rw [← nodE_nodK t q E, List.length_map] at this
  exact this
def yq (q : List Int) (w : List UInt8) (E : List GScopeBinder) : GVariable := ⟨q, (cd E.reverse w).1, !(cd E.reverse w).2⟩
def fF : List (List Int × Tree × List GScopeBinder) → List GVariable
  | [] => []
  | x :: r => (if x.2.1.kind = 12 then [yq x.1 x.2.1.text x.2.2] else []) ++ fF r
theorem rj : ∀ a b, fF (a ++ b) = fF a ++ fF b
  | [], b => rfl
  | x :: r, b => by simp only [List.cons_append, fF, rj r b, List.append_assoc]
theorem q9 : ∀ a, (fF a).length ≤ a.length
  | [] => Nat.le_refl _
  | x :: r => by have := q9 r; simp only [fF, List.length_append, List.length_cons]; split <;> simp <;> omega
theorem yd : ∀ (t : Tree) (E : List GScopeBinder) (q : List Int) (fd : List GVariable), q.length + tbulk t ≤ 1000000000 → fd.length + tbulk t ≤ 1000000000 → E.length + tbulk t ≤ 1000000000 → (∀ b ∈ E, b.path.length ≤ 1000000000) → dK E q fd t E q (fd ++ fF (nodE t q E)) := ei fun t ih E q fd hq hf hE hp => by
  have hk := cv t
  have ht := cW t
  have hb := bA t
  have loop : ∀ k i fd, t.kids.length - i ≤ k → fd.length + kbulk (t.kids.drop i) ≤ 1000000000 → cc (3 * k + 1) t fd E q i E q (fd ++ fF (nodEs t.kind t.text (t.kids.drop i) q i E)) := fun k => by
    induction k with
    | zero =>
      intro i fd hi hf
      refine im 0 _ _ _ _ _ _ _ _ ⟨fun h => by omega, fun h => ⟨rfl, rfl, ?_⟩⟩
      rw [List.drop_of_length_le (by omega)]; simp [nodEs, fF]
    | succ k ihk =>
      intro i fd hi hf
      rw [show 3 * (k + 1) + 1 = (3 * k + 1 + 1 + 1) + 1 by omega]
      refine im _ _ _ _ _ _ _ _ _ ⟨fun h => ?_, fun h => ⟨rfl, rfl, ?_⟩⟩
      · obtain ⟨u, hu, _⟩ | h' := aE t.kids i
        · have hd := ci hu
          rw [hd, kbulk] at hf
          have hbu := dJ hu
          have key : ∀ b : Bool, ((b = true) ↔ (t.kind = 20 ∧ i = 1)) → dA (3 * k + 1 + 1 + 1) t fd u E q i b i E q (fd ++ fF (nodEs t.kind t.text (t.kids.drop i) q i E)) := fun b hbb => by
            have hl := x7 u (q ++ [(i : Int)]) (if t.kind = 20 ∧ i = 1 then E ++ [⟨t.text, q⟩] else E)
            have hl2 := q9 (nodE u (q ++ [(i : Int)]) (if t.kind = 20 ∧ i = 1 then E ++ [⟨t.text, q⟩] else E))
            have hih := ih i u hu (if t.kind = 20 ∧ i = 1 then E ++ [⟨t.text, q⟩] else E) (q ++ [(i : Int)]) fd (by simp; omega) (by omega) (by
              split
              · simp only [List.length_append, List.length_cons, List.length_nil]; omega
              · omega) (by
              split
              · intro b hb
                simp only [List.mem_append, List.mem_singleton] at hb
                rcases hb with hb | rfl
                · exact hp b hb
                · simp only; omega
              · exact hp)
            have hnx := ihk (i + 1) (fd ++ fF (nodE u (q ++ [(i : Int)]) (if t.kind = 20 ∧ i = 1 then E ++ [⟨t.text, q⟩] else E))) (by omega) (by simp; omega)
            rw [hd, nodEs, rj, ← List.append_assoc]
            cases b with
            | true =>
              have hc := hbb.1 rfl
              rw [if_pos hc] at hih hnx ⊢
              refine iw _ _ _ _ _ _ _ _ _ _ _ _ ⟨fun _ => ⟨_, tw q (by omega), by simp; omega, ?_⟩, fun h => by cases h⟩
              refine ip _ _ _ _ _ _ _ _ _ _ _ _ ⟨by simp; omega, _, _, _, hih, q.length, by simp, by simp, fun _ => ⟨E.length, by simp, by simp, by omega, ?_⟩, fun h => by cases h⟩
              simpa using hnx
            | false =>
              have hc : ¬ (t.kind = 20 ∧ i = 1) := fun h => by have := hbb.2 h; cases this
              rw [if_neg hc] at hih hnx ⊢
              refine iw _ _ _ _ _ _ _ _ _ _ _ _ ⟨fun h => (by cases h), fun _ => ?_⟩
              refine ip _ _ _ _ _ _ _ _ _ _ _ _ ⟨by simp; omega, _, _, _, hih, q.length, by simp, by simp, fun h => (by cases h), fun _ => ⟨by omega, ?_⟩⟩
              simpa using hnx
          refine ⟨u, hu, fun h20 => key _ ?_, fun h20 => key _ ?_⟩
          · simp [h20]; omega
          · simp [h20]
        · exact absurd h h'
      · rw [List.drop_of_length_le (by omega)]; simp [nodEs, fF]
  rw [ub, fF]
  refine lT (3 * t.kids.length + 1) _ _ _ _ _ _ _ ⟨fun h => ?_, fun h => ?_⟩
  · simp only
    rw [if_pos h]
    refine ⟨_, _, xI E t.text (by omega) hp, _, tw q (by omega), by simp; omega, ?_⟩
    have := loop t.kids.length 0 (fd ++ [yq q t.text E]) (by omega) (by simp; omega)
    rw [← List.append_assoc]
    exact this
  · simp only
    rw [if_neg h]
    have := loop t.kids.length 0 fd (by omega) (by rw [List.drop_zero]; omega)
    simpa using this
end Go.Proofs.YteglbnopdedadaaGreat
namespace Go.Proofs.YteglbnopdedadaaGreat
open Go.RowKit Lx Sx
set_option maxRecDepth 100000
def zT0 : Tree := .node 0 [] [] []
def atD (t : Tree) (q : List Int) : Tree := (atK t q).getD zT0
theorem vx (t : Tree) (q : List Int) (hq : q.length ≤ 1000000000) : ∃ b, bX t q (atD t q) b := ⟨_, sC t q hq⟩
def dD (t : Tree) (q : List Int) : Nat → List (List Int)
  | 0 => []
  | n + 1 => (if (atD t (q.take n)).kind = 20 ∧ q[n]? = some 1 then [q.take n] else []) ++ dD t q n
theorem pM (t : Tree) (q : List Int) : ∀ n, (dD t q n).length ≤ n
  | 0 => Nat.le_refl _
  | n + 1 => by have := pM t q n; simp only [dD, List.length_append]; split <;> simp <;> omega
def jH (n : Nat) : List (List Int) := (List.range n).map fun (i : Nat) => [(i : Int)]
def arP (t : Tree) (q : List Int) : List (List Int) := if (atK t q).isSome = false then [] else match q with
  | [] => []
  | i :: _ => if i = (t.kids.length : Int) - 1 then dD t q q.length ++ jH (t.kids.length - 2) else []
theorem tj (t : Tree) (q : List Int) (ht : 2 ≤ t.kids.length) (hk : t.kids.length ≤ 400000000) (hq : q.length ≤ 400000000) : eM t q (arP t q) := by
  have l2 : ∀ (k i : Nat) (l : List (List Int)), t.kids.length - 2 - i ≤ k → i ≤ t.kids.length - 2 → l.length + (t.kids.length - 2 - i) ≤ 1000000000 → ee (k + 1) t l i (l ++ ((List.range (t.kids.length - 2)).drop i).map fun (i : Nat) => [(i : Int)]) := fun k => by
    induction k with
    | zero =>
      intro i l hi hil hl
      refine jz 0 _ _ _ _ ⟨by omega, fun h => by omega, fun h => ?_⟩
      rw [List.drop_of_length_le (by simp; omega)]; simp
    | succ k ih =>
      intro i l hi hil hl
      refine jz (k + 1) _ _ _ _ ⟨by omega, fun h => ?_, fun h => ?_⟩
      · have hd : (List.range (t.kids.length - 2)).drop i = i :: (List.range (t.kids.length - 2)).drop (i + 1) := by
          rw [List.drop_eq_getElem_cons (by simp; omega)]; simp
        rw [hd, List.map_cons]
        refine ⟨by simp; omega, by omega, ?_⟩
        have := ih (i + 1) (l ++ [[(i : Int)]]) (by omega) (by omega) (by simp; omega)
        simpa using this
      · rw [List.drop_of_length_le (by simp; omega)]; simp
  have l0 : ∀ (n : Nat) (l : List (List Int)), n ≤ q.length → l.length + n ≤ 500000000 → cD (2 * n + (t.kids.length + 3)) t q l (n : Int) (l ++ (dD t q n ++ jH (t.kids.length - 2))) := fun n => by
    induction n with
    | zero =>
      intro l hn hl
      rw [show 2 * 0 + (t.kids.length + 3) = (t.kids.length + 1 + 1) + 1 by omega]
      refine jf _ _ _ _ _ _ ⟨fun h => by omega, fun _ => ?_⟩
      have := l2 (t.kids.length + 1) 0 l (by omega) (by omega) (by omega)
      simpa [dD, jH] using this
    | succ n ih =>
      intro l hn hl
      rw [show 2 * (n + 1) + (t.kids.length + 3) = (2 * n + (t.kids.length + 3)) + 1 + 1 by omega]
      obtain ⟨b, hb⟩ := vx t (q.take n) (by simp; omega)
      refine jf _ _ _ _ _ _ ⟨fun _ => ⟨by omega, n, by omega, by omega, _, b, hb, ?_⟩, fun h => by omega⟩
      obtain ⟨x, hx, _⟩ | h' := aE q n
      rotate_left
      · omega
      · have e : ((n + 1 : Nat) : Int) - 1 = (n : Int) := by omega
        refine mL _ _ _ _ _ _ _ ⟨fun h20 => ⟨by omega, n, by omega, x, hx, fun h1 => ⟨by omega, n, by omega, by omega, by simp; omega, by omega, ?_⟩, fun h1 => ⟨by omega, ?_⟩⟩, fun h20 => ⟨by omega, ?_⟩⟩
        · rw [dD, if_pos ⟨h20, by rw [hx, h1]⟩, e]
          have := ih (l ++ [q.take n]) (by omega) (by simp; omega)
          simpa using this
        · rw [dD, if_neg (fun h => h1 (by have := h.2; rw [hx] at this; injection this)), e]
          have := ih l (by omega) (by omega)
          simpa using this
        · rw [dD, if_neg (fun h => h20 h.1), e]
          have := ih l (by omega) (by omega)
          simpa using this
  refine nc (2 * q.length + (t.kids.length + 3)) _ _ _ ⟨_, _, sC t q (by omega), fun h => ?_, fun h => ⟨fun h0 => ?_, fun h0 => ?_⟩⟩
  · simp [arP, h]
  · have : q = [] := List.length_eq_zero_iff.1 (by omega)
    subst this; simp [arP]
  · cases q with
    | nil => simp at h0
    | cons i r =>
      have e : arP t (i :: r) = if i = (t.kids.length : Int) - 1 then dD t (i :: r) (i :: r).length ++ jH (t.kids.length - 2) else [] := by simp [arP, h]
      rw [e]
      refine ⟨i, rfl, fun h1 => ?_, fun h1 => ?_⟩
      · rw [if_neg h1]
      · rw [if_pos h1]
        have := l0 (i :: r).length [] (Nat.le_refl _) (by simp only [List.length_nil]; omega)
        simpa using this
def bb (t : Tree) (x : List Int) : GScopeBinder := ⟨(atD t x).text, x⟩
def cp (t : Tree) : Bool := t.kind == 2 && shapeK t
theorem mZ (t : Tree) (ht : tbulk t ≤ 1000000000) : d3 t (cp t) := om 0 _ _ ⟨fun h => ⟨_, oy t ht, by simp [cp, h]⟩, fun h => by simp [cp, h]⟩
theorem qd (t : Tree) (ht : tbulk t ≤ 1000000000) : eX t (cp t) := pj 0 _ _ ⟨fun h => ⟨_, xu t ht, by simp [cp, h]⟩, fun h => by simp [cp, h]⟩
theorem iA {t : Tree} (h : cp t = true) : 2 ≤ t.kids.length := by
  simp only [cp, Bool.and_eq_true, beq_iff_eq] at h
  have h2 := h.2
  rw [eS, h.1] at h2
  simp only [Bool.and_eq_true, decide_eq_true_eq] at h2
  have := h2.1.1
  simp only [di, f0] at this
  repeat' split at this
  all_goals omega
theorem sH (t : Tree) (q : List Int) (w : List UInt8) (hf : cp t = true) (ht : tbulk t ≤ 400000000) (hq : q.length ≤ 400000000) (hb : ∀ x ∈ arP t q, x.length ≤ 1000000000) : dB t q w (cd ((arP t q).map (bb t)) w).1 (cd ((arP t q).map (bb t)) w).2 := by
  have hk := cv t
  have har := tj t q (iA hf) (by omega) hq
  have hal : (arP t q).length ≤ 1000000000 := by
    cases q with
    | nil => unfold arP; split <;> simp
    | cons i r =>
      have := pM t (i :: r) (i :: r).length
      unfold arP
      split
      · simp
      · simp only
        split
        · simp only [List.length_append, jH, List.length_map, List.length_range]; omega
        · simp
  obtain ⟨A, hA⟩ : ∃ A, A = arP t q := ⟨_, rfl⟩
  rw [← hA] at har hal hb ⊢
  have loop : ∀ k i, A.length - i ≤ k → ec (2 * k + 1) t w A i (cd ((A.drop i).map (bb t)) w).1 (cd ((A.drop i).map (bb t)) w).2 := fun k => by
    induction k with
    | zero =>
      intro i hi
      refine fX 0 _ _ _ _ _ _ ⟨fun h => by omega, fun _ => ?_⟩
      rw [List.drop_of_length_le (by omega)]; simp [cd]
    | succ k ih =>
      intro i hi
      rw [show 2 * (k + 1) + 1 = 2 * k + 1 + 1 + 1 by omega]
      obtain ⟨x, hx, _⟩ | h' := aE A i
      · have hxl := hb x (List.mem_of_getElem? hx)
        obtain ⟨b, hb'⟩ := vx t x hxl
        refine fX _ _ _ _ _ _ _ ⟨fun _ => ⟨x, hx, _, b, hb', ?_⟩, fun h => by omega⟩
        rw [ci hx, List.map_cons, cd]
        refine mK _ _ _ _ _ _ _ _ ⟨fun h => ⟨x, hx, hxl, ?_, ?_⟩, fun h => ⟨by omega, ?_⟩⟩
        · rw [if_pos (show (bb t x).name = w from h)]; rfl
        · rw [if_pos (show (bb t x).name = w from h)]
        · rw [if_neg (show ¬ (bb t x).name = w from h)]; exact ih (i + 1) (by omega)
      · refine fX _ _ _ _ _ _ _ ⟨fun h => absurd h h', fun _ => ?_⟩
        rw [List.drop_of_length_le (by omega)]; simp [cd]
  have := loop A.length 0 (by omega)
  rw [List.drop_zero] at this
  exact jN (2 * A.length + 1) _ _ _ _ _ ⟨_, mZ t (by omega), fun h => (by rw [hf] at h; cases h), fun _ => ⟨A, har, this⟩⟩
end Go.Proofs.YteglbnopdedadaaGreat
namespace Go.Proofs.YteglbnopdedadaaGreat
open Go.RowKit Lx Sx
set_option maxRecDepth 100000
theorem rr : ∀ {l : List Tree} {q : List Int} {i : Nat} {x : List Int × Tree}, x ∈ nodKs l q i → ∃ j w, l[j]? = some w ∧ x ∈ nodK w (q ++ [((i + j : Nat) : Int)])
  | [], q, i, x, h => by simp [nodKs] at h
  | t :: r, q, i, x, h => by
    simp only [nodKs, List.mem_append] at h
    rcases h with h | h
    · exact ⟨0, t, rfl, h⟩
    · obtain ⟨j, w, h1, h2⟩ := rr h
      exact ⟨j + 1, w, by simpa using h1, by rw [show i + (j + 1) = i + 1 + j by omega]; exact h2⟩
theorem rg {k : Int} {s : List UInt8} : ∀ {l : List Tree} {q : List Int} {i : Nat} {E : List GScopeBinder} {x : List Int × Tree × List GScopeBinder}, x ∈ nodEs k s l q i E → ∃ j w, l[j]? = some w ∧ x ∈ nodE w (q ++ [((i + j : Nat) : Int)]) (if k = 20 ∧ i + j = 1 then E ++ [⟨s, q⟩] else E)
  | [], q, i, E, x, h => by simp [nodEs] at h
  | t :: r, q, i, E, x, h => by
    simp only [nodEs, List.mem_append] at h
    rcases h with h | h
    · exact ⟨0, t, rfl, h⟩
    · obtain ⟨j, w, h1, h2⟩ := rg h
      exact ⟨j + 1, w, by simpa using h1, by rw [show i + (j + 1) = i + 1 + j by omega]; exact h2⟩
theorem hI {k n : Int} : ∀ {l : List Tree} {i j : Nat} {u : Tree}, shapeKs k n i l = true → l[j]? = some u → gO k n ((i + j : Nat) : Int) u.kind = true ∧ shapeK u = true
  | [], i, j, u, _, h => by simp at h
  | t :: r, i, 0, u, h, hj => by
    simp only [shapeKs, Bool.and_eq_true] at h
    simp only [List.getElem?_cons_zero, Option.some.injEq] at hj
    subst hj
    exact ⟨by simpa using h.1.1, h.1.2⟩
  | t :: r, i, j + 1, u, h, hj => by
    simp only [shapeKs, Bool.and_eq_true] at h
    have := hI (i := i + 1) (j := j) h.2 (by simpa using hj)
    exact ⟨by rw [show i + (j + 1) = i + 1 + j by omega]; exact this.1, this.2⟩
theorem By : ∀ (v : Tree) (q : List Int), shapeK v = true → (iS v.kind = true ∨ v.kind = 4) → ∀ x ∈ nodK v q, x.2.kind ≠ 12 := ei fun v ih q hs hk x hx => by
  rw [qJ, List.mem_cons] at hx
  rw [eS] at hs
  simp only [Bool.and_eq_true, decide_eq_true_eq] at hs
  have hk' : (5 ≤ v.kind ∧ v.kind ≤ 9) ∨ v.kind = 4 := by
    rcases hk with h | h
    · exact .inl (by simpa [iS] using h)
    · exact .inr h
  rcases hx with rfl | hx
  · simp only; omega
  · obtain ⟨j, w, hj, hw⟩ := rr hx
    obtain ⟨h1, h2⟩ := hI hs.2 hj
    have hlen := (List.getElem?_eq_some_iff.1 hj).1
    refine ih j w hj _ h2 (.inl ?_) x hw
    have hl := hs.1.1
    by_cases h4 : v.kind = 4
    · rw [h4] at h1; simpa [gO] using h1
    · by_cases h8 : v.kind = 8
      · rw [h8] at h1; simpa [gO] using h1
      · exfalso
        have h5 : v.kind = 5 ∨ v.kind = 6 ∨ v.kind = 7 ∨ v.kind = 9 := by omega
        have : di v.kind v.kids.length = f0 v.kids.length 0 1 0 0 := by
          rcases h5 with e | e | e | e <;> rw [e] <;> rfl
        have h6 : f0 v.kids.length 0 1 0 0 = -1 := by
          unfold f0
          rw [if_pos ⟨by omega, by omega⟩]
        omega
theorem rU (t : Tree) (q s : List Int) : ∀ n, n ≤ q.length → dD t (q ++ s) n = dD t q n
  | 0, _ => rfl
  | n + 1, h => by
    simp only [dD, rU t q s n (by omega)]
    rw [List.take_append_of_le_length (by omega), List.getElem?_append_left (by omega)]
theorem sy {t v : Tree} {q : List Int} {b : Int} {r : List Int} {j : Nat} (hq : q = b :: r) (hb : b = (t.kids.length : Int) - 1) (h1 : atK t q = some v) (h2 : (atK t (q ++ [(j : Int)])).isSome = true) : arP t (q ++ [(j : Int)]) = (if v.kind = 20 ∧ j = 1 then [q] else []) ++ arP t q := by
  subst hq
  have e1 : arP t (b :: r) = dD t (b :: r) (b :: r).length ++ jH (t.kids.length - 2) := by
    unfold arP; rw [h1]; simp [hb]
  have e2 : arP t (b :: r ++ [(j : Int)]) = dD t (b :: r ++ [(j : Int)]) (b :: r ++ [(j : Int)]).length ++ jH (t.kids.length - 2) := by
    unfold arP
    rw [if_neg (by rw [h2]; simp)]
    simp only [List.cons_append]
    rw [if_pos hb]
  rw [e1, e2, ← List.append_assoc]
  congr 1
  rw [List.length_append, List.length_singleton, dD, rU t (b :: r) _ _ (Nat.le_refl _)]
  congr 1
  have e3 : (b :: r ++ [(j : Int)]).take (b :: r).length = b :: r := by rw [List.take_append_of_le_length (Nat.le_refl _), List.take_length]
  have e4 : (b :: r ++ [(j : Int)])[(b :: r).length]? = some (j : Int) := by rw [List.getElem?_append_right (Nat.le_refl _)]; simp
  rw [e3, e4]
  have e5 : atD t (b :: r) = v := by unfold atD; rw [h1]; rfl
  rw [e5]
  by_cases h : v.kind = 20 ∧ j = 1
  · rw [if_pos h, if_pos ⟨h.1, by rw [h.2]; rfl⟩]
  · rw [if_neg h, if_neg (fun hc => h ⟨hc.1, by have := hc.2; injection this with this; omega⟩)]
theorem zS {t : Tree} {b : Int} (hb : b = (t.kids.length : Int) - 1) : ∀ (v : Tree) (q : List Int) (E : List GScopeBinder), atK t q = some v → (∃ r, q = b :: r) → E.reverse = (arP t q).map (bb t) → ∀ x ∈ nodE v q E, x.2.2.reverse = (arP t x.1).map (bb t) := ei fun v ih q E hq hr hE x hx => by
  rw [ub, List.mem_cons] at hx
  rcases hx with rfl | hx
  · exact hE
  · obtain ⟨j, w, hj, hw⟩ := rg hx
    rw [Nat.zero_add] at hw
    have hat : atK t (q ++ [(j : Int)]) = some w := by rw [pg, hq]; exact j5 hj
    obtain ⟨r, hr⟩ := hr
    refine ih j w hj _ _ hat ⟨r ++ [(j : Int)], by rw [hr]; rfl⟩ ?_ x hw
    rw [sy hr hb hq (by rw [hat]; rfl), List.map_append, ← hE]
    by_cases h : v.kind = 20 ∧ j = 1
    · rw [if_pos h, if_pos h, List.reverse_append]
      have : bb t q = ⟨v.text, q⟩ := by unfold bb atD; rw [hq]; rfl
      simp [this]
    · rw [if_neg h, if_neg h]; rfl
def eQ (t : Tree) : List (List Int × Tree) → List GVariable
  | [] => []
  | x :: r => (if x.2.kind = 12 then [⟨x.1, (cd ((arP t x.1).map (bb t)) x.2.text).1, !(cd ((arP t x.1).map (bb t)) x.2.text).2⟩] else []) ++ eQ t r
theorem sD (t : Tree) : ∀ a b, eQ t (a ++ b) = eQ t a ++ eQ t b
  | [], b => rfl
  | x :: r, b => by simp only [List.cons_append, eQ, sD t r b, List.append_assoc]
theorem r8 (t : Tree) : ∀ a, (eQ t a).length ≤ a.length
  | [] => Nat.le_refl _
  | x :: r => by have := r8 t r; simp only [eQ, List.length_append, List.length_cons]; split <;> simp <;> omega
theorem rm (t : Tree) : ∀ a, (∀ x ∈ a, x.2.kind ≠ 12) → eQ t a = []
  | [], _ => rfl
  | x :: r, h => by rw [eQ, if_neg (h x (by simp)), rm t r fun y hy => h y (by simp [hy])]; rfl
theorem tl {t : Tree} : ∀ X : List (List Int × Tree × List GScopeBinder), (∀ x ∈ X, x.2.2.reverse = (arP t x.1).map (bb t)) → fF X = eQ t (X.map fun x => (x.1, x.2.1))
  | [], _ => rfl
  | x :: r, h => by
    rw [List.map_cons, eQ, fF, tl r fun y hy => h y (by simp [hy])]
    congr 1
    rw [yq, h x (by simp)]
end Go.Proofs.YteglbnopdedadaaGreat
namespace Go.Proofs.YteglbnopdedadaaGreat
open Go.RowKit Lx Sx
set_option maxRecDepth 100000
def iY : Nat → List Tree → List GScopeBinder
  | _, [] => []
  | i, t :: r => ⟨t.text, [(i : Int)]⟩ :: iY (i + 1) r
theorem mx : ∀ (i : Nat) (l : List Tree) (t : Tree), iY i (l ++ [t]) = iY i l ++ [⟨t.text, [((i + l.length : Nat) : Int)]⟩]
  | i, [], t => rfl
  | i, u :: r, t => by
    simp only [List.cons_append, iY, mx (i + 1) r t, List.length_cons]
    rw [show i + 1 + r.length = i + (r.length + 1) by omega]
theorem pS : ∀ (i : Nat) (l : List Tree), (iY i l).length = l.length
  | i, [] => rfl
  | i, t :: r => by simp [iY, pS (i + 1) r]
theorem rA : ∀ (i : Nat) (l : List Tree), ∀ b ∈ iY i l, b.path.length = 1
  | i, [], b, h => by simp [iY] at h
  | i, t :: r, b, h => by
    simp only [iY, List.mem_cons] at h
    rcases h with rfl | h
    · rfl
    · exact rA (i + 1) r b h
def iZ (t : Tree) : List GScopeBinder := (iY 0 (t.kids.take (t.kids.length - 2))).reverse
theorem tc (t : Tree) (h2 : 2 ≤ t.kids.length) (ht : t.kids.length ≤ 400000000) : iR t (iZ t) := by
  have loop : ∀ (n : Nat) (l : List GScopeBinder), n ≤ t.kids.length → l.length + n ≤ 1000000000 → io (n + 1) t l ((n : Int) - 1) (l ++ (iY 0 (t.kids.take n)).reverse) := fun n => by
    induction n with
    | zero => intro l _ _; exact lN 0 _ _ _ _ ⟨fun h => by omega, fun _ => by simp [iY]⟩
    | succ n ih =>
      intro l hn hl
      obtain ⟨x, hx, _⟩ | h' := aE t.kids n
      · refine lN (n + 1) _ _ _ _ ⟨fun _ => ⟨n, by omega, x, hx, by simp; omega, by omega, ?_⟩, fun h => by omega⟩
        rw [show ((n + 1 : Nat) : Int) - 1 - 1 = (n : Int) - 1 by omega]
        have := ih (l ++ [⟨x.text, [((n + 1 : Nat) : Int) - 1]⟩]) (by omega) (by simp; omega)
        rw [List.take_add_one, hx, Option.toList_some, mx, List.length_take, List.reverse_append]
        rw [show min n t.kids.length = n by omega, Nat.zero_add]
        rw [show ((n + 1 : Nat) : Int) - 1 = (n : Int) by omega] at this ⊢
        simpa using this
      · omega
  have := loop (t.kids.length - 2) [] (by omega) (by simp; omega)
  rw [show ((t.kids.length - 2 : Nat) : Int) - 1 = (t.kids.length : Int) - 3 by omega] at this
  exact qg _ _ _ (by simpa [iZ] using this)
def iu (t : Tree) : List GVariable := if cp t = true then eQ t (nodK t []) else []
theorem w7 {t u : Tree} (hf : cp t = true) (hu : t.kids[t.kids.length - 1]? = some u) : fF (nodE u [(t.kids.length : Int) - 1] (iZ t)) = eQ t (nodK t []) := by
  have h2 := iA hf
  have hb : ((t.kids.length - 1 : Nat) : Int) = (t.kids.length : Int) - 1 := by omega
  have hat : atK t [(t.kids.length : Int) - 1] = some u := by rw [← hb]; exact j5 hu
  have henv := zS (t := t) (b := (t.kids.length : Int) - 1) rfl u [(t.kids.length : Int) - 1] (iZ t) hat ⟨[], rfl⟩ (by
    rw [iZ, List.reverse_reverse]
    have e : arP t [(t.kids.length : Int) - 1] = dD t [(t.kids.length : Int) - 1] 1 ++ jH (t.kids.length - 2) := by
      unfold arP; rw [hat]; simp
    simp only [cp, Bool.and_eq_true, beq_iff_eq] at hf
    have e2 : dD t [(t.kids.length : Int) - 1] 1 = [] := by
      simp only [dD, List.append_nil]
      rw [if_neg]
      intro h
      have := h.1
      simp only [List.take_zero, atD, atK, Option.getD_some] at this
      omega
    rw [e, e2, List.nil_append, jH, List.map_map]
    have key : ∀ n, n ≤ t.kids.length → iY 0 (t.kids.take n) = (List.range n).map (bb t ∘ fun (i : Nat) => [(i : Int)]) := fun n => by
      induction n with
      | zero => intro _; simp [iY]
      | succ n ih =>
        intro hn
        obtain ⟨x, hx, _⟩ | h' := aE t.kids n
        · rw [List.take_add_one, hx, Option.toList_some, mx, ih (by omega), List.range_succ, List.map_append, List.length_take]
          rw [show min n t.kids.length = n by omega, Nat.zero_add]
          congr 1
          simp only [List.map_cons, List.map_nil, Function.comp]
          have : atK t [(n : Int)] = some x := j5 hx
          simp [bb, atD, this]
        · omega
    exact key _ (by omega))
  rw [tl _ henv, nodE_nodK, qJ t []]
  simp only [cp, Bool.and_eq_true, beq_iff_eq] at hf
  rw [eQ, if_neg (by simp only; omega), List.nil_append]
  have hs := hf.2
  rw [eS, hf.1] at hs
  simp only [Bool.and_eq_true] at hs
  have key : ∀ k i, t.kids.length - 1 - i = k → i ≤ t.kids.length - 1 → eQ t (nodKs (t.kids.drop i) [] i) = eQ t (nodK u [(t.kids.length : Int) - 1]) := fun k => by
    induction k with
    | zero =>
      intro i hk hi
      have e : i = t.kids.length - 1 := by omega
      subst e
      rw [ci hu, nodKs, List.drop_of_length_le (by omega), nodKs, List.append_nil, hb]; rfl
    | succ k ih =>
      intro i hk hi
      obtain ⟨x, hx, _⟩ | h' := aE t.kids i
      · rw [ci hx, nodKs, sD, ih (i + 1) (by omega) (by omega)]
        obtain ⟨g1, g2⟩ := hI hs.2 hx
        rw [Nat.zero_add] at g1
        rw [rm t _ (By x _ g2 ?_)]
        · rfl
        · simp only [gO] at g1
          rw [if_neg (by omega), if_pos trivial, if_neg (by omega)] at g1
          split at g1
          · exact .inl g1
          · exact .inr (by simpa using g1)
      · omega
  exact (key _ 0 rfl (by omega)).symm
theorem lK (t : Tree) (ht : tbulk t ≤ 100000000) : eu t (iu t) := by
  have hk := cv t
  refine oM 0 _ _ ⟨_, qd t (by omega), fun h => by simp [iu, h], fun h => ?_⟩
  have h2 := iA h
  obtain ⟨u, hu, _⟩ | h' := aE t.kids (t.kids.length - 1)
  · have hbu := dJ hu
    have hs : (iZ t).length ≤ t.kids.length := by
      rw [iZ, List.length_reverse, pS, List.length_take]; omega
    have hv := yd u (iZ t) [(t.kids.length : Int) - 1] [] (by simp; omega) (by simp; omega) (by omega) (fun b hb => by
      have := rA 0 _ b (List.mem_reverse.1 hb); omega)
    rw [List.nil_append, w7 h hu] at hv
    exact ⟨_, tc t h2 (by omega), t.kids.length - 1, by omega, u, hu, _, _, _, hv, by simp [iu, h]⟩
  · omega
theorem ln {t : Tree} {q : List Int} {n : Nat} (hq : q.length ≤ n) (hn : 1 ≤ n) : ∀ x ∈ arP t q, x.length ≤ n := by
  have hl : ∀ k, ∀ x ∈ dD t q k, x.length ≤ n := fun k => by
    induction k with
    | zero => intro x hx; simp [dD] at hx
    | succ k ih =>
      intro x hx
      simp only [dD, List.mem_append] at hx
      rcases hx with hx | hx
      · split at hx
        · simp only [List.mem_singleton] at hx
          subst hx; rw [List.length_take]; omega
        · simp at hx
      · exact ih x hx
  intro x hx
  unfold arP at hx
  split at hx
  · simp at hx
  · split at hx
    · simp at hx
    · split at hx
      · rw [List.mem_append] at hx
        rcases hx with hx | hx
        · exact hl _ x hx
        · simp only [jH, List.mem_map] at hx
          obtain ⟨i, _, rfl⟩ := hx
          exact hn
      · simp at hx
theorem tm (t : Tree) (ht : tbulk t ≤ 100000000) : fu t (iu t) := by
  have hnl := nodK_len t []
  have hat : ∀ x ∈ nodK t [], atK t x.1 = some x.2 := nodK_at t t [] rfl
  have hbd : ∀ x ∈ nodK t [], x.1.length ≤ tbulk t := fun x hx => by
    have := nodK_bnd t [] x hx; simp only [List.length_nil] at this; omega
  by_cases hf : cp t = true
  rotate_left
  · exact iL 0 _ _ ⟨_, mZ t (by omega), fun h => by simp [iu, h], fun h => absurd h hf⟩
  · have hp := uv t (by omega)
    have hb0 := bn t
    have e : iu t = eQ t (nodK t []) := if_pos hf
    rw [e]
    obtain ⟨N, hN⟩ : ∃ N, N = nodK t [] := ⟨_, rfl⟩
    rw [← hN] at hnl hat hbd hp ⊢
    have loop : ∀ k i l, N.length - i ≤ k → l.length + (N.length - i) ≤ 1000000000 → cM (2 * k + 1) t (paths N) l i (l ++ eQ t (N.drop i)) := fun k => by
      induction k with
      | zero =>
        intro i l hi hl
        refine eN 0 _ _ _ _ _ ⟨fun h => by simp [paths] at h; omega, fun _ => ?_⟩
        rw [List.drop_of_length_le (by omega)]; simp [eQ]
      | succ k ih =>
        intro i l hi hl
        rw [show 2 * (k + 1) + 1 = 2 * k + 1 + 1 + 1 by omega]
        obtain ⟨x, hx, _⟩ | h' := aE N i
        · have hmem := List.mem_of_getElem? hx
          have hxa := hat x hmem
          have hxb := hbd x hmem
          have hpx : (paths N)[i]? = some x.1 := by simp [paths, hx]
          have hA := sC t x.1 (by omega)
          rw [hxa] at hA
          refine eN _ _ _ _ _ _ ⟨fun _ => ⟨x.1, hpx, _, _, hA, ?_⟩, fun h => absurd (by simp [paths]; omega) h⟩
          rw [Option.getD_some, ci hx, eQ]
          refine lF _ _ _ _ _ _ _ ⟨fun h12 => ⟨x.1, hpx, _, _, sH t x.1 x.2.text hf (by omega) (by omega) (fun y hy => Nat.le_trans (ln (n := 100000000) (by omega) (by omega) y hy) (by omega)), x.1, hpx, by simp; omega, by omega, ?_⟩, fun h12 => ⟨by omega, ?_⟩⟩
          · rw [if_pos h12, ← List.append_assoc]
            exact ih (i + 1) _ (by omega) (by simp; omega)
          · rw [if_neg h12, List.nil_append]
            exact ih (i + 1) _ (by omega) (by omega)
        · refine eN _ _ _ _ _ _ ⟨fun h => by simp [paths] at h; omega, fun _ => ?_⟩
          rw [List.drop_of_length_le (by omega)]; simp [eQ]
    have := loop N.length 0 [] (by omega) (by simp; omega)
    rw [List.drop_zero, List.nil_append] at this
    exact iL (2 * N.length + 1) _ _ ⟨_, mZ t (by omega), fun h => (by rw [hf] at h; cases h), fun _ => ⟨_, hp, this⟩⟩
end Go.Proofs.YteglbnopdedadaaGreat
