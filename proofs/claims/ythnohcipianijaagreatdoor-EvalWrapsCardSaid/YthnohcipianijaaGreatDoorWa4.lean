/- Contracts of the functions that the law reaches, part 4. -/
import Derived.Test.YthnohcipianijaaGreatDoorWa3
set_option linter.unusedVariables false
set_option linter.unusedSimpArgs false
namespace Go.Proofs.YthnohcipianijaaGreatDoor
open Go.RowKit
def bz (R : List Nat) (l : List (Nat × Ob)) : List (Nat × Ob) := l.filter fun p => dh p.1 R
def ung : Ob → Ob
 | .free => .gone
 | o => o
def bN (nx : Nat) (R : List Nat) (l : List (Nat × Ob)) : List (Nat × Ob) := (l.filter fun p => !dh p.1 R && Nat.blt p.1 nx).map fun p => (p.1, ung p.2)
theorem jN {α : Type} {R : List Nat} : ∀ (l : List (Nat × Ob)) (c : List (Nat × Ob) → α), kK R l c = c (bz R l)
 | [], c => rfl
 | (i, o) :: r, c => by
  simp only [kK]
  cases h : dh i R
  ·simp only; rw [jN r]; simp [bz, h]
  ·simp only; rw [jN r]; simp [bz, h]
theorem jA {α : Type} {nx : Nat} {R : List Nat} : ∀ (l : List (Nat × Ob)) (c : List (Nat × Ob) → α), jH nx R l c = c (bN nx R l)
 | [], c => rfl
 | (i, o) :: r, c => by
  simp only [jH]
  cases h : (!dh i R && Nat.blt i nx)
  ·simp only; rw [jA r]; simp only [bN, List.filter_cons, h]; rfl
  ·cases o <;> (simp only; rw [jA r]; simp only [bN, List.filter_cons, h]; rfl)
theorem iw {R : List Nat} {i : Nat} : ∀ {l : List (Nat × Ob)}, an (bz R l) i = an l i ∨ (dh i R = false ∧ an (bz R l) i = .gone)
 | [] => .inl rfl
 | (j, o) :: r => by
  by_cases hj : j = i
  ·subst hj
   cases h : dh j R
   ·right
    refine ⟨rfl, ?_⟩
    have ih := iw (R := R) (i := j) (l := r)
    simp only [bz, List.filter_cons, h] at ih ⊢
    simp only [Bool.false_eq_true, if_false]
    clear ih
    have key : ∀ (l : List (Nat × Ob)), an (l.filter fun p => dh p.1 R) j = .gone := by
     intro l
     induction l with
     | nil => rfl
     | cons q t ih =>
      obtain ⟨k, o'⟩ := q
      simp only [List.filter_cons]
      split
      ·rename_i hk
       have : k ≠ j := fun e => by subst e; simp [h] at hk
       simp only [an, nbF this]; exact ih
      ·exact ih
    exact key r
   ·left
    simp only [bz, List.filter_cons, h, if_true, an, nbT]
  ·have ih := iw (R := R) (i := i) (l := r)
   simp only [bz, List.filter_cons]
   split
   ·simp only [an, nbF hj]; exact ih
   ·simp only [an, nbF hj]; exact ih
theorem nt {R : List Nat} {i : Nat} (h : dh i R = false) (l : List (Nat × Ob)) : an (bz R l) i = .gone := by
 induction l with
 | nil => rfl
 | cons q t ih =>
  obtain ⟨k, o'⟩ := q
  simp only [bz, List.filter_cons]
  split
  ·rename_i hk
   have : k ≠ i := fun e => by subst e; simp [h] at hk
   simp only [an, nbF this]; exact ih
  ·exact ih
theorem rI {nx : Nat} {R : List Nat} {i : Nat} (l : List (Nat × Ob)) : an (bN nx R l) i = if (!dh i R && Nat.blt i nx) = true then ung (an l i) else .gone := by
 induction l with
 | nil => simp [bN, an, ung]
 | cons q t ih =>
  obtain ⟨k, o⟩ := q
  by_cases hk : k = i
  ·subst hk
   cases h : (!dh k R && Nat.blt k nx)
   ·rw [h] at ih
    simp only [bN, List.filter_cons, h, Bool.false_eq_true, if_false] at ih ⊢
    exact ih
   ·simp only [bN, List.filter_cons, h, if_true, List.map_cons, an, nbT]
  ·have e : an ((k, o) :: t) i = an t i := by simp only [an, nbF hk]
   rw [e, ← ih]
   simp only [bN, List.filter_cons]
   split
   ·simp only [List.map_cons, an, nbF hk]
   ·rfl
section
variable {P : Program} {T : Tab} {K : Ctx} {Q : Exit → Act → World → Prop} {s : List EI} {n : Nat} {F : Fm} {H : Hp}
theorem pH (lo : Nat) (H : Hp) (v : V) : ∃ v' H', (∀ (α : Type) (c : V → Hp → α), qj lo H v c = c v' H') ∧ H'.nx = H.nx ∧ (∀ K S w ρ x, HRel S w ρ H.get → Inv K S w ρ H.get → VRel S w ρ v x → ∃ S', HRel S' w ρ H'.get ∧ Inv K S' w ρ H'.get ∧ Up S S' w w ρ ρ ∧ VRel S' w ρ v' x) := by
 have triv : ∃ v' H', (∀ (α : Type) (c : V → Hp → α), c v H = c v' H') ∧ H'.nx = H.nx ∧ (∀ K S w ρ x, HRel S w ρ H.get → Inv K S w ρ H.get → VRel S w ρ v x → ∃ S', HRel S' w ρ H'.get ∧ Inv K S' w ρ H'.get ∧ Up S S' w w ρ ρ ∧ VRel S' w ρ v' x) := ⟨v, H, fun _ _ => rfl, rfl, fun K S w ρ x h1 h2 h3 => ⟨S, h1, h2, Up.refl, h3⟩⟩
 cases v with
 | sl id =>
  simp only [qj]
  split
  ·split
   ·rename_i e sz els ho
    split
    ·rename_i hpu
     refine ⟨.row sz els, ⟨H.nx, gg id H.es⟩, fun α c => by rw [kP], rfl, fun K S w ρ x hr hi hx => ?_⟩
     have hg : (⟨H.nx, gg id H.es⟩ : Hp).get = be H.get id .gone := by
      funext i
      unfold Hp.get
      by_cases hii : i = id
      ·subst hii
       rw [aK]
       simp only []
       have hlt : Nat.blt i H.nx = true := by
        unfold Hp.get at ho
        split at ho
        ·assumption
        ·cases ho
       rw [hlt]
       simp only [fY, if_true]
      ·rw [aV _ _ hii]
       simp only [fY, if_neg hii]
     refine ⟨_, by rw [hg]; exact (cC hr).1, by rw [hg]; exact hi.frz hr id, (cC hr).2, ml hr ho hpu hx⟩
    ·exact triv
   ·exact triv
  ·exact triv
 | _ => exact triv
theorem pR (lo : Nat) : ∀ (vs : List V) (H : Hp), ∃ vs' H', (∀ (α : Type) (c : List V → Hp → α), qL lo H vs c = c vs' H') ∧ H'.nx = H.nx ∧ (∀ K S w ρ xs, HRel S w ρ H.get → Inv K S w ρ H.get → LRel S w ρ vs xs → ∃ S', HRel S' w ρ H'.get ∧ Inv K S' w ρ H'.get ∧ Up S S' w w ρ ρ ∧ LRel S' w ρ vs' xs)
 | [], H => ⟨[], H, fun _ _ => rfl, rfl, fun K S w ρ x h1 h2 h3 => ⟨S, h1, h2, Up.refl, h3⟩⟩
 | v :: r, H => by
  obtain ⟨v', H1, e1, n1, k1⟩ := pH lo H v
  obtain ⟨r', H2, e2, n2, k2⟩ := pR lo r H1
  refine ⟨v' :: r', H2, fun α c => by simp only [qL, e1, e2], n2.trans n1, fun K S w ρ xs hr hi hx => ?_⟩
  simp only [LRel] at hx
  obtain ⟨x, ys, rfl, h1, h2⟩ := hx
  obtain ⟨S1, a1, a2, a3, a4⟩ := k1 K S w ρ x hr hi h1
  obtain ⟨S2, b1, b2, b3, b4⟩ := k2 K S1 w ρ ys a1 a2 (h2.up a3)
  exact ⟨S2, b1, b2, ⟨fun b hb => b3.s b (a3.s b hb), fun _ _ _ => rfl, fun _ _ h => h⟩, x, ys, rfl, a4.up b3, b4⟩
theorem uB (lo : Nat) (H : Hp) (v : V) : ∃ v' H', (∀ (α : Type) (c : V → Hp → α), sy lo H v c = c v' H') ∧ H'.nx = H.nx ∧ (∀ K S w ρ x, HRel S w ρ H.get → Inv K S w ρ H.get → VRel S w ρ v x → ∃ S', HRel S' w ρ H'.get ∧ Inv K S' w ρ H'.get ∧ Up S S' w w ρ ρ ∧ VRel S' w ρ v' x) := by
 have h0 := pH lo H v
 cases v
 case agg cs =>
  obtain ⟨vs', H', e, hn, k⟩ := pR lo cs H
  refine ⟨.agg vs', H', fun α c => by simp only [sy, e], hn, fun K S w ρ x hr hi hx => ?_⟩
  simp only [VRel] at hx
  obtain ⟨xs, rfl, h1⟩ := hx
  obtain ⟨S', a1, a2, a3, a4⟩ := k K S w ρ xs hr hi h1
  exact ⟨S', a1, a2, a3, by simp only [VRel]; exact ⟨xs, rfl, a4⟩⟩
 all_goals exact h0
theorem mK (lo : Nat) : ∀ (vs : List V) (H : Hp), ∃ vs' H', (∀ (α : Type) (c : List V → Hp → α), oU lo H vs c = c vs' H') ∧ H'.nx = H.nx ∧ (∀ K S w ρ xs, HRel S w ρ H.get → Inv K S w ρ H.get → LRel S w ρ vs xs → ∃ S', HRel S' w ρ H'.get ∧ Inv K S' w ρ H'.get ∧ Up S S' w w ρ ρ ∧ LRel S' w ρ vs' xs)
 | [], H => ⟨[], H, fun _ _ => rfl, rfl, fun K S w ρ x h1 h2 h3 => ⟨S, h1, h2, Up.refl, h3⟩⟩
 | v :: r, H => by
  obtain ⟨v', H1, e1, n1, k1⟩ := uB lo H v
  obtain ⟨r', H2, e2, n2, k2⟩ := mK lo r H1
  refine ⟨v' :: r', H2, fun α c => by simp only [oU, e1, e2], n2.trans n1, fun K S w ρ xs hr hi hx => ?_⟩
  simp only [LRel] at hx
  obtain ⟨x, ys, rfl, h1, h2⟩ := hx
  obtain ⟨S1, a1, a2, a3, a4⟩ := k1 K S w ρ x hr hi h1
  obtain ⟨S2, b1, b2, b3, b4⟩ := k2 K S1 w ρ ys a1 a2 (h2.up a3)
  exact ⟨S2, b1, b2, ⟨fun b hb => b3.s b (a3.s b hb), fun _ _ _ => rfl, fun _ _ h => h⟩, x, ys, rfl, a4.up b3, b4⟩
variable {all : Array Oper} {rest : List Oper} {o : Oper} {u : V} {H' : Hp}
theorem vU {ok : Bool} (hw : aF F all o.guard = some true) (hx : en P K o [] ok n F H u H') (k : Go P K Q (.ops all rest) s n (F.seto o.dst (some u)) H') : Go P K Q (.ops all (o :: rest)) s n F H := fun S w ρ a hr hi hF => by
 show wpList P all (bq P Q s) (o :: rest) a w
 unfold wpList
 rw [if_pos (aN hF hw)]
 exact .inl (hx S w ρ a hr hi hF _ _ fun x S' w' ρ' hr' hi' hu _ _ hv => k S' w' ρ' _ hr' hi' (aS (hF.up hu) o.dst hv))
variable {L : List Nat} {m left i : Nat} {listed : Array Bool}
theorem vk (hrd : Region.ready .any all listed = [i]) (hi : all[i]? = some o) (hw : aF F all o.guard = some true) (hx : en P K o L ((listed.setIfInBounds i true).getD m false) n F H u H') (k : Go P K Q (.drw all L m left (listed.setIfInBounds i true)) s n (F.seto o.dst (some u)) H') : Go P K Q (.drw all L m (left + 1) listed) s n F H := fun S w ρ a hr hiv hF hs => by
 refine fP (S := S) hrd ?_
 unfold wpOp
 simp only [hi]
 rw [if_pos (aN hF hw)]
 exact .inl (hx S w ρ a hr hiv hF _ _ fun x S' w' ρ' hr' hi' hu hA hL hv => dj hu hA hL (k S' w' ρ' _ hr' hi' (aS (hF.up hu) o.dst hv) hs))
def dk (P : Program) (K : Ctx) (Q : Exit → Act → World → Prop) (n : Nat) : Rs → Prop
 | .ok e F H => ∀ S w ρ a, HRel S w ρ H.get → Inv K S w ρ H.get → FRel S w ρ a n F → Q (match e with | true => .ret | false => .normal) a w
 | .pt p s F H => Go P K Q p s n F H
 | .er _ _ => False
variable {ih : EP → List EI → Fm → Hp → Rs}
theorem pG {S : Nat → Prop} {w : World} {ρ : Nat → Option Value} {x : Value} : ∀ {rs : List V}, VRel S w ρ (gb rs) x → ∃ ys, LRel S w ρ rs ys ∧ x = kg ys
 | [], hvx => by simp only [gb, VRel] at hvx; obtain ⟨ys, rfl, h1⟩ := hvx; exact ⟨ys, h1, by simp only [LRel] at h1; subst h1; rfl⟩
 | [v], hvx => ⟨[x], ⟨x, [], rfl, hvx, rfl⟩, rfl⟩
 | v :: u :: r, hvx => by
  simp only [gb, VRel] at hvx; obtain ⟨ys, rfl, h1⟩ := hvx
  refine ⟨ys, h1, ?_⟩
  simp only [LRel] at h1
  obtain ⟨_, _, rfl, _, _, _, rfl, _⟩ := h1
  rfl
theorem st (hT : TabOk P T) (IH : ∀ p s F H K Q n, dk P K Q n (ih p s F H) → Go P K Q p s n F H) {X : Rs → Prop} (hX : ∀ n m, ¬ X (.er n m)) {keep ok : Bool} {vs : List V} {fid : FuncId} {fn : Func} {b : Code} {c : V → Hp → Rs} (hf : P.funcs[fid]? = some fn) (hb : fn.body = some b) (hl : Nat.ble vs.length fn.ntmps = true)
  (h : X (qo T ih keep vs fn b H L ok c)) : ∃ u H' L', (L' = L ∨ ok = true) ∧ CallR P K fid vs H L' (fun u' H'' => u' = u ∧ H'' = H') ∧ X (c u H') := by
 unfold qo at h
 simp only [] at h
 generalize hR : gm H 40 (jv vs []) [] = R at h
 split at h
 ·rename_i hok
  rw [jN] at h
  split at h
  ·rename_i e F1 H1 hrun
   split at h
   ·rename_i rs hres
    split at h
    ·rename_i hnx
     have hnx' : H.nx ≤ H1.nx := Nat.le_of_ble_eq_true hnx
     -- the objects that the call gets
     have hin : ∀ i, (⟨H.nx, bz R H.es⟩ : Hp).get i = H.get i ∨ (⟨H.nx, bz R H.es⟩ : Hp).get i = .gone := fun i => by
      unfold Hp.get
      simp only []
      split
      ·rcases iw (R := R) (i := i) (l := H.es) with e | ⟨_, e⟩
       ·exact .inl e
       ·exact .inr e
      ·exact .inl rfl
     have hout : ∀ i, dh i R = false → Nat.blt i H.nx = true → (⟨H.nx, bz R H.es⟩ : Hp).get i = .gone := fun i hi hlt => by
      unfold Hp.get
      simp only [hlt]
      exact nt hi _
     -- the objects behind the call
     have key : ∀ (H2 : Hp) (es3 : List (Nat × Ob)), H2.nx = H1.nx → (∀ i, an es3 i = an H2.es i ∨ an es3 i = .gone) → ∀ i, ((⟨H2.nx, es3 ++ bN H.nx R H.es⟩ : Hp).get i = H2.get i ∨ (⟨H2.nx, es3 ++ bN H.nx R H.es⟩ : Hp).get i = .gone) ∨ ((⟨H2.nx, es3 ++ bN H.nx R H.es⟩ : Hp).get i = H.get i ∧ (⟨H.nx, bz R H.es⟩ : Hp).get i = .gone ∧ H.get i ≠ .free) := fun H2 es3 hn h3 i => by
      by_cases hlt2 : Nat.blt i H2.nx = true
      ·have e0 : (⟨H2.nx, es3 ++ bN H.nx R H.es⟩ : Hp).get i = an (es3 ++ bN H.nx R H.es) i := by unfold Hp.get; simp only [hlt2]
       have e2 : H2.get i = an H2.es i := by unfold Hp.get; rw [hlt2]
       rw [e0, e2]
       rcases oa es3 (bN H.nx R H.es) i with e | ⟨e', e⟩
       ·rw [e]
        rcases h3 i with h3 | h3
        ·exact .inl (.inl h3)
        ·exact .inl (.inr h3)
       ·rw [e]
        rw [rI]
        cases hm : (!dh i R && Nat.blt i H.nx)
        ·exact .inl (.inr (by simp))
        ·have hm' := hm
         simp only [Bool.and_eq_true, Bool.not_eq_true'] at hm'
         have eH : H.get i = an H.es i := by unfold Hp.get; rw [hm'.2]
         rw [if_pos rfl]
         cases hf : an H.es i
         case free => exact .inl (.inr rfl)
         all_goals exact .inr ⟨by rw [eH, hf]; rfl, hout i hm'.1 hm'.2, by rw [eH, hf]; simp⟩
      ·have e0 : (⟨H2.nx, es3 ++ bN H.nx R H.es⟩ : Hp).get i = .free := by
        unfold Hp.get; simp only [Bool.not_eq_true] at hlt2; simp only [hlt2]
       have e2 : H2.get i = .free := by unfold Hp.get; simp only [Bool.not_eq_true] at hlt2; rw [hlt2]
       exact .inl (.inl (by rw [e0, e2]))
     -- what holds behind the call
     have fin : ∀ (H2 : Hp) (es3 : List (Nat × Ob)) (rs2 : List V), H2.nx = H1.nx → (∀ i, an es3 i = an H2.es i ∨ an es3 i = .gone) →
       (∀ K S w ρ xs, HRel S w ρ H1.get → Inv K S w ρ H1.get → LRel S w ρ rs xs → ∃ S', HRel S' w ρ H2.get ∧ Inv K S' w ρ H2.get ∧ Up S S' w w ρ ρ ∧ LRel S' w ρ rs2 xs) →
       ∃ L', (L' = L ∨ ok = true) ∧ CallR P K fid vs H L' (fun u' H'' => u' = gb rs2 ∧ H'' = ⟨H2.nx, es3 ++ bN H.nx R H.es⟩) := fun H2 es3 rs2 hn h3 hfz => by
      have main : ∀ L', (∀ (S : Nat → Prop) (w : World) (ρ : Nat → Option Value), HRel S w ρ H.get → L' = [] ∨ (bg H.get L' = true ∧ ∀ id, id ∈ L' → (⟨H.nx, bz R H.es⟩ : Hp).get id = .gone)) → CallR P K fid vs H L' (fun u' H'' => u' = gb rs2 ∧ H'' = ⟨H2.nx, es3 ++ bN H.nx R H.es⟩) := fun L' hL' S w ρ xs hr hi hx => by
       have hr1 := hr.drop (h' := (⟨H.nx, bz R H.es⟩ : Hp).get) hin
       have hi1 : Inv ⟨w, S, fun b => ∃ id, own ρ id ((⟨H.nx, bz R H.es⟩ : Hp).get id) b, ρ⟩ S w ρ (⟨H.nx, bz R H.es⟩ : Hp).get := ⟨ChgP.refl _ _, fun _ h => h, fun _ h => .inl h, fun id b hb => .inl ⟨id, hb⟩, fun _ _ h => h⟩
       refine lr hf hb hl hr1 hi1 hx (IH _ _ _ _ _ _ _ ?_)
       rw [hrun]
       intro S' w' ρ' a' hr' hi' hF'
       obtain ⟨rl, hrl⟩ : ∃ l : List ResultVar, fn.results = l.toArray := ⟨fn.results.toList, by simp⟩
       rw [hrl] at hres
       refine ret_go hT (rs := rl) (by cases e <;> simp) hrl hr' hF' (by simpa using hres) fun x hvx => ?_
       have hLR := pG hvx
       obtain ⟨ys, hys, rfl⟩ := hLR
       obtain ⟨S2, a1, a2, a3, a4⟩ := hfz _ S' w' ρ' ys hr' hi' hys
       obtain ⟨m1, m2, m3, m4⟩ := oG (h1 := (⟨H.nx, bz R H.es⟩ : Hp).get) (h2 := (⟨H2.nx, es3 ++ bN H.nx R H.es⟩ : Hp).get) hr hi hin a1 a2 (key H2 es3 hn h3)
       refine ⟨_, S2, ρ', _, _, rfl, ⟨rfl, rfl⟩, m1, m2, m3, pB a4, ?_⟩
       rcases hL' S w ρ hr with rfl | ⟨g1, g2⟩
       ·intro id hid; simp at hid
       ·exact m4 L' g1 g2
      rcases kH hok with hok | hok
      ·simp only [Bool.and_eq_true] at hok
       refine ⟨L, .inl rfl, main L fun S w ρ hr => .inr ⟨hok.1, fun id hid => ?_⟩⟩
       have hmem := List.all_eq_true.1 hok.2 id hid
       simp only [Bool.not_eq_true'] at hmem
       by_cases hlt : Nat.blt id H.nx = true
       ·exact hout id hmem hlt
       ·exfalso
        have hfree : H.get id = .free := by unfold Hp.get; simp only [Bool.not_eq_true] at hlt; rw [hlt]
        have hnl : ∀ (l : List Nat), id ∈ l → bg H.get l = true → False := by
         intro l
         induction l with
         | nil => intro h; simp at h
         | cons j t ih =>
          intro hm hl
          simp only [bg] at hl
          rcases List.mem_cons.1 hm with e | e
          ·subst e; rw [hfree] at hl; cases hl
          ·split at hl
           ·exact ih e hl
           ·exact ih e hl
           ·cases hl
        exact hnl L hid hok.1
      ·exact ⟨[], .inr hok, main [] fun _ _ _ _ => .inl rfl⟩
     split at h
     ·rw [jA] at h
      obtain ⟨L', g1, g2⟩ := fin H1 H1.es rs rfl (fun i => .inl rfl) (fun K S w ρ xs h1 h2 h3 => ⟨S, h1, h2, Up.refl, h3⟩)
      exact ⟨_, _, L', g1, g2, h⟩
     ·obtain ⟨rs2, H2, e1, e2, e3⟩ := mK H.nx rs H1
      rw [e1] at h
      rw [jN, jA] at h
      obtain ⟨L', g1, g2⟩ := fin H2 (bz _ H2.es) rs2 e2 (fun i => by
       rcases iw (R := gm H2 60 (jv rs2 R) []) (i := i) (l := H2.es) with e | ⟨_, e⟩
       ·exact .inl e
       ·exact .inr e) e3
      exact ⟨_, _, L', g1, g2, h⟩
    ·exact absurd h (hX _ _)
   ·exact absurd h (hX _ _)
  ·exact absurd h (hX _ _)
  ·exact absurd h (hX _ _)
 ·exact absurd h (hX _ _)
theorem ii (hT : TabOk P T) (IH : ∀ p s F H K Q n, dk P K Q n (ih p s F H) → Go P K Q p s n F H) {X : Rs → Prop} (hX : ∀ n m, ¬ X (.er n m)) {ok : Bool} {c : Option V → Hp → Rs} (h : X (jy T ih F H L ok o c)) : ∃ u H', en P K o L ok n F H u H' ∧ X (c (some u) H') := by
 unfold jy at h
 split at h
 ·rename_i v hv
  exact ⟨v, H, rK hT hv, h⟩
 ·rw [bn] at h
  split at h
  ·rename_i v ed hv
   split at h
   ·rename_i hc
    rw [Hp.ap_eq] at h
    refine ⟨_, _, ac hT hv hc, ?_⟩
    cases v with
    | none => exact h
    | some v => exact h
   ·exact absurd h (hX _ _)
  ·split at h
   ·rename_i fid args tys hop
    split at h
    ·rename_i vs hvs
     split at h
     ·rename_i v hn
      obtain ⟨he, hnat⟩ := hT.nat _ _ _ hn
      refine ⟨v, H, ak (L' := L) he (by rw [hop]) hvs (fun S w ρ xs hr hi hx => ?_) (.inl rfl), h⟩
      obtain ⟨x, h1, h2⟩ := hnat S w ρ xs hx
      refine h2.mono fun e w' hR => ?_
      obtain ⟨rfl, rfl⟩ := hR
      exact ⟨x, S, ρ, v, H, rfl, ⟨rfl, rfl⟩, hr, hi, Up.refl, h1, fT⟩
     ·split at h
      ·rename_i fn hfn
       obtain ⟨hf, he⟩ := hT.fn _ _ hfn
       split at h
       ·rename_i b hb
        split at h
        ·rename_i hl
         obtain ⟨u, H', L', g1, g2, g3⟩ := st (K := K) hT IH hX hf hb hl h
         exact ⟨u, H', ak he (by rw [hop]) hvs g2 g1, g3⟩
        ·exact absurd h (hX _ _)
       ·exact absurd h (hX _ _)
      ·exact absurd h (hX _ _)
    ·exact absurd h (hX _ _)
   ·exact absurd h (hX _ _)
theorem sb {l : List Nat} {j : Nat} (h : oy l j = true) : l = [j] := by
 unfold oy at h
 split at h
 ·rw [Nat.eq_of_beq_eq_true h]
 ·cases h
theorem pf (hT : TabOk P T) (IH : ∀ p s F H K Q n, dk P K Q n (ih p s F H) → Go P K Q p s n F H) {i : Nat} {ps : List (Nat × Operand)} {vs : List (Nat × V)} {v : V} (hp : iG T all i vs = some (o, ps, v)) : ∀ (left : Nat) (listed : Array Bool) (F : Fm) (H : Hp), dk P K Q n (nE T ih all L m i o ps v s left listed F H) → GoP P K Q all L m left listed s n F H i o ps vs v
 | left, listed, F, H, h => by
  unfold nE at h
  split at h
  ·rename_i hl
   split at h
   ·rename_i x hrd
    split at h
    ·rename_i hb
     have := Nat.eq_of_beq_eq_true hb
     subst this
     rw [Fm.puto_eq] at h
     exact ug hT hp hrd hl (IH _ _ _ _ _ _ _ h)
    ·exact h.elim
   ·rename_i x y hrd
    cases left with
    | zero => exact h.elim
    | succ left =>
     simp only [bn] at h
     generalize hj : qQ x y i = j at h
     unfold qQ at hj
     split at h
     ·exact h.elim
     ·rename_i hji
      have hne : j ≠ i := Nat.ne_of_beq_eq_false hji
      split at h
      ·rename_i oj hoj
       split at h
       ·rename_i hc
        simp only [Bool.and_eq_true] at hc
        obtain ⟨⟨⟨hc1, hc2⟩, hc3⟩, hc4⟩ := hc
        split at h
        ·rename_i hw
         obtain ⟨u, H', hx, hk⟩ := ii (K := K) (n := n) hT IH (X := dk P K Q n) (fun _ _ h => h) h
         rw [Fm.puto_eq] at hk
         have ih2 := pf hT IH hp left _ _ _ hk
         have hpair : (match Region.ready .any all listed with | [x, y] => (Nat.beq x i && Nat.beq y j) || (Nat.beq x j && Nat.beq y i) | _ => false) = true := by
          rw [hrd]
          simp only []
          cases hx1 : Nat.beq x i
          ·rw [hx1] at hj
           cases hy1 : Nat.beq y i
           ·rw [hy1] at hj; exact absurd hj.symm hne
           ·rw [hy1] at hj; simp only at hj; subst hj; simp
          ·rw [hx1] at hj; simp only at hj; subst hj; simp
         refine ss hT hp hoj hpair (sb hc1) hl (fun t ht => ?_) hc2 hc3 (Array.setIfInBounds_comm _ _ (Ne.symm hne)) (Post := fun u' H'' => u' = u ∧ H'' = H') (fun S w ρ a hr hi hF K2 hK2 => ?_) (fun u' H'' hP => by obtain ⟨rfl, rfl⟩ := hP; exact ih2)
         ·rw [ht] at hc4
          simp only [Option.isNone_iff_eq_none] at hc4
          exact hc4
         ·unfold wpOp
          simp only [hoj]
          rw [if_pos (aN hF hw)]
          refine .inl (hx S w ρ a hr hi hF _ _ fun x S' w' ρ' hr' hi' hu hA hL hv => hK2 x S' w' ρ' u H' ⟨rfl, rfl⟩ hr' hi' hu hA (hL.imp id fun h => ?_) hv)
          simpa only [Bool.and_eq_true] using h
        ·exact h.elim
       ·exact h.elim
      ·exact h.elim
   ·exact h.elim
  ·exact h.elim
theorem ub (hT : TabOk P T) (IH : ∀ p s F H K Q n, dk P K Q n (ih p s F H) → Go P K Q p s n F H) {i j : Nat} {left : Nat} {listed : Array Bool} (hrd : Region.ready .any all listed = [i, j]) (h : dk P K Q n (tu T ih all L m left i j listed s F H)) : Go P K Q (.drw all L m (left + 1) listed) s n F H := by
 unfold tu at h
 split at h
 ·rename_i oi hoi
  split at h
  ·rename_i oj hoj
   split at h
   ·rename_i hwi
    split at h
    ·rename_i hwj
     obtain ⟨ui, Hi, xi, hk⟩ := ii (K := K) (n := n) hT IH (X := dk P K Q n) (fun _ _ h => h) h
     rw [Fm.puto_eq] at hk
     split at hk
     ·rename_i F1 H1 e1
      obtain ⟨uj, Hj, xj, hk2⟩ := ii (K := K) (n := n) hT IH (X := dk P K Q n) (fun _ _ h => h) hk
      rw [Fm.puto_eq] at hk2
      split at hk2
      ·rename_i F2 H2 e2
       split at hk2
       ·rename_i hal
        have c : Go P K Q (.ex .normal) s n F1 H1 := IH _ _ _ _ _ _ _ hk2
        intro S w ρ a hr hi hF
        have hpin : ∀ id x, K.pin id = some x → id < H.nx := fun id x hx => Decidable.byContradiction fun hn => by
         have h1 := hi.pin id x hx
         have h2 := hr.ob id
         have h3 : H.get id = .free := by
          unfold Hp.get
          have : Nat.blt id H.nx = false := by
           cases hb : Nat.blt id H.nx
           ·rfl
           ·exact absurd (by simpa [Nat.blt_eq] using hb) hn
          simp only [this]
         rw [h3] at h2
         have h4 : ρ id = none := h2
         rw [h4] at h1; cases h1
        have g1 : Go P K (bq P Q s) (.drw all L m left (listed.setIfInBounds i true)) [] n (F.seto oi.dst (some ui)) Hi := IH _ _ _ _ _ _ _ (by rw [e1]; exact fun S w ρ a hr hi hF => c S w ρ a hr hi hF)
        have g2 : Go P K (bq P Q s) (.drw all L m left (listed.setIfInBounds j true)) [] n (F.seto oj.dst (some uj)) Hj := IH _ _ _ _ _ _ _ (by rw [e2]; exact fun S w ρ a hr hi hF => go_alike hal hpin c S w ρ a hr hi hF)
        exact ah (by rw [hrd]; simp) hoi hoj hwi hwj xi xj g1 g2 S w ρ a hr hi hF
       ·exact hk2.elim
      ·exact hk2.elim
      ·exact hk2.elim
     ·exact hk.elim
     ·exact hk.elim
    ·exact h.elim
   ·exact h.elim
  ·exact h.elim
 ·exact h.elim
theorem iA : ∀ {R : List Nat} {i : Nat} {ps : List (Nat × Operand)} {v : V}, jn T F all R = some (i, o, ps, v) → ∃ vs, eg F ps = some vs ∧ iG T all i vs = some (o, ps, v)
 | [], _, _, _, h => by cases h
 | j :: r, i, ps, v, h => by
  unfold jn at h
  split at h
  ·rename_i hj
   split at h
   ·rename_i vs hvs
    split at h
    ·rename_i o' ps' v' hpb
     simp only [Option.some.injEq, Prod.mk.injEq] at h
     obtain ⟨rfl, rfl, rfl, rfl⟩ := h
     refine ⟨vs, ?_, hpb⟩
     have := hpb
     unfold iG at this
     rw [hj] at this
     simp only at this
     repeat' (split at this)
     all_goals first
      | (cases this; done)
      | (simp only [bn, Option.some.injEq, Prod.mk.injEq] at this; obtain ⟨_, rfl, _⟩ := this; exact hvs)
    ·exact iA h
   ·exact iA h
  ·exact iA h
theorem ud (hT : TabOk P T) (hm : P.follows .mixedOrders = true) (IH : ∀ p s F H K Q n, dk P K Q n (ih p s F H) → Go P K Q p s n F H) : ∀ (p : EP) (s : List EI) (F : Fm) (H : Hp), dk P K Q n (step T ih p s F H) → Go P K Q p s n F H
 | .code c, s, F, H, h => by
  replace h : dk P K Q n (qG T ih c s F H) := h
  unfold qG at h
  split at h
  ·exact rE (IH _ _ _ _ _ _ _ h)
  ·exact oE (IH _ _ _ _ _ _ _ h)
  ·exact qh (IH _ _ _ _ _ _ _ h)
  ·exact go_ret (IH _ _ _ _ _ _ _ h)
  ·exact pK (IH _ _ _ _ _ _ _ h)
  ·exact th (IH _ _ _ _ _ _ _ h)
  ·exact sY (IH _ _ _ _ _ _ _ h)
  ·exact go_loop 1000000 (IH _ _ _ _ _ _ _ h)
  ·split at h
   ·exact oo ‹_› (IH _ _ _ _ _ _ _ h)
   ·exact pg ‹_› (IH _ _ _ _ _ _ _ h)
   ·exact h.elim
  ·exact nk (IH _ _ _ _ _ _ _ h)
  ·split at h
   ·rename_i hs
    simp only [aW, bn] at h
    exact pS _ _ _ rfl hm hs (IH _ _ _ _ _ _ _ h)
   ·exact h.elim
  ·exact h.elim
 | .ops all rest, s, F, H, h => by
  replace h : dk P K Q n (oC T ih all rest s F H) := h
  unfold oC at h
  split at h
  ·exact sg (IH _ _ _ _ _ _ _ h)
  ·split at h
   ·rw [Fm.puto_eq] at h
    exact rv ‹_› (IH _ _ _ _ _ _ _ h)
   ·obtain ⟨u, H', hx, hk⟩ := ii (K := K) (n := n) hT IH (X := dk P K Q n) (fun _ _ h => h) h
    rw [Fm.puto_eq] at hk
    exact vU ‹_› hx (IH _ _ _ _ _ _ _ hk)
   ·exact h.elim
 | .ex e, s, F, H, h => by
  replace h : dk P K Q n (rg ih e s F H) := h
  unfold rg at h
  split at h
  ·split at h
   ·exact fun S w ρ a hr hi hF => h S w ρ a hr hi hF
   ·exact fun S w ρ a hr hi hF => h S w ρ a hr hi hF
   ·exact h.elim
  ·split at h
   ·exact px (IH _ _ _ _ _ _ _ h)
   ·exact oN (IH _ _ _ _ _ _ _ h)
   ·exact nM (IH _ _ _ _ _ _ _ h)
   ·exact h.elim
  ·split at h
   ·split at h
    ·exact h.elim
    ·exact go_xloop (IH _ _ _ _ _ _ _ h)
   ·exact go_xloopE (IH _ _ _ _ _ _ _ h)
   ·exact go_xloopR (IH _ _ _ _ _ _ _ h)
   ·exact h.elim
  ·split at h
   ·exact tx (IH _ _ _ _ _ _ _ h)
   ·exact sD (IH _ _ _ _ _ _ _ h)
   ·exact sN (IH _ _ _ _ _ _ _ h)
   ·exact h.elim
  ·split at h
   ·exact pa (IH _ _ _ _ _ _ _ h)
   ·split at h
    ·exact oh ‹_› (IH _ _ _ _ _ _ _ h)
    ·exact oW ‹_› (IH _ _ _ _ _ _ _ h)
   ·exact pc (IH _ _ _ _ _ _ _ h)
   ·exact h.elim
 | .drw all L m left listed, s, F, H, h => by
  replace h : dk P K Q n (qw T ih all L m left listed s F H) := h
  unfold qw at h
  split at h
  ·exact oI ‹_› (IH _ _ _ _ _ _ _ h)
  ·rename_i i R hrd
   cases left with
   | zero => exact h.elim
   | succ left =>
    simp only [] at h
    split at h
    ·split at h
     ·rename_i o ho
      split at h
      ·rw [Fm.puto_eq] at h
       exact go_d1S hrd ho ‹_› (IH _ _ _ _ _ _ _ h)
      ·obtain ⟨u, H', hx, hk⟩ := ii (K := K) (n := n) hT IH (X := dk P K Q n) (fun _ _ h => h) h
       rw [Fm.puto_eq] at hk
       exact vk hrd ho ‹_› hx (IH _ _ _ _ _ _ _ hk)
      ·exact h.elim
     ·exact h.elim
    ·split at h
     ·split at h
      ·rename_i o ho
       split at h
       ·rename_i hc
        simp only [Bool.and_eq_true, Bool.not_eq_true'] at hc
        obtain ⟨⟨hc1, hc2⟩, hc3⟩ := hc
        split at h
        ·rw [Fm.puto_eq] at h
         exact qI hc3 ho hc2 hc1 ‹_› (IH _ _ _ _ _ _ _ h)
        ·rename_i hw
         split at h
         ·rename_i v hv
          rw [Fm.puto_eq] at h
          exact tN hT hc3 ho hc2 hc1 hw hv (IH _ _ _ _ _ _ _ h)
         ·split at h
          ·rename_i id hid
           split at h
           ·rename_i hL
            simp only [Bool.and_eq_true, Bool.not_eq_true'] at hL
            obtain ⟨⟨hL1, hL2⟩, hL3⟩ := hL
            split at h
            ·rename_i v ed hv
             rw [Fm.puto_eq] at h
             exact tR hT hc3 hL2 hL3 ho hc2 hc1 hw hid hL1 hv (IH _ _ _ _ _ _ _ h)
            ·exact h.elim
           ·exact h.elim
          ·exact h.elim
        ·exact h.elim
       ·exact h.elim
      ·exact h.elim
     ·split at h
      ·rename_i i' o ps v hpo
       rw [Fm.puto_eq] at h
       obtain ⟨vs, g1, g2⟩ := iA hpo
       exact rP g1 (pf hT IH g2 left listed _ _ h)
      ·split at h
       ·exact ub hT IH hrd h
       ·exact h.elim
theorem rx (hT : TabOk P T) (hm : P.follows .mixedOrders = true) : ∀ (k : Nat) (p : EP) (s : List EI) (F : Fm) (H : Hp) (K : Ctx) (Q : Exit → Act → World → Prop) (n : Nat), dk P K Q n (run T k p s F H) → Go P K Q p s n F H
 | 0, p, s, F, H, K, Q, n, h => h
 | k + 1, p, s, F, H, K, Q, n, h => ud hT hm (fun p s F H K Q n h => rx hT hm k p s F H K Q n h) p s F H h
def sU (T : Tab) (k : Nat) (fid : FuncId) (vs : List V) (H : Hp) : Option (List V × Hp) := match T.fn fid with
 |some fn => match fn.body with
  |some b => match Nat.ble vs.length fn.ntmps with
   |true => match run T k (.code b) [] (eD fn.ntmps vs) H with
    |.ok _ F1 H1 => match jt T H1.get F1 fn.results.toList with
     | some rs => some (rs, H1)
     | none => none
    | _ => none
   | false => none
  | none => none
 | none => none
theorem uJ (hT : TabOk P T) (hm : P.follows .mixedOrders = true) {k : Nat} {fid : FuncId} {vs rs : List V} {H H1 : Hp} (h : sU T k fid vs H = some (rs, H1)) {S : Nat → Prop} {w : World} {ρ : Nat → Option Value} {xs : List Value} (hr : HRel S w ρ H.get) (hx : LRel S w ρ vs xs) : bI P fid = true ∧
  Calls P fid xs.toArray w fun e w' => ∃ S' ρ' ys, e = .returned (kg ys) ∧ HRel S' w' ρ' H1.get ∧ Inv ⟨w, S, fun b => ∃ id, own ρ id (H.get id) b, ρ⟩ S' w' ρ' H1.get ∧ LRel S' w' ρ' rs ys := by
 unfold sU at h
 split at h
 ·rename_i fn hfn
  obtain ⟨hf, he⟩ := hT.fn _ _ hfn
  split at h
  ·rename_i b hb
   split at h
   ·rename_i hl
    split at h
    ·rename_i e F1 H1' hrun
     split at h
     ·rename_i rs' hres
      simp only [Option.some.injEq, Prod.mk.injEq] at h
      obtain ⟨rfl, rfl⟩ := h
      refine ⟨he, ?_⟩
      have hi1 : Inv ⟨w, S, fun b => ∃ id, own ρ id (H.get id) b, ρ⟩ S w ρ H.get := ⟨ChgP.refl _ _, fun _ h => h, fun _ h => .inl h, fun id b hb => .inl ⟨id, hb⟩, fun _ _ h => h⟩
      refine lr hf hb hl hr hi1 hx (rx hT hm k _ _ _ _ _ _ _ ?_)
      rw [hrun]
      intro S' w' ρ' a' hr' hi' hF'
      obtain ⟨rl, hrl⟩ : ∃ l : List ResultVar, fn.results = l.toArray := ⟨fn.results.toList, by simp⟩
      rw [hrl] at hres
      refine ret_go hT (rs := rl) (by cases e <;> simp) hrl hr' hF' (by simpa using hres) fun x hvx => ?_
      have hLR := pG hvx
      obtain ⟨ys, hys, rfl⟩ := hLR
      exact ⟨S', ρ', ys, rfl, hr', hi', hys⟩
     ·cases h
    ·cases h
   ·cases h
  ·cases h
 ·cases h
end
end Go.Proofs.YthnohcipianijaaGreatDoor
namespace Go.Proofs.YthnohcipianijaaGreatDoor
open Go.RowKit Lx Sx
set_option maxRecDepth 100000
def nv : List (List UInt8) → List V → Bool
 | [], [] => true
 | s :: r, .str l :: q => lEq s l && nv r q
 | _, _ => false
def oD (ls : List (List UInt8)) : V → Bool
 | .nils => ls.isEmpty
 | .row sz els => Nat.beq sz 1 && nv ls els
 | _ => false
mutual
def treeB : Tree → V → Bool
 |.node k s ls ks, v => match v with
  |.agg [.int .i64 k', .str s', l, r] => iEq k k' && lEq s s' && oD ls l && (match r with
   | .nils => ks.isEmpty
   | .row sz els => Nat.beq sz 4 && kidsB ks els
   | _ => false)
  | _ => false
def kidsB : List Tree → List V → Bool
 |[], vs => match vs with
  | [] => true
  | _ => false
 |t :: r, vs => match vs with
  | v :: q => treeB t v && kidsB r q
  | [] => false
end
section
variable {S : Nat → Prop} {w : World}
theorem oH {ρ : Nat → Option Value} : ∀ {ls : List (List UInt8)} {els : List V} {xs : List Value}, nv ls els = true → CRel S w ρ 1 els xs → els.length = ls.length ∧ xs = ls.map gq
 | [], [], xs, _, hc => by simp only [CRel] at hc; subst hc; exact ⟨rfl, rfl⟩
 | s :: r, v :: q, xs, hb, hc => by
  cases v <;> simp only [nv] at hb <;> first | (cases hb; done) | skip
  rename_i l
  simp only [Bool.and_eq_true] at hb
  have hl := hb.1
  rw [jf] at hl
  simp only [beq_iff_eq] at hl
  subst hl
  simp only [CRel] at hc
  obtain ⟨x, ys, rfl, _, h3, h4⟩ := hc
  simp only [VRel] at h3
  subst h3
  obtain ⟨h5, h6⟩ := oH hb.2 h4
  exact ⟨by simp [h5], by simp [h6, Value.cells]⟩
 | [], _ :: _, _, hb, _ => by cases hb
 | _ :: _, [], _, hb, _ => by cases hb
theorem rO {ρ : Nat → Option Value} {ls : List (List UInt8)} {v : V} {x : Value} (hb : oD ls v = true) (hx : VRel S w ρ v x) : ∃ A m, x = .slice A ls.length m ∧ ls.length ≤ m ∧ m ≤ maxLen ∧ RowIn S w 1 A ls.length (ls.map gq) := by
 cases v <;> simp only [oD] at hb <;> first | (cases hb; done) | skip
 ·simp only [List.isEmpty_iff] at hb
  subst hb
  simp only [VRel] at hx; subst hx
  exact ⟨none, 0, rfl, Nat.le_refl _, by decide, RowIn.none_⟩
 ·rename_i sz els
  simp only [Bool.and_eq_true, Nat.beq_eq] at hb
  obtain ⟨rfl, hb⟩ := hb
  simp only [VRel] at hx
  obtain ⟨A, c, xs, rfl, h3, h4, h5, h6⟩ := hx
  obtain ⟨h7, rfl⟩ := oH hb h5
  rw [h7] at h3 h6 ⊢
  exact ⟨A, c, rfl, h3, h4, h6⟩
mutual
theorem treeB_ok {ρ : Nat → Option Value} : ∀ {t : Tree} {v : V} {x : Value}, treeB t v = true → VRel S w ρ v x → ∃ c, x = .agg c.toArray ∧ TreeIs S w t c
 | .node k s ls ks, v, x, hb, hx => by
  unfold treeB at hb
  split at hb
  ·rename_i k' s' l r
   simp only [Bool.and_eq_true] at hb
   obtain ⟨⟨⟨hb1, hb2⟩, hb3⟩, hb4⟩ := hb
   rw [ke] at hb1
   rw [jf] at hb2
   simp only [beq_iff_eq] at hb1 hb2
   subst hb1 hb2
   simp only [VRel] at hx
   obtain ⟨xs, rfl, hl⟩ := hx
   simp only [LRel] at hl
   obtain ⟨x0, _, rfl, h0, x1, _, rfl, h1, x2, _, rfl, h2, x3, _, rfl, h3, rfl⟩ := hl
   simp only [VRel] at h0 h1
   subst h0 h1
   obtain ⟨A, m, rfl, g1, g2, g3⟩ := rO hb3 h2
   have kk : ∃ B n, x3 = .slice B ks.length n ∧ ks.length ≤ n ∧ n ≤ maxLen ∧ ∃ cs, KidsAre S w ks cs ∧ RowIn S w 4 B ks.length cs := by
    split at hb4
    ·simp only [List.isEmpty_iff] at hb4
     subst hb4
     simp only [VRel] at h3; subst h3
     exact ⟨none, 0, rfl, Nat.le_refl _, by decide, [], by simp only [KidsAre], RowIn.none_⟩
    ·rename_i sz els
     simp only [Bool.and_eq_true, Nat.beq_eq] at hb4
     obtain ⟨rfl, hb4⟩ := hb4
     simp only [VRel] at h3
     obtain ⟨B, c, ys, rfl, q3, q4, q5, q6⟩ := h3
     obtain ⟨q7, q8⟩ := kidsB_ok hb4 q5
     rw [q7] at q3 q6 ⊢
     exact ⟨B, c, rfl, q3, q4, ys, q8, q6⟩
    ·cases hb4
   obtain ⟨B, n, rfl, k1, k2, cs, k3, k4⟩ := kk
   exact ⟨_, rfl, uA g1 g2 k1 k2 g3 k3 k4⟩
  ·cases hb
theorem kidsB_ok {ρ : Nat → Option Value} : ∀ {ts : List Tree} {vs : List V} {xs : List Value}, kidsB ts vs = true → CRel S w ρ 4 vs xs → vs.length = ts.length ∧ KidsAre S w ts xs
 | [], vs, xs, hb, hc => by
  unfold kidsB at hb
  split at hb
  ·simp only [CRel] at hc; subst hc; exact ⟨rfl, by simp only [KidsAre]⟩
  ·cases hb
 | t :: r, vs, xs, hb, hc => by
  unfold kidsB at hb
  split at hb
  ·rename_i v q
   simp only [Bool.and_eq_true] at hb
   simp only [CRel] at hc
   obtain ⟨x, ys, rfl, _, h3, h4⟩ := hc
   obtain ⟨c, rfl, hT⟩ := treeB_ok hb.1 h3
   obtain ⟨h5, h6⟩ := kidsB_ok hb.2 h4
   exact ⟨by simp [h5], by simp only [KidsAre]; exact ⟨c, ys, by simp [Value.cells], hT, h6⟩⟩
  ·cases hb
end
end
def iJ (T : Tab) (k : Nat) (fid : FuncId) (vs : List V) : Option (List V) := match sU T k fid vs ⟨0, []⟩ with
 | some (rs, H1) => oU 0 H1 rs fun rs' _ => some rs'
 | none => none
theorem iK (i : Nat) : (⟨0, []⟩ : Hp).get i = .free := by
 unfold Hp.get
 have : Nat.blt i 0 = false := by cases i <;> rfl
 simp only [this]
theorem tL (w : World) : HRel (fun _ => False) w (fun _ => none) (⟨0, []⟩ : Hp).get :=
 ⟨fun i => by rw [iK]; rfl, fun i b hb => by rw [iK] at hb; exact hb.elim, fun i j b hb _ => by rw [iK] at hb; exact hb.elim, fun _ h => h.elim⟩
theorem uQ {P : Program} {T : Tab} (hT : TabOk P T) (hm : P.follows .mixedOrders = true) {k : Nat} {fid : FuncId} {vs rs : List V} (h : iJ T k fid vs = some rs) {w : World} {xs : List Value} (hx : LRel (fun _ => False) w (fun _ => none) vs xs) :
  Calls P fid xs.toArray w fun e w' => ∃ S' ρ' ys, e = .returned (kg ys) ∧ (∀ b, S' b → w.heap.size ≤ b) ∧ Chg [] w w' ∧ LRel S' w' ρ' rs ys := by
 unfold iJ at h
 split at h
 ·rename_i rs1 H1 hrun
  obtain ⟨rs2, H2, e1, _, e3⟩ := mK 0 rs1 H1
  rw [e1] at h
  injection h with h; subst h
  have hr0 := tL w
  refine (uJ hT hm hrun hr0 hx).2.mono fun e w' hR => ?_
  obtain ⟨S', ρ', ys, rfl, hr, hi, hl⟩ := hR
  obtain ⟨S2, a1, a2, a3, a4⟩ := e3 _ S' w' ρ' ys hr hi hl
  have hno : ∀ b, ¬ ∃ id, own (fun _ => none) id ((⟨0, []⟩ : Hp).get id) b := fun b ⟨id, hb⟩ => by rw [iK] at hb; exact hb
  refine ⟨S2, ρ', ys, rfl, fun b hb => ?_, ⟨hi.chg.os, hi.chg.tape, hi.chg.output, hi.chg.size, fun b hb _ => hi.chg.block b hb (hno b)⟩, a4⟩
  rcases a2.s1 b hb with h | h | h
  ·exact h.elim
  ·exact absurd h (hno b)
  ·exact h
 ·cases h
def tf (fid : FuncId) (vs : List V) : Option V := match Nat.beq fid 121 with
 |true => match vs with
  | [.str s, .int .u8 (.ofNat c)] => qH (Lib.indexByte s c.toUInt8) fun n => some (.int .i64 n)
  | _ => none
 | false => none
noncomputable def jK : Tab := ⟨true, gj tyL, gj fnL, tf, fun f => Nat.beq f 50⟩
theorem uu : TabOk Tryz.prog jK := by
 refine ⟨rR, vQ, fun i vs v hv => ?_⟩
 replace hv : tf i vs = some v := hv
 unfold tf at hv
 split at hv
 ·rename_i hb
  have := Nat.eq_of_beq_eq_true hb
  subst this
  split at hv
  ·rename_i s c
   rw [qd] at hv
   injection hv with hv; subst hv
   refine ⟨by kernel_rfl, fun S w ρ xs hx => ?_⟩
   simp only [LRel] at hx
   obtain ⟨x0, _, rfl, h0, x1, _, rfl, h1, rfl⟩ := hx
   simp only [VRel] at h0 h1
   subst h0 h1
   exact ⟨_, by simp only [VRel]; rfl, qz _ _ _⟩
  ·cases hv
 ·cases hv
def dV (t : Tree) : Option (List V) → Bool
 | some [v, .int .i64 a, .int .i64 e] => treeB t v && iEq a 0 && iEq e 0
 | _ => false
theorem ru {k : Nat} {l : List UInt8} {t : Tree} (h : dV t (iJ jK k 27 [.str l]) = true) {w : World} : Calls Tryz.prog 27 [gq l].toArray w fun e w' => ∃ c0 c1 c2 c3, e = .returned (.tuple #[.agg #[c0, c1, c2, c3], .int .i64 0, .int .i64 0]) ∧ TreeIs (fun b => w.heap.size ≤ b) w' t [c0, c1, c2, c3] ∧ Chg [] w w' := by
 unfold dV at h
 split at h
 ·rename_i v a e hr
  simp only [Bool.and_eq_true, ke, beq_iff_eq] at h
  obtain ⟨⟨h1, rfl⟩, rfl⟩ := h
  refine (uQ uu (by kernel_rfl) hr (xs := [gq l]) ⟨_, [], rfl, by simp only [VRel], rfl⟩).mono fun e w' hR => ?_
  obtain ⟨S', ρ', ys, rfl, g1, g2, g3⟩ := hR
  simp only [LRel] at g3
  obtain ⟨x0, _, rfl, h0, x1, _, rfl, h2, x2, _, rfl, h3, rfl⟩ := g3
  simp only [VRel] at h2 h3
  subst h2 h3
  obtain ⟨c, rfl, hT⟩ := treeB_ok h1 h0
  have h4 := hT.four
  match c, h4, hT with
  | [c0, c1, c2, c3], _, hT => exact ⟨c0, c1, c2, c3, rfl, hT.keep g1 (fun _ _ _ => rfl), g2⟩
 ·cases h
end Go.Proofs.YthnohcipianijaaGreatDoor
namespace Go.Proofs.YthnohcipianijaaGreatDoor
open Go.RowKit Lx Sx
section
variable {S : Nat → Prop} {w : World} {ρ : Nat → Option Value}
theorem nT : ∀ ls : List (List UInt8), CRel S w ρ 1 (ls.map .str) (ls.map gq)
 | [] => by simp [CRel]
 | s :: r => by
  simp only [List.map_cons, CRel]
  exact ⟨gq s, r.map gq, by simp [Value.cells, gq], ⟨rfl, rfl⟩, by unfold VRel; rfl, nT r⟩
mutual
theorem TreeIs.vrel : ∀ {ρ : Nat → Option Value} {t : Tree} {c : List Value}, TreeIs S w t c → LRel S w ρ (cN t) c
 | ρ, .node k s ls ks, c, h => by
  simp only [TreeIs] at h
  obtain ⟨A, m, B, n, rfl, h1, h2, h3, h4, h5, cs, h6, h7⟩ := h
  simp only [cN, Tree.kind, Tree.text, Tree.leads, Tree.kids, LRel, VRel]
  exact ⟨_, _, rfl, rfl, _, _, rfl, rfl, _, _, rfl, ⟨A, m, _, by simp, by simpa using h1, h2, nT ls, by simpa using h5⟩, _, _, rfl, ⟨B, n, cs, by simp [gk], by simpa [gk] using h3, h4, KidsAre.crel h6, by simpa [gk] using h7⟩, rfl⟩
theorem KidsAre.crel : ∀ {ρ : Nat → Option Value} {ts : List Tree} {cs : List Value}, KidsAre S w ts cs → CRel S w ρ 4 (kidsV ts) cs
 | ρ, [], cs, h => by simp only [KidsAre] at h; simp only [kidsV, CRel]; exact h
 | ρ, t :: r, cs, h => by
  simp only [KidsAre] at h
  obtain ⟨c, d, rfl, h1, h2⟩ := h
  simp only [kidsV, CRel, ju]
  exact ⟨.agg c.toArray, d, by simp [Value.cells], ⟨by simp [Value.cells, h1.four], by simpa [Value.cells] using h1.one⟩, by simp only [VRel]; exact ⟨c, rfl, h1.vrel⟩, KidsAre.crel h2⟩
end
end
theorem gX {k : Nat} {l : List UInt8} {t : Tree} (h : dV t (iJ jK k 27 [.str l]) = true) : jD Tryz.prog 27 [.str l] (.tup [.agg (cN t), .int .i64 0, .int .i64 0]) := by
 refine ⟨rfl, rfl, fun S w ρ xs hr hx => ?_⟩
 simp only [LRel, VRel] at hx
 obtain ⟨x, ys, rfl, rfl, rfl⟩ := hx
 refine (ru h (w := w)).mono ?_
 rintro e w' ⟨c0, c1, c2, c3, rfl, hT, hc⟩
 have hT' := hT.bound
 have g := hr.chg0 hc
 refine ⟨_, fun b => S b ∨ (w.heap.size ≤ b ∧ b < w'.heap.size), ρ, _, ⟨0, []⟩, rfl, rfl, ⟨fun i => ?_, fun i b hb => ?_, fun i j b hb _ => ?_, fun b hb => hb.elim (g.slt b) (·.2)⟩, ⟨ChgP.of0 hc, fun _ h => .inl h, fun b hb => hb.elim .inl fun h => .inr (.inr h.1), fun id b hb => .inl ⟨id, hb⟩, fun id x h => ?_⟩, ?_⟩
 ·have := g.ob i; rw [iK] at this ⊢; exact this
 ·rw [iK] at hb; exact hb.elim
 ·rw [iK] at hb; exact hb.elim
 ·simp only [lK] at h
  split at h
  ·exact h
  ·cases h
 ·have hk := TreeIs.vrel (ρ := ρ) (TreeIs.keep (S' := fun b => S b ∨ (w.heap.size ≤ b ∧ b < w'.heap.size)) (fun b hb => .inr hb) (fun _ _ _ => rfl) hT')
  simp only [VRel]
  exact ⟨[.agg #[c0, c1, c2, c3], .int .i64 0, .int .i64 0], rfl, .agg #[c0, c1, c2, c3], _, rfl, by simp only [VRel]; exact ⟨_, rfl, hk⟩, _, _, rfl, by simp only [VRel], _, _, rfl, by simp only [VRel], rfl⟩
end Go.Proofs.YthnohcipianijaaGreatDoor
namespace Go.Proofs.YthnohcipianijaaGreatDoor
open Go.RowKit Lx Sx
set_option maxRecDepth 100000
set_option maxHeartbeats 1100000
def tK : List UInt8 := [109, 111, 100, 117, 108, 101, 32, 77, 32, 100, 101, 102, 32, 102, 40, 110, 58, 32, 73, 110, 116, 41, 58, 32, 73, 110, 116, 32, 61, 32, 105, 102, 32, 110, 32, 60, 32, 49, 32, 116, 104, 101, 110, 32, 48, 32, 101, 108, 115, 101, 32, 110, 32, 43, 32, 102, 40, 110, 32, 45, 32, 49, 41]
def fc : Tree := (iY tK).1
theorem tC : dV fc (iJ jK 5000 27 [.str tK]) = true := by kernel_rfl
theorem kn : kbulk [fc] ≤ 1100000 := by decide +kernel
theorem vG : (bu [fc] 0 0 [dI 2] 100).2 = (25, 0) ∧ sameD (bu [fc] 0 0 [dI 2] 100).1 (dI 3) = true ∧ cy (bu [fc] 0 0 [dI 2] 100).1 = true := by decide +kernel
theorem we : (bu [fc] 0 0 [dI 2] 5).2 = (5, 21) := by decide +kernel
theorem sI : eP true := by
 obtain ⟨a1, a2, a3⟩ := vG
 have a4 := we
 have r1 := qT kn 0 0 [dI 2] (by simp) 100
 have r2 := qT kn 0 0 [dI 2] (by simp) 5
 have hw := ut kn 0 0 [dI 2] 100
 have hn := qX (bu [fc] 0 0 [dI 2] 100).1
 revert a1 a2 a3 a4 r1 r2 hw hn
 generalize bu [fc] 0 0 [dI 2] 100 = x
 generalize bu [fc] 0 0 [dI 2] 5 = y
 obtain ⟨x1, x2, x3⟩ := x
 obtain ⟨y1, y2, y3⟩ := y
 intro a1 a2 a3 a4 r1 r2 hw hn
 simp only [Prod.mk.injEq] at a1 a2 a3 a4 r1 r2 hw hn
 obtain ⟨rfl, rfl⟩ := a1
 obtain ⟨rfl, rfl⟩ := a4
 refine iL 5 _ ⟨fc, 0, 0, gX tC, _, bl 2, _, _, _, r1, it 4 _ _ _ _ _ _ ⟨_, bl 2, _, _, _, r2, iu 3 _ _ _ _ _ _ _ ⟨fun _ => ⟨fun _ => ⟨fun _ => ⟨_, bl 3, _, io x1 (by omega) _, fun _ => ⟨fun _ => ⟨fun _ => ⟨_, pT x1, a3⟩, fun h => absurd rfl h⟩, fun h => absurd rfl h⟩, fun h => by rw [a2] at h; cases h⟩, fun h => absurd rfl h⟩, fun h => absurd rfl h⟩, fun h => absurd rfl h⟩⟩⟩
theorem aw9 : fH true := sI
end Go.Proofs.YthnohcipianijaaGreatDoor
namespace Go.Proofs.YthnohcipianijaaGreatDoor
open Go.RowKit Lx Sx
set_option maxHeartbeats 1000000
def Dc (L : List Int) (a : Int) : Prop := 0 ≤ a ∧ a ≤ L.length ∧ L.length ≤ 1000000000
def Gt (L : List Int) (C : Tree → Int → Prop) (B : Nat) : Prop := ∃ t a', C t a' ∧ Dc L a' ∧ tbulk t ≤ B
theorem Gt.map {L : List Int} {C C' : Tree → Int → Prop} {B B' : Nat} (h : Gt L C B) (hb : B ≤ B') (k : ∀ t a', C t a' → C' t a') : Gt L C' B' := by
 obtain ⟨t, a', h1, h2, h3⟩ := h; exact ⟨t, a', k t a' h1, h2, by omega⟩
section
variable {L : List Int} {d a z : Int} {t : Tree} {a' : Int} {m : Nat}
end
end Go.Proofs.YthnohcipianijaaGreatDoor
namespace Go.Proofs.YthnohcipianijaaGreatDoor
open Go.RowKit Lx Sx
set_option maxRecDepth 100000
set_option maxHeartbeats 1000000
abbrev P9 : List Tree := [fc]
def bIf : Tree := ao (aJ P9 0 0) 2
def bLt : Tree := ao bIf 0
def bZ : Tree := ao bIf 1
def sq : Tree := ao bIf 2
def bN1 : Tree := ao bLt 0
def xu : Tree := ao bLt 1
def bN2 : Tree := ao sq 0
def xo : Tree := ao sq 1
def xR : Tree := ao xo 0
def tG : Tree := ao xR 0
def bN3 : Tree := ao tG 0
def xb : Tree := ao tG 1
theorem wR {t : Tree} (h : t.kids.length = 2) : t.kids = [ao t 0, ao t 1] := by
 unfold ao
 match hk : t.kids, h with
 | [a, b], _ => rfl
theorem t9 : bLt.text = [60] ∧ jB bZ.text 0 = 0 ∧ sq.text = [43] ∧ bN1.text = [110] ∧ jB xu.text 0 = 1 ∧ bN2.text = [110] ∧ tG.text = [45] ∧ bN3.text = [110] ∧ jB xb.text 0 = 1 := by decide +kernel
end Go.Proofs.YthnohcipianijaaGreatDoor
namespace Go.Proofs.YthnohcipianijaaGreatDoor
open Go.RowKit Lx Sx
set_option maxRecDepth 100000
set_option maxHeartbeats 4000000
def dX (p0 p1 : Int) (r0 : Bool) : Prop := qS 10 [.int .i64 p0, .int .i64 p1] (.bool r0)
def aR (m : Nat) (p0 p1 : Int) (a b c : GDatum) (d e : Nat) (r0 : Bool) : Prop := ∀ (K : Ctx), aC K [] → qLG K Tryz.f10 (fun u _ => u = .bool r0) (xJ (ai Tryz.f10)) [.loop (xJ (ai Tryz.f10)) 8, .blk 0, .seq (xD (xA (ai Tryz.f10)))] 85 (mkF 85 0 [(0, .int .i64 p0), (1, .int .i64 p1), (5, .ptr 0 0), (6, .ptr 1 0), (7, .int .i64 0)]) ⟨2, [(1, .var 50 [.int .i64 a.Kind, .int .i64 a.N, .str a.S, .row 4 (GDatum.vs a.L), .int .i64 b.Kind, .int .i64 b.N, .str b.S, .row 4 (GDatum.vs b.L), .int .i64 c.Kind, .int .i64 c.N, .str c.S, .row 4 (GDatum.vs c.L), .int .i64 3, .int .i64 (e : Int), .str [], .nils, .int .i64 3, .int .i64 (d : Int), .str [], .nils]), (0, .var 49 [.str [43], .str [45], .str [42], .str [60], .str [61, 61]])]⟩
def dx (m : Nat) (p0 p1 : Int) (a b d : GDatum) (e f : Nat) (g : Int) (i : GDatum) (j k : Int) (r0 : Bool) : Prop := ∀ (K : Ctx), aC K [] → Go Tryz.prog K (bodyPost Tryz.prog Tryz.f10 (SP K (fun u _ => u = .bool r0))) (.ex .normal) [.seq (xA (cK (cA (cB (xJ (ai Tryz.f10)))))), .blk 1, .seq (xA (xJ (ai Tryz.f10))), .loop (xJ (ai Tryz.f10)) 8, .blk 0, .seq (xD (xA (ai Tryz.f10)))] 85 (mkF 85 0 [(0, .int .i64 p0), (1, .int .i64 p1), (5, .ptr 0 0), (6, .ptr 1 0), (7, .int .i64 0), (10, .int .i64 g), (11, .ptr 2 0), (12, .int .i64 j), (13, .int .i64 k)]) ⟨3, [(2, .var 24 (GDatum.c i)), (1, .var 50 [.int .i64 a.Kind, .int .i64 a.N, .str a.S, .row 4 (GDatum.vs a.L), .int .i64 b.Kind, .int .i64 b.N, .str b.S, .row 4 (GDatum.vs b.L), .int .i64 d.Kind, .int .i64 d.N, .str d.S, .row 4 (GDatum.vs d.L), .int .i64 3, .int .i64 (f : Int), .str [], .nils, .int .i64 3, .int .i64 (e : Int), .str [], .nils]), (0, .var 49 [.str [43], .str [45], .str [42], .str [60], .str [61, 61]])]⟩
def dO (m : Nat) (p0 p1 : Int) (a b c : GDatum) (d e : Nat) (r0 : Bool) : Prop := ∀ (K : Ctx), aC K [] → qLG K Tryz.f10 (fun u _ => u = .bool r0) (xJ (ai Tryz.f10)) [.loop (xJ (ai Tryz.f10)) 7, .blk 0, .seq (xD (xA (ai Tryz.f10)))] 85 (mkF 85 0 [(0, .int .i64 p0), (1, .int .i64 p1), (5, .ptr 0 0), (6, .ptr 1 0), (7, .int .i64 1)]) ⟨2, [(1, .var 50 [.int .i64 a.Kind, .int .i64 a.N, .str a.S, .row 4 (GDatum.vs a.L), .int .i64 b.Kind, .int .i64 b.N, .str b.S, .row 4 (GDatum.vs b.L), .int .i64 c.Kind, .int .i64 c.N, .str c.S, .row 4 (GDatum.vs c.L), .int .i64 3, .int .i64 (e : Int), .str [], .nils, .int .i64 3, .int .i64 (d : Int), .str [], .nils]), (0, .var 49 [.str [43], .str [45], .str [42], .str [60], .str [61, 61]])]⟩
def dH (m : Nat) (p0 p1 : Int) (a b d : GDatum) (e f : Nat) (g : Int) (i : GDatum) (j k : Int) (r0 : Bool) : Prop := ∀ (K : Ctx), aC K [] → Go Tryz.prog K (bodyPost Tryz.prog Tryz.f10 (SP K (fun u _ => u = .bool r0))) (.ex .normal) [.seq (xA (cK (cA (cB (xJ (ai Tryz.f10)))))), .blk 1, .seq (xA (xJ (ai Tryz.f10))), .loop (xJ (ai Tryz.f10)) 7, .blk 0, .seq (xD (xA (ai Tryz.f10)))] 85 (mkF 85 0 [(0, .int .i64 p0), (1, .int .i64 p1), (5, .ptr 0 0), (6, .ptr 1 0), (7, .int .i64 1), (10, .int .i64 g), (11, .ptr 2 0), (12, .int .i64 j), (13, .int .i64 k)]) ⟨3, [(2, .var 24 (GDatum.c i)), (1, .var 50 [.int .i64 a.Kind, .int .i64 a.N, .str a.S, .row 4 (GDatum.vs a.L), .int .i64 b.Kind, .int .i64 b.N, .str b.S, .row 4 (GDatum.vs b.L), .int .i64 d.Kind, .int .i64 d.N, .str d.S, .row 4 (GDatum.vs d.L), .int .i64 3, .int .i64 (f : Int), .str [], .nils, .int .i64 3, .int .i64 (e : Int), .str [], .nils]), (0, .var 49 [.str [43], .str [45], .str [42], .str [60], .str [61, 61]])]⟩
def dP (m : Nat) (p0 p1 : Int) (a b c : GDatum) (d e : Nat) (r0 : Bool) : Prop := ∀ (K : Ctx), aC K [] → qLG K Tryz.f10 (fun u _ => u = .bool r0) (xJ (ai Tryz.f10)) [.loop (xJ (ai Tryz.f10)) 6, .blk 0, .seq (xD (xA (ai Tryz.f10)))] 85 (mkF 85 0 [(0, .int .i64 p0), (1, .int .i64 p1), (5, .ptr 0 0), (6, .ptr 1 0), (7, .int .i64 2)]) ⟨2, [(1, .var 50 [.int .i64 a.Kind, .int .i64 a.N, .str a.S, .row 4 (GDatum.vs a.L), .int .i64 b.Kind, .int .i64 b.N, .str b.S, .row 4 (GDatum.vs b.L), .int .i64 c.Kind, .int .i64 c.N, .str c.S, .row 4 (GDatum.vs c.L), .int .i64 3, .int .i64 (e : Int), .str [], .nils, .int .i64 3, .int .i64 (d : Int), .str [], .nils]), (0, .var 49 [.str [43], .str [45], .str [42], .str [60], .str [61, 61]])]⟩
def dD (m : Nat) (p0 p1 : Int) (a b d : GDatum) (e f : Nat) (g : Int) (i : GDatum) (j k : Int) (r0 : Bool) : Prop := ∀ (K : Ctx), aC K [] → Go Tryz.prog K (bodyPost Tryz.prog Tryz.f10 (SP K (fun u _ => u = .bool r0))) (.ex .normal) [.seq (xA (cK (cA (cB (xJ (ai Tryz.f10)))))), .blk 1, .seq (xA (xJ (ai Tryz.f10))), .loop (xJ (ai Tryz.f10)) 6, .blk 0, .seq (xD (xA (ai Tryz.f10)))] 85 (mkF 85 0 [(0, .int .i64 p0), (1, .int .i64 p1), (5, .ptr 0 0), (6, .ptr 1 0), (7, .int .i64 2), (10, .int .i64 g), (11, .ptr 2 0), (12, .int .i64 j), (13, .int .i64 k)]) ⟨3, [(2, .var 24 (GDatum.c i)), (1, .var 50 [.int .i64 a.Kind, .int .i64 a.N, .str a.S, .row 4 (GDatum.vs a.L), .int .i64 b.Kind, .int .i64 b.N, .str b.S, .row 4 (GDatum.vs b.L), .int .i64 d.Kind, .int .i64 d.N, .str d.S, .row 4 (GDatum.vs d.L), .int .i64 3, .int .i64 (f : Int), .str [], .nils, .int .i64 3, .int .i64 (e : Int), .str [], .nils]), (0, .var 49 [.str [43], .str [45], .str [42], .str [60], .str [61, 61]])]⟩
def dJ (m : Nat) (p0 p1 : Int) (a b c : GDatum) (d e : Nat) (r0 : Bool) : Prop := ∀ (K : Ctx), aC K [] → qLG K Tryz.f10 (fun u _ => u = .bool r0) (xJ (ai Tryz.f10)) [.loop (xJ (ai Tryz.f10)) 5, .blk 0, .seq (xD (xA (ai Tryz.f10)))] 85 (mkF 85 0 [(0, .int .i64 p0), (1, .int .i64 p1), (5, .ptr 0 0), (6, .ptr 1 0), (7, .int .i64 3)]) ⟨2, [(1, .var 50 [.int .i64 a.Kind, .int .i64 a.N, .str a.S, .row 4 (GDatum.vs a.L), .int .i64 b.Kind, .int .i64 b.N, .str b.S, .row 4 (GDatum.vs b.L), .int .i64 c.Kind, .int .i64 c.N, .str c.S, .row 4 (GDatum.vs c.L), .int .i64 3, .int .i64 (e : Int), .str [], .nils, .int .i64 3, .int .i64 (d : Int), .str [], .nils]), (0, .var 49 [.str [43], .str [45], .str [42], .str [60], .str [61, 61]])]⟩
def dy (m : Nat) (p0 p1 : Int) (a b d : GDatum) (e f : Nat) (g : Int) (i : GDatum) (j k : Int) (r0 : Bool) : Prop := ∀ (K : Ctx), aC K [] → Go Tryz.prog K (bodyPost Tryz.prog Tryz.f10 (SP K (fun u _ => u = .bool r0))) (.ex .normal) [.seq (xA (cK (cA (cB (xJ (ai Tryz.f10)))))), .blk 1, .seq (xA (xJ (ai Tryz.f10))), .loop (xJ (ai Tryz.f10)) 5, .blk 0, .seq (xD (xA (ai Tryz.f10)))] 85 (mkF 85 0 [(0, .int .i64 p0), (1, .int .i64 p1), (5, .ptr 0 0), (6, .ptr 1 0), (7, .int .i64 3), (10, .int .i64 g), (11, .ptr 2 0), (12, .int .i64 j), (13, .int .i64 k)]) ⟨3, [(2, .var 24 (GDatum.c i)), (1, .var 50 [.int .i64 a.Kind, .int .i64 a.N, .str a.S, .row 4 (GDatum.vs a.L), .int .i64 b.Kind, .int .i64 b.N, .str b.S, .row 4 (GDatum.vs b.L), .int .i64 d.Kind, .int .i64 d.N, .str d.S, .row 4 (GDatum.vs d.L), .int .i64 3, .int .i64 (f : Int), .str [], .nils, .int .i64 3, .int .i64 (e : Int), .str [], .nils]), (0, .var 49 [.str [43], .str [45], .str [42], .str [60], .str [61, 61]])]⟩
def dK (m : Nat) (p0 p1 : Int) (a b c : GDatum) (d e : Nat) (r0 : Bool) : Prop := ∀ (K : Ctx), aC K [] → qLG K Tryz.f10 (fun u _ => u = .bool r0) (xJ (ai Tryz.f10)) [.loop (xJ (ai Tryz.f10)) 4, .blk 0, .seq (xD (xA (ai Tryz.f10)))] 85 (mkF 85 0 [(0, .int .i64 p0), (1, .int .i64 p1), (5, .ptr 0 0), (6, .ptr 1 0), (7, .int .i64 4)]) ⟨2, [(1, .var 50 [.int .i64 a.Kind, .int .i64 a.N, .str a.S, .row 4 (GDatum.vs a.L), .int .i64 b.Kind, .int .i64 b.N, .str b.S, .row 4 (GDatum.vs b.L), .int .i64 c.Kind, .int .i64 c.N, .str c.S, .row 4 (GDatum.vs c.L), .int .i64 3, .int .i64 (e : Int), .str [], .nils, .int .i64 3, .int .i64 (d : Int), .str [], .nils]), (0, .var 49 [.str [43], .str [45], .str [42], .str [60], .str [61, 61]])]⟩
def dG (m : Nat) (p0 p1 : Int) (a b d : GDatum) (e f : Nat) (g : Int) (i : GDatum) (j k : Int) (r0 : Bool) : Prop := ∀ (K : Ctx), aC K [] → Go Tryz.prog K (bodyPost Tryz.prog Tryz.f10 (SP K (fun u _ => u = .bool r0))) (.ex .normal) [.seq (xA (cK (cA (cB (xJ (ai Tryz.f10)))))), .blk 1, .seq (xA (xJ (ai Tryz.f10))), .loop (xJ (ai Tryz.f10)) 4, .blk 0, .seq (xD (xA (ai Tryz.f10)))] 85 (mkF 85 0 [(0, .int .i64 p0), (1, .int .i64 p1), (5, .ptr 0 0), (6, .ptr 1 0), (7, .int .i64 4), (10, .int .i64 g), (11, .ptr 2 0), (12, .int .i64 j), (13, .int .i64 k)]) ⟨3, [(2, .var 24 (GDatum.c i)), (1, .var 50 [.int .i64 a.Kind, .int .i64 a.N, .str a.S, .row 4 (GDatum.vs a.L), .int .i64 b.Kind, .int .i64 b.N, .str b.S, .row 4 (GDatum.vs b.L), .int .i64 d.Kind, .int .i64 d.N, .str d.S, .row 4 (GDatum.vs d.L), .int .i64 3, .int .i64 (f : Int), .str [], .nils, .int .i64 3, .int .i64 (e : Int), .str [], .nils]), (0, .var 49 [.str [43], .str [45], .str [42], .str [60], .str [61, 61]])]⟩
def dq (m : Nat) (p0 p1 : Int) (a b c : GDatum) (d e : Nat) (r0 : Bool) : Prop := ∀ (K : Ctx), aC K [] → qLG K Tryz.f10 (fun u _ => u = .bool r0) (xJ (ai Tryz.f10)) [.loop (xJ (ai Tryz.f10)) 3, .blk 0, .seq (xD (xA (ai Tryz.f10)))] 85 (mkF 85 0 [(0, .int .i64 p0), (1, .int .i64 p1), (5, .ptr 0 0), (6, .ptr 1 0), (7, .int .i64 5)]) ⟨2, [(1, .var 50 [.int .i64 a.Kind, .int .i64 a.N, .str a.S, .row 4 (GDatum.vs a.L), .int .i64 b.Kind, .int .i64 b.N, .str b.S, .row 4 (GDatum.vs b.L), .int .i64 c.Kind, .int .i64 c.N, .str c.S, .row 4 (GDatum.vs c.L), .int .i64 3, .int .i64 (e : Int), .str [], .nils, .int .i64 3, .int .i64 (d : Int), .str [], .nils]), (0, .var 49 [.str [43], .str [45], .str [42], .str [60], .str [61, 61]])]⟩
theorem hD (m : Nat) (p0 p1 : Int) (r0 : Bool) (h : ∃ a, au (IntKind.i64.wrap (p0 + p1)) a ∧ ∃ b, au (IntKind.i64.wrap (p0 - p1)) b ∧ ∃ c, au (IntKind.i64.wrap (p0 * p1)) c ∧ ((p0 < p1) → ((p0 = p1) → aR m p0 p1 a b c 1 1 r0) ∧ ((p0 ≠ p1) → aR m p0 p1 a b c 0 1 r0)) ∧ ((¬ p0 < p1) → ((p0 = p1) → aR m p0 p1 a b c 1 0 r0) ∧ ((p0 ≠ p1) → aR m p0 p1 a b c 0 0 r0))) : dX p0 p1 r0 := by
 refine ⟨rfl, rfl, ?_⟩
 refine av 85 [] Tryz.func10 rfl rfl rfl (aI rfl) fun K hK => ?_
 refine gR 17 rfl <| gV 17 (.int .i64 (IntKind.i64.wrap (p0 + p1))) rfl (rfl) rfl ?_
 obtain ⟨a, hs289, h⟩ := h
 refine gC0 hs289 (by kernel_rfl) rfl rfl .rfl rfl <| gR 3 rfl <| gV 21 (.int .i64 (IntKind.i64.wrap (p0 - p1))) rfl (rfl) rfl ?_
 obtain ⟨b, hs290, h⟩ := h
 refine gC0 hs290 (by kernel_rfl) rfl rfl .rfl rfl <| gR 2 rfl <| gY (tW rfl rfl) rfl rfl ?_
 obtain ⟨c, hs291, h⟩ := h
 refine gC0 hs291 (by kernel_rfl) rfl rfl .rfl rfl <| gR 15 rfl <| qBd 32 rfl rfl rfl h (fun h => ?_) fun h => ?_
 refine gR 2 rfl <| gY (yIP (len := 5) (e := 24) (sz := 4) ab rfl rfl rfl rfl rfl rfl rfl rfl) rfl rfl <| gR 12 rfl <| qBe 37 rfl rfl rfl h (fun h => ?_) fun h => ?_
 exact gR 2 rfl <| gY (yIP (len := 5) (e := 24) (sz := 4) ab rfl rfl rfl rfl rfl rfl rfl rfl) rfl rfl <| gR 11 rfl <| go_loop 8 <| gJ (h K hK) [0, 1] [] rfl hK pq5 (pqo2 rfl rfl rfl rfl) rfl
 exact gR 10 rfl <| go_loop 8 <| gJ (h K hK) [0, 1] [] rfl hK pq5 (pqo2 rfl rfl rfl rfl) rfl
 refine gR 11 rfl <| qBe 37 rfl rfl rfl h (fun h => ?_) fun h => ?_
 exact gR 2 rfl <| gY (yIP (len := 5) (e := 24) (sz := 4) ab rfl rfl rfl rfl rfl rfl rfl rfl) rfl rfl <| gR 11 rfl <| go_loop 8 <| gJ (h K hK) [0, 1] [] rfl hK pq5 (pqo2 rfl rfl rfl rfl) rfl
 exact gR 10 rfl <| go_loop 8 <| gJ (h K hK) [0, 1] [] rfl hK pq5 (pqo2 rfl rfl rfl rfl) rfl
theorem gE (m : Nat) (p0 p1 : Int) (n o p : GDatum) (q r : Nat) (r0 : Bool) (h : [109, 111, 100, 117, 108, 101, 32, 77, 32, 100, 101, 102, 32, 102, 40, 97, 58, 32, 73, 110, 116, 44, 32, 98, 58, 32, 73, 110, 116, 41, 58, 32, 73, 110, 116, 32, 61, 32, 97, 32].length + [43].length ≤ 9223372036854775807 ∧ ([109, 111, 100, 117, 108, 101, 32, 77, 32, 100, 101, 102, 32, 102, 40, 97, 58, 32, 73, 110, 116, 44, 32, 98, 58, 32, 73, 110, 116, 41, 58, 32, 73, 110, 116, 32, 61, 32, 97, 32] ++ [43]).length + [32, 98].length ≤ 9223372036854775807 ∧ ∃ c s k, bQ (([109, 111, 100, 117, 108, 101, 32, 77, 32, 100, 101, 102, 32, 102, 40, 97, 58, 32, 73, 110, 116, 44, 32, 98, 58, 32, 73, 110, 116, 41, 58, 32, 73, 110, 116, 32, 61, 32, 97, 32] ++ [43]) ++ [32, 98]) c s k ∧ ∃ b, au p0 b ∧ ∃ a, au p1 a ∧ ∃ d f g, bT [c] 0 0 [b, a] 3 d f g ∧ dx m p0 p1 n o p q r k d f g r0) : aR (m + 1) p0 p1 n o p q r r0 := by
 intro K hK
 refine gR 15 rfl <| gY (yIP (len := 5) (e := 9) (sz := 1) ab rfl rfl rfl rfl rfl rfl rfl rfl) rfl rfl <| gR 1 rfl ?_
 obtain ⟨hb, h⟩ := h
 refine gY (ia rfl rfl hb) rfl rfl ?_
 obtain ⟨hb, h⟩ := h
 refine gY (ia rfl rfl hb) rfl rfl ?_
 obtain ⟨c, s, k, hs292, h⟩ := h
 refine gC0 hs292 (by kernel_rfl) rfl rfl .rfl rfl <| gR 11 rfl <| gDs [2] 13 16 rfl (by kernel_rfl) (by kernel_rfl) <| gDr [(0, 3), (2, 2), (4, 2)] (by kernel_rfl) rfl rfl ?_
 obtain ⟨b, hs293, h⟩ := h
 apply bE (i := 1) (j := 3) (l := 12) (by kernel_rfl) rfl rfl rfl rfl rfl rfl
 exact (ac ab rfl rfl)
 exact (ak (L' := [2]) (by kernel_rfl) rfl rfl (ar hs293 .rfl [2] rfl) (.inl rfl))
 exact (ac ab rfl rfl)
 refine gHR 3 (kidsV [c]) rfl (ax c) rfl ?_
 apply ah (i := 3) (j := 12) (by kernel_rfl) rfl rfl rfl rfl
 exact (ak (L' := [2]) (by kernel_rfl) rfl rfl (ar hs293 .rfl [2] rfl) (.inl rfl))
 exact (ac ab rfl rfl)
 obtain ⟨a, hs294, h⟩ := h
 apply ah (i := 5) (j := 12) (by kernel_rfl) rfl rfl rfl rfl
 exact (ak (L' := [2]) (by kernel_rfl) rfl rfl (ar hs294 .rfl [2] rfl) (.inl rfl))
 exact (ac ab rfl rfl)
 apply ah (i := 6) (j := 12) (by kernel_rfl) rfl rfl rfl rfl
 exact (ac ab rfl rfl)
 exact (ac ab rfl rfl)
 refine gHR 4 (GDatum.vs [b, a]) rfl (GDatum.vlit [b, a]) rfl <| gFR 3 rfl (am _) rfl rfl <| gFR 4 rfl (GDatum.vpure _) rfl rfl ?_
 obtain ⟨d, f, g, hs295, h⟩ := h
 apply ah (i := 7) (j := 12) (by kernel_rfl) rfl rfl rfl rfl
 exact (ak (L' := [2]) (by kernel_rfl) rfl rfl (ar hs295 .rfl [2] rfl) (.inl rfl))
 exact (ac ab rfl rfl)
 exact gDr [(8, 2), (9, 2), (10, 2), (11, 2), (12, 0), (13, 1), (14, 1), (15, 1)] (by kernel_rfl) rfl rfl <| gDe (by kernel_rfl) <| gJ (h K hK) [0, 1, 5] [] rfl hK pq9 (pqo3 rfl rfl rfl rfl rfl rfl) rfl
 refine aj 7 hs295 (by kernel_rfl) rfl (by kernel_rfl) rfl rfl .rfl rfl rfl ?_
 exact gDr [(8, 0), (9, 2), (10, 2), (11, 2), (13, 1), (14, 1), (15, 1)] (by kernel_rfl) rfl rfl <| gDe (by kernel_rfl) <| gJ (h K hK) [0, 1, 5] [] rfl hK pq9 (pqo3 rfl rfl rfl rfl rfl rfl) rfl
 refine gDr [(6, 0)] (by kernel_rfl) rfl rfl <| gHR 5 (GDatum.vs [b, a]) rfl (GDatum.vlit [b, a]) rfl <| gFR 3 rfl (am _) rfl rfl <| gFR 5 rfl (GDatum.vpure _) rfl rfl ?_
 obtain ⟨d, f, g, hs296, h⟩ := h
 refine aj 7 hs296 (by kernel_rfl) rfl (by kernel_rfl) rfl rfl .rfl rfl rfl ?_
 exact gDr [(8, 0), (9, 2), (10, 2), (11, 2), (13, 1), (14, 1), (15, 1)] (by kernel_rfl) rfl rfl <| gDe (by kernel_rfl) <| gJ (h K hK) [0, 1, 4] [] rfl hK pq9 (pqo3 rfl rfl rfl rfl rfl rfl) rfl
 refine aj 5 hs294 (by kernel_rfl) rfl (by kernel_rfl) rfl rfl .rfl rfl rfl ?_
 refine gDr [(6, 0)] (by kernel_rfl) rfl rfl <| gHR 5 (GDatum.vs [b, a]) rfl (GDatum.vlit [b, a]) rfl <| gFR 3 rfl (am _) rfl rfl <| gFR 5 rfl (GDatum.vpure _) rfl rfl ?_
 obtain ⟨d, f, g, hs297, h⟩ := h
 refine aj 7 hs297 (by kernel_rfl) rfl (by kernel_rfl) rfl rfl .rfl rfl rfl ?_
 exact gDr [(8, 0), (9, 2), (10, 2), (11, 2), (13, 1), (14, 1), (15, 1)] (by kernel_rfl) rfl rfl <| gDe (by kernel_rfl) <| gJ (h K hK) [0, 1, 4] [] rfl hK pq9 (pqo3 rfl rfl rfl rfl rfl rfl) rfl
 refine aj 3 hs293 (by kernel_rfl) rfl (by kernel_rfl) rfl rfl .rfl rfl rfl ?_
 obtain ⟨a, hs298, h⟩ := h
 refine aj 5 hs298 (by kernel_rfl) rfl (by kernel_rfl) rfl rfl .rfl rfl rfl ?_
 refine gDr [(6, 0)] (by kernel_rfl) rfl rfl <| gHR 5 (GDatum.vs [b, a]) rfl (GDatum.vlit [b, a]) rfl <| gFR 3 rfl (am _) rfl rfl <| gFR 5 rfl (GDatum.vpure _) rfl rfl ?_
 obtain ⟨d, f, g, hs299, h⟩ := h
 refine aj 7 hs299 (by kernel_rfl) rfl (by kernel_rfl) rfl rfl .rfl rfl rfl ?_
 exact gDr [(8, 0), (9, 2), (10, 2), (11, 2), (13, 1), (14, 1), (15, 1)] (by kernel_rfl) rfl rfl <| gDe (by kernel_rfl) <| gJ (h K hK) [0, 1, 4] [] rfl hK pq9 (pqo3 rfl rfl rfl rfl rfl rfl) rfl
 obtain ⟨a, hs300, h⟩ := h
 apply bE (i := 1) (j := 5) (l := 12) (by kernel_rfl) rfl rfl rfl rfl rfl rfl
 exact (ac ab rfl rfl)
 exact (ak (L' := [2]) (by kernel_rfl) rfl rfl (ar hs300 .rfl [2] rfl) (.inl rfl))
 exact (ac ab rfl rfl)
 refine gHR 3 (kidsV [c]) rfl (ax c) rfl ?_
 apply ah (i := 5) (j := 12) (by kernel_rfl) rfl rfl rfl rfl
 exact (ak (L' := [2]) (by kernel_rfl) rfl rfl (ar hs300 .rfl [2] rfl) (.inl rfl))
 exact (ac ab rfl rfl)
 apply ah (i := 6) (j := 12) (by kernel_rfl) rfl rfl rfl rfl
 exact (ac ab rfl rfl)
 exact (ac ab rfl rfl)
 refine gHR 4 (GDatum.vs [b, a]) rfl (GDatum.vlit [b, a]) rfl <| gFR 3 rfl (am _) rfl rfl <| gFR 4 rfl (GDatum.vpure _) rfl rfl ?_
 obtain ⟨d, f, g, hs301, h⟩ := h
 apply ah (i := 7) (j := 12) (by kernel_rfl) rfl rfl rfl rfl
 exact (ak (L' := [2]) (by kernel_rfl) rfl rfl (ar hs301 .rfl [2] rfl) (.inl rfl))
 exact (ac ab rfl rfl)
 exact gDr [(8, 2), (9, 2), (10, 2), (11, 2), (12, 0), (13, 1), (14, 1), (15, 1)] (by kernel_rfl) rfl rfl <| gDe (by kernel_rfl) <| gJ (h K hK) [0, 1, 5] [] rfl hK pq9 (pqo3 rfl rfl rfl rfl rfl rfl) rfl
 refine aj 7 hs301 (by kernel_rfl) rfl (by kernel_rfl) rfl rfl .rfl rfl rfl ?_
 exact gDr [(8, 0), (9, 2), (10, 2), (11, 2), (13, 1), (14, 1), (15, 1)] (by kernel_rfl) rfl rfl <| gDe (by kernel_rfl) <| gJ (h K hK) [0, 1, 5] [] rfl hK pq9 (pqo3 rfl rfl rfl rfl rfl rfl) rfl
 refine gDr [(6, 0)] (by kernel_rfl) rfl rfl <| gHR 5 (GDatum.vs [b, a]) rfl (GDatum.vlit [b, a]) rfl <| gFR 3 rfl (am _) rfl rfl <| gFR 5 rfl (GDatum.vpure _) rfl rfl ?_
 obtain ⟨d, f, g, hs302, h⟩ := h
 refine aj 7 hs302 (by kernel_rfl) rfl (by kernel_rfl) rfl rfl .rfl rfl rfl ?_
 exact gDr [(8, 0), (9, 2), (10, 2), (11, 2), (13, 1), (14, 1), (15, 1)] (by kernel_rfl) rfl rfl <| gDe (by kernel_rfl) <| gJ (h K hK) [0, 1, 4] [] rfl hK pq9 (pqo3 rfl rfl rfl rfl rfl rfl) rfl
 refine aj 5 hs300 (by kernel_rfl) rfl (by kernel_rfl) rfl rfl .rfl rfl rfl ?_
 refine gDr [(6, 0)] (by kernel_rfl) rfl rfl <| gHR 5 (GDatum.vs [b, a]) rfl (GDatum.vlit [b, a]) rfl <| gFR 3 rfl (am _) rfl rfl <| gFR 5 rfl (GDatum.vpure _) rfl rfl ?_
 obtain ⟨d, f, g, hs303, h⟩ := h
 refine aj 7 hs303 (by kernel_rfl) rfl (by kernel_rfl) rfl rfl .rfl rfl rfl ?_
 exact gDr [(8, 0), (9, 2), (10, 2), (11, 2), (13, 1), (14, 1), (15, 1)] (by kernel_rfl) rfl rfl <| gDe (by kernel_rfl) <| gJ (h K hK) [0, 1, 4] [] rfl hK pq9 (pqo3 rfl rfl rfl rfl rfl rfl) rfl
 apply bE (i := 1) (j := 6) (l := 12) (by kernel_rfl) rfl rfl rfl rfl rfl rfl
 exact (ac ab rfl rfl)
 exact (ac ab rfl rfl)
 exact (ac ab rfl rfl)
 refine gHR 3 (kidsV [c]) rfl (ax c) rfl ?_
 apply ah (i := 6) (j := 12) (by kernel_rfl) rfl rfl rfl rfl
 exact (ac ab rfl rfl)
 exact (ac ab rfl rfl)
 refine gHR 4 (GDatum.vs [b, a]) rfl (GDatum.vlit [b, a]) rfl <| gFR 3 rfl (am _) rfl rfl <| gFR 4 rfl (GDatum.vpure _) rfl rfl ?_
 obtain ⟨d, f, g, hs304, h⟩ := h
 apply ah (i := 7) (j := 12) (by kernel_rfl) rfl rfl rfl rfl
 exact (ak (L' := [2]) (by kernel_rfl) rfl rfl (ar hs304 .rfl [2] rfl) (.inl rfl))
 exact (ac ab rfl rfl)
 exact gDr [(8, 2), (9, 2), (10, 2), (11, 2), (12, 0), (13, 1), (14, 1), (15, 1)] (by kernel_rfl) rfl rfl <| gDe (by kernel_rfl) <| gJ (h K hK) [0, 1, 5] [] rfl hK pq9 (pqo3 rfl rfl rfl rfl rfl rfl) rfl
 refine aj 7 hs304 (by kernel_rfl) rfl (by kernel_rfl) rfl rfl .rfl rfl rfl ?_
 exact gDr [(8, 0), (9, 2), (10, 2), (11, 2), (13, 1), (14, 1), (15, 1)] (by kernel_rfl) rfl rfl <| gDe (by kernel_rfl) <| gJ (h K hK) [0, 1, 5] [] rfl hK pq9 (pqo3 rfl rfl rfl rfl rfl rfl) rfl
 refine gDr [(6, 0)] (by kernel_rfl) rfl rfl <| gHR 5 (GDatum.vs [b, a]) rfl (GDatum.vlit [b, a]) rfl <| gFR 3 rfl (am _) rfl rfl <| gFR 5 rfl (GDatum.vpure _) rfl rfl ?_
 obtain ⟨d, f, g, hs305, h⟩ := h
 refine aj 7 hs305 (by kernel_rfl) rfl (by kernel_rfl) rfl rfl .rfl rfl rfl ?_
 exact gDr [(8, 0), (9, 2), (10, 2), (11, 2), (13, 1), (14, 1), (15, 1)] (by kernel_rfl) rfl rfl <| gDe (by kernel_rfl) <| gJ (h K hK) [0, 1, 4] [] rfl hK pq9 (pqo3 rfl rfl rfl rfl rfl rfl) rfl
 refine gHR 3 (GDatum.vs [b, a]) rfl (GDatum.vlit [b, a]) rfl ?_
 apply ah (i := 1) (j := 12) (by kernel_rfl) rfl rfl rfl rfl
 exact (ac ab rfl rfl)
 exact (ac ab rfl rfl)
 refine gHR 4 (kidsV [c]) rfl (ax c) rfl <| gFR 4 rfl (am _) rfl rfl <| gFR 3 rfl (GDatum.vpure _) rfl rfl ?_
 obtain ⟨d, f, g, hs306, h⟩ := h
 apply ah (i := 7) (j := 12) (by kernel_rfl) rfl rfl rfl rfl
 exact (ak (L' := [2]) (by kernel_rfl) rfl rfl (ar hs306 .rfl [2] rfl) (.inl rfl))
 exact (ac ab rfl rfl)
 exact gDr [(8, 2), (9, 2), (10, 2), (11, 2), (12, 0), (13, 1), (14, 1), (15, 1)] (by kernel_rfl) rfl rfl <| gDe (by kernel_rfl) <| gJ (h K hK) [0, 1, 5] [] rfl hK pq9 (pqo3 rfl rfl rfl rfl rfl rfl) rfl
 refine aj 7 hs306 (by kernel_rfl) rfl (by kernel_rfl) rfl rfl .rfl rfl rfl ?_
 exact gDr [(8, 0), (9, 2), (10, 2), (11, 2), (13, 1), (14, 1), (15, 1)] (by kernel_rfl) rfl rfl <| gDe (by kernel_rfl) <| gJ (h K hK) [0, 1, 5] [] rfl hK pq9 (pqo3 rfl rfl rfl rfl rfl rfl) rfl
 refine gDr [(1, 0)] (by kernel_rfl) rfl rfl <| gHR 5 (kidsV [c]) rfl (ax c) rfl <| gFR 5 rfl (am _) rfl rfl <| gFR 3 rfl (GDatum.vpure _) rfl rfl ?_
 obtain ⟨d, f, g, hs307, h⟩ := h
 refine aj 7 hs307 (by kernel_rfl) rfl (by kernel_rfl) rfl rfl .rfl rfl rfl ?_
 exact gDr [(8, 0), (9, 2), (10, 2), (11, 2), (13, 1), (14, 1), (15, 1)] (by kernel_rfl) rfl rfl <| gDe (by kernel_rfl) <| gJ (h K hK) [0, 1, 4] [] rfl hK pq9 (pqo3 rfl rfl rfl rfl rfl rfl) rfl
 apply ah (i := 1) (j := 6) (by kernel_rfl) rfl rfl rfl rfl
 exact (ac ab rfl rfl)
 exact (ac ab rfl rfl)
 refine gHR 4 (kidsV [c]) rfl (ax c) rfl <| gDr [(6, 0)] (by kernel_rfl) rfl rfl <| gHR 5 (GDatum.vs [b, a]) rfl (GDatum.vlit [b, a]) rfl <| gFR 4 rfl (am _) rfl rfl <| gFR 5 rfl (GDatum.vpure _) rfl rfl ?_
 obtain ⟨d, f, g, hs308, h⟩ := h
 refine aj 7 hs308 (by kernel_rfl) rfl (by kernel_rfl) rfl rfl .rfl rfl rfl ?_
 exact gDr [(8, 0), (9, 2), (10, 2), (11, 2), (13, 1), (14, 1), (15, 1)] (by kernel_rfl) rfl rfl <| gDe (by kernel_rfl) <| gJ (h K hK) [0, 1, 3] [] rfl hK pq9 (pqo3 rfl rfl rfl rfl rfl rfl) rfl
 refine gHR 4 (GDatum.vs [b, a]) rfl (GDatum.vlit [b, a]) rfl <| gDr [(1, 0)] (by kernel_rfl) rfl rfl <| gHR 5 (kidsV [c]) rfl (ax c) rfl <| gFR 5 rfl (am _) rfl rfl <| gFR 4 rfl (GDatum.vpure _) rfl rfl ?_
 obtain ⟨d, f, g, hs309, h⟩ := h
 refine aj 7 hs309 (by kernel_rfl) rfl (by kernel_rfl) rfl rfl .rfl rfl rfl ?_
 exact gDr [(8, 0), (9, 2), (10, 2), (11, 2), (13, 1), (14, 1), (15, 1)] (by kernel_rfl) rfl rfl <| gDe (by kernel_rfl) <| gJ (h K hK) [0, 1, 3] [] rfl hK pq9 (pqo3 rfl rfl rfl rfl rfl rfl) rfl
 apply ah (i := 1) (j := 5) (by kernel_rfl) rfl rfl rfl rfl
 exact (ac ab rfl rfl)
 exact (ak (L' := [2]) (by kernel_rfl) rfl rfl (ar hs300 .rfl [2] rfl) (.inl rfl))
 refine gHR 4 (kidsV [c]) rfl (ax c) rfl <| aj 5 hs300 (by kernel_rfl) rfl (by kernel_rfl) rfl rfl .rfl rfl rfl <| gDr [(6, 0)] (by kernel_rfl) rfl rfl <| gHR 5 (GDatum.vs [b, a]) rfl (GDatum.vlit [b, a]) rfl <| gFR 4 rfl (am _) rfl rfl <| gFR 5 rfl (GDatum.vpure _) rfl rfl ?_
 obtain ⟨d, f, g, hs310, h⟩ := h
 refine aj 7 hs310 (by kernel_rfl) rfl (by kernel_rfl) rfl rfl .rfl rfl rfl ?_
 exact gDr [(8, 0), (9, 2), (10, 2), (11, 2), (13, 1), (14, 1), (15, 1)] (by kernel_rfl) rfl rfl <| gDe (by kernel_rfl) <| gJ (h K hK) [0, 1, 3] [] rfl hK pq9 (pqo3 rfl rfl rfl rfl rfl rfl) rfl
 apply ah (i := 1) (j := 6) (by kernel_rfl) rfl rfl rfl rfl
 exact (ac ab rfl rfl)
 exact (ac ab rfl rfl)
 refine gHR 4 (kidsV [c]) rfl (ax c) rfl <| gDr [(6, 0)] (by kernel_rfl) rfl rfl <| gHR 5 (GDatum.vs [b, a]) rfl (GDatum.vlit [b, a]) rfl <| gFR 4 rfl (am _) rfl rfl <| gFR 5 rfl (GDatum.vpure _) rfl rfl ?_
 obtain ⟨d, f, g, hs311, h⟩ := h
 refine aj 7 hs311 (by kernel_rfl) rfl (by kernel_rfl) rfl rfl .rfl rfl rfl ?_
 exact gDr [(8, 0), (9, 2), (10, 2), (11, 2), (13, 1), (14, 1), (15, 1)] (by kernel_rfl) rfl rfl <| gDe (by kernel_rfl) <| gJ (h K hK) [0, 1, 3] [] rfl hK pq9 (pqo3 rfl rfl rfl rfl rfl rfl) rfl
 refine gHR 4 (GDatum.vs [b, a]) rfl (GDatum.vlit [b, a]) rfl <| gDr [(1, 0)] (by kernel_rfl) rfl rfl <| gHR 5 (kidsV [c]) rfl (ax c) rfl <| gFR 5 rfl (am _) rfl rfl <| gFR 4 rfl (GDatum.vpure _) rfl rfl ?_
 obtain ⟨d, f, g, hs312, h⟩ := h
 refine aj 7 hs312 (by kernel_rfl) rfl (by kernel_rfl) rfl rfl .rfl rfl rfl ?_
 exact gDr [(8, 0), (9, 2), (10, 2), (11, 2), (13, 1), (14, 1), (15, 1)] (by kernel_rfl) rfl rfl <| gDe (by kernel_rfl) <| gJ (h K hK) [0, 1, 3] [] rfl hK pq9 (pqo3 rfl rfl rfl rfl rfl rfl) rfl
 apply ah (i := 1) (j := 3) (by kernel_rfl) rfl rfl rfl rfl
 exact (ac ab rfl rfl)
 exact (ak (L' := [2]) (by kernel_rfl) rfl rfl (ar hs293 .rfl [2] rfl) (.inl rfl))
 refine gHR 4 (kidsV [c]) rfl (ax c) rfl <| aj 3 hs293 (by kernel_rfl) rfl (by kernel_rfl) rfl rfl .rfl rfl rfl ?_
 obtain ⟨a, hs313, h⟩ := h
 refine aj 5 hs313 (by kernel_rfl) rfl (by kernel_rfl) rfl rfl .rfl rfl rfl ?_
 refine gDr [(6, 0)] (by kernel_rfl) rfl rfl <| gHR 5 (GDatum.vs [b, a]) rfl (GDatum.vlit [b, a]) rfl <| gFR 4 rfl (am _) rfl rfl <| gFR 5 rfl (GDatum.vpure _) rfl rfl ?_
 obtain ⟨d, f, g, hs314, h⟩ := h
 refine aj 7 hs314 (by kernel_rfl) rfl (by kernel_rfl) rfl rfl .rfl rfl rfl ?_
 exact gDr [(8, 0), (9, 2), (10, 2), (11, 2), (13, 1), (14, 1), (15, 1)] (by kernel_rfl) rfl rfl <| gDe (by kernel_rfl) <| gJ (h K hK) [0, 1, 3] [] rfl hK pq9 (pqo3 rfl rfl rfl rfl rfl rfl) rfl
 obtain ⟨a, hs315, h⟩ := h
 apply ah (i := 1) (j := 5) (by kernel_rfl) rfl rfl rfl rfl
 exact (ac ab rfl rfl)
 exact (ak (L' := [2]) (by kernel_rfl) rfl rfl (ar hs315 .rfl [2] rfl) (.inl rfl))
 refine gHR 4 (kidsV [c]) rfl (ax c) rfl <| aj 5 hs315 (by kernel_rfl) rfl (by kernel_rfl) rfl rfl .rfl rfl rfl <| gDr [(6, 0)] (by kernel_rfl) rfl rfl <| gHR 5 (GDatum.vs [b, a]) rfl (GDatum.vlit [b, a]) rfl <| gFR 4 rfl (am _) rfl rfl <| gFR 5 rfl (GDatum.vpure _) rfl rfl ?_
 obtain ⟨d, f, g, hs316, h⟩ := h
 refine aj 7 hs316 (by kernel_rfl) rfl (by kernel_rfl) rfl rfl .rfl rfl rfl ?_
 exact gDr [(8, 0), (9, 2), (10, 2), (11, 2), (13, 1), (14, 1), (15, 1)] (by kernel_rfl) rfl rfl <| gDe (by kernel_rfl) <| gJ (h K hK) [0, 1, 3] [] rfl hK pq9 (pqo3 rfl rfl rfl rfl rfl rfl) rfl
 apply ah (i := 1) (j := 6) (by kernel_rfl) rfl rfl rfl rfl
 exact (ac ab rfl rfl)
 exact (ac ab rfl rfl)
 refine gHR 4 (kidsV [c]) rfl (ax c) rfl <| gDr [(6, 0)] (by kernel_rfl) rfl rfl <| gHR 5 (GDatum.vs [b, a]) rfl (GDatum.vlit [b, a]) rfl <| gFR 4 rfl (am _) rfl rfl <| gFR 5 rfl (GDatum.vpure _) rfl rfl ?_
 obtain ⟨d, f, g, hs317, h⟩ := h
 refine aj 7 hs317 (by kernel_rfl) rfl (by kernel_rfl) rfl rfl .rfl rfl rfl ?_
 exact gDr [(8, 0), (9, 2), (10, 2), (11, 2), (13, 1), (14, 1), (15, 1)] (by kernel_rfl) rfl rfl <| gDe (by kernel_rfl) <| gJ (h K hK) [0, 1, 3] [] rfl hK pq9 (pqo3 rfl rfl rfl rfl rfl rfl) rfl
 refine gHR 4 (GDatum.vs [b, a]) rfl (GDatum.vlit [b, a]) rfl <| gDr [(1, 0)] (by kernel_rfl) rfl rfl <| gHR 5 (kidsV [c]) rfl (ax c) rfl <| gFR 5 rfl (am _) rfl rfl <| gFR 4 rfl (GDatum.vpure _) rfl rfl ?_
 obtain ⟨d, f, g, hs318, h⟩ := h
 refine aj 7 hs318 (by kernel_rfl) rfl (by kernel_rfl) rfl rfl .rfl rfl rfl ?_
 exact gDr [(8, 0), (9, 2), (10, 2), (11, 2), (13, 1), (14, 1), (15, 1)] (by kernel_rfl) rfl rfl <| gDe (by kernel_rfl) <| gJ (h K hK) [0, 1, 3] [] rfl hK pq9 (pqo3 rfl rfl rfl rfl rfl rfl) rfl
theorem gz (m : Nat) (p0 p1 : Int) (b g i : GDatum) (j k : Nat) (c : Int) (l : GDatum) (d f : Int) (r0 : Bool) (h : ((c ≠ 0) → false = r0) ∧ ((c = 0) → ((f ≠ 0) → false = r0) ∧ ((f = 0) → ((d ≠ 3) → false = r0) ∧ ((d = 3) → ∃ a, aP l b a ∧ ((a = false) → false = r0) ∧ ((a = true) → dO m p0 p1 b g i j k r0))))) : dx (m + 1) p0 p1 b g i j k c l d f r0 := by
 intro K hK
 refine gR 2 rfl <| gDs [2, 1] 15 18 rfl (by kernel_rfl) (by kernel_rfl) <| gDr [(0, 0), (1, 0), (2, 0)] (by kernel_rfl) rfl rfl <| gB 68 rfl rfl rfl ?_ ?_ <;> intro hd
 refine gT 67 rfl hd rfl ?_
 replace hd := (bi hd)
 replace h := h.1 hd
 refine gDr [(3, 0), (4, 0), (5, 0), (6, 0), (7, 0), (8, 0), (9, 0), (10, 0), (11, 2), (12, 0), (13, 0), (14, 0), (15, 0), (16, 0), (17, 1)] (by kernel_rfl) rfl rfl <| gDe (by kernel_rfl) <| gR 10 rfl <| go_xloopR <| gR 2 rfl ?_
 subst h
 exact go_end ab (rs := [.tmp 4]) rfl rfl rfl
 refine gF 67 rfl hd rfl ?_
 replace hd := (aQ hd)
 replace h := h.2 hd
 refine gDr [(3, 0), (4, 0), (5, 0), (6, 0)] (by kernel_rfl) rfl rfl <| gB 72 rfl rfl rfl ?_ ?_ <;> intro hd
 refine gT 71 rfl hd rfl ?_
 replace hd := (bi hd)
 replace h := h.1 hd
 refine gDr [(7, 0), (8, 0), (9, 0), (10, 0), (11, 2), (12, 0), (13, 0), (14, 0), (15, 0), (16, 0), (17, 1)] (by kernel_rfl) rfl rfl <| gDe (by kernel_rfl) <| gR 10 rfl <| go_xloopR <| gR 2 rfl ?_
 subst h
 exact go_end ab (rs := [.tmp 4]) rfl rfl rfl
 refine gF 71 rfl hd rfl ?_
 replace hd := (aQ hd)
 replace h := h.2 hd
 refine gDr [(7, 0), (8, 0), (9, 0), (10, 0)] (by kernel_rfl) rfl rfl <| gB 76 rfl rfl rfl ?_ ?_ <;> intro hd
 refine gT 75 rfl hd rfl ?_
 replace hd := (bi hd)
 replace h := h.1 hd
 refine gDr [(11, 2), (12, 0), (13, 0), (14, 0), (15, 0), (16, 0), (17, 1)] (by kernel_rfl) rfl rfl <| gDe (by kernel_rfl) <| gR 10 rfl <| go_xloopR <| gR 2 rfl ?_
 subst h
 exact go_end ab (rs := [.tmp 4]) rfl rfl rfl
 refine gF 75 rfl hd rfl ?_
 replace hd := (aQ hd)
 replace h := h.2 hd
 refine gDr [(11, 3), (12, 0)] (by kernel_rfl) rfl rfl <| jF 13 rfl (by kernel_rfl) (yIP (len := 5) (e := 24) (sz := 4) ab rfl rfl rfl rfl rfl rfl rfl rfl) rfl rfl <| gDr [(14, 0)] (by kernel_rfl) rfl rfl ?_
 obtain ⟨a, hs319, h⟩ := h
 refine aj 15 hs319 (by kernel_rfl) rfl (by kernel_rfl) rfl rfl .rfl rfl rfl ?_
 refine gDr [(16, 1), (17, 1)] (by kernel_rfl) rfl rfl <| gDe (by kernel_rfl) <| gR 1 rfl <| gB 83 rfl rfl rfl ?_ ?_ <;> intro hd
 replace hd := (dg hd)
 replace h := h.1 hd
 refine gR 9 rfl <| go_xloopR <| gR 2 rfl ?_
 subst h
 exact go_end ab (rs := [.tmp 4]) rfl rfl rfl
 replace hd := (de hd)
 replace h := h.2 hd
 exact gR 7 rfl <| gV 43 (.int .i64 1) rfl (aL (by omega) (by omega)) rfl <| gR 2 rfl <| go_xloop <| gJ (h K hK) [0, 1] [] rfl hK pq5 (pqo2 rfl rfl rfl rfl) rfl
theorem gL (m : Nat) (p0 p1 : Int) (n o p : GDatum) (q r : Nat) (r0 : Bool) (h : [109, 111, 100, 117, 108, 101, 32, 77, 32, 100, 101, 102, 32, 102, 40, 97, 58, 32, 73, 110, 116, 44, 32, 98, 58, 32, 73, 110, 116, 41, 58, 32, 73, 110, 116, 32, 61, 32, 97, 32].length + [45].length ≤ 9223372036854775807 ∧ ([109, 111, 100, 117, 108, 101, 32, 77, 32, 100, 101, 102, 32, 102, 40, 97, 58, 32, 73, 110, 116, 44, 32, 98, 58, 32, 73, 110, 116, 41, 58, 32, 73, 110, 116, 32, 61, 32, 97, 32] ++ [45]).length + [32, 98].length ≤ 9223372036854775807 ∧ ∃ c s k, bQ (([109, 111, 100, 117, 108, 101, 32, 77, 32, 100, 101, 102, 32, 102, 40, 97, 58, 32, 73, 110, 116, 44, 32, 98, 58, 32, 73, 110, 116, 41, 58, 32, 73, 110, 116, 32, 61, 32, 97, 32] ++ [45]) ++ [32, 98]) c s k ∧ ∃ b, au p0 b ∧ ∃ a, au p1 a ∧ ∃ d f g, bT [c] 0 0 [b, a] 3 d f g ∧ dH m p0 p1 n o p q r k d f g r0) : dO (m + 1) p0 p1 n o p q r r0 := by
 intro K hK
 refine gR 15 rfl <| gY (yIP (len := 5) (e := 9) (sz := 1) ab rfl rfl rfl rfl rfl rfl rfl rfl) rfl rfl <| gR 1 rfl ?_
 obtain ⟨hb, h⟩ := h
 refine gY (ia rfl rfl hb) rfl rfl ?_
 obtain ⟨hb, h⟩ := h
 refine gY (ia rfl rfl hb) rfl rfl ?_
 obtain ⟨c, s, k, hs320, h⟩ := h
 refine gC0 hs320 (by kernel_rfl) rfl rfl .rfl rfl <| gR 11 rfl <| gDs [2] 13 16 rfl (by kernel_rfl) (by kernel_rfl) <| gDr [(0, 3), (2, 2), (4, 2)] (by kernel_rfl) rfl rfl ?_
 obtain ⟨b, hs321, h⟩ := h
 apply bE (i := 1) (j := 3) (l := 12) (by kernel_rfl) rfl rfl rfl rfl rfl rfl
 exact (ac ab rfl rfl)
 exact (ak (L' := [2]) (by kernel_rfl) rfl rfl (ar hs321 .rfl [2] rfl) (.inl rfl))
 exact (ac ab rfl rfl)
 refine gHR 3 (kidsV [c]) rfl (ax c) rfl ?_
 apply ah (i := 3) (j := 12) (by kernel_rfl) rfl rfl rfl rfl
 exact (ak (L' := [2]) (by kernel_rfl) rfl rfl (ar hs321 .rfl [2] rfl) (.inl rfl))
 exact (ac ab rfl rfl)
 obtain ⟨a, hs322, h⟩ := h
 apply ah (i := 5) (j := 12) (by kernel_rfl) rfl rfl rfl rfl
 exact (ak (L' := [2]) (by kernel_rfl) rfl rfl (ar hs322 .rfl [2] rfl) (.inl rfl))
 exact (ac ab rfl rfl)
 apply ah (i := 6) (j := 12) (by kernel_rfl) rfl rfl rfl rfl
 exact (ac ab rfl rfl)
 exact (ac ab rfl rfl)
 refine gHR 4 (GDatum.vs [b, a]) rfl (GDatum.vlit [b, a]) rfl <| gFR 3 rfl (am _) rfl rfl <| gFR 4 rfl (GDatum.vpure _) rfl rfl ?_
 obtain ⟨d, f, g, hs323, h⟩ := h
 apply ah (i := 7) (j := 12) (by kernel_rfl) rfl rfl rfl rfl
 exact (ak (L' := [2]) (by kernel_rfl) rfl rfl (ar hs323 .rfl [2] rfl) (.inl rfl))
 exact (ac ab rfl rfl)
 exact gDr [(8, 2), (9, 2), (10, 2), (11, 2), (12, 0), (13, 1), (14, 1), (15, 1)] (by kernel_rfl) rfl rfl <| gDe (by kernel_rfl) <| gJ (h K hK) [0, 1, 5] [] rfl hK pq9 (pqo3 rfl rfl rfl rfl rfl rfl) rfl
 refine aj 7 hs323 (by kernel_rfl) rfl (by kernel_rfl) rfl rfl .rfl rfl rfl ?_
 exact gDr [(8, 0), (9, 2), (10, 2), (11, 2), (13, 1), (14, 1), (15, 1)] (by kernel_rfl) rfl rfl <| gDe (by kernel_rfl) <| gJ (h K hK) [0, 1, 5] [] rfl hK pq9 (pqo3 rfl rfl rfl rfl rfl rfl) rfl
 refine gDr [(6, 0)] (by kernel_rfl) rfl rfl <| gHR 5 (GDatum.vs [b, a]) rfl (GDatum.vlit [b, a]) rfl <| gFR 3 rfl (am _) rfl rfl <| gFR 5 rfl (GDatum.vpure _) rfl rfl ?_
 obtain ⟨d, f, g, hs324, h⟩ := h
 refine aj 7 hs324 (by kernel_rfl) rfl (by kernel_rfl) rfl rfl .rfl rfl rfl ?_
 exact gDr [(8, 0), (9, 2), (10, 2), (11, 2), (13, 1), (14, 1), (15, 1)] (by kernel_rfl) rfl rfl <| gDe (by kernel_rfl) <| gJ (h K hK) [0, 1, 4] [] rfl hK pq9 (pqo3 rfl rfl rfl rfl rfl rfl) rfl
 refine aj 5 hs322 (by kernel_rfl) rfl (by kernel_rfl) rfl rfl .rfl rfl rfl ?_
 refine gDr [(6, 0)] (by kernel_rfl) rfl rfl <| gHR 5 (GDatum.vs [b, a]) rfl (GDatum.vlit [b, a]) rfl <| gFR 3 rfl (am _) rfl rfl <| gFR 5 rfl (GDatum.vpure _) rfl rfl ?_
 obtain ⟨d, f, g, hs325, h⟩ := h
 refine aj 7 hs325 (by kernel_rfl) rfl (by kernel_rfl) rfl rfl .rfl rfl rfl ?_
 exact gDr [(8, 0), (9, 2), (10, 2), (11, 2), (13, 1), (14, 1), (15, 1)] (by kernel_rfl) rfl rfl <| gDe (by kernel_rfl) <| gJ (h K hK) [0, 1, 4] [] rfl hK pq9 (pqo3 rfl rfl rfl rfl rfl rfl) rfl
 refine aj 3 hs321 (by kernel_rfl) rfl (by kernel_rfl) rfl rfl .rfl rfl rfl ?_
 obtain ⟨a, hs326, h⟩ := h
 refine aj 5 hs326 (by kernel_rfl) rfl (by kernel_rfl) rfl rfl .rfl rfl rfl ?_
 refine gDr [(6, 0)] (by kernel_rfl) rfl rfl <| gHR 5 (GDatum.vs [b, a]) rfl (GDatum.vlit [b, a]) rfl <| gFR 3 rfl (am _) rfl rfl <| gFR 5 rfl (GDatum.vpure _) rfl rfl ?_
 obtain ⟨d, f, g, hs327, h⟩ := h
 refine aj 7 hs327 (by kernel_rfl) rfl (by kernel_rfl) rfl rfl .rfl rfl rfl ?_
 exact gDr [(8, 0), (9, 2), (10, 2), (11, 2), (13, 1), (14, 1), (15, 1)] (by kernel_rfl) rfl rfl <| gDe (by kernel_rfl) <| gJ (h K hK) [0, 1, 4] [] rfl hK pq9 (pqo3 rfl rfl rfl rfl rfl rfl) rfl
 obtain ⟨a, hs328, h⟩ := h
 apply bE (i := 1) (j := 5) (l := 12) (by kernel_rfl) rfl rfl rfl rfl rfl rfl
 exact (ac ab rfl rfl)
 exact (ak (L' := [2]) (by kernel_rfl) rfl rfl (ar hs328 .rfl [2] rfl) (.inl rfl))
 exact (ac ab rfl rfl)
 refine gHR 3 (kidsV [c]) rfl (ax c) rfl ?_
 apply ah (i := 5) (j := 12) (by kernel_rfl) rfl rfl rfl rfl
 exact (ak (L' := [2]) (by kernel_rfl) rfl rfl (ar hs328 .rfl [2] rfl) (.inl rfl))
 exact (ac ab rfl rfl)
 apply ah (i := 6) (j := 12) (by kernel_rfl) rfl rfl rfl rfl
 exact (ac ab rfl rfl)
 exact (ac ab rfl rfl)
 refine gHR 4 (GDatum.vs [b, a]) rfl (GDatum.vlit [b, a]) rfl <| gFR 3 rfl (am _) rfl rfl <| gFR 4 rfl (GDatum.vpure _) rfl rfl ?_
 obtain ⟨d, f, g, hs329, h⟩ := h
 apply ah (i := 7) (j := 12) (by kernel_rfl) rfl rfl rfl rfl
 exact (ak (L' := [2]) (by kernel_rfl) rfl rfl (ar hs329 .rfl [2] rfl) (.inl rfl))
 exact (ac ab rfl rfl)
 exact gDr [(8, 2), (9, 2), (10, 2), (11, 2), (12, 0), (13, 1), (14, 1), (15, 1)] (by kernel_rfl) rfl rfl <| gDe (by kernel_rfl) <| gJ (h K hK) [0, 1, 5] [] rfl hK pq9 (pqo3 rfl rfl rfl rfl rfl rfl) rfl
 refine aj 7 hs329 (by kernel_rfl) rfl (by kernel_rfl) rfl rfl .rfl rfl rfl ?_
 exact gDr [(8, 0), (9, 2), (10, 2), (11, 2), (13, 1), (14, 1), (15, 1)] (by kernel_rfl) rfl rfl <| gDe (by kernel_rfl) <| gJ (h K hK) [0, 1, 5] [] rfl hK pq9 (pqo3 rfl rfl rfl rfl rfl rfl) rfl
 refine gDr [(6, 0)] (by kernel_rfl) rfl rfl <| gHR 5 (GDatum.vs [b, a]) rfl (GDatum.vlit [b, a]) rfl <| gFR 3 rfl (am _) rfl rfl <| gFR 5 rfl (GDatum.vpure _) rfl rfl ?_
 obtain ⟨d, f, g, hs330, h⟩ := h
 refine aj 7 hs330 (by kernel_rfl) rfl (by kernel_rfl) rfl rfl .rfl rfl rfl ?_
 exact gDr [(8, 0), (9, 2), (10, 2), (11, 2), (13, 1), (14, 1), (15, 1)] (by kernel_rfl) rfl rfl <| gDe (by kernel_rfl) <| gJ (h K hK) [0, 1, 4] [] rfl hK pq9 (pqo3 rfl rfl rfl rfl rfl rfl) rfl
 refine aj 5 hs328 (by kernel_rfl) rfl (by kernel_rfl) rfl rfl .rfl rfl rfl ?_
 refine gDr [(6, 0)] (by kernel_rfl) rfl rfl <| gHR 5 (GDatum.vs [b, a]) rfl (GDatum.vlit [b, a]) rfl <| gFR 3 rfl (am _) rfl rfl <| gFR 5 rfl (GDatum.vpure _) rfl rfl ?_
 obtain ⟨d, f, g, hs331, h⟩ := h
 refine aj 7 hs331 (by kernel_rfl) rfl (by kernel_rfl) rfl rfl .rfl rfl rfl ?_
 exact gDr [(8, 0), (9, 2), (10, 2), (11, 2), (13, 1), (14, 1), (15, 1)] (by kernel_rfl) rfl rfl <| gDe (by kernel_rfl) <| gJ (h K hK) [0, 1, 4] [] rfl hK pq9 (pqo3 rfl rfl rfl rfl rfl rfl) rfl
 apply bE (i := 1) (j := 6) (l := 12) (by kernel_rfl) rfl rfl rfl rfl rfl rfl
 exact (ac ab rfl rfl)
 exact (ac ab rfl rfl)
 exact (ac ab rfl rfl)
 refine gHR 3 (kidsV [c]) rfl (ax c) rfl ?_
 apply ah (i := 6) (j := 12) (by kernel_rfl) rfl rfl rfl rfl
 exact (ac ab rfl rfl)
 exact (ac ab rfl rfl)
 refine gHR 4 (GDatum.vs [b, a]) rfl (GDatum.vlit [b, a]) rfl <| gFR 3 rfl (am _) rfl rfl <| gFR 4 rfl (GDatum.vpure _) rfl rfl ?_
 obtain ⟨d, f, g, hs332, h⟩ := h
 apply ah (i := 7) (j := 12) (by kernel_rfl) rfl rfl rfl rfl
 exact (ak (L' := [2]) (by kernel_rfl) rfl rfl (ar hs332 .rfl [2] rfl) (.inl rfl))
 exact (ac ab rfl rfl)
 exact gDr [(8, 2), (9, 2), (10, 2), (11, 2), (12, 0), (13, 1), (14, 1), (15, 1)] (by kernel_rfl) rfl rfl <| gDe (by kernel_rfl) <| gJ (h K hK) [0, 1, 5] [] rfl hK pq9 (pqo3 rfl rfl rfl rfl rfl rfl) rfl
 refine aj 7 hs332 (by kernel_rfl) rfl (by kernel_rfl) rfl rfl .rfl rfl rfl ?_
 exact gDr [(8, 0), (9, 2), (10, 2), (11, 2), (13, 1), (14, 1), (15, 1)] (by kernel_rfl) rfl rfl <| gDe (by kernel_rfl) <| gJ (h K hK) [0, 1, 5] [] rfl hK pq9 (pqo3 rfl rfl rfl rfl rfl rfl) rfl
 refine gDr [(6, 0)] (by kernel_rfl) rfl rfl <| gHR 5 (GDatum.vs [b, a]) rfl (GDatum.vlit [b, a]) rfl <| gFR 3 rfl (am _) rfl rfl <| gFR 5 rfl (GDatum.vpure _) rfl rfl ?_
 obtain ⟨d, f, g, hs333, h⟩ := h
 refine aj 7 hs333 (by kernel_rfl) rfl (by kernel_rfl) rfl rfl .rfl rfl rfl ?_
 exact gDr [(8, 0), (9, 2), (10, 2), (11, 2), (13, 1), (14, 1), (15, 1)] (by kernel_rfl) rfl rfl <| gDe (by kernel_rfl) <| gJ (h K hK) [0, 1, 4] [] rfl hK pq9 (pqo3 rfl rfl rfl rfl rfl rfl) rfl
 refine gHR 3 (GDatum.vs [b, a]) rfl (GDatum.vlit [b, a]) rfl ?_
 apply ah (i := 1) (j := 12) (by kernel_rfl) rfl rfl rfl rfl
 exact (ac ab rfl rfl)
 exact (ac ab rfl rfl)
 refine gHR 4 (kidsV [c]) rfl (ax c) rfl <| gFR 4 rfl (am _) rfl rfl <| gFR 3 rfl (GDatum.vpure _) rfl rfl ?_
 obtain ⟨d, f, g, hs334, h⟩ := h
 apply ah (i := 7) (j := 12) (by kernel_rfl) rfl rfl rfl rfl
 exact (ak (L' := [2]) (by kernel_rfl) rfl rfl (ar hs334 .rfl [2] rfl) (.inl rfl))
 exact (ac ab rfl rfl)
 exact gDr [(8, 2), (9, 2), (10, 2), (11, 2), (12, 0), (13, 1), (14, 1), (15, 1)] (by kernel_rfl) rfl rfl <| gDe (by kernel_rfl) <| gJ (h K hK) [0, 1, 5] [] rfl hK pq9 (pqo3 rfl rfl rfl rfl rfl rfl) rfl
 refine aj 7 hs334 (by kernel_rfl) rfl (by kernel_rfl) rfl rfl .rfl rfl rfl ?_
 exact gDr [(8, 0), (9, 2), (10, 2), (11, 2), (13, 1), (14, 1), (15, 1)] (by kernel_rfl) rfl rfl <| gDe (by kernel_rfl) <| gJ (h K hK) [0, 1, 5] [] rfl hK pq9 (pqo3 rfl rfl rfl rfl rfl rfl) rfl
 refine gDr [(1, 0)] (by kernel_rfl) rfl rfl <| gHR 5 (kidsV [c]) rfl (ax c) rfl <| gFR 5 rfl (am _) rfl rfl <| gFR 3 rfl (GDatum.vpure _) rfl rfl ?_
 obtain ⟨d, f, g, hs335, h⟩ := h
 refine aj 7 hs335 (by kernel_rfl) rfl (by kernel_rfl) rfl rfl .rfl rfl rfl ?_
 exact gDr [(8, 0), (9, 2), (10, 2), (11, 2), (13, 1), (14, 1), (15, 1)] (by kernel_rfl) rfl rfl <| gDe (by kernel_rfl) <| gJ (h K hK) [0, 1, 4] [] rfl hK pq9 (pqo3 rfl rfl rfl rfl rfl rfl) rfl
 apply ah (i := 1) (j := 6) (by kernel_rfl) rfl rfl rfl rfl
 exact (ac ab rfl rfl)
 exact (ac ab rfl rfl)
 refine gHR 4 (kidsV [c]) rfl (ax c) rfl <| gDr [(6, 0)] (by kernel_rfl) rfl rfl <| gHR 5 (GDatum.vs [b, a]) rfl (GDatum.vlit [b, a]) rfl <| gFR 4 rfl (am _) rfl rfl <| gFR 5 rfl (GDatum.vpure _) rfl rfl ?_
 obtain ⟨d, f, g, hs336, h⟩ := h
 refine aj 7 hs336 (by kernel_rfl) rfl (by kernel_rfl) rfl rfl .rfl rfl rfl ?_
 exact gDr [(8, 0), (9, 2), (10, 2), (11, 2), (13, 1), (14, 1), (15, 1)] (by kernel_rfl) rfl rfl <| gDe (by kernel_rfl) <| gJ (h K hK) [0, 1, 3] [] rfl hK pq9 (pqo3 rfl rfl rfl rfl rfl rfl) rfl
 refine gHR 4 (GDatum.vs [b, a]) rfl (GDatum.vlit [b, a]) rfl <| gDr [(1, 0)] (by kernel_rfl) rfl rfl <| gHR 5 (kidsV [c]) rfl (ax c) rfl <| gFR 5 rfl (am _) rfl rfl <| gFR 4 rfl (GDatum.vpure _) rfl rfl ?_
 obtain ⟨d, f, g, hs337, h⟩ := h
 refine aj 7 hs337 (by kernel_rfl) rfl (by kernel_rfl) rfl rfl .rfl rfl rfl ?_
 exact gDr [(8, 0), (9, 2), (10, 2), (11, 2), (13, 1), (14, 1), (15, 1)] (by kernel_rfl) rfl rfl <| gDe (by kernel_rfl) <| gJ (h K hK) [0, 1, 3] [] rfl hK pq9 (pqo3 rfl rfl rfl rfl rfl rfl) rfl
 apply ah (i := 1) (j := 5) (by kernel_rfl) rfl rfl rfl rfl
 exact (ac ab rfl rfl)
 exact (ak (L' := [2]) (by kernel_rfl) rfl rfl (ar hs328 .rfl [2] rfl) (.inl rfl))
 refine gHR 4 (kidsV [c]) rfl (ax c) rfl <| aj 5 hs328 (by kernel_rfl) rfl (by kernel_rfl) rfl rfl .rfl rfl rfl <| gDr [(6, 0)] (by kernel_rfl) rfl rfl <| gHR 5 (GDatum.vs [b, a]) rfl (GDatum.vlit [b, a]) rfl <| gFR 4 rfl (am _) rfl rfl <| gFR 5 rfl (GDatum.vpure _) rfl rfl ?_
 obtain ⟨d, f, g, hs338, h⟩ := h
 refine aj 7 hs338 (by kernel_rfl) rfl (by kernel_rfl) rfl rfl .rfl rfl rfl ?_
 exact gDr [(8, 0), (9, 2), (10, 2), (11, 2), (13, 1), (14, 1), (15, 1)] (by kernel_rfl) rfl rfl <| gDe (by kernel_rfl) <| gJ (h K hK) [0, 1, 3] [] rfl hK pq9 (pqo3 rfl rfl rfl rfl rfl rfl) rfl
 apply ah (i := 1) (j := 6) (by kernel_rfl) rfl rfl rfl rfl
 exact (ac ab rfl rfl)
 exact (ac ab rfl rfl)
 refine gHR 4 (kidsV [c]) rfl (ax c) rfl <| gDr [(6, 0)] (by kernel_rfl) rfl rfl <| gHR 5 (GDatum.vs [b, a]) rfl (GDatum.vlit [b, a]) rfl <| gFR 4 rfl (am _) rfl rfl <| gFR 5 rfl (GDatum.vpure _) rfl rfl ?_
 obtain ⟨d, f, g, hs339, h⟩ := h
 refine aj 7 hs339 (by kernel_rfl) rfl (by kernel_rfl) rfl rfl .rfl rfl rfl ?_
 exact gDr [(8, 0), (9, 2), (10, 2), (11, 2), (13, 1), (14, 1), (15, 1)] (by kernel_rfl) rfl rfl <| gDe (by kernel_rfl) <| gJ (h K hK) [0, 1, 3] [] rfl hK pq9 (pqo3 rfl rfl rfl rfl rfl rfl) rfl
 refine gHR 4 (GDatum.vs [b, a]) rfl (GDatum.vlit [b, a]) rfl <| gDr [(1, 0)] (by kernel_rfl) rfl rfl <| gHR 5 (kidsV [c]) rfl (ax c) rfl <| gFR 5 rfl (am _) rfl rfl <| gFR 4 rfl (GDatum.vpure _) rfl rfl ?_
 obtain ⟨d, f, g, hs340, h⟩ := h
 refine aj 7 hs340 (by kernel_rfl) rfl (by kernel_rfl) rfl rfl .rfl rfl rfl ?_
 exact gDr [(8, 0), (9, 2), (10, 2), (11, 2), (13, 1), (14, 1), (15, 1)] (by kernel_rfl) rfl rfl <| gDe (by kernel_rfl) <| gJ (h K hK) [0, 1, 3] [] rfl hK pq9 (pqo3 rfl rfl rfl rfl rfl rfl) rfl
 apply ah (i := 1) (j := 3) (by kernel_rfl) rfl rfl rfl rfl
 exact (ac ab rfl rfl)
 exact (ak (L' := [2]) (by kernel_rfl) rfl rfl (ar hs321 .rfl [2] rfl) (.inl rfl))
 refine gHR 4 (kidsV [c]) rfl (ax c) rfl <| aj 3 hs321 (by kernel_rfl) rfl (by kernel_rfl) rfl rfl .rfl rfl rfl ?_
 obtain ⟨a, hs341, h⟩ := h
 refine aj 5 hs341 (by kernel_rfl) rfl (by kernel_rfl) rfl rfl .rfl rfl rfl ?_
 refine gDr [(6, 0)] (by kernel_rfl) rfl rfl <| gHR 5 (GDatum.vs [b, a]) rfl (GDatum.vlit [b, a]) rfl <| gFR 4 rfl (am _) rfl rfl <| gFR 5 rfl (GDatum.vpure _) rfl rfl ?_
 obtain ⟨d, f, g, hs342, h⟩ := h
 refine aj 7 hs342 (by kernel_rfl) rfl (by kernel_rfl) rfl rfl .rfl rfl rfl ?_
 exact gDr [(8, 0), (9, 2), (10, 2), (11, 2), (13, 1), (14, 1), (15, 1)] (by kernel_rfl) rfl rfl <| gDe (by kernel_rfl) <| gJ (h K hK) [0, 1, 3] [] rfl hK pq9 (pqo3 rfl rfl rfl rfl rfl rfl) rfl
 obtain ⟨a, hs343, h⟩ := h
 apply ah (i := 1) (j := 5) (by kernel_rfl) rfl rfl rfl rfl
 exact (ac ab rfl rfl)
 exact (ak (L' := [2]) (by kernel_rfl) rfl rfl (ar hs343 .rfl [2] rfl) (.inl rfl))
 refine gHR 4 (kidsV [c]) rfl (ax c) rfl <| aj 5 hs343 (by kernel_rfl) rfl (by kernel_rfl) rfl rfl .rfl rfl rfl <| gDr [(6, 0)] (by kernel_rfl) rfl rfl <| gHR 5 (GDatum.vs [b, a]) rfl (GDatum.vlit [b, a]) rfl <| gFR 4 rfl (am _) rfl rfl <| gFR 5 rfl (GDatum.vpure _) rfl rfl ?_
 obtain ⟨d, f, g, hs344, h⟩ := h
 refine aj 7 hs344 (by kernel_rfl) rfl (by kernel_rfl) rfl rfl .rfl rfl rfl ?_
 exact gDr [(8, 0), (9, 2), (10, 2), (11, 2), (13, 1), (14, 1), (15, 1)] (by kernel_rfl) rfl rfl <| gDe (by kernel_rfl) <| gJ (h K hK) [0, 1, 3] [] rfl hK pq9 (pqo3 rfl rfl rfl rfl rfl rfl) rfl
 apply ah (i := 1) (j := 6) (by kernel_rfl) rfl rfl rfl rfl
 exact (ac ab rfl rfl)
 exact (ac ab rfl rfl)
 refine gHR 4 (kidsV [c]) rfl (ax c) rfl <| gDr [(6, 0)] (by kernel_rfl) rfl rfl <| gHR 5 (GDatum.vs [b, a]) rfl (GDatum.vlit [b, a]) rfl <| gFR 4 rfl (am _) rfl rfl <| gFR 5 rfl (GDatum.vpure _) rfl rfl ?_
 obtain ⟨d, f, g, hs345, h⟩ := h
 refine aj 7 hs345 (by kernel_rfl) rfl (by kernel_rfl) rfl rfl .rfl rfl rfl ?_
 exact gDr [(8, 0), (9, 2), (10, 2), (11, 2), (13, 1), (14, 1), (15, 1)] (by kernel_rfl) rfl rfl <| gDe (by kernel_rfl) <| gJ (h K hK) [0, 1, 3] [] rfl hK pq9 (pqo3 rfl rfl rfl rfl rfl rfl) rfl
 refine gHR 4 (GDatum.vs [b, a]) rfl (GDatum.vlit [b, a]) rfl <| gDr [(1, 0)] (by kernel_rfl) rfl rfl <| gHR 5 (kidsV [c]) rfl (ax c) rfl <| gFR 5 rfl (am _) rfl rfl <| gFR 4 rfl (GDatum.vpure _) rfl rfl ?_
 obtain ⟨d, f, g, hs346, h⟩ := h
 refine aj 7 hs346 (by kernel_rfl) rfl (by kernel_rfl) rfl rfl .rfl rfl rfl ?_
 exact gDr [(8, 0), (9, 2), (10, 2), (11, 2), (13, 1), (14, 1), (15, 1)] (by kernel_rfl) rfl rfl <| gDe (by kernel_rfl) <| gJ (h K hK) [0, 1, 3] [] rfl hK pq9 (pqo3 rfl rfl rfl rfl rfl rfl) rfl
theorem gO (m : Nat) (p0 p1 : Int) (g b i : GDatum) (j k : Nat) (c : Int) (l : GDatum) (d f : Int) (r0 : Bool) (h : ((c ≠ 0) → false = r0) ∧ ((c = 0) → ((f ≠ 0) → false = r0) ∧ ((f = 0) → ((d ≠ 3) → false = r0) ∧ ((d = 3) → ∃ a, aP l b a ∧ ((a = false) → false = r0) ∧ ((a = true) → dP m p0 p1 g b i j k r0))))) : dH (m + 1) p0 p1 g b i j k c l d f r0 := by
 intro K hK
 refine gR 2 rfl <| gDs [2, 1] 15 18 rfl (by kernel_rfl) (by kernel_rfl) <| gDr [(0, 0), (1, 0), (2, 0)] (by kernel_rfl) rfl rfl <| gB 68 rfl rfl rfl ?_ ?_ <;> intro hd
 refine gT 67 rfl hd rfl ?_
 replace hd := (bi hd)
 replace h := h.1 hd
 refine gDr [(3, 0), (4, 0), (5, 0), (6, 0), (7, 0), (8, 0), (9, 0), (10, 0), (11, 2), (12, 0), (13, 0), (14, 0), (15, 0), (16, 0), (17, 1)] (by kernel_rfl) rfl rfl <| gDe (by kernel_rfl) <| gR 10 rfl <| go_xloopR <| gR 2 rfl ?_
 subst h
 exact go_end ab (rs := [.tmp 4]) rfl rfl rfl
 refine gF 67 rfl hd rfl ?_
 replace hd := (aQ hd)
 replace h := h.2 hd
 refine gDr [(3, 0), (4, 0), (5, 0), (6, 0)] (by kernel_rfl) rfl rfl <| gB 72 rfl rfl rfl ?_ ?_ <;> intro hd
 refine gT 71 rfl hd rfl ?_
 replace hd := (bi hd)
 replace h := h.1 hd
 refine gDr [(7, 0), (8, 0), (9, 0), (10, 0), (11, 2), (12, 0), (13, 0), (14, 0), (15, 0), (16, 0), (17, 1)] (by kernel_rfl) rfl rfl <| gDe (by kernel_rfl) <| gR 10 rfl <| go_xloopR <| gR 2 rfl ?_
 subst h
 exact go_end ab (rs := [.tmp 4]) rfl rfl rfl
 refine gF 71 rfl hd rfl ?_
 replace hd := (aQ hd)
 replace h := h.2 hd
 refine gDr [(7, 0), (8, 0), (9, 0), (10, 0)] (by kernel_rfl) rfl rfl <| gB 76 rfl rfl rfl ?_ ?_ <;> intro hd
 refine gT 75 rfl hd rfl ?_
 replace hd := (bi hd)
 replace h := h.1 hd
 refine gDr [(11, 2), (12, 0), (13, 0), (14, 0), (15, 0), (16, 0), (17, 1)] (by kernel_rfl) rfl rfl <| gDe (by kernel_rfl) <| gR 10 rfl <| go_xloopR <| gR 2 rfl ?_
 subst h
 exact go_end ab (rs := [.tmp 4]) rfl rfl rfl
 refine gF 75 rfl hd rfl ?_
 replace hd := (aQ hd)
 replace h := h.2 hd
 refine gDr [(11, 3), (12, 0)] (by kernel_rfl) rfl rfl <| jF 13 rfl (by kernel_rfl) (yIP (len := 5) (e := 24) (sz := 4) ab rfl rfl rfl rfl rfl rfl rfl rfl) rfl rfl <| gDr [(14, 0)] (by kernel_rfl) rfl rfl ?_
 obtain ⟨a, hs347, h⟩ := h
 refine aj 15 hs347 (by kernel_rfl) rfl (by kernel_rfl) rfl rfl .rfl rfl rfl ?_
 refine gDr [(16, 1), (17, 1)] (by kernel_rfl) rfl rfl <| gDe (by kernel_rfl) <| gR 1 rfl <| gB 83 rfl rfl rfl ?_ ?_ <;> intro hd
 replace hd := (dg hd)
 replace h := h.1 hd
 refine gR 9 rfl <| go_xloopR <| gR 2 rfl ?_
 subst h
 exact go_end ab (rs := [.tmp 4]) rfl rfl rfl
 replace hd := (de hd)
 replace h := h.2 hd
 exact gR 7 rfl <| gV 43 (.int .i64 2) rfl (aL (by omega) (by omega)) rfl <| gR 2 rfl <| go_xloop <| gJ (h K hK) [0, 1] [] rfl hK pq5 (pqo2 rfl rfl rfl rfl) rfl
theorem gP (m : Nat) (p0 p1 : Int) (n o p : GDatum) (q r : Nat) (r0 : Bool) (h : [109, 111, 100, 117, 108, 101, 32, 77, 32, 100, 101, 102, 32, 102, 40, 97, 58, 32, 73, 110, 116, 44, 32, 98, 58, 32, 73, 110, 116, 41, 58, 32, 73, 110, 116, 32, 61, 32, 97, 32].length + [42].length ≤ 9223372036854775807 ∧ ([109, 111, 100, 117, 108, 101, 32, 77, 32, 100, 101, 102, 32, 102, 40, 97, 58, 32, 73, 110, 116, 44, 32, 98, 58, 32, 73, 110, 116, 41, 58, 32, 73, 110, 116, 32, 61, 32, 97, 32] ++ [42]).length + [32, 98].length ≤ 9223372036854775807 ∧ ∃ c s k, bQ (([109, 111, 100, 117, 108, 101, 32, 77, 32, 100, 101, 102, 32, 102, 40, 97, 58, 32, 73, 110, 116, 44, 32, 98, 58, 32, 73, 110, 116, 41, 58, 32, 73, 110, 116, 32, 61, 32, 97, 32] ++ [42]) ++ [32, 98]) c s k ∧ ∃ b, au p0 b ∧ ∃ a, au p1 a ∧ ∃ d f g, bT [c] 0 0 [b, a] 3 d f g ∧ dD m p0 p1 n o p q r k d f g r0) : dP (m + 1) p0 p1 n o p q r r0 := by
 intro K hK
 refine gR 15 rfl <| gY (yIP (len := 5) (e := 9) (sz := 1) ab rfl rfl rfl rfl rfl rfl rfl rfl) rfl rfl <| gR 1 rfl ?_
 obtain ⟨hb, h⟩ := h
 refine gY (ia rfl rfl hb) rfl rfl ?_
 obtain ⟨hb, h⟩ := h
 refine gY (ia rfl rfl hb) rfl rfl ?_
 obtain ⟨c, s, k, hs348, h⟩ := h
 refine gC0 hs348 (by kernel_rfl) rfl rfl .rfl rfl <| gR 11 rfl <| gDs [2] 13 16 rfl (by kernel_rfl) (by kernel_rfl) <| gDr [(0, 3), (2, 2), (4, 2)] (by kernel_rfl) rfl rfl ?_
 obtain ⟨b, hs349, h⟩ := h
 apply bE (i := 1) (j := 3) (l := 12) (by kernel_rfl) rfl rfl rfl rfl rfl rfl
 exact (ac ab rfl rfl)
 exact (ak (L' := [2]) (by kernel_rfl) rfl rfl (ar hs349 .rfl [2] rfl) (.inl rfl))
 exact (ac ab rfl rfl)
 refine gHR 3 (kidsV [c]) rfl (ax c) rfl ?_
 apply ah (i := 3) (j := 12) (by kernel_rfl) rfl rfl rfl rfl
 exact (ak (L' := [2]) (by kernel_rfl) rfl rfl (ar hs349 .rfl [2] rfl) (.inl rfl))
 exact (ac ab rfl rfl)
 obtain ⟨a, hs350, h⟩ := h
 apply ah (i := 5) (j := 12) (by kernel_rfl) rfl rfl rfl rfl
 exact (ak (L' := [2]) (by kernel_rfl) rfl rfl (ar hs350 .rfl [2] rfl) (.inl rfl))
 exact (ac ab rfl rfl)
 apply ah (i := 6) (j := 12) (by kernel_rfl) rfl rfl rfl rfl
 exact (ac ab rfl rfl)
 exact (ac ab rfl rfl)
 refine gHR 4 (GDatum.vs [b, a]) rfl (GDatum.vlit [b, a]) rfl <| gFR 3 rfl (am _) rfl rfl <| gFR 4 rfl (GDatum.vpure _) rfl rfl ?_
 obtain ⟨d, f, g, hs351, h⟩ := h
 apply ah (i := 7) (j := 12) (by kernel_rfl) rfl rfl rfl rfl
 exact (ak (L' := [2]) (by kernel_rfl) rfl rfl (ar hs351 .rfl [2] rfl) (.inl rfl))
 exact (ac ab rfl rfl)
 exact gDr [(8, 2), (9, 2), (10, 2), (11, 2), (12, 0), (13, 1), (14, 1), (15, 1)] (by kernel_rfl) rfl rfl <| gDe (by kernel_rfl) <| gJ (h K hK) [0, 1, 5] [] rfl hK pq9 (pqo3 rfl rfl rfl rfl rfl rfl) rfl
 refine aj 7 hs351 (by kernel_rfl) rfl (by kernel_rfl) rfl rfl .rfl rfl rfl ?_
 exact gDr [(8, 0), (9, 2), (10, 2), (11, 2), (13, 1), (14, 1), (15, 1)] (by kernel_rfl) rfl rfl <| gDe (by kernel_rfl) <| gJ (h K hK) [0, 1, 5] [] rfl hK pq9 (pqo3 rfl rfl rfl rfl rfl rfl) rfl
 refine gDr [(6, 0)] (by kernel_rfl) rfl rfl <| gHR 5 (GDatum.vs [b, a]) rfl (GDatum.vlit [b, a]) rfl <| gFR 3 rfl (am _) rfl rfl <| gFR 5 rfl (GDatum.vpure _) rfl rfl ?_
 obtain ⟨d, f, g, hs352, h⟩ := h
 refine aj 7 hs352 (by kernel_rfl) rfl (by kernel_rfl) rfl rfl .rfl rfl rfl ?_
 exact gDr [(8, 0), (9, 2), (10, 2), (11, 2), (13, 1), (14, 1), (15, 1)] (by kernel_rfl) rfl rfl <| gDe (by kernel_rfl) <| gJ (h K hK) [0, 1, 4] [] rfl hK pq9 (pqo3 rfl rfl rfl rfl rfl rfl) rfl
 refine aj 5 hs350 (by kernel_rfl) rfl (by kernel_rfl) rfl rfl .rfl rfl rfl ?_
 refine gDr [(6, 0)] (by kernel_rfl) rfl rfl <| gHR 5 (GDatum.vs [b, a]) rfl (GDatum.vlit [b, a]) rfl <| gFR 3 rfl (am _) rfl rfl <| gFR 5 rfl (GDatum.vpure _) rfl rfl ?_
 obtain ⟨d, f, g, hs353, h⟩ := h
 refine aj 7 hs353 (by kernel_rfl) rfl (by kernel_rfl) rfl rfl .rfl rfl rfl ?_
 exact gDr [(8, 0), (9, 2), (10, 2), (11, 2), (13, 1), (14, 1), (15, 1)] (by kernel_rfl) rfl rfl <| gDe (by kernel_rfl) <| gJ (h K hK) [0, 1, 4] [] rfl hK pq9 (pqo3 rfl rfl rfl rfl rfl rfl) rfl
 refine aj 3 hs349 (by kernel_rfl) rfl (by kernel_rfl) rfl rfl .rfl rfl rfl ?_
 obtain ⟨a, hs354, h⟩ := h
 refine aj 5 hs354 (by kernel_rfl) rfl (by kernel_rfl) rfl rfl .rfl rfl rfl ?_
 refine gDr [(6, 0)] (by kernel_rfl) rfl rfl <| gHR 5 (GDatum.vs [b, a]) rfl (GDatum.vlit [b, a]) rfl <| gFR 3 rfl (am _) rfl rfl <| gFR 5 rfl (GDatum.vpure _) rfl rfl ?_
 obtain ⟨d, f, g, hs355, h⟩ := h
 refine aj 7 hs355 (by kernel_rfl) rfl (by kernel_rfl) rfl rfl .rfl rfl rfl ?_
 exact gDr [(8, 0), (9, 2), (10, 2), (11, 2), (13, 1), (14, 1), (15, 1)] (by kernel_rfl) rfl rfl <| gDe (by kernel_rfl) <| gJ (h K hK) [0, 1, 4] [] rfl hK pq9 (pqo3 rfl rfl rfl rfl rfl rfl) rfl
 obtain ⟨a, hs356, h⟩ := h
 apply bE (i := 1) (j := 5) (l := 12) (by kernel_rfl) rfl rfl rfl rfl rfl rfl
 exact (ac ab rfl rfl)
 exact (ak (L' := [2]) (by kernel_rfl) rfl rfl (ar hs356 .rfl [2] rfl) (.inl rfl))
 exact (ac ab rfl rfl)
 refine gHR 3 (kidsV [c]) rfl (ax c) rfl ?_
 apply ah (i := 5) (j := 12) (by kernel_rfl) rfl rfl rfl rfl
 exact (ak (L' := [2]) (by kernel_rfl) rfl rfl (ar hs356 .rfl [2] rfl) (.inl rfl))
 exact (ac ab rfl rfl)
 apply ah (i := 6) (j := 12) (by kernel_rfl) rfl rfl rfl rfl
 exact (ac ab rfl rfl)
 exact (ac ab rfl rfl)
 refine gHR 4 (GDatum.vs [b, a]) rfl (GDatum.vlit [b, a]) rfl <| gFR 3 rfl (am _) rfl rfl <| gFR 4 rfl (GDatum.vpure _) rfl rfl ?_
 obtain ⟨d, f, g, hs357, h⟩ := h
 apply ah (i := 7) (j := 12) (by kernel_rfl) rfl rfl rfl rfl
 exact (ak (L' := [2]) (by kernel_rfl) rfl rfl (ar hs357 .rfl [2] rfl) (.inl rfl))
 exact (ac ab rfl rfl)
 exact gDr [(8, 2), (9, 2), (10, 2), (11, 2), (12, 0), (13, 1), (14, 1), (15, 1)] (by kernel_rfl) rfl rfl <| gDe (by kernel_rfl) <| gJ (h K hK) [0, 1, 5] [] rfl hK pq9 (pqo3 rfl rfl rfl rfl rfl rfl) rfl
 refine aj 7 hs357 (by kernel_rfl) rfl (by kernel_rfl) rfl rfl .rfl rfl rfl ?_
 exact gDr [(8, 0), (9, 2), (10, 2), (11, 2), (13, 1), (14, 1), (15, 1)] (by kernel_rfl) rfl rfl <| gDe (by kernel_rfl) <| gJ (h K hK) [0, 1, 5] [] rfl hK pq9 (pqo3 rfl rfl rfl rfl rfl rfl) rfl
 refine gDr [(6, 0)] (by kernel_rfl) rfl rfl <| gHR 5 (GDatum.vs [b, a]) rfl (GDatum.vlit [b, a]) rfl <| gFR 3 rfl (am _) rfl rfl <| gFR 5 rfl (GDatum.vpure _) rfl rfl ?_
 obtain ⟨d, f, g, hs358, h⟩ := h
 refine aj 7 hs358 (by kernel_rfl) rfl (by kernel_rfl) rfl rfl .rfl rfl rfl ?_
 exact gDr [(8, 0), (9, 2), (10, 2), (11, 2), (13, 1), (14, 1), (15, 1)] (by kernel_rfl) rfl rfl <| gDe (by kernel_rfl) <| gJ (h K hK) [0, 1, 4] [] rfl hK pq9 (pqo3 rfl rfl rfl rfl rfl rfl) rfl
 refine aj 5 hs356 (by kernel_rfl) rfl (by kernel_rfl) rfl rfl .rfl rfl rfl ?_
 refine gDr [(6, 0)] (by kernel_rfl) rfl rfl <| gHR 5 (GDatum.vs [b, a]) rfl (GDatum.vlit [b, a]) rfl <| gFR 3 rfl (am _) rfl rfl <| gFR 5 rfl (GDatum.vpure _) rfl rfl ?_
 obtain ⟨d, f, g, hs359, h⟩ := h
 refine aj 7 hs359 (by kernel_rfl) rfl (by kernel_rfl) rfl rfl .rfl rfl rfl ?_
 exact gDr [(8, 0), (9, 2), (10, 2), (11, 2), (13, 1), (14, 1), (15, 1)] (by kernel_rfl) rfl rfl <| gDe (by kernel_rfl) <| gJ (h K hK) [0, 1, 4] [] rfl hK pq9 (pqo3 rfl rfl rfl rfl rfl rfl) rfl
 apply bE (i := 1) (j := 6) (l := 12) (by kernel_rfl) rfl rfl rfl rfl rfl rfl
 exact (ac ab rfl rfl)
 exact (ac ab rfl rfl)
 exact (ac ab rfl rfl)
 refine gHR 3 (kidsV [c]) rfl (ax c) rfl ?_
 apply ah (i := 6) (j := 12) (by kernel_rfl) rfl rfl rfl rfl
 exact (ac ab rfl rfl)
 exact (ac ab rfl rfl)
 refine gHR 4 (GDatum.vs [b, a]) rfl (GDatum.vlit [b, a]) rfl <| gFR 3 rfl (am _) rfl rfl <| gFR 4 rfl (GDatum.vpure _) rfl rfl ?_
 obtain ⟨d, f, g, hs360, h⟩ := h
 apply ah (i := 7) (j := 12) (by kernel_rfl) rfl rfl rfl rfl
 exact (ak (L' := [2]) (by kernel_rfl) rfl rfl (ar hs360 .rfl [2] rfl) (.inl rfl))
 exact (ac ab rfl rfl)
 exact gDr [(8, 2), (9, 2), (10, 2), (11, 2), (12, 0), (13, 1), (14, 1), (15, 1)] (by kernel_rfl) rfl rfl <| gDe (by kernel_rfl) <| gJ (h K hK) [0, 1, 5] [] rfl hK pq9 (pqo3 rfl rfl rfl rfl rfl rfl) rfl
 refine aj 7 hs360 (by kernel_rfl) rfl (by kernel_rfl) rfl rfl .rfl rfl rfl ?_
 exact gDr [(8, 0), (9, 2), (10, 2), (11, 2), (13, 1), (14, 1), (15, 1)] (by kernel_rfl) rfl rfl <| gDe (by kernel_rfl) <| gJ (h K hK) [0, 1, 5] [] rfl hK pq9 (pqo3 rfl rfl rfl rfl rfl rfl) rfl
 refine gDr [(6, 0)] (by kernel_rfl) rfl rfl <| gHR 5 (GDatum.vs [b, a]) rfl (GDatum.vlit [b, a]) rfl <| gFR 3 rfl (am _) rfl rfl <| gFR 5 rfl (GDatum.vpure _) rfl rfl ?_
 obtain ⟨d, f, g, hs361, h⟩ := h
 refine aj 7 hs361 (by kernel_rfl) rfl (by kernel_rfl) rfl rfl .rfl rfl rfl ?_
 exact gDr [(8, 0), (9, 2), (10, 2), (11, 2), (13, 1), (14, 1), (15, 1)] (by kernel_rfl) rfl rfl <| gDe (by kernel_rfl) <| gJ (h K hK) [0, 1, 4] [] rfl hK pq9 (pqo3 rfl rfl rfl rfl rfl rfl) rfl
 refine gHR 3 (GDatum.vs [b, a]) rfl (GDatum.vlit [b, a]) rfl ?_
 apply ah (i := 1) (j := 12) (by kernel_rfl) rfl rfl rfl rfl
 exact (ac ab rfl rfl)
 exact (ac ab rfl rfl)
 refine gHR 4 (kidsV [c]) rfl (ax c) rfl <| gFR 4 rfl (am _) rfl rfl <| gFR 3 rfl (GDatum.vpure _) rfl rfl ?_
 obtain ⟨d, f, g, hs362, h⟩ := h
 apply ah (i := 7) (j := 12) (by kernel_rfl) rfl rfl rfl rfl
 exact (ak (L' := [2]) (by kernel_rfl) rfl rfl (ar hs362 .rfl [2] rfl) (.inl rfl))
 exact (ac ab rfl rfl)
 exact gDr [(8, 2), (9, 2), (10, 2), (11, 2), (12, 0), (13, 1), (14, 1), (15, 1)] (by kernel_rfl) rfl rfl <| gDe (by kernel_rfl) <| gJ (h K hK) [0, 1, 5] [] rfl hK pq9 (pqo3 rfl rfl rfl rfl rfl rfl) rfl
 refine aj 7 hs362 (by kernel_rfl) rfl (by kernel_rfl) rfl rfl .rfl rfl rfl ?_
 exact gDr [(8, 0), (9, 2), (10, 2), (11, 2), (13, 1), (14, 1), (15, 1)] (by kernel_rfl) rfl rfl <| gDe (by kernel_rfl) <| gJ (h K hK) [0, 1, 5] [] rfl hK pq9 (pqo3 rfl rfl rfl rfl rfl rfl) rfl
 refine gDr [(1, 0)] (by kernel_rfl) rfl rfl <| gHR 5 (kidsV [c]) rfl (ax c) rfl <| gFR 5 rfl (am _) rfl rfl <| gFR 3 rfl (GDatum.vpure _) rfl rfl ?_
 obtain ⟨d, f, g, hs363, h⟩ := h
 refine aj 7 hs363 (by kernel_rfl) rfl (by kernel_rfl) rfl rfl .rfl rfl rfl ?_
 exact gDr [(8, 0), (9, 2), (10, 2), (11, 2), (13, 1), (14, 1), (15, 1)] (by kernel_rfl) rfl rfl <| gDe (by kernel_rfl) <| gJ (h K hK) [0, 1, 4] [] rfl hK pq9 (pqo3 rfl rfl rfl rfl rfl rfl) rfl
 apply ah (i := 1) (j := 6) (by kernel_rfl) rfl rfl rfl rfl
 exact (ac ab rfl rfl)
 exact (ac ab rfl rfl)
 refine gHR 4 (kidsV [c]) rfl (ax c) rfl <| gDr [(6, 0)] (by kernel_rfl) rfl rfl <| gHR 5 (GDatum.vs [b, a]) rfl (GDatum.vlit [b, a]) rfl <| gFR 4 rfl (am _) rfl rfl <| gFR 5 rfl (GDatum.vpure _) rfl rfl ?_
 obtain ⟨d, f, g, hs364, h⟩ := h
 refine aj 7 hs364 (by kernel_rfl) rfl (by kernel_rfl) rfl rfl .rfl rfl rfl ?_
 exact gDr [(8, 0), (9, 2), (10, 2), (11, 2), (13, 1), (14, 1), (15, 1)] (by kernel_rfl) rfl rfl <| gDe (by kernel_rfl) <| gJ (h K hK) [0, 1, 3] [] rfl hK pq9 (pqo3 rfl rfl rfl rfl rfl rfl) rfl
 refine gHR 4 (GDatum.vs [b, a]) rfl (GDatum.vlit [b, a]) rfl <| gDr [(1, 0)] (by kernel_rfl) rfl rfl <| gHR 5 (kidsV [c]) rfl (ax c) rfl <| gFR 5 rfl (am _) rfl rfl <| gFR 4 rfl (GDatum.vpure _) rfl rfl ?_
 obtain ⟨d, f, g, hs365, h⟩ := h
 refine aj 7 hs365 (by kernel_rfl) rfl (by kernel_rfl) rfl rfl .rfl rfl rfl ?_
 exact gDr [(8, 0), (9, 2), (10, 2), (11, 2), (13, 1), (14, 1), (15, 1)] (by kernel_rfl) rfl rfl <| gDe (by kernel_rfl) <| gJ (h K hK) [0, 1, 3] [] rfl hK pq9 (pqo3 rfl rfl rfl rfl rfl rfl) rfl
 apply ah (i := 1) (j := 5) (by kernel_rfl) rfl rfl rfl rfl
 exact (ac ab rfl rfl)
 exact (ak (L' := [2]) (by kernel_rfl) rfl rfl (ar hs356 .rfl [2] rfl) (.inl rfl))
 refine gHR 4 (kidsV [c]) rfl (ax c) rfl <| aj 5 hs356 (by kernel_rfl) rfl (by kernel_rfl) rfl rfl .rfl rfl rfl <| gDr [(6, 0)] (by kernel_rfl) rfl rfl <| gHR 5 (GDatum.vs [b, a]) rfl (GDatum.vlit [b, a]) rfl <| gFR 4 rfl (am _) rfl rfl <| gFR 5 rfl (GDatum.vpure _) rfl rfl ?_
 obtain ⟨d, f, g, hs366, h⟩ := h
 refine aj 7 hs366 (by kernel_rfl) rfl (by kernel_rfl) rfl rfl .rfl rfl rfl ?_
 exact gDr [(8, 0), (9, 2), (10, 2), (11, 2), (13, 1), (14, 1), (15, 1)] (by kernel_rfl) rfl rfl <| gDe (by kernel_rfl) <| gJ (h K hK) [0, 1, 3] [] rfl hK pq9 (pqo3 rfl rfl rfl rfl rfl rfl) rfl
 apply ah (i := 1) (j := 6) (by kernel_rfl) rfl rfl rfl rfl
 exact (ac ab rfl rfl)
 exact (ac ab rfl rfl)
 refine gHR 4 (kidsV [c]) rfl (ax c) rfl <| gDr [(6, 0)] (by kernel_rfl) rfl rfl <| gHR 5 (GDatum.vs [b, a]) rfl (GDatum.vlit [b, a]) rfl <| gFR 4 rfl (am _) rfl rfl <| gFR 5 rfl (GDatum.vpure _) rfl rfl ?_
 obtain ⟨d, f, g, hs367, h⟩ := h
 refine aj 7 hs367 (by kernel_rfl) rfl (by kernel_rfl) rfl rfl .rfl rfl rfl ?_
 exact gDr [(8, 0), (9, 2), (10, 2), (11, 2), (13, 1), (14, 1), (15, 1)] (by kernel_rfl) rfl rfl <| gDe (by kernel_rfl) <| gJ (h K hK) [0, 1, 3] [] rfl hK pq9 (pqo3 rfl rfl rfl rfl rfl rfl) rfl
 refine gHR 4 (GDatum.vs [b, a]) rfl (GDatum.vlit [b, a]) rfl <| gDr [(1, 0)] (by kernel_rfl) rfl rfl <| gHR 5 (kidsV [c]) rfl (ax c) rfl <| gFR 5 rfl (am _) rfl rfl <| gFR 4 rfl (GDatum.vpure _) rfl rfl ?_
 obtain ⟨d, f, g, hs368, h⟩ := h
 refine aj 7 hs368 (by kernel_rfl) rfl (by kernel_rfl) rfl rfl .rfl rfl rfl ?_
 exact gDr [(8, 0), (9, 2), (10, 2), (11, 2), (13, 1), (14, 1), (15, 1)] (by kernel_rfl) rfl rfl <| gDe (by kernel_rfl) <| gJ (h K hK) [0, 1, 3] [] rfl hK pq9 (pqo3 rfl rfl rfl rfl rfl rfl) rfl
 apply ah (i := 1) (j := 3) (by kernel_rfl) rfl rfl rfl rfl
 exact (ac ab rfl rfl)
 exact (ak (L' := [2]) (by kernel_rfl) rfl rfl (ar hs349 .rfl [2] rfl) (.inl rfl))
 refine gHR 4 (kidsV [c]) rfl (ax c) rfl <| aj 3 hs349 (by kernel_rfl) rfl (by kernel_rfl) rfl rfl .rfl rfl rfl ?_
 obtain ⟨a, hs369, h⟩ := h
 refine aj 5 hs369 (by kernel_rfl) rfl (by kernel_rfl) rfl rfl .rfl rfl rfl ?_
 refine gDr [(6, 0)] (by kernel_rfl) rfl rfl <| gHR 5 (GDatum.vs [b, a]) rfl (GDatum.vlit [b, a]) rfl <| gFR 4 rfl (am _) rfl rfl <| gFR 5 rfl (GDatum.vpure _) rfl rfl ?_
 obtain ⟨d, f, g, hs370, h⟩ := h
 refine aj 7 hs370 (by kernel_rfl) rfl (by kernel_rfl) rfl rfl .rfl rfl rfl ?_
 exact gDr [(8, 0), (9, 2), (10, 2), (11, 2), (13, 1), (14, 1), (15, 1)] (by kernel_rfl) rfl rfl <| gDe (by kernel_rfl) <| gJ (h K hK) [0, 1, 3] [] rfl hK pq9 (pqo3 rfl rfl rfl rfl rfl rfl) rfl
 obtain ⟨a, hs371, h⟩ := h
 apply ah (i := 1) (j := 5) (by kernel_rfl) rfl rfl rfl rfl
 exact (ac ab rfl rfl)
 exact (ak (L' := [2]) (by kernel_rfl) rfl rfl (ar hs371 .rfl [2] rfl) (.inl rfl))
 refine gHR 4 (kidsV [c]) rfl (ax c) rfl <| aj 5 hs371 (by kernel_rfl) rfl (by kernel_rfl) rfl rfl .rfl rfl rfl <| gDr [(6, 0)] (by kernel_rfl) rfl rfl <| gHR 5 (GDatum.vs [b, a]) rfl (GDatum.vlit [b, a]) rfl <| gFR 4 rfl (am _) rfl rfl <| gFR 5 rfl (GDatum.vpure _) rfl rfl ?_
 obtain ⟨d, f, g, hs372, h⟩ := h
 refine aj 7 hs372 (by kernel_rfl) rfl (by kernel_rfl) rfl rfl .rfl rfl rfl ?_
 exact gDr [(8, 0), (9, 2), (10, 2), (11, 2), (13, 1), (14, 1), (15, 1)] (by kernel_rfl) rfl rfl <| gDe (by kernel_rfl) <| gJ (h K hK) [0, 1, 3] [] rfl hK pq9 (pqo3 rfl rfl rfl rfl rfl rfl) rfl
 apply ah (i := 1) (j := 6) (by kernel_rfl) rfl rfl rfl rfl
 exact (ac ab rfl rfl)
 exact (ac ab rfl rfl)
 refine gHR 4 (kidsV [c]) rfl (ax c) rfl <| gDr [(6, 0)] (by kernel_rfl) rfl rfl <| gHR 5 (GDatum.vs [b, a]) rfl (GDatum.vlit [b, a]) rfl <| gFR 4 rfl (am _) rfl rfl <| gFR 5 rfl (GDatum.vpure _) rfl rfl ?_
 obtain ⟨d, f, g, hs373, h⟩ := h
 refine aj 7 hs373 (by kernel_rfl) rfl (by kernel_rfl) rfl rfl .rfl rfl rfl ?_
 exact gDr [(8, 0), (9, 2), (10, 2), (11, 2), (13, 1), (14, 1), (15, 1)] (by kernel_rfl) rfl rfl <| gDe (by kernel_rfl) <| gJ (h K hK) [0, 1, 3] [] rfl hK pq9 (pqo3 rfl rfl rfl rfl rfl rfl) rfl
 refine gHR 4 (GDatum.vs [b, a]) rfl (GDatum.vlit [b, a]) rfl <| gDr [(1, 0)] (by kernel_rfl) rfl rfl <| gHR 5 (kidsV [c]) rfl (ax c) rfl <| gFR 5 rfl (am _) rfl rfl <| gFR 4 rfl (GDatum.vpure _) rfl rfl ?_
 obtain ⟨d, f, g, hs374, h⟩ := h
 refine aj 7 hs374 (by kernel_rfl) rfl (by kernel_rfl) rfl rfl .rfl rfl rfl ?_
 exact gDr [(8, 0), (9, 2), (10, 2), (11, 2), (13, 1), (14, 1), (15, 1)] (by kernel_rfl) rfl rfl <| gDe (by kernel_rfl) <| gJ (h K hK) [0, 1, 3] [] rfl hK pq9 (pqo3 rfl rfl rfl rfl rfl rfl) rfl
theorem gQ (m : Nat) (p0 p1 : Int) (g i b : GDatum) (j k : Nat) (c : Int) (l : GDatum) (d f : Int) (r0 : Bool) (h : ((c ≠ 0) → false = r0) ∧ ((c = 0) → ((f ≠ 0) → false = r0) ∧ ((f = 0) → ((d ≠ 3) → false = r0) ∧ ((d = 3) → ∃ a, aP l b a ∧ ((a = false) → false = r0) ∧ ((a = true) → dJ m p0 p1 g i b j k r0))))) : dD (m + 1) p0 p1 g i b j k c l d f r0 := by
 intro K hK
 refine gR 2 rfl <| gDs [2, 1] 15 18 rfl (by kernel_rfl) (by kernel_rfl) <| gDr [(0, 0), (1, 0), (2, 0)] (by kernel_rfl) rfl rfl <| gB 68 rfl rfl rfl ?_ ?_ <;> intro hd
 refine gT 67 rfl hd rfl ?_
 replace hd := (bi hd)
 replace h := h.1 hd
 refine gDr [(3, 0), (4, 0), (5, 0), (6, 0), (7, 0), (8, 0), (9, 0), (10, 0), (11, 2), (12, 0), (13, 0), (14, 0), (15, 0), (16, 0), (17, 1)] (by kernel_rfl) rfl rfl <| gDe (by kernel_rfl) <| gR 10 rfl <| go_xloopR <| gR 2 rfl ?_
 subst h
 exact go_end ab (rs := [.tmp 4]) rfl rfl rfl
 refine gF 67 rfl hd rfl ?_
 replace hd := (aQ hd)
 replace h := h.2 hd
 refine gDr [(3, 0), (4, 0), (5, 0), (6, 0)] (by kernel_rfl) rfl rfl <| gB 72 rfl rfl rfl ?_ ?_ <;> intro hd
 refine gT 71 rfl hd rfl ?_
 replace hd := (bi hd)
 replace h := h.1 hd
 refine gDr [(7, 0), (8, 0), (9, 0), (10, 0), (11, 2), (12, 0), (13, 0), (14, 0), (15, 0), (16, 0), (17, 1)] (by kernel_rfl) rfl rfl <| gDe (by kernel_rfl) <| gR 10 rfl <| go_xloopR <| gR 2 rfl ?_
 subst h
 exact go_end ab (rs := [.tmp 4]) rfl rfl rfl
 refine gF 71 rfl hd rfl ?_
 replace hd := (aQ hd)
 replace h := h.2 hd
 refine gDr [(7, 0), (8, 0), (9, 0), (10, 0)] (by kernel_rfl) rfl rfl <| gB 76 rfl rfl rfl ?_ ?_ <;> intro hd
 refine gT 75 rfl hd rfl ?_
 replace hd := (bi hd)
 replace h := h.1 hd
 refine gDr [(11, 2), (12, 0), (13, 0), (14, 0), (15, 0), (16, 0), (17, 1)] (by kernel_rfl) rfl rfl <| gDe (by kernel_rfl) <| gR 10 rfl <| go_xloopR <| gR 2 rfl ?_
 subst h
 exact go_end ab (rs := [.tmp 4]) rfl rfl rfl
 refine gF 75 rfl hd rfl ?_
 replace hd := (aQ hd)
 replace h := h.2 hd
 refine gDr [(11, 3), (12, 0)] (by kernel_rfl) rfl rfl <| jF 13 rfl (by kernel_rfl) (yIP (len := 5) (e := 24) (sz := 4) ab rfl rfl rfl rfl rfl rfl rfl rfl) rfl rfl <| gDr [(14, 0)] (by kernel_rfl) rfl rfl ?_
 obtain ⟨a, hs375, h⟩ := h
 refine aj 15 hs375 (by kernel_rfl) rfl (by kernel_rfl) rfl rfl .rfl rfl rfl ?_
 refine gDr [(16, 1), (17, 1)] (by kernel_rfl) rfl rfl <| gDe (by kernel_rfl) <| gR 1 rfl <| gB 83 rfl rfl rfl ?_ ?_ <;> intro hd
 replace hd := (dg hd)
 replace h := h.1 hd
 refine gR 9 rfl <| go_xloopR <| gR 2 rfl ?_
 subst h
 exact go_end ab (rs := [.tmp 4]) rfl rfl rfl
 replace hd := (de hd)
 replace h := h.2 hd
 exact gR 7 rfl <| gV 43 (.int .i64 3) rfl (aL (by omega) (by omega)) rfl <| gR 2 rfl <| go_xloop <| gJ (h K hK) [0, 1] [] rfl hK pq5 (pqo2 rfl rfl rfl rfl) rfl
theorem gM (m : Nat) (p0 p1 : Int) (n o p : GDatum) (q r : Nat) (r0 : Bool) (h : [109, 111, 100, 117, 108, 101, 32, 77, 32, 100, 101, 102, 32, 102, 40, 97, 58, 32, 73, 110, 116, 44, 32, 98, 58, 32, 73, 110, 116, 41, 58, 32, 73, 110, 116, 32, 61, 32, 97, 32].length + [60].length ≤ 9223372036854775807 ∧ ([109, 111, 100, 117, 108, 101, 32, 77, 32, 100, 101, 102, 32, 102, 40, 97, 58, 32, 73, 110, 116, 44, 32, 98, 58, 32, 73, 110, 116, 41, 58, 32, 73, 110, 116, 32, 61, 32, 97, 32] ++ [60]).length + [32, 98].length ≤ 9223372036854775807 ∧ ∃ c s k, bQ (([109, 111, 100, 117, 108, 101, 32, 77, 32, 100, 101, 102, 32, 102, 40, 97, 58, 32, 73, 110, 116, 44, 32, 98, 58, 32, 73, 110, 116, 41, 58, 32, 73, 110, 116, 32, 61, 32, 97, 32] ++ [60]) ++ [32, 98]) c s k ∧ ∃ b, au p0 b ∧ ∃ a, au p1 a ∧ ∃ d f g, bT [c] 0 0 [b, a] 3 d f g ∧ dy m p0 p1 n o p q r k d f g r0) : dJ (m + 1) p0 p1 n o p q r r0 := by
 intro K hK
 refine gR 15 rfl <| gY (yIP (len := 5) (e := 9) (sz := 1) ab rfl rfl rfl rfl rfl rfl rfl rfl) rfl rfl <| gR 1 rfl ?_
 obtain ⟨hb, h⟩ := h
 refine gY (ia rfl rfl hb) rfl rfl ?_
 obtain ⟨hb, h⟩ := h
 refine gY (ia rfl rfl hb) rfl rfl ?_
 obtain ⟨c, s, k, hs376, h⟩ := h
 refine gC0 hs376 (by kernel_rfl) rfl rfl .rfl rfl <| gR 11 rfl <| gDs [2] 13 16 rfl (by kernel_rfl) (by kernel_rfl) <| gDr [(0, 3), (2, 2), (4, 2)] (by kernel_rfl) rfl rfl ?_
 obtain ⟨b, hs377, h⟩ := h
 apply bE (i := 1) (j := 3) (l := 12) (by kernel_rfl) rfl rfl rfl rfl rfl rfl
 exact (ac ab rfl rfl)
 exact (ak (L' := [2]) (by kernel_rfl) rfl rfl (ar hs377 .rfl [2] rfl) (.inl rfl))
 exact (ac ab rfl rfl)
 refine gHR 3 (kidsV [c]) rfl (ax c) rfl ?_
 apply ah (i := 3) (j := 12) (by kernel_rfl) rfl rfl rfl rfl
 exact (ak (L' := [2]) (by kernel_rfl) rfl rfl (ar hs377 .rfl [2] rfl) (.inl rfl))
 exact (ac ab rfl rfl)
 obtain ⟨a, hs378, h⟩ := h
 apply ah (i := 5) (j := 12) (by kernel_rfl) rfl rfl rfl rfl
 exact (ak (L' := [2]) (by kernel_rfl) rfl rfl (ar hs378 .rfl [2] rfl) (.inl rfl))
 exact (ac ab rfl rfl)
 apply ah (i := 6) (j := 12) (by kernel_rfl) rfl rfl rfl rfl
 exact (ac ab rfl rfl)
 exact (ac ab rfl rfl)
 refine gHR 4 (GDatum.vs [b, a]) rfl (GDatum.vlit [b, a]) rfl <| gFR 3 rfl (am _) rfl rfl <| gFR 4 rfl (GDatum.vpure _) rfl rfl ?_
 obtain ⟨d, f, g, hs379, h⟩ := h
 apply ah (i := 7) (j := 12) (by kernel_rfl) rfl rfl rfl rfl
 exact (ak (L' := [2]) (by kernel_rfl) rfl rfl (ar hs379 .rfl [2] rfl) (.inl rfl))
 exact (ac ab rfl rfl)
 exact gDr [(8, 2), (9, 2), (10, 2), (11, 2), (12, 0), (13, 1), (14, 1), (15, 1)] (by kernel_rfl) rfl rfl <| gDe (by kernel_rfl) <| gJ (h K hK) [0, 1, 5] [] rfl hK pq9 (pqo3 rfl rfl rfl rfl rfl rfl) rfl
 refine aj 7 hs379 (by kernel_rfl) rfl (by kernel_rfl) rfl rfl .rfl rfl rfl ?_
 exact gDr [(8, 0), (9, 2), (10, 2), (11, 2), (13, 1), (14, 1), (15, 1)] (by kernel_rfl) rfl rfl <| gDe (by kernel_rfl) <| gJ (h K hK) [0, 1, 5] [] rfl hK pq9 (pqo3 rfl rfl rfl rfl rfl rfl) rfl
 refine gDr [(6, 0)] (by kernel_rfl) rfl rfl <| gHR 5 (GDatum.vs [b, a]) rfl (GDatum.vlit [b, a]) rfl <| gFR 3 rfl (am _) rfl rfl <| gFR 5 rfl (GDatum.vpure _) rfl rfl ?_
 obtain ⟨d, f, g, hs380, h⟩ := h
 refine aj 7 hs380 (by kernel_rfl) rfl (by kernel_rfl) rfl rfl .rfl rfl rfl ?_
 exact gDr [(8, 0), (9, 2), (10, 2), (11, 2), (13, 1), (14, 1), (15, 1)] (by kernel_rfl) rfl rfl <| gDe (by kernel_rfl) <| gJ (h K hK) [0, 1, 4] [] rfl hK pq9 (pqo3 rfl rfl rfl rfl rfl rfl) rfl
 refine aj 5 hs378 (by kernel_rfl) rfl (by kernel_rfl) rfl rfl .rfl rfl rfl ?_
 refine gDr [(6, 0)] (by kernel_rfl) rfl rfl <| gHR 5 (GDatum.vs [b, a]) rfl (GDatum.vlit [b, a]) rfl <| gFR 3 rfl (am _) rfl rfl <| gFR 5 rfl (GDatum.vpure _) rfl rfl ?_
 obtain ⟨d, f, g, hs381, h⟩ := h
 refine aj 7 hs381 (by kernel_rfl) rfl (by kernel_rfl) rfl rfl .rfl rfl rfl ?_
 exact gDr [(8, 0), (9, 2), (10, 2), (11, 2), (13, 1), (14, 1), (15, 1)] (by kernel_rfl) rfl rfl <| gDe (by kernel_rfl) <| gJ (h K hK) [0, 1, 4] [] rfl hK pq9 (pqo3 rfl rfl rfl rfl rfl rfl) rfl
 refine aj 3 hs377 (by kernel_rfl) rfl (by kernel_rfl) rfl rfl .rfl rfl rfl ?_
 obtain ⟨a, hs382, h⟩ := h
 refine aj 5 hs382 (by kernel_rfl) rfl (by kernel_rfl) rfl rfl .rfl rfl rfl ?_
 refine gDr [(6, 0)] (by kernel_rfl) rfl rfl <| gHR 5 (GDatum.vs [b, a]) rfl (GDatum.vlit [b, a]) rfl <| gFR 3 rfl (am _) rfl rfl <| gFR 5 rfl (GDatum.vpure _) rfl rfl ?_
 obtain ⟨d, f, g, hs383, h⟩ := h
 refine aj 7 hs383 (by kernel_rfl) rfl (by kernel_rfl) rfl rfl .rfl rfl rfl ?_
 exact gDr [(8, 0), (9, 2), (10, 2), (11, 2), (13, 1), (14, 1), (15, 1)] (by kernel_rfl) rfl rfl <| gDe (by kernel_rfl) <| gJ (h K hK) [0, 1, 4] [] rfl hK pq9 (pqo3 rfl rfl rfl rfl rfl rfl) rfl
 obtain ⟨a, hs384, h⟩ := h
 apply bE (i := 1) (j := 5) (l := 12) (by kernel_rfl) rfl rfl rfl rfl rfl rfl
 exact (ac ab rfl rfl)
 exact (ak (L' := [2]) (by kernel_rfl) rfl rfl (ar hs384 .rfl [2] rfl) (.inl rfl))
 exact (ac ab rfl rfl)
 refine gHR 3 (kidsV [c]) rfl (ax c) rfl ?_
 apply ah (i := 5) (j := 12) (by kernel_rfl) rfl rfl rfl rfl
 exact (ak (L' := [2]) (by kernel_rfl) rfl rfl (ar hs384 .rfl [2] rfl) (.inl rfl))
 exact (ac ab rfl rfl)
 apply ah (i := 6) (j := 12) (by kernel_rfl) rfl rfl rfl rfl
 exact (ac ab rfl rfl)
 exact (ac ab rfl rfl)
 refine gHR 4 (GDatum.vs [b, a]) rfl (GDatum.vlit [b, a]) rfl <| gFR 3 rfl (am _) rfl rfl <| gFR 4 rfl (GDatum.vpure _) rfl rfl ?_
 obtain ⟨d, f, g, hs385, h⟩ := h
 apply ah (i := 7) (j := 12) (by kernel_rfl) rfl rfl rfl rfl
 exact (ak (L' := [2]) (by kernel_rfl) rfl rfl (ar hs385 .rfl [2] rfl) (.inl rfl))
 exact (ac ab rfl rfl)
 exact gDr [(8, 2), (9, 2), (10, 2), (11, 2), (12, 0), (13, 1), (14, 1), (15, 1)] (by kernel_rfl) rfl rfl <| gDe (by kernel_rfl) <| gJ (h K hK) [0, 1, 5] [] rfl hK pq9 (pqo3 rfl rfl rfl rfl rfl rfl) rfl
 refine aj 7 hs385 (by kernel_rfl) rfl (by kernel_rfl) rfl rfl .rfl rfl rfl ?_
 exact gDr [(8, 0), (9, 2), (10, 2), (11, 2), (13, 1), (14, 1), (15, 1)] (by kernel_rfl) rfl rfl <| gDe (by kernel_rfl) <| gJ (h K hK) [0, 1, 5] [] rfl hK pq9 (pqo3 rfl rfl rfl rfl rfl rfl) rfl
 refine gDr [(6, 0)] (by kernel_rfl) rfl rfl <| gHR 5 (GDatum.vs [b, a]) rfl (GDatum.vlit [b, a]) rfl <| gFR 3 rfl (am _) rfl rfl <| gFR 5 rfl (GDatum.vpure _) rfl rfl ?_
 obtain ⟨d, f, g, hs386, h⟩ := h
 refine aj 7 hs386 (by kernel_rfl) rfl (by kernel_rfl) rfl rfl .rfl rfl rfl ?_
 exact gDr [(8, 0), (9, 2), (10, 2), (11, 2), (13, 1), (14, 1), (15, 1)] (by kernel_rfl) rfl rfl <| gDe (by kernel_rfl) <| gJ (h K hK) [0, 1, 4] [] rfl hK pq9 (pqo3 rfl rfl rfl rfl rfl rfl) rfl
 refine aj 5 hs384 (by kernel_rfl) rfl (by kernel_rfl) rfl rfl .rfl rfl rfl ?_
 refine gDr [(6, 0)] (by kernel_rfl) rfl rfl <| gHR 5 (GDatum.vs [b, a]) rfl (GDatum.vlit [b, a]) rfl <| gFR 3 rfl (am _) rfl rfl <| gFR 5 rfl (GDatum.vpure _) rfl rfl ?_
 obtain ⟨d, f, g, hs387, h⟩ := h
 refine aj 7 hs387 (by kernel_rfl) rfl (by kernel_rfl) rfl rfl .rfl rfl rfl ?_
 exact gDr [(8, 0), (9, 2), (10, 2), (11, 2), (13, 1), (14, 1), (15, 1)] (by kernel_rfl) rfl rfl <| gDe (by kernel_rfl) <| gJ (h K hK) [0, 1, 4] [] rfl hK pq9 (pqo3 rfl rfl rfl rfl rfl rfl) rfl
 apply bE (i := 1) (j := 6) (l := 12) (by kernel_rfl) rfl rfl rfl rfl rfl rfl
 exact (ac ab rfl rfl)
 exact (ac ab rfl rfl)
 exact (ac ab rfl rfl)
 refine gHR 3 (kidsV [c]) rfl (ax c) rfl ?_
 apply ah (i := 6) (j := 12) (by kernel_rfl) rfl rfl rfl rfl
 exact (ac ab rfl rfl)
 exact (ac ab rfl rfl)
 refine gHR 4 (GDatum.vs [b, a]) rfl (GDatum.vlit [b, a]) rfl <| gFR 3 rfl (am _) rfl rfl <| gFR 4 rfl (GDatum.vpure _) rfl rfl ?_
 obtain ⟨d, f, g, hs388, h⟩ := h
 apply ah (i := 7) (j := 12) (by kernel_rfl) rfl rfl rfl rfl
 exact (ak (L' := [2]) (by kernel_rfl) rfl rfl (ar hs388 .rfl [2] rfl) (.inl rfl))
 exact (ac ab rfl rfl)
 exact gDr [(8, 2), (9, 2), (10, 2), (11, 2), (12, 0), (13, 1), (14, 1), (15, 1)] (by kernel_rfl) rfl rfl <| gDe (by kernel_rfl) <| gJ (h K hK) [0, 1, 5] [] rfl hK pq9 (pqo3 rfl rfl rfl rfl rfl rfl) rfl
 refine aj 7 hs388 (by kernel_rfl) rfl (by kernel_rfl) rfl rfl .rfl rfl rfl ?_
 exact gDr [(8, 0), (9, 2), (10, 2), (11, 2), (13, 1), (14, 1), (15, 1)] (by kernel_rfl) rfl rfl <| gDe (by kernel_rfl) <| gJ (h K hK) [0, 1, 5] [] rfl hK pq9 (pqo3 rfl rfl rfl rfl rfl rfl) rfl
 refine gDr [(6, 0)] (by kernel_rfl) rfl rfl <| gHR 5 (GDatum.vs [b, a]) rfl (GDatum.vlit [b, a]) rfl <| gFR 3 rfl (am _) rfl rfl <| gFR 5 rfl (GDatum.vpure _) rfl rfl ?_
 obtain ⟨d, f, g, hs389, h⟩ := h
 refine aj 7 hs389 (by kernel_rfl) rfl (by kernel_rfl) rfl rfl .rfl rfl rfl ?_
 exact gDr [(8, 0), (9, 2), (10, 2), (11, 2), (13, 1), (14, 1), (15, 1)] (by kernel_rfl) rfl rfl <| gDe (by kernel_rfl) <| gJ (h K hK) [0, 1, 4] [] rfl hK pq9 (pqo3 rfl rfl rfl rfl rfl rfl) rfl
 refine gHR 3 (GDatum.vs [b, a]) rfl (GDatum.vlit [b, a]) rfl ?_
 apply ah (i := 1) (j := 12) (by kernel_rfl) rfl rfl rfl rfl
 exact (ac ab rfl rfl)
 exact (ac ab rfl rfl)
 refine gHR 4 (kidsV [c]) rfl (ax c) rfl <| gFR 4 rfl (am _) rfl rfl <| gFR 3 rfl (GDatum.vpure _) rfl rfl ?_
 obtain ⟨d, f, g, hs390, h⟩ := h
 apply ah (i := 7) (j := 12) (by kernel_rfl) rfl rfl rfl rfl
 exact (ak (L' := [2]) (by kernel_rfl) rfl rfl (ar hs390 .rfl [2] rfl) (.inl rfl))
 exact (ac ab rfl rfl)
 exact gDr [(8, 2), (9, 2), (10, 2), (11, 2), (12, 0), (13, 1), (14, 1), (15, 1)] (by kernel_rfl) rfl rfl <| gDe (by kernel_rfl) <| gJ (h K hK) [0, 1, 5] [] rfl hK pq9 (pqo3 rfl rfl rfl rfl rfl rfl) rfl
 refine aj 7 hs390 (by kernel_rfl) rfl (by kernel_rfl) rfl rfl .rfl rfl rfl ?_
 exact gDr [(8, 0), (9, 2), (10, 2), (11, 2), (13, 1), (14, 1), (15, 1)] (by kernel_rfl) rfl rfl <| gDe (by kernel_rfl) <| gJ (h K hK) [0, 1, 5] [] rfl hK pq9 (pqo3 rfl rfl rfl rfl rfl rfl) rfl
 refine gDr [(1, 0)] (by kernel_rfl) rfl rfl <| gHR 5 (kidsV [c]) rfl (ax c) rfl <| gFR 5 rfl (am _) rfl rfl <| gFR 3 rfl (GDatum.vpure _) rfl rfl ?_
 obtain ⟨d, f, g, hs391, h⟩ := h
 refine aj 7 hs391 (by kernel_rfl) rfl (by kernel_rfl) rfl rfl .rfl rfl rfl ?_
 exact gDr [(8, 0), (9, 2), (10, 2), (11, 2), (13, 1), (14, 1), (15, 1)] (by kernel_rfl) rfl rfl <| gDe (by kernel_rfl) <| gJ (h K hK) [0, 1, 4] [] rfl hK pq9 (pqo3 rfl rfl rfl rfl rfl rfl) rfl
 apply ah (i := 1) (j := 6) (by kernel_rfl) rfl rfl rfl rfl
 exact (ac ab rfl rfl)
 exact (ac ab rfl rfl)
 refine gHR 4 (kidsV [c]) rfl (ax c) rfl <| gDr [(6, 0)] (by kernel_rfl) rfl rfl <| gHR 5 (GDatum.vs [b, a]) rfl (GDatum.vlit [b, a]) rfl <| gFR 4 rfl (am _) rfl rfl <| gFR 5 rfl (GDatum.vpure _) rfl rfl ?_
 obtain ⟨d, f, g, hs392, h⟩ := h
 refine aj 7 hs392 (by kernel_rfl) rfl (by kernel_rfl) rfl rfl .rfl rfl rfl ?_
 exact gDr [(8, 0), (9, 2), (10, 2), (11, 2), (13, 1), (14, 1), (15, 1)] (by kernel_rfl) rfl rfl <| gDe (by kernel_rfl) <| gJ (h K hK) [0, 1, 3] [] rfl hK pq9 (pqo3 rfl rfl rfl rfl rfl rfl) rfl
 refine gHR 4 (GDatum.vs [b, a]) rfl (GDatum.vlit [b, a]) rfl <| gDr [(1, 0)] (by kernel_rfl) rfl rfl <| gHR 5 (kidsV [c]) rfl (ax c) rfl <| gFR 5 rfl (am _) rfl rfl <| gFR 4 rfl (GDatum.vpure _) rfl rfl ?_
 obtain ⟨d, f, g, hs393, h⟩ := h
 refine aj 7 hs393 (by kernel_rfl) rfl (by kernel_rfl) rfl rfl .rfl rfl rfl ?_
 exact gDr [(8, 0), (9, 2), (10, 2), (11, 2), (13, 1), (14, 1), (15, 1)] (by kernel_rfl) rfl rfl <| gDe (by kernel_rfl) <| gJ (h K hK) [0, 1, 3] [] rfl hK pq9 (pqo3 rfl rfl rfl rfl rfl rfl) rfl
 apply ah (i := 1) (j := 5) (by kernel_rfl) rfl rfl rfl rfl
 exact (ac ab rfl rfl)
 exact (ak (L' := [2]) (by kernel_rfl) rfl rfl (ar hs384 .rfl [2] rfl) (.inl rfl))
 refine gHR 4 (kidsV [c]) rfl (ax c) rfl <| aj 5 hs384 (by kernel_rfl) rfl (by kernel_rfl) rfl rfl .rfl rfl rfl <| gDr [(6, 0)] (by kernel_rfl) rfl rfl <| gHR 5 (GDatum.vs [b, a]) rfl (GDatum.vlit [b, a]) rfl <| gFR 4 rfl (am _) rfl rfl <| gFR 5 rfl (GDatum.vpure _) rfl rfl ?_
 obtain ⟨d, f, g, hs394, h⟩ := h
 refine aj 7 hs394 (by kernel_rfl) rfl (by kernel_rfl) rfl rfl .rfl rfl rfl ?_
 exact gDr [(8, 0), (9, 2), (10, 2), (11, 2), (13, 1), (14, 1), (15, 1)] (by kernel_rfl) rfl rfl <| gDe (by kernel_rfl) <| gJ (h K hK) [0, 1, 3] [] rfl hK pq9 (pqo3 rfl rfl rfl rfl rfl rfl) rfl
 apply ah (i := 1) (j := 6) (by kernel_rfl) rfl rfl rfl rfl
 exact (ac ab rfl rfl)
 exact (ac ab rfl rfl)
 refine gHR 4 (kidsV [c]) rfl (ax c) rfl <| gDr [(6, 0)] (by kernel_rfl) rfl rfl <| gHR 5 (GDatum.vs [b, a]) rfl (GDatum.vlit [b, a]) rfl <| gFR 4 rfl (am _) rfl rfl <| gFR 5 rfl (GDatum.vpure _) rfl rfl ?_
 obtain ⟨d, f, g, hs395, h⟩ := h
 refine aj 7 hs395 (by kernel_rfl) rfl (by kernel_rfl) rfl rfl .rfl rfl rfl ?_
 exact gDr [(8, 0), (9, 2), (10, 2), (11, 2), (13, 1), (14, 1), (15, 1)] (by kernel_rfl) rfl rfl <| gDe (by kernel_rfl) <| gJ (h K hK) [0, 1, 3] [] rfl hK pq9 (pqo3 rfl rfl rfl rfl rfl rfl) rfl
 refine gHR 4 (GDatum.vs [b, a]) rfl (GDatum.vlit [b, a]) rfl <| gDr [(1, 0)] (by kernel_rfl) rfl rfl <| gHR 5 (kidsV [c]) rfl (ax c) rfl <| gFR 5 rfl (am _) rfl rfl <| gFR 4 rfl (GDatum.vpure _) rfl rfl ?_
 obtain ⟨d, f, g, hs396, h⟩ := h
 refine aj 7 hs396 (by kernel_rfl) rfl (by kernel_rfl) rfl rfl .rfl rfl rfl ?_
 exact gDr [(8, 0), (9, 2), (10, 2), (11, 2), (13, 1), (14, 1), (15, 1)] (by kernel_rfl) rfl rfl <| gDe (by kernel_rfl) <| gJ (h K hK) [0, 1, 3] [] rfl hK pq9 (pqo3 rfl rfl rfl rfl rfl rfl) rfl
 apply ah (i := 1) (j := 3) (by kernel_rfl) rfl rfl rfl rfl
 exact (ac ab rfl rfl)
 exact (ak (L' := [2]) (by kernel_rfl) rfl rfl (ar hs377 .rfl [2] rfl) (.inl rfl))
 refine gHR 4 (kidsV [c]) rfl (ax c) rfl <| aj 3 hs377 (by kernel_rfl) rfl (by kernel_rfl) rfl rfl .rfl rfl rfl ?_
 obtain ⟨a, hs397, h⟩ := h
 refine aj 5 hs397 (by kernel_rfl) rfl (by kernel_rfl) rfl rfl .rfl rfl rfl ?_
 refine gDr [(6, 0)] (by kernel_rfl) rfl rfl <| gHR 5 (GDatum.vs [b, a]) rfl (GDatum.vlit [b, a]) rfl <| gFR 4 rfl (am _) rfl rfl <| gFR 5 rfl (GDatum.vpure _) rfl rfl ?_
 obtain ⟨d, f, g, hs398, h⟩ := h
 refine aj 7 hs398 (by kernel_rfl) rfl (by kernel_rfl) rfl rfl .rfl rfl rfl ?_
 exact gDr [(8, 0), (9, 2), (10, 2), (11, 2), (13, 1), (14, 1), (15, 1)] (by kernel_rfl) rfl rfl <| gDe (by kernel_rfl) <| gJ (h K hK) [0, 1, 3] [] rfl hK pq9 (pqo3 rfl rfl rfl rfl rfl rfl) rfl
 obtain ⟨a, hs399, h⟩ := h
 apply ah (i := 1) (j := 5) (by kernel_rfl) rfl rfl rfl rfl
 exact (ac ab rfl rfl)
 exact (ak (L' := [2]) (by kernel_rfl) rfl rfl (ar hs399 .rfl [2] rfl) (.inl rfl))
 refine gHR 4 (kidsV [c]) rfl (ax c) rfl <| aj 5 hs399 (by kernel_rfl) rfl (by kernel_rfl) rfl rfl .rfl rfl rfl <| gDr [(6, 0)] (by kernel_rfl) rfl rfl <| gHR 5 (GDatum.vs [b, a]) rfl (GDatum.vlit [b, a]) rfl <| gFR 4 rfl (am _) rfl rfl <| gFR 5 rfl (GDatum.vpure _) rfl rfl ?_
 obtain ⟨d, f, g, hs400, h⟩ := h
 refine aj 7 hs400 (by kernel_rfl) rfl (by kernel_rfl) rfl rfl .rfl rfl rfl ?_
 exact gDr [(8, 0), (9, 2), (10, 2), (11, 2), (13, 1), (14, 1), (15, 1)] (by kernel_rfl) rfl rfl <| gDe (by kernel_rfl) <| gJ (h K hK) [0, 1, 3] [] rfl hK pq9 (pqo3 rfl rfl rfl rfl rfl rfl) rfl
 apply ah (i := 1) (j := 6) (by kernel_rfl) rfl rfl rfl rfl
 exact (ac ab rfl rfl)
 exact (ac ab rfl rfl)
 refine gHR 4 (kidsV [c]) rfl (ax c) rfl <| gDr [(6, 0)] (by kernel_rfl) rfl rfl <| gHR 5 (GDatum.vs [b, a]) rfl (GDatum.vlit [b, a]) rfl <| gFR 4 rfl (am _) rfl rfl <| gFR 5 rfl (GDatum.vpure _) rfl rfl ?_
 obtain ⟨d, f, g, hs401, h⟩ := h
 refine aj 7 hs401 (by kernel_rfl) rfl (by kernel_rfl) rfl rfl .rfl rfl rfl ?_
 exact gDr [(8, 0), (9, 2), (10, 2), (11, 2), (13, 1), (14, 1), (15, 1)] (by kernel_rfl) rfl rfl <| gDe (by kernel_rfl) <| gJ (h K hK) [0, 1, 3] [] rfl hK pq9 (pqo3 rfl rfl rfl rfl rfl rfl) rfl
 refine gHR 4 (GDatum.vs [b, a]) rfl (GDatum.vlit [b, a]) rfl <| gDr [(1, 0)] (by kernel_rfl) rfl rfl <| gHR 5 (kidsV [c]) rfl (ax c) rfl <| gFR 5 rfl (am _) rfl rfl <| gFR 4 rfl (GDatum.vpure _) rfl rfl ?_
 obtain ⟨d, f, g, hs402, h⟩ := h
 refine aj 7 hs402 (by kernel_rfl) rfl (by kernel_rfl) rfl rfl .rfl rfl rfl ?_
 exact gDr [(8, 0), (9, 2), (10, 2), (11, 2), (13, 1), (14, 1), (15, 1)] (by kernel_rfl) rfl rfl <| gDe (by kernel_rfl) <| gJ (h K hK) [0, 1, 3] [] rfl hK pq9 (pqo3 rfl rfl rfl rfl rfl rfl) rfl
theorem gH (m : Nat) (p0 p1 : Int) (g i j : GDatum) (k b : Nat) (c : Int) (l : GDatum) (d f : Int) (r0 : Bool) (h : ((c ≠ 0) → false = r0) ∧ ((c = 0) → ((f ≠ 0) → false = r0) ∧ ((f = 0) → ((d ≠ 3) → false = r0) ∧ ((d = 3) → ∃ a, aP l (GDatum.mk 3 (b : Int) [] []) a ∧ ((a = false) → false = r0) ∧ ((a = true) → dK m p0 p1 g i j k b r0))))) : dy (m + 1) p0 p1 g i j k b c l d f r0 := by
 intro K hK
 refine gR 2 rfl <| gDs [2, 1] 15 18 rfl (by kernel_rfl) (by kernel_rfl) <| gDr [(0, 0), (1, 0), (2, 0)] (by kernel_rfl) rfl rfl <| gB 68 rfl rfl rfl ?_ ?_ <;> intro hd
 refine gT 67 rfl hd rfl ?_
 replace hd := (bi hd)
 replace h := h.1 hd
 refine gDr [(3, 0), (4, 0), (5, 0), (6, 0), (7, 0), (8, 0), (9, 0), (10, 0), (11, 2), (12, 0), (13, 0), (14, 0), (15, 0), (16, 0), (17, 1)] (by kernel_rfl) rfl rfl <| gDe (by kernel_rfl) <| gR 10 rfl <| go_xloopR <| gR 2 rfl ?_
 subst h
 exact go_end ab (rs := [.tmp 4]) rfl rfl rfl
 refine gF 67 rfl hd rfl ?_
 replace hd := (aQ hd)
 replace h := h.2 hd
 refine gDr [(3, 0), (4, 0), (5, 0), (6, 0)] (by kernel_rfl) rfl rfl <| gB 72 rfl rfl rfl ?_ ?_ <;> intro hd
 refine gT 71 rfl hd rfl ?_
 replace hd := (bi hd)
 replace h := h.1 hd
 refine gDr [(7, 0), (8, 0), (9, 0), (10, 0), (11, 2), (12, 0), (13, 0), (14, 0), (15, 0), (16, 0), (17, 1)] (by kernel_rfl) rfl rfl <| gDe (by kernel_rfl) <| gR 10 rfl <| go_xloopR <| gR 2 rfl ?_
 subst h
 exact go_end ab (rs := [.tmp 4]) rfl rfl rfl
 refine gF 71 rfl hd rfl ?_
 replace hd := (aQ hd)
 replace h := h.2 hd
 refine gDr [(7, 0), (8, 0), (9, 0), (10, 0)] (by kernel_rfl) rfl rfl <| gB 76 rfl rfl rfl ?_ ?_ <;> intro hd
 refine gT 75 rfl hd rfl ?_
 replace hd := (bi hd)
 replace h := h.1 hd
 refine gDr [(11, 2), (12, 0), (13, 0), (14, 0), (15, 0), (16, 0), (17, 1)] (by kernel_rfl) rfl rfl <| gDe (by kernel_rfl) <| gR 10 rfl <| go_xloopR <| gR 2 rfl ?_
 subst h
 exact go_end ab (rs := [.tmp 4]) rfl rfl rfl
 refine gF 75 rfl hd rfl ?_
 replace hd := (aQ hd)
 replace h := h.2 hd
 refine gDr [(11, 3), (12, 0)] (by kernel_rfl) rfl rfl <| jF 13 rfl (by kernel_rfl) (yIP (len := 5) (e := 24) (sz := 4) ab rfl rfl rfl rfl rfl rfl rfl rfl) rfl rfl <| gDr [(14, 0)] (by kernel_rfl) rfl rfl ?_
 obtain ⟨a, hs403, h⟩ := h
 refine aj 15 hs403 (by kernel_rfl) rfl (by kernel_rfl) rfl rfl (.cons .rfl (.cons (.agg (.cons .rfl (.cons .rfl (.cons .rfl (.cons (.nil 4) .nil))))) .nil)) rfl rfl ?_
 refine gDr [(16, 1), (17, 1)] (by kernel_rfl) rfl rfl <| gDe (by kernel_rfl) <| gR 1 rfl <| gB 83 rfl rfl rfl ?_ ?_ <;> intro hd
 replace hd := (dg hd)
 replace h := h.1 hd
 refine gR 9 rfl <| go_xloopR <| gR 2 rfl ?_
 subst h
 exact go_end ab (rs := [.tmp 4]) rfl rfl rfl
 replace hd := (de hd)
 replace h := h.2 hd
 exact gR 7 rfl <| gV 43 (.int .i64 4) rfl (aL (by omega) (by omega)) rfl <| gR 2 rfl <| go_xloop <| gJ (h K hK) [0, 1] [] rfl hK pq5 (pqo2 rfl rfl rfl rfl) rfl
theorem gG (m : Nat) (p0 p1 : Int) (n o p : GDatum) (q r : Nat) (r0 : Bool) (h : [109, 111, 100, 117, 108, 101, 32, 77, 32, 100, 101, 102, 32, 102, 40, 97, 58, 32, 73, 110, 116, 44, 32, 98, 58, 32, 73, 110, 116, 41, 58, 32, 73, 110, 116, 32, 61, 32, 97, 32].length + [61, 61].length ≤ 9223372036854775807 ∧ ([109, 111, 100, 117, 108, 101, 32, 77, 32, 100, 101, 102, 32, 102, 40, 97, 58, 32, 73, 110, 116, 44, 32, 98, 58, 32, 73, 110, 116, 41, 58, 32, 73, 110, 116, 32, 61, 32, 97, 32] ++ [61, 61]).length + [32, 98].length ≤ 9223372036854775807 ∧ ∃ c s k, bQ (([109, 111, 100, 117, 108, 101, 32, 77, 32, 100, 101, 102, 32, 102, 40, 97, 58, 32, 73, 110, 116, 44, 32, 98, 58, 32, 73, 110, 116, 41, 58, 32, 73, 110, 116, 32, 61, 32, 97, 32] ++ [61, 61]) ++ [32, 98]) c s k ∧ ∃ b, au p0 b ∧ ∃ a, au p1 a ∧ ∃ d f g, bT [c] 0 0 [b, a] 3 d f g ∧ dG m p0 p1 n o p q r k d f g r0) : dK (m + 1) p0 p1 n o p q r r0 := by
 intro K hK
 refine gR 15 rfl <| gY (yIP (len := 5) (e := 9) (sz := 1) ab rfl rfl rfl rfl rfl rfl rfl rfl) rfl rfl <| gR 1 rfl ?_
 obtain ⟨hb, h⟩ := h
 refine gY (ia rfl rfl hb) rfl rfl ?_
 obtain ⟨hb, h⟩ := h
 refine gY (ia rfl rfl hb) rfl rfl ?_
 obtain ⟨c, s, k, hs404, h⟩ := h
 refine gC0 hs404 (by kernel_rfl) rfl rfl .rfl rfl <| gR 11 rfl <| gDs [2] 13 16 rfl (by kernel_rfl) (by kernel_rfl) <| gDr [(0, 3), (2, 2), (4, 2)] (by kernel_rfl) rfl rfl ?_
 obtain ⟨b, hs405, h⟩ := h
 apply bE (i := 1) (j := 3) (l := 12) (by kernel_rfl) rfl rfl rfl rfl rfl rfl
 exact (ac ab rfl rfl)
 exact (ak (L' := [2]) (by kernel_rfl) rfl rfl (ar hs405 .rfl [2] rfl) (.inl rfl))
 exact (ac ab rfl rfl)
 refine gHR 3 (kidsV [c]) rfl (ax c) rfl ?_
 apply ah (i := 3) (j := 12) (by kernel_rfl) rfl rfl rfl rfl
 exact (ak (L' := [2]) (by kernel_rfl) rfl rfl (ar hs405 .rfl [2] rfl) (.inl rfl))
 exact (ac ab rfl rfl)
 obtain ⟨a, hs406, h⟩ := h
 apply ah (i := 5) (j := 12) (by kernel_rfl) rfl rfl rfl rfl
 exact (ak (L' := [2]) (by kernel_rfl) rfl rfl (ar hs406 .rfl [2] rfl) (.inl rfl))
 exact (ac ab rfl rfl)
 apply ah (i := 6) (j := 12) (by kernel_rfl) rfl rfl rfl rfl
 exact (ac ab rfl rfl)
 exact (ac ab rfl rfl)
 refine gHR 4 (GDatum.vs [b, a]) rfl (GDatum.vlit [b, a]) rfl <| gFR 3 rfl (am _) rfl rfl <| gFR 4 rfl (GDatum.vpure _) rfl rfl ?_
 obtain ⟨d, f, g, hs407, h⟩ := h
 apply ah (i := 7) (j := 12) (by kernel_rfl) rfl rfl rfl rfl
 exact (ak (L' := [2]) (by kernel_rfl) rfl rfl (ar hs407 .rfl [2] rfl) (.inl rfl))
 exact (ac ab rfl rfl)
 exact gDr [(8, 2), (9, 2), (10, 2), (11, 2), (12, 0), (13, 1), (14, 1), (15, 1)] (by kernel_rfl) rfl rfl <| gDe (by kernel_rfl) <| gJ (h K hK) [0, 1, 5] [] rfl hK pq9 (pqo3 rfl rfl rfl rfl rfl rfl) rfl
 refine aj 7 hs407 (by kernel_rfl) rfl (by kernel_rfl) rfl rfl .rfl rfl rfl ?_
 exact gDr [(8, 0), (9, 2), (10, 2), (11, 2), (13, 1), (14, 1), (15, 1)] (by kernel_rfl) rfl rfl <| gDe (by kernel_rfl) <| gJ (h K hK) [0, 1, 5] [] rfl hK pq9 (pqo3 rfl rfl rfl rfl rfl rfl) rfl
 refine gDr [(6, 0)] (by kernel_rfl) rfl rfl <| gHR 5 (GDatum.vs [b, a]) rfl (GDatum.vlit [b, a]) rfl <| gFR 3 rfl (am _) rfl rfl <| gFR 5 rfl (GDatum.vpure _) rfl rfl ?_
 obtain ⟨d, f, g, hs408, h⟩ := h
 refine aj 7 hs408 (by kernel_rfl) rfl (by kernel_rfl) rfl rfl .rfl rfl rfl ?_
 exact gDr [(8, 0), (9, 2), (10, 2), (11, 2), (13, 1), (14, 1), (15, 1)] (by kernel_rfl) rfl rfl <| gDe (by kernel_rfl) <| gJ (h K hK) [0, 1, 4] [] rfl hK pq9 (pqo3 rfl rfl rfl rfl rfl rfl) rfl
 refine aj 5 hs406 (by kernel_rfl) rfl (by kernel_rfl) rfl rfl .rfl rfl rfl ?_
 refine gDr [(6, 0)] (by kernel_rfl) rfl rfl <| gHR 5 (GDatum.vs [b, a]) rfl (GDatum.vlit [b, a]) rfl <| gFR 3 rfl (am _) rfl rfl <| gFR 5 rfl (GDatum.vpure _) rfl rfl ?_
 obtain ⟨d, f, g, hs409, h⟩ := h
 refine aj 7 hs409 (by kernel_rfl) rfl (by kernel_rfl) rfl rfl .rfl rfl rfl ?_
 exact gDr [(8, 0), (9, 2), (10, 2), (11, 2), (13, 1), (14, 1), (15, 1)] (by kernel_rfl) rfl rfl <| gDe (by kernel_rfl) <| gJ (h K hK) [0, 1, 4] [] rfl hK pq9 (pqo3 rfl rfl rfl rfl rfl rfl) rfl
 refine aj 3 hs405 (by kernel_rfl) rfl (by kernel_rfl) rfl rfl .rfl rfl rfl ?_
 obtain ⟨a, hs410, h⟩ := h
 refine aj 5 hs410 (by kernel_rfl) rfl (by kernel_rfl) rfl rfl .rfl rfl rfl ?_
 refine gDr [(6, 0)] (by kernel_rfl) rfl rfl <| gHR 5 (GDatum.vs [b, a]) rfl (GDatum.vlit [b, a]) rfl <| gFR 3 rfl (am _) rfl rfl <| gFR 5 rfl (GDatum.vpure _) rfl rfl ?_
 obtain ⟨d, f, g, hs411, h⟩ := h
 refine aj 7 hs411 (by kernel_rfl) rfl (by kernel_rfl) rfl rfl .rfl rfl rfl ?_
 exact gDr [(8, 0), (9, 2), (10, 2), (11, 2), (13, 1), (14, 1), (15, 1)] (by kernel_rfl) rfl rfl <| gDe (by kernel_rfl) <| gJ (h K hK) [0, 1, 4] [] rfl hK pq9 (pqo3 rfl rfl rfl rfl rfl rfl) rfl
 obtain ⟨a, hs412, h⟩ := h
 apply bE (i := 1) (j := 5) (l := 12) (by kernel_rfl) rfl rfl rfl rfl rfl rfl
 exact (ac ab rfl rfl)
 exact (ak (L' := [2]) (by kernel_rfl) rfl rfl (ar hs412 .rfl [2] rfl) (.inl rfl))
 exact (ac ab rfl rfl)
 refine gHR 3 (kidsV [c]) rfl (ax c) rfl ?_
 apply ah (i := 5) (j := 12) (by kernel_rfl) rfl rfl rfl rfl
 exact (ak (L' := [2]) (by kernel_rfl) rfl rfl (ar hs412 .rfl [2] rfl) (.inl rfl))
 exact (ac ab rfl rfl)
 apply ah (i := 6) (j := 12) (by kernel_rfl) rfl rfl rfl rfl
 exact (ac ab rfl rfl)
 exact (ac ab rfl rfl)
 refine gHR 4 (GDatum.vs [b, a]) rfl (GDatum.vlit [b, a]) rfl <| gFR 3 rfl (am _) rfl rfl <| gFR 4 rfl (GDatum.vpure _) rfl rfl ?_
 obtain ⟨d, f, g, hs413, h⟩ := h
 apply ah (i := 7) (j := 12) (by kernel_rfl) rfl rfl rfl rfl
 exact (ak (L' := [2]) (by kernel_rfl) rfl rfl (ar hs413 .rfl [2] rfl) (.inl rfl))
 exact (ac ab rfl rfl)
 exact gDr [(8, 2), (9, 2), (10, 2), (11, 2), (12, 0), (13, 1), (14, 1), (15, 1)] (by kernel_rfl) rfl rfl <| gDe (by kernel_rfl) <| gJ (h K hK) [0, 1, 5] [] rfl hK pq9 (pqo3 rfl rfl rfl rfl rfl rfl) rfl
 refine aj 7 hs413 (by kernel_rfl) rfl (by kernel_rfl) rfl rfl .rfl rfl rfl ?_
 exact gDr [(8, 0), (9, 2), (10, 2), (11, 2), (13, 1), (14, 1), (15, 1)] (by kernel_rfl) rfl rfl <| gDe (by kernel_rfl) <| gJ (h K hK) [0, 1, 5] [] rfl hK pq9 (pqo3 rfl rfl rfl rfl rfl rfl) rfl
 refine gDr [(6, 0)] (by kernel_rfl) rfl rfl <| gHR 5 (GDatum.vs [b, a]) rfl (GDatum.vlit [b, a]) rfl <| gFR 3 rfl (am _) rfl rfl <| gFR 5 rfl (GDatum.vpure _) rfl rfl ?_
 obtain ⟨d, f, g, hs414, h⟩ := h
 refine aj 7 hs414 (by kernel_rfl) rfl (by kernel_rfl) rfl rfl .rfl rfl rfl ?_
 exact gDr [(8, 0), (9, 2), (10, 2), (11, 2), (13, 1), (14, 1), (15, 1)] (by kernel_rfl) rfl rfl <| gDe (by kernel_rfl) <| gJ (h K hK) [0, 1, 4] [] rfl hK pq9 (pqo3 rfl rfl rfl rfl rfl rfl) rfl
 refine aj 5 hs412 (by kernel_rfl) rfl (by kernel_rfl) rfl rfl .rfl rfl rfl ?_
 refine gDr [(6, 0)] (by kernel_rfl) rfl rfl <| gHR 5 (GDatum.vs [b, a]) rfl (GDatum.vlit [b, a]) rfl <| gFR 3 rfl (am _) rfl rfl <| gFR 5 rfl (GDatum.vpure _) rfl rfl ?_
 obtain ⟨d, f, g, hs415, h⟩ := h
 refine aj 7 hs415 (by kernel_rfl) rfl (by kernel_rfl) rfl rfl .rfl rfl rfl ?_
 exact gDr [(8, 0), (9, 2), (10, 2), (11, 2), (13, 1), (14, 1), (15, 1)] (by kernel_rfl) rfl rfl <| gDe (by kernel_rfl) <| gJ (h K hK) [0, 1, 4] [] rfl hK pq9 (pqo3 rfl rfl rfl rfl rfl rfl) rfl
 apply bE (i := 1) (j := 6) (l := 12) (by kernel_rfl) rfl rfl rfl rfl rfl rfl
 exact (ac ab rfl rfl)
 exact (ac ab rfl rfl)
 exact (ac ab rfl rfl)
 refine gHR 3 (kidsV [c]) rfl (ax c) rfl ?_
 apply ah (i := 6) (j := 12) (by kernel_rfl) rfl rfl rfl rfl
 exact (ac ab rfl rfl)
 exact (ac ab rfl rfl)
 refine gHR 4 (GDatum.vs [b, a]) rfl (GDatum.vlit [b, a]) rfl <| gFR 3 rfl (am _) rfl rfl <| gFR 4 rfl (GDatum.vpure _) rfl rfl ?_
 obtain ⟨d, f, g, hs416, h⟩ := h
 apply ah (i := 7) (j := 12) (by kernel_rfl) rfl rfl rfl rfl
 exact (ak (L' := [2]) (by kernel_rfl) rfl rfl (ar hs416 .rfl [2] rfl) (.inl rfl))
 exact (ac ab rfl rfl)
 exact gDr [(8, 2), (9, 2), (10, 2), (11, 2), (12, 0), (13, 1), (14, 1), (15, 1)] (by kernel_rfl) rfl rfl <| gDe (by kernel_rfl) <| gJ (h K hK) [0, 1, 5] [] rfl hK pq9 (pqo3 rfl rfl rfl rfl rfl rfl) rfl
 refine aj 7 hs416 (by kernel_rfl) rfl (by kernel_rfl) rfl rfl .rfl rfl rfl ?_
 exact gDr [(8, 0), (9, 2), (10, 2), (11, 2), (13, 1), (14, 1), (15, 1)] (by kernel_rfl) rfl rfl <| gDe (by kernel_rfl) <| gJ (h K hK) [0, 1, 5] [] rfl hK pq9 (pqo3 rfl rfl rfl rfl rfl rfl) rfl
 refine gDr [(6, 0)] (by kernel_rfl) rfl rfl <| gHR 5 (GDatum.vs [b, a]) rfl (GDatum.vlit [b, a]) rfl <| gFR 3 rfl (am _) rfl rfl <| gFR 5 rfl (GDatum.vpure _) rfl rfl ?_
 obtain ⟨d, f, g, hs417, h⟩ := h
 refine aj 7 hs417 (by kernel_rfl) rfl (by kernel_rfl) rfl rfl .rfl rfl rfl ?_
 exact gDr [(8, 0), (9, 2), (10, 2), (11, 2), (13, 1), (14, 1), (15, 1)] (by kernel_rfl) rfl rfl <| gDe (by kernel_rfl) <| gJ (h K hK) [0, 1, 4] [] rfl hK pq9 (pqo3 rfl rfl rfl rfl rfl rfl) rfl
 refine gHR 3 (GDatum.vs [b, a]) rfl (GDatum.vlit [b, a]) rfl ?_
 apply ah (i := 1) (j := 12) (by kernel_rfl) rfl rfl rfl rfl
 exact (ac ab rfl rfl)
 exact (ac ab rfl rfl)
 refine gHR 4 (kidsV [c]) rfl (ax c) rfl <| gFR 4 rfl (am _) rfl rfl <| gFR 3 rfl (GDatum.vpure _) rfl rfl ?_
 obtain ⟨d, f, g, hs418, h⟩ := h
 apply ah (i := 7) (j := 12) (by kernel_rfl) rfl rfl rfl rfl
 exact (ak (L' := [2]) (by kernel_rfl) rfl rfl (ar hs418 .rfl [2] rfl) (.inl rfl))
 exact (ac ab rfl rfl)
 exact gDr [(8, 2), (9, 2), (10, 2), (11, 2), (12, 0), (13, 1), (14, 1), (15, 1)] (by kernel_rfl) rfl rfl <| gDe (by kernel_rfl) <| gJ (h K hK) [0, 1, 5] [] rfl hK pq9 (pqo3 rfl rfl rfl rfl rfl rfl) rfl
 refine aj 7 hs418 (by kernel_rfl) rfl (by kernel_rfl) rfl rfl .rfl rfl rfl ?_
 exact gDr [(8, 0), (9, 2), (10, 2), (11, 2), (13, 1), (14, 1), (15, 1)] (by kernel_rfl) rfl rfl <| gDe (by kernel_rfl) <| gJ (h K hK) [0, 1, 5] [] rfl hK pq9 (pqo3 rfl rfl rfl rfl rfl rfl) rfl
 refine gDr [(1, 0)] (by kernel_rfl) rfl rfl <| gHR 5 (kidsV [c]) rfl (ax c) rfl <| gFR 5 rfl (am _) rfl rfl <| gFR 3 rfl (GDatum.vpure _) rfl rfl ?_
 obtain ⟨d, f, g, hs419, h⟩ := h
 refine aj 7 hs419 (by kernel_rfl) rfl (by kernel_rfl) rfl rfl .rfl rfl rfl ?_
 exact gDr [(8, 0), (9, 2), (10, 2), (11, 2), (13, 1), (14, 1), (15, 1)] (by kernel_rfl) rfl rfl <| gDe (by kernel_rfl) <| gJ (h K hK) [0, 1, 4] [] rfl hK pq9 (pqo3 rfl rfl rfl rfl rfl rfl) rfl
 apply ah (i := 1) (j := 6) (by kernel_rfl) rfl rfl rfl rfl
 exact (ac ab rfl rfl)
 exact (ac ab rfl rfl)
 refine gHR 4 (kidsV [c]) rfl (ax c) rfl <| gDr [(6, 0)] (by kernel_rfl) rfl rfl <| gHR 5 (GDatum.vs [b, a]) rfl (GDatum.vlit [b, a]) rfl <| gFR 4 rfl (am _) rfl rfl <| gFR 5 rfl (GDatum.vpure _) rfl rfl ?_
 obtain ⟨d, f, g, hs420, h⟩ := h
 refine aj 7 hs420 (by kernel_rfl) rfl (by kernel_rfl) rfl rfl .rfl rfl rfl ?_
 exact gDr [(8, 0), (9, 2), (10, 2), (11, 2), (13, 1), (14, 1), (15, 1)] (by kernel_rfl) rfl rfl <| gDe (by kernel_rfl) <| gJ (h K hK) [0, 1, 3] [] rfl hK pq9 (pqo3 rfl rfl rfl rfl rfl rfl) rfl
 refine gHR 4 (GDatum.vs [b, a]) rfl (GDatum.vlit [b, a]) rfl <| gDr [(1, 0)] (by kernel_rfl) rfl rfl <| gHR 5 (kidsV [c]) rfl (ax c) rfl <| gFR 5 rfl (am _) rfl rfl <| gFR 4 rfl (GDatum.vpure _) rfl rfl ?_
 obtain ⟨d, f, g, hs421, h⟩ := h
 refine aj 7 hs421 (by kernel_rfl) rfl (by kernel_rfl) rfl rfl .rfl rfl rfl ?_
 exact gDr [(8, 0), (9, 2), (10, 2), (11, 2), (13, 1), (14, 1), (15, 1)] (by kernel_rfl) rfl rfl <| gDe (by kernel_rfl) <| gJ (h K hK) [0, 1, 3] [] rfl hK pq9 (pqo3 rfl rfl rfl rfl rfl rfl) rfl
 apply ah (i := 1) (j := 5) (by kernel_rfl) rfl rfl rfl rfl
 exact (ac ab rfl rfl)
 exact (ak (L' := [2]) (by kernel_rfl) rfl rfl (ar hs412 .rfl [2] rfl) (.inl rfl))
 refine gHR 4 (kidsV [c]) rfl (ax c) rfl <| aj 5 hs412 (by kernel_rfl) rfl (by kernel_rfl) rfl rfl .rfl rfl rfl <| gDr [(6, 0)] (by kernel_rfl) rfl rfl <| gHR 5 (GDatum.vs [b, a]) rfl (GDatum.vlit [b, a]) rfl <| gFR 4 rfl (am _) rfl rfl <| gFR 5 rfl (GDatum.vpure _) rfl rfl ?_
 obtain ⟨d, f, g, hs422, h⟩ := h
 refine aj 7 hs422 (by kernel_rfl) rfl (by kernel_rfl) rfl rfl .rfl rfl rfl ?_
 exact gDr [(8, 0), (9, 2), (10, 2), (11, 2), (13, 1), (14, 1), (15, 1)] (by kernel_rfl) rfl rfl <| gDe (by kernel_rfl) <| gJ (h K hK) [0, 1, 3] [] rfl hK pq9 (pqo3 rfl rfl rfl rfl rfl rfl) rfl
 apply ah (i := 1) (j := 6) (by kernel_rfl) rfl rfl rfl rfl
 exact (ac ab rfl rfl)
 exact (ac ab rfl rfl)
 refine gHR 4 (kidsV [c]) rfl (ax c) rfl <| gDr [(6, 0)] (by kernel_rfl) rfl rfl <| gHR 5 (GDatum.vs [b, a]) rfl (GDatum.vlit [b, a]) rfl <| gFR 4 rfl (am _) rfl rfl <| gFR 5 rfl (GDatum.vpure _) rfl rfl ?_
 obtain ⟨d, f, g, hs423, h⟩ := h
 refine aj 7 hs423 (by kernel_rfl) rfl (by kernel_rfl) rfl rfl .rfl rfl rfl ?_
 exact gDr [(8, 0), (9, 2), (10, 2), (11, 2), (13, 1), (14, 1), (15, 1)] (by kernel_rfl) rfl rfl <| gDe (by kernel_rfl) <| gJ (h K hK) [0, 1, 3] [] rfl hK pq9 (pqo3 rfl rfl rfl rfl rfl rfl) rfl
 refine gHR 4 (GDatum.vs [b, a]) rfl (GDatum.vlit [b, a]) rfl <| gDr [(1, 0)] (by kernel_rfl) rfl rfl <| gHR 5 (kidsV [c]) rfl (ax c) rfl <| gFR 5 rfl (am _) rfl rfl <| gFR 4 rfl (GDatum.vpure _) rfl rfl ?_
 obtain ⟨d, f, g, hs424, h⟩ := h
 refine aj 7 hs424 (by kernel_rfl) rfl (by kernel_rfl) rfl rfl .rfl rfl rfl ?_
 exact gDr [(8, 0), (9, 2), (10, 2), (11, 2), (13, 1), (14, 1), (15, 1)] (by kernel_rfl) rfl rfl <| gDe (by kernel_rfl) <| gJ (h K hK) [0, 1, 3] [] rfl hK pq9 (pqo3 rfl rfl rfl rfl rfl rfl) rfl
 apply ah (i := 1) (j := 3) (by kernel_rfl) rfl rfl rfl rfl
 exact (ac ab rfl rfl)
 exact (ak (L' := [2]) (by kernel_rfl) rfl rfl (ar hs405 .rfl [2] rfl) (.inl rfl))
 refine gHR 4 (kidsV [c]) rfl (ax c) rfl <| aj 3 hs405 (by kernel_rfl) rfl (by kernel_rfl) rfl rfl .rfl rfl rfl ?_
 obtain ⟨a, hs425, h⟩ := h
 refine aj 5 hs425 (by kernel_rfl) rfl (by kernel_rfl) rfl rfl .rfl rfl rfl ?_
 refine gDr [(6, 0)] (by kernel_rfl) rfl rfl <| gHR 5 (GDatum.vs [b, a]) rfl (GDatum.vlit [b, a]) rfl <| gFR 4 rfl (am _) rfl rfl <| gFR 5 rfl (GDatum.vpure _) rfl rfl ?_
 obtain ⟨d, f, g, hs426, h⟩ := h
 refine aj 7 hs426 (by kernel_rfl) rfl (by kernel_rfl) rfl rfl .rfl rfl rfl ?_
 exact gDr [(8, 0), (9, 2), (10, 2), (11, 2), (13, 1), (14, 1), (15, 1)] (by kernel_rfl) rfl rfl <| gDe (by kernel_rfl) <| gJ (h K hK) [0, 1, 3] [] rfl hK pq9 (pqo3 rfl rfl rfl rfl rfl rfl) rfl
 obtain ⟨a, hs427, h⟩ := h
 apply ah (i := 1) (j := 5) (by kernel_rfl) rfl rfl rfl rfl
 exact (ac ab rfl rfl)
 exact (ak (L' := [2]) (by kernel_rfl) rfl rfl (ar hs427 .rfl [2] rfl) (.inl rfl))
 refine gHR 4 (kidsV [c]) rfl (ax c) rfl <| aj 5 hs427 (by kernel_rfl) rfl (by kernel_rfl) rfl rfl .rfl rfl rfl <| gDr [(6, 0)] (by kernel_rfl) rfl rfl <| gHR 5 (GDatum.vs [b, a]) rfl (GDatum.vlit [b, a]) rfl <| gFR 4 rfl (am _) rfl rfl <| gFR 5 rfl (GDatum.vpure _) rfl rfl ?_
 obtain ⟨d, f, g, hs428, h⟩ := h
 refine aj 7 hs428 (by kernel_rfl) rfl (by kernel_rfl) rfl rfl .rfl rfl rfl ?_
 exact gDr [(8, 0), (9, 2), (10, 2), (11, 2), (13, 1), (14, 1), (15, 1)] (by kernel_rfl) rfl rfl <| gDe (by kernel_rfl) <| gJ (h K hK) [0, 1, 3] [] rfl hK pq9 (pqo3 rfl rfl rfl rfl rfl rfl) rfl
 apply ah (i := 1) (j := 6) (by kernel_rfl) rfl rfl rfl rfl
 exact (ac ab rfl rfl)
 exact (ac ab rfl rfl)
 refine gHR 4 (kidsV [c]) rfl (ax c) rfl <| gDr [(6, 0)] (by kernel_rfl) rfl rfl <| gHR 5 (GDatum.vs [b, a]) rfl (GDatum.vlit [b, a]) rfl <| gFR 4 rfl (am _) rfl rfl <| gFR 5 rfl (GDatum.vpure _) rfl rfl ?_
 obtain ⟨d, f, g, hs429, h⟩ := h
 refine aj 7 hs429 (by kernel_rfl) rfl (by kernel_rfl) rfl rfl .rfl rfl rfl ?_
 exact gDr [(8, 0), (9, 2), (10, 2), (11, 2), (13, 1), (14, 1), (15, 1)] (by kernel_rfl) rfl rfl <| gDe (by kernel_rfl) <| gJ (h K hK) [0, 1, 3] [] rfl hK pq9 (pqo3 rfl rfl rfl rfl rfl rfl) rfl
 refine gHR 4 (GDatum.vs [b, a]) rfl (GDatum.vlit [b, a]) rfl <| gDr [(1, 0)] (by kernel_rfl) rfl rfl <| gHR 5 (kidsV [c]) rfl (ax c) rfl <| gFR 5 rfl (am _) rfl rfl <| gFR 4 rfl (GDatum.vpure _) rfl rfl ?_
 obtain ⟨d, f, g, hs430, h⟩ := h
 refine aj 7 hs430 (by kernel_rfl) rfl (by kernel_rfl) rfl rfl .rfl rfl rfl ?_
 exact gDr [(8, 0), (9, 2), (10, 2), (11, 2), (13, 1), (14, 1), (15, 1)] (by kernel_rfl) rfl rfl <| gDe (by kernel_rfl) <| gJ (h K hK) [0, 1, 3] [] rfl hK pq9 (pqo3 rfl rfl rfl rfl rfl rfl) rfl
theorem gy (m : Nat) (p0 p1 : Int) (g i j : GDatum) (b k : Nat) (c : Int) (l : GDatum) (d f : Int) (r0 : Bool) (h : ((c ≠ 0) → false = r0) ∧ ((c = 0) → ((f ≠ 0) → false = r0) ∧ ((f = 0) → ((d ≠ 3) → false = r0) ∧ ((d = 3) → ∃ a, aP l (GDatum.mk 3 (b : Int) [] []) a ∧ ((a = false) → false = r0) ∧ ((a = true) → dq m p0 p1 g i j b k r0))))) : dG (m + 1) p0 p1 g i j b k c l d f r0 := by
 intro K hK
 refine gR 2 rfl <| gDs [2, 1] 15 18 rfl (by kernel_rfl) (by kernel_rfl) <| gDr [(0, 0), (1, 0), (2, 0)] (by kernel_rfl) rfl rfl <| gB 68 rfl rfl rfl ?_ ?_ <;> intro hd
 refine gT 67 rfl hd rfl ?_
 replace hd := (bi hd)
 replace h := h.1 hd
 refine gDr [(3, 0), (4, 0), (5, 0), (6, 0), (7, 0), (8, 0), (9, 0), (10, 0), (11, 2), (12, 0), (13, 0), (14, 0), (15, 0), (16, 0), (17, 1)] (by kernel_rfl) rfl rfl <| gDe (by kernel_rfl) <| gR 10 rfl <| go_xloopR <| gR 2 rfl ?_
 subst h
 exact go_end ab (rs := [.tmp 4]) rfl rfl rfl
 refine gF 67 rfl hd rfl ?_
 replace hd := (aQ hd)
 replace h := h.2 hd
 refine gDr [(3, 0), (4, 0), (5, 0), (6, 0)] (by kernel_rfl) rfl rfl <| gB 72 rfl rfl rfl ?_ ?_ <;> intro hd
 refine gT 71 rfl hd rfl ?_
 replace hd := (bi hd)
 replace h := h.1 hd
 refine gDr [(7, 0), (8, 0), (9, 0), (10, 0), (11, 2), (12, 0), (13, 0), (14, 0), (15, 0), (16, 0), (17, 1)] (by kernel_rfl) rfl rfl <| gDe (by kernel_rfl) <| gR 10 rfl <| go_xloopR <| gR 2 rfl ?_
 subst h
 exact go_end ab (rs := [.tmp 4]) rfl rfl rfl
 refine gF 71 rfl hd rfl ?_
 replace hd := (aQ hd)
 replace h := h.2 hd
 refine gDr [(7, 0), (8, 0), (9, 0), (10, 0)] (by kernel_rfl) rfl rfl <| gB 76 rfl rfl rfl ?_ ?_ <;> intro hd
 refine gT 75 rfl hd rfl ?_
 replace hd := (bi hd)
 replace h := h.1 hd
 refine gDr [(11, 2), (12, 0), (13, 0), (14, 0), (15, 0), (16, 0), (17, 1)] (by kernel_rfl) rfl rfl <| gDe (by kernel_rfl) <| gR 10 rfl <| go_xloopR <| gR 2 rfl ?_
 subst h
 exact go_end ab (rs := [.tmp 4]) rfl rfl rfl
 refine gF 75 rfl hd rfl ?_
 replace hd := (aQ hd)
 replace h := h.2 hd
 refine gDr [(11, 3), (12, 0)] (by kernel_rfl) rfl rfl <| jF 13 rfl (by kernel_rfl) (yIP (len := 5) (e := 24) (sz := 4) ab rfl rfl rfl rfl rfl rfl rfl rfl) rfl rfl <| gDr [(14, 0)] (by kernel_rfl) rfl rfl ?_
 obtain ⟨a, hs431, h⟩ := h
 refine aj 15 hs431 (by kernel_rfl) rfl (by kernel_rfl) rfl rfl (.cons .rfl (.cons (.agg (.cons .rfl (.cons .rfl (.cons .rfl (.cons (.nil 4) .nil))))) .nil)) rfl rfl ?_
 refine gDr [(16, 1), (17, 1)] (by kernel_rfl) rfl rfl <| gDe (by kernel_rfl) <| gR 1 rfl <| gB 83 rfl rfl rfl ?_ ?_ <;> intro hd
 replace hd := (dg hd)
 replace h := h.1 hd
 refine gR 9 rfl <| go_xloopR <| gR 2 rfl ?_
 subst h
 exact go_end ab (rs := [.tmp 4]) rfl rfl rfl
 replace hd := (de hd)
 replace h := h.2 hd
 exact gR 7 rfl <| gV 43 (.int .i64 5) rfl (aL (by omega) (by omega)) rfl <| gR 2 rfl <| go_xloop <| gJ (h K hK) [0, 1] [] rfl hK pq5 (pqo2 rfl rfl rfl rfl) rfl
theorem gu (m : Nat) (p0 p1 : Int) (b c d : GDatum) (e f : Nat) (r0 : Bool) (h : ∃ a, fH a ∧ a = r0) : dq (m + 1) p0 p1 b c d e f r0 := by
 intro K hK
 refine gR 10 rfl <| go_xloopE <| gR 4 rfl ?_
 obtain ⟨a, hs432, h⟩ := h
 refine gC0 hs432 (by kernel_rfl) rfl rfl .rfl rfl <| gR 4 rfl ?_
 subst h
 exact go_end ab (rs := [.tmp 4]) rfl rfl rfl
end Go.Proofs.YthnohcipianijaaGreatDoor
namespace Go.Proofs.YthnohcipianijaaGreatDoor
open Go.RowKit Lx Sx
set_option maxRecDepth 100000
set_option maxHeartbeats 1000000
def opT (T : Tree) (op : List UInt8) : Bool := ix [T] 0 0 2 && (ao (aJ [T] 0 0) 3).kind == 21 && (ao (aJ [T] 0 0) 3).text == op && (ao (aJ [T] 0 0) 3).kids.length == 2 && (ao (ao (aJ [T] 0 0) 3) 0).kind == 12 && (ao (ao (aJ [T] 0 0) 3) 0).text == [97] && (ao (ao (aJ [T] 0 0) 3) 1).kind == 12 && (ao (ao (aJ [T] 0 0) 3) 1).text == [98] && (aJ [T] 0 0).kids.length == 4 && (ao (aJ [T] 0 0) 0).text == [97] && (ao (aJ [T] 0 0) 1).text == [98] && decide (kbulk [T] ≤ 1100000)
theorem op9 {T : Tree} {op : List UInt8} (h : opT T op = true) (a b : Int) : bu [T] 0 0 [dI a, dI b] 3 = ((bd op (dI a) (dI b)).1, 3, (bd op (dI a) (dI b)).2) ∧ kbulk [T] ≤ 1100000 := by
 simp only [opT, Bool.and_eq_true, beq_iff_eq, decide_eq_true_eq] at h
 obtain ⟨⟨⟨⟨⟨⟨⟨⟨⟨⟨⟨h1, h2⟩, h3⟩, h4⟩, h5⟩, h6⟩, h7⟩, h8⟩, h9⟩, h10⟩, h11⟩, h12⟩ := h
 refine ⟨?_, h12⟩
 have hv : [dI a, dI b].all cy = true := by simp [cy, wD, wDs, formD, dI]
 have he : bU (aJ [T] 0 0).kids [dI a, dI b] = [([97], dI a), ([98], dI b)] := by
  unfold ao at h10 h11
  match hk : (aJ [T] 0 0).kids, h9 with
  | [x, y, z, w], _ =>
   rw [hk] at h10 h11
   have e1 : x.text = [97] := h10
   have e2 : y.text = [98] := h11
   simp [bU, e1, e2]
 have a1 : bW (ao (ao (aJ [T] 0 0) 3) 0) = ao (ao (aJ [T] 0 0) 3) 0 := by rw [bW, if_neg (by omega)]
 have a2 : bW (ao (ao (aJ [T] 0 0) 3) 1) = ao (ao (aJ [T] 0 0) 3) 1 := by rw [bW, if_neg (by omega)]
 have hev : evG [T] 16385 0 (ao (aJ [T] 0 0) ([dI a, dI b].length + 1)) (bU (aJ [T] 0 0).kids [dI a, dI b]) (3 : Int).toNat = ((bd op (dI a) (dI b)).1, (bd op (dI a) (dI b)).2, 0) := by
  rw [he]
  show evG [T] (16384 + 1) 0 (ao (aJ [T] 0 0) 3) [([97], dI a), ([98], dI b)] (2 + 1) = _
  rw [nz h2, wR h4, h3]
  have v1 : evG [T] (16383 + 1) 0 (ao (ao (aJ [T] 0 0) 3) 0) [([97], dI a), ([98], dI b)] (1 + 1) = (dI a, 0, 1) := by rw [mr h5, h6]; simp [ey]
  have v2 : evG [T] (16383 + 1) 0 (ao (ao (aJ [T] 0 0) 3) 1) [([97], dI a), ([98], dI b)] (0 + 1) = (dI b, 0, 0) := by rw [mr h7, h8]; simp [ey]
  have hL : evL (fun k r => evG [T] 16384 0 k [([97], dI a), ([98], dI b)] r) [ao (ao (aJ [T] 0 0) 3) 0, ao (ao (aJ [T] 0 0) 3) 1] 2 = ([dI a, dI b], 0, 0) := by
   simp only [evL, a1, a2]
   rw [show evG [T] 16384 0 (ao (ao (aJ [T] 0 0) 3) 0) [([97], dI a), ([98], dI b)] 2 = (dI a, 0, 1) from v1]
   simp only [if_true]
   rw [show evG [T] 16384 0 (ao (ao (aJ [T] 0 0) 3) 1) [([97], dI a), ([98], dI b)] 1 = (dI b, 0, 0) from v2]
   simp
  rw [hL]
  simp
 rw [bu, if_pos ⟨h1, by decide, by decide, hv⟩, hev]
 simp
def wx : List UInt8 := [109, 111, 100, 117, 108, 101, 32, 77, 32, 100, 101, 102, 32, 102, 40, 97, 58, 32, 73, 110, 116, 44, 32, 98, 58, 32, 73, 110, 116, 41, 58, 32, 73, 110, 116, 32, 61, 32, 97, 32, 43, 32, 98]
def tr : Tree := (iY wx).1
theorem xX : dV tr (iJ jK 5000 27 [.str wx]) = true := by kernel_rfl
theorem yb : opT tr [43] = true := by decide +kernel
def vu : List UInt8 := [109, 111, 100, 117, 108, 101, 32, 77, 32, 100, 101, 102, 32, 102, 40, 97, 58, 32, 73, 110, 116, 44, 32, 98, 58, 32, 73, 110, 116, 41, 58, 32, 73, 110, 116, 32, 61, 32, 97, 32, 45, 32, 98]
def sL : Tree := (iY vu).1
theorem xU : dV sL (iJ jK 5000 27 [.str vu]) = true := by kernel_rfl
theorem ya : opT sL [45] = true := by decide +kernel
def vI : List UInt8 := [109, 111, 100, 117, 108, 101, 32, 77, 32, 100, 101, 102, 32, 102, 40, 97, 58, 32, 73, 110, 116, 44, 32, 98, 58, 32, 73, 110, 116, 41, 58, 32, 73, 110, 116, 32, 61, 32, 97, 32, 42, 32, 98]
def sO : Tree := (iY vI).1
theorem xT : dV sO (iJ jK 5000 27 [.str vI]) = true := by kernel_rfl
theorem xw : opT sO [42] = true := by decide +kernel
def vO : List UInt8 := [109, 111, 100, 117, 108, 101, 32, 77, 32, 100, 101, 102, 32, 102, 40, 97, 58, 32, 73, 110, 116, 44, 32, 98, 58, 32, 73, 110, 116, 41, 58, 32, 73, 110, 116, 32, 61, 32, 97, 32, 60, 32, 98]
def tH : Tree := (iY vO).1
theorem yd : dV tH (iJ jK 5000 27 [.str vO]) = true := by kernel_rfl
theorem xt : opT tH [60] = true := by decide +kernel
def vi : List UInt8 := [109, 111, 100, 117, 108, 101, 32, 77, 32, 100, 101, 102, 32, 102, 40, 97, 58, 32, 73, 110, 116, 44, 32, 98, 58, 32, 73, 110, 116, 41, 58, 32, 73, 110, 116, 32, 61, 32, 97, 32, 61, 61, 32, 98]
def tJ : Tree := (iY vi).1
theorem xZ : dV tJ (iJ jK 5000 27 [.str vi]) = true := by kernel_rfl
theorem xW : opT tJ [61, 61] = true := by decide +kernel
theorem kr {T : Tree} {op : List UInt8} (h : opT T op = true) (a b : Int) {d : GDatum} (hb : bd op (dI a) (dI b) = (d, 0)) : bT [T] 0 0 [dI a, dI b] 3 d 3 0 := by
 obtain ⟨h1, h2⟩ := op9 h a b
 have := qT h2 0 0 [dI a, dI b] (by simp) 3
 rw [h1, hb] at this
 exact this
theorem jb {op : List UInt8} {a b : Int} : bd op (dI a) (dI b) = (if op = [61, 61] then (dB (sameD (dI a) (dI b)), 0) else if op = [43] then (dI (IntKind.i64.wrap (a + b)), 0) else if op = [45] then (dI (IntKind.i64.wrap (a - b)), 0) else if op = [42] then (dI (IntKind.i64.wrap (a * b)), 0) else (dB (decide (a < b)), 0)) := by
 rw [bd]
 split
 ·rw [if_pos (show (dI a).Kind = (dI b).Kind from rfl)]
 ·rw [if_neg (fun h => absurd h.2.1 (by show ¬ (1 : Int) = 2; decide)), if_neg (fun h => h ⟨rfl, rfl⟩)]; rfl
theorem tE (a b : Int) : sameD (dI a) (dI b) = decide (a = b) := by
 by_cases h : a = b
 ·subst h; rw [dQ, decide_eq_true rfl]
 ·rw [decide_eq_false h]; simp [dI, sameD, h]
theorem rj (a : Int) : nD (dI a) ≤ 1000000000 := by simp [nD, nDs, dI]
theorem tM (a : Bool) : nD (dB a) ≤ 1000000000 := by simp [nD, nDs, dB]
theorem mC (a b : Int) (i j : Nat) (hi : (i : Int) = if decide (a = b) = true then 1 else 0) (hj : (j : Int) = if decide (a < b) = true then 1 else 0) : aR 11 a b (dI (IntKind.i64.wrap (a + b))) (dI (IntKind.i64.wrap (a - b))) (dI (IntKind.i64.wrap (a * b))) i j true := by
 have b0 : bd [43] (dI a) (dI b) = (dI (IntKind.i64.wrap (a + b)), 0) := by rw [jb, if_neg (by decide), if_pos rfl]
 have b1 : bd [45] (dI a) (dI b) = (dI (IntKind.i64.wrap (a - b)), 0) := by rw [jb, if_neg (by decide), if_neg (by decide), if_pos rfl]
 have b2 : bd [42] (dI a) (dI b) = (dI (IntKind.i64.wrap (a * b)), 0) := by rw [jb, if_neg (by decide), if_neg (by decide), if_neg (by decide), if_pos rfl]
 have b3 : bd [60] (dI a) (dI b) = (dB (decide (a < b)), 0) := by rw [jb, if_neg (by decide), if_neg (by decide), if_neg (by decide), if_neg (by decide)]
 have b4 : bd [61, 61] (dI a) (dI b) = (dB (decide (a = b)), 0) := by rw [jb, if_pos rfl, tE]
 have w3 : dB (decide (a < b)) = GDatum.mk 3 ((j : Nat) : Int) [] [] := by rw [hj]; rfl
 have w4 : dB (decide (a = b)) = GDatum.mk 3 ((i : Nat) : Int) [] [] := by rw [hi]; rfl
 have s0 : aP (dI (IntKind.i64.wrap (a + b))) (dI (IntKind.i64.wrap (a + b))) true := dQ (dI (IntKind.i64.wrap (a + b))) ▸ io _ (rj _) _
 have s1 : aP (dI (IntKind.i64.wrap (a - b))) (dI (IntKind.i64.wrap (a - b))) true := dQ (dI (IntKind.i64.wrap (a - b))) ▸ io _ (rj _) _
 have s2 : aP (dI (IntKind.i64.wrap (a * b))) (dI (IntKind.i64.wrap (a * b))) true := dQ (dI (IntKind.i64.wrap (a * b))) ▸ io _ (rj _) _
 have s3 : aP (dB (decide (a < b))) (GDatum.mk 3 ((j : Nat) : Int) [] []) true := by have := io _ (tM (decide (a < b))) (dB (decide (a < b))); rw [dQ] at this; rw [← w3]; exact this
 have s4 : aP (dB (decide (a = b))) (GDatum.mk 3 ((i : Nat) : Int) [] []) true := by have := io _ (tM (decide (a = b))) (dB (decide (a = b))); rw [dQ] at this; rw [← w4]; exact this
 exact gE 10 _ _ _ _ _ _ _ _ ⟨by decide, by decide, tr, 0, 0, gX xX, _, bl a, _, bl b, _, _, _, kr yb a b b0, gz 9 _ _ _ _ _ _ _ _ _ _ _ _ ⟨fun h => absurd rfl h, fun _ => ⟨fun h => absurd rfl h, fun _ => ⟨fun h => absurd rfl h, fun _ => ⟨_, s0, fun h => (by cases h), fun _ => gL 8 _ _ _ _ _ _ _ _ ⟨by decide, by decide, sL, 0, 0, gX xU, _, bl a, _, bl b, _, _, _, kr ya a b b1, gO 7 _ _ _ _ _ _ _ _ _ _ _ _ ⟨fun h => absurd rfl h, fun _ => ⟨fun h => absurd rfl h, fun _ => ⟨fun h => absurd rfl h, fun _ => ⟨_, s1, fun h => (by cases h), fun _ => gP 6 _ _ _ _ _ _ _ _ ⟨by decide, by decide, sO, 0, 0, gX xT, _, bl a, _, bl b, _, _, _, kr xw a b b2, gQ 5 _ _ _ _ _ _ _ _ _ _ _ _ ⟨fun h => absurd rfl h, fun _ => ⟨fun h => absurd rfl h, fun _ => ⟨fun h => absurd rfl h, fun _ => ⟨_, s2, fun h => (by cases h), fun _ => gM 4 _ _ _ _ _ _ _ _ ⟨by decide, by decide, tH, 0, 0, gX yd, _, bl a, _, bl b, _, _, _, kr xt a b b3, gH 3 _ _ _ _ _ _ _ _ _ _ _ _ ⟨fun h => absurd rfl h, fun _ => ⟨fun h => absurd rfl h, fun _ => ⟨fun h => absurd rfl h, fun _ => ⟨_, s3, fun h => (by cases h), fun _ => gG 2 _ _ _ _ _ _ _ _ ⟨by decide, by decide, tJ, 0, 0, gX xZ, _, bl a, _, bl b, _, _, _, kr xW a b b4, gy 1 _ _ _ _ _ _ _ _ _ _ _ _ ⟨fun h => absurd rfl h, fun _ => ⟨fun h => absurd rfl h, fun _ => ⟨fun h => absurd rfl h, fun _ => ⟨_, s4, fun h => (by cases h), fun _ => gu 0 _ _ _ _ _ _ _ _ ⟨_, aw9, rfl⟩⟩⟩⟩⟩⟩⟩⟩⟩⟩⟩⟩⟩⟩⟩⟩⟩⟩⟩⟩⟩⟩⟩⟩⟩⟩
theorem wF (a b : Int) : dX a b true := by
 refine hD 11 _ _ _ ⟨_, bl _, _, bl _, _, bl _, fun h => ⟨fun h' => by omega, fun h' => ?_⟩, fun h => ⟨fun h' => ?_, fun h' => ?_⟩⟩
 ·exact mC a b 0 1 (by rw [decide_eq_false h']; rfl) (by rw [decide_eq_true h]; rfl)
 ·exact mC a b 1 0 (by rw [decide_eq_true h']; rfl) (by rw [decide_eq_false h]; rfl)
 ·exact mC a b 0 0 (by rw [decide_eq_false h']; rfl) (by rw [decide_eq_false h]; rfl)
end Go.Proofs.YthnohcipianijaaGreatDoor
namespace Go.Proofs.YthnohcipianijaaGreatDoor
open Go.RowKit Lx Sx
abbrev kM (W : World) : Nat → Prop := fun b => b < W.heap.size
abbrev VLive (W : World) (v : V) (x : Value) : Prop := VRel (kM W) W (fun _ => none) v x
theorem yf {W : World} (z : Int) : VLive W (.int .i64 z) (.int .i64 z) := by simp only [VLive, VRel]
theorem ye {fid : FuncId} {us : List V} {b : Bool} (h : jD Tryz.prog fid us (.bool b)) {W : World} {xs : List Value} (hx : LRel (kM W) W (fun _ => none) us xs) : Calls Tryz.prog fid xs.toArray W fun e W' => e = .returned (.bool b) ∧ Ext W W' := by
 have h0 := tL W
 have hr' : HRel (kM W) W (fun _ => none) (⟨0, []⟩ : Hp).get := ⟨h0.ob, fun i b hb => by rw [iK] at hb; exact hb.elim, fun i j b hb _ => by rw [iK] at hb; exact hb.elim, fun _ h => h⟩
 refine (h.2.2 _ W _ xs hr' hx).mono ?_
 rintro e W' ⟨x, S', ρ', v, H', rfl, rfl, h1, h2, h3⟩
 simp only [VRel] at h3
 subst h3
 have hno : ∀ b, ¬ ∃ id, own (fun _ => none) id ((⟨0, []⟩ : Hp).get id) b := fun b ⟨id, hb⟩ => by rw [iK] at hb; exact hb
 exact ⟨rfl, Chg.ext ⟨h2.chg.os, h2.chg.tape, h2.chg.output, h2.chg.size, fun b hb _ => h2.chg.block b hb (hno b)⟩⟩
theorem lr1 {W : World} {u : V} {x : Value} (h : VLive W u x) : LRel (kM W) W (fun _ => none) [u] [x] := ⟨x, [], rfl, h, rfl⟩
theorem lrc {W : World} {u : V} {us : List V} {x : Value} {xs : List Value} (h : VLive W u x) (k : LRel (kM W) W (fun _ => none) us xs) : LRel (kM W) W (fun _ => none) (u :: us) (x :: xs) := ⟨x, xs, rfl, h, k⟩
end Go.Proofs.YthnohcipianijaaGreatDoor
namespace Go.Proofs.YthnohcipianijaaGreatDoor
def oR (cs : Array Value) : Obj → Obj
 | .cells _ t frozen => .cells cs t frozen
 | o => o
noncomputable def vp : Nat := (World.holding Tryz.prog default ⟨#[], #[], []⟩).heap.size
noncomputable def rL (os : Os) : World :=
 let w0 := World.holding Tryz.prog os ⟨#[.cells #[.string ⟨#[105, 110, 118, 97, 108, 105, 100, 32, 115, 121, 110, 116, 97, 120]⟩] 242, .cells #[.string ⟨#[118, 97, 108, 117, 101, 32, 111, 117, 116, 32, 111, 102, 32, 114, 97, 110, 103, 101]⟩] 242], #[], []⟩
 { w0 with heap := ((((w0.heap.modify 3 (oR #[.iface 240 (.pointer (some ⟨vp, 0, none⟩))])).modify 4 (oR #[.iface 240 (.pointer (some ⟨vp + 1, 0, none⟩))])).modify 6 (oR #[.int .u64 1, .int .u64 10, .int .u64 100, .int .u64 1000, .int .u64 10000, .int .u64 100000, .int .u64 1000000, .int .u64 10000000, .int .u64 100000000, .int .u64 1000000000, .int .u64 10000000000, .int .u64 100000000000, .int .u64 1000000000000, .int .u64 10000000000000, .int .u64 100000000000000, .int .u64 1000000000000000, .int .u64 10000000000000000, .int .u64 100000000000000000, .int .u64 1000000000000000000, .int .u64 10000000000000000000])).modify 7 (oR #[.int .u8 0, .int .u8 1, .int .u8 28, .int .u8 2, .int .u8 29, .int .u8 14, .int .u8 24, .int .u8 3, .int .u8 30, .int .u8 22, .int .u8 20, .int .u8 15, .int .u8 25, .int .u8 17, .int .u8 4, .int .u8 8, .int .u8 31, .int .u8 27, .int .u8 13, .int .u8 23, .int .u8 21, .int .u8 19, .int .u8 16, .int .u8 7, .int .u8 26, .int .u8 12, .int .u8 18, .int .u8 6, .int .u8 11, .int .u8 5, .int .u8 10, .int .u8 9])).modify 8 (oR #[.int .u8 0, .int .u8 1, .int .u8 56, .int .u8 2, .int .u8 57, .int .u8 49, .int .u8 28, .int .u8 3, .int .u8 61, .int .u8 58, .int .u8 42, .int .u8 50, .int .u8 38, .int .u8 29, .int .u8 17, .int .u8 4, .int .u8 62, .int .u8 47, .int .u8 59, .int .u8 36, .int .u8 45, .int .u8 43, .int .u8 51, .int .u8 22, .int .u8 53, .int .u8 39, .int .u8 33, .int .u8 30, .int .u8 24, .int .u8 18, .int .u8 12, .int .u8 5, .int .u8 63, .int .u8 55, .int .u8 48, .int .u8 27, .int .u8 60, .int .u8 41, .int .u8 37, .int .u8 16, .int .u8 46, .int .u8 35, .int .u8 44, .int .u8 21, .int .u8 52, .int .u8 32, .int .u8 23, .int .u8 11, .int .u8 54, .int .u8 26, .int .u8 40, .int .u8 15, .int .u8 34, .int .u8 20, .int .u8 31, .int .u8 10, .int .u8 25, .int .u8 14, .int .u8 19, .int .u8 9, .int .u8 13, .int .u8 8, .int .u8 7, .int .u8 6]) }
theorem xx (os : Os) (args : Array Value) : laidMet Tryz.prog Rows.evalDataRow.laid ((rL os).forCall (fun _ _ => 0) ⟨#[], args, []⟩).memory :=
 laidMet_of_run' 8 (by kernel_rfl) (by kernel_rfl)
end Go.Proofs.YthnohcipianijaaGreatDoor
