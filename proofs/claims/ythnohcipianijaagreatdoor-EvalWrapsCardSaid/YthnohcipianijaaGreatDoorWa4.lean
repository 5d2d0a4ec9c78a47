/- Contracts of the functions that the law reaches, part 4. -/
import Derived.Test.YthnohcipianijaaGreatDoorWa3
set_option linter.unusedVariables false
set_option linter.unusedSimpArgs false
namespace Go.Proofs.YthnohcipianijaaGreatDoor
open Go.RowKit
def bz (R : List Nat) (l : List (Nat × Ob)) : List (Nat × Ob) := l.filter fun p => dh p.1 R
def ung : Ob → Ob
 | .free => .gone
 | o => o
def bN (nx : Nat) (R : List Nat) (l : List (Nat × Ob)) : List (Nat × Ob) := (l.filter fun p => !dh p.1 R && Nat.blt p.1 nx).map fun p => (p.1, ung p.2)
theorem jN {α : Type} {R : List Nat} : ∀ (l : List (Nat × Ob)) (c : List (Nat × Ob) → α), kK R l c = c (bz R l)
 | [], c => rfl
 | (i, o) :: r, c => by
  simp only [kK]
  cases h : dh i R
  ·simp only; rw [jN r]; simp [bz, h]
  ·simp only; rw [jN r]; simp [bz, h]
theorem jA {α : Type} {nx : Nat} {R : List Nat} : ∀ (l : List (Nat × Ob)) (c : List (Nat × Ob) → α), jH nx R l c = c (bN nx R l)
 | [], c => rfl
 | (i, o) :: r, c => by
  simp only [jH]
  cases h : (!dh i R && Nat.blt i nx)
  ·simp only; rw [jA r]; simp only [bN, List.filter_cons, h]; rfl
  ·cases o <;> (simp only; rw [jA r]; simp only [bN, List.filter_cons, h]; rfl)
theorem iw {R : List Nat} {i : Nat} : ∀ {l : List (Nat × Ob)}, an (bz R l) i = an l i ∨ (dh i R = false ∧ an (bz R l) i = .gone)
 | [] => .inl rfl
 | (j, o) :: r => by
  by_cases hj : j = i
  ·subst hj
   cases h : dh j R
   ·right
    refine ⟨rfl, ?_⟩
    have ih := iw (R := R) (i := j) (l := r)
    simp only [bz, List.filter_cons, h] at ih ⊢
    simp only [Bool.false_eq_true, if_false]
    clear ih
    have key : ∀ (l : List (Nat × Ob)), an (l.filter fun p => dh p.1 R) j = .gone := by
     intro l
     induction l with
     | nil => rfl
     | cons q t ih =>
      obtain ⟨k, o'⟩ := q
      simp only [List.filter_cons]
      split
      ·rename_i hk
       have : k ≠ j := fun e => by subst e; simp [h] at hk
       simp only [an, nbF this]; exact ih
      ·exact ih
    exact key r
   ·left
    simp only [bz, List.filter_cons, h, if_true, an, nbT]
  ·have ih := iw (R := R) (i := i) (l := r)
   simp only [bz, List.filter_cons]
   split
   ·simp only [an, nbF hj]; exact ih
   ·simp only [an, nbF hj]; exact ih
theorem nt {R : List Nat} {i : Nat} (h : dh i R = false) (l : List (Nat × Ob)) : an (bz R l) i = .gone := by
 induction l with
 | nil => rfl
 | cons q t ih =>
  obtain ⟨k, o'⟩ := q
  simp only [bz, List.filter_cons]
  split
  ·rename_i hk
   have : k ≠ i := fun e => by subst e; simp [h] at hk
   simp only [an, nbF this]; exact ih
  ·exact ih
theorem rI {nx : Nat} {R : List Nat} {i : Nat} (l : List (Nat × Ob)) : an (bN nx R l) i = if (!dh i R && Nat.blt i nx) = true then ung (an l i) else .gone := by
 induction l with
 | nil => simp [bN, an, ung]
 | cons q t ih =>
  obtain ⟨k, o⟩ := q
  by_cases hk : k = i
  ·subst hk
   cases h : (!dh k R && Nat.blt k nx)
   ·rw [h] at ih
    simp only [bN, List.filter_cons, h, Bool.false_eq_true, if_false] at ih ⊢
    exact ih
   ·simp only [bN, List.filter_cons, h, if_true, List.map_cons, an, nbT]
  ·have e : an ((k, o) :: t) i = an t i := by simp only [an, nbF hk]
   rw [e, ← ih]
   simp only [bN, List.filter_cons]
   split
   ·simp only [List.map_cons, an, nbF hk]
   ·rfl
section
variable {P : Program} {T : Tab} {K : Ctx} {Q : Exit → Act → World → Prop} {s : List EI} {n : Nat} {F : Fm} {H : Hp}
theorem pH (lo : Nat) (H : Hp) (v : V) : ∃ v' H', (∀ (α : Type) (c : V → Hp → α), qj lo H v c = c v' H') ∧ H'.nx = H.nx ∧ (∀ K S w ρ x, HRel S w ρ H.get → Inv K S w ρ H.get → VRel S w ρ v x → ∃ S', HRel S' w ρ H'.get ∧ Inv K S' w ρ H'.get ∧ Up S S' w w ρ ρ ∧ VRel S' w ρ v' x) := by
 have triv : ∃ v' H', (∀ (α : Type) (c : V → Hp → α), c v H = c v' H') ∧ H'.nx = H.nx ∧ (∀ K S w ρ x, HRel S w ρ H.get → Inv K S w ρ H.get → VRel S w ρ v x → ∃ S', HRel S' w ρ H'.get ∧ Inv K S' w ρ H'.get ∧ Up S S' w w ρ ρ ∧ VRel S' w ρ v' x) := ⟨v, H, fun _ _ => rfl, rfl, fun K S w ρ x h1 h2 h3 => ⟨S, h1, h2, Up.refl, h3⟩⟩
 cases v with
 | sl id =>
  simp only [qj]
  split
  ·split
   ·rename_i e sz els ho
    split
    ·rename_i hpu
     refine ⟨.row sz els, ⟨H.nx, gg id H.es⟩, fun α c => by rw [kP], rfl, fun K S w ρ x hr hi hx => ?_⟩
     have hg : (⟨H.nx, gg id H.es⟩ : Hp).get = be H.get id .gone := by
      funext i
      unfold Hp.get
      by_cases hii : i = id
      ·subst hii
       rw [aK]
       simp only []
       have hlt : Nat.blt i H.nx = true := by
        unfold Hp.get at ho
        split at ho
        ·assumption
        ·cases ho
       rw [hlt]
       simp only [fY, if_true]
      ·rw [aV _ _ hii]
       simp only [fY, if_neg hii]
     refine ⟨_, by rw [hg]; exact (cC hr).1, by rw [hg]; exact hi.frz hr id, (cC hr).2, ml hr ho hpu hx⟩
    ·exact triv
   ·exact triv
  ·exact triv
 | _ => exact triv
theorem pR (lo : Nat) : ∀ (vs : List V) (H : Hp), ∃ vs' H', (∀ (α : Type) (c : List V → Hp → α), qL lo H vs c = c vs' H') ∧ H'.nx = H.nx ∧ (∀ K S w ρ xs, HRel S w ρ H.get → Inv K S w ρ H.get → LRel S w ρ vs xs → ∃ S', HRel S' w ρ H'.get ∧ Inv K S' w ρ H'.get ∧ Up S S' w w ρ ρ ∧ LRel S' w ρ vs' xs)
 | [], H => ⟨[], H, fun _ _ => rfl, rfl, fun K S w ρ x h1 h2 h3 => ⟨S, h1, h2, Up.refl, h3⟩⟩
 | v :: r, H => by
  obtain ⟨v', H1, e1, n1, k1⟩ := pH lo H v
  obtain ⟨r', H2, e2, n2, k2⟩ := pR lo r H1
  refine ⟨v' :: r', H2, fun α c => by simp only [qL, e1, e2], n2.trans n1, fun K S w ρ xs hr hi hx => ?_⟩
  simp only [LRel] at hx
  obtain ⟨x, ys, rfl, h1, h2⟩ := hx
  obtain ⟨S1, a1, a2, a3, a4⟩ := k1 K S w ρ x hr hi h1
  obtain ⟨S2, b1, b2, b3, b4⟩ := k2 K S1 w ρ ys a1 a2 (h2.up a3)
  exact ⟨S2, b1, b2, ⟨fun b hb => b3.s b (a3.s b hb), fun _ _ _ => rfl, fun _ _ h => h⟩, x, ys, rfl, a4.up b3, b4⟩
theorem uB (lo : Nat) (H : Hp) (v : V) : ∃ v' H', (∀ (α : Type) (c : V → Hp → α), sy lo H v c = c v' H') ∧ H'.nx = H.nx ∧ (∀ K S w ρ x, HRel S w ρ H.get → Inv K S w ρ H.get → VRel S w ρ v x → ∃ S', HRel S' w ρ H'.get ∧ Inv K S' w ρ H'.get ∧ Up S S' w w ρ ρ ∧ VRel S' w ρ v' x) := by
 have h0 := pH lo H v
 cases v
 case agg cs =>
  obtain ⟨vs', H', e, hn, k⟩ := pR lo cs H
  refine ⟨.agg vs', H', fun α c => by simp only [sy, e], hn, fun K S w ρ x hr hi hx => ?_⟩
  simp only [VRel] at hx
  obtain ⟨xs, rfl, h1⟩ := hx
  obtain ⟨S', a1, a2, a3, a4⟩ := k K S w ρ xs hr hi h1
  exact ⟨S', a1, a2, a3, by simp only [VRel]; exact ⟨xs, rfl, a4⟩⟩
 all_goals exact h0
theorem mK (lo : Nat) : ∀ (vs : List V) (H : Hp), ∃ vs' H', (∀ (α : Type) (c : List V → Hp → α), oU lo H vs c = c vs' H') ∧ H'.nx = H.nx ∧ (∀ K S w ρ xs, HRel S w ρ H.get → Inv K S w ρ H.get → LRel S w ρ vs xs → ∃ S', HRel S' w ρ H'.get ∧ Inv K S' w ρ H'.get ∧ Up S S' w w ρ ρ ∧ LRel S' w ρ vs' xs)
 | [], H => ⟨[], H, fun _ _ => rfl, rfl, fun K S w ρ x h1 h2 h3 => ⟨S, h1, h2, Up.refl, h3⟩⟩
 | v :: r, H => by
  obtain ⟨v', H1, e1, n1, k1⟩ := uB lo H v
  obtain ⟨r', H2, e2, n2, k2⟩ := mK lo r H1
  refine ⟨v' :: r', H2, fun α c => by simp only [oU, e1, e2], n2.trans n1, fun K S w ρ xs hr hi hx => ?_⟩
  simp only [LRel] at hx
  obtain ⟨x, ys, rfl, h1, h2⟩ := hx
  obtain ⟨S1, a1, a2, a3, a4⟩ := k1 K S w ρ x hr hi h1
  obtain ⟨S2, b1, b2, b3, b4⟩ := k2 K S1 w ρ ys a1 a2 (h2.up a3)
  exact ⟨S2, b1, b2, ⟨fun b hb => b3.s b (a3.s b hb), fun _ _ _ => rfl, fun _ _ h => h⟩, x, ys, rfl, a4.up b3, b4⟩
variable {all : Array Oper} {rest : List Oper} {o : Oper} {u : V} {H' : Hp}
theorem vU {ok : Bool} (hw : aF F all o.guard = some true) (hx : en P K o [] ok n F H u H') (k : Go P K Q (.ops all rest) s n (F.seto o.dst (some u)) H') : Go P K Q (.ops all (o :: rest)) s n F H := fun S w ρ a hr hi hF => by
 show wpList P all (bq P Q s) (o :: rest) a w
 unfold wpList
 rw [if_pos (aN hF hw)]
 exact .inl (hx S w ρ a hr hi hF _ _ fun x S' w' ρ' hr' hi' hu _ _ hv => k S' w' ρ' _ hr' hi' (aS (hF.up hu) o.dst hv))
variable {L : List Nat} {m left i : Nat} {listed : Array Bool}
theorem vk (hrd : Region.ready .any all listed = [i]) (hi : all[i]? = some o) (hw : aF F all o.guard = some true) (hx : en P K o L ((listed.setIfInBounds i true).getD m false) n F H u H') (k : Go P K Q (.drw all L m left (listed.setIfInBounds i true)) s n (F.seto o.dst (some u)) H') : Go P K Q (.drw all L m (left + 1) listed) s n F H := fun S w ρ a hr hiv hF hs => by
 refine fP (S := S) hrd ?_
 unfold wpOp
 simp only [hi]
 rw [if_pos (aN hF hw)]
 exact .inl (hx S w ρ a hr hiv hF _ _ fun x S' w' ρ' hr' hi' hu hA hL hv => dj hu hA hL (k S' w' ρ' _ hr' hi' (aS (hF.up hu) o.dst hv) hs))
def dk (P : Program) (K : Ctx) (Q : Exit → Act → World → Prop) (n : Nat) : Rs → Prop
 | .ok e F H => ∀ S w ρ a, HRel S w ρ H.get → Inv K S w ρ H.get → FRel S w ρ a n F → Q (match e with | true => .ret | false => .normal) a w
 | .pt p s F H => Go P K Q p s n F H
 | .er _ _ => False
variable {ih : EP → List EI → Fm → Hp → Rs}
theorem pG {S : Nat → Prop} {w : World} {ρ : Nat → Option Value} {x : Value} : ∀ {rs : List V}, VRel S w ρ (gb rs) x → ∃ ys, LRel S w ρ rs ys ∧ x = kg ys
 | [], hvx => by simp only [gb, VRel] at hvx; obtain ⟨ys, rfl, h1⟩ := hvx; exact ⟨ys, h1, by simp only [LRel] at h1; subst h1; rfl⟩
 | [v], hvx => ⟨[x], ⟨x, [], rfl, hvx, rfl⟩, rfl⟩
 | v :: u :: r, hvx => by
  simp only [gb, VRel] at hvx; obtain ⟨ys, rfl, h1⟩ := hvx
  refine ⟨ys, h1, ?_⟩
  simp only [LRel] at h1
  obtain ⟨_, _, rfl, _, _, _, rfl, _⟩ := h1
  rfl
theorem st (hT : TabOk P T) (IH : ∀ p s F H K Q n, dk P K Q n (ih p s F H) → Go P K Q p s n F H) {X : Rs → Prop} (hX : ∀ n m, ¬ X (.er n m)) {keep ok : Bool} {vs : List V} {fid : FuncId} {fn : Func} {b : Code} {c : V → Hp → Rs} (hf : P.funcs[fid]? = some fn) (hb : fn.body = some b) (hl : Nat.ble vs.length fn.ntmps = true)
  (h : X (qo T ih keep vs fn b H L ok c)) : ∃ u H' L', (L' = L ∨ ok = true) ∧ CallR P K fid vs H L' (fun u' H'' => u' = u ∧ H'' = H') ∧ X (c u H') := by
 unfold qo at h
 simp only [] at h
 generalize hR : gm H 40 (jv vs []) [] = R at h
 split at h
 ·rename_i hok
  rw [jN] at h
  split at h
  ·rename_i e F1 H1 hrun
   split at h
   ·rename_i rs hres
    split at h
    ·rename_i hnx
     have hnx' : H.nx ≤ H1.nx := Nat.le_of_ble_eq_true hnx
     -- the objects that the call gets
     have hin : ∀ i, (⟨H.nx, bz R H.es⟩ : Hp).get i = H.get i ∨ (⟨H.nx, bz R H.es⟩ : Hp).get i = .gone := fun i => by
      unfold Hp.get
      simp only []
      split
      ·rcases iw (R := R) (i := i) (l := H.es) with e | ⟨_, e⟩
       ·exact .inl e
       ·exact .inr e
      ·exact .inl rfl
     have hout : ∀ i, dh i R = false → Nat.blt i H.nx = true → (⟨H.nx, bz R H.es⟩ : Hp).get i = .gone := fun i hi hlt => by
      unfold Hp.get
      simp only [hlt]
      exact nt hi _
     -- the objects behind the call
     have key : ∀ (H2 : Hp) (es3 : List (Nat × Ob)), H2.nx = H1.nx → (∀ i, an es3 i = an H2.es i ∨ an es3 i = .gone) → ∀ i, ((⟨H2.nx, es3 ++ bN H.nx R H.es⟩ : Hp).get i = H2.get i ∨ (⟨H2.nx, es3 ++ bN H.nx R H.es⟩ : Hp).get i = .gone) ∨ ((⟨H2.nx, es3 ++ bN H.nx R H.es⟩ : Hp).get i = H.get i ∧ (⟨H.nx, bz R H.es⟩ : Hp).get i = .gone ∧ H.get i ≠ .free) := fun H2 es3 hn h3 i => by
      by_cases hlt2 : Nat.blt i H2.nx = true
      ·have e0 : (⟨H2.nx, es3 ++ bN H.nx R H.es⟩ : Hp).get i = an (es3 ++ bN H.nx R H.es) i := by unfold Hp.get; simp only [hlt2]
       have e2 : H2.get i = an H2.es i := by unfold Hp.get; rw [hlt2]
       rw [e0, e2]
       rcases oa es3 (bN H.nx R H.es) i with e | ⟨e', e⟩
       ·rw [e]
        rcases h3 i with h3 | h3
        ·exact .inl (.inl h3)
        ·exact .inl (.inr h3)
       ·rw [e]
        rw [rI]
        cases hm : (!dh i R && Nat.blt i H.nx)
        ·exact .inl (.inr (by simp))
        ·have hm' := hm
         simp only [Bool.and_eq_true, Bool.not_eq_true'] at hm'
         have eH : H.get i = an H.es i := by unfold Hp.get; rw [hm'.2]
         rw [if_pos rfl]
         cases hf : an H.es i
         case free => exact .inl (.inr rfl)
         all_goals exact .inr ⟨by rw [eH, hf]; rfl, hout i hm'.1 hm'.2, by rw [eH, hf]; simp⟩
      ·have e0 : (⟨H2.nx, es3 ++ bN H.nx R H.es⟩ : Hp).get i = .free := by
        unfold Hp.get; simp only [Bool.not_eq_true] at hlt2; simp only [hlt2]
       have e2 : H2.get i = .free := by unfold Hp.get; simp only [Bool.not_eq_true] at hlt2; rw [hlt2]
       exact .inl (.inl (by rw [e0, e2]))
     -- what holds behind the call
     have fin : ∀ (H2 : Hp) (es3 : List (Nat × Ob)) (rs2 : List V), H2.nx = H1.nx → (∀ i, an es3 i = an H2.es i ∨ an es3 i = .gone) →
       (∀ K S w ρ xs, HRel S w ρ H1.get → Inv K S w ρ H1.get → LRel S w ρ rs xs → ∃ S', HRel S' w ρ H2.get ∧ Inv K S' w ρ H2.get ∧ Up S S' w w ρ ρ ∧ LRel S' w ρ rs2 xs) →
       ∃ L', (L' = L ∨ ok = true) ∧ CallR P K fid vs H L' (fun u' H'' => u' = gb rs2 ∧ H'' = ⟨H2.nx, es3 ++ bN H.nx R H.es⟩) := fun H2 es3 rs2 hn h3 hfz => by
      have main : ∀ L', (∀ (S : Nat → Prop) (w : World) (ρ : Nat → Option Value), HRel S w ρ H.get → L' = [] ∨ (bg H.get L' = true ∧ ∀ id, id ∈ L' → (⟨H.nx, bz R H.es⟩ : Hp).get id = .gone)) → CallR P K fid vs H L' (fun u' H'' => u' = gb rs2 ∧ H'' = ⟨H2.nx, es3 ++ bN H.nx R H.es⟩) := fun L' hL' S w ρ xs hr hi hx => by
       have hr1 := hr.drop (h' := (⟨H.nx, bz R H.es⟩ : Hp).get) hin
       have hi1 : Inv ⟨w, S, fun b => ∃ id, own ρ id ((⟨H.nx, bz R H.es⟩ : Hp).get id) b, ρ⟩ S w ρ (⟨H.nx, bz R H.es⟩ : Hp).get := ⟨ChgP.refl _ _, fun _ h => h, fun _ h => .inl h, fun id b hb => .inl ⟨id, hb⟩, fun _ _ h => h⟩
       refine lr hf hb hl hr1 hi1 hx (IH _ _ _ _ _ _ _ ?_)
       rw [hrun]
       intro S' w' ρ' a' hr' hi' hF'
       obtain ⟨rl, hrl⟩ : ∃ l : List ResultVar, fn.results = l.toArray := ⟨fn.results.toList, by simp⟩
       rw [hrl] at hres
       refine ret_go hT (rs := rl) (by cases e <;> simp) hrl hr' hF' (by simpa using hres) fun x hvx => ?_
       have hLR := pG hvx
       obtain ⟨ys, hys, rfl⟩ := hLR
       obtain ⟨S2, a1, a2, a3, a4⟩ := hfz _ S' w' ρ' ys hr' hi' hys
       obtain ⟨m1, m2, m3, m4⟩ := oG (h1 := (⟨H.nx, bz R H.es⟩ : Hp).get) (h2 := (⟨H2.nx, es3 ++ bN H.nx R H.es⟩ : Hp).get) hr hi hin a1 a2 (key H2 es3 hn h3)
       refine ⟨_, S2, ρ', _, _, rfl, ⟨rfl, rfl⟩, m1, m2, m3, pB a4, ?_⟩
       rcases hL' S w ρ hr with rfl | ⟨g1, g2⟩
       ·intro id hid; simp at hid
       ·exact m4 L' g1 g2
      rcases kH hok with hok | hok
      ·simp only [Bool.and_eq_true] at hok
       refine ⟨L, .inl rfl, main L fun S w ρ hr => .inr ⟨hok.1, fun id hid => ?_⟩⟩
       have hmem := List.all_eq_true.1 hok.2 id hid
       simp only [Bool.not_eq_true'] at hmem
       by_cases hlt : Nat.blt id H.nx = true
       ·exact hout id hmem hlt
       ·exfalso
        have hfree : H.get id = .free := by unfold Hp.get; simp only [Bool.not_eq_true] at hlt; rw [hlt]
        have hnl : ∀ (l : List Nat), id ∈ l → bg H.get l = true → False := by
         intro l
         induction l with
         | nil => intro h; simp at h
         | cons j t ih =>
          intro hm hl
          simp only [bg] at hl
          rcases List.mem_cons.1 hm with e | e
          ·subst e; rw [hfree] at hl; cases hl
          ·split at hl
           ·exact ih e hl
           ·exact ih e hl
           ·cases hl
        exact hnl L hid hok.1
      ·exact ⟨[], .inr hok, main [] fun _ _ _ _ => .inl rfl⟩
     split at h
     ·rw [jA] at h
      obtain ⟨L', g1, g2⟩ := fin H1 H1.es rs rfl (fun i => .inl rfl) (fun K S w ρ xs h1 h2 h3 => ⟨S, h1, h2, Up.refl, h3⟩)
      exact ⟨_, _, L', g1, g2, h⟩
     ·obtain ⟨rs2, H2, e1, e2, e3⟩ := mK H.nx rs H1
      rw [e1] at h
      rw [jN, jA] at h
      obtain ⟨L', g1, g2⟩ := fin H2 (bz _ H2.es) rs2 e2 (fun i => by
       rcases iw (R := gm H2 60 (jv rs2 R) []) (i := i) (l := H2.es) with e | ⟨_, e⟩
       ·exact .inl e
       ·exact .inr e) e3
      exact ⟨_, _, L', g1, g2, h⟩
    ·exact absurd h (hX _ _)
   ·exact absurd h (hX _ _)
  ·exact absurd h (hX _ _)
  ·exact absurd h (hX _ _)
 ·exact absurd h (hX _ _)
theorem ii (hT : TabOk P T) (IH : ∀ p s F H K Q n, dk P K Q n (ih p s F H) → Go P K Q p s n F H) {X : Rs → Prop} (hX : ∀ n m, ¬ X (.er n m)) {ok : Bool} {c : Option V → Hp → Rs} (h : X (jy T ih F H L ok o c)) : ∃ u H', en P K o L ok n F H u H' ∧ X (c (some u) H') := by
 unfold jy at h
 split at h
 ·rename_i v hv
  exact ⟨v, H, rK hT hv, h⟩
 ·rw [bn] at h
  split at h
  ·rename_i v ed hv
   split at h
   ·rename_i hc
    rw [Hp.ap_eq] at h
    refine ⟨_, _, ac hT hv hc, ?_⟩
    cases v with
    | none => exact h
    | some v => exact h
   ·exact absurd h (hX _ _)
  ·split at h
   ·rename_i fid args tys hop
    split at h
    ·rename_i vs hvs
     split at h
     ·rename_i v hn
      obtain ⟨he, hnat⟩ := hT.nat _ _ _ hn
      refine ⟨v, H, ak (L' := L) he (by rw [hop]) hvs (fun S w ρ xs hr hi hx => ?_) (.inl rfl), h⟩
      obtain ⟨x, h1, h2⟩ := hnat S w ρ xs hx
      refine h2.mono fun e w' hR => ?_
      obtain ⟨rfl, rfl⟩ := hR
      exact ⟨x, S, ρ, v, H, rfl, ⟨rfl, rfl⟩, hr, hi, Up.refl, h1, fT⟩
     ·split at h
      ·rename_i fn hfn
       obtain ⟨hf, he⟩ := hT.fn _ _ hfn
       split at h
       ·rename_i b hb
        split at h
        ·rename_i hl
         obtain ⟨u, H', L', g1, g2, g3⟩ := st (K := K) hT IH hX hf hb hl h
         exact ⟨u, H', ak he (by rw [hop]) hvs g2 g1, g3⟩
        ·exact absurd h (hX _ _)
       ·exact absurd h (hX _ _)
      ·exact absurd h (hX _ _)
    ·exact absurd h (hX _ _)
   ·exact absurd h (hX _ _)
theorem sb {l : List Nat} {j : Nat} (h : oy l j = true) : l = [j] := by
 unfold oy at h
 split at h
 ·rw [Nat.eq_of_beq_eq_true h]
 ·cases h
theorem pf (hT : TabOk P T) (IH : ∀ p s F H K Q n, dk P K Q n (ih p s F H) → Go P K Q p s n F H) {i : Nat} {ps : List (Nat × Operand)} {vs : List (Nat × V)} {v : V} (hp : iG T all i vs = some (o, ps, v)) : ∀ (left : Nat) (listed : Array Bool) (F : Fm) (H : Hp), dk P K Q n (nE T ih all L m i o ps v s left listed F H) → GoP P K Q all L m left listed s n F H i o ps vs v
 | left, listed, F, H, h => by
  unfold nE at h
  split at h
  ·rename_i hl
   split at h
   ·rename_i x hrd
    split at h
    ·rename_i hb
     have := Nat.eq_of_beq_eq_true hb
     subst this
     rw [Fm.puto_eq] at h
     exact ug hT hp hrd hl (IH _ _ _ _ _ _ _ h)
    ·exact h.elim
   ·rename_i x y hrd
    cases left with
    | zero => exact h.elim
    | succ left =>
     simp only [bn] at h
     generalize hj : qQ x y i = j at h
     unfold qQ at hj
     split at h
     ·exact h.elim
     ·rename_i hji
      have hne : j ≠ i := Nat.ne_of_beq_eq_false hji
      split at h
      ·rename_i oj hoj
       split at h
       ·rename_i hc
        simp only [Bool.and_eq_true] at hc
        obtain ⟨⟨⟨hc1, hc2⟩, hc3⟩, hc4⟩ := hc
        split at h
        ·rename_i hw
         obtain ⟨u, H', hx, hk⟩ := ii (K := K) (n := n) hT IH (X := dk P K Q n) (fun _ _ h => h) h
         rw [Fm.puto_eq] at hk
         have ih2 := pf hT IH hp left _ _ _ hk
         have hpair : (match Region.ready .any all listed with | [x, y] => (Nat.beq x i && Nat.beq y j) || (Nat.beq x j && Nat.beq y i) | _ => false) = true := by
          rw [hrd]
          simp only []
          cases hx1 : Nat.beq x i
          ·rw [hx1] at hj
           cases hy1 : Nat.beq y i
           ·rw [hy1] at hj; exact absurd hj.symm hne
           ·rw [hy1] at hj; simp only at hj; subst hj; simp
          ·rw [hx1] at hj; simp only at hj; subst hj; simp
         refine ss hT hp hoj hpair (sb hc1) hl (fun t ht => ?_) hc2 hc3 (Array.setIfInBounds_comm _ _ (Ne.symm hne)) (Post := fun u' H'' => u' = u ∧ H'' = H') (fun S w ρ a hr hi hF K2 hK2 => ?_) (fun u' H'' hP => by obtain ⟨rfl, rfl⟩ := hP; exact ih2)
         ·rw [ht] at hc4
          simp only [Option.isNone_iff_eq_none] at hc4
          exact hc4
         ·unfold wpOp
          simp only [hoj]
          rw [if_pos (aN hF hw)]
          refine .inl (hx S w ρ a hr hi hF _ _ fun x S' w' ρ' hr' hi' hu hA hL hv => hK2 x S' w' ρ' u H' ⟨rfl, rfl⟩ hr' hi' hu hA (hL.imp id fun h => ?_) hv)
          simpa only [Bool.and_eq_true] using h
        ·exact h.elim
       ·exact h.elim
      ·exact h.elim
   ·exact h.elim
  ·exact h.elim
theorem ub (hT : TabOk P T) (IH : ∀ p s F H K Q n, dk P K Q n (ih p s F H) → Go P K Q p s n F H) {i j : Nat} {left : Nat} {listed : Array Bool} (hrd : Region.ready .any all listed = [i, j]) (h : dk P K Q n (tu T ih all L m left i j listed s F H)) : Go P K Q (.drw all L m (left + 1) listed) s n F H := by
 unfold tu at h
 split at h
 ·rename_i oi hoi
  split at h
  ·rename_i oj hoj
   split at h
   ·rename_i hwi
    split at h
    ·rename_i hwj
     obtain ⟨ui, Hi, xi, hk⟩ := ii (K := K) (n := n) hT IH (X := dk P K Q n) (fun _ _ h => h) h
     rw [Fm.puto_eq] at hk
     split at hk
     ·rename_i F1 H1 e1
      obtain ⟨uj, Hj, xj, hk2⟩ := ii (K := K) (n := n) hT IH (X := dk P K Q n) (fun _ _ h => h) hk
      rw [Fm.puto_eq] at hk2
      split at hk2
      ·rename_i F2 H2 e2
       split at hk2
       ·rename_i hal
        have c : Go P K Q (.ex .normal) s n F1 H1 := IH _ _ _ _ _ _ _ hk2
        intro S w ρ a hr hi hF
        have hpin : ∀ id x, K.pin id = some x → id < H.nx := fun id x hx => Decidable.byContradiction fun hn => by
         have h1 := hi.pin id x hx
         have h2 := hr.ob id
         have h3 : H.get id = .free := by
          unfold Hp.get
          have : Nat.blt id H.nx = false := by
           cases hb : Nat.blt id H.nx
           ·rfl
           ·exact absurd (by simpa [Nat.blt_eq] using hb) hn
          simp only [this]
         rw [h3] at h2
         have h4 : ρ id = none := h2
         rw [h4] at h1; cases h1
        have g1 : Go P K (bq P Q s) (.drw all L m left (listed.setIfInBounds i true)) [] n (F.seto oi.dst (some ui)) Hi := IH _ _ _ _ _ _ _ (by rw [e1]; exact fun S w ρ a hr hi hF => c S w ρ a hr hi hF)
        have g2 : Go P K (bq P Q s) (.drw all L m left (listed.setIfInBounds j true)) [] n (F.seto oj.dst (some uj)) Hj := IH _ _ _ _ _ _ _ (by rw [e2]; exact fun S w ρ a hr hi hF => go_alike hal hpin c S w ρ a hr hi hF)
        exact ah (by rw [hrd]; simp) hoi hoj hwi hwj xi xj g1 g2 S w ρ a hr hi hF
       ·exact hk2.elim
      ·exact hk2.elim
      ·exact hk2.elim
     ·exact hk.elim
     ·exact hk.elim
    ·exact h.elim
   ·exact h.elim
  ·exact h.elim
 ·exact h.elim
theorem iA : ∀ {R : List Nat} {i : Nat} {ps : List (Nat × Operand)} {v : V}, jn T F all R = some (i, o, ps, v) → ∃ vs, eg F ps = some vs ∧ iG T all i vs = some (o, ps, v)
 | [], _, _, _, h => by cases h
 | j :: r, i, ps, v, h => by
  unfold jn at h
  split at h
  ·rename_i hj
   split at h
   ·rename_i vs hvs
    split at h
    ·rename_i o' ps' v' hpb
     simp only [Option.some.injEq, Prod.mk.injEq] at h
     obtain ⟨rfl, rfl, rfl, rfl⟩ := h
     refine ⟨vs, ?_, hpb⟩
     have := hpb
     unfold iG at this
     rw [hj] at this
     simp only at this
     repeat' (split at this)
     all_goals first
      | (cases this; done)
      | (simp only [bn, Option.some.injEq, Prod.mk.injEq] at this; obtain ⟨_, rfl, _⟩ := this; exact hvs)
    ·exact iA h
   ·exact iA h
  ·exact iA h
theorem ud (hT : TabOk P T) (hm : P.follows .mixedOrders = true) (IH : ∀ p s F H K Q n, dk P K Q n (ih p s F H) → Go P K Q p s n F H) : ∀ (p : EP) (s : List EI) (F : Fm) (H : Hp), dk P K Q n (step T ih p s F H) → Go P K Q p s n F H
 | .code c, s, F, H, h => by
  replace h : dk P K Q n (qG T ih c s F H) := h
  unfold qG at h
  split at h
  ·exact rE (IH _ _ _ _ _ _ _ h)
  ·exact oE (IH _ _ _ _ _ _ _ h)
  ·exact qh (IH _ _ _ _ _ _ _ h)
  ·exact go_ret (IH _ _ _ _ _ _ _ h)
  ·exact pK (IH _ _ _ _ _ _ _ h)
  ·exact th (IH _ _ _ _ _ _ _ h)
  ·exact sY (IH _ _ _ _ _ _ _ h)
  ·exact go_loop 1000000 (IH _ _ _ _ _ _ _ h)
  ·split at h
   ·exact oo ‹_› (IH _ _ _ _ _ _ _ h)
   ·exact pg ‹_› (IH _ _ _ _ _ _ _ h)
   ·exact h.elim
  ·exact nk (IH _ _ _ _ _ _ _ h)
  ·split at h
   ·rename_i hs
    simp only [aW, bn] at h
    exact pS _ _ _ rfl hm hs (IH _ _ _ _ _ _ _ h)
   ·exact h.elim
  ·exact h.elim
 | .ops all rest, s, F, H, h => by
  replace h : dk P K Q n (oC T ih all rest s F H) := h
  unfold oC at h
  split at h
  ·exact sg (IH _ _ _ _ _ _ _ h)
  ·split at h
   ·rw [Fm.puto_eq] at h
    exact rv ‹_› (IH _ _ _ _ _ _ _ h)
   ·obtain ⟨u, H', hx, hk⟩ := ii (K := K) (n := n) hT IH (X := dk P K Q n) (fun _ _ h => h) h
    rw [Fm.puto_eq] at hk
    exact vU ‹_› hx (IH _ _ _ _ _ _ _ hk)
   ·exact h.elim
 | .ex e, s, F, H, h => by
  replace h : dk P K Q n (rg ih e s F H) := h
  unfold rg at h
  split at h
  ·split at h
   ·exact fun S w ρ a hr hi hF => h S w ρ a hr hi hF
   ·exact fun S w ρ a hr hi hF => h S w ρ a hr hi hF
   ·exact h.elim
  ·split at h
   ·exact px (IH _ _ _ _ _ _ _ h)
   ·exact oN (IH _ _ _ _ _ _ _ h)
   ·exact nM (IH _ _ _ _ _ _ _ h)
   ·exact h.elim
  ·split at h
   ·split at h
    ·exact h.elim
    ·exact go_xloop (IH _ _ _ _ _ _ _ h)
   ·exact go_xloopE (IH _ _ _ _ _ _ _ h)
   ·exact go_xloopR (IH _ _ _ _ _ _ _ h)
   ·exact h.elim
  ·split at h
   ·exact tx (IH _ _ _ _ _ _ _ h)
   ·exact sD (IH _ _ _ _ _ _ _ h)
   ·exact sN (IH _ _ _ _ _ _ _ h)
   ·exact h.elim
  ·split at h
   ·exact pa (IH _ _ _ _ _ _ _ h)
   ·split at h
    ·exact oh ‹_› (IH _ _ _ _ _ _ _ h)
    ·exact oW ‹_› (IH _ _ _ _ _ _ _ h)
   ·exact pc (IH _ _ _ _ _ _ _ h)
   ·exact h.elim
 | .drw all L m left listed, s, F, H, h => by
  replace h : dk P K Q n (qw T ih all L m left listed s F H) := h
  unfold qw at h
  split at h
  ·exact oI ‹_› (IH _ _ _ _ _ _ _ h)
  ·rename_i i R hrd
   cases left with
   | zero => exact h.elim
   | succ left =>
    simp only [] at h
    split at h
    ·split at h
     ·rename_i o ho
      split at h
      ·rw [Fm.puto_eq] at h
       exact go_d1S hrd ho ‹_› (IH _ _ _ _ _ _ _ h)
      ·obtain ⟨u, H', hx, hk⟩ := ii (K := K) (n := n) hT IH (X := dk P K Q n) (fun _ _ h => h) h
       rw [Fm.puto_eq] at hk
       exact vk hrd ho ‹_› hx (IH _ _ _ _ _ _ _ hk)
      ·exact h.elim
     ·exact h.elim
    ·split at h
     ·split at h
      ·rename_i o ho
       split at h
       ·rename_i hc
        simp only [Bool.and_eq_true, Bool.not_eq_true'] at hc
        obtain ⟨⟨hc1, hc2⟩, hc3⟩ := hc
        split at h
        ·rw [Fm.puto_eq] at h
         exact qI hc3 ho hc2 hc1 ‹_› (IH _ _ _ _ _ _ _ h)
        ·rename_i hw
         split at h
         ·rename_i v hv
          rw [Fm.puto_eq] at h
          exact tN hT hc3 ho hc2 hc1 hw hv (IH _ _ _ _ _ _ _ h)
         ·split at h
          ·rename_i id hid
           split at h
           ·rename_i hL
            simp only [Bool.and_eq_true, Bool.not_eq_true'] at hL
            obtain ⟨⟨hL1, hL2⟩, hL3⟩ := hL
            split at h
            ·rename_i v ed hv
             rw [Fm.puto_eq] at h
             exact tR hT hc3 hL2 hL3 ho hc2 hc1 hw hid hL1 hv (IH _ _ _ _ _ _ _ h)
            ·exact h.elim
           ·exact h.elim
          ·exact h.elim
        ·exact h.elim
       ·exact h.elim
      ·exact h.elim
     ·split at h
      ·rename_i i' o ps v hpo
       rw [Fm.puto_eq] at h
       obtain ⟨vs, g1, g2⟩ := iA hpo
       exact rP g1 (pf hT IH g2 left listed _ _ h)
      ·split at h
       ·exact ub hT IH hrd h
       ·exact h.elim
theorem rx (hT : TabOk P T) (hm : P.follows .mixedOrders = true) : ∀ (k : Nat) (p : EP) (s : List EI) (F : Fm) (H : Hp) (K : Ctx) (Q : Exit → Act → World → Prop) (n : Nat), dk P K Q n (run T k p s F H) → Go P K Q p s n F H
 | 0, p, s, F, H, K, Q, n, h => h
 | k + 1, p, s, F, H, K, Q, n, h => ud hT hm (fun p s F H K Q n h => rx hT hm k p s F H K Q n h) p s F H h
def sU (T : Tab) (k : Nat) (fid : FuncId) (vs : List V) (H : Hp) : Option (List V × Hp) := match T.fn fid with
 |some fn => match fn.body with
  |some b => match Nat.ble vs.length fn.ntmps with
   |true => match run T k (.code b) [] (eD fn.ntmps vs) H with
    |.ok _ F1 H1 => match jt T H1.get F1 fn.results.toList with
     | some rs => some (rs, H1)
     | none => none
    | _ => none
   | false => none
  | none => none
 | none => none
theorem uJ (hT : TabOk P T) (hm : P.follows .mixedOrders = true) {k : Nat} {fid : FuncId} {vs rs : List V} {H H1 : Hp} (h : sU T k fid vs H = some (rs, H1)) {S : Nat → Prop} {w : World} {ρ : Nat → Option Value} {xs : List Value} (hr : HRel S w ρ H.get) (hx : LRel S w ρ vs xs) : bI P fid = true ∧
  Calls P fid xs.toArray w fun e w' => ∃ S' ρ' ys, e = .returned (kg ys) ∧ HRel S' w' ρ' H1.get ∧ Inv ⟨w, S, fun b => ∃ id, own ρ id (H.get id) b, ρ⟩ S' w' ρ' H1.get ∧ LRel S' w' ρ' rs ys := by
 unfold sU at h
 split at h
 ·rename_i fn hfn
  obtain ⟨hf, he⟩ := hT.fn _ _ hfn
  split at h
  ·rename_i b hb
   split at h
   ·rename_i hl
    split at h
    ·rename_i e F1 H1' hrun
     split at h
     ·rename_i rs' hres
      simp only [Option.some.injEq, Prod.mk.injEq] at h
      obtain ⟨rfl, rfl⟩ := h
      refine ⟨he, ?_⟩
      have hi1 : Inv ⟨w, S, fun b => ∃ id, own ρ id (H.get id) b, ρ⟩ S w ρ H.get := ⟨ChgP.refl _ _, fun _ h => h, fun _ h => .inl h, fun id b hb => .inl ⟨id, hb⟩, fun _ _ h => h⟩
      refine lr hf hb hl hr hi1 hx (rx hT hm k _ _ _ _ _ _ _ ?_)
      rw [hrun]
      intro S' w' ρ' a' hr' hi' hF'
      obtain ⟨rl, hrl⟩ : ∃ l : List ResultVar, fn.results = l.toArray := ⟨fn.results.toList, by simp⟩
      rw [hrl] at hres
      refine ret_go hT (rs := rl) (by cases e <;> simp) hrl hr' hF' (by simpa using hres) fun x hvx => ?_
      have hLR := pG hvx
      obtain ⟨ys, hys, rfl⟩ := hLR
      exact ⟨S', ρ', ys, rfl, hr', hi', hys⟩
     ·cases h
    ·cases h
   ·cases h
  ·cases h
 ·cases h
end
end Go.Proofs.YthnohcipianijaaGreatDoor
namespace Go.Proofs.YthnohcipianijaaGreatDoor
open Go.RowKit Lx Sx
set_option maxRecDepth 100000
def nv : List (List UInt8) → List V → Bool
 | [], [] => true
 | s :: r, .str l :: q => lEq s l && nv r q
 | _, _ => false
def oD (ls : List (List UInt8)) : V → Bool
 | .nils => ls.isEmpty
 | .row sz els => Nat.beq sz 1 && nv ls els
 | _ => false
mutual
def treeB : Tree → V → Bool
 |.node k s ls ks, v => match v with
  |.agg [.int .i64 k', .str s', l, r] => iEq k k' && lEq s s' && oD ls l && (match r with
   | .nils => ks.isEmpty
   | .row sz els => Nat.beq sz 4 && kidsB ks els
   | _ => false)
  | _ => false
def kidsB : List Tree → List V → Bool
 |[], vs => match vs with
  | [] => true
  | _ => false
 |t :: r, vs => match vs with
  | v :: q => treeB t v && kidsB r q
  | [] => false
end
section
variable {S : Nat → Prop} {w : World}
theorem oH {ρ : Nat → Option Value} : ∀ {ls : List (List UInt8)} {els : List V} {xs : List Value}, nv ls els = true → CRel S w ρ 1 els xs → els.length = ls.length ∧ xs = ls.map gq
 | [], [], xs, _, hc => by simp only [CRel] at hc; subst hc; exact ⟨rfl, rfl⟩
 | s :: r, v :: q, xs, hb, hc => by
  cases v <;> simp only [nv] at hb <;> first | (cases hb; done) | skip
  rename_i l
  simp only [Bool.and_eq_true] at hb
  have hl := hb.1
  rw [jf] at hl
  simp only [beq_iff_eq] at hl
  subst hl
  simp only [CRel] at hc
  obtain ⟨x, ys, rfl, _, h3, h4⟩ := hc
  simp only [VRel] at h3
  subst h3
  obtain ⟨h5, h6⟩ := oH hb.2 h4
  exact ⟨by simp [h5], by simp [h6, Value.cells]⟩
 | [], _ :: _, _, hb, _ => by cases hb
 | _ :: _, [], _, hb, _ => by cases hb
theorem rO {ρ : Nat → Option Value} {ls : List (List UInt8)} {v : V} {x : Value} (hb : oD ls v = true) (hx : VRel S w ρ v x) : ∃ A m, x = .slice A ls.length m ∧ ls.length ≤ m ∧ m ≤ maxLen ∧ RowIn S w 1 A ls.length (ls.map gq) := by
 cases v <;> simp only [oD] at hb <;> first | (cases hb; done) | skip
 ·simp only [List.isEmpty_iff] at hb
  subst hb
  simp only [VRel] at hx; subst hx
  exact ⟨none, 0, rfl, Nat.le_refl _, by decide, RowIn.none_⟩
 ·rename_i sz els
  simp only [Bool.and_eq_true, Nat.beq_eq] at hb
  obtain ⟨rfl, hb⟩ := hb
  simp only [VRel] at hx
  obtain ⟨A, c, xs, rfl, h3, h4, h5, h6⟩ := hx
  obtain ⟨h7, rfl⟩ := oH hb h5
  rw [h7] at h3 h6 ⊢
  exact ⟨A, c, rfl, h3, h4, h6⟩
mutual
theorem treeB_ok {ρ : Nat → Option Value} : ∀ {t : Tree} {v : V} {x : Value}, treeB t v = true → VRel S w ρ v x → ∃ c, x = .agg c.toArray ∧ TreeIs S w t c
 | .node k s ls ks, v, x, hb, hx => by
  unfold treeB at hb
  split at hb
  ·rename_i k' s' l r
   simp only [Bool.and_eq_true] at hb
   obtain ⟨⟨⟨hb1, hb2⟩, hb3⟩, hb4⟩ := hb
   rw [ke] at hb1
   rw [jf] at hb2
   simp only [beq_iff_eq] at hb1 hb2
   subst hb1 hb2
   simp only [VRel] at hx
   obtain ⟨xs, rfl, hl⟩ := hx
   simp only [LRel] at hl
   obtain ⟨x0, _, rfl, h0, x1, _, rfl, h1, x2, _, rfl, h2, x3, _, rfl, h3, rfl⟩ := hl
   simp only [VRel] at h0 h1
   subst h0 h1
   obtain ⟨A, m, rfl, g1, g2, g3⟩ := rO hb3 h2
   have kk : ∃ B n, x3 = .slice B ks.length n ∧ ks.length ≤ n ∧ n ≤ maxLen ∧ ∃ cs, KidsAre S w ks cs ∧ RowIn S w 4 B ks.length cs := by
    split at hb4
    ·simp only [List.isEmpty_iff] at hb4
     subst hb4
     simp only [VRel] at h3; subst h3
     exact ⟨none, 0, rfl, Nat.le_refl _, by decide, [], by simp only [KidsAre], RowIn.none_⟩
    ·rename_i sz els
     simp only [Bool.and_eq_true, Nat.beq_eq] at hb4
     obtain ⟨rfl, hb4⟩ := hb4
     simp only [VRel] at h3
     obtain ⟨B, c, ys, rfl, q3, q4, q5, q6⟩ := h3
     obtain ⟨q7, q8⟩ := kidsB_ok hb4 q5
     rw [q7] at q3 q6 ⊢
     exact ⟨B, c, rfl, q3, q4, ys, q8, q6⟩
    ·cases hb4
   obtain ⟨B, n, rfl, k1, k2, cs, k3, k4⟩ := kk
   exact ⟨_, rfl, uA g1 g2 k1 k2 g3 k3 k4⟩
  ·cases hb
theorem kidsB_ok {ρ : Nat → Option Value} : ∀ {ts : List Tree} {vs : List V} {xs : List Value}, kidsB ts vs = true → CRel S w ρ 4 vs xs → vs.length = ts.length ∧ KidsAre S w ts xs
 | [], vs, xs, hb, hc => by
  unfold kidsB at hb
  split at hb
  ·simp only [CRel] at hc; subst hc; exact ⟨rfl, by simp only [KidsAre]⟩
  ·cases hb
 | t :: r, vs, xs, hb, hc => by
  unfold kidsB at hb
  split at hb
  ·rename_i v q
   simp only [Bool.and_eq_true] at hb
   simp only [CRel] at hc
   obtain ⟨x, ys, rfl, _, h3, h4⟩ := hc
   obtain ⟨c, rfl, hT⟩ := treeB_ok hb.1 h3
   obtain ⟨h5, h6⟩ := kidsB_ok hb.2 h4
   exact ⟨by simp [h5], by simp only [KidsAre]; exact ⟨c, ys, by simp [Value.cells], hT, h6⟩⟩
  ·cases hb
end
end
def iJ (T : Tab) (k : Nat) (fid : FuncId) (vs : List V) : Option (List V) := match sU T k fid vs ⟨0, []⟩ with
 | some (rs, H1) => oU 0 H1 rs fun rs' _ => some rs'
 | none => none
theorem iK (i : Nat) : (⟨0, []⟩ : Hp).get i = .free := by
 unfold Hp.get
 have : Nat.blt i 0 = false := by cases i <;> rfl
 simp only [this]
theorem tL (w : World) : HRel (fun _ => False) w (fun _ => none) (⟨0, []⟩ : Hp).get :=
 ⟨fun i => by rw [iK]; rfl, fun i b hb => by rw [iK] at hb; exact hb.elim, fun i j b hb _ => by rw [iK] at hb; exact hb.elim, fun _ h => h.elim⟩
theorem uQ {P : Program} {T : Tab} (hT : TabOk P T) (hm : P.follows .mixedOrders = true) {k : Nat} {fid : FuncId} {vs rs : List V} (h : iJ T k fid vs = some rs) {w : World} {xs : List Value} (hx : LRel (fun _ => False) w (fun _ => none) vs xs) :
  Calls P fid xs.toArray w fun e w' => ∃ S' ρ' ys, e = .returned (kg ys) ∧ (∀ b, S' b → w.heap.size ≤ b) ∧ Chg [] w w' ∧ LRel S' w' ρ' rs ys := by
 unfold iJ at h
 split at h
 ·rename_i rs1 H1 hrun
  obtain ⟨rs2, H2, e1, _, e3⟩ := mK 0 rs1 H1
  rw [e1] at h
  injection h with h; subst h
  have hr0 := tL w
  refine (uJ hT hm hrun hr0 hx).2.mono fun e w' hR => ?_
  obtain ⟨S', ρ', ys, rfl, hr, hi, hl⟩ := hR
  obtain ⟨S2, a1, a2, a3, a4⟩ := e3 _ S' w' ρ' ys hr hi hl
  have hno : ∀ b, ¬ ∃ id, own (fun _ => none) id ((⟨0, []⟩ : Hp).get id) b := fun b ⟨id, hb⟩ => by rw [iK] at hb; exact hb
  refine ⟨S2, ρ', ys, rfl, fun b hb => ?_, ⟨hi.chg.os, hi.chg.tape, hi.chg.output, hi.chg.size, fun b hb _ => hi.chg.block b hb (hno b)⟩, a4⟩
  rcases a2.s1 b hb with h | h | h
  ·exact h.elim
  ·exact absurd h (hno b)
  ·exact h
 ·cases h
def tf (fid : FuncId) (vs : List V) : Option V := match Nat.beq fid 121 with
 |true => match vs with
  | [.str s, .int .u8 (.ofNat c)] => qH (Lib.indexByte s c.toUInt8) fun n => some (.int .i64 n)
  | _ => none
 | false => none
noncomputable def jK : Tab := ⟨true, gj tyL, gj fnL, tf, fun f => Nat.beq f 50⟩
theorem uu : TabOk Tryz.prog jK := by
 refine ⟨rR, vQ, fun i vs v hv => ?_⟩
 replace hv : tf i vs = some v := hv
 unfold tf at hv
 split at hv
 ·rename_i hb
  have := Nat.eq_of_beq_eq_true hb
  subst this
  split at hv
  ·rename_i s c
   rw [qd] at hv
   injection hv with hv; subst hv
   refine ⟨by kernel_rfl, fun S w ρ xs hx => ?_⟩
   simp only [LRel] at hx
   obtain ⟨x0, _, rfl, h0, x1, _, rfl, h1, rfl⟩ := hx
   simp only [VRel] at h0 h1
   subst h0 h1
   exact ⟨_, by simp only [VRel]; rfl, qz _ _ _⟩
  ·cases hv
 ·cases hv
def dV (t : Tree) : Option (List V) → Bool
 | some [v, .int .i64 a, .int .i64 e] => treeB t v && iEq a 0 && iEq e 0
 | _ => false
theorem ru {k : Nat} {l : List UInt8} {t : Tree} (h : dV t (iJ jK k 27 [.str l]) = true) {w : World} : Calls Tryz.prog 27 [gq l].toArray w fun e w' => ∃ c0 c1 c2 c3, e = .returned (.tuple #[.agg #[c0, c1, c2, c3], .int .i64 0, .int .i64 0]) ∧ TreeIs (fun b => w.heap.size ≤ b) w' t [c0, c1, c2, c3] ∧ Chg [] w w' := by
 unfold dV at h
 split at h
 ·rename_i v a e hr
  simp only [Bool.and_eq_true, ke, beq_iff_eq] at h
  obtain ⟨⟨h1, rfl⟩, rfl⟩ := h
  refine (uQ uu (by kernel_rfl) hr (xs := [gq l]) ⟨_, [], rfl, by simp only [VRel], rfl⟩).mono fun e w' hR => ?_
  obtain ⟨S', ρ', ys, rfl, g1, g2, g3⟩ := hR
  simp only [LRel] at g3
  obtain ⟨x0, _, rfl, h0, x1, _, rfl, h2, x2, _, rfl, h3, rfl⟩ := g3
  simp only [VRel] at h2 h3
  subst h2 h3
  obtain ⟨c, rfl, hT⟩ := treeB_ok h1 h0
  have h4 := hT.four
  match c, h4, hT with
  | [c0, c1, c2, c3], _, hT => exact ⟨c0, c1, c2, c3, rfl, hT.keep g1 (fun _ _ _ => rfl), g2⟩
 ·cases h
end Go.Proofs.YthnohcipianijaaGreatDoor
namespace Go.Proofs.YthnohcipianijaaGreatDoor
open Go.RowKit Lx Sx
section
variable {S : Nat → Prop} {w : World} {ρ : Nat → Option Value}
theorem nT : ∀ ls : List (List UInt8), CRel S w ρ 1 (ls.map .str) (ls.map gq)
 | [] => by simp [CRel]
 | s :: r => by
  simp only [List.map_cons, CRel]
  exact ⟨gq s, r.map gq, by simp [Value.cells, gq], ⟨rfl, rfl⟩, by unfold VRel; rfl, nT r⟩
mutual
theorem TreeIs.vrel : ∀ {ρ : Nat → Option Value} {t : Tree} {c : List Value}, TreeIs S w t c → LRel S w ρ (cN t) c
 | ρ, .node k s ls ks, c, h => by
  simp only [TreeIs] at h
  obtain ⟨A, m, B, n, rfl, h1, h2, h3, h4, h5, cs, h6, h7⟩ := h
  simp only [cN, Tree.kind, Tree.text, Tree.leads, Tree.kids, LRel, VRel]
  exact ⟨_, _, rfl, rfl, _, _, rfl, rfl, _, _, rfl, ⟨A, m, _, by simp, by simpa using h1, h2, nT ls, by simpa using h5⟩, _, _, rfl, ⟨B, n, cs, by simp [gk], by simpa [gk] using h3, h4, KidsAre.crel h6, by simpa [gk] using h7⟩, rfl⟩
theorem KidsAre.crel : ∀ {ρ : Nat → Option Value} {ts : List Tree} {cs : List Value}, KidsAre S w ts cs → CRel S w ρ 4 (kidsV ts) cs
 | ρ, [], cs, h => by simp only [KidsAre] at h; simp only [kidsV, CRel]; exact h
 | ρ, t :: r, cs, h => by
  simp only [KidsAre] at h
  obtain ⟨c, d, rfl, h1, h2⟩ := h
  simp only [kidsV, CRel, ju]
  exact ⟨.agg c.toArray, d, by simp [Value.cells], ⟨by simp [Value.cells, h1.four], by simpa [Value.cells] using h1.one⟩, by simp only [VRel]; exact ⟨c, rfl, h1.vrel⟩, KidsAre.crel h2⟩
end
end
theorem gX {k : Nat} {l : List UInt8} {t : Tree} (h : dV t (iJ jK k 27 [.str l]) = true) : jD Tryz.prog 27 [.str l] (.tup [.agg (cN t), .int .i64 0, .int .i64 0]) := by
 refine ⟨rfl, rfl, fun S w ρ xs hr hx => ?_⟩
 simp only [LRel, VRel] at hx
 obtain ⟨x, ys, rfl, rfl, rfl⟩ := hx
 refine (ru h (w := w)).mono ?_
 rintro e w' ⟨c0, c1, c2, c3, rfl, hT, hc⟩
 have hT' := hT.bound
 have g := hr.chg0 hc
 refine ⟨_, fun b => S b ∨ (w.heap.size ≤ b ∧ b < w'.heap.size), ρ, _, ⟨0, []⟩, rfl, rfl, ⟨fun i => ?_, fun i b hb => ?_, fun i j b hb _ => ?_, fun b hb => hb.elim (g.slt b) (·.2)⟩, ⟨ChgP.of0 hc, fun _ h => .inl h, fun b hb => hb.elim .inl fun h => .inr (.inr h.1), fun id b hb => .inl ⟨id, hb⟩, fun id x h => ?_⟩, ?_⟩
 ·have := g.ob i; rw [iK] at this ⊢; exact this
 ·rw [iK] at hb; exact hb.elim
 ·rw [iK] at hb; exact hb.elim
 ·simp only [lK] at h
  split at h
  ·exact h
  ·cases h
 ·have hk := TreeIs.vrel (ρ := ρ) (TreeIs.keep (S' := fun b => S b ∨ (w.heap.size ≤ b ∧ b < w'.heap.size)) (fun b hb => .inr hb) (fun _ _ _ => rfl) hT')
  simp only [VRel]
  exact ⟨[.agg #[c0, c1, c2, c3], .int .i64 0, .int .i64 0], rfl, .agg #[c0, c1, c2, c3], _, rfl, by simp only [VRel]; exact ⟨_, rfl, hk⟩, _, _, rfl, by simp only [VRel], _, _, rfl, by simp only [VRel], rfl⟩
end Go.Proofs.YthnohcipianijaaGreatDoor
namespace Go.Proofs.YthnohcipianijaaGreatDoor
open Go.RowKit Lx Sx
set_option maxRecDepth 100000
set_option maxHeartbeats 1100000
def tK : List UInt8 := [109, 111, 100, 117, 108, 101, 32, 77, 32, 100, 101, 102, 32, 102, 40, 110, 58, 32, 73, 110, 116, 41, 58, 32, 73, 110, 116, 32, 61, 32, 105, 102, 32, 110, 32, 60, 32, 49, 32, 116, 104, 101, 110, 32, 48, 32, 101, 108, 115, 101, 32, 110, 32, 43, 32, 102, 40, 110, 32, 45, 32, 49, 41]
def fc : Tree := (iY tK).1
end Go.Proofs.YthnohcipianijaaGreatDoor
