/- Contracts of the functions that the law reaches, part 7. -/
import Derived.Test.YteglbnopdedadaaGreatLt6
set_option linter.unusedVariables false
set_option linter.unusedSimpArgs false
namespace Go.Proofs.YteglbnopdedadaaGreat
open Go.RowKit
def keepE' (R : List Nat) (l : List (Nat × Ob)) : List (Nat × Ob) := l.filter fun p => memN p.1 R
def ung : Ob → Ob
  | .free => .gone
  | o => o
def dropE' (nx : Nat) (R : List Nat) (l : List (Nat × Ob)) : List (Nat × Ob) := (l.filter fun p => !memN p.1 R && Nat.blt p.1 nx).map fun p => (p.1, ung p.2)
theorem keepE_eq {α : Type} {R : List Nat} : ∀ (l : List (Nat × Ob)) (c : List (Nat × Ob) → α), keepE R l c = c (keepE' R l)
  | [], c => rfl
  | (i, o) :: r, c => by
    simp only [keepE]
    cases h : memN i R
    · simp only; rw [keepE_eq r]; simp [keepE', h]
    · simp only; rw [keepE_eq r]; simp [keepE', h]
theorem dropE_eq {α : Type} {nx : Nat} {R : List Nat} : ∀ (l : List (Nat × Ob)) (c : List (Nat × Ob) → α), dropE nx R l c = c (dropE' nx R l)
  | [], c => rfl
  | (i, o) :: r, c => by
    simp only [dropE]
    cases h : (!memN i R && Nat.blt i nx)
    · simp only; rw [dropE_eq r]; simp only [dropE', List.filter_cons, h]; rfl
    · cases o <;> (simp only; rw [dropE_eq r]; simp only [dropE', List.filter_cons, h]; rfl)
theorem look_keep {R : List Nat} {i : Nat} : ∀ {l : List (Nat × Ob)}, lookE (keepE' R l) i = lookE l i ∨ (memN i R = false ∧ lookE (keepE' R l) i = .gone)
  | [] => .inl rfl
  | (j, o) :: r => by
    by_cases hj : j = i
    · subst hj
      cases h : memN j R
      · right
        refine ⟨rfl, ?_⟩
        have ih := look_keep (R := R) (i := j) (l := r)
        simp only [keepE', List.filter_cons, h] at ih ⊢
        simp only [Bool.false_eq_true, if_false]
        clear ih
        have key : ∀ (l : List (Nat × Ob)), lookE (l.filter fun p => memN p.1 R) j = .gone := by
          intro l
          induction l with
          | nil => rfl
          | cons q t ih =>
            obtain ⟨k, o'⟩ := q
            simp only [List.filter_cons]
            split
            · rename_i hk
              have : k ≠ j := fun e => by subst e; simp [h] at hk
              simp only [lookE, nbF this]; exact ih
            · exact ih
        exact key r
      · left
        simp only [keepE', List.filter_cons, h, if_true, lookE, nbT]
    · have ih := look_keep (R := R) (i := i) (l := r)
      simp only [keepE', List.filter_cons]
      split
      · simp only [lookE, nbF hj]; exact ih
      · simp only [lookE, nbF hj]; exact ih
theorem look_keep_out {R : List Nat} {i : Nat} (h : memN i R = false) (l : List (Nat × Ob)) : lookE (keepE' R l) i = .gone := by
  induction l with
  | nil => rfl
  | cons q t ih =>
    obtain ⟨k, o'⟩ := q
    simp only [keepE', List.filter_cons]
    split
    · rename_i hk
      have : k ≠ i := fun e => by subst e; simp [h] at hk
      simp only [lookE, nbF this]; exact ih
    · exact ih
theorem look_drop {nx : Nat} {R : List Nat} {i : Nat} (l : List (Nat × Ob)) : lookE (dropE' nx R l) i = if (!memN i R && Nat.blt i nx) = true then ung (lookE l i) else .gone := by
  induction l with
  | nil => simp [dropE', lookE, ung]
  | cons q t ih =>
    obtain ⟨k, o⟩ := q
    by_cases hk : k = i
    · subst hk
      cases h : (!memN k R && Nat.blt k nx)
      · rw [h] at ih
        simp only [dropE', List.filter_cons, h, Bool.false_eq_true, if_false] at ih ⊢
        exact ih
      · simp only [dropE', List.filter_cons, h, if_true, List.map_cons, lookE, nbT]
    · have e : lookE ((k, o) :: t) i = lookE t i := by simp only [lookE, nbF hk]
      rw [e, ← ih]
      simp only [dropE', List.filter_cons]
      split
      · simp only [List.map_cons, lookE, nbF hk]
      · rfl
section
variable {P : Program} {T : Tab} {K : Ctx} {Q : Exit → Act → World → Prop} {s : List EI} {n : Nat} {F : Fm} {H : Hp}
theorem frz1_ok (lo : Nat) (H : Hp) (v : V) : ∃ v' H', (∀ (α : Type) (c : V → Hp → α), frz1 lo H v c = c v' H') ∧ H'.nx = H.nx ∧ (∀ K S w ρ x, HRel S w ρ H.get → Inv K S w ρ H.get → VRel S w ρ v x → ∃ S', HRel S' w ρ H'.get ∧ Inv K S' w ρ H'.get ∧ Up S S' w w ρ ρ ∧ VRel S' w ρ v' x) := by
  have triv : ∃ v' H', (∀ (α : Type) (c : V → Hp → α), c v H = c v' H') ∧ H'.nx = H.nx ∧ (∀ K S w ρ x, HRel S w ρ H.get → Inv K S w ρ H.get → VRel S w ρ v x → ∃ S', HRel S' w ρ H'.get ∧ Inv K S' w ρ H'.get ∧ Up S S' w w ρ ρ ∧ VRel S' w ρ v' x) := ⟨v, H, fun _ _ => rfl, rfl, fun K S w ρ x h1 h2 h3 => ⟨S, h1, h2, Up.refl, h3⟩⟩
  cases v with
  | sl id =>
    simp only [frz1]
    split
    · split
      · rename_i e sz els ho
        split
        · rename_i hpu
          refine ⟨.row sz els, ⟨H.nx, delE' id H.es⟩, fun α c => by rw [delE_eq], rfl, fun K S w ρ x hr hi hx => ?_⟩
          have hg : (⟨H.nx, delE' id H.es⟩ : Hp).get = updH H.get id .gone := by
            funext i
            unfold Hp.get
            by_cases hii : i = id
            · subst hii
              rw [updH_same]
              simp only []
              have hlt : Nat.blt i H.nx = true := by
                unfold Hp.get at ho
                split at ho
                · assumption
                · cases ho
              rw [hlt]
              simp only [look_del, if_true]
            · rw [updH_ne _ _ hii]
              simp only [look_del, if_neg hii]
          refine ⟨_, by rw [hg]; exact (freeze_up hr).1, by rw [hg]; exact hi.frz hr id, (freeze_up hr).2, freeze_row hr ho hpu hx⟩
        · exact triv
      · exact triv
    · exact triv
  | _ => exact triv
theorem frzL_ok (lo : Nat) : ∀ (vs : List V) (H : Hp), ∃ vs' H', (∀ (α : Type) (c : List V → Hp → α), frzL lo H vs c = c vs' H') ∧ H'.nx = H.nx ∧ (∀ K S w ρ xs, HRel S w ρ H.get → Inv K S w ρ H.get → LRel S w ρ vs xs → ∃ S', HRel S' w ρ H'.get ∧ Inv K S' w ρ H'.get ∧ Up S S' w w ρ ρ ∧ LRel S' w ρ vs' xs)
  | [], H => ⟨[], H, fun _ _ => rfl, rfl, fun K S w ρ x h1 h2 h3 => ⟨S, h1, h2, Up.refl, h3⟩⟩
  | v :: r, H => by
    obtain ⟨v', H1, e1, n1, k1⟩ := frz1_ok lo H v
    obtain ⟨r', H2, e2, n2, k2⟩ := frzL_ok lo r H1
    refine ⟨v' :: r', H2, fun α c => by simp only [frzL, e1, e2], n2.trans n1, fun K S w ρ xs hr hi hx => ?_⟩
    simp only [LRel] at hx
    obtain ⟨x, ys, rfl, h1, h2⟩ := hx
    obtain ⟨S1, a1, a2, a3, a4⟩ := k1 K S w ρ x hr hi h1
    obtain ⟨S2, b1, b2, b3, b4⟩ := k2 K S1 w ρ ys a1 a2 (h2.up a3)
    exact ⟨S2, b1, b2, ⟨fun b hb => b3.s b (a3.s b hb), fun _ _ _ => rfl, fun _ _ h => h⟩, x, ys, rfl, a4.up b3, b4⟩
theorem frz2_ok (lo : Nat) (H : Hp) (v : V) : ∃ v' H', (∀ (α : Type) (c : V → Hp → α), frz2 lo H v c = c v' H') ∧ H'.nx = H.nx ∧ (∀ K S w ρ x, HRel S w ρ H.get → Inv K S w ρ H.get → VRel S w ρ v x → ∃ S', HRel S' w ρ H'.get ∧ Inv K S' w ρ H'.get ∧ Up S S' w w ρ ρ ∧ VRel S' w ρ v' x) := by
  have h0 := frz1_ok lo H v
  cases v
  case agg cs =>
    obtain ⟨vs', H', e, hn, k⟩ := frzL_ok lo cs H
    refine ⟨.agg vs', H', fun α c => by simp only [frz2, e], hn, fun K S w ρ x hr hi hx => ?_⟩
    simp only [VRel] at hx
    obtain ⟨xs, rfl, h1⟩ := hx
    obtain ⟨S', a1, a2, a3, a4⟩ := k K S w ρ xs hr hi h1
    exact ⟨S', a1, a2, a3, by simp only [VRel]; exact ⟨xs, rfl, a4⟩⟩
  all_goals exact h0
theorem frzM_ok (lo : Nat) : ∀ (vs : List V) (H : Hp), ∃ vs' H', (∀ (α : Type) (c : List V → Hp → α), frzM lo H vs c = c vs' H') ∧ H'.nx = H.nx ∧ (∀ K S w ρ xs, HRel S w ρ H.get → Inv K S w ρ H.get → LRel S w ρ vs xs → ∃ S', HRel S' w ρ H'.get ∧ Inv K S' w ρ H'.get ∧ Up S S' w w ρ ρ ∧ LRel S' w ρ vs' xs)
  | [], H => ⟨[], H, fun _ _ => rfl, rfl, fun K S w ρ x h1 h2 h3 => ⟨S, h1, h2, Up.refl, h3⟩⟩
  | v :: r, H => by
    obtain ⟨v', H1, e1, n1, k1⟩ := frz2_ok lo H v
    obtain ⟨r', H2, e2, n2, k2⟩ := frzM_ok lo r H1
    refine ⟨v' :: r', H2, fun α c => by simp only [frzM, e1, e2], n2.trans n1, fun K S w ρ xs hr hi hx => ?_⟩
    simp only [LRel] at hx
    obtain ⟨x, ys, rfl, h1, h2⟩ := hx
    obtain ⟨S1, a1, a2, a3, a4⟩ := k1 K S w ρ x hr hi h1
    obtain ⟨S2, b1, b2, b3, b4⟩ := k2 K S1 w ρ ys a1 a2 (h2.up a3)
    exact ⟨S2, b1, b2, ⟨fun b hb => b3.s b (a3.s b hb), fun _ _ _ => rfl, fun _ _ h => h⟩, x, ys, rfl, a4.up b3, b4⟩
variable {all : Array Oper} {rest : List Oper} {o : Oper} {u : V} {H' : Hp}
theorem go_opX {ok : Bool} (hw : wantA F all o.guard = some true) (hx : ExecR P K o [] ok n F H u H') (k : Go P K Q (.ops all rest) s n (F.seto o.dst (some u)) H') : Go P K Q (.ops all (o :: rest)) s n F H := fun S w ρ a hr hi hF => by
  show wpList P all (stkE P Q s) (o :: rest) a w
  unfold wpList
  rw [if_pos (wantA_ok hF hw)]
  exact .inl (hx S w ρ a hr hi hF _ _ fun x S' w' ρ' hr' hi' hu _ _ hv => k S' w' ρ' _ hr' hi' (frel_val (hF.up hu) o.dst hv))
variable {L : List Nat} {m left i : Nat} {listed : Array Bool}
theorem go_d1X (hrd : Region.ready .any all listed = [i]) (hi : all[i]? = some o) (hw : wantA F all o.guard = some true) (hx : ExecR P K o L ((listed.setIfInBounds i true).getD m false) n F H u H') (k : Go P K Q (.drw all L m left (listed.setIfInBounds i true)) s n (F.seto o.dst (some u)) H') : Go P K Q (.drw all L m (left + 1) listed) s n F H := fun S w ρ a hr hiv hF hs => by
  refine wpB_one (S := S) hrd ?_
  unfold wpOp
  simp only [hi]
  rw [if_pos (wantA_ok hF hw)]
  exact .inl (hx S w ρ a hr hiv hF _ _ fun x S' w' ρ' hr' hi' hu hA hL hv => wpB_on hu hA hL (k S' w' ρ' _ hr' hi' (frel_val (hF.up hu) o.dst hv) hs))
def RsOk (P : Program) (K : Ctx) (Q : Exit → Act → World → Prop) (n : Nat) : Rs → Prop
  | .ok e F H => ∀ S w ρ a, HRel S w ρ H.get → Inv K S w ρ H.get → FRel S w ρ a n F → Q (match e with | true => .ret | false => .normal) a w
  | .pt p s F H => Go P K Q p s n F H
  | .er _ _ => False
variable {ih : EP → List EI → Fm → Hp → Rs}
theorem ret_inv {S : Nat → Prop} {w : World} {ρ : Nat → Option Value} {x : Value} : ∀ {rs : List V}, VRel S w ρ (retA rs) x → ∃ ys, LRel S w ρ rs ys ∧ x = retV ys
  | [], hvx => by simp only [retA, VRel] at hvx; obtain ⟨ys, rfl, h1⟩ := hvx; exact ⟨ys, h1, by simp only [LRel] at h1; subst h1; rfl⟩
  | [v], hvx => ⟨[x], ⟨x, [], rfl, hvx, rfl⟩, rfl⟩
  | v :: u :: r, hvx => by
    simp only [retA, VRel] at hvx; obtain ⟨ys, rfl, h1⟩ := hvx
    refine ⟨ys, h1, ?_⟩
    simp only [LRel] at h1
    obtain ⟨_, _, rfl, _, _, _, rfl, _⟩ := h1
    rfl
theorem callX_ok (hT : TabOk P T) (IH : ∀ p s F H K Q n, RsOk P K Q n (ih p s F H) → Go P K Q p s n F H) {X : Rs → Prop} (hX : ∀ n m, ¬ X (.er n m)) {keep ok : Bool} {vs : List V} {fid : FuncId} {fn : Func} {b : Code} {c : V → Hp → Rs} (hf : P.funcs[fid]? = some fn) (hb : fn.body = some b) (hl : Nat.ble vs.length fn.ntmps = true)
    (h : X (callX T ih keep vs fn b H L ok c)) : ∃ u H' L', (L' = L ∨ ok = true) ∧ CallR P K fid vs H L' (fun u' H'' => u' = u ∧ H'' = H') ∧ X (c u H') := by
  unfold callX at h
  simp only [] at h
  generalize hR : reachN H 40 (idsVs vs []) [] = R at h
  split at h
  · rename_i hok
    rw [keepE_eq] at h
    split at h
    · rename_i e F1 H1 hrun
      split at h
      · rename_i rs hres
        split at h
        · rename_i hnx
          have hnx' : H.nx ≤ H1.nx := Nat.le_of_ble_eq_true hnx
          -- the objects that the call gets
          have hin : ∀ i, (⟨H.nx, keepE' R H.es⟩ : Hp).get i = H.get i ∨ (⟨H.nx, keepE' R H.es⟩ : Hp).get i = .gone := fun i => by
            unfold Hp.get
            simp only []
            split
            · rcases look_keep (R := R) (i := i) (l := H.es) with e | ⟨_, e⟩
              · exact .inl e
              · exact .inr e
            · exact .inl rfl
          have hout : ∀ i, memN i R = false → Nat.blt i H.nx = true → (⟨H.nx, keepE' R H.es⟩ : Hp).get i = .gone := fun i hi hlt => by
            unfold Hp.get
            simp only [hlt]
            exact look_keep_out hi _
          -- the objects behind the call
          have key : ∀ (H2 : Hp) (es3 : List (Nat × Ob)), H2.nx = H1.nx → (∀ i, lookE es3 i = lookE H2.es i ∨ lookE es3 i = .gone) → ∀ i, ((⟨H2.nx, es3 ++ dropE' H.nx R H.es⟩ : Hp).get i = H2.get i ∨ (⟨H2.nx, es3 ++ dropE' H.nx R H.es⟩ : Hp).get i = .gone) ∨ ((⟨H2.nx, es3 ++ dropE' H.nx R H.es⟩ : Hp).get i = H.get i ∧ (⟨H.nx, keepE' R H.es⟩ : Hp).get i = .gone ∧ H.get i ≠ .free) := fun H2 es3 hn h3 i => by
            by_cases hlt2 : Nat.blt i H2.nx = true
            · have e0 : (⟨H2.nx, es3 ++ dropE' H.nx R H.es⟩ : Hp).get i = lookE (es3 ++ dropE' H.nx R H.es) i := by unfold Hp.get; simp only [hlt2]
              have e2 : H2.get i = lookE H2.es i := by unfold Hp.get; rw [hlt2]
              rw [e0, e2]
              rcases look_app es3 (dropE' H.nx R H.es) i with e | ⟨e', e⟩
              · rw [e]
                rcases h3 i with h3 | h3
                · exact .inl (.inl h3)
                · exact .inl (.inr h3)
              · rw [e]
                rw [look_drop]
                cases hm : (!memN i R && Nat.blt i H.nx)
                · exact .inl (.inr (by simp))
                · have hm' := hm
                  simp only [Bool.and_eq_true, Bool.not_eq_true'] at hm'
                  have eH : H.get i = lookE H.es i := by unfold Hp.get; rw [hm'.2]
                  rw [if_pos rfl]
                  cases hf : lookE H.es i
                  case free => exact .inl (.inr rfl)
                  all_goals exact .inr ⟨by rw [eH, hf]; rfl, hout i hm'.1 hm'.2, by rw [eH, hf]; simp⟩
            · have e0 : (⟨H2.nx, es3 ++ dropE' H.nx R H.es⟩ : Hp).get i = .free := by
                unfold Hp.get; simp only [Bool.not_eq_true] at hlt2; simp only [hlt2]
              have e2 : H2.get i = .free := by unfold Hp.get; simp only [Bool.not_eq_true] at hlt2; rw [hlt2]
              exact .inl (.inl (by rw [e0, e2]))
          -- what holds behind the call
          have fin : ∀ (H2 : Hp) (es3 : List (Nat × Ob)) (rs2 : List V), H2.nx = H1.nx → (∀ i, lookE es3 i = lookE H2.es i ∨ lookE es3 i = .gone) →
              (∀ K S w ρ xs, HRel S w ρ H1.get → Inv K S w ρ H1.get → LRel S w ρ rs xs → ∃ S', HRel S' w ρ H2.get ∧ Inv K S' w ρ H2.get ∧ Up S S' w w ρ ρ ∧ LRel S' w ρ rs2 xs) →
              ∃ L', (L' = L ∨ ok = true) ∧ CallR P K fid vs H L' (fun u' H'' => u' = retA rs2 ∧ H'' = ⟨H2.nx, es3 ++ dropE' H.nx R H.es⟩) := fun H2 es3 rs2 hn h3 hfz => by
            have main : ∀ L', (∀ (S : Nat → Prop) (w : World) (ρ : Nat → Option Value), HRel S w ρ H.get → L' = [] ∨ (liveL H.get L' = true ∧ ∀ id, id ∈ L' → (⟨H.nx, keepE' R H.es⟩ : Hp).get id = .gone)) → CallR P K fid vs H L' (fun u' H'' => u' = retA rs2 ∧ H'' = ⟨H2.nx, es3 ++ dropE' H.nx R H.es⟩) := fun L' hL' S w ρ xs hr hi hx => by
              have hr1 := hr.drop (h' := (⟨H.nx, keepE' R H.es⟩ : Hp).get) hin
              have hi1 : Inv ⟨w, S, fun b => ∃ id, own ρ id ((⟨H.nx, keepE' R H.es⟩ : Hp).get id) b, ρ⟩ S w ρ (⟨H.nx, keepE' R H.es⟩ : Hp).get := ⟨ChgP.refl _ _, fun _ h => h, fun _ h => .inl h, fun id b hb => .inl ⟨id, hb⟩, fun _ _ h => h⟩
              refine enter_go hf hb hl hr1 hi1 hx (IH _ _ _ _ _ _ _ ?_)
              rw [hrun]
              intro S' w' ρ' a' hr' hi' hF'
              obtain ⟨rl, hrl⟩ : ∃ l : List ResultVar, fn.results = l.toArray := ⟨fn.results.toList, by simp⟩
              rw [hrl] at hres
              refine ret_go hT (rs := rl) (by cases e <;> simp) hrl hr' hF' (by simpa using hres) fun x hvx => ?_
              have hLR := ret_inv hvx
              obtain ⟨ys, hys, rfl⟩ := hLR
              obtain ⟨S2, a1, a2, a3, a4⟩ := hfz _ S' w' ρ' ys hr' hi' hys
              obtain ⟨m1, m2, m3, m4⟩ := merge_ok (h1 := (⟨H.nx, keepE' R H.es⟩ : Hp).get) (h2 := (⟨H2.nx, es3 ++ dropE' H.nx R H.es⟩ : Hp).get) hr hi hin a1 a2 (key H2 es3 hn h3)
              refine ⟨_, S2, ρ', _, _, rfl, ⟨rfl, rfl⟩, m1, m2, m3, retA_ok a4, ?_⟩
              rcases hL' S w ρ hr with rfl | ⟨g1, g2⟩
              · intro id hid; simp at hid
              · exact m4 L' g1 g2
            rcases or_of hok with hok | hok
            · simp only [Bool.and_eq_true] at hok
              refine ⟨L, .inl rfl, main L fun S w ρ hr => .inr ⟨hok.1, fun id hid => ?_⟩⟩
              have hmem := List.all_eq_true.1 hok.2 id hid
              simp only [Bool.not_eq_true'] at hmem
              by_cases hlt : Nat.blt id H.nx = true
              · exact hout id hmem hlt
              · exfalso
                have hfree : H.get id = .free := by unfold Hp.get; simp only [Bool.not_eq_true] at hlt; rw [hlt]
                have hnl : ∀ (l : List Nat), id ∈ l → liveL H.get l = true → False := by
                  intro l
                  induction l with
                  | nil => intro h; simp at h
                  | cons j t ih =>
                    intro hm hl
                    simp only [liveL] at hl
                    rcases List.mem_cons.1 hm with e | e
                    · subst e; rw [hfree] at hl; cases hl
                    · split at hl
                      · exact ih e hl
                      · exact ih e hl
                      · cases hl
                exact hnl L hid hok.1
            · exact ⟨[], .inr hok, main [] fun _ _ _ _ => .inl rfl⟩
          split at h
          · rw [dropE_eq] at h
            obtain ⟨L', g1, g2⟩ := fin H1 H1.es rs rfl (fun i => .inl rfl) (fun K S w ρ xs h1 h2 h3 => ⟨S, h1, h2, Up.refl, h3⟩)
            exact ⟨_, _, L', g1, g2, h⟩
          · obtain ⟨rs2, H2, e1, e2, e3⟩ := frzM_ok H.nx rs H1
            rw [e1] at h
            rw [keepE_eq, dropE_eq] at h
            obtain ⟨L', g1, g2⟩ := fin H2 (keepE' _ H2.es) rs2 e2 (fun i => by
              rcases look_keep (R := reachN H2 60 (idsVs rs2 R) []) (i := i) (l := H2.es) with e | ⟨_, e⟩
              · exact .inl e
              · exact .inr e) e3
            exact ⟨_, _, L', g1, g2, h⟩
        · exact absurd h (hX _ _)
      · exact absurd h (hX _ _)
    · exact absurd h (hX _ _)
    · exact absurd h (hX _ _)
  · exact absurd h (hX _ _)
theorem exec1_ok (hT : TabOk P T) (IH : ∀ p s F H K Q n, RsOk P K Q n (ih p s F H) → Go P K Q p s n F H) {X : Rs → Prop} (hX : ∀ n m, ¬ X (.er n m)) {ok : Bool} {c : Option V → Hp → Rs} (h : X (exec1 T ih F H L ok o c)) : ∃ u H', ExecR P K o L ok n F H u H' ∧ X (c (some u) H') := by
  unfold exec1 at h
  split at h
  · rename_i v hv
    exact ⟨v, H, exec_pure hT hv, h⟩
  · rw [natK_eq] at h
    split at h
    · rename_i v ed hv
      split at h
      · rename_i hc
        rw [Hp.ap_eq] at h
        refine ⟨_, _, exec_eff hT hv hc, ?_⟩
        cases v with
        | none => exact h
        | some v => exact h
      · exact absurd h (hX _ _)
    · split at h
      · rename_i fid args tys hop
        split at h
        · rename_i vs hvs
          split at h
          · rename_i v hn
            obtain ⟨he, hnat⟩ := hT.nat _ _ _ hn
            refine ⟨v, H, exec_call (L' := L) he (by rw [hop]) hvs (fun S w ρ xs hr hi hx => ?_) (.inl rfl), h⟩
            obtain ⟨x, h1, h2⟩ := hnat S w ρ xs hx
            refine h2.mono fun e w' hR => ?_
            obtain ⟨rfl, rfl⟩ := hR
            exact ⟨x, S, ρ, v, H, rfl, ⟨rfl, rfl⟩, hr, hi, Up.refl, h1, ls_refl⟩
          · split at h
            · rename_i fn hfn
              obtain ⟨hf, he⟩ := hT.fn _ _ hfn
              split at h
              · rename_i b hb
                split at h
                · rename_i hl
                  obtain ⟨u, H', L', g1, g2, g3⟩ := callX_ok (K := K) hT IH hX hf hb hl h
                  exact ⟨u, H', exec_call he (by rw [hop]) hvs g2 g1, g3⟩
                · exact absurd h (hX _ _)
              · exact absurd h (hX _ _)
            · exact absurd h (hX _ _)
        · exact absurd h (hX _ _)
      · exact absurd h (hX _ _)
theorem isRow1_ok {l : List Nat} {j : Nat} (h : isRow1 l j = true) : l = [j] := by
  unfold isRow1 at h
  split at h
  · rw [Nat.eq_of_beq_eq_true h]
  · cases h
theorem pendX_ok (hT : TabOk P T) (IH : ∀ p s F H K Q n, RsOk P K Q n (ih p s F H) → Go P K Q p s n F H) {i : Nat} {ps : List (Nat × Operand)} {vs : List (Nat × V)} {v : V} (hp : pendB T all i vs = some (o, ps, v)) : ∀ (left : Nat) (listed : Array Bool) (F : Fm) (H : Hp), RsOk P K Q n (pendX T ih all L m i o ps v s left listed F H) → GoP P K Q all L m left listed s n F H i o ps vs v
  | left, listed, F, H, h => by
    unfold pendX at h
    split at h
    · rename_i hl
      split at h
      · rename_i x hrd
        split at h
        · rename_i hb
          have := Nat.eq_of_beq_eq_true hb
          subst this
          rw [Fm.puto_eq] at h
          exact gop_end hT hp hrd hl (IH _ _ _ _ _ _ _ h)
        · exact h.elim
      · rename_i x y hrd
        cases left with
        | zero => exact h.elim
        | succ left =>
          simp only [natK_eq] at h
          generalize hj : pickJ x y i = j at h
          unfold pickJ at hj
          split at h
          · exact h.elim
          · rename_i hji
            have hne : j ≠ i := Nat.ne_of_beq_eq_false hji
            split at h
            · rename_i oj hoj
              split at h
              · rename_i hc
                simp only [Bool.and_eq_true] at hc
                obtain ⟨⟨⟨hc1, hc2⟩, hc3⟩, hc4⟩ := hc
                split at h
                · rename_i hw
                  obtain ⟨u, H', hx, hk⟩ := exec1_ok (K := K) (n := n) hT IH (X := RsOk P K Q n) (fun _ _ h => h) h
                  rw [Fm.puto_eq] at hk
                  have ih2 := pendX_ok hT IH hp left _ _ _ hk
                  have hpair : (match Region.ready .any all listed with | [x, y] => (Nat.beq x i && Nat.beq y j) || (Nat.beq x j && Nat.beq y i) | _ => false) = true := by
                    rw [hrd]
                    simp only []
                    cases hx1 : Nat.beq x i
                    · rw [hx1] at hj
                      cases hy1 : Nat.beq y i
                      · rw [hy1] at hj; exact absurd hj.symm hne
                      · rw [hy1] at hj; simp only at hj; subst hj; simp
                    · rw [hx1] at hj; simp only at hj; subst hj; simp
                  refine gop_step hT hp hoj hpair (isRow1_ok hc1) hl (fun t ht => ?_) hc2 hc3 (Array.setIfInBounds_comm _ _ (Ne.symm hne)) (Post := fun u' H'' => u' = u ∧ H'' = H') (fun S w ρ a hr hi hF K2 hK2 => ?_) (fun u' H'' hP => by obtain ⟨rfl, rfl⟩ := hP; exact ih2)
                  · rw [ht] at hc4
                    simp only [Option.isNone_iff_eq_none] at hc4
                    exact hc4
                  · unfold wpOp
                    simp only [hoj]
                    rw [if_pos (wantA_ok hF hw)]
                    refine .inl (hx S w ρ a hr hi hF _ _ fun x S' w' ρ' hr' hi' hu hA hL hv => hK2 x S' w' ρ' u H' ⟨rfl, rfl⟩ hr' hi' hu hA (hL.imp id fun h => ?_) hv)
                    simpa only [Bool.and_eq_true] using h
                · exact h.elim
              · exact h.elim
            · exact h.elim
      · exact h.elim
    · exact h.elim
theorem twoD_ok (hT : TabOk P T) (IH : ∀ p s F H K Q n, RsOk P K Q n (ih p s F H) → Go P K Q p s n F H) {i j : Nat} {left : Nat} {listed : Array Bool} (hrd : Region.ready .any all listed = [i, j]) (h : RsOk P K Q n (twoD T ih all L m left i j listed s F H)) : Go P K Q (.drw all L m (left + 1) listed) s n F H := by
  unfold twoD at h
  split at h
  · rename_i oi hoi
    split at h
    · rename_i oj hoj
      split at h
      · rename_i hwi
        split at h
        · rename_i hwj
          obtain ⟨ui, Hi, xi, hk⟩ := exec1_ok (K := K) (n := n) hT IH (X := RsOk P K Q n) (fun _ _ h => h) h
          rw [Fm.puto_eq] at hk
          split at hk
          · rename_i F1 H1 e1
            obtain ⟨uj, Hj, xj, hk2⟩ := exec1_ok (K := K) (n := n) hT IH (X := RsOk P K Q n) (fun _ _ h => h) hk
            rw [Fm.puto_eq] at hk2
            split at hk2
            · rename_i F2 H2 e2
              split at hk2
              · rename_i hal
                have c : Go P K Q (.ex .normal) s n F1 H1 := IH _ _ _ _ _ _ _ hk2
                intro S w ρ a hr hi hF
                have hpin : ∀ id x, K.pin id = some x → id < H.nx := fun id x hx => Decidable.byContradiction fun hn => by
                  have h1 := hi.pin id x hx
                  have h2 := hr.ob id
                  have h3 : H.get id = .free := by
                    unfold Hp.get
                    have : Nat.blt id H.nx = false := by
                      cases hb : Nat.blt id H.nx
                      · rfl
                      · exact absurd (by simpa [Nat.blt_eq] using hb) hn
                    simp only [this]
                  rw [h3] at h2
                  have h4 : ρ id = none := h2
                  rw [h4] at h1; cases h1
                have g1 : Go P K (stkE P Q s) (.drw all L m left (listed.setIfInBounds i true)) [] n (F.seto oi.dst (some ui)) Hi := IH _ _ _ _ _ _ _ (by rw [e1]; exact fun S w ρ a hr hi hF => c S w ρ a hr hi hF)
                have g2 : Go P K (stkE P Q s) (.drw all L m left (listed.setIfInBounds j true)) [] n (F.seto oj.dst (some uj)) Hj := IH _ _ _ _ _ _ _ (by rw [e2]; exact fun S w ρ a hr hi hF => go_alike hal hpin c S w ρ a hr hi hF)
                exact go_dTwoX (by rw [hrd]; simp) hoi hoj hwi hwj xi xj g1 g2 S w ρ a hr hi hF
              · exact hk2.elim
            · exact hk2.elim
            · exact hk2.elim
          · exact hk.elim
          · exact hk.elim
        · exact h.elim
      · exact h.elim
    · exact h.elim
  · exact h.elim
theorem pendOf_ok : ∀ {R : List Nat} {i : Nat} {ps : List (Nat × Operand)} {v : V}, pendOf T F all R = some (i, o, ps, v) → ∃ vs, partsA F ps = some vs ∧ pendB T all i vs = some (o, ps, v)
  | [], _, _, _, h => by cases h
  | j :: r, i, ps, v, h => by
    unfold pendOf at h
    split at h
    · rename_i hj
      split at h
      · rename_i vs hvs
        split at h
        · rename_i o' ps' v' hpb
          simp only [Option.some.injEq, Prod.mk.injEq] at h
          obtain ⟨rfl, rfl, rfl, rfl⟩ := h
          refine ⟨vs, ?_, hpb⟩
          have := hpb
          unfold pendB at this
          rw [hj] at this
          simp only at this
          repeat' (split at this)
          all_goals first
            | (cases this; done)
            | (simp only [natK_eq, Option.some.injEq, Prod.mk.injEq] at this; obtain ⟨_, rfl, _⟩ := this; exact hvs)
        · exact pendOf_ok h
      · exact pendOf_ok h
    · exact pendOf_ok h
theorem step_ok (hT : TabOk P T) (hm : P.follows .mixedOrders = true) (IH : ∀ p s F H K Q n, RsOk P K Q n (ih p s F H) → Go P K Q p s n F H) : ∀ (p : EP) (s : List EI) (F : Fm) (H : Hp), RsOk P K Q n (step T ih p s F H) → Go P K Q p s n F H
  | .code c, s, F, H, h => by
    replace h : RsOk P K Q n (stepC T ih c s F H) := h
    unfold stepC at h
    split at h
    · exact go_seq (IH _ _ _ _ _ _ _ h)
    · exact go_block (IH _ _ _ _ _ _ _ h)
    · exact go_skip (IH _ _ _ _ _ _ _ h)
    · exact go_ret (IH _ _ _ _ _ _ _ h)
    · exact go_exit (IH _ _ _ _ _ _ _ h)
    · exact go_scope (IH _ _ _ _ _ _ _ h)
    · exact go_label (IH _ _ _ _ _ _ _ h)
    · exact go_loop 1000000 (IH _ _ _ _ _ _ _ h)
    · split at h
      · exact go_condT ‹_› (IH _ _ _ _ _ _ _ h)
      · exact go_condF ‹_› (IH _ _ _ _ _ _ _ h)
      · exact h.elim
    · exact go_region (IH _ _ _ _ _ _ _ h)
    · split at h
      · rename_i hs
        simp only [listK_eq, natK_eq] at h
        exact go_draw _ _ _ rfl hm hs (IH _ _ _ _ _ _ _ h)
      · exact h.elim
    · exact h.elim
  | .ops all rest, s, F, H, h => by
    replace h : RsOk P K Q n (stepOp T ih all rest s F H) := h
    unfold stepOp at h
    split at h
    · exact go_nil (IH _ _ _ _ _ _ _ h)
    · split at h
      · rw [Fm.puto_eq] at h
        exact go_opS ‹_› (IH _ _ _ _ _ _ _ h)
      · obtain ⟨u, H', hx, hk⟩ := exec1_ok (K := K) (n := n) hT IH (X := RsOk P K Q n) (fun _ _ h => h) h
        rw [Fm.puto_eq] at hk
        exact go_opX ‹_› hx (IH _ _ _ _ _ _ _ hk)
      · exact h.elim
  | .ex e, s, F, H, h => by
    replace h : RsOk P K Q n (stepX ih e s F H) := h
    unfold stepX at h
    split at h
    · split at h
      · exact fun S w ρ a hr hi hF => h S w ρ a hr hi hF
      · exact fun S w ρ a hr hi hF => h S w ρ a hr hi hF
      · exact h.elim
    · split at h
      · exact go_xseq (IH _ _ _ _ _ _ _ h)
      · exact go_xseqE (IH _ _ _ _ _ _ _ h)
      · exact go_xseqR (IH _ _ _ _ _ _ _ h)
      · exact h.elim
    · split at h
      · split at h
        · exact h.elim
        · exact go_xloop (IH _ _ _ _ _ _ _ h)
      · exact go_xloopE (IH _ _ _ _ _ _ _ h)
      · exact go_xloopR (IH _ _ _ _ _ _ _ h)
      · exact h.elim
    · split at h
      · exact go_xscpN (IH _ _ _ _ _ _ _ h)
      · exact go_xscpE (IH _ _ _ _ _ _ _ h)
      · exact go_xscpR (IH _ _ _ _ _ _ _ h)
      · exact h.elim
    · split at h
      · exact go_xblkN (IH _ _ _ _ _ _ _ h)
      · split at h
        · exact go_xblkT ‹_› (IH _ _ _ _ _ _ _ h)
        · exact go_xblkF ‹_› (IH _ _ _ _ _ _ _ h)
      · exact go_xblkR (IH _ _ _ _ _ _ _ h)
      · exact h.elim
  | .drw all L m left listed, s, F, H, h => by
    replace h : RsOk P K Q n (stepD T ih all L m left listed s F H) := h
    unfold stepD at h
    split at h
    · exact go_dDone ‹_› (IH _ _ _ _ _ _ _ h)
    · rename_i i R hrd
      cases left with
      | zero => exact h.elim
      | succ left =>
        simp only [] at h
        split at h
        · split at h
          · rename_i o ho
            split at h
            · rw [Fm.puto_eq] at h
              exact go_d1S hrd ho ‹_› (IH _ _ _ _ _ _ _ h)
            · obtain ⟨u, H', hx, hk⟩ := exec1_ok (K := K) (n := n) hT IH (X := RsOk P K Q n) (fun _ _ h => h) h
              rw [Fm.puto_eq] at hk
              exact go_d1X hrd ho ‹_› hx (IH _ _ _ _ _ _ _ hk)
            · exact h.elim
          · exact h.elim
        · split at h
          · split at h
            · rename_i o ho
              split at h
              · rename_i hc
                simp only [Bool.and_eq_true, Bool.not_eq_true'] at hc
                obtain ⟨⟨hc1, hc2⟩, hc3⟩ := hc
                split at h
                · rw [Fm.puto_eq] at h
                  exact go_dK hc3 ho hc2 hc1 ‹_› (IH _ _ _ _ _ _ _ h)
                · rename_i hw
                  split at h
                  · rename_i v hv
                    rw [Fm.puto_eq] at h
                    exact go_dP hT hc3 ho hc2 hc1 hw hv (IH _ _ _ _ _ _ _ h)
                  · split at h
                    · rename_i id hid
                      split at h
                      · rename_i hL
                        simp only [Bool.and_eq_true, Bool.not_eq_true'] at hL
                        obtain ⟨⟨hL1, hL2⟩, hL3⟩ := hL
                        split at h
                        · rename_i v ed hv
                          rw [Fm.puto_eq] at h
                          exact go_dL hT hc3 hL2 hL3 ho hc2 hc1 hw hid hL1 hv (IH _ _ _ _ _ _ _ h)
                        · exact h.elim
                      · exact h.elim
                    · exact h.elim
                · exact h.elim
              · exact h.elim
            · exact h.elim
          · split at h
            · rename_i i' o ps v hpo
              rw [Fm.puto_eq] at h
              obtain ⟨vs, g1, g2⟩ := pendOf_ok hpo
              exact gop_start g1 (pendX_ok hT IH g2 left listed _ _ h)
            · split at h
              · exact twoD_ok hT IH hrd h
              · exact h.elim
theorem run_ok (hT : TabOk P T) (hm : P.follows .mixedOrders = true) : ∀ (k : Nat) (p : EP) (s : List EI) (F : Fm) (H : Hp) (K : Ctx) (Q : Exit → Act → World → Prop) (n : Nat), RsOk P K Q n (run T k p s F H) → Go P K Q p s n F H
  | 0, p, s, F, H, K, Q, n, h => h
  | k + 1, p, s, F, H, K, Q, n, h => step_ok hT hm (fun p s F H K Q n h => run_ok hT hm k p s F H K Q n h) p s F H h
def runF (T : Tab) (k : Nat) (fid : FuncId) (vs : List V) (H : Hp) : Option (List V × Hp) := match T.fn fid with
  | some fn => match fn.body with
    | some b => match Nat.ble vs.length fn.ntmps with
      | true => match run T k (.code b) [] (fr0A fn.ntmps vs) H with
        | .ok _ F1 H1 => match resA T H1.get F1 fn.results.toList with
          | some rs => some (rs, H1)
          | none => none
        | _ => none
      | false => none
    | none => none
  | none => none
theorem runF_ok (hT : TabOk P T) (hm : P.follows .mixedOrders = true) {k : Nat} {fid : FuncId} {vs rs : List V} {H H1 : Hp} (h : runF T k fid vs H = some (rs, H1)) {S : Nat → Prop} {w : World} {ρ : Nat → Option Value} {xs : List Value} (hr : HRel S w ρ H.get) (hx : LRel S w ρ vs xs) : entersB P fid = true ∧
    Calls P fid xs.toArray w fun e w' => ∃ S' ρ' ys, e = .returned (retV ys) ∧ HRel S' w' ρ' H1.get ∧ Inv ⟨w, S, fun b => ∃ id, own ρ id (H.get id) b, ρ⟩ S' w' ρ' H1.get ∧ LRel S' w' ρ' rs ys := by
  unfold runF at h
  split at h
  · rename_i fn hfn
    obtain ⟨hf, he⟩ := hT.fn _ _ hfn
    split at h
    · rename_i b hb
      split at h
      · rename_i hl
        split at h
        · rename_i e F1 H1' hrun
          split at h
          · rename_i rs' hres
            simp only [Option.some.injEq, Prod.mk.injEq] at h
            obtain ⟨rfl, rfl⟩ := h
            refine ⟨he, ?_⟩
            have hi1 : Inv ⟨w, S, fun b => ∃ id, own ρ id (H.get id) b, ρ⟩ S w ρ H.get := ⟨ChgP.refl _ _, fun _ h => h, fun _ h => .inl h, fun id b hb => .inl ⟨id, hb⟩, fun _ _ h => h⟩
            refine enter_go hf hb hl hr hi1 hx (run_ok hT hm k _ _ _ _ _ _ _ ?_)
            rw [hrun]
            intro S' w' ρ' a' hr' hi' hF'
            obtain ⟨rl, hrl⟩ : ∃ l : List ResultVar, fn.results = l.toArray := ⟨fn.results.toList, by simp⟩
            rw [hrl] at hres
            refine ret_go hT (rs := rl) (by cases e <;> simp) hrl hr' hF' (by simpa using hres) fun x hvx => ?_
            have hLR := ret_inv hvx
            obtain ⟨ys, hys, rfl⟩ := hLR
            exact ⟨S', ρ', ys, rfl, hr', hi', hys⟩
          · cases h
        · cases h
      · cases h
    · cases h
  · cases h
end
end Go.Proofs.YteglbnopdedadaaGreat
namespace Go.Proofs.YteglbnopdedadaaGreat
open Go.RowKit Lx Sx
set_option maxRecDepth 100000
def strsB : List (List UInt8) → List V → Bool
  | [], [] => true
  | s :: r, .str l :: q => lEq s l && strsB r q
  | _, _ => false
def leadsB (ls : List (List UInt8)) : V → Bool
  | .nils => ls.isEmpty
  | .row sz els => Nat.beq sz 1 && strsB ls els
  | _ => false
mutual
def treeB : Tree → V → Bool
  | .node k s ls ks, v => match v with
    | .agg [.int .i64 k', .str s', l, r] => iEq k k' && lEq s s' && leadsB ls l && (match r with
      | .nils => ks.isEmpty
      | .row sz els => Nat.beq sz 4 && kidsB ks els
      | _ => false)
    | _ => false
def kidsB : List Tree → List V → Bool
  | [], vs => match vs with
    | [] => true
    | _ => false
  | t :: r, vs => match vs with
    | v :: q => treeB t v && kidsB r q
    | [] => false
end
section
variable {S : Nat → Prop} {w : World}
theorem strsB_ok {ρ : Nat → Option Value} : ∀ {ls : List (List UInt8)} {els : List V} {xs : List Value}, strsB ls els = true → CRel S w ρ 1 els xs → els.length = ls.length ∧ xs = ls.map strV
  | [], [], xs, _, hc => by simp only [CRel] at hc; subst hc; exact ⟨rfl, rfl⟩
  | s :: r, v :: q, xs, hb, hc => by
    cases v <;> simp only [strsB] at hb <;> first | (cases hb; done) | skip
    rename_i l
    simp only [Bool.and_eq_true] at hb
    have hl := hb.1
    rw [lEq_eq] at hl
    simp only [beq_iff_eq] at hl
    subst hl
    simp only [CRel] at hc
    obtain ⟨x, ys, rfl, _, h3, h4⟩ := hc
    simp only [VRel] at h3
    subst h3
    obtain ⟨h5, h6⟩ := strsB_ok hb.2 h4
    exact ⟨by simp [h5], by simp [h6, Value.cells]⟩
  | [], _ :: _, _, hb, _ => by cases hb
  | _ :: _, [], _, hb, _ => by cases hb
theorem leadsB_ok {ρ : Nat → Option Value} {ls : List (List UInt8)} {v : V} {x : Value} (hb : leadsB ls v = true) (hx : VRel S w ρ v x) : ∃ A m, x = .slice A ls.length m ∧ ls.length ≤ m ∧ m ≤ maxLen ∧ RowIn S w 1 A ls.length (ls.map strV) := by
  cases v <;> simp only [leadsB] at hb <;> first | (cases hb; done) | skip
  · simp only [List.isEmpty_iff] at hb
    subst hb
    simp only [VRel] at hx; subst hx
    exact ⟨none, 0, rfl, Nat.le_refl _, by decide, RowIn.none_⟩
  · rename_i sz els
    simp only [Bool.and_eq_true, Nat.beq_eq] at hb
    obtain ⟨rfl, hb⟩ := hb
    simp only [VRel] at hx
    obtain ⟨A, c, xs, rfl, h3, h4, h5, h6⟩ := hx
    obtain ⟨h7, rfl⟩ := strsB_ok hb h5
    rw [h7] at h3 h6 ⊢
    exact ⟨A, c, rfl, h3, h4, h6⟩
mutual
theorem treeB_ok {ρ : Nat → Option Value} : ∀ {t : Tree} {v : V} {x : Value}, treeB t v = true → VRel S w ρ v x → ∃ c, x = .agg c.toArray ∧ TreeIs S w t c
  | .node k s ls ks, v, x, hb, hx => by
    unfold treeB at hb
    split at hb
    · rename_i k' s' l r
      simp only [Bool.and_eq_true] at hb
      obtain ⟨⟨⟨hb1, hb2⟩, hb3⟩, hb4⟩ := hb
      rw [iEq_eq] at hb1
      rw [lEq_eq] at hb2
      simp only [beq_iff_eq] at hb1 hb2
      subst hb1 hb2
      simp only [VRel] at hx
      obtain ⟨xs, rfl, hl⟩ := hx
      simp only [LRel] at hl
      obtain ⟨x0, _, rfl, h0, x1, _, rfl, h1, x2, _, rfl, h2, x3, _, rfl, h3, rfl⟩ := hl
      simp only [VRel] at h0 h1
      subst h0 h1
      obtain ⟨A, m, rfl, g1, g2, g3⟩ := leadsB_ok hb3 h2
      have kk : ∃ B n, x3 = .slice B ks.length n ∧ ks.length ≤ n ∧ n ≤ maxLen ∧ ∃ cs, KidsAre S w ks cs ∧ RowIn S w 4 B ks.length cs := by
        split at hb4
        · simp only [List.isEmpty_iff] at hb4
          subst hb4
          simp only [VRel] at h3; subst h3
          exact ⟨none, 0, rfl, Nat.le_refl _, by decide, [], by simp only [KidsAre], RowIn.none_⟩
        · rename_i sz els
          simp only [Bool.and_eq_true, Nat.beq_eq] at hb4
          obtain ⟨rfl, hb4⟩ := hb4
          simp only [VRel] at h3
          obtain ⟨B, c, ys, rfl, q3, q4, q5, q6⟩ := h3
          obtain ⟨q7, q8⟩ := kidsB_ok hb4 q5
          rw [q7] at q3 q6 ⊢
          exact ⟨B, c, rfl, q3, q4, ys, q8, q6⟩
        · cases hb4
      obtain ⟨B, n, rfl, k1, k2, cs, k3, k4⟩ := kk
      exact ⟨_, rfl, tree_mk g1 g2 k1 k2 g3 k3 k4⟩
    · cases hb
theorem kidsB_ok {ρ : Nat → Option Value} : ∀ {ts : List Tree} {vs : List V} {xs : List Value}, kidsB ts vs = true → CRel S w ρ 4 vs xs → vs.length = ts.length ∧ KidsAre S w ts xs
  | [], vs, xs, hb, hc => by
    unfold kidsB at hb
    split at hb
    · simp only [CRel] at hc; subst hc; exact ⟨rfl, by simp only [KidsAre]⟩
    · cases hb
  | t :: r, vs, xs, hb, hc => by
    unfold kidsB at hb
    split at hb
    · rename_i v q
      simp only [Bool.and_eq_true] at hb
      simp only [CRel] at hc
      obtain ⟨x, ys, rfl, _, h3, h4⟩ := hc
      obtain ⟨c, rfl, hT⟩ := treeB_ok hb.1 h3
      obtain ⟨h5, h6⟩ := kidsB_ok hb.2 h4
      exact ⟨by simp [h5], by simp only [KidsAre]; exact ⟨c, ys, by simp [Value.cells], hT, h6⟩⟩
    · cases hb
end
end
def runG (T : Tab) (k : Nat) (fid : FuncId) (vs : List V) : Option (List V) := match runF T k fid vs ⟨0, []⟩ with
  | some (rs, H1) => frzM 0 H1 rs fun rs' _ => some rs'
  | none => none
theorem get0 (i : Nat) : (⟨0, []⟩ : Hp).get i = .free := by
  unfold Hp.get
  have : Nat.blt i 0 = false := by cases i <;> rfl
  simp only [this]
theorem hrel0 (w : World) : HRel (fun _ => False) w (fun _ => none) (⟨0, []⟩ : Hp).get :=
  ⟨fun i => by rw [get0]; rfl, fun i b hb => by rw [get0] at hb; exact hb.elim, fun i j b hb _ => by rw [get0] at hb; exact hb.elim, fun _ h => h.elim⟩
theorem runG_ok {P : Program} {T : Tab} (hT : TabOk P T) (hm : P.follows .mixedOrders = true) {k : Nat} {fid : FuncId} {vs rs : List V} (h : runG T k fid vs = some rs) {w : World} {xs : List Value} (hx : LRel (fun _ => False) w (fun _ => none) vs xs) :
    Calls P fid xs.toArray w fun e w' => ∃ S' ρ' ys, e = .returned (retV ys) ∧ (∀ b, S' b → w.heap.size ≤ b) ∧ Chg [] w w' ∧ LRel S' w' ρ' rs ys := by
  unfold runG at h
  split at h
  · rename_i rs1 H1 hrun
    obtain ⟨rs2, H2, e1, _, e3⟩ := frzM_ok 0 rs1 H1
    rw [e1] at h
    injection h with h; subst h
    have hr0 := hrel0 w
    refine (runF_ok hT hm hrun hr0 hx).2.mono fun e w' hR => ?_
    obtain ⟨S', ρ', ys, rfl, hr, hi, hl⟩ := hR
    obtain ⟨S2, a1, a2, a3, a4⟩ := e3 _ S' w' ρ' ys hr hi hl
    have hno : ∀ b, ¬ ∃ id, own (fun _ => none) id ((⟨0, []⟩ : Hp).get id) b := fun b ⟨id, hb⟩ => by rw [get0] at hb; exact hb
    refine ⟨S2, ρ', ys, rfl, fun b hb => ?_, ⟨hi.chg.os, hi.chg.tape, hi.chg.output, hi.chg.size, fun b hb _ => hi.chg.block b hb (hno b)⟩, a4⟩
    rcases a2.s1 b hb with h | h | h
    · exact h.elim
    · exact absurd h (hno b)
    · exact h
  · cases h
def natP (fid : FuncId) (vs : List V) : Option V := match Nat.beq fid 115 with
  | true => match vs with
    | [.str s, .int .u8 (.ofNat c)] => intK (Lib.indexByte s c.toUInt8) fun n => some (.int .i64 n)
    | _ => none
  | false => none
noncomputable def tabP : Tab := ⟨true, lookT tyL, lookT fnL, natP, fun f => Nat.beq f 60⟩
theorem tabP_ok : TabOk Tryz.prog tabP := by
  refine ⟨tyL_ok, fnL_ok, fun i vs v hv => ?_⟩
  replace hv : natP i vs = some v := hv
  unfold natP at hv
  split at hv
  · rename_i hb
    have := Nat.eq_of_beq_eq_true hb
    subst this
    split at hv
    · rename_i s c
      rw [intK_eq] at hv
      injection hv with hv; subst hv
      refine ⟨by kernel_rfl, fun S w ρ xs hx => ?_⟩
      simp only [LRel] at hx
      obtain ⟨x0, _, rfl, h0, x1, _, rfl, h1, rfl⟩ := hx
      simp only [VRel] at h0 h1
      subst h0 h1
      exact ⟨_, by simp only [VRel]; rfl, indexByteV _ _ _⟩
    · cases hv
  · cases hv
def parsedB (t : Tree) : Option (List V) → Bool
  | some [v, .int .i64 a, .int .i64 e] => treeB t v && iEq a 0 && iEq e 0
  | _ => false
theorem parse_run {k : Nat} {l : List UInt8} {t : Tree} (h : parsedB t (runG tabP k 36 [.str l]) = true) {w : World} : Calls Tryz.prog 36 [strV l].toArray w fun e w' => ∃ c0 c1 c2 c3, e = .returned (.tuple #[.agg #[c0, c1, c2, c3], .int .i64 0, .int .i64 0]) ∧ TreeIs (fun b => w.heap.size ≤ b) w' t [c0, c1, c2, c3] ∧ Chg [] w w' := by
  unfold parsedB at h
  split at h
  · rename_i v a e hr
    simp only [Bool.and_eq_true, iEq_eq, beq_iff_eq] at h
    obtain ⟨⟨h1, rfl⟩, rfl⟩ := h
    refine (runG_ok tabP_ok (by kernel_rfl) hr (xs := [strV l]) ⟨_, [], rfl, by simp only [VRel], rfl⟩).mono fun e w' hR => ?_
    obtain ⟨S', ρ', ys, rfl, g1, g2, g3⟩ := hR
    simp only [LRel] at g3
    obtain ⟨x0, _, rfl, h0, x1, _, rfl, h2, x2, _, rfl, h3, rfl⟩ := g3
    simp only [VRel] at h2 h3
    subst h2 h3
    obtain ⟨c, rfl, hT⟩ := treeB_ok h1 h0
    have h4 := hT.four
    match c, h4, hT with
    | [c0, c1, c2, c3], _, hT => exact ⟨c0, c1, c2, c3, rfl, hT.keep g1 (fun _ _ _ => rfl), g2⟩
  · cases h
end Go.Proofs.YteglbnopdedadaaGreat
namespace Go.Proofs.YteglbnopdedadaaGreat
open Go.RowKit Lx Sx
section
variable {S : Nat → Prop} {w : World} {ρ : Nat → Option Value}
theorem strs_rel : ∀ ls : List (List UInt8), CRel S w ρ 1 (ls.map .str) (ls.map strV)
  | [] => by simp [CRel]
  | s :: r => by
    simp only [List.map_cons, CRel]
    exact ⟨strV s, r.map strV, by simp [Value.cells, strV], ⟨rfl, rfl⟩, by unfold VRel; rfl, strs_rel r⟩
theorem ints_rel : ∀ ls : List Int, CRel S w ρ 1 (ls.map (V.int .i64)) (ls.map fun z => .int .i64 z)
  | [] => by simp [CRel]
  | s :: r => by
    simp only [List.map_cons, CRel]
    exact ⟨.int .i64 s, _, by simp [Value.cells], ⟨rfl, rfl⟩, by unfold VRel; rfl, ints_rel r⟩
mutual
theorem TreeIs.vrel : ∀ {ρ : Nat → Option Value} {t : Tree} {c : List Value}, TreeIs S w t c → LRel S w ρ (treeC t) c
  | ρ, .node k s ls ks, c, h => by
    simp only [TreeIs] at h
    obtain ⟨A, m, B, n, rfl, h1, h2, h3, h4, h5, cs, h6, h7⟩ := h
    simp only [treeC, Tree.kind, Tree.text, Tree.leads, Tree.kids, LRel, VRel]
    exact ⟨_, _, rfl, rfl, _, _, rfl, rfl, _, _, rfl, ⟨A, m, _, by simp, by simpa using h1, h2, strs_rel ls, by simpa using h5⟩, _, _, rfl, ⟨B, n, cs, by simp [kidsV_len], by simpa [kidsV_len] using h3, h4, KidsAre.crel h6, by simpa [kidsV_len] using h7⟩, rfl⟩
theorem KidsAre.crel : ∀ {ρ : Nat → Option Value} {ts : List Tree} {cs : List Value}, KidsAre S w ts cs → CRel S w ρ 4 (kidsV ts) cs
  | ρ, [], cs, h => by simp only [KidsAre] at h; simp only [kidsV, CRel]; exact h
  | ρ, t :: r, cs, h => by
    simp only [KidsAre] at h
    obtain ⟨c, d, rfl, h1, h2⟩ := h
    simp only [kidsV, CRel, treeV_eq]
    exact ⟨.agg c.toArray, d, by simp [Value.cells], ⟨by simp [Value.cells, h1.four], by simpa [Value.cells] using h1.one⟩, by simp only [VRel]; exact ⟨c, rfl, h1.vrel⟩, KidsAre.crel h2⟩
end
end
theorem c_Parse {k : Nat} {l : List UInt8} {t : Tree} (h : parsedB t (runG tabP k 36 [.str l]) = true) : Sum0 Tryz.prog 36 [.str l] (.tup [.agg (treeC t), .int .i64 0, .int .i64 0]) := by
  refine ⟨rfl, rfl, fun S w ρ xs hr hx => ?_⟩
  simp only [LRel, VRel] at hx
  obtain ⟨x, ys, rfl, rfl, rfl⟩ := hx
  refine (parse_run h (w := w)).mono ?_
  rintro e w' ⟨c0, c1, c2, c3, rfl, hT, hc⟩
  have hT' := hT.bound
  have g := hr.chg0 hc
  refine ⟨_, fun b => S b ∨ (w.heap.size ≤ b ∧ b < w'.heap.size), ρ, _, ⟨0, []⟩, rfl, rfl, ⟨fun i => ?_, fun i b hb => ?_, fun i j b hb _ => ?_, fun b hb => hb.elim (g.slt b) (·.2)⟩, ⟨ChgP.of0 hc, fun _ h => .inl h, fun b hb => hb.elim .inl fun h => .inr (.inr h.1), fun id b hb => .inl ⟨id, hb⟩, fun id x h => ?_⟩, ?_⟩
  · have := g.ob i; rw [get0] at this ⊢; exact this
  · rw [get0] at hb; exact hb.elim
  · rw [get0] at hb; exact hb.elim
  · simp only [pinV] at h
    split at h
    · exact h
    · cases h
  · have hk := TreeIs.vrel (ρ := ρ) (TreeIs.keep (S' := fun b => S b ∨ (w.heap.size ≤ b ∧ b < w'.heap.size)) (fun b hb => .inr hb) (fun _ _ _ => rfl) hT')
    simp only [VRel]
    exact ⟨[.agg #[c0, c1, c2, c3], .int .i64 0, .int .i64 0], rfl, .agg #[c0, c1, c2, c3], _, rfl, by simp only [VRel]; exact ⟨_, rfl, hk⟩, _, _, rfl, by simp only [VRel], _, _, rfl, by simp only [VRel], rfl⟩
theorem law_ints {fid : FuncId} {l : List Int} {b : Bool} (h : Sum0 Tryz.prog fid [.row 1 (l.map (V.int .i64))] (.bool b)) {W : World} {A : Option Addr} {cap : Nat} (hc : l.length ≤ cap) (hm : cap ≤ maxLen) (hr : RowIn Any W 1 A l.length (l.map fun z => .int .i64 z)) : Calls Tryz.prog fid #[.slice A l.length cap] W fun e W' => e = .returned (.bool b) ∧ Ext W W' := by
  have h0 := hrel0 W
  have hr' : HRel (fun b => b < W.heap.size) W (fun _ => none) (⟨0, []⟩ : Hp).get := ⟨h0.ob, fun i b hb => by rw [get0] at hb; exact hb.elim, fun i j b hb _ => by rw [get0] at hb; exact hb.elim, fun _ h => h⟩
  have hrow : RowIn (fun b => b < W.heap.size) W 1 A l.length (l.map fun z => .int .i64 z) := ⟨hr.1, fun hp => by
    obtain ⟨b, off, h1, _, h3, h4⟩ := hr.2 hp
    exact ⟨b, off, h1, h3, h3, h4⟩⟩
  refine (h.2.2 _ W _ [.slice A l.length cap] hr' ?_).mono ?_
  · simp only [LRel]
    exact ⟨_, _, rfl, by simp only [VRel]; exact ⟨A, cap, _, by simp, by simpa using hc, hm, ints_rel l, by simpa using hrow⟩, rfl⟩
  · rintro e W' ⟨x, S', ρ', v, H', rfl, rfl, h1, h2, h3⟩
    simp only [VRel] at h3
    subst h3
    have hno : ∀ b, ¬ ∃ id, own (fun _ => none) id ((⟨0, []⟩ : Hp).get id) b := fun b ⟨id, hb⟩ => by rw [get0] at hb; exact hb
    exact ⟨rfl, Chg.ext ⟨h2.chg.os, h2.chg.tape, h2.chg.output, h2.chg.size, fun b hb _ => h2.chg.block b hb (hno b)⟩⟩
end Go.Proofs.YteglbnopdedadaaGreat
namespace Go.Proofs.YteglbnopdedadaaGreat
open Go.RowKit Lx Sx
set_option maxRecDepth 100000
def usesK (M D : Int) : List GTarget → List GPlace
  | [] => []
  | x :: r => if x.Free = false ∧ x.Module = M ∧ x.Def = D then x.Use :: usesK M D r else usesK M D r
theorem targetsK_len (p : List Tree) : (targetsK p).length ≤ kbulk p := by
  unfold targetsK; split
  · exact targK_len p 0 p
  · simp
theorem c_Uses (p : List Tree) (hp : kbulk p ≤ 100000000) (M D : Int) : S_link_Uses p M D (usesK M D (targetsK p)) := by
  have ht := targetsK_len p
  obtain ⟨T, hT⟩ : ∃ T, T = targetsK p := ⟨_, rfl⟩
  rw [← hT] at ht ⊢
  have loop : ∀ m i l, T.length - i ≤ m → l.length ≤ i → L0_link_Uses (m + 1) M D T l i (l ++ usesK M D (T.drop i)) := fun m => by
    induction m with
    | zero =>
      intro i l hi hl
      refine rL0_link_Uses 0 _ _ _ _ _ _ ⟨fun h => by omega, fun h => ?_⟩
      rw [List.drop_of_length_le (by omega)]; simp [usesK]
    | succ m ihm =>
      intro i l hi hl
      refine rL0_link_Uses (m + 1) _ _ _ _ _ _ ⟨fun h => ?_, fun h => ?_⟩
      · obtain ⟨u, hu, _⟩ | h' := get_or T i
        · rw [drop_get hu, usesK]
          refine ⟨u, hu, fun h1 => ⟨fun h2 => ⟨fun h3 => ?_, fun h3 => ?_⟩, fun h2 => ?_⟩, fun h1 => ?_⟩
          · rw [if_pos ⟨h1, h2, h3⟩]
            refine ⟨by simp; omega, by omega, ?_⟩
            have := ihm (i + 1) (l ++ [u.Use]) (by omega) (by simp; omega)
            simpa using this
          · rw [if_neg (fun h => h3 h.2.2)]
            exact ⟨by omega, ihm (i + 1) l (by omega) (by omega)⟩
          · rw [if_neg (fun h => h2 h.2.1)]
            exact ⟨by omega, ihm (i + 1) l (by omega) (by omega)⟩
          · rw [if_neg (fun h => by rw [h1] at h; cases h.1)]
            exact ⟨by omega, ihm (i + 1) l (by omega) (by omega)⟩
        · exact absurd h h'
      · rw [List.drop_of_length_le (by omega)]; simp [usesK]
  exact rS_link_Uses (T.length + 1) _ _ _ _ ⟨T, hT ▸ c_Targets p hp, by simpa using loop T.length 0 [] (by omega) (by simp)⟩
theorem c_SamePath (l : List Int) : S_semvcsref03_SamePath l l true := by
  have loop : ∀ m i, l.length - i ≤ m → L0_semvcsref03_SamePath (m + 1) l l i true := fun m => by
    induction m with
    | zero => intro i hi; exact rL0_semvcsref03_SamePath 0 _ _ _ _ ⟨fun h => by omega, fun h => rfl⟩
    | succ m ihm =>
      intro i hi
      refine rL0_semvcsref03_SamePath (m + 1) _ _ _ _ ⟨fun h => ?_, fun h => rfl⟩
      obtain ⟨u, hu, _⟩ | h' := get_or l i
      · exact ⟨u, hu, u, hu, fun h => absurd rfl h, fun _ => ihm (i + 1) (by omega)⟩
      · exact absurd h h'
  exact rS_semvcsref03_SamePath (l.length + 1) _ _ _ ⟨fun h => absurd rfl h, fun _ => loop l.length 0 (by omega)⟩
theorem c_samePlace (x : GPlace) : S_semvcslaw06_samePlace x x true := rS_semvcslaw06_samePlace 0 _ _ _ ⟨fun _ => ⟨_, c_SamePath _, rfl⟩, fun h => absurd rfl h⟩
theorem c_sameTargets (l : List GTarget) : S_semvcslaw06_sameTargets l l true := by
  have loop : ∀ m i, l.length - i ≤ m → L0_semvcslaw06_sameTargets (m + 1) l l i true := fun m => by
    induction m with
    | zero => intro i hi; exact rL0_semvcslaw06_sameTargets 0 _ _ _ _ ⟨fun h => by omega, fun h => rfl⟩
    | succ m ihm =>
      intro i hi
      refine rL0_semvcslaw06_sameTargets (m + 1) _ _ _ _ ⟨fun h => ?_, fun h => rfl⟩
      obtain ⟨u, hu, _⟩ | h' := get_or l i
      · exact ⟨u, hu, u, hu, _, c_samePlace _, fun h => (by cases h), fun _ => ⟨u, hu, u, hu, fun h => absurd rfl h, fun _ => ⟨u, hu, u, hu, fun h => absurd rfl h, fun _ => ⟨u, hu, u, hu, fun h => absurd rfl h, fun _ => ihm (i + 1) (by omega)⟩⟩⟩⟩
      · exact absurd h h'
  exact rS_semvcslaw06_sameTargets (l.length + 1) _ _ _ ⟨fun h => absurd rfl h, fun _ => loop l.length 0 (by omega)⟩
theorem c_Light (l : List Int) : S_semvcsmake_Light l (decide (((l.length : Nat) : Int) ≤ 120)) := rS_semvcsmake_Light 0 _ _ rfl
def awkSA : List UInt8 := [109, 111, 100, 117, 108, 101, 32, 65, 32, 100, 101, 102, 32, 102, 40, 41, 58, 32, 73, 110, 116, 32, 61, 32, 66, 46, 103, 40, 102, 40, 41, 41]
def awkSB : List UInt8 := [109, 111, 100, 117, 108, 101, 32, 66, 32, 100, 101, 102, 32, 103, 40, 120, 58, 32, 73, 110, 116, 41, 58, 32, 73, 110, 116, 32, 61, 32, 102, 40, 41]
def awkTA : Tree := (parseT awkSA).1
def awkTB : Tree := (parseT awkSB).1
theorem awkA_run : parsedB awkTA (runG tabP 5000 36 [.str awkSA]) = true := by kernel_rfl
theorem awkB_run : parsedB awkTB (runG tabP 5000 36 [.str awkSB]) = true := by kernel_rfl
theorem awk_bulk : kbulk [awkTA, awkTB] ≤ 100000000 := by decide +kernel
theorem awk_tg : (targetsK [awkTA, awkTB]).map (fun g => (g.Free, g.Module)) = [(false, 1), (false, 0), (true, 0)] := by decide +kernel
theorem awk_us : (usesK 0 0 (targetsK [awkTA, awkTB])).length = 1 := by decide +kernel
theorem c_awake6 : S_semvcslaw06_awake true := by
  have hb := awk_bulk
  have h := awk_tg
  obtain ⟨T, hT⟩ : ∃ T, T = targetsK [awkTA, awkTB] := ⟨_, rfl⟩
  have h1 := c_Targets [awkTA, awkTB] hb
  have h2 := c_Uses [awkTA, awkTB] hb 0 0
  have h3 := awk_us
  rw [← hT] at h h1 h2 h3
  match T, h with
  | [x, y, z], h =>
    simp only [List.map_cons, List.map_nil, List.cons.injEq, Prod.mk.injEq, and_true] at h
    obtain ⟨⟨a1, a2⟩, _, a3, a4⟩ := h
    exact rS_semvcslaw06_awake 0 _ ⟨awkTA, 0, 0, c_Parse awkA_run, awkTB, 0, 0, c_Parse awkB_run, _, h1, fun _ => ⟨fun _ => ⟨fun _ => ⟨x, rfl, fun _ => ⟨x, rfl, fun _ => ⟨z, rfl, fun _ => ⟨_, h2, by rw [h3]; rfl⟩, fun h => by rw [a3] at h; cases h⟩, fun h => absurd a2 h⟩, fun h => by rw [a1] at h; cases h⟩, fun h => absurd rfl h⟩, fun h => absurd rfl h⟩, fun h => absurd rfl h⟩
theorem c_LinkTargets (l : List Int) : S_semvcslaw06_LinkTargets l true := by
  refine rS_semvcslaw06_LinkTargets 0 _ _ ⟨_, c_Light l, fun _ => ⟨_, c_awake6, rfl⟩, fun h => ?_⟩
  have hl := of_decide_eq_true h
  obtain ⟨p, h1, h2⟩ := c_Program l (by omega)
  exact ⟨p, h1, _, c_awake6, fun _ => ⟨_, c_Targets p (by omega), _, c_TargetsR p (by omega), _, c_sameTargets _, rfl⟩, fun h => by cases h⟩
end Go.Proofs.YteglbnopdedadaaGreat
namespace Go.Proofs.YteglbnopdedadaaGreat
open Go.RowKit Go.ChangeShapes Go.WideShapes Go.Deep
theorem cellsIntO : Tryz.prog.cellsOf 3 = 1 := by kernel_rfl
theorem open_intRow {H : Type} {enc : TypeId × Value → H} {W : World} {a0 : Option Addr} {len cap : Nat} {d : DataW H} {p : List MemPlace} (h : DataW.Trod enc Tryz.prog W 0 (fun _ => true) true 22 (.slice a0 len cap) d p) :
    ∃ zs : List Int, len = zs.length ∧ len ≤ cap ∧ cap ≤ maxLen ∧ RowIn Any W 1 a0 zs.length (zs.map fun z => .int .i64 z) := by
  obtain ⟨fuel, hf⟩ := h
  rcases open_ints Tryz.underlying22 Tryz.underlying3 cellsIntO hf with ⟨hcs, hx⟩ | ⟨a, len', cap', zs, hcs, hb, hl, hm, hlen, hx, hcell, hwf⟩
  · simp [Value.cells] at hcs
    obtain ⟨rfl, rfl, rfl⟩ := hcs
    exact ⟨[], rfl, Nat.le_refl _, Nat.zero_le _, RowIn.none_⟩
  · simp [Value.cells] at hcs
    obtain ⟨rfl, rfl, rfl⟩ := hcs
    simp only [if_true] at hlen
    have hlt : (zs.take len).length = len := by simp; omega
    refine ⟨zs.take len, hlt.symm, hl, hm, by simp, fun h0 => ?_⟩
    rw [hlt] at h0 ⊢
    have hs : a.spot = none := World.cell?_spot (a := a) (by have := hcell 0 (by omega); simpa [Addr.add] using this)
    obtain ⟨b, off, spot⟩ := a
    simp only at hs
    subst hs
    have hadd : ∀ k, (⟨b, off, none⟩ : Addr).add k = ⟨b, off + k, none⟩ := fun k => by unfold Addr.add; split <;> simp_all
    refine ⟨b, off, rfl, trivial, ?_, fun j hj => ?_⟩
    · have := hcell 0 (by omega)
      exact World.block_lt_of_cell? W ⟨b, off, none⟩ (by simpa [Addr.add] using this)
    · have hj' : j < len := by omega
      have := hcell j (by omega)
      rw [hadd] at this
      rw [this]
      simp [hj', List.getD_eq_getElem?_getD, show j < zs.length from by omega]
end Go.Proofs.YteglbnopdedadaaGreat
