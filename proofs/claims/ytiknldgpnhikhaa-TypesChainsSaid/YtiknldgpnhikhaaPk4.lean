/- Contracts of the functions that the law reaches, part 4. -/
import Derived.Test.YtiknldgpnhikhaaPk3
set_option linter.unusedVariables false
set_option linter.unusedSimpArgs false
namespace Go.Proofs.Ytiknldgpnhikhaa
open Go.RowKit
def bm (R : List Nat) (l : List (Nat × Ob)) : List (Nat × Ob) := l.filter fun p => cJ p.1 R
def ung : Ob → Ob
  | .free => .gone
  | o => o
def bA (nx : Nat) (R : List Nat) (l : List (Nat × Ob)) : List (Nat × Ob) := (l.filter fun p => !cJ p.1 R && Nat.blt p.1 nx).map fun p => (p.1, ung p.2)
theorem gU {α : Type} {R : List Nat} : ∀ (l : List (Nat × Ob)) (c : List (Nat × Ob) → α), iN R l c = c (bm R l)
  | [], c => rfl
  | (i, o) :: r, c => by
    simp only [iN]
    cases h : cJ i R
    · simp only; rw [gU r]; simp [bm, h]
    · simp only; rw [gU r]; simp [bm, h]
theorem hI {α : Type} {nx : Nat} {R : List Nat} : ∀ (l : List (Nat × Ob)) (c : List (Nat × Ob) → α), g8 nx R l c = c (bA nx R l)
  | [], c => rfl
  | (i, o) :: r, c => by
    simp only [g8]
    cases h : (!cJ i R && Nat.blt i nx)
    · simp only; rw [hI r]; simp only [bA, List.filter_cons, h]; rfl
    · cases o <;> (simp only; rw [hI r]; simp only [bA, List.filter_cons, h]; rfl)
theorem gl {R : List Nat} {i : Nat} : ∀ {l : List (Nat × Ob)}, ah (bm R l) i = ah l i ∨ (cJ i R = false ∧ ah (bm R l) i = .gone)
  | [] => .inl rfl
  | (j, o) :: r => by
    by_cases hj : j = i
    · subst hj
      cases h : cJ j R
      · right
        refine ⟨rfl, ?_⟩
        have ih := gl (R := R) (i := j) (l := r)
        simp only [bm, List.filter_cons, h] at ih ⊢
        simp only [Bool.false_eq_true, if_false]
        clear ih
        have key : ∀ (l : List (Nat × Ob)), ah (l.filter fun p => cJ p.1 R) j = .gone := by
          intro l
          induction l with
          | nil => rfl
          | cons q t ih =>
            obtain ⟨k, o'⟩ := q
            simp only [List.filter_cons]
            split
            · rename_i hk
              have : k ≠ j := fun e => by subst e; simp [h] at hk
              simp only [ah, nbF this]; exact ih
            · exact ih
        exact key r
      · left
        simp only [bm, List.filter_cons, h, if_true, ah, nbT]
    · have ih := gl (R := R) (i := i) (l := r)
      simp only [bm, List.filter_cons]
      split
      · simp only [ah, nbF hj]; exact ih
      · simp only [ah, nbF hj]; exact ih
theorem k9 {R : List Nat} {i : Nat} (h : cJ i R = false) (l : List (Nat × Ob)) : ah (bm R l) i = .gone := by
  induction l with
  | nil => rfl
  | cons q t ih =>
    obtain ⟨k, o'⟩ := q
    simp only [bm, List.filter_cons]
    split
    · rename_i hk
      have : k ≠ i := fun e => by subst e; simp [h] at hk
      simp only [ah, nbF this]; exact ih
    · exact ih
theorem po {nx : Nat} {R : List Nat} {i : Nat} (l : List (Nat × Ob)) : ah (bA nx R l) i = if (!cJ i R && Nat.blt i nx) = true then ung (ah l i) else .gone := by
  induction l with
  | nil => simp [bA, ah, ung]
  | cons q t ih =>
    obtain ⟨k, o⟩ := q
    by_cases hk : k = i
    · subst hk
      cases h : (!cJ k R && Nat.blt k nx)
      · rw [h] at ih
        simp only [bA, List.filter_cons, h, Bool.false_eq_true, if_false] at ih ⊢
        exact ih
      · simp only [bA, List.filter_cons, h, if_true, List.map_cons, ah, nbT]
    · have e : ah ((k, o) :: t) i = ah t i := by simp only [ah, nbF hk]
      rw [e, ← ih]
      simp only [bA, List.filter_cons]
      split
      · simp only [List.map_cons, ah, nbF hk]
      · rfl
section
variable {P : Program} {T : Tab} {K : Ctx} {Q : Exit → Act → World → Prop} {s : List EI} {n : Nat} {F : Fm} {H : Hp}
theorem nq (lo : Nat) (H : Hp) (v : V) : ∃ v' H', (∀ (α : Type) (c : V → Hp → α), n7 lo H v c = c v' H') ∧ H'.nx = H.nx ∧ (∀ K S w ρ x, HRel S w ρ H.get → Inv K S w ρ H.get → VRel S w ρ v x → ∃ S', HRel S' w ρ H'.get ∧ Inv K S' w ρ H'.get ∧ Up S S' w w ρ ρ ∧ VRel S' w ρ v' x) := by
  have triv : ∃ v' H', (∀ (α : Type) (c : V → Hp → α), c v H = c v' H') ∧ H'.nx = H.nx ∧ (∀ K S w ρ x, HRel S w ρ H.get → Inv K S w ρ H.get → VRel S w ρ v x → ∃ S', HRel S' w ρ H'.get ∧ Inv K S' w ρ H'.get ∧ Up S S' w w ρ ρ ∧ VRel S' w ρ v' x) := ⟨v, H, fun _ _ => rfl, rfl, fun K S w ρ x h1 h2 h3 => ⟨S, h1, h2, Up.refl, h3⟩⟩
  cases v with
  | sl id =>
    simp only [n7]
    split
    · split
      · rename_i e sz els ho
        split
        · rename_i hpu
          refine ⟨.row sz els, ⟨H.nx, eV id H.es⟩, fun α c => by rw [iH], rfl, fun K S w ρ x hr hi hx => ?_⟩
          have hg : (⟨H.nx, eV id H.es⟩ : Hp).get = aX H.get id .gone := by
            funext i
            unfold Hp.get
            by_cases hii : i = id
            · subst hii
              rw [aE]
              simp only []
              have hlt : Nat.blt i H.nx = true := by
                unfold Hp.get at ho
                split at ho
                · assumption
                · cases ho
              rw [hlt]
              simp only [eo, if_true]
            · rw [aY _ _ hii]
              simp only [eo, if_neg hii]
          refine ⟨_, by rw [hg]; exact (co hr).1, by rw [hg]; exact hi.frz hr id, (co hr).2, jD hr ho hpu hx⟩
        · exact triv
      · exact triv
    · exact triv
  | _ => exact triv
theorem mX (lo : Nat) : ∀ (vs : List V) (H : Hp), ∃ vs' H', (∀ (α : Type) (c : List V → Hp → α), og lo H vs c = c vs' H') ∧ H'.nx = H.nx ∧ (∀ K S w ρ xs, HRel S w ρ H.get → Inv K S w ρ H.get → LRel S w ρ vs xs → ∃ S', HRel S' w ρ H'.get ∧ Inv K S' w ρ H'.get ∧ Up S S' w w ρ ρ ∧ LRel S' w ρ vs' xs)
  | [], H => ⟨[], H, fun _ _ => rfl, rfl, fun K S w ρ x h1 h2 h3 => ⟨S, h1, h2, Up.refl, h3⟩⟩
  | v :: r, H => by
    obtain ⟨v', H1, e1, n1, k1⟩ := nq lo H v
    obtain ⟨r', H2, e2, n2, k2⟩ := mX lo r H1
    refine ⟨v' :: r', H2, fun α c => by simp only [og, e1, e2], n2.trans n1, fun K S w ρ xs hr hi hx => ?_⟩
    simp only [LRel] at hx
    obtain ⟨x, ys, rfl, h1, h2⟩ := hx
    obtain ⟨S1, a1, a2, a3, a4⟩ := k1 K S w ρ x hr hi h1
    obtain ⟨S2, b1, b2, b3, b4⟩ := k2 K S1 w ρ ys a1 a2 (h2.up a3)
    exact ⟨S2, b1, b2, ⟨fun b hb => b3.s b (a3.s b hb), fun _ _ _ => rfl, fun _ _ h => h⟩, x, ys, rfl, a4.up b3, b4⟩
theorem qX (lo : Nat) (H : Hp) (v : V) : ∃ v' H', (∀ (α : Type) (c : V → Hp → α), qb lo H v c = c v' H') ∧ H'.nx = H.nx ∧ (∀ K S w ρ x, HRel S w ρ H.get → Inv K S w ρ H.get → VRel S w ρ v x → ∃ S', HRel S' w ρ H'.get ∧ Inv K S' w ρ H'.get ∧ Up S S' w w ρ ρ ∧ VRel S' w ρ v' x) := by
  have h0 := nq lo H v
  cases v
  case agg cs =>
    obtain ⟨vs', H', e, hn, k⟩ := mX lo cs H
    refine ⟨.agg vs', H', fun α c => by simp only [qb, e], hn, fun K S w ρ x hr hi hx => ?_⟩
    simp only [VRel] at hx
    obtain ⟨xs, rfl, h1⟩ := hx
    obtain ⟨S', a1, a2, a3, a4⟩ := k K S w ρ xs hr hi h1
    exact ⟨S', a1, a2, a3, by simp only [VRel]; exact ⟨xs, rfl, a4⟩⟩
  all_goals exact h0
theorem kg (lo : Nat) : ∀ (vs : List V) (H : Hp), ∃ vs' H', (∀ (α : Type) (c : List V → Hp → α), me lo H vs c = c vs' H') ∧ H'.nx = H.nx ∧ (∀ K S w ρ xs, HRel S w ρ H.get → Inv K S w ρ H.get → LRel S w ρ vs xs → ∃ S', HRel S' w ρ H'.get ∧ Inv K S' w ρ H'.get ∧ Up S S' w w ρ ρ ∧ LRel S' w ρ vs' xs)
  | [], H => ⟨[], H, fun _ _ => rfl, rfl, fun K S w ρ x h1 h2 h3 => ⟨S, h1, h2, Up.refl, h3⟩⟩
  | v :: r, H => by
    obtain ⟨v', H1, e1, n1, k1⟩ := qX lo H v
    obtain ⟨r', H2, e2, n2, k2⟩ := kg lo r H1
    refine ⟨v' :: r', H2, fun α c => by simp only [me, e1, e2], n2.trans n1, fun K S w ρ xs hr hi hx => ?_⟩
    simp only [LRel] at hx
    obtain ⟨x, ys, rfl, h1, h2⟩ := hx
    obtain ⟨S1, a1, a2, a3, a4⟩ := k1 K S w ρ x hr hi h1
    obtain ⟨S2, b1, b2, b3, b4⟩ := k2 K S1 w ρ ys a1 a2 (h2.up a3)
    exact ⟨S2, b1, b2, ⟨fun b hb => b3.s b (a3.s b hb), fun _ _ _ => rfl, fun _ _ h => h⟩, x, ys, rfl, a4.up b3, b4⟩
variable {all : Array Oper} {rest : List Oper} {o : Oper} {u : V} {H' : Hp}
theorem sw {ok : Bool} (hw : ay F all o.guard = some true) (hx : gj P K o [] ok n F H u H') (k : Go P K Q (.ops all rest) s n (F.seto o.dst (some u)) H') : Go P K Q (.ops all (o :: rest)) s n F H := fun S w ρ a hr hi hF => by
  show wpList P all (bc P Q s) (o :: rest) a w
  unfold wpList
  rw [if_pos (aN hF hw)]
  exact .inl (hx S w ρ a hr hi hF _ _ fun x S' w' ρ' hr' hi' hu _ _ hv => k S' w' ρ' _ hr' hi' (aV (hF.up hu) o.dst hv))
variable {L : List Nat} {m left i : Nat} {listed : Array Bool}
theorem sC (hrd : Region.ready .any all listed = [i]) (hi : all[i]? = some o) (hw : ay F all o.guard = some true) (hx : gj P K o L ((listed.setIfInBounds i true).getD m false) n F H u H') (k : Go P K Q (.drw all L m left (listed.setIfInBounds i true)) s n (F.seto o.dst (some u)) H') : Go P K Q (.drw all L m (left + 1) listed) s n F H := fun S w ρ a hr hiv hF hs => by
  refine eB (S := S) hrd ?_
  unfold wpOp
  simp only [hi]
  rw [if_pos (aN hF hw)]
  exact .inl (hx S w ρ a hr hiv hF _ _ fun x S' w' ρ' hr' hi' hu hA hL hv => eh hu hA hL (k S' w' ρ' _ hr' hi' (aV (hF.up hu) o.dst hv) hs))
def cV (P : Program) (K : Ctx) (Q : Exit → Act → World → Prop) (n : Nat) : Rs → Prop
  | .ok e F H => ∀ S w ρ a, HRel S w ρ H.get → Inv K S w ρ H.get → FRel S w ρ a n F → Q (match e with | true => .ret | false => .normal) a w
  | .pt p s F H => Go P K Q p s n F H
  | .er _ _ => False
variable {ih : EP → List EI → Fm → Hp → Rs}
theorem mV {S : Nat → Prop} {w : World} {ρ : Nat → Option Value} {x : Value} : ∀ {rs : List V}, VRel S w ρ (ev rs) x → ∃ ys, LRel S w ρ rs ys ∧ x = iC ys
  | [], hvx => by simp only [ev, VRel] at hvx; obtain ⟨ys, rfl, h1⟩ := hvx; exact ⟨ys, h1, by simp only [LRel] at h1; subst h1; rfl⟩
  | [v], hvx => ⟨[x], ⟨x, [], rfl, hvx, rfl⟩, rfl⟩
  | v :: u :: r, hvx => by
    simp only [ev, VRel] at hvx; obtain ⟨ys, rfl, h1⟩ := hvx
    refine ⟨ys, h1, ?_⟩
    simp only [LRel] at h1
    obtain ⟨_, _, rfl, _, _, _, rfl, _⟩ := h1
    rfl
theorem pU (hT : TabOk P T) (IH : ∀ p s F H K Q n, cV P K Q n (ih p s F H) → Go P K Q p s n F H) {X : Rs → Prop} (hX : ∀ n m, ¬ X (.er n m)) {keep ok : Bool} {vs : List V} {fid : FuncId} {fn : Func} {b : Code} {c : V → Hp → Rs} (hf : P.funcs[fid]? = some fn) (hb : fn.body = some b) (hl : Nat.ble vs.length fn.ntmps = true)
    (h : X (ox T ih keep vs fn b H L ok c)) : ∃ u H' L', (L' = L ∨ ok = true) ∧ CallR P K fid vs H L' (fun u' H'' => u' = u ∧ H'' = H') ∧ X (c u H') := by
  unfold ox at h
  simp only [] at h
  generalize hR : e7 H 40 (hE vs []) [] = R at h
  split at h
  · rename_i hok
    rw [gU] at h
    split at h
    · rename_i e F1 H1 hrun
      split at h
      · rename_i rs hres
        split at h
        · rename_i hnx
          have hnx' : H.nx ≤ H1.nx := Nat.le_of_ble_eq_true hnx
          -- the objects that the call gets
          have hin : ∀ i, (⟨H.nx, bm R H.es⟩ : Hp).get i = H.get i ∨ (⟨H.nx, bm R H.es⟩ : Hp).get i = .gone := fun i => by
            unfold Hp.get
            simp only []
            split
            · rcases gl (R := R) (i := i) (l := H.es) with e | ⟨_, e⟩
              · exact .inl e
              · exact .inr e
            · exact .inl rfl
          have hout : ∀ i, cJ i R = false → Nat.blt i H.nx = true → (⟨H.nx, bm R H.es⟩ : Hp).get i = .gone := fun i hi hlt => by
            unfold Hp.get
            simp only [hlt]
            exact k9 hi _
          -- the objects behind the call
          have key : ∀ (H2 : Hp) (es3 : List (Nat × Ob)), H2.nx = H1.nx → (∀ i, ah es3 i = ah H2.es i ∨ ah es3 i = .gone) → ∀ i, ((⟨H2.nx, es3 ++ bA H.nx R H.es⟩ : Hp).get i = H2.get i ∨ (⟨H2.nx, es3 ++ bA H.nx R H.es⟩ : Hp).get i = .gone) ∨ ((⟨H2.nx, es3 ++ bA H.nx R H.es⟩ : Hp).get i = H.get i ∧ (⟨H.nx, bm R H.es⟩ : Hp).get i = .gone ∧ H.get i ≠ .free) := fun H2 es3 hn h3 i => by
            by_cases hlt2 : Nat.blt i H2.nx = true
            · have e0 : (⟨H2.nx, es3 ++ bA H.nx R H.es⟩ : Hp).get i = ah (es3 ++ bA H.nx R H.es) i := by unfold Hp.get; simp only [hlt2]
              have e2 : H2.get i = ah H2.es i := by unfold Hp.get; rw [hlt2]
              rw [e0, e2]
              rcases mz es3 (bA H.nx R H.es) i with e | ⟨e', e⟩
              · rw [e]
                rcases h3 i with h3 | h3
                · exact .inl (.inl h3)
                · exact .inl (.inr h3)
              · rw [e]
                rw [po]
                cases hm : (!cJ i R && Nat.blt i H.nx)
                · exact .inl (.inr (by simp))
                · have hm' := hm
                  simp only [Bool.and_eq_true, Bool.not_eq_true'] at hm'
                  have eH : H.get i = ah H.es i := by unfold Hp.get; rw [hm'.2]
                  rw [if_pos rfl]
                  cases hf : ah H.es i
                  case free => exact .inl (.inr rfl)
                  all_goals exact .inr ⟨by rw [eH, hf]; rfl, hout i hm'.1 hm'.2, by rw [eH, hf]; simp⟩
            · have e0 : (⟨H2.nx, es3 ++ bA H.nx R H.es⟩ : Hp).get i = .free := by
                unfold Hp.get; simp only [Bool.not_eq_true] at hlt2; simp only [hlt2]
              have e2 : H2.get i = .free := by unfold Hp.get; simp only [Bool.not_eq_true] at hlt2; rw [hlt2]
              exact .inl (.inl (by rw [e0, e2]))
          -- what holds behind the call
          have fin : ∀ (H2 : Hp) (es3 : List (Nat × Ob)) (rs2 : List V), H2.nx = H1.nx → (∀ i, ah es3 i = ah H2.es i ∨ ah es3 i = .gone) →
              (∀ K S w ρ xs, HRel S w ρ H1.get → Inv K S w ρ H1.get → LRel S w ρ rs xs → ∃ S', HRel S' w ρ H2.get ∧ Inv K S' w ρ H2.get ∧ Up S S' w w ρ ρ ∧ LRel S' w ρ rs2 xs) →
              ∃ L', (L' = L ∨ ok = true) ∧ CallR P K fid vs H L' (fun u' H'' => u' = ev rs2 ∧ H'' = ⟨H2.nx, es3 ++ bA H.nx R H.es⟩) := fun H2 es3 rs2 hn h3 hfz => by
            have main : ∀ L', (∀ (S : Nat → Prop) (w : World) (ρ : Nat → Option Value), HRel S w ρ H.get → L' = [] ∨ (a8 H.get L' = true ∧ ∀ id, id ∈ L' → (⟨H.nx, bm R H.es⟩ : Hp).get id = .gone)) → CallR P K fid vs H L' (fun u' H'' => u' = ev rs2 ∧ H'' = ⟨H2.nx, es3 ++ bA H.nx R H.es⟩) := fun L' hL' S w ρ xs hr hi hx => by
              have hr1 := hr.drop (h' := (⟨H.nx, bm R H.es⟩ : Hp).get) hin
              have hi1 : Inv ⟨w, S, fun b => ∃ id, own ρ id ((⟨H.nx, bm R H.es⟩ : Hp).get id) b, ρ⟩ S w ρ (⟨H.nx, bm R H.es⟩ : Hp).get := ⟨ChgP.refl _ _, fun _ h => h, fun _ h => .inl h, fun id b hb => .inl ⟨id, hb⟩, fun _ _ h => h⟩
              refine jd hf hb hl hr1 hi1 hx (IH _ _ _ _ _ _ _ ?_)
              rw [hrun]
              intro S' w' ρ' a' hr' hi' hF'
              obtain ⟨rl, hrl⟩ : ∃ l : List ResultVar, fn.results = l.toArray := ⟨fn.results.toList, by simp⟩
              rw [hrl] at hres
              refine ret_go hT (rs := rl) (by cases e <;> simp) hrl hr' hF' (by simpa using hres) fun x hvx => ?_
              have hLR := mV hvx
              obtain ⟨ys, hys, rfl⟩ := hLR
              obtain ⟨S2, a1, a2, a3, a4⟩ := hfz _ S' w' ρ' ys hr' hi' hys
              obtain ⟨m1, m2, m3, m4⟩ := lJ (h1 := (⟨H.nx, bm R H.es⟩ : Hp).get) (h2 := (⟨H2.nx, es3 ++ bA H.nx R H.es⟩ : Hp).get) hr hi hin a1 a2 (key H2 es3 hn h3)
              refine ⟨_, S2, ρ', _, _, rfl, ⟨rfl, rfl⟩, m1, m2, m3, mZ a4, ?_⟩
              rcases hL' S w ρ hr with rfl | ⟨g1, g2⟩
              · intro id hid; simp at hid
              · exact m4 L' g1 g2
            rcases j5 hok with hok | hok
            · simp only [Bool.and_eq_true] at hok
              refine ⟨L, .inl rfl, main L fun S w ρ hr => .inr ⟨hok.1, fun id hid => ?_⟩⟩
              have hmem := List.all_eq_true.1 hok.2 id hid
              simp only [Bool.not_eq_true'] at hmem
              by_cases hlt : Nat.blt id H.nx = true
              · exact hout id hmem hlt
              · exfalso
                have hfree : H.get id = .free := by unfold Hp.get; simp only [Bool.not_eq_true] at hlt; rw [hlt]
                have hnl : ∀ (l : List Nat), id ∈ l → a8 H.get l = true → False := by
                  intro l
                  induction l with
                  | nil => intro h; simp at h
                  | cons j t ih =>
                    intro hm hl
                    simp only [a8] at hl
                    rcases List.mem_cons.1 hm with e | e
                    · subst e; rw [hfree] at hl; cases hl
                    · split at hl
                      · exact ih e hl
                      · exact ih e hl
                      · cases hl
                exact hnl L hid hok.1
            · exact ⟨[], .inr hok, main [] fun _ _ _ _ => .inl rfl⟩
          split at h
          · rw [hI] at h
            obtain ⟨L', g1, g2⟩ := fin H1 H1.es rs rfl (fun i => .inl rfl) (fun K S w ρ xs h1 h2 h3 => ⟨S, h1, h2, Up.refl, h3⟩)
            exact ⟨_, _, L', g1, g2, h⟩
          · obtain ⟨rs2, H2, e1, e2, e3⟩ := kg H.nx rs H1
            rw [e1] at h
            rw [gU, hI] at h
            obtain ⟨L', g1, g2⟩ := fin H2 (bm _ H2.es) rs2 e2 (fun i => by
              rcases gl (R := e7 H2 60 (hE rs2 R) []) (i := i) (l := H2.es) with e | ⟨_, e⟩
              · exact .inl e
              · exact .inr e) e3
            exact ⟨_, _, L', g1, g2, h⟩
        · exact absurd h (hX _ _)
      · exact absurd h (hX _ _)
    · exact absurd h (hX _ _)
    · exact absurd h (hX _ _)
  · exact absurd h (hX _ _)
theorem fV (hT : TabOk P T) (IH : ∀ p s F H K Q n, cV P K Q n (ih p s F H) → Go P K Q p s n F H) {X : Rs → Prop} (hX : ∀ n m, ¬ X (.er n m)) {ok : Bool} {c : Option V → Hp → Rs} (h : X (gW T ih F H L ok o c)) : ∃ u H', gj P K o L ok n F H u H' ∧ X (c (some u) H') := by
  unfold gW at h
  split at h
  · rename_i v hv
    exact ⟨v, H, oM hT hv, h⟩
  · rw [ba] at h
    split at h
    · rename_i v ed hv
      split at h
      · rename_i hc
        rw [Hp.ap_eq] at h
        refine ⟨_, _, lW hT hv hc, ?_⟩
        cases v with
        | none => exact h
        | some v => exact h
      · exact absurd h (hX _ _)
    · split at h
      · rename_i fid args tys hop
        split at h
        · rename_i vs hvs
          split at h
          · rename_i v hn
            obtain ⟨he, hnat⟩ := hT.nat _ _ _ hn
            refine ⟨v, H, iz (L' := L) he (by rw [hop]) hvs (fun S w ρ xs hr hi hx => ?_) (.inl rfl), h⟩
            obtain ⟨x, h1, h2⟩ := hnat S w ρ xs hx
            refine h2.mono fun e w' hR => ?_
            obtain ⟨rfl, rfl⟩ := hR
            exact ⟨x, S, ρ, v, H, rfl, ⟨rfl, rfl⟩, hr, hi, Up.refl, h1, ek⟩
          · split at h
            · rename_i fn hfn
              obtain ⟨hf, he⟩ := hT.fn _ _ hfn
              split at h
              · rename_i b hb
                split at h
                · rename_i hl
                  obtain ⟨u, H', L', g1, g2, g3⟩ := pU (K := K) hT IH hX hf hb hl h
                  exact ⟨u, H', iz he (by rw [hop]) hvs g2 g1, g3⟩
                · exact absurd h (hX _ _)
              · exact absurd h (hX _ _)
            · exact absurd h (hX _ _)
        · exact absurd h (hX _ _)
      · exact absurd h (hX _ _)
theorem pd {l : List Nat} {j : Nat} (h : lM l j = true) : l = [j] := by
  unfold lM at h
  split at h
  · rw [Nat.eq_of_beq_eq_true h]
  · cases h
theorem lD (hT : TabOk P T) (IH : ∀ p s F H K Q n, cV P K Q n (ih p s F H) → Go P K Q p s n F H) {i : Nat} {ps : List (Nat × Operand)} {vs : List (Nat × V)} {v : V} (hp : gk T all i vs = some (o, ps, v)) : ∀ (left : Nat) (listed : Array Bool) (F : Fm) (H : Hp), cV P K Q n (li T ih all L m i o ps v s left listed F H) → GoP P K Q all L m left listed s n F H i o ps vs v
  | left, listed, F, H, h => by
    unfold li at h
    split at h
    · rename_i hl
      split at h
      · rename_i x hrd
        split at h
        · rename_i hb
          have := Nat.eq_of_beq_eq_true hb
          subst this
          rw [Fm.puto_eq] at h
          exact ru hT hp hrd hl (IH _ _ _ _ _ _ _ h)
        · exact h.elim
      · rename_i x y hrd
        cases left with
        | zero => exact h.elim
        | succ left =>
          simp only [ba] at h
          generalize hj : n5 x y i = j at h
          unfold n5 at hj
          split at h
          · exact h.elim
          · rename_i hji
            have hne : j ≠ i := Nat.ne_of_beq_eq_false hji
            split at h
            · rename_i oj hoj
              split at h
              · rename_i hc
                simp only [Bool.and_eq_true] at hc
                obtain ⟨⟨⟨hc1, hc2⟩, hc3⟩, hc4⟩ := hc
                split at h
                · rename_i hw
                  obtain ⟨u, H', hx, hk⟩ := fV (K := K) (n := n) hT IH (X := cV P K Q n) (fun _ _ h => h) h
                  rw [Fm.puto_eq] at hk
                  have ih2 := lD hT IH hp left _ _ _ hk
                  have hpair : (match Region.ready .any all listed with | [x, y] => (Nat.beq x i && Nat.beq y j) || (Nat.beq x j && Nat.beq y i) | _ => false) = true := by
                    rw [hrd]
                    simp only []
                    cases hx1 : Nat.beq x i
                    · rw [hx1] at hj
                      cases hy1 : Nat.beq y i
                      · rw [hy1] at hj; exact absurd hj.symm hne
                      · rw [hy1] at hj; simp only at hj; subst hj; simp
                    · rw [hx1] at hj; simp only at hj; subst hj; simp
                  refine pC hT hp hoj hpair (pd hc1) hl (fun t ht => ?_) hc2 hc3 (Array.setIfInBounds_comm _ _ (Ne.symm hne)) (Post := fun u' H'' => u' = u ∧ H'' = H') (fun S w ρ a hr hi hF K2 hK2 => ?_) (fun u' H'' hP => by obtain ⟨rfl, rfl⟩ := hP; exact ih2)
                  · rw [ht] at hc4
                    simp only [Option.isNone_iff_eq_none] at hc4
                    exact hc4
                  · unfold wpOp
                    simp only [hoj]
                    rw [if_pos (aN hF hw)]
                    refine .inl (hx S w ρ a hr hi hF _ _ fun x S' w' ρ' hr' hi' hu hA hL hv => hK2 x S' w' ρ' u H' ⟨rfl, rfl⟩ hr' hi' hu hA (hL.imp id fun h => ?_) hv)
                    simpa only [Bool.and_eq_true] using h
                · exact h.elim
              · exact h.elim
            · exact h.elim
      · exact h.elim
    · exact h.elim
theorem ro (hT : TabOk P T) (IH : ∀ p s F H K Q n, cV P K Q n (ih p s F H) → Go P K Q p s n F H) {i j : Nat} {left : Nat} {listed : Array Bool} (hrd : Region.ready .any all listed = [i, j]) (h : cV P K Q n (pY T ih all L m left i j listed s F H)) : Go P K Q (.drw all L m (left + 1) listed) s n F H := by
  unfold pY at h
  split at h
  · rename_i oi hoi
    split at h
    · rename_i oj hoj
      split at h
      · rename_i hwi
        split at h
        · rename_i hwj
          obtain ⟨ui, Hi, xi, hk⟩ := fV (K := K) (n := n) hT IH (X := cV P K Q n) (fun _ _ h => h) h
          rw [Fm.puto_eq] at hk
          split at hk
          · rename_i F1 H1 e1
            obtain ⟨uj, Hj, xj, hk2⟩ := fV (K := K) (n := n) hT IH (X := cV P K Q n) (fun _ _ h => h) hk
            rw [Fm.puto_eq] at hk2
            split at hk2
            · rename_i F2 H2 e2
              split at hk2
              · rename_i hal
                have c : Go P K Q (.ex .normal) s n F1 H1 := IH _ _ _ _ _ _ _ hk2
                intro S w ρ a hr hi hF
                have hpin : ∀ id x, K.pin id = some x → id < H.nx := fun id x hx => Decidable.byContradiction fun hn => by
                  have h1 := hi.pin id x hx
                  have h2 := hr.ob id
                  have h3 : H.get id = .free := by
                    unfold Hp.get
                    have : Nat.blt id H.nx = false := by
                      cases hb : Nat.blt id H.nx
                      · rfl
                      · exact absurd (by simpa [Nat.blt_eq] using hb) hn
                    simp only [this]
                  rw [h3] at h2
                  have h4 : ρ id = none := h2
                  rw [h4] at h1; cases h1
                have g1 : Go P K (bc P Q s) (.drw all L m left (listed.setIfInBounds i true)) [] n (F.seto oi.dst (some ui)) Hi := IH _ _ _ _ _ _ _ (by rw [e1]; exact fun S w ρ a hr hi hF => c S w ρ a hr hi hF)
                have g2 : Go P K (bc P Q s) (.drw all L m left (listed.setIfInBounds j true)) [] n (F.seto oj.dst (some uj)) Hj := IH _ _ _ _ _ _ _ (by rw [e2]; exact fun S w ρ a hr hi hF => go_alike hal hpin c S w ρ a hr hi hF)
                exact l4 (by rw [hrd]; simp) hoi hoj hwi hwj xi xj g1 g2 S w ρ a hr hi hF
              · exact hk2.elim
            · exact hk2.elim
            · exact hk2.elim
          · exact hk.elim
          · exact hk.elim
        · exact h.elim
      · exact h.elim
    · exact h.elim
  · exact h.elim
theorem f8 : ∀ {R : List Nat} {i : Nat} {ps : List (Nat × Operand)} {v : V}, gD T F all R = some (i, o, ps, v) → ∃ vs, dz F ps = some vs ∧ gk T all i vs = some (o, ps, v)
  | [], _, _, _, h => by cases h
  | j :: r, i, ps, v, h => by
    unfold gD at h
    split at h
    · rename_i hj
      split at h
      · rename_i vs hvs
        split at h
        · rename_i o' ps' v' hpb
          simp only [Option.some.injEq, Prod.mk.injEq] at h
          obtain ⟨rfl, rfl, rfl, rfl⟩ := h
          refine ⟨vs, ?_, hpb⟩
          have := hpb
          unfold gk at this
          rw [hj] at this
          simp only at this
          repeat' (split at this)
          all_goals first
            | (cases this; done)
            | (simp only [ba, Option.some.injEq, Prod.mk.injEq] at this; obtain ⟨_, rfl, _⟩ := this; exact hvs)
        · exact f8 h
      · exact f8 h
    · exact f8 h
theorem qR (hT : TabOk P T) (hm : P.follows .mixedOrders = true) (IH : ∀ p s F H K Q n, cV P K Q n (ih p s F H) → Go P K Q p s n F H) : ∀ (p : EP) (s : List EI) (F : Fm) (H : Hp), cV P K Q n (step T ih p s F H) → Go P K Q p s n F H
  | .code c, s, F, H, h => by
    replace h : cV P K Q n (oy T ih c s F H) := h
    unfold oy at h
    split at h
    · exact oY (IH _ _ _ _ _ _ _ h)
    · exact lS (IH _ _ _ _ _ _ _ h)
    · exact nf (IH _ _ _ _ _ _ _ h)
    · exact go_ret (IH _ _ _ _ _ _ _ h)
    · exact nc (IH _ _ _ _ _ _ _ h)
    · exact pH (IH _ _ _ _ _ _ _ h)
    · exact p8 (IH _ _ _ _ _ _ _ h)
    · exact go_loop 1000000 (IH _ _ _ _ _ _ _ h)
    · split at h
      · exact lQ ‹_› (IH _ _ _ _ _ _ _ h)
      · exact l9 ‹_› (IH _ _ _ _ _ _ _ h)
      · exact h.elim
    · exact kJ (IH _ _ _ _ _ _ _ h)
    · split at h
      · rename_i hs
        simp only [aR, ba] at h
        exact nk _ _ _ rfl hm hs (IH _ _ _ _ _ _ _ h)
      · exact h.elim
    · exact h.elim
  | .ops all rest, s, F, H, h => by
    replace h : cV P K Q n (my T ih all rest s F H) := h
    unfold my at h
    split at h
    · exact oS (IH _ _ _ _ _ _ _ h)
    · split at h
      · rw [Fm.puto_eq] at h
        exact py ‹_› (IH _ _ _ _ _ _ _ h)
      · obtain ⟨u, H', hx, hk⟩ := fV (K := K) (n := n) hT IH (X := cV P K Q n) (fun _ _ h => h) h
        rw [Fm.puto_eq] at hk
        exact sw ‹_› hx (IH _ _ _ _ _ _ _ hk)
      · exact h.elim
  | .ex e, s, F, H, h => by
    replace h : cV P K Q n (nW ih e s F H) := h
    unfold nW at h
    split at h
    · split at h
      · exact fun S w ρ a hr hi hF => h S w ρ a hr hi hF
      · exact fun S w ρ a hr hi hF => h S w ρ a hr hi hF
      · exact h.elim
    · split at h
      · exact nl (IH _ _ _ _ _ _ _ h)
      · exact lU (IH _ _ _ _ _ _ _ h)
      · exact lx (IH _ _ _ _ _ _ _ h)
      · exact h.elim
    · split at h
      · split at h
        · exact h.elim
        · exact aH (IH _ _ _ _ _ _ _ h)
      · exact aK (IH _ _ _ _ _ _ _ h)
      · exact aS (IH _ _ _ _ _ _ _ h)
      · exact h.elim
    · split at h
      · exact p4 (IH _ _ _ _ _ _ _ h)
      · exact qk (IH _ _ _ _ _ _ _ h)
      · exact pR (IH _ _ _ _ _ _ _ h)
      · exact h.elim
    · split at h
      · exact mH (IH _ _ _ _ _ _ _ h)
      · split at h
        · exact mn ‹_› (IH _ _ _ _ _ _ _ h)
        · exact mD ‹_› (IH _ _ _ _ _ _ _ h)
      · exact ma (IH _ _ _ _ _ _ _ h)
      · exact h.elim
  | .drw all L m left listed, s, F, H, h => by
    replace h : cV P K Q n (nY T ih all L m left listed s F H) := h
    unfold nY at h
    split at h
    · exact mF ‹_› (IH _ _ _ _ _ _ _ h)
    · rename_i i R hrd
      cases left with
      | zero => exact h.elim
      | succ left =>
        simp only [] at h
        split at h
        · split at h
          · rename_i o ho
            split at h
            · rw [Fm.puto_eq] at h
              exact go_d1S hrd ho ‹_› (IH _ _ _ _ _ _ _ h)
            · obtain ⟨u, H', hx, hk⟩ := fV (K := K) (n := n) hT IH (X := cV P K Q n) (fun _ _ h => h) h
              rw [Fm.puto_eq] at hk
              exact sC hrd ho ‹_› hx (IH _ _ _ _ _ _ _ hk)
            · exact h.elim
          · exact h.elim
        · split at h
          · split at h
            · rename_i o ho
              split at h
              · rename_i hc
                simp only [Bool.and_eq_true, Bool.not_eq_true'] at hc
                obtain ⟨⟨hc1, hc2⟩, hc3⟩ := hc
                split at h
                · rw [Fm.puto_eq] at h
                  exact oq hc3 ho hc2 hc1 ‹_› (IH _ _ _ _ _ _ _ h)
                · rename_i hw
                  split at h
                  · rename_i v hv
                    rw [Fm.puto_eq] at h
                    exact qy hT hc3 ho hc2 hc1 hw hv (IH _ _ _ _ _ _ _ h)
                  · split at h
                    · rename_i id hid
                      split at h
                      · rename_i hL
                        simp only [Bool.and_eq_true, Bool.not_eq_true'] at hL
                        obtain ⟨⟨hL1, hL2⟩, hL3⟩ := hL
                        split at h
                        · rename_i v ed hv
                          rw [Fm.puto_eq] at h
                          exact qJ hT hc3 hL2 hL3 ho hc2 hc1 hw hid hL1 hv (IH _ _ _ _ _ _ _ h)
                        · exact h.elim
                      · exact h.elim
                    · exact h.elim
                · exact h.elim
              · exact h.elim
            · exact h.elim
          · split at h
            · rename_i i' o ps v hpo
              rw [Fm.puto_eq] at h
              obtain ⟨vs, g1, g2⟩ := f8 hpo
              exact pi g1 (lD hT IH g2 left listed _ _ h)
            · split at h
              · exact ro hT IH hrd h
              · exact h.elim
theorem px (hT : TabOk P T) (hm : P.follows .mixedOrders = true) : ∀ (k : Nat) (p : EP) (s : List EI) (F : Fm) (H : Hp) (K : Ctx) (Q : Exit → Act → World → Prop) (n : Nat), cV P K Q n (run T k p s F H) → Go P K Q p s n F H
  | 0, p, s, F, H, K, Q, n, h => h
  | k + 1, p, s, F, H, K, Q, n, h => qR hT hm (fun p s F H K Q n h => px hT hm k p s F H K Q n h) p s F H h
def pX (T : Tab) (k : Nat) (fid : FuncId) (vs : List V) (H : Hp) : Option (List V × Hp) := match T.fn fid with
  | some fn => match fn.body with
    | some b => match Nat.ble vs.length fn.ntmps with
      | true => match run T k (.code b) [] (dI fn.ntmps vs) H with
        | .ok _ F1 H1 => match hZ T H1.get F1 fn.results.toList with
          | some rs => some (rs, H1)
          | none => none
        | _ => none
      | false => none
    | none => none
  | none => none
theorem qP (hT : TabOk P T) (hm : P.follows .mixedOrders = true) {k : Nat} {fid : FuncId} {vs rs : List V} {H H1 : Hp} (h : pX T k fid vs H = some (rs, H1)) {S : Nat → Prop} {w : World} {ρ : Nat → Option Value} {xs : List Value} (hr : HRel S w ρ H.get) (hx : LRel S w ρ vs xs) : bx P fid = true ∧
    Calls P fid xs.toArray w fun e w' => ∃ S' ρ' ys, e = .returned (iC ys) ∧ HRel S' w' ρ' H1.get ∧ Inv ⟨w, S, fun b => ∃ id, own ρ id (H.get id) b, ρ⟩ S' w' ρ' H1.get ∧ LRel S' w' ρ' rs ys := by
  unfold pX at h
  split at h
  · rename_i fn hfn
    obtain ⟨hf, he⟩ := hT.fn _ _ hfn
    split at h
    · rename_i b hb
      split at h
      · rename_i hl
        split at h
        · rename_i e F1 H1' hrun
          split at h
          · rename_i rs' hres
            simp only [Option.some.injEq, Prod.mk.injEq] at h
            obtain ⟨rfl, rfl⟩ := h
            refine ⟨he, ?_⟩
            have hi1 : Inv ⟨w, S, fun b => ∃ id, own ρ id (H.get id) b, ρ⟩ S w ρ H.get := ⟨ChgP.refl _ _, fun _ h => h, fun _ h => .inl h, fun id b hb => .inl ⟨id, hb⟩, fun _ _ h => h⟩
            refine jd hf hb hl hr hi1 hx (px hT hm k _ _ _ _ _ _ _ ?_)
            rw [hrun]
            intro S' w' ρ' a' hr' hi' hF'
            obtain ⟨rl, hrl⟩ : ∃ l : List ResultVar, fn.results = l.toArray := ⟨fn.results.toList, by simp⟩
            rw [hrl] at hres
            refine ret_go hT (rs := rl) (by cases e <;> simp) hrl hr' hF' (by simpa using hres) fun x hvx => ?_
            have hLR := mV hvx
            obtain ⟨ys, hys, rfl⟩ := hLR
            exact ⟨S', ρ', ys, rfl, hr', hi', hys⟩
          · cases h
        · cases h
      · cases h
    · cases h
  · cases h
end
end Go.Proofs.Ytiknldgpnhikhaa
namespace Go.Proofs.Ytiknldgpnhikhaa
open Go.RowKit Lx Sx
set_option maxRecDepth 100000
def lm : List (List UInt8) → List V → Bool
  | [], [] => true
  | s :: r, .str l :: q => lEq s l && lm r q
  | _, _ => false
def lO (ls : List (List UInt8)) : V → Bool
  | .nils => ls.isEmpty
  | .row sz els => Nat.beq sz 1 && lm ls els
  | _ => false
mutual
def treeB : Tree → V → Bool
  | .node k s ls ks, v => match v with
    | .agg [.int .i64 k', .str s', l, r] => iEq k k' && lEq s s' && lO ls l && (match r with
      | .nils => ks.isEmpty
      | .row sz els => Nat.beq sz 4 && kidsB ks els
      | _ => false)
    | _ => false
def kidsB : List Tree → List V → Bool
  | [], vs => match vs with
    | [] => true
    | _ => false
  | t :: r, vs => match vs with
    | v :: q => treeB t v && kidsB r q
    | [] => false
end
section
variable {S : Nat → Prop} {w : World}
theorem mi {ρ : Nat → Option Value} : ∀ {ls : List (List UInt8)} {els : List V} {xs : List Value}, lm ls els = true → CRel S w ρ 1 els xs → els.length = ls.length ∧ xs = ls.map fg
  | [], [], xs, _, hc => by simp only [CRel] at hc; subst hc; exact ⟨rfl, rfl⟩
  | s :: r, v :: q, xs, hb, hc => by
    cases v <;> simp only [lm] at hb <;> first | (cases hb; done) | skip
    rename_i l
    simp only [Bool.and_eq_true] at hb
    have hl := hb.1
    rw [gE] at hl
    simp only [beq_iff_eq] at hl
    subst hl
    simp only [CRel] at hc
    obtain ⟨x, ys, rfl, _, h3, h4⟩ := hc
    simp only [VRel] at h3
    subst h3
    obtain ⟨h5, h6⟩ := mi hb.2 h4
    exact ⟨by simp [h5], by simp [h6, Value.cells]⟩
  | [], _ :: _, _, hb, _ => by cases hb
  | _ :: _, [], _, hb, _ => by cases hb
theorem pq {ρ : Nat → Option Value} {ls : List (List UInt8)} {v : V} {x : Value} (hb : lO ls v = true) (hx : VRel S w ρ v x) : ∃ A m, x = .slice A ls.length m ∧ ls.length ≤ m ∧ m ≤ maxLen ∧ RowIn S w 1 A ls.length (ls.map fg) := by
  cases v <;> simp only [lO] at hb <;> first | (cases hb; done) | skip
  · simp only [List.isEmpty_iff] at hb
    subst hb
    simp only [VRel] at hx; subst hx
    exact ⟨none, 0, rfl, Nat.le_refl _, by decide, RowIn.none_⟩
  · rename_i sz els
    simp only [Bool.and_eq_true, Nat.beq_eq] at hb
    obtain ⟨rfl, hb⟩ := hb
    simp only [VRel] at hx
    obtain ⟨A, c, xs, rfl, h3, h4, h5, h6⟩ := hx
    obtain ⟨h7, rfl⟩ := mi hb h5
    rw [h7] at h3 h6 ⊢
    exact ⟨A, c, rfl, h3, h4, h6⟩
mutual
theorem treeB_ok {ρ : Nat → Option Value} : ∀ {t : Tree} {v : V} {x : Value}, treeB t v = true → VRel S w ρ v x → ∃ c, x = .agg c.toArray ∧ TreeIs S w t c
  | .node k s ls ks, v, x, hb, hx => by
    unfold treeB at hb
    split at hb
    · rename_i k' s' l r
      simp only [Bool.and_eq_true] at hb
      obtain ⟨⟨⟨hb1, hb2⟩, hb3⟩, hb4⟩ := hb
      rw [ir] at hb1
      rw [gE] at hb2
      simp only [beq_iff_eq] at hb1 hb2
      subst hb1 hb2
      simp only [VRel] at hx
      obtain ⟨xs, rfl, hl⟩ := hx
      simp only [LRel] at hl
      obtain ⟨x0, _, rfl, h0, x1, _, rfl, h1, x2, _, rfl, h2, x3, _, rfl, h3, rfl⟩ := hl
      simp only [VRel] at h0 h1
      subst h0 h1
      obtain ⟨A, m, rfl, g1, g2, g3⟩ := pq hb3 h2
      have kk : ∃ B n, x3 = .slice B ks.length n ∧ ks.length ≤ n ∧ n ≤ maxLen ∧ ∃ cs, KidsAre S w ks cs ∧ RowIn S w 4 B ks.length cs := by
        split at hb4
        · simp only [List.isEmpty_iff] at hb4
          subst hb4
          simp only [VRel] at h3; subst h3
          exact ⟨none, 0, rfl, Nat.le_refl _, by decide, [], by simp only [KidsAre], RowIn.none_⟩
        · rename_i sz els
          simp only [Bool.and_eq_true, Nat.beq_eq] at hb4
          obtain ⟨rfl, hb4⟩ := hb4
          simp only [VRel] at h3
          obtain ⟨B, c, ys, rfl, q3, q4, q5, q6⟩ := h3
          obtain ⟨q7, q8⟩ := kidsB_ok hb4 q5
          rw [q7] at q3 q6 ⊢
          exact ⟨B, c, rfl, q3, q4, ys, q8, q6⟩
        · cases hb4
      obtain ⟨B, n, rfl, k1, k2, cs, k3, k4⟩ := kk
      exact ⟨_, rfl, qQ g1 g2 k1 k2 g3 k3 k4⟩
    · cases hb
theorem kidsB_ok {ρ : Nat → Option Value} : ∀ {ts : List Tree} {vs : List V} {xs : List Value}, kidsB ts vs = true → CRel S w ρ 4 vs xs → vs.length = ts.length ∧ KidsAre S w ts xs
  | [], vs, xs, hb, hc => by
    unfold kidsB at hb
    split at hb
    · simp only [CRel] at hc; subst hc; exact ⟨rfl, by simp only [KidsAre]⟩
    · cases hb
  | t :: r, vs, xs, hb, hc => by
    unfold kidsB at hb
    split at hb
    · rename_i v q
      simp only [Bool.and_eq_true] at hb
      simp only [CRel] at hc
      obtain ⟨x, ys, rfl, _, h3, h4⟩ := hc
      obtain ⟨c, rfl, hT⟩ := treeB_ok hb.1 h3
      obtain ⟨h5, h6⟩ := kidsB_ok hb.2 h4
      exact ⟨by simp [h5], by simp only [KidsAre]; exact ⟨c, ys, by simp [Value.cells], hT, h6⟩⟩
    · cases hb
end
end
def kn (T : Tab) (k : Nat) (fid : FuncId) (vs : List V) : Option (List V) := match pX T k fid vs ⟨0, []⟩ with
  | some (rs, H1) => me 0 H1 rs fun rs' _ => some rs'
  | none => none
theorem gv (i : Nat) : (⟨0, []⟩ : Hp).get i = .free := by
  unfold Hp.get
  have : Nat.blt i 0 = false := by cases i <;> rfl
  simp only [this]
theorem qu (w : World) : HRel (fun _ => False) w (fun _ => none) (⟨0, []⟩ : Hp).get :=
  ⟨fun i => by rw [gv]; rfl, fun i b hb => by rw [gv] at hb; exact hb.elim, fun i j b hb _ => by rw [gv] at hb; exact hb.elim, fun _ h => h.elim⟩
theorem qT {P : Program} {T : Tab} (hT : TabOk P T) (hm : P.follows .mixedOrders = true) {k : Nat} {fid : FuncId} {vs rs : List V} (h : kn T k fid vs = some rs) {w : World} {xs : List Value} (hx : LRel (fun _ => False) w (fun _ => none) vs xs) :
    Calls P fid xs.toArray w fun e w' => ∃ S' ρ' ys, e = .returned (iC ys) ∧ (∀ b, S' b → w.heap.size ≤ b) ∧ Chg [] w w' ∧ LRel S' w' ρ' rs ys := by
  unfold kn at h
  split at h
  · rename_i rs1 H1 hrun
    obtain ⟨rs2, H2, e1, _, e3⟩ := kg 0 rs1 H1
    rw [e1] at h
    injection h with h; subst h
    have hr0 := qu w
    refine (qP hT hm hrun hr0 hx).2.mono fun e w' hR => ?_
    obtain ⟨S', ρ', ys, rfl, hr, hi, hl⟩ := hR
    obtain ⟨S2, a1, a2, a3, a4⟩ := e3 _ S' w' ρ' ys hr hi hl
    have hno : ∀ b, ¬ ∃ id, own (fun _ => none) id ((⟨0, []⟩ : Hp).get id) b := fun b ⟨id, hb⟩ => by rw [gv] at hb; exact hb
    refine ⟨S2, ρ', ys, rfl, fun b hb => ?_, ⟨hi.chg.os, hi.chg.tape, hi.chg.output, hi.chg.size, fun b hb _ => hi.chg.block b hb (hno b)⟩, a4⟩
    rcases a2.s1 b hb with h | h | h
    · exact h.elim
    · exact absurd h (hno b)
    · exact h
  · cases h
def p5 (fid : FuncId) (vs : List V) : Option V := match Nat.beq fid 52 with
  | true => match vs with
    | [.str s, .int .u8 (.ofNat c)] => nS (Lib.indexByte s c.toUInt8) fun n => some (.int .i64 n)
    | _ => none
  | false => none
noncomputable def mq : Tab := ⟨true, eR tyL, eR fnL, p5, fun f => Nat.beq f 23⟩
theorem rt : TabOk Try.prog mq := by
  refine ⟨pu, sh, fun i vs v hv => ?_⟩
  replace hv : p5 i vs = some v := hv
  unfold p5 at hv
  split at hv
  · rename_i hb
    have := Nat.eq_of_beq_eq_true hb
    subst this
    split at hv
    · rename_i s c
      rw [nw] at hv
      injection hv with hv; subst hv
      refine ⟨by kernel_rfl, fun S w ρ xs hx => ?_⟩
      simp only [LRel] at hx
      obtain ⟨x0, _, rfl, h0, x1, _, rfl, h1, rfl⟩ := hx
      simp only [VRel] at h0 h1
      subst h0 h1
      exact ⟨_, by simp only [VRel]; rfl, nI _ _ _⟩
    · cases hv
  · cases hv
def gA (t : Tree) : Option (List V) → Bool
  | some [v, .int .i64 a, .int .i64 e] => treeB t v && iEq a 0 && iEq e 0
  | _ => false
theorem pk {k : Nat} {l : List UInt8} {t : Tree} (h : gA t (kn mq k 15 [.str l]) = true) {w : World} : Calls Try.prog 15 [fg l].toArray w fun e w' => ∃ c0 c1 c2 c3, e = .returned (.tuple #[.agg #[c0, c1, c2, c3], .int .i64 0, .int .i64 0]) ∧ TreeIs (fun b => w.heap.size ≤ b) w' t [c0, c1, c2, c3] ∧ Chg [] w w' := by
  unfold gA at h
  split at h
  · rename_i v a e hr
    simp only [Bool.and_eq_true, ir, beq_iff_eq] at h
    obtain ⟨⟨h1, rfl⟩, rfl⟩ := h
    refine (qT rt (by kernel_rfl) hr (xs := [fg l]) ⟨_, [], rfl, by simp only [VRel], rfl⟩).mono fun e w' hR => ?_
    obtain ⟨S', ρ', ys, rfl, g1, g2, g3⟩ := hR
    simp only [LRel] at g3
    obtain ⟨x0, _, rfl, h0, x1, _, rfl, h2, x2, _, rfl, h3, rfl⟩ := g3
    simp only [VRel] at h2 h3
    subst h2 h3
    obtain ⟨c, rfl, hT⟩ := treeB_ok h1 h0
    have h4 := hT.four
    match c, h4, hT with
    | [c0, c1, c2, c3], _, hT => exact ⟨c0, c1, c2, c3, rfl, hT.keep g1 (fun _ _ _ => rfl), g2⟩
  · cases h
end Go.Proofs.Ytiknldgpnhikhaa
namespace Go.Proofs.Ytiknldgpnhikhaa
open Go.RowKit Lx Sx
section
variable {S : Nat → Prop} {w : World} {ρ : Nat → Option Value}
theorem ml : ∀ ls : List (List UInt8), CRel S w ρ 1 (ls.map .str) (ls.map fg)
  | [] => by simp [CRel]
  | s :: r => by
    simp only [List.map_cons, CRel]
    exact ⟨fg s, r.map fg, by simp [Value.cells, fg], ⟨rfl, rfl⟩, by unfold VRel; rfl, ml r⟩
mutual
theorem TreeIs.vrel : ∀ {ρ : Nat → Option Value} {t : Tree} {c : List Value}, TreeIs S w t c → LRel S w ρ (aQ t) c
  | ρ, .node k s ls ks, c, h => by
    simp only [TreeIs] at h
    obtain ⟨A, m, B, n, rfl, h1, h2, h3, h4, h5, cs, h6, h7⟩ := h
    simp only [aQ, Tree.kind, Tree.text, Tree.leads, Tree.kids, LRel, VRel]
    exact ⟨_, _, rfl, rfl, _, _, rfl, rfl, _, _, rfl, ⟨A, m, _, by simp, by simpa using h1, h2, ml ls, by simpa using h5⟩, _, _, rfl, ⟨B, n, cs, by simp [eZ], by simpa [eZ] using h3, h4, KidsAre.crel h6, by simpa [eZ] using h7⟩, rfl⟩
theorem KidsAre.crel : ∀ {ρ : Nat → Option Value} {ts : List Tree} {cs : List Value}, KidsAre S w ts cs → CRel S w ρ 4 (kidsV ts) cs
  | ρ, [], cs, h => by simp only [KidsAre] at h; simp only [kidsV, CRel]; exact h
  | ρ, t :: r, cs, h => by
    simp only [KidsAre] at h
    obtain ⟨c, d, rfl, h1, h2⟩ := h
    simp only [kidsV, CRel, ey]
    exact ⟨.agg c.toArray, d, by simp [Value.cells], ⟨by simp [Value.cells, h1.four], by simpa [Value.cells] using h1.one⟩, by simp only [VRel]; exact ⟨c, rfl, h1.vrel⟩, KidsAre.crel h2⟩
end
end
theorem mY {k : Nat} {l : List UInt8} {t : Tree} (h : gA t (kn mq k 15 [.str l]) = true) : aI Try.prog 15 [.str l] (.tup [.agg (aQ t), .int .i64 0, .int .i64 0]) := by
  refine ⟨rfl, rfl, fun S w ρ xs hr hx => ?_⟩
  simp only [LRel, VRel] at hx
  obtain ⟨x, ys, rfl, rfl, rfl⟩ := hx
  refine (pk h (w := w)).mono ?_
  rintro e w' ⟨c0, c1, c2, c3, rfl, hT, hc⟩
  have hT' := hT.bound
  have g := hr.chg0 hc
  refine ⟨_, fun b => S b ∨ (w.heap.size ≤ b ∧ b < w'.heap.size), ρ, _, ⟨0, []⟩, rfl, rfl, ⟨fun i => ?_, fun i b hb => ?_, fun i j b hb _ => ?_, fun b hb => hb.elim (g.slt b) (·.2)⟩, ⟨ChgP.of0 hc, fun _ h => .inl h, fun b hb => hb.elim .inl fun h => .inr (.inr h.1), fun id b hb => .inl ⟨id, hb⟩, fun id x h => ?_⟩, ?_⟩
  · have := g.ob i; rw [gv] at this ⊢; exact this
  · rw [gv] at hb; exact hb.elim
  · rw [gv] at hb; exact hb.elim
  · simp only [jm] at h
    split at h
    · exact h
    · cases h
  · have hk := TreeIs.vrel (ρ := ρ) (TreeIs.keep (S' := fun b => S b ∨ (w.heap.size ≤ b ∧ b < w'.heap.size)) (fun b hb => .inr hb) (fun _ _ _ => rfl) hT')
    simp only [VRel]
    exact ⟨[.agg #[c0, c1, c2, c3], .int .i64 0, .int .i64 0], rfl, .agg #[c0, c1, c2, c3], _, rfl, by simp only [VRel]; exact ⟨_, rfl, hk⟩, _, _, rfl, by simp only [VRel], _, _, rfl, by simp only [VRel], rfl⟩
end Go.Proofs.Ytiknldgpnhikhaa
namespace Go.Proofs.Ytiknldgpnhikhaa
open Go.RowKit Lx Sx
set_option maxRecDepth 100000
set_option maxHeartbeats 1000000
def ph : List UInt8 := [109, 111, 100, 117, 108, 101, 32, 65, 32, 116, 121, 112, 101, 32, 84, 32, 61, 32, 91, 66, 46, 85, 93]
def oN : List UInt8 := [109, 111, 100, 117, 108, 101, 32, 66, 32, 116, 121, 112, 101, 32, 85, 32, 61, 32, 73, 110, 116, 32, 116, 121, 112, 101, 32, 86, 32, 61, 32, 86]
def di : Tree := (oO ph).1
def dk : Tree := (oO oN).1
theorem pe : gA di (kn mq 5000 15 [.str ph]) = true := by kernel_rfl
theorem oT : gA dk (kn mq 5000 15 [.str oN]) = true := by kernel_rfl
theorem pb : kbulk [di, dk] ≤ 10000000 := by decide +kernel
theorem r9 : (eu [di, dk] 0 (.node 9 [84] [] [])).2 = 0 ∧ (eu [di, dk] 0 (.node 9 [84] [] [])).1.kind = 8 ∧ (eu [di, dk] 0 (.node 9 [84] [] [])).1.kids.map (·.kind) = [5] ∧ (eu [di, dk] 1 (.node 9 [86] [] [])).2 = 19 := by decide +kernel
theorem rU : eX [di, dk] 1 1 = true ∧ eX [di, dk] 1 0 = false := by decide +kernel
theorem tK : dQ true := by
  have hb := pb
  obtain ⟨a1, a2, a3, a4⟩ := r9
  obtain ⟨c1, c2⟩ := rU
  have e1 := hJ hb 0 (t := .node 9 [84] [] []) (by decide +kernel)
  have e2 := hJ hb 1 (t := .node 9 [86] [] []) (by decide +kernel)
  have k1 := eW hb 1 1
  have k2 := eW hb 1 0
  rw [c1] at k1
  rw [c2] at k2
  obtain ⟨u, hu, hu5⟩ : ∃ u, (eu [di, dk] 0 (.node 9 [84] [] [])).1.kids = [u] ∧ u.kind = 5 := by
    cases hk : (eu [di, dk] 0 (.node 9 [84] [] [])).1.kids with
    | nil => rw [hk] at a3; cases a3
    | cons u r =>
      rw [hk] at a3
      cases r with
      | nil => exact ⟨u, rfl, by simpa using a3⟩
      | cons v r => simp at a3
  exact gr 0 _ ⟨di, 0, 0, mY pe, dk, 0, 0, mY oT, _, _, e1, _, _, e2, fun _ => ⟨fun _ => ⟨fun _ => ⟨fun _ => ⟨fun _ => ⟨u, (by rw [hu]; rfl), fun _ => ⟨fun _ => ⟨true, k1, fun _ => ⟨false, k2, rfl⟩, fun h => (by cases h)⟩, fun h => absurd a4 h⟩, fun h => absurd hu5 h⟩, fun h => absurd (by rw [hu]; rfl) h⟩, fun h => absurd a2 h⟩, fun h => absurd a1 h⟩, fun h => absurd rfl h⟩, fun h => absurd rfl h⟩
theorem mt {a n : Int} (hn : 0 < n) (hn2 : n ≤ 1000000000) : ∃ r, ca a n r ∧ 0 ≤ r ∧ r < n := by
  have h1 := Int.lt_tmod_of_pos a hn
  have h2 := Int.tmod_lt_of_pos a hn
  by_cases h : Int.tmod a n < 0
  · exact ⟨_, fh 0 _ _ _ ⟨by omega, fun _ => ⟨by constructor <;> omega, rfl⟩, fun h' => absurd h h'⟩, by omega, by omega⟩
  · exact ⟨_, fh 0 _ _ _ ⟨by omega, fun h' => absurd h' h, fun _ => rfl⟩, by omega, by omega⟩
def fe (ls : List Bool) (i : Nat) : Nat → Nat
  | 0 => 0
  | k + 1 => (if ej ls i then 1 else 0) + fe ls (i + 1) k
section
variable {n : Nat} {ls : List Bool} (hn : n ≤ 20)
include hn
theorem dU {back : Option Nat} (hb : ∀ b, back = some b → b < n) {i : Nat} (hbi : ∀ b, back = some b → i < b) : ∀ (f : Nat) (seen : List (Int × Int)) (j : Nat), i ≤ j → j < n → bU [al n back ls] (0, (i : Int)) f seen (bg [al n back ls] (0, (j : Int))) = false
  | 0, _, _, _, _ => rfl
  | f + 1, seen, j, hij, hj => by
    rw [jQ hn hb hj]
    have step : ∀ j', i < j' → j' < n → bU [al n back ls] (0, (i : Int)) (f + 1) seen (some (0, (j' : Int))) = false := fun j' h1 h2 => by
      rw [bU, if_neg (fun h => by have := (Prod.mk.inj h).2; omega)]
      split
      · rfl
      · exact dU hb hbi f _ j' (by omega) h2
    split
    · cases hbk : back with
      | none => rfl
      | some b =>
        have h1 := hbi b hbk
        have h2 := hb b hbk
        subst hbk
        exact step b h1 h2
    · exact step (j + 1) (by omega) (by omega)
theorem kI : ∀ (k f : Nat) (seen : List (Int × Int)) (m i : Nat), i + k = n → 0 < k → k < f → (∀ x ∈ seen, ∃ y : Nat, y < i ∧ x = (0, (y : Int))) → ct [al n none ls] f seen m 0 (.node 9 (nmT i) [] []) = (cQ (m + fe ls i k) (.node 5 [] [] []), 0)
  | 0, f, _, _, _, _, h, _, _ => by omega
  | k + 1, 0, _, _, _, _, _, h, _ => by omega
  | k + 1, f + 1, seen, m, i, h1, _, h3, h4 => by
    have hb : ∀ b, (none : Option Nat) = some b → b < n := fun b h => by cases h
    have hf := fq (back := none) (ls := ls) hn (show i < n by omega)
    obtain ⟨a1, a2⟩ := iy (ls := ls) hn hb (show i < n by omega)
    rw [ct, if_pos (show (Tree.node 9 (nmT i) [] []).kind = 9 from rfl)]
    simp only [Tree.text, hf]
    rw [if_neg (by decide), if_neg (fun h => by
      obtain ⟨y, hy, e⟩ := h4 _ h
      have := (Prod.mk.inj e).2
      omega), a1, a2, cm]
    by_cases hk : k = 0
    · subst hk
      rw [if_pos (show i + 1 = n by omega), lg]
      cases f with
      | zero => omega
      | succ f =>
        rw [ct, if_neg (by decide)]
        simp only [fe, Nat.add_zero]
        rfl
    · rw [if_neg (show ¬ i + 1 = n by omega), kI k f _ _ (i + 1) (by omega) (by omega) (by omega) (fun x hx => by
        rcases List.mem_cons.1 hx with rfl | hx
        · exact ⟨i, by omega, rfl⟩
        · obtain ⟨y, hy, e⟩ := h4 x hx
          exact ⟨y, by omega, e⟩)]
      rw [fe, Nat.add_assoc]
theorem iv {b : Nat} (hbn : b < n) : ∀ (f : Nat) (seen : List (Int × Int)) (m i : Nat), i < n → dB [al n (some b) ls] seen → kbulk [al n (some b) ls] + 1 ≤ f + seen.length → (ct [al n (some b) ls] f seen m 0 (.node 9 (nmT i) [] [])).2 = 19
  | 0, seen, m, i, hi, hs, hf => by
    have := ic hs; omega
  | f + 1, seen, m, i, hi, hs, hfu => by
    have hb : ∀ b', some b = some b' → b' < n := fun b' h => by cases h; exact hbn
    have hf := fq (back := some b) (ls := ls) hn hi
    obtain ⟨a1, a2⟩ := iy (ls := ls) hn hb hi
    rw [ct, if_pos (show (Tree.node 9 (nmT i) [] []).kind = 9 from rfl)]
    simp only [Tree.text, hf]
    rw [if_neg (by decide)]
    by_cases hm : ((0 : Int), (i : Int)) ∈ seen
    · rw [if_pos hm]
    · rw [if_neg hm, a1, a2, cm]
      have hs' := eU (p := [al n (some b) ls]) (i := 0) (d := i) (t := al n (some b) ls) (a := cC n (some b) ls i) hs rfl (e6 hi) hm
      by_cases hin : i + 1 = n
      · rw [if_pos hin, lg]
        exact iv hbn f _ _ b hbn hs' (by simp only [List.length_cons]; omega)
      · rw [if_neg hin]
        exact iv hbn f _ _ (i + 1) (by omega) hs' (by simp only [List.length_cons]; omega)
theorem gI {b i : Nat} (hbn : b < n) (hi : i < n) (hbi : b ≤ i) : ∀ (f : Nat) (seen : List (Int × Int)) (j : Nat), j < n → b ≤ j → dB [al n (some b) ls] seen → kbulk [al n (some b) ls] + 1 ≤ f + seen.length → (∀ x ∈ seen, ∃ y : Nat, x = (0, (y : Int)) ∧ ((i < y ∧ (j < i ∨ y ≤ j)) ∨ (j < i ∧ y ≤ j))) → (j ≠ i ∨ seen = []) → bU [al n (some b) ls] (0, (i : Int)) f seen (bg [al n (some b) ls] (0, (j : Int))) = true
  | 0, seen, j, _, _, hs, hf, _, _ => by
    have := ic hs; omega
  | f + 1, seen, j, hj, hbj, hs, hf, hx, hji => by
    have hb : ∀ b', some b = some b' → b' < n := fun b' h => by cases h; exact hbn
    rw [jQ hn hb hj]
    have step : ∀ j', j' < n → b ≤ j' → ((0 : Int), (j' : Int)) ∉ seen → (j' ≠ i → ∀ x ∈ ((0 : Int), (j' : Int)) :: seen, ∃ y : Nat, x = (0, (y : Int)) ∧ ((i < y ∧ (j' < i ∨ y ≤ j')) ∨ (j' < i ∧ y ≤ j'))) → bU [al n (some b) ls] (0, (i : Int)) (f + 1) seen (some (0, (j' : Int))) = true := fun j' h1 h2 h3 h4 => by
      rw [bU]
      by_cases e : j' = i
      · rw [if_pos (by rw [e])]
      · rw [if_neg (fun h => e (by have := (Prod.mk.inj h).2; omega)), if_neg h3]
        exact gI hbn hi hbi f _ j' h1 h2 (eU (p := [al n (some b) ls]) (i := 0) (d := j') (t := al n (some b) ls) (a := cC n (some b) ls j') hs rfl (e6 h1) h3) (by simp only [List.length_cons]; omega) (h4 e) (.inl e)
    split
    · -- the end of the chain
      refine step b hbn (Nat.le_refl _) (fun h => ?_) (fun e x h => ?_)
      · obtain ⟨y, e, h⟩ := hx _ h
        have := (Prod.mk.inj e).2
        omega
      · rcases List.mem_cons.1 h with rfl | h
        · exact ⟨b, rfl, by omega⟩
        · obtain ⟨y, e', h⟩ := hx _ h
          exact ⟨y, e', by omega⟩
    · refine step (j + 1) (by omega) (by omega) (fun h => ?_) (fun e x h => ?_)
      · obtain ⟨y, e, h⟩ := hx _ h
        have := (Prod.mk.inj e).2
        omega
      · rcases List.mem_cons.1 h with rfl | h
        · exact ⟨j + 1, rfl, by omega⟩
        · obtain ⟨y, e', h⟩ := hx _ h
          exact ⟨y, e', by omega⟩
end
end Go.Proofs.Ytiknldgpnhikhaa
namespace Go.Proofs.Ytiknldgpnhikhaa
open Go.RowKit Lx Sx
set_option maxRecDepth 100000
set_option maxHeartbeats 1000000
theorem mh (ls : List Bool) : ∀ (k i : Nat), ls.length ≤ i → fe ls i k = 0
  | 0, i, h => rfl
  | k + 1, i, h => by
    have hbit : ej ls i = false := by unfold ej; rw [List.getD_eq_getElem?_getD, List.getElem?_eq_none (by omega)]; rfl
    rw [fe, hbit, mh ls k (i + 1) (by omega)]
    rfl
section
variable {n : Nat} {ls : List Bool} (hn : n ≤ 20)
include hn
theorem j2 {back : Option Nat} (hb : ∀ b, back = some b → b < n) {i : Nat} (hi : i < n) : eu [al n back ls] 0 (.node 9 (nmT i) [] []) = ct [al n back ls] (kbulk [al n back ls] + 1) [] 0 0 (.node 9 (nmT i) [] []) := by
  rw [eu, if_pos ⟨jJ hn hb, Int.le_refl _, by simp, rfl, qe i (by omega)⟩]
  obtain ⟨e1, e2⟩ := ds (t := .node 9 (nmT i) [] []) (by show (9 : Int) ≠ 8; decide)
  rw [e1, e2]
theorem iX {back : Option Nat} (hb : ∀ b, back = some b → b < n) (i : Nat) : eX [al n back ls] 0 i = bU [al n back ls] (0, (i : Int)) (kbulk [al n back ls] + 1) [] (bg [al n back ls] (0, (i : Int))) := by
  rw [eX, if_pos ⟨jJ hn hb, Int.le_refl _, by omega⟩]
end
theorem pj {n : Nat} {ls : List Bool} {back : Option Nat} : n ≤ kbulk [al n back ls] := by
  have := fX (al n back ls)
  have e : (al n back ls).kids.length = n := by simp [al, Tree.kids]
  simp only [kbulk]
  omega
theorem rF (aw : bB true) (a : Int) (ls : List Bool) : de a ls true := by
  obtain ⟨r, hr, h0, h1⟩ := mt (a := a) (n := 20) (by decide) (by decide)
  obtain ⟨k, rfl⟩ : ∃ k : Nat, r = (k : Int) := ⟨r.toNat, by omega⟩
  have hn : k + 1 ≤ 20 := by omega
  have en : (1 : Int) + (k : Int) = ((k + 1 : Nat) : Int) := by omega
  have hb : ∀ b, (none : Option Nat) = some b → b < k + 1 := fun b h => by cases h
  obtain ⟨T, hT⟩ : ∃ T, T = al (k + 1) none ls := ⟨_, rfl⟩
  have hbk := jC (n := k + 1) (back := none) (ls := ls) hn hb
  have hlen := pj (n := k + 1) (back := none) (ls := ls)
  have hch := nt hn none hb ls
  have hx := hJ (p := [al (k + 1) none ls]) (by omega) 0 (t := .node 9 (nmT 0) [] []) (by simp [tbulk, lsum, kbulk, nmT])
  rw [j2 hn hb (by omega), kI hn (k + 1) _ _ _ 0 (by omega) (by omega) (by omega) (fun x h => by cases h), Nat.zero_add] at hx
  have hc := eW (p := [al (k + 1) none ls]) (by omega) 0 ((0 : Nat) : Int)
  rw [iX hn hb, dU hn hb (i := 0) (fun b h => by cases h) _ _ 0 (Nat.le_refl _) (by omega)] at hc
  have loop : ∀ e i, k + 1 - i ≤ e → aP (e + 1) ls k (al (k + 1) none ls) i (cQ (fe ls i (k + 1 - i)) (.node 5 [] [] [])) true := fun e => by
    induction e with
    | zero =>
      intro i hi
      rw [show k + 1 - i = 0 by omega, fe, cQ]
      exact aJ 0 _ _ _ _ _ _ ⟨fun h => by omega, fun _ => ⟨true, aw, fun _ => ⟨fun _ => ⟨false, hc, rfl⟩, fun h => absurd rfl h⟩, fun h => (by cases h)⟩⟩
    | succ e ihe =>
      intro i hi
      by_cases hin : i < k + 1
      · obtain ⟨b, hbi, _⟩ | h' := dp ls i
        · have hbit : ej ls i = b := by unfold ej; rw [List.getD_eq_getElem?_getD, hbi]; rfl
          have ih := ihe (i + 1) (by omega)
          have ec : fe ls i (k + 1 - i) = (if b then 1 else 0) + fe ls (i + 1) (k + 1 - (i + 1)) := by
            rw [show k + 1 - i = (k + 1 - (i + 1)) + 1 by omega, fe, hbit]
          have hil := (List.getElem?_eq_some_iff.1 hbi).1
          rw [ec]
          cases b with
          | false =>
            refine aJ _ _ _ _ _ _ _ ⟨fun _ => ⟨fun _ => ⟨false, hbi, fun _ => ?_, fun h => (by cases h)⟩, fun h => absurd hil h⟩, fun h => by omega⟩
            simpa using ih
          | true =>
            rw [if_pos rfl, Nat.add_comm 1, cQ]
            exact aJ _ _ _ _ _ _ _ ⟨fun _ => ⟨fun _ => ⟨true, hbi, fun h => (by cases h), fun _ => ⟨fun h => absurd rfl h, fun _ => ⟨fun h => absurd rfl h, fun _ => ⟨_, rfl, ih⟩⟩⟩⟩, fun h => absurd hil h⟩, fun h => by omega⟩
        · rw [mh ls _ i (by omega), cQ]
          exact aJ _ _ _ _ _ _ _ ⟨fun _ => ⟨fun h => absurd h h', fun _ => ⟨true, aw, fun _ => ⟨fun _ => ⟨false, hc, rfl⟩, fun h => absurd rfl h⟩, fun h => (by cases h)⟩⟩, fun h => by omega⟩
      · rw [show k + 1 - i = 0 by omega, fe, cQ]
        exact aJ _ _ _ _ _ _ _ ⟨fun h => by omega, fun _ => ⟨true, aw, fun _ => ⟨fun _ => ⟨false, hc, rfl⟩, fun h => absurd rfl h⟩, fun h => (by cases h)⟩⟩
  have hl := loop (k + 1) 0 (by omega)
  refine fb (k + 1 + 1) _ _ _ ⟨_, hr, by constructor <;> omega, _, by rw [en]; exact hch, _, _, hx, fun h => absurd rfl h, fun _ => hl⟩
theorem rG (aw : bB true) (a a2 : Int) (ls : List Bool) : db a a2 ls true := by
  obtain ⟨r, hr, h0, h1⟩ := mt (a := a) (n := 20) (by decide) (by decide)
  obtain ⟨k, rfl⟩ : ∃ k : Nat, r = (k : Int) := ⟨r.toNat, by omega⟩
  obtain ⟨r2, hr2, h02, h12⟩ := mt (a := a2) (n := 1 + (k : Int)) (by omega) (by omega)
  obtain ⟨b, rfl⟩ : ∃ b : Nat, r2 = (b : Int) := ⟨r2.toNat, by omega⟩
  have hn : k + 1 ≤ 20 := by omega
  have hbn : b < k + 1 := by omega
  have en : (1 : Int) + (k : Int) = ((k + 1 : Nat) : Int) := by omega
  have hb : ∀ b', some b = some b' → b' < k + 1 := fun b' h => by cases h; exact hbn
  have hbk := jC (n := k + 1) (back := some b) (ls := ls) hn hb
  have hch := nt hn (some b) hb ls
  have hnd : dB [al (k + 1) (some b) ls] [] := ⟨List.nodup_nil, fun x h => by cases h⟩
  have loop : ∀ e i, k + 1 - i ≤ e → bf (e + 1) k b [al (k + 1) (some b) ls] i true := fun e => by
    induction e with
    | zero => intro i hi; exact bK 0 _ _ _ _ _ ⟨fun h => by omega, fun _ => ⟨_, aw, rfl⟩⟩
    | succ e ihe =>
      intro i hi
      by_cases hin : i < k + 1
      · have hx := hJ (p := [al (k + 1) (some b) ls]) (by omega) 0 (t := .node 9 (nmT i) [] []) (by simp [tbulk, lsum, kbulk, nmT])
        have hc := eW (p := [al (k + 1) (some b) ls]) (by omega) 0 (i : Int)
        have h19 : (eu [al (k + 1) (some b) ls] 0 (.node 9 (nmT i) [] [])).2 = 19 := by
          rw [j2 hn hb hin]
          exact iv hn hbn _ _ _ i hin hnd (by simp)
        have hcc : eX [al (k + 1) (some b) ls] 0 (i : Int) = decide ((b : Int) ≤ (i : Int)) := by
          rw [iX hn hb]
          by_cases hbi : b ≤ i
          · rw [decide_eq_true (by omega)]
            exact gI hn hbn hin hbi _ _ i hin hbi hnd (by simp) (fun x h => by cases h) (.inr rfl)
          · rw [decide_eq_false (by omega)]
            exact dU hn hb (i := i) (fun b' h => by cases h; omega) _ _ i (Nat.le_refl _) hin
        exact bK _ _ _ _ _ _ ⟨fun _ => ⟨_, rfl, cC (k + 1) (some b) ls i, e6 hin, _, _, hx, fun h => absurd h19 h, fun _ => ⟨_, hc, fun h => absurd hcc h, fun _ => ⟨by omega, ihe (i + 1) (by omega)⟩⟩⟩, fun h => by omega⟩
      · exact bK _ _ _ _ _ _ ⟨fun h => by omega, fun _ => ⟨_, aw, rfl⟩⟩
  exact fa (k + 1 + 1) _ _ _ _ ⟨_, hr, by constructor <;> omega, _, hr2, _, by rw [en]; exact hch, loop (k + 1) 0 (by omega)⟩
end Go.Proofs.Ytiknldgpnhikhaa
namespace Go.Proofs.Ytiknldgpnhikhaa
open Go.RowKit Lx Sx
abbrev fo (W : World) : Nat → Prop := fun b => b < W.heap.size
theorem RowIn.live {W : World} {sz n : Nat} {A : Option Addr} {xs : List Value} (h : RowIn Any W sz A n xs) : RowIn (fo W) W sz A n xs := ⟨h.1, fun hp => by
  obtain ⟨b, off, h1, _, h3, h4⟩ := h.2 hp
  exact ⟨b, off, h1, h3, h3, h4⟩⟩
mutual
theorem TreeIs.live {W : World} : ∀ {t : Tree} {c : List Value}, TreeIs Any W t c → TreeIs (fo W) W t c
  | .node k s ls ks, c, h => by
    simp only [TreeIs] at h ⊢
    obtain ⟨A, m, B, n, h1, h2, h3, h4, h5, h6, cs, h7, h8⟩ := h
    exact ⟨A, m, B, n, h1, h2, h3, h4, h5, h6.live, cs, KidsAre.live h7, h8.live⟩
theorem KidsAre.live {W : World} : ∀ {ts : List Tree} {cs : List Value}, KidsAre Any W ts cs → KidsAre (fo W) W ts cs
  | [], cs, h => by simp only [KidsAre] at h ⊢; exact h
  | t :: r, cs, h => by
    simp only [KidsAre] at h ⊢
    obtain ⟨c, d, h1, h2, h3⟩ := h
    exact ⟨c, d, h1, TreeIs.live h2, KidsAre.live h3⟩
end
abbrev VLive (W : World) (v : V) (x : Value) : Prop := VRel (fo W) W (fun _ => none) v x
theorem tU {W : World} (z : Int) : VLive W (.int .i64 z) (.int .i64 z) := by simp only [VLive, VRel]
theorem tT {fid : FuncId} {us : List V} {b : Bool} (h : aI Try.prog fid us (.bool b)) {W : World} {xs : List Value} (hx : LRel (fo W) W (fun _ => none) us xs) : Calls Try.prog fid xs.toArray W fun e W' => e = .returned (.bool b) ∧ Ext W W' := by
  have h0 := qu W
  have hr' : HRel (fo W) W (fun _ => none) (⟨0, []⟩ : Hp).get := ⟨h0.ob, fun i b hb => by rw [gv] at hb; exact hb.elim, fun i j b hb _ => by rw [gv] at hb; exact hb.elim, fun _ h => h⟩
  refine (h.2.2 _ W _ xs hr' hx).mono ?_
  rintro e W' ⟨x, S', ρ', v, H', rfl, rfl, h1, h2, h3⟩
  simp only [VRel] at h3
  subst h3
  have hno : ∀ b, ¬ ∃ id, own (fun _ => none) id ((⟨0, []⟩ : Hp).get id) b := fun b ⟨id, hb⟩ => by rw [gv] at hb; exact hb
  exact ⟨rfl, Chg.ext ⟨h2.chg.os, h2.chg.tape, h2.chg.output, h2.chg.size, fun b hb _ => h2.chg.block b hb (hno b)⟩⟩
theorem lr1 {W : World} {u : V} {x : Value} (h : VLive W u x) : LRel (fo W) W (fun _ => none) [u] [x] := ⟨x, [], rfl, h, rfl⟩
theorem lrc {W : World} {u : V} {us : List V} {x : Value} {xs : List Value} (h : VLive W u x) (k : LRel (fo W) W (fun _ => none) us xs) : LRel (fo W) W (fun _ => none) (u :: us) (x :: xs) := ⟨x, xs, rfl, h, k⟩
end Go.Proofs.Ytiknldgpnhikhaa
namespace Go.Proofs.Ytiknldgpnhikhaa
open Go.RowKit Go.ChangeShapes Go.WideShapes Go.Deep
open Lx Sx
theorem nG : Try.prog.cellsOf 4 = 1 := by kernel_rfl
theorem rH {H : Type} {enc : TypeId × Value → H} {W : World} {a0 : Option Addr} {len cap : Nat} {d : DataW H} {p : List MemPlace} (h : DataW.Trod enc Try.prog W 0 (fun _ => true) true 22 (.slice a0 len cap) d p) :
    ∃ bs : List Bool, len = bs.length ∧ len ≤ cap ∧ cap ≤ maxLen ∧ RowIn Any W 1 a0 bs.length (bs.map fun b => .bool b) := by
  obtain ⟨fuel, hf⟩ := h
  rcases open_bools Try.underlying22 Try.underlying4 nG hf with ⟨hcs, hx⟩ | ⟨a, len', cap', B, hcs, hb, hl, hm, hx, hcell⟩
  · simp [Value.cells] at hcs
    obtain ⟨rfl, rfl, rfl⟩ := hcs
    exact ⟨[], rfl, Nat.le_refl _, Nat.zero_le _, RowIn.none_⟩
  · simp [Value.cells] at hcs
    obtain ⟨rfl, rfl, rfl⟩ := hcs
    refine ⟨(List.range len).map B, by simp, hl, hm, by simp, fun h0 => ?_⟩
    simp only [List.length_map, List.length_range] at h0 ⊢
    have hs : a.spot = none := World.cell?_spot (a := a) (by have := hcell 0 (by omega); simpa [Addr.add] using this)
    obtain ⟨b, off, spot⟩ := a
    simp only at hs
    subst hs
    have hadd : ∀ k, (⟨b, off, none⟩ : Addr).add k = ⟨b, off + k, none⟩ := fun k => by unfold Addr.add; split <;> simp_all
    refine ⟨b, off, rfl, trivial, ?_, fun j hj => ?_⟩
    · have := hcell 0 (by omega)
      exact World.block_lt_of_cell? W ⟨b, off, none⟩ (by simpa [Addr.add] using this)
    · have hj' : j < len := by omega
      have := hcell j (by omega)
      rw [hadd] at this
      rw [this]
      simp [hj']
section
variable {S : Nat → Prop} {w : World} {ρ : Nat → Option Value}
theorem kO : ∀ ls : List Bool, CRel S w ρ 1 (ls.map V.bool) (ls.map fun b => .bool b)
  | [] => by simp [CRel]
  | s :: r => by
    simp only [List.map_cons, CRel]
    exact ⟨.bool s, _, by simp [Value.cells], ⟨rfl, rfl⟩, by unfold VRel; rfl, kO r⟩
end
theorem tL {W : World} {l : List Bool} {A : Option Addr} {cap : Nat} (hc : l.length ≤ cap) (hm : cap ≤ maxLen) (hr : RowIn Any W 1 A l.length (l.map fun b => .bool b)) : VLive W (.row 1 (l.map V.bool)) (.slice A l.length cap) := by
  simp only [VLive, VRel]
  exact ⟨A, cap, _, by simp, by simpa using hc, hm, kO l, by simpa using hr.live⟩
end Go.Proofs.Ytiknldgpnhikhaa
