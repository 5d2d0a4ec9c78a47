/- Contracts of the functions that the law reaches, part 2. -/
import Derived.Test.YtaoiaeohojfdgaaGreatBc1
set_option linter.unusedVariables false
set_option linter.unusedSimpArgs false
namespace Go.Proofs.YtaoiaeohojfdgaaGreat
open Go.RowKit
section
variable {P : Program} {T : Tab} {K : Ctx} {Q : Exit → Act → World → Prop} {s : List EI} {n : Nat} {F : Fm} {H : Hp} {S : Nat → Prop} {w : World} {ρ : Nat → Option Value} {a : Act}
theorem PRel.up {S' : Nat → Prop} {w' : World} {ρ' : Nat → Option Value} (u : Up S S' w w' ρ ρ') : ∀ {vs : List (Nat × V)} {ys : List (Nat × Value)}, PRel S w ρ vs ys → PRel S' w' ρ' vs ys
 | [], ys, h => h
 | (i, v) :: r, ys, h => by
  simp only [PRel] at h ⊢
  obtain ⟨x, zs, h1, h2, h3⟩ := h
  exact ⟨x, zs, h1, h2.up u, PRel.up u h3⟩
variable {all : Array Oper} {L : List Nat} {m left i : Nat} {listed : Array Bool} {o : Oper}
variable {ps : List (Nat × Operand)} {vs : List (Nat × V)} {v : V}
theorem CS {j : Nat} {B Sx : World → Prop} {Q' : Exit → Act → World → Prop} (hrd : (match Region.ready .any all listed with | [x, y] => (Nat.beq x i && Nat.beq y j) || (Nat.beq x j && Nat.beq y i) | _ => false) = true)
  (h1 : wpOp P all Q' i (fun a' w' => B w' ∧ (Sx w' ∨ (listed.setIfInBounds i true).getD m false = true) ∧ wpB P all Q' B Sx m left (listed.setIfInBounds i true) a' w') a w)
  (h2 : wpOp P all Q' j (fun a' w' => B w' ∧ (Sx w' ∨ (listed.setIfInBounds j true).getD m false = true) ∧ wpB P all Q' B Sx m left (listed.setIfInBounds j true) a' w') a w) : wpB P all Q' B Sx m (left + 1) listed a w := by
 split at hrd
 ·rename_i x y hr
  refine ⟨fun h0 => (by rw [hr] at h0; cases h0), fun c hc => ?_⟩
  rw [hr] at hc
  simp only [Bool.or_eq_true, Bool.and_eq_true, Nat.beq_eq] at hrd
  simp only [List.mem_cons, List.not_mem_nil, or_false] at hc
  rcases hrd with ⟨rfl, rfl⟩ | ⟨rfl, rfl⟩
  ·rcases hc with rfl | rfl
   ·exact h1
   ·exact h2
  ·rcases hc with rfl | rfl
   ·exact h2
   ·exact h1
 ·cases hrd
end
section
variable {P : Program} {T : Tab} {K : Ctx} {Q : Exit → Act → World → Prop} {s : List EI} {n : Nat} {F : Fm} {H : Hp}
def tr (P : Program) (K : Ctx) (o : Oper) (L : List Nat) (ok : Bool) (n : Nat) (F : Fm) (H : Hp) (u : V) (H' : Hp) : Prop :=
  ∀ S w ρ a, HRel S w ρ H.get → Inv K S w ρ H.get → FRel S w ρ a n F → ∀ (Q' : Exit → Act → World → Prop) (K2 : Act → World → Prop),
    (∀ x S' w' ρ', HRel S' w' ρ' H'.get → Inv K S' w' ρ' H'.get → Up S S' w w' ρ ρ' → Agree S w w' → (Ls ρ L w w' ∨ ok = true) → VRel S' w' ρ' u x → K2 (a.put o.dst x) w') → o.wp P a w K2 Q'
theorem jV (hT : TabOk P T) {o : Oper} {L : List Nat} {ok : Bool} {v : Option V} {ed : ED} (hv : nD T H.get F H.nx o.op = some (v, ed)) (hc : ((ej H.get L && ed.clear L) || ok) = true) : tr P K o L ok n F H (v.getD (.tup [])) (H.app ed) := fun S w ρ a hr hi hF Q' K2 k => by
 obtain ⟨nx, w', ρ', h1, h2, h3⟩ := rO (ty := o.type) hT hr hF H.get_free hv
 have hr' := h2.hr
 have hi' := hi.eff h2
 rw [← Hp.get_app (oY hv)] at hr' hi'
 have hLs : Ls ρ L w w' ∨ ok = true := (vi hc).imp (fun h => by
  simp only [Bool.and_eq_true] at h
  exact we hr h2 h.1 h.2) id
 have kk := fun x hx => k x S w' ρ' hr' hi' h2.up (od hr h2) hLs hx
 obtain ⟨d, op, ty, ps, af, g⟩ := o
 unfold Oper.wp
 rw [h1 d ps af g]
 cases v with
 | none =>
  subst h3
  exact kk undef qz
 | some v =>
  obtain ⟨x, rfl, h4⟩ := h3
  exact kk x h4
theorem oW {o : Oper} {L : List Nat} {ok : Bool} {fid : FuncId} {args : List Operand} {tys : Array TypeId} {vs : List V} {u : V} {H' : Hp} {L' : List Nat} (he : dP P fid = true) (ho : o.op = .call { callee := .value (.func fid), args := args.toArray, argTypes := tys }) (hv : gE F args = some vs) (hC : CallR P K fid vs H L' (fun u' H'' => u' = u ∧ H'' = H')) (hL : L' = L ∨ ok = true) : tr P K o L ok n F H u H' := fun S w ρ a hr hi hF Q' K2 k => by
 obtain ⟨xs, h1, h2⟩ := qv hF hv
 have hcl := hC S w ρ xs hr hi h2
 obtain ⟨d, op, ty, ps, af, g⟩ := o
 simp only at ho
 subst ho
 have hx : (execOp a.eval ⟨d, .call { callee := .value (.func fid), args := args.toArray, argTypes := tys }, ty, ps, af, g⟩).run P w = .ok (.enter fid xs.toArray) w := by
  have e : args.toArray.map a.eval = xs.toArray := by rw [← hF.fr.vals h1]; simp
  simp only [execOp, resolve, e]
  simp [Act.eval, Deferred.ofValue, invoke, oa he]
 unfold Oper.wp
 rw [hx, Oper.upon_enter]
 refine hcl.mono fun e w1 hR => ?_
 obtain ⟨x, S', ρ', v, H'', rfl, ⟨rfl, rfl⟩, hr', hi', hu, hvr, hls⟩ := hR
 exact k x S' w1 ρ' hr' hi' hu (fun b hb => hu.blk b hb (hr.slt b hb)) (hL.imp (fun e => by subst e; exact hls) id) hvr
theorem lL {all : Array Oper} {L : List Nat} {m left i j : Nat} {listed : Array Bool} {oi oj : Oper} {ui uj : V} {Hi Hj : Hp} (hrd : (match Region.ready .any all listed with | [x, y] => (Nat.beq x i && Nat.beq y j) || (Nat.beq x j && Nat.beq y i) | _ => false) = true) (hi : all[i]? = some oi) (hj : all[j]? = some oj) (hwi : ch F all oi.guard = some true) (hwj : ch F all oj.guard = some true)
  (xi : tr P K oi L ((listed.setIfInBounds i true).getD m false) n F H ui Hi) (xj : tr P K oj L ((listed.setIfInBounds j true).getD m false) n F H uj Hj)
  (ki : Go P K Q (.drw all L m left (listed.setIfInBounds i true)) s n (F.seto oi.dst (some ui)) Hi) (kj : Go P K Q (.drw all L m left (listed.setIfInBounds j true)) s n (F.seto oj.dst (some uj)) Hj) : Go P K Q (.drw all L m (left + 1) listed) s n F H := fun S w ρ a hr hiv hF hs => by
 refine CS hrd ?_ ?_
 ·unfold wpOp
  simp only [hi]
  rw [if_pos (eC hF hwi)]
  exact .inl (xi S w ρ a hr hiv hF _ _ fun x S' w' ρ' hr' hi' hu hA hL hv => rr hu hA hL (ki S' w' ρ' _ hr' hi' (gZ (hF.up hu) oi.dst hv) hs))
 ·unfold wpOp
  simp only [hj]
  rw [if_pos (eC hF hwj)]
  exact .inl (xj S w ρ a hr hiv hF _ _ fun x S' w' ρ' hr' hi' hu hA hL hv => rr hu hA hL (kj S' w' ρ' _ hr' hi' (gZ (hF.up hu) oj.dst hv) hs))
end
def atN : List Nat → Nat → Option Nat
 | [], _ => none
 | x :: _, 0 => some x
 | _ :: r, i + 1 => atN r i
theorem mv : ∀ (l : List Nat) (i : Nat), atN l i = l[i]?
 | [], i => by simp [atN]
 | x :: r, 0 => by simp [atN]
 | x :: r, i + 1 => by simp [atN, mv r i]
abbrev xX : V := .raw (.agg #[])
mutual
def V.ren (σ : List Nat) : V → V
 |.ptr id o => match atN σ id with
  | some j => .ptr j o
  | none => xX
 |.el id sz i o => match atN σ id with
  | some j => .el j sz i o
  | none => xX
 |.sl id => match atN σ id with
  | some j => .sl j
  | none => xX
 |.np id => match atN σ id with
  | some j => .np j
  | none => .nilp
 | .agg cs => .agg (renL σ cs)
 | .tup cs => .tup (renL σ cs)
 | .clo fid cs => .clo fid (renL σ cs)
 | .int k n => .int k n
 | .bool b => .bool b
 | .str l => .str l
 | .nilp => .nilp
 | .nils => .nils
 | .raw x => .raw x
 | .box cs o => .box cs o
 | .row sz els => .row sz els
 | .lk els => .lk els
def renL (σ : List Nat) : List V → List V
 | [] => []
 | v :: r => v.ren σ :: renL σ r
end
def Ob.ren (σ : List Nat) : Ob → Ob
 | .var t cs => .var t (renL σ cs)
 | .row e sz els => .row e sz (renL σ els)
 | o => o
def eW (σ : List Nat) (ρ : Nat → Option Value) : Nat → Option Value := fun j => match atN σ j with
 | some i => ρ i
 | none => none
section
variable {S : Nat → Prop} {w : World} {ρ : Nat → Option Value} {σ : List Nat}
theorem wl {x : Value} (h : VRel S w ρ xX x) : False := by simp only [VRel, Value.oneCell'] at h; exact absurd h.2 (by simp)
mutual
theorem VRel.ren : ∀ {v : V} {x : Value}, VRel S w ρ (v.ren σ) x → VRel S w (eW σ ρ) v x
 | .int _ _, x, h => by simp only [V.ren, VRel] at h ⊢; exact h
 | .bool _, x, h => by simp only [V.ren, VRel] at h ⊢; exact h
 | .str _, x, h => by simp only [V.ren, VRel] at h ⊢; exact h
 | .nilp, x, h => by simp only [V.ren, VRel] at h ⊢; exact h
 | .nils, x, h => by simp only [V.ren, VRel] at h ⊢; exact h
 | .raw _, x, h => by simp only [V.ren, VRel] at h ⊢; exact h
 | .box _ _, x, h => by simp only [V.ren, VRel] at h ⊢; exact h
 | .row _ _, x, h => by simp only [V.ren, VRel] at h ⊢; exact h
 | .lk _, x, h => by simp only [V.ren, VRel] at h ⊢; exact h
 | .ptr id o, x, h => by
  simp only [V.ren] at h
  split at h
  ·rename_i j hj
   simp only [VRel] at h ⊢
   obtain ⟨b, h1, h2⟩ := h
   exact ⟨b, by simp only [eW, hj]; exact h1, h2⟩
  ·exact (wl h).elim
 | .el id sz i o, x, h => by
  simp only [V.ren] at h
  split at h
  ·rename_i j hj
   simp only [VRel] at h ⊢
   obtain ⟨b, n, c, h1, h2⟩ := h
   exact ⟨b, n, c, by simp only [eW, hj]; exact h1, h2⟩
  ·exact (wl h).elim
 | .sl id, x, h => by
  simp only [V.ren] at h
  split at h
  ·rename_i j hj
   simp only [VRel] at h ⊢
   exact ⟨by simp only [eW, hj]; exact h.1, h.2⟩
  ·exact (wl h).elim
 | .np id, x, h => by
  simp only [V.ren] at h
  split at h
  ·rename_i j hj
   simp only [VRel] at h ⊢
   exact h.imp_right fun ⟨b, h1, h2⟩ => ⟨b, by simp only [eW, hj]; exact h1, h2⟩
  ·simp only [VRel] at h ⊢
   exact .inl h
 | .agg cs, x, h => by
  simp only [V.ren, VRel] at h ⊢
  obtain ⟨xs, h1, h2⟩ := h
  exact ⟨xs, h1, LRel.ren h2⟩
 | .tup cs, x, h => by
  simp only [V.ren, VRel] at h ⊢
  obtain ⟨xs, h1, h2⟩ := h
  exact ⟨xs, h1, LRel.ren h2⟩
 | .clo fid cs, x, h => by
  simp only [V.ren, VRel] at h ⊢
  obtain ⟨xs, h1, h2⟩ := h
  exact ⟨xs, h1, LRel.ren h2⟩
theorem LRel.ren : ∀ {v : List V} {x : List Value}, LRel S w ρ (renL σ v) x → LRel S w (eW σ ρ) v x
 | [], x, h => by simp only [renL, LRel] at h ⊢; exact h
 | v :: r, x, h => by
  simp only [renL, LRel] at h ⊢
  obtain ⟨y, ys, h1, h2, h3⟩ := h
  exact ⟨y, ys, h1, VRel.ren h2, LRel.ren h3⟩
end
theorem sE : ∀ (l : List V), (renL σ l).length = l.length
 | [] => by simp [renL]
 | v :: r => by simp [renL, sE r]
theorem CRel.ren {sz : Nat} : ∀ {v : List V} {x : List Value}, CRel S w ρ sz (renL σ v) x → CRel S w (eW σ ρ) sz v x
 | [], x, h => by simp only [renL, CRel] at h ⊢; exact h
 | v :: r, x, h => by
  simp only [renL, CRel] at h ⊢
  obtain ⟨y, ys, h1, h2, h3, h4⟩ := h
  exact ⟨y, ys, h1, h2, VRel.ren h3, CRel.ren h4⟩
mutual
theorem VRel.bwd {ρ' : Nat → Option Value} (hσ : ∀ j x, ρ j = some x → ∃ i, atN σ j = some i ∧ ρ' i = some x) : ∀ {v : V} {x : Value}, VRel S w ρ v x → VRel S w ρ' (v.ren σ) x
 | .int _ _, x, h => by simp only [V.ren, VRel] at h ⊢; exact h
 | .bool _, x, h => by simp only [V.ren, VRel] at h ⊢; exact h
 | .str _, x, h => by simp only [V.ren, VRel] at h ⊢; exact h
 | .nilp, x, h => by simp only [V.ren, VRel] at h ⊢; exact h
 | .nils, x, h => by simp only [V.ren, VRel] at h ⊢; exact h
 | .raw _, x, h => by simp only [V.ren, VRel] at h ⊢; exact h
 | .box _ _, x, h => by simp only [V.ren, VRel] at h ⊢; exact h
 | .row _ _, x, h => by simp only [V.ren, VRel] at h ⊢; exact h
 | .lk _, x, h => by simp only [V.ren, VRel] at h ⊢; exact h
 | .ptr id o, x, h => by
  simp only [VRel] at h
  obtain ⟨b, h1, h2⟩ := h
  obtain ⟨i, h3, h4⟩ := hσ _ _ h1
  simp only [V.ren, h3, VRel]
  exact ⟨b, h4, h2⟩
 | .el id sz i o, x, h => by
  simp only [VRel] at h
  obtain ⟨b, n, c, h1, h2⟩ := h
  obtain ⟨i', h3, h4⟩ := hσ _ _ h1
  simp only [V.ren, h3, VRel]
  exact ⟨b, n, c, h4, h2⟩
 | .sl id, x, h => by
  simp only [VRel] at h
  obtain ⟨i, h3, h4⟩ := hσ _ _ h.1
  simp only [V.ren, h3, VRel]
  exact ⟨h4, h.2⟩
 | .np id, x, h => by
  simp only [VRel] at h
  rcases h with h | ⟨b, h1, h2⟩
  ·simp only [V.ren]
   split
   ·simp only [VRel]; exact .inl h
   ·simp only [VRel]; exact h
  ·obtain ⟨i, h3, h4⟩ := hσ _ _ h1
   simp only [V.ren, h3, VRel]
   exact .inr ⟨b, h4, h2⟩
 | .agg cs, x, h => by
  simp only [V.ren, VRel] at h ⊢
  obtain ⟨xs, h1, h2⟩ := h
  exact ⟨xs, h1, LRel.bwd hσ h2⟩
 | .tup cs, x, h => by
  simp only [V.ren, VRel] at h ⊢
  obtain ⟨xs, h1, h2⟩ := h
  exact ⟨xs, h1, LRel.bwd hσ h2⟩
 | .clo fid cs, x, h => by
  simp only [V.ren, VRel] at h ⊢
  obtain ⟨xs, h1, h2⟩ := h
  exact ⟨xs, h1, LRel.bwd hσ h2⟩
theorem LRel.bwd {ρ' : Nat → Option Value} (hσ : ∀ j x, ρ j = some x → ∃ i, atN σ j = some i ∧ ρ' i = some x) : ∀ {v : List V} {x : List Value}, LRel S w ρ v x → LRel S w ρ' (renL σ v) x
 | [], x, h => by simp only [renL, LRel] at h ⊢; exact h
 | v :: r, x, h => by
  simp only [renL, LRel] at h ⊢
  obtain ⟨y, ys, h1, h2, h3⟩ := h
  exact ⟨y, ys, h1, VRel.bwd hσ h2, LRel.bwd hσ h3⟩
end
theorem CRel.bwd {ρ' : Nat → Option Value} (hσ : ∀ j x, ρ j = some x → ∃ i, atN σ j = some i ∧ ρ' i = some x) {sz : Nat} : ∀ {v : List V} {x : List Value}, CRel S w ρ sz v x → CRel S w ρ' sz (renL σ v) x
 | [], x, h => by simp only [renL, CRel] at h ⊢; exact h
 | v :: r, x, h => by
  simp only [renL, CRel] at h ⊢
  obtain ⟨y, ys, h1, h2, h3, h4⟩ := h
  exact ⟨y, ys, h1, h2, VRel.bwd hσ h3, CRel.bwd hσ h4⟩
end
def bv (v u : V) : Prop := ∀ S w ρ x, VRel S w ρ v x → VRel S w ρ u x
theorem bv.rfl {v : V} : bv v v := fun _ _ _ _ h => h
theorem bv.np0 (i : Nat) : bv .nilp (.np i) := fun S w ρ x h => by simp only [VRel] at h ⊢; exact .inl h
theorem bv.nil (sz : Nat) : bv .nils (.row sz []) := fun S w ρ x h => by
 simp only [VRel] at h ⊢
 subst h
 exact ⟨none, 0, [], by simp, Nat.le_refl _, by decide, by simp [CRel], RowIn.none_⟩
def aC : List V → List V → Prop
 | [], us => us = []
 | v :: r, us => ∃ u q, us = u :: q ∧ bv v u ∧ aC r q
theorem aC.rel {S : Nat → Prop} {w : World} {ρ : Nat → Option Value} : ∀ {vs us : List V} {xs : List Value}, aC vs us → LRel S w ρ vs xs → LRel S w ρ us xs
 | [], us, xs, h, hl => by simp only [aC] at h; subst h; exact hl
 | v :: r, us, xs, h, hl => by
  simp only [aC] at h
  obtain ⟨u, q, rfl, h1, h2⟩ := h
  simp only [LRel] at hl ⊢
  obtain ⟨y, ys, rfl, h3, h4⟩ := hl
  exact ⟨y, ys, rfl, h1 _ _ _ _ h3, aC.rel h2 h4⟩
theorem aC.rfl : ∀ {vs : List V}, aC vs vs
 | [] => by simp [aC]
 | v :: r => ⟨v, r, by rfl, bv.rfl, aC.rfl⟩
theorem bv.agg {vs us : List V} (h : aC vs us) : bv (.agg vs) (.agg us) := fun S w ρ x hx => by
 simp only [VRel] at hx ⊢
 obtain ⟨xs, h1, h2⟩ := hx
 exact ⟨xs, h1, h.rel h2⟩
theorem aC.cons {v u : V} {r q : List V} (h : bv v u) (k : aC r q) : aC (v :: r) (u :: q) := ⟨u, q, by rfl, h, k⟩
theorem aC.nil : aC [] [] := by simp [aC]
def iH : Ob → Ob → Prop
 | _, .gone => True
 | .var t cs, .var t' cs' => t = t' ∧ aC cs cs'
 | .row e sz els, .row e' sz' els' => e = e' ∧ sz = sz' ∧ els = els'
 | .mp k e ks vs, .mp k' e' ks' vs' => k = k' ∧ e = e' ∧ ks = ks' ∧ vs = vs'
 | _, _ => False
def leF (σ : List Nat) : Fm → Fm → Prop
 | _, [] => True
 | [], none :: r' => leF σ [] r'
 | [], some _ :: _ => False
 | x :: r, none :: r' => leF σ r r'
 | x :: r, some u :: r' => (∃ v, x = some v ∧ bv v (u.ren σ)) ∧ leF σ r r'
def leH (σ : List Nat) (H : Hp) : List (Nat × Ob) → Prop
 | [] => True
 | (j, o) :: r => (∃ i, atN σ j = some i ∧ iH (H.get i) (o.ren σ)) ∧ leH σ H r
def dr : List Nat → Bool
 | [] => true
 | i :: r => !r.contains i && dr r
section
variable {P : Program} {T : Tab} {K : Ctx} {Q : Exit → Act → World → Prop} {s : List EI} {n : Nat} {F F' : Fm} {H H' : Hp} {σ : List Nat} {S : Nat → Prop} {w : World} {ρ : Nat → Option Value} {a : Act}
theorem rG : ∀ {F F' : Fm}, leF σ F F' → ∀ i u, F'.get i = some u → ∃ v, F.get i = some v ∧ bv v (u.ren σ)
 | F, [], h, i, u, hu => by simp [Fm.get] at hu
 | [], none :: r', h, 0, u, hu => by simp [Fm.get] at hu
 | [], none :: r', h, i + 1, u, hu => by
  obtain ⟨v, h1, _⟩ := rG (F := []) (F' := r') (by simpa [leF] using h) i u (by simpa [Fm.get] using hu)
  simp [Fm.get] at h1
 | [], some _ :: _, h, i, u, hu => by simp [leF] at h
 | x :: r, none :: r', h, 0, u, hu => by simp [Fm.get] at hu
 | x :: r, none :: r', h, i + 1, u, hu => by
  have := rG (F := r) (F' := r') (by simpa [leF] using h) i u (by simpa [Fm.get] using hu)
  simpa [Fm.get] using this
 | x :: r, some u' :: r', h, 0, u, hu => by
  simp only [leF] at h
  simp only [Fm.get, Option.some.injEq] at hu
  subst hu
  obtain ⟨v, h1, h2⟩ := h.1
  exact ⟨v, by simp [Fm.get, h1], h2⟩
 | x :: r, some u' :: r', h, i + 1, u, hu => by
  simp only [leF] at h
  have := rG h.2 i u (by simpa [Fm.get] using hu)
  simpa [Fm.get] using this
theorem Bz (h : leF σ F F') (hl : F'.length ≤ n) (hF : FRel S w ρ a n F) : FRel S w (eW σ ρ) a n F' :=
 ⟨hF.size, hF.defers, hl, fun i u hu => by
  obtain ⟨v, h1, h2⟩ := rG h i u hu
  obtain ⟨x, h3, h4⟩ := hF.get i v h1
  exact ⟨x, h3, (h2 _ _ _ _ h4).ren⟩⟩
theorem sW : ∀ {l : List (Nat × Ob)}, leH σ H l → ∀ j, aO l j = .gone ∨ ∃ i, atN σ j = some i ∧ iH (H.get i) ((aO l j).ren σ)
 | [], _, j => .inl rfl
 | (k, o) :: r, h, j => by
  simp only [leH] at h
  simp only [aO]
  split
  ·rename_i hb
   have := Nat.eq_of_beq_eq_true hb
   subst this
   exact .inr h.1
  ·exact sW h.2 j
theorem oV : ∀ {l : List Nat}, dr l = true → ∀ i j x, atN l i = some x → atN l j = some x → i = j
 | [], _, i, j, x, hi, hj => by simp [atN] at hi
 | y :: r, h, 0, 0, x, hi, hj => rfl
 | y :: r, h, 0, j + 1, x, hi, hj => by
  simp only [dr, Bool.and_eq_true, Bool.not_eq_true'] at h
  simp only [atN, Option.some.injEq] at hi hj
  subst hi
  rw [mv] at hj
  have := List.mem_of_getElem? hj
  simp [this] at h
 | y :: r, h, i + 1, 0, x, hi, hj => by
  simp only [dr, Bool.and_eq_true, Bool.not_eq_true'] at h
  simp only [atN, Option.some.injEq] at hi hj
  subst hj
  rw [mv] at hi
  have := List.mem_of_getElem? hi
  simp [this] at h
 | y :: r, h, i + 1, j + 1, x, hi, hj => by
  simp only [dr, Bool.and_eq_true] at h
  have := oV h.2 i j x (by simpa [atN] using hi) (by simpa [atN] using hj)
  omega
theorem Ao {i j : Nat} {o o' : Ob} (hij : atN σ j = some i) (h : iH o (o'.ren σ)) (ho' : o' ≠ .gone) (hr : fB S w ρ i o) : fB S w (eW σ ρ) j o' ∧ ∀ b, own (eW σ ρ) j o' b → own ρ i o b := by
 have hρ : eW σ ρ j = ρ i := by simp only [eW, hij]
 cases o' with
 | gone => exact absurd rfl ho'
 | free => cases o <;> simp [Ob.ren, iH] at h
 | ext bs Φ => cases o <;> simp [Ob.ren, iH] at h
 | mp kt' et' ks' vs' =>
  cases o <;> simp only [Ob.ren, iH] at h
  rename_i kt et ks vs
  obtain ⟨rfl, rfl, rfl, rfl⟩ := h
  obtain ⟨b, es, ck, h1, h2, h3, h4⟩ := hr
  exact ⟨⟨b, es, ck, by rw [hρ]; exact h1, h2, h3, h4⟩, fun c hc => by simp only [own] at hc ⊢; rw [hρ] at hc; exact hc⟩
 | var t' cs' =>
  cases o <;> simp only [Ob.ren, iH] at h
  rename_i t cs
  obtain ⟨rfl, h⟩ := h
  obtain ⟨b, xs, h1, h2, h3⟩ := hr
  exact ⟨⟨b, xs, by rw [hρ]; exact h1, h2, (h.rel h3).ren⟩, fun c hc => by simp only [own] at hc ⊢; rw [hρ] at hc; exact hc⟩
 | row e' sz' els' =>
  cases o <;> simp only [Ob.ren, iH] at h
  rename_i e sz els
  obtain ⟨rfl, rfl, rfl⟩ := h
  obtain ⟨v, xs, h1, h2, h3⟩ := hr
  rw [sE] at h2
  exact ⟨⟨v, xs, by rw [hρ]; exact h1, h2, h3.ren⟩, fun c hc => by
   obtain ⟨q, e1, e2⟩ := hc
   exact ⟨q, by rw [← hρ]; exact e1, e2⟩⟩
def aq (K : Ctx) (pv : List Nat) : Prop := ∀ id x, K.pin id = some x → id ∈ pv
def BJ (σ pv : List Nat) : Bool := pv.all fun i => match atN σ i with | some j => Nat.beq i j | none => false
theorem wh (hH : leH σ H H'.es) (hn : dr σ = true) (hlen : Nat.ble σ.length H'.nx = true) (hr : HRel S w ρ H.get) : HRel S w (eW σ ρ) H'.get ∧ ∀ j b, own (eW σ ρ) j (H'.get j) b → ∃ i, atN σ j = some i ∧ own ρ i (H.get i) b := by
 have key : ∀ j, fB S w (eW σ ρ) j (H'.get j) ∧ ∀ b, own (eW σ ρ) j (H'.get j) b → ∃ i, atN σ j = some i ∧ own ρ i (H.get i) b := fun j => by
  unfold Hp.get
  split
  ·rcases sW hH j with e | ⟨i, h1, h2⟩
   ·rw [e]; exact ⟨trivial, fun b hb => hb.elim⟩
   ·by_cases hg : aO H'.es j = .gone
    ·rw [hg]; exact ⟨trivial, fun b hb => hb.elim⟩
    ·obtain ⟨h3, h4⟩ := Ao h1 h2 hg (hr.ob i)
     exact ⟨h3, fun b hb => ⟨i, h1, h4 b hb⟩⟩
  ·rename_i hlt
   refine ⟨?_, fun b hb => hb.elim⟩
   show eW σ ρ j = none
   have hj : ¬ j < H'.nx := fun h => by rw [nlT h] at hlt; cases hlt
   have hl : σ.length ≤ H'.nx := Nat.le_of_ble_eq_true hlen
   simp only [eW, mv]
   rw [List.getElem?_eq_none (by omega)]
 refine ⟨⟨fun j => (key j).1, fun j b hb => ?_, fun i j b hbi hbj => ?_, hr.slt⟩, fun j => (key j).2⟩
 ·obtain ⟨i, _, h⟩ := (key j).2 b hb
  exact hr.sep i b h
 ·obtain ⟨i', h1, h2⟩ := (key i).2 b hbi
  obtain ⟨j', h3, h4⟩ := (key j).2 b hbj
  have := hr.dis i' j' b h2 h4
  subst this
  exact oV hn i j i' h1 h3
def EP.still : EP → Bool
 | .drw .. => false
 | _ => true
theorem go_sub {p : EP} (σ pv : List Nat) (hp : p.still = true) (hpin : aq K pv) (hF : leF σ F F') (hH : leH σ H H'.es) (hc : (dr σ && Nat.ble σ.length H'.nx && BJ σ pv && Nat.ble F'.length n) = true) (k : Go P K Q p s n F' H') : Go P K Q p s n F H := fun S w ρ a hr hi hf => by
 simp only [Bool.and_eq_true] at hc
 obtain ⟨⟨⟨h1, h2⟩, h3⟩, h4⟩ := hc
 obtain ⟨g1, g2⟩ := wh hH h1 h2 hr
 have hi' : Inv K S w (eW σ ρ) H'.get := ⟨hi.chg, hi.s0, hi.s1, fun j b hb => by obtain ⟨i, _, h⟩ := g2 j b hb; exact hi.ow i b h, fun id x hx => by
  have hm := List.all_eq_true.1 h3 id (hpin id x hx)
  simp only [eW]
  split at hm
  ·rename_i j hj
   have := Nat.eq_of_beq_eq_true hm
   subst this
   first | exact hi.pin id x hx | (rw [hj]; exact hi.pin id x hx)
  ·cases hm⟩
 have := k S w (eW σ ρ) a g1 hi' (Bz hF (Nat.le_of_ble_eq_true h4) hf)
 cases p with
 | drw => cases hp
 | code c => exact this
 | ops all rest => exact this
 | ex e => exact this
def SP (K : Ctx) (Post : V → Hp → Prop) (e : Ending) (w' : World) : Prop :=
 ∃ x S' ρ' v H', e = .returned x ∧ Post v H' ∧ HRel S' w' ρ' H'.get ∧ Inv K S' w' ρ' H'.get ∧ VRel S' w' ρ' v x
def im (PL : List Nat) (i : Nat) : Ob → Bool
 | .var _ _ => true
 | .ext _ _ => true
 | .mp _ _ _ _ => true
 | .row _ _ _ => PL.contains i
 | _ => false
def qC (PL : List Nat) (h : Nat → Ob) (ρ : Nat → Option Value) : Nat → Option Value := fun i => match im PL i (h i) with
 | true => ρ i
 | false => none
def bZ (PL : List Nat) (P : Program) (fid : FuncId) (vs : List V) (H0 : Hp) (Post : V → Hp → Prop) : Prop :=
 ∀ S w ρ xs, HRel S w ρ H0.get → LRel S w ρ vs xs → Calls P fid xs.toArray w (SP ⟨w, S, fun b => ∃ id, own ρ id (H0.get id) b, qC PL H0.get ρ⟩ Post)
abbrev Sum (P : Program) (fid : FuncId) (vs : List V) (H0 : Hp) (Post : V → Hp → Prop) : Prop := bZ [] P fid vs H0 Post
theorem am {PL : List Nat} {fid : FuncId} {fn : Func} {c : Code} {vs : List V} {H0 : Hp} {Post : V → Hp → Prop} (N : Nat) (pv : List Nat) (hf : P.funcs[fid]? = some fn) (hb : fn.body = some c) (hN : fn.ntmps = N) (hl : Nat.ble vs.length N = true) (hpv : ∀ i, im PL i (H0.get i) = true → i ∈ pv)
  (k : ∀ K, aq K pv → Go P K (bodyPost P fn (SP K Post)) (.code c) [] N (nc N vs) H0) : bZ PL P fid vs H0 Post := fun S w ρ xs hr hx => by
 subst hN
 have hi : Inv ⟨w, S, fun b => ∃ id, own ρ id (H0.get id) b, qC PL H0.get ρ⟩ S w ρ H0.get := ⟨ChgP.refl _ _, fun _ h => h, fun _ h => .inl h, fun id b hb => .inl ⟨id, hb⟩, fun id x h => by
  simp only [qC] at h
  split at h
  ·exact h
  ·cases h⟩
 refine Bt hf hb hl hr hi hx (k _ fun id x h => hpv id ?_)
 simp only [qC] at h
 split at h
 ·assumption
 ·cases h
theorem go_end (hT : TabOk P T) {fn : Func} {Post : V → Hp → Prop} {rs : List ResultVar} {vs : List V} {e : Exit} (hrs : fn.results = rs.toArray) (hv : sH T H.get F rs = some vs) (hP : Post (ur vs) H) (he : e = .ret ∨ e = .normal := by first | exact .inl rfl | exact .inr rfl) : Go P K (bodyPost P fn (SP K Post)) (.ex e) [] n F H := fun S w ρ a hr hi hF =>
 ret_go hT he hrs hr hF hv fun x hx => ⟨x, S, ρ, _, H, rfl, hP, hr, hi, hx⟩
theorem Sum.mono {PL : List Nat} {fid : FuncId} {vs : List V} {H0 : Hp} {Post Post' : V → Hp → Prop} (h : bZ PL P fid vs H0 Post) (hp : ∀ v H, Post v H → Post' v H) : bZ PL P fid vs H0 Post' := fun S w ρ xs hr hx => (h S w ρ xs hr hx).mono fun e w' ⟨x, S', ρ', v, H', h1, h2, h3⟩ => ⟨x, S', ρ', v, H', h1, hp v H' h2, h3⟩
theorem Sum.sub {PL : List Nat} {fid : FuncId} {vs us : List V} {H0 : Hp} {Post : V → Hp → Prop} (h : bZ PL P fid us H0 Post) (hs : aC vs us) : bZ PL P fid vs H0 Post := fun S w ρ xs hr hx => h S w ρ xs hr (hs.rel hx)
end
def kh : List Nat → Nat → Option Nat
 | [], _ => none
 |x :: r, i => match Nat.beq x i with
  | true => some 0
  |false => match kh r i with
   | some j => some (j + 1)
   | none => none
theorem gz : ∀ {l : List Nat} {i j : Nat}, kh l i = some j → atN l j = some i
 | [], i, j, h => by cases h
 | x :: r, i, j, h => by
  simp only [kh] at h
  split at h
  ·rename_i hb
   have := Nat.eq_of_beq_eq_true hb
   injection h with h; subst h; subst this; rfl
  ·split at h
   ·rename_i j' hj
    injection h with h; subst h
    simpa [atN] using gz hj
   ·cases h
theorem uO : ∀ {l : List Nat} {i : Nat}, kh l i = none → ∀ j, atN l j ≠ some i
 | [], i, h, j => by simp [atN]
 | x :: r, i, h, 0 => by
  simp only [kh] at h
  split at h
  ·cases h
  ·rename_i hb
   simp only [atN, ne_eq, Option.some.injEq]
   exact Nat.ne_of_beq_eq_false hb
 | x :: r, i, h, j + 1 => by
  simp only [kh] at h
  split at h
  ·cases h
  ·split at h
   ·cases h
   ·rename_i hn
    simpa [atN] using uO hn j
theorem Ct {l : List Nat} (hn : dr l = true) {i j : Nat} (h : atN l j = some i) : kh l i = some j := by
 cases hi : kh l i with
 | none => exact absurd h (uO hi j)
 | some k => rw [oV hn k j i (gz hi) h]
def sgN (PL : List Nat) (nx : Nat) (h0 : Nat → Ob) : Nat → List Nat → Nat → List Nat
 | 0, _, _ => []
 |m + 1, σ, j => match σ with
  | [] => (nx + j) :: sgN PL nx h0 m [] (j + 1)
  | i :: r => (match im PL j (h0 j) with | true => i | false => nx + j) :: sgN PL nx h0 m r (j + 1)
theorem ua (PL : List Nat) (nx : Nat) (h0 : Nat → Ob) : ∀ (m : Nat) (σ : List Nat) (j : Nat), (sgN PL nx h0 m σ j).length = m
 | 0, _, _ => rfl
 | m + 1, [], j => by simp [sgN, ua PL nx h0 m]
 | m + 1, i :: r, j => by simp [sgN, ua PL nx h0 m]
theorem vm (PL : List Nat) (nx : Nat) (h0 : Nat → Ob) : ∀ (m : Nat) (σ : List Nat) (j k : Nat), k < m → atN (sgN PL nx h0 m σ j) k = some (match atN σ k, im PL (j + k) (h0 (j + k)) with | some i, true => i | _, _ => nx + (j + k))
 | 0, _, _, k, h => by omega
 | m + 1, [], j, 0, h => by simp [sgN, atN]
 | m + 1, [], j, k + 1, h => by
  have := vm PL nx h0 m [] (j + 1) k (by omega)
  simp only [sgN, atN] at this ⊢
  rw [this]
  simp only [show j + 1 + k = j + (k + 1) by omega]
 | m + 1, i :: r, j, 0, h => by
  simp only [sgN, atN, Nat.add_zero]
  cases im PL j (h0 j) <;> rfl
 | m + 1, i :: r, j, k + 1, h => by
  have := vm PL nx h0 m r (j + 1) k (by omega)
  simp only [sgN, atN] at this ⊢
  rw [this]
  simp only [show j + 1 + k = j + (k + 1) by omega]
def rA (σ : List Nat) : List (Nat × Ob) → List (Nat × Ob)
 | [] => []
 |(j, o) :: r => match atN σ j with
  | some i => (i, o.ren σ) :: rA σ r
  | none => rA σ r
def om (σ : List Nat) (nx : Nat) : List (Nat × Ob) → List (Nat × Ob)
 | [] => []
 |(j, o) :: r => match !σ.contains j && Nat.blt j nx with
  |true => match o with
   | .free => (j, .gone) :: om σ nx r
   | o => (j, o) :: om σ nx r
  | false => om σ nx r
def jN (PL : List Nat) (H : Hp) (σ : List Nat) (H0 H' : Hp) : Hp := ⟨H.nx + H'.nx, rA (sgN PL H.nx H0.get H'.nx σ 0) H'.es ++ om σ H.nx H.es⟩
theorem uw {σ : List Nat} (hn : dr σ = true) {i : Nat} : ∀ {l : List (Nat × Ob)}, aO (rA σ l) i = match kh σ i with | some j => (aO l j).ren σ | none => .gone
 | [] => by simp only [rA, aO]; cases kh σ i <;> rfl
 | (k, o) :: r => by
  have ih := uw hn (i := i) (l := r)
  simp only [rA]
  split
  ·rename_i i' hi'
   simp only [aO]
   by_cases e : i' = i
   ·subst e
    rw [nbT, Ct hn hi']
    simp only [nbT]
   ·rw [nbF e, ih]
    cases hj : kh σ i with
    | none => rfl
    | some j =>
     have hne : k ≠ j := fun e' => by subst e'; rw [gz hj] at hi'; injection hi' with h; exact e h.symm
     simp only [nbF hne]
  ·rename_i hk
   rw [ih]
   cases hj : kh σ i with
   | none => rfl
   | some j =>
    have hne : k ≠ j := fun e' => by subst e'; rw [gz hj] at hk; cases hk
    simp only [aO, nbF hne]
theorem uD {σ : List Nat} {nx i : Nat} : ∀ {l : List (Nat × Ob)}, aO (om σ nx l) i = .gone ∨ (aO (om σ nx l) i = aO l i ∧ σ.contains i = false ∧ i < nx ∧ aO l i ≠ .free)
 | [] => .inl rfl
 | (k, o) :: r => by
  have ih := uD (σ := σ) (nx := nx) (i := i) (l := r)
  simp only [om]
  by_cases hk : k = i
  ·subst hk
   cases hc : (!σ.contains k && Nat.blt k nx)
   ·simp only
    -- none of the entries for k is kept
    left
    have key : ∀ (l : List (Nat × Ob)), aO (om σ nx l) k = .gone := by
     intro l
     induction l with
     | nil => rfl
     | cons q t ih =>
      obtain ⟨m, o'⟩ := q
      simp only [om]
      by_cases hm : m = k
      ·subst hm; rw [hc]; exact ih
      ·cases hc' : (!σ.contains m && Nat.blt m nx)
       ·exact ih
       ·cases o' <;> (simp only [aO, nbF hm]; exact ih)
    exact key r
   ·simp only [Bool.and_eq_true, Bool.not_eq_true'] at hc
    have hlt : k < nx := by simpa [Nat.blt_eq] using hc.2
    cases o with
    | free => left; simp only [aO, nbT]
    | gone => left; simp only [aO, nbT]
    | var t cs => right; simp only [aO, nbT]; exact ⟨trivial, hc.1, hlt, by simp⟩
    | row e sz els => right; simp only [aO, nbT]; exact ⟨trivial, hc.1, hlt, by simp⟩
    | ext bs Φ => right; simp only [aO, nbT]; exact ⟨trivial, hc.1, hlt, by simp⟩
    | mp kt et ks vs => right; simp only [aO, nbT]; exact ⟨trivial, hc.1, hlt, by simp⟩
  ·have e2 : aO ((k, o) :: r) i = aO r i := by simp only [aO, nbF hk]
   rw [e2]
   cases hc : (!σ.contains k && Nat.blt k nx)
   ·exact ih
   ·cases o <;> (simp only [aO, nbF hk]; exact ih)
theorem rC : ∀ {l : List Nat}, (∀ i j x, atN l i = some x → atN l j = some x → i = j) → dr l = true
 | [], _ => rfl
 | y :: r, h => by
  simp only [dr, Bool.and_eq_true, Bool.not_eq_true']
  refine ⟨?_, rC fun i j x hi hj => by have := h (i + 1) (j + 1) x (by simpa [atN] using hi) (by simpa [atN] using hj); omega⟩
  cases hc : r.contains y
  ·rfl
  ·exfalso
   have hm : y ∈ r := by simpa using hc
   obtain ⟨k, hk, e⟩ := List.getElem_of_mem hm
   have := h 0 (k + 1) y (by simp [atN]) (by simp only [atN, mv]; rw [List.getElem?_eq_getElem hk, e])
   omega
section
variable {P : Program} {K : Ctx} {H H0 : Hp} {σ : List Nat} {S : Nat → Prop} {w : World}
theorem Dq {ρ ρ' : Nat → Option Value} {i j : Nat} {o : Ob} (hσ : ∀ j x, ρ j = some x → ∃ i, atN σ j = some i ∧ ρ' i = some x) (hj : atN σ j = some i) (hnn : ρ j = none → ρ' i = none ∨ o ≠ .free) (h : fB S w ρ j o) : fB S w ρ' i (o.ren σ) ∧ ∀ b, own ρ' i (o.ren σ) b → own ρ j o b := by
 have hs : ∀ x, ρ j = some x → ρ' i = some x := fun x hx => by
  obtain ⟨i', h1, h2⟩ := hσ j x hx
  rw [hj] at h1; injection h1 with h1; subst h1; exact h2
 cases o with
 | free => exact ⟨(hnn h).resolve_right (by simp), fun b hb => hb⟩
 | gone => exact ⟨trivial, fun b hb => hb⟩
 | ext bs Φ => exact ⟨h, fun b hb => hb⟩
 | mp kt et ks vs =>
  obtain ⟨b, es, ck, h1, h2, h3⟩ := h
  refine ⟨⟨b, es, ck, hs _ h1, h2, h3⟩, fun c hc => ?_⟩
  simp only [Ob.ren, own] at hc ⊢
  rw [hs _ h1] at hc; rw [h1]; exact hc
 | var t cs =>
  obtain ⟨b, xs, h1, h2, h3⟩ := h
  refine ⟨⟨b, xs, hs _ h1, h2, h3.bwd hσ⟩, fun c hc => ?_⟩
  simp only [Ob.ren, own] at hc ⊢
  rw [hs _ h1] at hc; rw [h1]; exact hc
 | row e sz els =>
  obtain ⟨v, xs, h1, h2, h3⟩ := h
  refine ⟨⟨v, xs, hs _ h1, by rw [sE]; exact h2, h3.bwd hσ⟩, fun c hc => ?_⟩
  obtain ⟨q, e1, e2⟩ := hc
  rw [hs _ h1] at e1
  cases e1
  exact ⟨v, h1, e2⟩
theorem qy {PL : List Nat} {fid : FuncId} {vs us : List V} {Post : V → Hp → Prop} (hS : bZ PL P fid us H0 Post) (σ : List Nat) (hv : aC vs (renL σ us)) (hH : leH σ H H0.es) (hc : (dr σ && Nat.beq σ.length H0.nx && σ.all fun i => Nat.blt i H.nx) = true) (L : List Nat) (hL : (ej H.get L && L.all fun i => !σ.contains i) = true) :
  CallR P K fid vs H L (fun v' H'' => ∃ v H', Post v H' ∧ v' = v.ren (sgN PL H.nx H0.get H'.nx σ 0) ∧ H'' = jN PL H σ H0 H') := fun S w ρ xs hr hi hx => by
 simp only [Bool.and_eq_true] at hc hL
 obtain ⟨⟨hc1, hc2⟩, hc3⟩ := hc
 have hlen : σ.length = H0.nx := by simpa using hc2
 have hσlt : ∀ j i, atN σ j = some i → i < H.nx := fun j i h => by
  rw [mv] at h
  have := List.all_eq_true.1 hc3 i (List.mem_of_getElem? h)
  simpa [Nat.blt_eq] using this
 obtain ⟨g1, g2⟩ := wh (H' := H0) hH hc1 (by simp [hlen]) hr
 refine (hS S w (eW σ ρ) xs g1 ((hv.rel hx).ren)).mono fun e w' hR => ?_
 obtain ⟨x, S', ρ1, v, H', rfl, hP, hr', hi', hvr⟩ := hR
 obtain ⟨τ, hτ⟩ : ∃ τ, τ = sgN PL H.nx H0.get H'.nx σ 0 := ⟨_, rfl⟩
 have hτlen : τ.length = H'.nx := by rw [hτ]; exact ua _ _ _ _ _ _
 have hτat : ∀ j, j < H'.nx → atN τ j = some (match atN σ j, im PL j (H0.get j) with | some i, true => i | _, _ => H.nx + j) := fun j hj => by
  rw [hτ, vm _ _ _ _ _ _ _ hj]; simp only [Nat.zero_add]
 have hτlt : ∀ j i, atN τ j = some i → j < H'.nx := fun j i h => by
  rw [mv] at h
  have := (List.getElem?_eq_some_iff.1 h).1
  omega
 have hτc : ∀ j i, atN τ j = some i → (atN σ j = some i ∧ im PL j (H0.get j) = true) ∨ i = H.nx + j := fun j i h => by
  have hj := hτlt j i h
  rw [hτat j hj] at h
  simp only [Option.some.injEq] at h
  cases h1 : atN σ j with
  | none => rw [h1] at h; exact .inr h.symm
  | some i1 =>
   rw [h1] at h
   cases h2 : im PL j (H0.get j)
   ·rw [h2] at h; exact .inr h.symm
   ·rw [h2] at h; simp only at h; subst h; exact .inl ⟨rfl, rfl⟩
 have hτbd : ∀ j i, atN τ j = some i → i < H.nx + H'.nx := fun j i h => by
  have hj := hτlt j i h
  rcases hτc j i h with ⟨h1, _⟩ | h1
  ·have := hσlt j i h1; omega
  ·omega
 have hτinj : dr τ = true := rC fun j k i h1 h2 => by
  rcases hτc j i h1 with ⟨a1, _⟩ | a1 <;> rcases hτc k i h2 with ⟨a2, _⟩ | a2
  ·exact oV hc1 j k i a1 a2
  ·have := hσlt j i a1; omega
  ·have := hσlt k i a2; omega
  ·omega
 have hfreeρ : ∀ i, H.nx ≤ i → ρ i = none := fun i hi' => by
  have := hr.ob i
  have e : H.get i = .free := by
   unfold Hp.get
   have : Nat.blt i H.nx = false := by cases hb : Nat.blt i H.nx; rfl; simp [Nat.blt_eq] at hb; omega
   rw [this]
  rw [e] at this; exact this
 have hfree1 : ∀ j, H'.nx ≤ j → ρ1 j = none := fun j hj => by
  have := hr'.ob j
  have e : H'.get j = .free := by
   unfold Hp.get
   have : Nat.blt j H'.nx = false := by cases hb : Nat.blt j H'.nx; rfl; simp [Nat.blt_eq] at hb; omega
   rw [this]
  rw [e] at this; exact this
 obtain ⟨ρ2, hρ2⟩ : ∃ ρ2 : Nat → Option Value, ρ2 = fun i => if i < H.nx then ρ i else ρ1 (i - H.nx) := ⟨_, rfl⟩
 have hup : ∀ i y, ρ i = some y → ρ2 i = some y := fun i y h => by
  by_cases hlt : i < H.nx
  ·rw [hρ2]; simp only [hlt, if_true]; exact h
  ·rw [hfreeρ i (by omega)] at h; cases h
 have hpin : ∀ j, im PL j (H0.get j) = true → ∀ y, eW σ ρ j = some y → ρ1 j = some y := fun j hv y h => hi'.pin j y (by simp only [qC, hv]; exact h)
 have hnoext : ∀ j i, atN σ j = some i → ∀ bs Φ, H0.get j = .ext bs Φ → False := fun j i h1 bs Φ hy' => by
  have hl := sW hH j
  have hlt : j < H0.nx := by
   rw [← hlen]
   rw [mv] at h1
   exact (List.getElem?_eq_some_iff.1 h1).1
  have e0 : H0.get j = aO H0.es j := by unfold Hp.get; rw [nlT hlt]
  rw [← e0, hy'] at hl
  rcases hl with hl | ⟨i', _, hl⟩
  ·cases hl
  ·cases ho : H.get i' <;> rw [ho] at hl <;> simp [Ob.ren, iH] at hl
 have hτρ : ∀ j y, ρ1 j = some y → ∃ i, atN τ j = some i ∧ ρ2 i = some y := fun j y h => by
  have hj : j < H'.nx := by
   rcases Nat.lt_or_ge j H'.nx with h1 | h1
   ·exact h1
   ·rw [hfree1 j h1] at h; cases h
  obtain ⟨i, hji⟩ : ∃ i, atN τ j = some i := ⟨_, hτat j hj⟩
  refine ⟨i, hji, ?_⟩
  rcases hτc j i hji with ⟨h1, h2⟩ | h1
  · -- a variable keeps its place
   have hob := g1.ob j
   have hsome : ∃ y', eW σ ρ j = some y' ∨ ∃ bs Φ, H0.get j = .ext bs Φ := by
    cases ho : H0.get j with
    | var t cs => rw [ho] at hob; obtain ⟨b, _, hb, _⟩ := hob; exact ⟨_, .inl hb⟩
    | row e sz els => rw [ho] at hob; obtain ⟨b, _, hb, _⟩ := hob; exact ⟨_, .inl hb⟩
    | ext bs Φ => exact ⟨.bool true, .inr ⟨bs, Φ, rfl⟩⟩
    | mp kt et ks vs => rw [ho] at hob; obtain ⟨b, _, _, hb, _⟩ := hob; exact ⟨_, .inl hb⟩
    | _ => rw [ho] at h2; cases h2
   obtain ⟨y', hy' | ⟨bs, Φ, hy'⟩⟩ := hsome
   ·have := hpin j h2 y' hy'
    rw [h] at this; injection this with this; subst this
    simp only [eW, h1] at hy'
    exact hup _ _ hy'
   ·exact (hnoext j i h1 bs Φ hy').elim
  ·subst h1
   rw [hρ2]
   simp only [show ¬ H.nx + j < H.nx by omega, if_false, Nat.add_sub_cancel_left]
   exact h
 -- the call's objects under the caller's numbers
 obtain ⟨h1', hh1'⟩ : ∃ h1' : Nat → Ob, h1' = fun i => match kh τ i with | some j => (H'.get j).ren τ | none => if i < H.nx + H'.nx then .gone else .free := ⟨_, rfl⟩
 obtain ⟨h1, hh1⟩ : ∃ h1 : Nat → Ob, h1 = fun i => match σ.contains i with | true => H.get i | false => .gone := ⟨_, rfl⟩
 have hin : ∀ i, h1 i = H.get i ∨ h1 i = .gone := fun i => by rw [hh1]; simp only []; cases σ.contains i <;> simp
 have hkey : ∀ i, fB S' w' ρ2 i (h1' i) ∧ ∀ b, own ρ2 i (h1' i) b → ∃ j, kh τ i = some j ∧ own ρ1 j (H'.get j) b := fun i => by
  rw [hh1']
  simp only []
  cases hj : kh τ i with
  | none =>
   simp only []
   split
   ·exact ⟨trivial, fun b hb => hb.elim⟩
   ·rename_i hlt
    refine ⟨?_, fun b hb => hb.elim⟩
    show ρ2 i = none
    rw [hρ2]
    simp only [show ¬ i < H.nx by omega, if_false]
    exact hfree1 _ (by omega)
  | some j =>
   have hat := gz hj
   obtain ⟨k1, k2⟩ := Dq hτρ hat (fun hn => by
    have hjl := hτlt j i hat
    by_cases hf : H'.get j = .free
    ·left
     rcases hτc j i hat with ⟨a1, a2⟩ | a1
     · -- a variable is not free
      have hob := g1.ob j
      exfalso
      cases ho : H0.get j with
      | var t cs =>
       rw [ho] at hob; obtain ⟨b, _, hb, _⟩ := hob
       have := hpin j a2 _ hb
       rw [hn] at this; cases this
      | row e sz els =>
       rw [ho] at hob; obtain ⟨b, _, hb, _⟩ := hob
       have := hpin j a2 _ hb
       rw [hn] at this; cases this
      | ext bs Φ => exact hnoext j i a1 bs Φ ho
      | mp kt et ks vs =>
       rw [ho] at hob; obtain ⟨b, _, _, hb, _⟩ := hob
       have := hpin j a2 _ hb
       rw [hn] at this; cases this
      | _ => rw [ho] at a2; cases a2
     ·subst a1
      rw [hρ2]
      simp only [show ¬ H.nx + j < H.nx by omega, if_false, Nat.add_sub_cancel_left]
      exact hn
    ·exact .inr hf) (hr'.ob j)
   exact ⟨k1, fun b hb => ⟨j, rfl, k2 b hb⟩⟩
 have hX : ∀ b, (∃ id, own (eW σ ρ) id (H0.get id) b) → ∃ id, own ρ id (h1 id) b := fun b ⟨id, hb⟩ => by
  obtain ⟨i, h2, h3⟩ := g2 id b hb
  refine ⟨i, ?_⟩
  have hm : σ.contains i = true := by
   rw [mv] at h2
   simpa using List.mem_of_getElem? h2
  rw [hh1]; simp only [hm]; exact h3
 have hrel1 : HRel S' w' ρ2 h1' := ⟨fun i => (hkey i).1, fun i b hb => by obtain ⟨j, _, h⟩ := (hkey i).2 b hb; exact hr'.sep j b h, fun i k b hbi hbk => by
  obtain ⟨j, e1, h1⟩ := (hkey i).2 b hbi
  obtain ⟨j', e2, h2⟩ := (hkey k).2 b hbk
  have := hr'.dis j j' b h1 h2
  subst this
  have a1 := gz e1
  have a2 := gz e2
  rw [a1] at a2; injection a2, hr'.slt⟩
 have hinv1 : Inv ⟨w, S, fun b => ∃ id, own ρ id (h1 id) b, ρ⟩ S' w' ρ2 h1' := ⟨hi'.chg.mono hX, hi'.s0, fun b hb => by
  rcases hi'.s1 b hb with h | h | h
  ·exact .inl h
  ·exact .inr (.inl (hX b h))
  ·exact .inr (.inr h), fun i b hb => by
  obtain ⟨j, _, h⟩ := (hkey i).2 b hb
  rcases hi'.ow j b h with h | h
  ·exact .inl (hX b h)
  ·exact .inr h, fun id y h => hup id y h⟩
 have hh2 : ∀ i, ((jN PL H σ H0 H').get i = h1' i ∨ (jN PL H σ H0 H').get i = .gone) ∨ ((jN PL H σ H0 H').get i = H.get i ∧ h1 i = .gone ∧ H.get i ≠ .free) := fun i => by
  by_cases hlt : i < H.nx + H'.nx
  ·have e0 : (jN PL H σ H0 H').get i = aO (rA τ H'.es ++ om σ H.nx H.es) i := by
    unfold Hp.get jN
    simp only [nlT hlt, hτ]
   rw [e0]
   rcases AC (rA τ H'.es) (om σ H.nx H.es) i with e | ⟨_, e⟩
   ·rw [e, uw hτinj]
    cases hj : kh τ i with
    | none => exact .inl (.inr rfl)
    | some j =>
     left; left
     rw [hh1']
     simp only [hj]
     have hjl := hτlt j i (gz hj)
     unfold Hp.get
     rw [nlT hjl]
   ·rw [e]
    rcases uD (σ := σ) (nx := H.nx) (i := i) (l := H.es) with e1 | ⟨e1, e2, e3, e4⟩
    ·exact .inl (.inr e1)
    ·right
     have eH : H.get i = aO H.es i := by unfold Hp.get; rw [nlT e3]
     refine ⟨by rw [e1, eH], ?_, by rw [eH]; exact e4⟩
     rw [hh1]; simp only [e2]
  ·left; left
   have e0 : (jN PL H σ H0 H').get i = .free := by
    unfold Hp.get jN
    have : Nat.blt i (H.nx + H'.nx) = false := by cases hb : Nat.blt i (H.nx + H'.nx); rfl; simp [Nat.blt_eq] at hb; omega
    simp only [this]
   rw [e0, hh1']
   simp only []
   cases hj : kh τ i with
   | none => simp only [hlt, if_false]
   | some j => have := hτbd j i (gz hj); omega
 obtain ⟨m1, m2, m3, m4⟩ := Bk (h2 := (jN PL H σ H0 H').get) hr hi hin hrel1 hinv1 hh2
 refine ⟨x, S', ρ2, _, _, rfl, ⟨v, H', hP, rfl, rfl⟩, m1, m2, m3, by rw [← hτ]; exact hvr.bwd hτρ, m4 L hL.1 fun id hid => ?_⟩
 have := List.all_eq_true.1 hL.2 id hid
 simp only [Bool.not_eq_true'] at this
 rw [hh1]; simp only [this]
end
section
variable (T : Tab)
def opS (F : Fm) (H : Hp) (o : Oper) {α : Type} (c : Fm → Hp → Option α) : Option α :=
 match qm T H.get F o.op with
 | some v => F.puto o.dst (some v) fun F' => c F' H
 |none => match nD T H.get F H.nx o.op with
  |some (v, ed) => H.ap ed fun H' => match v with
   | some v => F.puto o.dst (some v) fun F' => c F' H'
   | none => F.puto o.dst (some (.tup [])) fun F' => c F' H'
  | none => none
def fg : Nat → EP → List EI → Fm → Hp → Option (EP × List EI × Fm × Hp)
 | 0, p, s, F, H => some (p, s, F, H)
 |k + 1, .code c, s, F, H => match c with
  | .seq x y => fg k (.code x) (.seq y :: s) F H
  | .block id c => fg k (.code c) (.blk id :: s) F H
  | .skip => fg k (.ex .normal) s F H
  | .ret => fg k (.ex .ret) s F H
  | .exit id => fg k (.ex (.exit id)) s F H
  |.cond c x y => match aX F c with
   | some (.bool true) => fg k (.code x) s F H
   | some (.bool false) => fg k (.code y) s F H
   | _ => none
  | .region _ ⟨l⟩ false => fg k (.ops ⟨l⟩ l) s F H
  | _ => none
 |k + 1, .ops all rest, s, F, H => match rest with
  | [] => fg k (.ex .normal) s F H
  |o :: r => match ch F all o.guard with
   | some true => opS T F H o fun F' H' => fg k (.ops all r) s F' H'
   | some false => F.puto o.dst (some (.tup [])) fun F' => fg k (.ops all r) s F' H
   | none => none
 |k + 1, .ex e, s, F, H => match s with
  | [] => none
  |.seq c :: s => match e with
   | .normal => fg k (.code c) s F H
   | .exit i => fg k (.ex (.exit i)) s F H
   | .ret => fg k (.ex .ret) s F H
   | _ => none
  |.blk id :: s => match e with
   | .normal => fg k (.ex .normal) s F H
   |.exit i => match Nat.beq i id with
    | true => fg k (.ex .normal) s F H
    | false => fg k (.ex (.exit i)) s F H
   | .ret => fg k (.ex .ret) s F H
   | _ => none
  | _ => none
 | k + 1, .drw .., _, _, _ => none
def nn (all : Array Oper) (L : List Nat) : List (Nat × Nat) → Fm → Hp → Option (Fm × Hp)
 | [], F, H => some (F, H)
 |(i, f) :: r, F, H => match all[i]? with
  |some o => match ch F all o.guard with
   | some false => F.puto o.dst (some (.tup [])) fun F' => nn all L r F' H
   |some true => match f with
    |2 => match qm T H.get F o.op with
     | some v => F.puto o.dst (some v) fun F' => nn all L r F' H
     | none => none
    |3 => match tn F o.op with
     |some id => match L.contains id with
      |true => match nD T H.get F H.nx o.op with
       | some (some v, _) => F.puto o.dst (some v) fun F' => nn all L r F' H
       | _ => none
      | false => none
     | none => none
    |f => match qm T H.get F o.op with
     | some v => F.puto o.dst (some v) fun F' => nn all L r F' H
     |none => match nD T H.get F H.nx o.op with
      |some (v, ed) => match (ej H.get L && ed.clear L) || Nat.beq f 1 with
       |true => H.ap ed fun H' => match v with
        | some v => F.puto o.dst (some v) fun F' => nn all L r F' H'
        | none => F.puto o.dst (some (.tup [])) fun F' => nn all L r F' H'
       | false => none
      | none => none
   | none => none
  | none => none
end
def yx (all : Array Oper) (m : Nat) : List (Nat × Nat) → Array Bool → Bool
 | [], _ => true
 |(i, f) :: r, listed => (match f with
  | 2 => !Nat.beq i m && Region.free .any all listed i && (Region.ready .any all listed).contains i
  | 3 => !Nat.beq i m && Region.free .any all listed i && (Region.ready .any all listed).contains i && vf .any all m i && !listed.getD m false
  | 1 => (match Region.ready .any all listed with | [j] => Nat.beq i j | _ => false) && (listed.setIfInBounds i true).getD m false
  | _ => (match Region.ready .any all listed with | [j] => Nat.beq i j | _ => false)) && yx all m r (listed.setIfInBounds i true)
def Az : List (Nat × Nat) → Array Bool → Array Bool
 | [], l => l
 | (i, _) :: r, l => Az r (l.setIfInBounds i true)
section
variable {P : Program} {T : Tab} {K : Ctx} {Q : Exit → Act → World → Prop} {p p' : EP} {s s' : List EI} {n : Nat} {F F' F1 F2 : Fm} {H H' H1 : Hp}
theorem Dn (hT : TabOk P T) {all : Array Oper} {rest : List Oper} {o : Oper} {α : Type} {c : Fm → Hp → Option α} {x : α} (hw : ch F all o.guard = some true) (h : opS T F H o c = some x) : ∃ F' H', c F' H' = some x ∧ (Go P K Q (.ops all rest) s n F' H' → Go P K Q (.ops all (o :: rest)) s n F H) := by
 unfold opS at h
 split at h
 ·rename_i v hv
  rw [Fm.puto_eq] at h
  exact ⟨_, _, h, fun k => go_opP hT hw hv k⟩
 ·split at h
  ·rename_i v ed hv
   rw [Hp.ap_eq] at h
   cases v with
   | none =>
    simp only [Fm.puto_eq] at h
    exact ⟨_, _, h, fun k => go_opE hT hw hv k⟩
   | some v =>
    simp only [Fm.puto_eq] at h
    exact ⟨_, _, h, fun k => go_opE hT hw hv k⟩
  ·cases h
theorem dm (hT : TabOk P T) : ∀ (k : Nat) (p : EP) (s : List EI) (F : Fm) (H : Hp), fg T k p s F H = some (p', s', F', H') → Go P K Q p' s' n F' H' → Go P K Q p s n F H
 | 0, p, s, F, H, h, kk => by
  simp only [fg, Option.some.injEq, Prod.mk.injEq] at h
  obtain ⟨rfl, rfl, rfl, rfl⟩ := h
  exact kk
 | k + 1, .code c, s, F, H, h, kk => by
  unfold fg at h
  split at h
  ·exact DZ (dm hT k _ _ _ _ h kk)
  ·exact AO (dm hT k _ _ _ _ h kk)
  ·exact Cm (dm hT k _ _ _ _ h kk)
  ·exact go_ret (dm hT k _ _ _ _ h kk)
  ·exact Cd (dm hT k _ _ _ _ h kk)
  ·split at h
   ·exact At ‹_› (dm hT k _ _ _ _ h kk)
   ·exact Aw ‹_› (dm hT k _ _ _ _ h kk)
   ·cases h
  ·exact go_region (dm hT k _ _ _ _ h kk)
  ·cases h
 | k + 1, .ops all rest, s, F, H, h, kk => by
  unfold fg at h
  split at h
  ·exact DH (dm hT k _ _ _ _ h kk)
  ·split at h
   ·obtain ⟨F1, H1, h1, h2⟩ := Dn (P := P) (K := K) (Q := Q) (s := s) (n := n) hT ‹_› h
    exact h2 (dm hT k _ _ _ _ h1 kk)
   ·rw [Fm.puto_eq] at h
    exact DU ‹_› (dm hT k _ _ _ _ h kk)
   ·cases h
 | k + 1, .ex e, s, F, H, h, kk => by
  unfold fg at h
  split at h
  ·cases h
  ·split at h
   ·exact CH (dm hT k _ _ _ _ h kk)
   ·exact AG (dm hT k _ _ _ _ h kk)
   ·exact Bl (dm hT k _ _ _ _ h kk)
   ·cases h
  ·split at h
   ·exact BC (dm hT k _ _ _ _ h kk)
   ·split at h
    ·exact Av ‹_› (dm hT k _ _ _ _ h kk)
    ·exact Bd ‹_› (dm hT k _ _ _ _ h kk)
   ·exact AA (dm hT k _ _ _ _ h kk)
   ·cases h
  ·cases h
 | k + 1, .drw .., s, F, H, h, kk => by simp [fg] at h
variable {all : Array Oper} {rest : List Oper} {o : Oper} {L : List Nat} {m fuel : Nat} {listed : Array Bool}
theorem uJ {i : Nat} (h : (match Region.ready .any all listed with | [j] => Nat.beq i j | _ => false) = true) : Region.ready .any all listed = [i] := by
 split at h
 ·rename_i j hj
  rw [hj, Nat.eq_of_beq_eq_true h]
 ·cases h
theorem lG (hT : TabOk P T) : ∀ (is : List (Nat × Nat)) (fuel : Nat) (listed : Array Bool) (F : Fm) (H : Hp), yx all m is listed = true → nn T all L is F H = some (F', H') → Go P K Q (.drw all L m fuel (Az is listed)) s n F' H' → Go P K Q (.drw all L m (fuel + is.length) listed) s n F H
 | [], fuel, listed, F, H, hc, hr, k => by
  simp only [nn, Option.some.injEq, Prod.mk.injEq] at hr
  obtain ⟨rfl, rfl⟩ := hr
  exact k
 | (i, f) :: r, fuel, listed, F, H, hc, hr, k => by
  simp only [yx, Bool.and_eq_true] at hc
  obtain ⟨hc1, hc2⟩ := hc
  show Go P K Q (.drw all L m (fuel + r.length + 1) listed) s n F H
  unfold nn at hr
  split at hr
  ·rename_i o ho
   split at hr
   ·rename_i hw
    rw [Fm.puto_eq] at hr
    have ih := lG hT r fuel _ _ _ hc2 hr k
    have single : (match Region.ready .any all listed with | [j] => Nat.beq i j | _ => false) = true → Go P K Q (.drw all L m (fuel + r.length + 1) listed) s n F H := fun hx => go_d1S (uJ hx) ho hw ih
    split at hc1
    ·simp only [Bool.and_eq_true, Bool.not_eq_true'] at hc1
     exact BP hc1.1.1 ho hc1.1.2 hc1.2 hw ih
    ·simp only [Bool.and_eq_true, Bool.not_eq_true'] at hc1
     exact BP hc1.1.1.1.1 ho hc1.1.1.1.2 hc1.1.1.2 hw ih
    ·simp only [Bool.and_eq_true] at hc1
     exact single hc1.1
    ·exact single hc1
   ·rename_i hw
    split at hr
    ·split at hr
     ·rename_i v hv
      rw [Fm.puto_eq] at hr
      have ih := lG hT r fuel _ _ _ hc2 hr k
      simp only [Bool.and_eq_true, Bool.not_eq_true'] at hc1
      exact EG hT hc1.1.1 ho hc1.1.2 hc1.2 hw hv ih
     ·cases hr
    ·split at hr
     ·rename_i id hid
      split at hr
      ·rename_i hL
       split at hr
       ·rename_i v ed hv
        rw [Fm.puto_eq] at hr
        have ih := lG hT r fuel _ _ _ hc2 hr k
        simp only [Bool.and_eq_true, Bool.not_eq_true'] at hc1
        exact EQ hT hc1.1.1.1.1 hc1.1.2 hc1.2 ho hc1.1.1.1.2 hc1.1.1.2 hw hid hL hv ih
       ·cases hr
      ·cases hr
     ·cases hr
    ·rename_i h2 h3
     have hs : (match Region.ready .any all listed with | [j] => Nat.beq i j | _ => false) = true ∧ (Nat.beq f 1 = true → (listed.setIfInBounds i true).getD m false = true) := by
      split at hc1
      ·exact absurd rfl h2
      ·exact absurd rfl h3
      ·simp only [Bool.and_eq_true] at hc1
       exact ⟨hc1.1, fun _ => hc1.2⟩
      ·rename_i h1
       exact ⟨hc1, fun hb => absurd (Nat.eq_of_beq_eq_true hb) h1⟩
     have hrd := uJ hs.1
     split at hr
     ·rename_i v hv
      rw [Fm.puto_eq] at hr
      have ih := lG hT r fuel _ _ _ hc2 hr k
      exact zY hrd ho hw (fun S w ρ a hr hF => sQ hT hr hF hv) ih
     ·split at hr
      ·rename_i v ed hv
       split at hr
       ·rename_i hcl
        rw [Hp.ap_eq] at hr
        have hcl' : ((ej H.get L && ed.clear L) || (listed.setIfInBounds i true).getD m false) = true := by
         rcases vi hcl with h | h
         ·rw [h]; rfl
         ·rw [hs.2 h]; simp
        cases v with
        | none =>
         simp only [Fm.puto_eq] at hr
         exact vx hrd ho hw (fun S w ρ a hr hF => rO hT hr hF H.get_free hv) (oY hv) hcl' (lG hT r fuel _ _ _ hc2 hr k)
        | some v =>
         simp only [Fm.puto_eq] at hr
         exact vx hrd ho hw (fun S w ρ a hr hF => rO hT hr hF H.get_free hv) (oY hv) hcl' (lG hT r fuel _ _ _ hc2 hr k)
       ·cases hr
      ·cases hr
   ·cases hr
  ·cases hr
theorem nT {d : Nat} {v v' : V} (hd : F.get d = some v) (hs : bv v v') (k : Go P K Q p s n (F.set d (some v')) H) : Go P K Q p s n F H := fun S w ρ a hr hi hF => by
 refine k S w ρ a hr hi ⟨hF.size, hF.defers, by have := hF.len; simpa using this, fun i u hu => ?_⟩
 rw [Fm.get_eq, List.getElem?_set] at hu
 split at hu
 ·rename_i e
  subst e
  split at hu
  ·simp only [Option.bind_some, id_eq, Option.some.injEq] at hu
   subst hu
   obtain ⟨x, h1, h2⟩ := hF.get d v hd
   exact ⟨x, h1, hs _ _ _ _ h2⟩
  ·cases hu
 ·exact hF.get i u (by rw [Fm.get_eq]; exact hu)
theorem gB {e : Bool} (d : Nat) (hd : F.get d = some (.bool e)) (h1 : F.put d (some (.bool true)) id = F1) (h2 : F.put d (some (.bool false)) id = F2) (kT : e = true → Go P K Q p s n F1 H) (kF : e = false → Go P K Q p s n F2 H) : Go P K Q p s n F H := by
 rw [Fm.put_eq] at h1 h2
 subst h1 h2
 cases he : e with
 | true => exact nT hd (by rw [he]; exact bv.rfl) (kT he)
 | false => exact nT hd (by rw [he]; exact bv.rfl) (kF he)
theorem gT {e : Bool} (d : Nat) (hd : F.get d = some (.bool e)) (he : e = true) (h1 : F.put d (some (.bool true)) id = F1) (k : Go P K Q p s n F1 H) : Go P K Q p s n F H := by
 rw [Fm.put_eq] at h1; subst h1
 exact nT hd (by rw [he]; exact bv.rfl) k
theorem gF {e : Bool} (d : Nat) (hd : F.get d = some (.bool e)) (he : e = false) (h1 : F.put d (some (.bool false)) id = F1) (k : Go P K Q p s n F1 H) : Go P K Q p s n F H := by
 rw [Fm.put_eq] at h1; subst h1
 exact nT hd (by rw [he]; exact bv.rfl) k
theorem gV {v : V} (d : Nat) (v' : V) (hd : F.get d = some v) (he : v = v') (h1 : F.put d (some v') id = F1) (k : Go P K Q p s n F1 H) : Go P K Q p s n F H := by
 rw [Fm.put_eq] at h1; subst h1
 exact nT hd (by rw [he]; exact bv.rfl) k
theorem ax {m l : Int} (h : -9223372036854775808 ≤ m ∧ m ≤ 9223372036854775807) (e : m = l) : V.int .i64 (IntKind.i64.wrap m) = .int .i64 l := by
 subst e
 rw [IntWalk.i64_in _ (by omega)]
def slT (T : Tab) (t : TypeId) : Option (TypeId × Nat) := match T.ty t with
 |some ⟨_, _, _, .sl e⟩ => match T.ty e with
  | some ⟨sz, _, _, _⟩ => some (e, sz)
  | none => none
 | _ => none
theorem pZ (hT : TabOk P T) {t e : TypeId} {sz : Nat} (h : slT T t = some (e, sz)) : P.underlying t = some (.slice e) ∧ fF P e = some sz := by
 unfold slT at h
 split at h
 ·rename_i ht
  split at h
  ·rename_i he
   simp only [Option.some.injEq, Prod.mk.injEq] at h
   obtain ⟨rfl, rfl⟩ := h
   exact ⟨(hT.ty _ _ ht).sl rfl, (hT.ty _ _ he).size⟩
  ·cases h
 ·cases h
theorem yIR (hT : TabOk P T) {t e : TypeId} {x y : Operand} {sz i : Nat} {els : List V} {v : V} {ty : TypeId} (ht : slT T t = some (e, sz)) (hx : aX F x = some (.row sz els)) (hy : aX F y = some (.int .i64 (i : Int))) (hi : els[i]? = some v) : ∀ S w ρ a, HRel S w ρ H.get → FRel S w ρ a n F → Yld P S w ρ a ty (.indexAddr t x y) (.box v.cells 0) := fun S w ρ a hr hF =>
 p_idxR hF.fr (pZ hT ht).1 (pZ hT ht).2 (an hF hx) (an hF hy) hi
theorem yIO (hT : TabOk P T) {t e e' : TypeId} {x y : Operand} {id sz i : Nat} {els : List V} {ty : TypeId} (ht : slT T t = some (e, sz)) (hx : aX F x = some (.sl id)) (ho : H.get id = .row e' sz els) (hy : aX F y = some (.int .i64 (i : Int))) (hi : i < els.length) : ∀ S w ρ a, HRel S w ρ H.get → FRel S w ρ a n F → Yld P S w ρ a ty (.indexAddr t x y) (.el id sz i 0) := fun S w ρ a hr hF =>
 p_idxO hr ho hF.fr (pZ hT ht).1 (pZ hT ht).2 (an hF hx) (an hF hy) hi
theorem gY {v : V} (hy : ∀ S w ρ a, HRel S w ρ H.get → FRel S w ρ a n F → Yld P S w ρ a o.type o.op v) (hw : ch F all o.guard = some true) (h1 : F.puto o.dst (some v) id = F1) (k : Go P K Q (.ops all rest) s n F1 H) : Go P K Q (.ops all (o :: rest)) s n F H := by
 rw [Fm.puto_eq] at h1; subst h1
 exact go_opY hw hy k
mutual
def mapV (f : V → V) : V → V
 | .agg cs => .agg (mapVs f cs)
 | .tup cs => .tup (mapVs f cs)
 | .clo fid cs => .clo fid (mapVs f cs)
 | .sl j => f (.sl j)
 | .int k n => f (.int k n)
 | .bool b => f (.bool b)
 | .str l => f (.str l)
 | .nilp => f .nilp
 | .nils => f .nils
 | .raw x => f (.raw x)
 | .ptr i o => f (.ptr i o)
 | .el i sz j o => f (.el i sz j o)
 | .box cs o => f (.box cs o)
 | .row sz els => f (.row sz els)
 | .lk els => f (.lk els)
 | .np i => f (.np i)
def mapVs (f : V → V) : List V → List V
 | [] => []
 | v :: r => mapV f v :: mapVs f r
end
mutual
theorem VRel.mapV {S S' : Nat → Prop} {w : World} {ρ : Nat → Option Value} {f : V → V} (hf : ∀ v x, VRel S w ρ v x → VRel S' w ρ (f v) x) : ∀ {v : V} {x : Value}, VRel S w ρ v x → VRel S' w ρ (mapV f v) x
 | .int _ _, x, h => by simp only [Go.Proofs.YtaoiaeohojfdgaaGreat.mapV]; exact hf _ _ h
 | .bool _, x, h => by simp only [Go.Proofs.YtaoiaeohojfdgaaGreat.mapV]; exact hf _ _ h
 | .str _, x, h => by simp only [Go.Proofs.YtaoiaeohojfdgaaGreat.mapV]; exact hf _ _ h
 | .nilp, x, h => by simp only [Go.Proofs.YtaoiaeohojfdgaaGreat.mapV]; exact hf _ _ h
 | .nils, x, h => by simp only [Go.Proofs.YtaoiaeohojfdgaaGreat.mapV]; exact hf _ _ h
 | .raw _, x, h => by simp only [Go.Proofs.YtaoiaeohojfdgaaGreat.mapV]; exact hf _ _ h
 | .box _ _, x, h => by simp only [Go.Proofs.YtaoiaeohojfdgaaGreat.mapV]; exact hf _ _ h
 | .row _ _, x, h => by simp only [Go.Proofs.YtaoiaeohojfdgaaGreat.mapV]; exact hf _ _ h
 | .lk _, x, h => by simp only [Go.Proofs.YtaoiaeohojfdgaaGreat.mapV]; exact hf _ _ h
 | .ptr _ _, x, h => by simp only [Go.Proofs.YtaoiaeohojfdgaaGreat.mapV]; exact hf _ _ h
 | .el _ _ _ _, x, h => by simp only [Go.Proofs.YtaoiaeohojfdgaaGreat.mapV]; exact hf _ _ h
 | .sl j, x, h => by simp only [Go.Proofs.YtaoiaeohojfdgaaGreat.mapV]; exact hf _ _ h
 | .np j, x, h => by simp only [Go.Proofs.YtaoiaeohojfdgaaGreat.mapV]; exact hf _ _ h
 | .agg cs, x, h => by
  simp only [Go.Proofs.YtaoiaeohojfdgaaGreat.mapV, VRel] at h ⊢
  obtain ⟨xs, h1, h2⟩ := h
  exact ⟨xs, h1, LRel.mapV hf h2⟩
 | .tup cs, x, h => by
  simp only [Go.Proofs.YtaoiaeohojfdgaaGreat.mapV, VRel] at h ⊢
  obtain ⟨xs, h1, h2⟩ := h
  exact ⟨xs, h1, LRel.mapV hf h2⟩
 | .clo fid cs, x, h => by
  simp only [Go.Proofs.YtaoiaeohojfdgaaGreat.mapV, VRel] at h ⊢
  obtain ⟨xs, h1, h2⟩ := h
  exact ⟨xs, h1, LRel.mapV hf h2⟩
theorem LRel.mapV {S S' : Nat → Prop} {w : World} {ρ : Nat → Option Value} {f : V → V} (hf : ∀ v x, VRel S w ρ v x → VRel S' w ρ (f v) x) : ∀ {v : List V} {x : List Value}, LRel S w ρ v x → LRel S' w ρ (mapVs f v) x
 | [], x, h => by simp only [mapVs, LRel] at h ⊢; exact h
 | v :: r, x, h => by
  simp only [mapVs, LRel] at h ⊢
  obtain ⟨y, ys, h1, h2, h3⟩ := h
  exact ⟨y, ys, h1, VRel.mapV hf h2, LRel.mapV hf h3⟩
end
def mt (f : V → V) : Fm → Fm
 | [] => []
 | none :: r => none :: mt f r
 | some v :: r => some (mapV f v) :: mt f r
theorem sB {f : V → V} : ∀ (F : Fm) (i : Nat), (mt f F).get i = (F.get i).map (mapV f)
 | [], i => by simp [mt, Fm.get]
 | none :: r, 0 => by simp [mt, Fm.get]
 | some v :: r, 0 => by simp [mt, Fm.get]
 | none :: r, i + 1 => by simp [mt, Fm.get, sB r i]
 | some v :: r, i + 1 => by simp [mt, Fm.get, sB r i]
theorem sZ {f : V → V} : ∀ (F : Fm), (mt f F).length = F.length
 | [] => rfl
 | none :: r => by simp [mt, sZ r]
 | some v :: r => by simp [mt, sZ r]
def mJ (f : V → V) (id : Nat) : List (Nat × Ob) → List (Nat × Ob)
 | [] => []
 |(j, o) :: r => match Nat.beq j id with
  | true => mJ f id r
  |false => match o with
   | .var t cs => (j, .var t (mapVs f cs)) :: mJ f id r
   | o => (j, o) :: mJ f id r
theorem rj {f : V → V} {id i : Nat} : ∀ {l : List (Nat × Ob)}, aO (mJ f id l) i = if i = id then .gone else match aO l i with | .var t cs => .var t (mapVs f cs) | o => o
 | [] => by simp [mJ, aO]
 | (j, o) :: r => by
  have ih := rj (f := f) (id := id) (i := i) (l := r)
  simp only [mJ]
  by_cases hj : j = id
  ·subst hj
   rw [nbT]
   simp only []
   rw [ih]
   by_cases hi : i = j
   ·simp [hi]
   ·rw [if_neg hi, if_neg hi]
    simp only [aO, nbF (Ne.symm hi)]
  ·rw [nbF hj]
   simp only []
   by_cases hi : j = i
   ·subst hi
    rw [if_neg hj]
    cases o <;> simp only [aO, nbT]
   ·have e2 : aO ((j, o) :: r) i = aO r i := by simp only [aO, nbF hi]
    rw [e2, ← ih]
    cases o <;> simp only [aO, nbF hi]
theorem go_frz {f : V → V} {id : Nat} (hid : H.get id ≠ .free) (hf : ∀ S w ρ, HRel S w ρ H.get → ∀ v x, VRel S w ρ v x → VRel (fun b => S b ∨ own ρ id (H.get id) b) w ρ (f v) x) (h1 : mt f F = F1) (h2 : (⟨H.nx, mJ f id H.es⟩ : Hp) = H1) (k : Go P K Q p s n F1 H1) : Go P K Q p s n F H := fun S w ρ a hr hi hF => by
 subst h1 h2
 obtain ⟨g1, g2⟩ := iX (id := id) hr
 have hlt : id < H.nx := by
  rcases Nat.lt_or_ge id H.nx with h | h
  ·exact h
  ·exfalso; apply hid
   unfold Hp.get
   have : Nat.blt id H.nx = false := by cases hb : Nat.blt id H.nx; rfl; simp [Nat.blt_eq] at hb; omega
   rw [this]
 have hg : ∀ i, (⟨H.nx, mJ f id H.es⟩ : Hp).get i = if i = id then .gone else match H.get i with | .var t cs => .var t (mapVs f cs) | o => o := fun i => by
  unfold Hp.get
  by_cases hi : i = id
  ·subst hi
   simp only [nlT hlt, if_true, rj]
  ·simp only [if_neg hi]
   cases hb : Nat.blt i H.nx
   ·rfl
   ·simp only [rj, if_neg hi]
 have hob : ∀ i, i ≠ id → own ρ i ((⟨H.nx, mJ f id H.es⟩ : Hp).get i) = own ρ i (H.get i) := fun i hii => by
  rw [hg i, if_neg hii]
  cases H.get i <;> rfl
 have hhr : HRel (fun b => S b ∨ own ρ id (H.get id) b) w ρ (⟨H.nx, mJ f id H.es⟩ : Hp).get := by
  have hne : ∀ i b, own ρ i ((⟨H.nx, mJ f id H.es⟩ : Hp).get i) b → i ≠ id ∧ own ρ i (H.get i) b := fun i b hb => by
   by_cases hii : i = id
   ·subst hii; rw [hg i, if_pos rfl] at hb; exact hb.elim
   ·rw [hob i hii] at hb; exact ⟨hii, hb⟩
  refine ⟨fun i => ?_, fun i b hb => ?_, fun i j b hbi hbj => hr.dis i j b (hne i b hbi).2 (hne j b hbj).2, g1.slt⟩
  ·rw [hg i]
   by_cases hii : i = id
   ·rw [if_pos hii]; trivial
   ·rw [if_neg hii]
    have h0 := g1.ob i
    rw [cV _ _ hii] at h0
    have h1 := hr.ob i
    cases ho : H.get i with
    | var t cs =>
     rw [ho] at h1
     obtain ⟨b, xs, q1, q2, q3⟩ := h1
     exact ⟨b, xs, q1, q2, q3.mapV (hf S w ρ hr)⟩
    | _ => rw [ho] at h0; exact h0
  ·have := hne i b hb
   exact g1.sep i b (by rw [cV _ _ this.1]; exact this.2)
 have hii : Inv K (fun b => S b ∨ own ρ id (H.get id) b) w ρ (⟨H.nx, mJ f id H.es⟩ : Hp).get := by
  have h0 := hi.frz hr id
  refine ⟨h0.chg, h0.s0, h0.s1, fun i b hb => ?_, h0.pin⟩
  by_cases hii : i = id
  ·subst hii; rw [hg i, if_pos rfl] at hb; exact hb.elim
  ·rw [hob i hii] at hb; exact hi.ow i b hb
 have := k _ w ρ a hhr hii ⟨hF.size, hF.defers, by rw [sZ]; exact hF.len, fun i u hu => by
  rw [sB] at hu
  obtain ⟨v, h3, h4⟩ := Option.map_eq_some_iff.1 hu
  obtain ⟨x, h5, h6⟩ := hF.get i v h3
  exact ⟨x, h5, by rw [← h4]; exact h6.mapV (hf S w ρ hr)⟩⟩
 cases p with
 | drw all L m left listed => exact fun hs => sL (qG (fun b hb => .inl hb) Agree.refl) (fun x _ h => h) _ _ _ _ (this hs)
 | code c => exact this
 | ops all rest => exact this
 | ex e => exact this
def fzR (id sz : Nat) (els : List V) : V → V
 |.sl j => match Nat.beq j id with
  | true => .row sz els
  | false => .sl j
 | v => v
def fzP (id : Nat) (cs : List V) : V → V
 |.ptr j o => match Nat.beq j id with
  | true => .box cs o
  | false => .ptr j o
 | v => v
theorem gFR {e : TypeId} {sz : Nat} {els : List V} (id : Nat) (ho : H.get id = .row e sz els) (hpu : pureL els = true) (h1 : mt (fzR id sz els) F = F1) (h2 : (⟨H.nx, mJ (fzR id sz els) id H.es⟩ : Hp) = H1) (k : Go P K Q p s n F1 H1) : Go P K Q p s n F H :=
 go_frz (f := fzR id sz els) (by rw [ho]; simp) (fun S w ρ hr v x hx => by
  unfold fzR
  split
  ·split
   ·rename_i hb
    have := Nat.eq_of_beq_eq_true hb
    subst this
    exact tm hr ho hpu hx
   ·exact hx.up (iX hr).2
  ·exact hx.up (iX hr).2) h1 h2 k
theorem gFP {t : TypeId} {cs : List V} (id : Nat) (ho : H.get id = .var t cs) (hpu : pureL cs = true) (h1 : mt (fzP id cs) F = F1) (h2 : (⟨H.nx, mJ (fzP id cs) id H.es⟩ : Hp) = H1) (k : Go P K Q p s n F1 H1) : Go P K Q p s n F H :=
 go_frz (f := fzP id cs) (by rw [ho]; simp) (fun S w ρ hr v x hx => by
  unfold fzP
  split
  ·split
   ·rename_i hb
    have := Nat.eq_of_beq_eq_true hb
    subst this
    exact yH hr ho hpu hx
   ·exact hx.up (iX hr).2
  ·exact hx.up (iX hr).2) h1 h2 k
def mkF : Nat → Nat → List (Nat × V) → Fm
 | 0, _, _ => []
 | n + 1, i, [] => none :: mkF n (i + 1) []
 |n + 1, i, (j, v) :: r => match Nat.beq i j with
  | true => some v :: mkF n (i + 1) r
  | false => none :: mkF n (i + 1) ((j, v) :: r)
end
inductive Rs where
 | ok (e : Bool) (F : Fm) (H : Hp)
 | pt (p : EP) (s : List EI) (F : Fm) (H : Hp)
 | er (n m : Nat)
section
variable (T : Tab) (ih : EP → List EI → Fm → Hp → Rs)
end
set_option maxRecDepth 100000
def tyL : List (Nat × TD) := [
 (25, ⟨4, 72, .agg [.int .i64 0, .str [], .nils, .nils], .struct [(0, 1, true), (1, 1, true), (2, 1, true), (3, 1, true)]⟩),
 (3, ⟨1, 8, .int .i64 0, .sc⟩),
 (9, ⟨1, 16, .str [], .str⟩),
 (23, ⟨1, 24, .nils, .sl 25⟩),
 (22, ⟨1, 24, .nils, .sl 9⟩),
 (57, ⟨1, 24, .nils, .sl 60⟩),
 (5, ⟨1, 1, .int .u8 0, .sc⟩),
 (42, ⟨1, 8, .nilp, .sc⟩),
 (46, ⟨3, 40, .agg [.int .i64 0, .str [], .str []], .struct [(0, 1, true), (1, 1, true), (2, 1, true)]⟩),
 (97, ⟨1, 8, .nilp, .sc⟩),
 (108, ⟨4, 32, .agg [.int .i64 0, .int .i64 0, .int .i64 0, .int .i64 0], .struct [(0, 1, true), (1, 1, true), (2, 1, true), (3, 1, true)]⟩),
 (49, ⟨1, 8, .nilp, .sc⟩),
 (50, ⟨1, 8, .nilp, .sc⟩),
 (60, ⟨2, 32, .agg [.str [], .str []], .struct [(0, 1, true), (1, 1, true)]⟩),
 (39, ⟨1, 24, .nils, .sl 46⟩),
 (83, ⟨1, 8, .nilp, .sc⟩),
 (29, ⟨1, 8, .int .i64 0, .sc⟩),
 (44, ⟨5, 56, .agg [.nils, .int .i64 0, .int .i64 0, .int .i64 0, .int .i64 0], .struct [(0, 1, true), (1, 1, true), (2, 1, true), (3, 1, true), (4, 1, true)]⟩),
 (35, ⟨1, 24, .nils, .sl 3⟩),
 (79, ⟨3, 48, .agg [.nilp, .nils, .str []], .struct [(0, 2, false), (2, 1, true)]⟩),
 (86, ⟨2, 32, .agg [.nils, .int .i64 0], .struct [(0, 1, true), (1, 1, true)]⟩),
 (77, ⟨2, 32, .agg [.nilp, .nils], .struct [(0, 1, true), (1, 1, true)]⟩),
 (84, ⟨3, 48, .agg [.str [], .str [], .str []], .arr 3 9⟩),
 (4, ⟨1, 1, .bool false, .bool⟩)]
def ta {α : Type} : List (Nat × α) → Nat → Option α
 | [], _ => none
 |(i, x) :: r, j => match Nat.beq i j with
  | true => some x
  | false => ta r j
def tyB (P : Program) : List (Nat × TD) → Bool
 | [] => true
 | (t, d) :: r => tdB P t d && tyB P r
theorem zT {P : Program} : ∀ {l : List (Nat × TD)}, tyB P l = true → ∀ t d, ta l t = some d → TdOk P t d
 | [], _, t, d, h => by cases h
 | (i, x) :: r, hb, t, d, h => by
  simp only [tyB, Bool.and_eq_true] at hb
  simp only [ta] at h
  split at h
  ·rename_i e
   have := Nat.eq_of_beq_eq_true e
   subst this
   injection h with h; subst h
   exact Ej hb.1
  ·exact zT hb.2 t d h
theorem Em : ∀ t d, ta tyL t = some d → TdOk Tryz.prog t d := zT (by kernel_rfl)
open Go.RowKit Lx Sx
def Bh : Tab := ⟨false, ta tyL, fun _ => none, fun _ _ => none, fun _ => false⟩
theorem ab : TabOk Tryz.prog Bh := ⟨Em, (fun _ _ h => by cases h), (fun _ _ _ h => by cases h)⟩
mutual
def treeV : Tree → V
 | .node k s ls ks => .agg [.int .i64 k, .str s, .row 1 (ls.map .str), .row 4 (kidsV ks)]
def kidsV : List Tree → List V
 | [] => []
 | t :: r => treeV t :: kidsV r
end
abbrev ae (t : Tree) : List V := [.int .i64 t.kind, .str t.text, .row 1 (t.leads.map .str), .row 4 (kidsV t.kids)]
abbrev qA (t : Tree) : V := .agg (ae t)
theorem lF (t : Tree) : treeV t = qA t := by cases t; simp [treeV, Tree.kind, Tree.text, Tree.leads, Tree.kids]
theorem uP : ∀ (ks : List Tree), (kidsV ks).length = ks.length
 | [] => rfl
 | t :: r => by simp [kidsV, uP r]
theorem av : ∀ {ks : List Tree} {i : Nat} {u : Tree}, ks[i]? = some u → (kidsV ks)[i]? = some (qA u)
 | [], i, u, h => by simp at h
 | t :: r, 0, u, h => by
  simp only [List.getElem?_cons_zero, Option.some.injEq] at h
  subst h
  simp [kidsV, lF]
 | t :: r, i + 1, u, h => by
  simp only [List.getElem?_cons_succ] at h
  simpa [kidsV] using av h
theorem bo : ∀ (a b : List Tree), kidsV (a ++ b) = kidsV a ++ kidsV b
 | [], b => rfl
 | t :: r, b => by simp [kidsV, bo r b]
theorem yY (t : Tree) : (qA t).pure = true := rfl
theorem tg : ∀ (ks : List Tree), pureL (kidsV ks) = true
 | [] => rfl
 | t :: r => by simp only [kidsV, pureL, lF, yY, tg r]
def ot (P : Program) (fid : FuncId) (us : List V) (v : V) : Prop := pureL us = true ∧ v.pure = true ∧ Sum P fid us ⟨0, []⟩ (fun u _ => u = v)
theorem oU (i : Nat) : (⟨0, []⟩ : Hp).get i = .free := by
 unfold Hp.get
 have : Nat.blt i 0 = false := by cases i <;> rfl
 simp only [this]
theorem vh {P : Program} {K : Ctx} {H : Hp} {fid : FuncId} {vs us : List V} {v : V} (hS : ot P fid us v) (hs : aC vs us) (L : List Nat) (hL : ej H.get L = true) : CallR P K fid vs H L (fun v' H'' => v' = v ∧ H'' = H) := fun S w ρ xs hr hi hx => by
 obtain ⟨h1, h2, h3⟩ := hS
 have hr0 : HRel S w ρ0 (⟨0, []⟩ : Hp).get := ⟨fun i => by rw [oU]; rfl, fun i b hb => by rw [oU] at hb; exact hb.elim, fun i j b hb _ => by rw [oU] at hb; exact hb.elim, hr.slt⟩
 refine (h3 S w ρ0 xs hr0 ((hs.rel hx).pure h1)).mono fun e w' hR => ?_
 obtain ⟨x, S', ρ', u, H', rfl, rfl, hr', hi', hv⟩ := hR
 have hno : ∀ b, ¬ ∃ id, own ρ0 id ((⟨0, []⟩ : Hp).get id) b := fun b ⟨id, hb⟩ => by rw [oU] at hb; exact hb
 have hc : Chg [] w w' := ⟨hi'.chg.os, hi'.chg.tape, hi'.chg.output, hi'.chg.size, fun b hb _ => hi'.chg.block b hb (hno b)⟩
 have up : Up S S' w w' ρ ρ := ⟨hi'.s0, fun b hb hlt => hc.block b hlt (by simp), fun _ _ h => h⟩
 have hs1 : ∀ b, S' b → S b ∨ w.heap.size ≤ b := fun b hb => by
  rcases hi'.s1 b hb with h | h | h
  ·exact .inl h
  ·exact absurd h (hno b)
  ·exact .inr h
 refine ⟨x, S', ρ, u, H, rfl, ⟨rfl, rfl⟩, ⟨fun i => (hr.ob i).up up (fun hf => ?_) (fun b hb => hc.block b (fK (hr.ob i) hb) (by simp)), fun i b hb => ?_, hr.dis, hr'.slt⟩, ⟨hi.chg.trans (ChgP.of hc) (fun b hb => by simp at hb), fun b hb => hi'.s0 b (hi.s0 b hb), fun b hb => ?_, hi.ow, hi.pin⟩, up, hv.pure h2, fun id hid y b hy hb => ?_⟩
 ·have := hr.ob i; rw [hf] at this; exact this
 ·intro hS
  rcases hs1 b hS with h | h
  ·exact hr.sep i b hb h
  ·have := fK (hr.ob i) hb; omega
 ·rcases hs1 b hb with h | h
  ·exact hi.s1 b h
  ·exact .inr (.inr (Nat.le_trans hi.chg.size h))
 ·exact hc.block b (fK (hr.ob id) (lO hr hL id hid y b hy hb)) (by simp)
theorem dl {α : Type} [BEq α] [LawfulBEq α] {a b : α} (h : (a != b) = false) : a = b := by simpa using h
section
variable {K : Ctx} {Q : Exit → Act → World → Prop} {p p' : EP} {s s' : List EI} {n : Nat} {F F' F1 F2 : Fm} {H H' H1 : Hp} {all : Array Oper} {rest : List Oper} {o : Oper}
theorem gR (k : Nat) (h : fg Bh k p s F H = some (p', s', F', H')) (kk : Go Tryz.prog K Q p' s' n F' H') : Go Tryz.prog K Q p s n F H := dm ab k p s F H h kk
theorem gC {PL : List Nat} {fid : FuncId} {args : List Operand} {tys : Array TypeId} {vs us : List V} {H0 : Hp} {Post : V → Hp → Prop} {d : Option Tmp} {ty : TypeId} {ps : String} {af : Array Edge} {g : Option (Nat × Bool)} (hS : bZ PL Tryz.prog fid us H0 Post) (σ : List Nat) (he : dP Tryz.prog fid = true) (hw : ch F all g = some true) (hv : gE F args = some vs) (hs : aC vs (renL σ us)) (hH : leH σ H H0.es) (hc : (dr σ && Nat.beq σ.length H0.nx && σ.all fun i => Nat.blt i H.nx) = true)
  (k : ∀ v H', Post v H' → Go Tryz.prog K Q (.ops all rest) s n (F.seto d (some (v.ren (sgN PL H.nx H0.get H'.nx σ 0)))) (jN PL H σ H0 H')) : Go Tryz.prog K Q (.ops all (⟨d, .call { callee := .value (.func fid), args := args.toArray, argTypes := tys }, ty, ps, af, g⟩ :: rest)) s n F H :=
 go_opC (o := ⟨d, .call { callee := .value (.func fid), args := args.toArray, argTypes := tys }, ty, ps, af, g⟩) he rfl hw hv (qy hS σ hs hH hc [] (by simp [ej])) fun v' H'' ⟨v, H', hP, e1, e2⟩ => by subst e1 e2; exact k v H' hP
theorem gC0 {fid : FuncId} {args : List Operand} {tys : Array TypeId} {vs us : List V} {v : V} {d : Option Tmp} {ty : TypeId} {ps : String} {af : Array Edge} {g : Option (Nat × Bool)} (hS : ot Tryz.prog fid us v) (he : dP Tryz.prog fid = true) (hw : ch F all g = some true) (hv : gE F args = some vs) (hs : aC vs us) (h1 : F.puto d (some v) id = F1)
  (k : Go Tryz.prog K Q (.ops all rest) s n F1 H) : Go Tryz.prog K Q (.ops all (⟨d, .call { callee := .value (.func fid), args := args.toArray, argTypes := tys }, ty, ps, af, g⟩ :: rest)) s n F H := by
 rw [Fm.puto_eq] at h1; subst h1
 exact go_opC (o := ⟨d, .call { callee := .value (.func fid), args := args.toArray, argTypes := tys }, ty, ps, af, g⟩) he rfl hw hv (vh hS hs [] rfl) fun v' H'' ⟨e1, e2⟩ => by subst e1 e2; exact k
def slB (T : Tab) (t : TypeId) : Option (TypeId × Nat × Nat) := match T.ty t with
 |some ⟨_, _, _, .sl e⟩ => match T.ty e with
  |some ⟨sz, by_, _, _⟩ => match Nat.blt 0 sz && Nat.ble by_ 100000 with
   | true => some (e, sz, by_)
   | false => none
  | none => none
 | _ => none
theorem zB {P : Program} {T : Tab} (hT : TabOk P T) {t e : TypeId} {sz by_ : Nat} (h : slB T t = some (e, sz, by_)) : P.underlying t = some (.slice e) ∧ 0 < sz ∧ by_ ≤ 100000 ∧ ∃ z : Value, (P.info? e).map (fun i => (i.zero, i.size, i.bytes)) = some (some z, sz, by_) ∧ z.cells.size = sz := by
 unfold slB at h
 split at h
 ·rename_i ht
  split at h
  ·rename_i he
   split at h
   ·rename_i hb
    simp only [Option.some.injEq, Prod.mk.injEq] at h
    obtain ⟨rfl, rfl, rfl⟩ := h
    simp only [Bool.and_eq_true, Nat.blt_eq, Nat.ble_eq] at hb
    obtain ⟨z, h1, _, h3, _⟩ := (hT.ty _ _ he).info
    exact ⟨(hT.ty _ _ ht).sl rfl, hb.1, hb.2, z, h1, h3⟩
   ·cases h
  ·cases h
 ·cases h
theorem dAp {P : Program} {T : Tab} (hT : TabOk P T) {t e : TypeId} {x y : Operand} {sz by_ id : Nat} {els news : List V} {v : V} {ty : TypeId} (ht : slB T t = some (e, sz, by_)) (hx : aX F x = some (.sl id)) (ho : H.get id = .row e sz els) (hy : aX F y = some v) (hs : sY H.get sz v = some news) (hb : els.length + news.length ≤ 1000000000) :
  ∀ S w ρ a, HRel S w ρ H.get → FRel S w ρ a n F → Does P S w ρ H.get a ty (.call { callee := .builtin .append, args := #[x, y], argTypes := #[t, t] }) (some (.sl H.nx)) ((ED.repl id (.row e sz (els ++ news))).app H.get H.nx) (ED.repl id (.row e sz (els ++ news))).tch := fun S w ρ a hr hF => by
 obtain ⟨h1, h2, h3, z, h4, h5⟩ := zB hT ht
 obtain ⟨u, g1, g2⟩ := tW hr hF hy hs
 exact vR hr hF.fr H.get_free g1 g2 h1 h4 h5 h2 (an hF hx) ho (by simp only [maxLen]; omega) (Nat.le_trans (Nat.mul_le_mul hb h3) (by decide))
theorem Fd {P : Program} {T : Tab} (hT : TabOk P T) {t e : TypeId} {x y : Operand} {sz by_ : Nat} {news : List V} {v : V} {ty : TypeId} (ht : slB T t = some (e, sz, by_)) (hx : aX F x = some .nils) (hy : aX F y = some v) (hs : sY H.get sz v = some news) (hb : news.length ≤ 1000000000) :
  ∀ S w ρ a, HRel S w ρ H.get → FRel S w ρ a n F → Does P S w ρ H.get a ty (.call { callee := .builtin .append, args := #[x, y], argTypes := #[t, t] }) (some (.sl H.nx)) ((ED.new (.row e sz news)).app H.get H.nx) (ED.new (.row e sz news)).tch := fun S w ρ a hr hF => by
 obtain ⟨h1, h2, h3, z, h4, h5⟩ := zB hT ht
 obtain ⟨u, g1, g2⟩ := tW hr hF hy hs
 exact uW hr hF.fr H.get_free g1 g2 h1 h4 h5 h2 (an hF hx) (by simp only [maxLen]; omega) (Nat.le_trans (Nat.mul_le_mul hb h3) (by decide))
variable {L : List Nat} {m fuel c : Nat} {listed : Array Bool}
theorem gDs {id : Nat} {l : List Oper} (L : List Nat) (m sz : Nat) (hsz : l.length = sz) (hm : Tryz.prog.follows .mixedOrders = true) (hs : Region.noSelect l.toArray = true) (k : Go Tryz.prog K Q (.drw l.toArray L m sz (Array.replicate sz false)) s n F H) : Go Tryz.prog K Q (.code (.region id l.toArray true)) s n F H := CM L m sz hsz hm hs k
theorem gDr (is : List (Nat × Nat)) (hc : yx all m is listed = true) (hl : is.length = c) (hr : nn Bh all L is F H = some (F', H')) (k : Go Tryz.prog K Q (.drw all L m fuel (Az is listed)) s n F' H') : Go Tryz.prog K Q (.drw all L m (fuel + c) listed) s n F H := by
 subst hl; exact lG ab is fuel listed F H hc hr k
theorem gDe (hd : Region.ready .any all listed = []) (k : Go Tryz.prog K Q (.ex .normal) s n F H) : Go Tryz.prog K Q (.drw all L m fuel listed) s n F H := Bo hd k
theorem cf {fid : FuncId} {args : List Operand} {tys : Array TypeId} {vs us : List V} {v : V} {d : Option Tmp} {ty : TypeId} {ps : String} {af : Array Edge} {g : Option (Nat × Bool)} (i : Nat) (hS : ot Tryz.prog fid us v) (he : dP Tryz.prog fid = true) (hi : all[i]? = some ⟨d, .call { callee := .value (.func fid), args := args.toArray, argTypes := tys }, ty, ps, af, g⟩) (hrd : Region.ready .any all listed = [i]) (hw : ch F all g = some true) (hv : gE F args = some vs) (hs : aC vs us) (hL : ej H.get L = true) (h1 : F.puto d (some v) id = F1)
  (k : Go Tryz.prog K Q (.drw all L m fuel (listed.setIfInBounds i true)) s n F1 H) : Go Tryz.prog K Q (.drw all L m (fuel + 1) listed) s n F H := by
 rw [Fm.puto_eq] at h1; subst h1
 exact go_d1C he hrd hi rfl hw hv (vh hS hs L hL) (.inl rfl) fun v' H'' ⟨e1, e2⟩ => by subst e1 e2; exact k
theorem gDC {PL : List Nat} {fid : FuncId} {args : List Operand} {tys : Array TypeId} {vs us : List V} {H0 : Hp} {Post : V → Hp → Prop} {d : Option Tmp} {ty : TypeId} {ps : String} {af : Array Edge} {g : Option (Nat × Bool)} (i : Nat) (hS : bZ PL Tryz.prog fid us H0 Post) (σ : List Nat) (he : dP Tryz.prog fid = true) (hi : all[i]? = some ⟨d, .call { callee := .value (.func fid), args := args.toArray, argTypes := tys }, ty, ps, af, g⟩) (hrd : Region.ready .any all listed = [i]) (hw : ch F all g = some true) (hv : gE F args = some vs) (hs : aC vs (renL σ us)) (hH : leH σ H H0.es) (hc : (dr σ && Nat.beq σ.length H0.nx && σ.all fun i => Nat.blt i H.nx) = true) (hL : (ej H.get L && L.all fun i => !σ.contains i) = true)
  (k : ∀ v H', Post v H' → Go Tryz.prog K Q (.drw all L m fuel (listed.setIfInBounds i true)) s n (F.seto d (some (v.ren (sgN PL H.nx H0.get H'.nx σ 0)))) (jN PL H σ H0 H')) : Go Tryz.prog K Q (.drw all L m (fuel + 1) listed) s n F H :=
 go_d1C he hrd hi rfl hw hv (qy hS σ hs hH hc L hL) (.inl rfl) fun v' H'' ⟨v, H', hP, e1, e2⟩ => by subst e1 e2; exact k v H' hP
end
def ac (f : Func) : Code := match f.body with
 | some c => c
 | none => .skip
def cA : Code → Code
 | .seq x _ => x
 | c => c
def cB : Code → Code
 | .seq _ y => y
 | c => c
def cK : Code → Code
 | .block _ c => c
 | c => c
def cL : Code → Code
 | .loop c => c
 | c => c
def cT : Code → Code
 | .cond _ x _ => x
 | c => c
def cE : Code → Code
 | .cond _ _ y => y
 | c => c
theorem apM {α : Type} (f : α → V) (l : List α) (x : α) : List.map f l ++ [f x] = List.map f (l ++ [x]) := by simp
theorem qj (l : List Tree) : l.map qA = kidsV l := by
 induction l with
 | nil => rfl
 | cons t r ih => simp [kidsV, lF, ih]
theorem ct (x : Tree) : [qA x] = kidsV [x] := by simp [kidsV, lF]
theorem bb : ∀ (l : List Tree), kidsV l = l.map qA
 | [] => rfl
 | t :: r => by simp [kidsV, lF, bb r]
theorem mapget {α : Type} {f : α → V} {l : List α} {i : Nat} {x : α} (h : l[i]? = some x) : (List.map f l)[i]? = some (f x) := by simp [h]
theorem aE (l : List Tree) : (kidsV l).length = l.length := uP l
theorem aZ {α : Type} (f : α → V) (l : List α) : (List.map f l).length = l.length := List.length_map ..
theorem bF {n : Nat} {m : Nat} (h : n = m) : V.int .i64 (n : Int) = .int .i64 (m : Int) := by rw [h]
theorem AH : ∀ (l : List Tree) (i : Nat) (x : Tree), (kidsV l).set i (qA x) = kidsV (l.set i x)
 | [], i, x => rfl
 | t :: r, 0, x => by simp [kidsV, lF]
 | t :: r, i + 1, x => by simp [kidsV, AH r i x]
theorem bC {α : Type} (f : α → V) (l : List α) (i : Nat) (x : α) : (List.map f l).set i (f x) = List.map f (l.set i x) := by simp
theorem Fy (l : List Tree) (i j : Nat) : ((kidsV l).drop i).take j = kidsV ((l.drop i).take j) := by simp [bb, List.map_drop, List.map_take]
theorem Fx {α : Type} (f : α → V) (l : List α) (i j : Nat) : ((List.map f l).drop i).take j = List.map f ((l.drop i).take j) := by simp [List.map_drop, List.map_take]
theorem ba (σ : List Nat) : ∀ (l : List Tree), renL σ (kidsV l) = kidsV l
 | [] => rfl
 | t :: r => by simp only [kidsV, renL, ba σ r]; rw [lF]; rfl
theorem ym {α : Type} (σ : List Nat) (f : α → V) (hf : ∀ x, (f x).ren σ = f x) : ∀ (l : List α), renL σ (List.map f l) = List.map f l
 | [] => rfl
 | x :: r => by simp only [List.map_cons, renL, hf, ym σ f hf r]
theorem ca (l : List Tree) : pureL (kidsV l) = true := tg l
theorem dn {α : Type} (f : α → V) (hf : ∀ x, (f x).pure = true) : ∀ (l : List α), pureL (List.map f l) = true
 | [] => rfl
 | x :: r => by simp only [List.map_cons, pureL, hf, dn f hf r]
theorem dD {e : Bool} (h : (!e) = true) : e = false := by simpa using h
theorem dC {e : Bool} (h : (!e) = false) : e = true := by simpa using h
theorem eF {α : Type} [BEq α] [LawfulBEq α] {a b : α} (h : (a != b) = true) : a ≠ b := by simpa using h
theorem fh {a b : Nat} (h : decide ((a : Int) < (b : Int)) = true) : a < b := by have := of_decide_eq_true h; omega
theorem fo {a b : Nat} (h : decide ((a : Int) < (b : Int)) = false) : ¬ a < b := by have := of_decide_eq_false h; omega
theorem DR {a b : Nat} (h : ((a : Int) != (b : Int)) = true) : a ≠ b := by have := eF h; omega
theorem Dw {a b : Nat} (h : ((a : Int) != (b : Int)) = false) : a = b := by have := dl h; omega
theorem je {n m : Int} (h : n = m) : V.int .i64 n = .int .i64 m := by rw [h]
abbrev InI (x : Int) : Prop := -9223372036854775808 ≤ x ∧ x ≤ 9223372036854775807
section
variable {P : Program} {T : Tab} {K : Ctx} {Q : Exit → Act → World → Prop} {p p' : EP} {s s' : List EI} {n : Nat} {F F' F1 F2 : Fm} {H H' H1 : Hp} {all : Array Oper} {rest : List Oper} {o : Oper} {L : List Nat} {m fuel : Nat} {listed : Array Bool}
theorem gS {v : V} (d : Nat) (v' : V) (hd : F.get d = some v) (hs : bv v v') (h1 : F.put d (some v') id = F1) (k : Go P K Q p s n F1 H) : Go P K Q p s n F H := by
 rw [Fm.put_eq] at h1; subst h1
 exact nT hd hs k
theorem AP {h : Nat → Ob} {id : Nat} {o : Ob} (ho : h id = o) : di h id o = h := by
 funext i
 by_cases hi : i = id
 ·subst hi; rw [cg, ho]
 ·rw [cV _ _ hi]
theorem gHR {e : TypeId} {sz : Nat} {els : List V} (id : Nat) (els' : List V) (ho : H.get id = .row e sz els) (he : els = els') (h2 : H.ap (.set id (.row e sz els')) _root_.id = H1) (k : Go P K Q p s n F H1) : Go P K Q p s n F H := by
 subst he
 rw [Hp.ap_eq] at h2; subst h2
 have hg : (H.app (.set id (.row e sz els))).get = H.get := by
  rw [Hp.get_app (by exact ⟨by rw [ho]; simp, by rw [ho]; simp⟩)]
  exact AP ho
 intro S w ρ a hr hi hF
 exact k S w ρ a (by rw [id_eq, hg]; exact hr) (by rw [id_eq, hg]; exact hi) hF
theorem CRel.sub {S : Nat → Prop} {w : World} {ρ : Nat → Option Value} {sz : Nat} : ∀ {vs us : List V} {xs : List Value}, aC vs us → CRel S w ρ sz vs xs → CRel S w ρ sz us xs
 | [], us, xs, h, hl => by simp only [aC] at h; subst h; exact hl
 | v :: r, us, xs, h, hl => by
  simp only [aC] at h
  obtain ⟨u, q, rfl, h1, h2⟩ := h
  simp only [CRel] at hl ⊢
  obtain ⟨x, ys, rfl, h3, h4, h5⟩ := hl
  exact ⟨x, ys, rfl, h3, h1 _ _ _ _ h4, h5.sub h2⟩
theorem aC.len : ∀ {vs us : List V}, aC vs us → us.length = vs.length
 | [], us, h => by simp only [aC] at h; subst h; rfl
 | v :: r, us, h => by
  simp only [aC] at h
  obtain ⟨u, q, rfl, _, h2⟩ := h
  simp [h2.len]
theorem aC.rep {a b : V} (h : bv a b) : ∀ n, aC (List.replicate n a) (List.replicate n b)
 | 0 => aC.nil
 | n + 1 => aC.cons h (aC.rep h n)
theorem gHW {e : TypeId} {sz : Nat} {els : List V} (id : Nat) (els' : List V) (hp : p.still = true) (ho : H.get id = .row e sz els) (he : aC els els') (h2 : H.ap (.set id (.row e sz els')) _root_.id = H1) (k : Go P K Q p s n F H1) : Go P K Q p s n F H := by
 rw [Hp.ap_eq] at h2; subst h2
 have hg : (H.app (.set id (.row e sz els'))).get = di H.get id (.row e sz els') := Hp.get_app (by exact ⟨by rw [ho]; simp, by rw [ho]; simp⟩)
 intro S w ρ a hr hi hF
 have how : ∀ i b, own ρ i (di H.get id (.row e sz els') i) b ↔ own ρ i (H.get i) b := fun i b => by
  by_cases hi : i = id
  ·subst hi; rw [cg, ho]; rfl
  ·rw [cV _ _ hi]
 refine k S w ρ a ?_ ?_ hF
 ·rw [id_eq, hg]
  refine ⟨fun i => ?_, fun i b hb => hr.sep i b ((how i b).1 hb), fun i j b h1 h2 => hr.dis i j b ((how i b).1 h1) ((how j b).1 h2), hr.slt⟩
  by_cases hii : i = id
  ·subst hii
   rw [cg]
   obtain ⟨v, xs, h1, h2, h3⟩ := lw hr ho
   exact ⟨v, xs, h1, by rw [he.len]; exact h2, h3.sub he⟩
  ·rw [cV _ _ hii]; exact hr.ob i
 ·rw [id_eq, hg]
  exact ⟨hi.chg, hi.s0, hi.s1, fun i b hb => hi.ow i b ((how i b).1 hb), hi.pin⟩
def vj (PL : List Nat) : List (Nat × Ob) → List Nat → Bool
 | [], _ => true
 | (i, o) :: r, pv => (!im PL i o || pv.contains i) && vj PL r pv
theorem wb {PL : List Nat} : ∀ {es : List (Nat × Ob)} {pv : List Nat}, vj PL es pv = true → ∀ i, im PL i (aO es i) = true → i ∈ pv
 | [], pv, h, i, hi => by simp [aO, im] at hi
 | (j, o) :: r, pv, h, i, hi => by
  simp only [vj, Bool.and_eq_true, Bool.or_eq_true, Bool.not_eq_true'] at h
  simp only [aO] at hi
  split at hi
  ·rename_i e
   have := Nat.eq_of_beq_eq_true e
   subst this
   rcases h.1 with h1 | h1
   ·rw [h1] at hi; cases hi
   ·simpa using h1
  ·exact wb h.2 i hi
theorem aL {PL : List Nat} {nx : Nat} {es : List (Nat × Ob)} {pv : List Nat} (h : vj PL es pv = true) : ∀ i, im PL i ((⟨nx, es⟩ : Hp).get i) = true → i ∈ pv := fun i hi => by
 unfold Hp.get at hi
 split at hi
 ·exact wb h i hi
 ·simp [im] at hi
def nt (ids : List Nat) : List (Nat × Ob) → List (Nat × Ob)
 | [] => []
 |(j, o) :: r => match ids.contains j with
  | true => nt ids r
  | false => (j, o) :: nt ids r
theorem tc {ids : List Nat} {i : Nat} : ∀ {l : List (Nat × Ob)}, aO (nt ids l) i = aO l i ∨ aO (nt ids l) i = .gone
 | [] => .inl rfl
 | (j, o) :: r => by
  have ih := tc (ids := ids) (i := i) (l := r)
  simp only [nt]
  split
  ·rename_i hc
   by_cases hj : j = i
   ·subst hj
    refine .inr ?_
    have : ∀ l : List (Nat × Ob), aO (nt ids l) j = .gone := fun l => by
     induction l with
     | nil => rfl
     | cons p q ihq =>
      obtain ⟨k, o'⟩ := p
      simp only [nt]
      split
      ·exact ihq
      ·rename_i hk
       have hne : k ≠ j := fun e => by subst e; rw [hc] at hk; cases hk
       simp only [aO, nbF hne]
       exact ihq
    exact this r
   ·simp only [aO, nbF hj]; exact ih
  ·simp only [aO]
   split
   ·exact .inl rfl
   ·exact ih
theorem go_endD {fn : Func} {Post : V → Hp → Prop} {rs : List ResultVar} {vs : List V} {e : Exit} (ids : List Nat) (hT : TabOk P T) (hrs : fn.results = rs.toArray) (hv : sH T H.get F rs = some vs) (hP : Post (ur vs) ⟨H.nx, nt ids H.es⟩) (he : e = .ret ∨ e = .normal := by first | exact .inl rfl | exact .inr rfl) : Go P K (bodyPost P fn (SP K Post)) (.ex e) [] n F H := fun S w ρ a hr hi hF => by
 have hh : ∀ i, (⟨H.nx, nt ids H.es⟩ : Hp).get i = H.get i ∨ (⟨H.nx, nt ids H.es⟩ : Hp).get i = .gone := fun i => by
  unfold Hp.get
  cases hb : Nat.blt i H.nx
  ·exact .inl rfl
  ·exact tc
 exact ret_go hT he hrs hr hF hv fun x hx => ⟨x, S, ρ, _, _, rfl, hP, hr.drop hh, hi.drop hh, hx⟩
theorem gJ (k : Go P K Q p s n F' H') (σ pv : List Nat) (hp : p.still = true) (hpin : aq K pv) (hF : leF σ F F') (hH : leH σ H H'.es) (hc : (dr σ && Nat.ble σ.length H'.nx && BJ σ pv && Nat.ble F'.length n) = true) : Go P K Q p s n F H := go_sub σ pv hp hpin hF hH hc k
theorem ud {S : Nat → Prop} {w : World} {ρ : Nat → Option Value} {h : Nat → Ob} {nid : Nat} (e : TypeId) (sz : Nat) (hr : HRel S w ρ h) (hf : h nid = .free) : Eff S w w ρ (dS ρ nid (.slice none 0 0)) h (di h nid (.row e sz [])) (fun _ => False) :=
 eff_new hr hf (Chg.refl _ _) ⟨_, [], bq _ _ _, ⟨by simp, .inl ⟨rfl, rfl⟩⟩, by simp [CRel]⟩ (fun b hb => by
  obtain ⟨v, h1, h2⟩ := hb
  rw [bq] at h1
  cases h1; cases h2)
theorem gNS (d : Nat) (e : TypeId) (sz : Nat) (hp : p.still = true) (hd : F.get d = some .nils) (h1 : F.put d (some (.sl H.nx)) id = F1) (h2 : H.ap (.new (.row e sz [])) id = H1) (k : Go P K Q p s n F1 H1) : Go P K Q p s n F H := by
 rw [Fm.put_eq] at h1; rw [Hp.ap_eq] at h2; subst h1 h2
 intro S w ρ a hr hi hF
 have he := ud e sz hr H.get_free
 have hg : (H.app (.new (.row e sz []))).get = di H.get H.nx (.row e sz []) := Hp.get_app trivial
 have := k S w (dS ρ H.nx (.slice none 0 0)) a (by rw [id_eq, hg]; exact he.hr) (by rw [id_eq, hg]; exact hi.eff he) (by
  have hu := hF.up he.up
  refine ⟨hu.size, hu.defers, by simpa using hu.len, fun i u hiu => ?_⟩
  rw [id_eq, Fm.get_eq, List.getElem?_set] at hiu
  split at hiu
  ·rename_i e1; subst e1
   split at hiu
   ·simp only [Option.bind_some, id_eq, Option.some.injEq] at hiu
    subst hiu
    obtain ⟨x, h3, h4⟩ := hF.get d _ hd
    simp only [VRel] at h4; subst h4
    exact ⟨_, h3, by simp only [VRel]; exact ⟨bq _ _ _, rfl⟩⟩
   ·cases hiu
  ·exact hu.get i u (by rw [Fm.get_eq]; exact hiu))
 cases p with
 | drw all L m left listed => cases hp
 | code c => exact this
 | ops all rest => exact this
 | ex e => exact this
theorem gNC {t : TypeId} {cs : List V} (id o : Nat) (e : TypeId) (sz : Nat) (hp : p.still = true) (ho : H.get id = .var t cs) (hc : cs[o]? = some .nils) (h2 : (H.ap (.new (.row e sz [])) fun H1 => H1.ap (.set id (.var t (cs.set o (.sl H.nx)))) _root_.id) = H1) (k : Go P K Q p s n F H1) : Go P K Q p s n F H := by
 rw [Hp.ap_eq, Hp.ap_eq] at h2; subst h2
 intro S w ρ a hr hi hF
 have he := ud e sz hr H.get_free
 have hg : (H.app (.new (.row e sz []))).get = di H.get H.nx (.row e sz []) := Hp.get_app trivial
 have hne : id ≠ H.nx := fun e1 => by subst e1; rw [H.get_free] at ho; cases ho
 have hg1 : (H.app (.new (.row e sz []))).get id = .var t cs := by rw [hg, cV _ _ hne, ho]
 have hg2 : ((H.app (.new (.row e sz []))).app (.set id (.var t (cs.set o (.sl H.nx))))).get = di (H.app (.new (.row e sz []))).get id (.var t (cs.set o (.sl H.nx))) := Hp.get_app (by exact ⟨by rw [hg1]; simp, by rw [hg1]; simp⟩)
 have h1 : HRel S w (dS ρ H.nx (.slice none 0 0)) (H.app (.new (.row e sz []))).get := by rw [hg]; exact he.hr
 have h2 : Inv K S w (dS ρ H.nx (.slice none 0 0)) (H.app (.new (.row e sz []))).get := by rw [hg]; exact hi.eff he
 have how : ∀ i b, own (dS ρ H.nx (.slice none 0 0)) i (di (H.app (.new (.row e sz []))).get id (.var t (cs.set o (.sl H.nx))) i) b ↔ own (dS ρ H.nx (.slice none 0 0)) i ((H.app (.new (.row e sz []))).get i) b := fun i b => by
  by_cases hi : i = id
  ·subst hi; rw [cg, hg1]; rfl
  ·rw [cV _ _ hi]
 have := k S w (dS ρ H.nx (.slice none 0 0)) a (by
  rw [id_eq, hg2]
  refine ⟨fun i => ?_, fun i b hb => h1.sep i b ((how i b).1 hb), fun i j b q1 q2 => h1.dis i j b ((how i b).1 q1) ((how j b).1 q2), h1.slt⟩
  by_cases hii : i = id
  ·subst hii
   rw [cg]
   obtain ⟨b, xs, q1, q2, q3⟩ := oe h1 hg1
   obtain ⟨x, q4, q5⟩ := q3.get hc
   simp only [VRel] at q5; subst q5
   refine ⟨b, xs, q1, q2, ?_⟩
   have := q3.set (i := o) (v := .sl H.nx) (x := .slice none 0 0) (by simp only [VRel]; exact ⟨bq _ _ _, rfl⟩)
   have e2 : xs.set o (.slice none 0 0) = xs := by
    obtain ⟨hl, q6⟩ := List.getElem?_eq_some_iff.1 q4
    rw [← q6]; exact List.set_getElem_self ..
   rw [e2] at this; exact this
  ·rw [cV _ _ hii]; exact h1.ob i) (by
  rw [id_eq, hg2]
  exact ⟨h2.chg, h2.s0, h2.s1, fun i b hb => h2.ow i b ((how i b).1 hb), h2.pin⟩) (hF.up he.up)
 cases p with
 | drw all L m left listed => cases hp
 | code c => exact this
 | ops all rest => exact this
 | ex e => exact this
theorem gLB {sz : Nat} {els : List V} {N : Nat} (d : Nat) (hd : F.get d = some (.row sz els)) (hn : els.length = N) (k : N ≤ 9223372036854775807 → Go P K Q p s n F H) : Go P K Q p s n F H := fun S w ρ a hr hi hF => by
 obtain ⟨x, h1, h2⟩ := hF.get d _ hd
 simp only [VRel] at h2
 obtain ⟨A, c, xs, rfl, h3, h4, _⟩ := h2
 exact k (by simp only [maxLen] at h4; omega) S w ρ a hr hi hF
theorem gLO {e : TypeId} {sz : Nat} {els : List V} {N : Nat} (id : Nat) (ho : H.get id = .row e sz els) (hn : els.length = N) (k : N ≤ 9223372036854775807 → Go P K Q p s n F H) : Go P K Q p s n F H := fun S w ρ a hr hi hF => by
 obtain ⟨v, xs, h1, h2, h3⟩ := lw hr ho
 refine k ?_ S w ρ a hr hi hF
 rcases h2.2 with ⟨_, h⟩ | ⟨g, cap, cur, _, _, _, h4, h5, _⟩
 ·omega
 ·simp only [maxLen] at h5; omega
theorem DL (hT : TabOk P T) {t : TypeId} (ht : (match T.ty t with | some ⟨_, _, _, .str⟩ => true | _ => false) = true) : P.underlying t = some .string := by
 split at ht
 ·rename_i h; exact (hT.ty _ _ h).str rfl
 ·cases ht
theorem yIS (hT : TabOk P T) {t : TypeId} {x y : Operand} {l : List UInt8} {i : Nat} {c : UInt8} {ty : TypeId} (ht : (match T.ty t with | some ⟨_, _, _, .str⟩ => true | _ => false) = true) (hx : aX F x = some (.str l)) (hy : aX F y = some (.int .i64 (i : Int))) (hi : l[i]? = some c) : ∀ S w ρ a, HRel S w ρ H.get → FRel S w ρ a n F → Yld P S w ρ a ty (.index t x y) (.int .u8 (c.toNat : Int)) := fun S w ρ a hr hF =>
 p_idxS hF.fr (DL hT ht) (an hF hx) (an hF hy) hi
def ql (F : Fm) (y : Option Operand) (i : Nat) (dflt : Nat) : Prop := (y = none ∧ i = dflt) ∨ ∃ z, y = some z ∧ aX F z = some (.int .i64 (i : Int))
theorem CY {i : Nat} : ql F none i i := .inl ⟨rfl, rfl⟩
theorem um {z : Operand} {i d : Nat} (h : aX F z = some (.int .i64 (i : Int))) : ql F (some z) i d := .inr ⟨z, rfl, h⟩
theorem tf {S : Nat → Prop} {w : World} {ρ : Nat → Option Value} {a : Act} (hF : FRel S w ρ a n F) {y : Option Operand} {i d : Nat} (h : ql F y i d) : (y = none ∧ i = d) ∨ ∃ z, y = some z ∧ Opd S w ρ a z (.int .i64 (i : Int)) := h.imp _root_.id fun ⟨z, e, h⟩ => ⟨z, e, an hF h⟩
theorem ySS (hT : TabOk P T) {t : TypeId} {x : Operand} {lo hi : Option Operand} {l r : List UInt8} {i j : Nat} {ty : TypeId} (ht : (match T.ty t with | some ⟨_, _, _, .str⟩ => true | _ => false) = true) (hx : aX F x = some (.str l)) (hlo : ql F lo i 0) (hhi : ql F hi j l.length) (hij : i ≤ j) (hj : j ≤ l.length) (he : (l.drop i).take (j - i) = r) : ∀ S w ρ a, HRel S w ρ H.get → FRel S w ρ a n F → Yld P S w ρ a ty (.slice t x lo hi none) (.str r) := fun S w ρ a hr hF => by
 subst he
 exact BF hF.fr (DL hT ht) (an hF hx) (tf hF hlo) (tf hF hhi) hij hj
theorem ySR (hT : TabOk P T) {t e : TypeId} {x : Operand} {lo hi : Option Operand} {sz i j : Nat} {els els' : List V} {ty : TypeId} (ht : slT T t = some (e, sz)) (hx : aX F x = some (.row sz els)) (hlo : ql F lo i 0) (hhi : ql F hi j els.length) (hij : i ≤ j) (hj : j ≤ els.length) (he : (els.drop i).take (j - i) = els') : ∀ S w ρ a, HRel S w ρ H.get → FRel S w ρ a n F → Yld P S w ρ a ty (.slice t x lo hi none) (.row sz els') := fun S w ρ a hr hF => by
 subst he
 exact BQ hF.fr (pZ hT ht).1 (pZ hT ht).2 (an hF hx) (tf hF hlo) (tf hF hhi) hij hj
theorem DG {t e : TypeId} {x : Operand} {lo hi : Option Operand} {sz i j N : Nat} {els els' : List V} {ty : TypeId} (hn : els.length = N) (hT : TabOk P T) (ht : slT T t = some (e, sz)) (hx : aX F x = some (.row sz els)) (hlo : ql F lo i 0) (hhi : ql F hi j N) (hij : i ≤ j) (hj : j ≤ N) (he : (els.drop i).take (j - i) = els') : ∀ S w ρ a, HRel S w ρ H.get → FRel S w ρ a n F → Yld P S w ρ a ty (.slice t x lo hi none) (.row sz els') := by
 subst hn; exact ySR hT ht hx hlo hhi hij hj he
theorem An {α : Type} (l : List α) (i : Nat) : (l.drop i).take (l.length - i) = l.drop i := by
 rw [List.take_of_length_le (by simp)]
theorem AU {α : Type} (l : List α) (j : Nat) : (l.drop 0).take (j - 0) = l.take j := by simp
theorem aI {t e : TypeId} {x y : Operand} {sz i : Nat} {els cs : List V} {v : V} {ty : TypeId} (hi : els[i]? = some v) (hT : TabOk P T) (ht : slT T t = some (e, sz)) (hx : aX F x = some (.row sz els)) (hy : aX F y = some (.int .i64 (i : Int))) (hc : v.cells = cs) : ∀ S w ρ a, HRel S w ρ H.get → FRel S w ρ a n F → Yld P S w ρ a ty (.indexAddr t x y) (.box cs 0) := by
 subst hc; exact yIR hT ht hx hy hi
theorem Cr {f : Nat → Option Value} {a : Act} {w : World} {ty t u : TypeId} {x y : Operand} {m l : Int} (h : Fr a n f) (hx : aY f x = some (.int .i64 m)) (hy : aY f y = some (.int .i64 l)) (hl : l ≠ 0) : Runs P a ty (.binOp .rem t x y u) w (.value (.int .i64 (Int.tmod m l))) w := fun _ _ _ _ => by
 simp only [execOp, h.eval hx, h.eval hy]; simp [go_sem, eqGuard, Op.intDiv, hl]
theorem CD {f : Nat → Option Value} {a : Act} {w : World} {ty t u : TypeId} {x y : Operand} {m l : List UInt8} (h : Fr a n f) (hx : aY f x = some (.string ⟨m.toArray⟩)) (hy : aY f y = some (.string ⟨l.toArray⟩)) (hb : m.length + l.length ≤ 9223372036854775807) : Runs P a ty (.binOp .add t x y u) w (.value (.string ⟨(m ++ l).toArray⟩)) w := fun _ _ _ _ => by
 simp only [execOp, h.eval hx, h.eval hy]; simp [go_sem, eqGuard, show ¬ 9223372036854775807 < m.length + l.length by omega]; rfl
theorem Fn {t u ty : TypeId} {x y : Operand} {m l : Int} (hx : aX F x = some (.int .i64 m)) (hy : aX F y = some (.int .i64 l)) (hl : l ≠ 0) : ∀ S w ρ a, HRel S w ρ H.get → FRel S w ρ a n F → Yld P S w ρ a ty (.binOp .rem t x y u) (.int .i64 (Int.tmod m l)) := fun S w ρ a hr hF => ⟨_, by simp only [VRel], fun w' _ => Cr hF.fr (bH (an hF hx)) (bH (an hF hy)) hl⟩
theorem qD {t u ty : TypeId} {x y : Operand} {m l : List UInt8} (hx : aX F x = some (.str m)) (hy : aX F y = some (.str l)) (hb : m.length + l.length ≤ 9223372036854775807) : ∀ S w ρ a, HRel S w ρ H.get → FRel S w ρ a n F → Yld P S w ρ a ty (.binOp .add t x y u) (.str (m ++ l)) := fun S w ρ a hr hF => ⟨_, by simp only [VRel], fun w' _ => CD hF.fr (iP (an hF hx)) (iP (an hF hy)) hb⟩
theorem uH {PL : List Nat} {fid : FuncId} {vs us : List V} {v : V} {H0 G : Hp} (hS : bZ PL P fid us H0 (fun u G' => u = v ∧ G' = G)) (σ : List Nat) (hv : aC vs (renL σ us)) (hH : leH σ H H0.es) (hc : (dr σ && Nat.beq σ.length H0.nx && σ.all fun i => Nat.blt i H.nx) = true) (L : List Nat) (hL : (ej H.get L && L.all fun i => !σ.contains i) = true) :
  CallR P K fid vs H L (fun v' H'' => v' = v.ren (sgN PL H.nx H0.get G.nx σ 0) ∧ H'' = jN PL H σ H0 G) := fun S w ρ xs hr hi hx =>
 (qy hS σ hv hH hc L hL S w ρ xs hr hi hx).mono fun e w' hh => by
  obtain ⟨x, S', ρ', v', H', h1, ⟨u, G', ⟨q1, q2⟩, e1, e2⟩, h3⟩ := hh
  subst q1 q2
  exact ⟨x, S', ρ', v', H', h1, ⟨e1, e2⟩, h3⟩
theorem uF {o : Oper} {L : List Nat} {ok : Bool} {v : Option V} (ed : ED) (hd : ∀ S w ρ a, HRel S w ρ H.get → FRel S w ρ a n F → Does P S w ρ H.get a o.type o.op v (ed.app H.get H.nx) ed.tch) (hl : ed.ok H.get) (hc : ((ej H.get L && ed.clear L) || ok) = true) : tr P K o L ok n F H (v.getD (.tup [])) (H.app ed) := fun S w ρ a hr hi hF Q' K2 k => by
 obtain ⟨nx, w', ρ', h1, h2, h3⟩ := hd S w ρ a hr hF
 have hr' := h2.hr
 have hi' := hi.eff h2
 rw [← Hp.get_app hl] at hr' hi'
 have hLs : Ls ρ L w w' ∨ ok = true := (vi hc).imp (fun h => by
  simp only [Bool.and_eq_true] at h
  exact we hr h2 h.1 h.2) _root_.id
 have kk := fun x hx => k x S w' ρ' hr' hi' h2.up (od hr h2) hLs hx
 obtain ⟨d, op, ty, ps, af, g⟩ := o
 unfold Oper.wp
 rw [h1 d ps af g]
 cases v with
 | none =>
  subst h3
  exact kk undef qz
 | some v =>
  obtain ⟨x, rfl, h4⟩ := h3
  exact kk x h4
theorem LRel.sub {S : Nat → Prop} {w : World} {ρ : Nat → Option Value} {vs : List V} {xs : List Value} (h : LRel S w ρ vs xs) (i j : Nat) : LRel S w ρ ((vs.drop i).take j) ((xs.drop i).take j) := (h.drop i).take j
theorem zQ {fid : FuncId} {vs : List V} {L : List Nat} {Post : V → Hp → Prop} (i : Nat) (e : TypeId) (sz : Nat) (hv : vs[i]? = some .nils) (k : CallR P K fid (vs.set i (.sl H.nx)) (H.app (.new (.row e sz []))) L Post) : CallR P K fid vs H L Post := fun S w ρ xs hr hi hx => by
 have he := ud e sz hr H.get_free
 have hg : (H.app (.new (.row e sz []))).get = di H.get H.nx (.row e sz []) := Hp.get_app trivial
 have hx' : LRel S w (dS ρ H.nx (.slice none 0 0)) (vs.set i (.sl H.nx)) xs := by
  obtain ⟨x, h1, h2⟩ := hx.get hv
  simp only [VRel] at h2; subst h2
  have := (hx.up he.up).set (i := i) (v := .sl H.nx) (x := .slice none 0 0) (by simp only [VRel]; exact ⟨bq _ _ _, rfl⟩)
  have e2 : xs.set i (.slice none 0 0) = xs := by
   obtain ⟨hl, q6⟩ := List.getElem?_eq_some_iff.1 h1
   rw [← q6]; exact List.set_getElem_self ..
  rw [e2] at this; exact this
 refine (k S w (dS ρ H.nx (.slice none 0 0)) xs (by rw [hg]; exact he.hr) (by rw [hg]; exact hi.eff he) hx').mono fun e w' hh => ?_
 obtain ⟨x, S', ρ', v, H', h1, h2, h3, h4, h5, h6, h7⟩ := hh
 exact ⟨x, S', ρ', v, H', h1, h2, h3, h4, ⟨h5.s, h5.blk, fun i y h => h5.r i y (he.up.r i y h)⟩, h6, fun id hid y b hy hb => h7 id hid y b (he.up.r _ _ hy) hb⟩
theorem gYd {v : V} (i : Nat) (hi : all[i]? = some o) (hc : (!Nat.beq i m && Region.free .any all listed i && (Region.ready .any all listed).contains i) = true) (hy : ∀ S w ρ a, HRel S w ρ H.get → FRel S w ρ a n F → Yld P S w ρ a o.type o.op v) (hw : ch F all o.guard = some true) (h1 : F.puto o.dst (some v) id = F1) (k : Go P K Q (.drw all L m fuel (listed.setIfInBounds i true)) s n F1 H) : Go P K Q (.drw all L m (fuel + 1) listed) s n F H := by
 rw [Fm.puto_eq] at h1; subst h1
 simp only [Bool.and_eq_true, Bool.not_eq_true'] at hc
 exact BO hc.1.1 hi hc.1.2 hc.2 hw hy k
theorem bi {v : V} (i : Nat) (hi : all[i]? = some o) (hrd : Region.ready .any all listed = [i]) (hy : ∀ S w ρ a, HRel S w ρ H.get → FRel S w ρ a n F → Yld P S w ρ a o.type o.op v) (hw : ch F all o.guard = some true) (h1 : F.puto o.dst (some v) id = F1) (k : Go P K Q (.drw all L m fuel (listed.setIfInBounds i true)) s n F1 H) : Go P K Q (.drw all L m (fuel + 1) listed) s n F H := by
 rw [Fm.puto_eq] at h1; subst h1
 exact zY hrd hi hw hy k
theorem gDo {v : Option V} (ed : ED) (hd : ∀ S w ρ a, HRel S w ρ H.get → FRel S w ρ a n F → Does P S w ρ H.get a o.type o.op v (ed.app H.get H.nx) ed.tch) (hl : ed.ok H.get) (hw : ch F all o.guard = some true) (h1 : F.puto o.dst (vr v) id = F1) (h2 : H.ap ed id = H1) (k : Go P K Q (.ops all rest) s n F1 H1) : Go P K Q (.ops all (o :: rest)) s n F H := by
 rw [Fm.puto_eq] at h1; rw [Hp.ap_eq] at h2; subst h1 h2
 exact go_opD hw hd hl k
theorem aD {v : Option V} (i : Nat) (ed : ED) (hi : all[i]? = some o) (hrd : Region.ready .any all listed = [i]) (hd : ∀ S w ρ a, HRel S w ρ H.get → FRel S w ρ a n F → Does P S w ρ H.get a o.type o.op v (ed.app H.get H.nx) ed.tch) (hl : ed.ok H.get) (hw : ch F all o.guard = some true) (hc : ((ej H.get L && ed.clear L) || (listed.setIfInBounds i true).getD m false) = true) (h1 : F.puto o.dst (vr v) id = F1) (h2 : H.ap ed id = H1) (k : Go P K Q (.drw all L m fuel (listed.setIfInBounds i true)) s n F1 H1) : Go P K Q (.drw all L m (fuel + 1) listed) s n F H := by
 rw [Fm.puto_eq] at h1; rw [Hp.ap_eq] at h2; subst h1 h2
 exact vx hrd hi hw hd hl hc k
theorem bj {t e : TypeId} {x y : Operand} {sz by_ id : Nat} {els news els' : List V} {v : V} {ty : TypeId} (hT : TabOk P T) (ht : slB T t = some (e, sz, by_)) (hx : aX F x = some (.sl id)) (ho : H.get id = .row e sz els) (hy : aX F y = some v) (hs : sY H.get sz v = some news) (he : els ++ news = els') (hb : els'.length ≤ 1000000000) :
  ∀ S w ρ a, HRel S w ρ H.get → FRel S w ρ a n F → Does P S w ρ H.get a ty (.call { callee := .builtin .append, args := #[x, y], argTypes := #[t, t] }) (some (.sl H.nx)) ((ED.repl id (.row e sz els')).app H.get H.nx) (ED.repl id (.row e sz els')).tch := by
 subst he
 exact dAp hT ht hx ho hy hs (by simpa using hb)
theorem no {t e : TypeId} {x y : Operand} {sz by_ : Nat} {news els' : List V} {v : V} {ty : TypeId} (hT : TabOk P T) (ht : slB T t = some (e, sz, by_)) (hx : aX F x = some .nils) (hy : aX F y = some v) (hs : sY H.get sz v = some news) (he : news = els') (hb : els'.length ≤ 1000000000) :
  ∀ S w ρ a, HRel S w ρ H.get → FRel S w ρ a n F → Does P S w ρ H.get a ty (.call { callee := .builtin .append, args := #[x, y], argTypes := #[t, t] }) (some (.sl H.nx)) ((ED.new (.row e sz els')).app H.get H.nx) (ED.new (.row e sz els')).tch := by
 subst he
 exact Fd hT ht hx hy hs hb
theorem okR {e : TypeId} {sz : Nat} {els : List V} {id : Nat} {o' : Ob} (ho : H.get id = .row e sz els) : (ED.repl id o').ok H.get := by exact ⟨by rw [ho]; simp, by rw [ho]; simp⟩
theorem okS {e : TypeId} {sz : Nat} {els : List V} {id : Nat} {o' : Ob} (ho : H.get id = .row e sz els) : (ED.set id o').ok H.get := by exact ⟨by rw [ho]; simp, by rw [ho]; simp⟩
theorem dLe (hT : TabOk P T) {t e : TypeId} {x : Operand} {id sz i o : Nat} {els : List V} {v0 v : V} {td : TD} {ty : TypeId} (ht : T.ty t = some td) (hx : aX F x = some (.el id sz i o)) (ho : H.get id = .row e sz els) (hi : els[i]? = some v0) (hv : nq td v0.cells o = some v) :
  ∀ S w ρ a, HRel S w ρ H.get → FRel S w ρ a n F → Does P S w ρ H.get a ty (.load t x) (some v) (ED.nop.app H.get H.nx) ED.nop.tch := fun S w ρ a hr hF => by
 rcases nb (hT.ty _ _ ht) hv with ⟨h1, h2⟩ | ⟨h1, h2, rfl⟩
 ·exact xO hr hF.fr (an hF hx) ho h1 hi h2
 ·exact vO hr hF.fr (an hF hx) ho h1 hi h2
theorem dSe (hT : TabOk P T) {t e : TypeId} {x y : Operand} {id sz i o : Nat} {els els' : List V} {v0 v : V} {td : TD} {ty : TypeId} (ht : T.ty t = some td) (hx : aX F x = some (.el id sz i o)) (hy : aX F y = some v) (ho : H.get id = .row e sz els) (hi : els[i]? = some v0) (hc : (Nat.beq v.cells.length td.size && v.cells.all V.one && Nat.ble (o + td.size) v0.cells.length && (match v0 with | .agg _ => true | v0 => v0.one && v.one)) = true) (he : els.set i (v0.over o v.cells) = els') :
  ∀ S w ρ a, HRel S w ρ H.get → FRel S w ρ a n F → Does P S w ρ H.get a ty (.store t x y) none ((ED.set id (.row e sz els')).app H.get H.nx) (ED.set id (.row e sz els')).tch := fun S w ρ a hr hF => by
 subst he
 simp only [Bool.and_eq_true] at hc
 obtain ⟨⟨⟨h1, h2⟩, h3⟩, h4⟩ := hc
 exact sO hr hF.fr (an hF hx) (an hF hy) ho (hT.ty _ _ ht).size hi (Nat.eq_of_beq_eq_true h1) h2 (Nat.le_of_ble_eq_true h3) (by
  cases v0 with
  | agg cs => exact .inl ⟨cs, rfl⟩
  | _ => simp only [Bool.and_eq_true] at h4; exact .inr ⟨qK h4.1, qK h4.2⟩)
theorem dMk (hT : TabOk P T) {t e : TypeId} {x y : Operand} {m sz : Nat} {z0 : V} {td : TD} {tz : TD} {ty : TypeId} (ht : T.ty t = some tz) (hk : (match tz.kind with | .sl e' => Nat.beq e e' | _ => false) = true) (hte : T.ty e = some td) (hx : aX F x = some (.int .i64 (m : Int))) (hy : aX F y = some (.int .i64 (m : Int))) (hsz : td.size = sz) (hz0 : td.zero = z0) (hc : (Nat.blt 0 td.size && Nat.ble td.bytes 1000) = true) (hm : m ≤ 1000000000) :
  ∀ S w ρ a, HRel S w ρ H.get → FRel S w ρ a n F → Does P S w ρ H.get a ty (.makeSlice t x y) (some (.sl H.nx)) ((ED.new (.row e sz (List.replicate m z0))).app H.get H.nx) (ED.new (.row e sz (List.replicate m z0))).tch := fun S w ρ a hr hF => by
 subst hsz hz0
 simp only [Bool.and_eq_true, Nat.blt_eq] at hc
 obtain ⟨z, h1, h2, h3, h4⟩ := (hT.ty _ _ hte).info
 have hsl : P.underlying t = some (.slice e) := by
  split at hk
  ·rename_i e' he'
   have := Nat.eq_of_beq_eq_true hk
   subst this
   exact (hT.ty _ _ ht).sl he'
  ·cases hk
 have hb : td.bytes ≤ 1000 := Nat.le_of_ble_eq_true hc.2
 exact zt hr hF.fr H.get_free (an hF hx) (an hF hy) hsl h1 h3 hc.1 h4 h2 (Nat.le_trans (Nat.mul_le_mul hb hm) (by decide)) (by simp only [maxLen]; omega)
theorem gCn {PL : List Nat} {fid : FuncId} {args : List Operand} {tys : Array TypeId} {vs us : List V} {H0 : Hp} {Post : V → Hp → Prop} {d : Option Tmp} {ty : TypeId} {ps : String} {af : Array Edge} {g : Option (Nat × Bool)} (i : Nat) (e : TypeId) (sz : Nat) (hS : bZ PL P fid us H0 Post) (σ : List Nat) (he : dP P fid = true) (hw : ch F all g = some true) (hv : gE F args = some vs) (hvi : vs[i]? = some .nils) (h2 : H.ap (.new (.row e sz [])) id = H1) (hs : aC (vs.set i (.sl H.nx)) (renL σ us)) (hH : leH σ H1 H0.es) (hc : (dr σ && Nat.beq σ.length H0.nx && σ.all fun i => Nat.blt i H1.nx) = true)
  (k : ∀ v H', Post v H' → Go P K Q (.ops all rest) s n (F.seto d (some (v.ren (sgN PL H1.nx H0.get H'.nx σ 0)))) (jN PL H1 σ H0 H')) : Go P K Q (.ops all (⟨d, .call { callee := .value (.func fid), args := args.toArray, argTypes := tys }, ty, ps, af, g⟩ :: rest)) s n F H := by
 rw [Hp.ap_eq] at h2; subst h2
 exact go_opC (o := ⟨d, .call { callee := .value (.func fid), args := args.toArray, argTypes := tys }, ty, ps, af, g⟩) he rfl hw hv (zQ i e sz hvi (qy hS σ hs hH hc [] (by simp [ej]))) fun v' H'' ⟨v, H', hP, e1, e2⟩ => by subst e1 e2; exact k v H' hP
end
abbrev qS (f : FuncId) (a : List V) (r : V) : Prop := ot Tryz.prog f a r
abbrev qLG (K : Ctx) (fn : Func) (Q : V → Hp → Prop) (c : Code) (s : List EI) (n : Nat) (F : Fm) (H : Hp) : Prop := Go Tryz.prog K (bodyPost Tryz.prog fn (SP K Q)) (.code c) s n F H
section
variable {P : Program} {K : Ctx} {Q : Exit → Act → World → Prop} {p : EP} {s : List EI} {n : Nat} {F F1 F2 F3 F4 : Fm} {H : Hp}
theorem qBh {e : Bool} {A B C D : Prop} (d : Nat) (hd : F.get d = some (.bool e)) (h1 : F.put d (some (.bool true)) id = F1) (h2 : F.put d (some (.bool false)) id = F2) (h : (A → C) ∧ (B → D)) (a : e = true → A) (b : e = false → B) (kT : C → Go P K Q p s n F1 H) (kF : D → Go P K Q p s n F2 H) : Go P K Q p s n F H := gB d hd h1 h2 (fun z => kT (h.1 (a z))) (fun z => kF (h.2 (b z)))
theorem qBi {e : Bool} {C D : Prop} (d : Nat) (hd : F.get d = some (.bool e)) (h1 : F.put d (some (.bool true)) id = F1) (h2 : F.put d (some (.bool false)) id = F2) (h : (e = true → C) ∧ (e = false → D)) (kT : C → Go P K Q p s n F1 H) (kF : D → Go P K Q p s n F2 H) : Go P K Q p s n F H := qBh d hd h1 h2 h id id kT kF
theorem qBe {α : Type} [BEq α] [LawfulBEq α] {x y : α} {C D : Prop} (d : Nat) (hd : F.get d = some (.bool (x == y))) (h1 : F.put d (some (.bool true)) id = F1) (h2 : F.put d (some (.bool false)) id = F2) (h : (x = y → C) ∧ (x ≠ y → D)) (kT : C → Go P K Q p s n F1 H) (kF : D → Go P K Q p s n F2 H) : Go P K Q p s n F H := qBh d hd h1 h2 h eq_of_beq ne_of_beq_false kT kF
theorem qBd {x : Prop} [Decidable x] {C D : Prop} (d : Nat) (hd : F.get d = some (.bool (decide x))) (h1 : F.put d (some (.bool true)) id = F1) (h2 : F.put d (some (.bool false)) id = F2) (h : (x → C) ∧ (¬ x → D)) (kT : C → Go P K Q p s n F1 H) (kF : D → Go P K Q p s n F2 H) : Go P K Q p s n F H := qBh d hd h1 h2 h of_decide_eq_true of_decide_eq_false kT kF
theorem qBhZ {e : Bool} {A B C D : Prop} (d i : Nat) (hd : F.get d = some (.bool e)) (hi : Fm.get (F.set d none) i = some (.bool e)) (h1 : F.put d (some (.bool true)) (fun F => F.put i (some (.bool true)) id) = F3) (h2 : F.put d (some (.bool false)) (fun F => F.put i (some (.bool false)) id) = F4) (h : (A → C) ∧ (B → D)) (a : e = true → A) (b : e = false → B) (kT : C → Go P K Q p s n F3 H) (kF : D → Go P K Q p s n F4 H) : Go P K Q p s n F H := by
 rw [Fm.put_eq, Fm.put_eq] at h1 h2
 have w (v : V) : Fm.get (F.set d (some v)) i = some (.bool e) := by
  rw [Fm.get_eq, List.getElem?_set] at hi ⊢
  split at hi
  · split at hi <;> simp at hi
  · rename_i e; rw [if_neg e]; exact hi
 exact gB d hd (Fm.put_eq ..) (Fm.put_eq ..) (fun z => gT i (w _) z ((Fm.put_eq ..).trans h1) (kT (h.1 (a z)))) (fun z => gF i (w _) z ((Fm.put_eq ..).trans h2) (kF (h.2 (b z))))
theorem qBiZ {e : Bool} {C D : Prop} (d i : Nat) (hd : F.get d = some (.bool e)) (hi : Fm.get (F.set d none) i = some (.bool e)) (h1 : F.put d (some (.bool true)) (fun F => F.put i (some (.bool true)) id) = F3) (h2 : F.put d (some (.bool false)) (fun F => F.put i (some (.bool false)) id) = F4) (h : (e = true → C) ∧ (e = false → D)) (kT : C → Go P K Q p s n F3 H) (kF : D → Go P K Q p s n F4 H) : Go P K Q p s n F H := qBhZ d i hd hi h1 h2 h id id kT kF
theorem qBeZ {α : Type} [BEq α] [LawfulBEq α] {x y : α} {C D : Prop} (d i : Nat) (hd : F.get d = some (.bool (x == y))) (hi : Fm.get (F.set d none) i = some (.bool (x == y))) (h1 : F.put d (some (.bool true)) (fun F => F.put i (some (.bool true)) id) = F3) (h2 : F.put d (some (.bool false)) (fun F => F.put i (some (.bool false)) id) = F4) (h : (x = y → C) ∧ (x ≠ y → D)) (kT : C → Go P K Q p s n F3 H) (kF : D → Go P K Q p s n F4 H) : Go P K Q p s n F H := qBhZ d i hd hi h1 h2 h eq_of_beq ne_of_beq_false kT kF
theorem qBdZ {x : Prop} [Decidable x] {C D : Prop} (d i : Nat) (hd : F.get d = some (.bool (decide x))) (hi : Fm.get (F.set d none) i = some (.bool (decide x))) (h1 : F.put d (some (.bool true)) (fun F => F.put i (some (.bool true)) id) = F3) (h2 : F.put d (some (.bool false)) (fun F => F.put i (some (.bool false)) id) = F4) (h : (x → C) ∧ (¬ x → D)) (kT : C → Go P K Q p s n F3 H) (kF : D → Go P K Q p s n F4 H) : Go P K Q p s n F H := qBhZ d i hd hi h1 h2 h of_decide_eq_true of_decide_eq_false kT kF
end
section
variable {K : Ctx} {Q : Exit → Act → World → Prop} {s : List EI} {n : Nat} {F : Fm} {H H0 H1 : Hp} {all : Array Oper} {rest : List Oper} {L PL : List Nat} {m fuel : Nat} {listed : Array Bool} {fid : FuncId} {args : List Operand} {tys : Array TypeId} {vs us : List V} {v1 : V} {d : Option Tmp} {ty : TypeId} {ps : String} {af : Array Edge} {g : Option (Nat × Bool)}
theorem gCZ (hS : bZ PL Tryz.prog fid us H0 (fun v H' => v = v1 ∧ H' = H1)) (σ : List Nat) (hH : leH σ H H0.es) (k : Go Tryz.prog K Q (.ops all rest) s n (F.seto d (some (v1.ren (sgN PL H.nx H0.get H1.nx σ 0)))) (jN PL H σ H0 H1)) (he : dP Tryz.prog fid = true := by kernel_rfl) (hw : ch F all g = some true := by rfl) (hv : gE F args = some vs := by rfl) (hs : aC vs (renL σ us) := by exact .rfl) (hc : (dr σ && Nat.beq σ.length H0.nx && σ.all fun i => Nat.blt i H.nx) = true := by rfl) : Go Tryz.prog K Q (.ops all (⟨d, .call { callee := .value (.func fid), args := args.toArray, argTypes := tys }, ty, ps, af, g⟩ :: rest)) s n F H := gC hS σ he hw hv hs hH hc fun _ _ ⟨e1, e2⟩ => by subst e1 e2; exact k
theorem gCY (hS : bZ PL Tryz.prog fid us H0 (fun v H' => v = v1 ∧ H' = H1)) (σ : List Nat) (k : Go Tryz.prog K Q (.ops all rest) s n (F.seto d (some (v1.ren (sgN PL H.nx H0.get H1.nx σ 0)))) (jN PL H σ H0 H1)) (he : dP Tryz.prog fid = true := by kernel_rfl) (hw : ch F all g = some true := by rfl) (hv : gE F args = some vs := by rfl) (hs : aC vs (renL σ us) := by exact .rfl) (hH : leH σ H H0.es := by exact ⟨⟨_, rfl, ⟨rfl, aC.rfl⟩⟩, trivial⟩) (hc : (dr σ && Nat.beq σ.length H0.nx && σ.all fun i => Nat.blt i H.nx) = true := by rfl) : Go Tryz.prog K Q (.ops all (⟨d, .call { callee := .value (.func fid), args := args.toArray, argTypes := tys }, ty, ps, af, g⟩ :: rest)) s n F H := gCZ hS σ hH k he hw hv hs hc
theorem gDCZ (i : Nat) (hS : bZ PL Tryz.prog fid us H0 (fun v H' => v = v1 ∧ H' = H1)) (σ : List Nat) (hi : all[i]? = some ⟨d, .call { callee := .value (.func fid), args := args.toArray, argTypes := tys }, ty, ps, af, g⟩) (hH : leH σ H H0.es) (k : Go Tryz.prog K Q (.drw all L m fuel (listed.setIfInBounds i true)) s n (F.seto d (some (v1.ren (sgN PL H.nx H0.get H1.nx σ 0)))) (jN PL H σ H0 H1)) (he : dP Tryz.prog fid = true := by kernel_rfl) (hrd : Region.ready .any all listed = [i] := by kernel_rfl) (hw : ch F all g = some true := by rfl) (hv : gE F args = some vs := by rfl) (hs : aC vs (renL σ us) := by exact .rfl) (hc : (dr σ && Nat.beq σ.length H0.nx && σ.all fun i => Nat.blt i H.nx) = true := by kernel_rfl) (hL : (ej H.get L && L.all fun i => !σ.contains i) = true := by rfl) : Go Tryz.prog K Q (.drw all L m (fuel + 1) listed) s n F H := gDC i hS σ he hi hrd hw hv hs hH hc hL fun _ _ ⟨e1, e2⟩ => by subst e1 e2; exact k
theorem gDCY (i : Nat) (hS : bZ PL Tryz.prog fid us H0 (fun v H' => v = v1 ∧ H' = H1)) (σ : List Nat) (hi : all[i]? = some ⟨d, .call { callee := .value (.func fid), args := args.toArray, argTypes := tys }, ty, ps, af, g⟩) (k : Go Tryz.prog K Q (.drw all L m fuel (listed.setIfInBounds i true)) s n (F.seto d (some (v1.ren (sgN PL H.nx H0.get H1.nx σ 0)))) (jN PL H σ H0 H1)) (he : dP Tryz.prog fid = true := by kernel_rfl) (hrd : Region.ready .any all listed = [i] := by kernel_rfl) (hw : ch F all g = some true := by rfl) (hv : gE F args = some vs := by rfl) (hs : aC vs (renL σ us) := by exact .rfl) (hH : leH σ H H0.es := by exact ⟨⟨_, rfl, ⟨rfl, aC.rfl⟩⟩, trivial⟩) (hc : (dr σ && Nat.beq σ.length H0.nx && σ.all fun i => Nat.blt i H.nx) = true := by kernel_rfl) (hL : (ej H.get L && L.all fun i => !σ.contains i) = true := by rfl) : Go Tryz.prog K Q (.drw all L m (fuel + 1) listed) s n F H := gDCZ i hS σ hi hH k he hrd hw hv hs hc hL
end
theorem pqq {v : V} : ∃ u, some v = some u ∧ bv u v := ⟨v, rfl, bv.rfl⟩
theorem pq1 {a0 : V} : (∃ u, some a0 = some u ∧ bv u a0) ∧ True := ⟨pqq, trivial⟩
theorem pq2 {a0 a1 : V} : (∃ u, some a0 = some u ∧ bv u a0) ∧ (∃ u, some a1 = some u ∧ bv u a1) ∧ True := ⟨pqq, pqq, trivial⟩
theorem pq3 {a0 a1 a2 : V} : (∃ u, some a0 = some u ∧ bv u a0) ∧ (∃ u, some a1 = some u ∧ bv u a1) ∧ (∃ u, some a2 = some u ∧ bv u a2) ∧ True := ⟨pqq, pqq, pqq, trivial⟩
theorem pq4 {a0 a1 a2 a3 : V} : (∃ u, some a0 = some u ∧ bv u a0) ∧ (∃ u, some a1 = some u ∧ bv u a1) ∧ (∃ u, some a2 = some u ∧ bv u a2) ∧ (∃ u, some a3 = some u ∧ bv u a3) ∧ True := ⟨pqq, pqq, pqq, pqq, trivial⟩
theorem pq5 {a0 a1 a2 a3 a4 : V} : (∃ u, some a0 = some u ∧ bv u a0) ∧ (∃ u, some a1 = some u ∧ bv u a1) ∧ (∃ u, some a2 = some u ∧ bv u a2) ∧ (∃ u, some a3 = some u ∧ bv u a3) ∧ (∃ u, some a4 = some u ∧ bv u a4) ∧ True := ⟨pqq, pqq, pqq, pqq, pqq, trivial⟩
theorem pq6 {a0 a1 a2 a3 a4 a5 : V} : (∃ u, some a0 = some u ∧ bv u a0) ∧ (∃ u, some a1 = some u ∧ bv u a1) ∧ (∃ u, some a2 = some u ∧ bv u a2) ∧ (∃ u, some a3 = some u ∧ bv u a3) ∧ (∃ u, some a4 = some u ∧ bv u a4) ∧ (∃ u, some a5 = some u ∧ bv u a5) ∧ True := ⟨pqq, pqq, pqq, pqq, pqq, pqq, trivial⟩
theorem pq7 {a0 a1 a2 a3 a4 a5 a6 : V} : (∃ u, some a0 = some u ∧ bv u a0) ∧ (∃ u, some a1 = some u ∧ bv u a1) ∧ (∃ u, some a2 = some u ∧ bv u a2) ∧ (∃ u, some a3 = some u ∧ bv u a3) ∧ (∃ u, some a4 = some u ∧ bv u a4) ∧ (∃ u, some a5 = some u ∧ bv u a5) ∧ (∃ u, some a6 = some u ∧ bv u a6) ∧ True := ⟨pqq, pqq, pqq, pqq, pqq, pqq, pqq, trivial⟩
theorem pq8 {a0 a1 a2 a3 a4 a5 a6 a7 : V} : (∃ u, some a0 = some u ∧ bv u a0) ∧ (∃ u, some a1 = some u ∧ bv u a1) ∧ (∃ u, some a2 = some u ∧ bv u a2) ∧ (∃ u, some a3 = some u ∧ bv u a3) ∧ (∃ u, some a4 = some u ∧ bv u a4) ∧ (∃ u, some a5 = some u ∧ bv u a5) ∧ (∃ u, some a6 = some u ∧ bv u a6) ∧ (∃ u, some a7 = some u ∧ bv u a7) ∧ True := ⟨pqq, pqq, pqq, pqq, pqq, pqq, pqq, pqq, trivial⟩
theorem pqo {H : Hp} {x : Option Nat} {i : Nat} {t : TypeId} {cs : List V} (h1 : x = some i) (h2 : H.get i = .var t cs) : ∃ i, x = some i ∧ iH (H.get i) (.var t cs) := ⟨i, h1, by rw [h2]; exact ⟨rfl, aC.rfl⟩⟩
theorem pqo1 {H : Hp} {x0 : Option Nat} {i0 : Nat} {t0 : TypeId} {c0 : List V} (h0 : x0 = some i0) (k0 : H.get i0 = .var t0 c0) : (∃ i, x0 = some i ∧ iH (H.get i) (.var t0 c0)) ∧ True := ⟨pqo h0 k0, trivial⟩
theorem pqo2 {H : Hp} {x0 : Option Nat} {i0 : Nat} {t0 : TypeId} {c0 : List V} (h0 : x0 = some i0) (k0 : H.get i0 = .var t0 c0) {x1 : Option Nat} {i1 : Nat} {t1 : TypeId} {c1 : List V} (h1 : x1 = some i1) (k1 : H.get i1 = .var t1 c1) : (∃ i, x0 = some i ∧ iH (H.get i) (.var t0 c0)) ∧ (∃ i, x1 = some i ∧ iH (H.get i) (.var t1 c1)) ∧ True := ⟨pqo h0 k0, pqo h1 k1, trivial⟩
theorem pqo3 {H : Hp} {x0 : Option Nat} {i0 : Nat} {t0 : TypeId} {c0 : List V} (h0 : x0 = some i0) (k0 : H.get i0 = .var t0 c0) {x1 : Option Nat} {i1 : Nat} {t1 : TypeId} {c1 : List V} (h1 : x1 = some i1) (k1 : H.get i1 = .var t1 c1) {x2 : Option Nat} {i2 : Nat} {t2 : TypeId} {c2 : List V} (h2 : x2 = some i2) (k2 : H.get i2 = .var t2 c2) : (∃ i, x0 = some i ∧ iH (H.get i) (.var t0 c0)) ∧ (∃ i, x1 = some i ∧ iH (H.get i) (.var t1 c1)) ∧ (∃ i, x2 = some i ∧ iH (H.get i) (.var t2 c2)) ∧ True := ⟨pqo h0 k0, pqo h1 k1, pqo h2 k2, trivial⟩
theorem pqo4 {H : Hp} {x0 : Option Nat} {i0 : Nat} {t0 : TypeId} {c0 : List V} (h0 : x0 = some i0) (k0 : H.get i0 = .var t0 c0) {x1 : Option Nat} {i1 : Nat} {t1 : TypeId} {c1 : List V} (h1 : x1 = some i1) (k1 : H.get i1 = .var t1 c1) {x2 : Option Nat} {i2 : Nat} {t2 : TypeId} {c2 : List V} (h2 : x2 = some i2) (k2 : H.get i2 = .var t2 c2) {x3 : Option Nat} {i3 : Nat} {t3 : TypeId} {c3 : List V} (h3 : x3 = some i3) (k3 : H.get i3 = .var t3 c3) : (∃ i, x0 = some i ∧ iH (H.get i) (.var t0 c0)) ∧ (∃ i, x1 = some i ∧ iH (H.get i) (.var t1 c1)) ∧ (∃ i, x2 = some i ∧ iH (H.get i) (.var t2 c2)) ∧ (∃ i, x3 = some i ∧ iH (H.get i) (.var t3 c3)) ∧ True := ⟨pqo h0 k0, pqo h1 k1, pqo h2 k2, pqo h3 k3, trivial⟩
abbrev xA (c : Code) : Code := cB (cB c)
abbrev xB (c : Code) : Code := cE (cB c)
abbrev xC (c : Code) : Code := xB (xB c)
abbrev xD (c : Code) : Code := xC (xC c)
abbrev xE (c : Code) : Code := cK (cB c)
abbrev xF (c : Code) : Code := cA (xA c)
abbrev xG (c : Code) : Code := xE (xF c)
abbrev xH (c : Code) : Code := xA (cB c)
abbrev xI (c : Code) : Code := cL (xG c)
abbrev xJ (c : Code) : Code := xA (xA c)
abbrev xK (c : Code) : Code := cT (cB c)
abbrev xL (c : Code) : Code := xD (xD c)
abbrev xM (c : Code) : Code := cK (xA c)
abbrev xN (c : Code) : Code := xB (xG c)
set_option maxHeartbeats 4000000
def wY (p0 : List UInt8) (r0 : Int) : Prop := qS 80 [.str p0] (.int .i64 r0)
def rc (p0 : List UInt8) (r0 : Int) : Prop := qS 68 [.str p0] (.int .i64 r0)
def iD (p0 p1 r0 : Int) : Prop := qS 23 [.int .i64 p0, .int .i64 p1] (.int .i64 r0)
def eD (p0 p1 p2 r0 : Int) : Prop := qS 43 [.int .i64 p0, .int .i64 p1, .int .i64 p2] (.int .i64 r0)
def jD (p0 : Int) (r0 : Bool) : Prop := qS 83 [.int .i64 p0] (.bool r0)
def dJ (p0 : Int) (r0 : Bool) : Prop := qS 82 [.int .i64 p0] (.bool r0)
def mw (p0 : Int) (r0 : Bool) : Prop := qS 84 [.int .i64 p0] (.bool r0)
def io (p0 : List UInt8) (r0 : Bool) : Prop := qS 81 [.str p0] (.bool r0)
def ms (p0 : Int) (p1 : List UInt8) (r0 : Bool) : Prop := qS 53 [.int .i64 p0, .str p1] (.bool r0)
def nh (p0 : Tree) (p1 : Int) (r0 : Bool) : Prop := qS 54 [.agg (ae p0), .int .i64 p1] (.bool r0)
def ff (p0 : Tree) (r0 : Bool) : Prop := qS 27 [.agg (ae p0)] (.bool r0)
def ev (p0 p1 r0 : Int) : Prop := qS 63 [.int .i64 p0, .int .i64 p1] (.int .i64 r0)
def cl (p0 p1 p2 r0 : Int) : Prop := qS 93 [.int .i64 p0, .int .i64 p1, .int .i64 p2] (.int .i64 r0)
def fz (p0 : Int) (r0 : Bool) : Prop := qS 96 [.int .i64 p0] (.bool r0)
def dW (p0 : Int) (r0 : Bool) : Prop := qS 95 [.int .i64 p0] (.bool r0)
def fw (p0 : Int) (r0 : Bool) : Prop := qS 97 [.int .i64 p0] (.bool r0)
def fR (p0 : List UInt8) (r0 : Bool) : Prop := qS 94 [.str p0] (.bool r0)
def gU (p0 : Int) (p1 : List UInt8) (r0 : Bool) : Prop := qS 64 [.int .i64 p0, .str p1] (.bool r0)
def kS (p0 : Tree) (p1 p2 : Int) (r0 : Bool) : Prop := qS 65 [.agg (ae p0), .int .i64 p1, .int .i64 p2] (.bool r0)
def dV (p0 : Tree) (r0 : Bool) : Prop := qS 39 [.agg (ae p0)] (.bool r0)
def aQ (m : Nat) (p1 : Int) (a b c : Nat) (d r0 : Int) : Prop := ∀ (K : Ctx), aq K [] → qLG K Tryz.f23 (fun u _ => u = .int .i64 r0) (xJ (ac Tryz.f23)) [] 69 (mkF 69 0 [(1, .int .i64 p1), (5, .int .i64 (a : Int)), (6, .int .i64 d), (7, .int .i64 (b : Int)), (8, .int .i64 (c : Int))]) ⟨0, []⟩
def jE (m : Nat) (p0 p1 : Int) (a : Bool) (r0 : Int) : Prop := ∀ (K : Ctx), aq K [] → qLG K Tryz.f23 (fun u _ => u = .int .i64 r0) (cB (xD (xN (cB (ac Tryz.f23))))) [.blk 0, .seq (xJ (ac Tryz.f23))] 69 (mkF 69 0 [(1, .int .i64 p1), (5, .int .i64 0), (6, .int .i64 0), (7, .int .i64 1), (8, .int .i64 0), (9, .int .i64 p0), (22, .bool a)]) ⟨0, []⟩
def jB (m : Nat) (p1 : Int) (a b c : Nat) (d r0 : Int) : Prop := ∀ (K : Ctx), aq K [] → qLG K Tryz.f23 (fun u _ => u = .int .i64 r0) (xA (xH (ac Tryz.f23))) [] 69 (mkF 69 0 [(1, .int .i64 p1), (5, .int .i64 (a : Int)), (6, .int .i64 d), (7, .int .i64 (b : Int)), (8, .int .i64 (c : Int))]) ⟨0, []⟩
theorem tO (m : Nat) (p0 p1 r0 : Int) (h : ((p0 = 1) → ∃ a, eD p1 0 3 a ∧ a = r0) ∧ ((p0 ≠ 1) → ((p0 = 2) → aQ m p1 2 6 2 (-1) r0) ∧ ((p0 ≠ 2) → ((p0 = 16) → aQ m p1 0 3 0 (-1) r0) ∧ ((p0 ≠ 16) → ((p0 = 18) → aQ m p1 1 2 0 (-1) r0) ∧ ((p0 ≠ 18) → ((p0 = 3) → aQ m p1 1 3 0 1 r0) ∧ ((p0 ≠ 3) → ((p0 = 4) → jE m p0 p1 true r0) ∧ ((p0 ≠ 4) → ((p0 = 8) → jE m p0 p1 true r0) ∧ ((p0 ≠ 8) → jE m p0 p1 (p0 == 22) r0)))))))) : iD p0 p1 r0 := by
 refine ⟨rfl, rfl, ?_⟩
 refine am 69 [] Tryz.func23 rfl rfl rfl (aL rfl) fun K hK => ?_
 refine gR 30 rfl <| qBeZ 10 11 rfl rfl rfl rfl h (fun h => ?_) fun h => ?_
 refine gR 4 rfl ?_
 obtain ⟨a, hs17, h⟩ := h
 refine gC0 hs17 (by kernel_rfl) rfl rfl .rfl rfl <| gR 6 rfl ?_
 subst h
 exact go_end ab (rs := [.tmp 4]) rfl rfl rfl
 refine gR 7 rfl <| qBeZ 14 15 rfl rfl rfl rfl h (fun h => ?_) fun h => ?_
 exact gR 9 rfl <| gJ (h K hK) [] [] rfl hK pq5 trivial rfl
 refine gR 7 rfl <| qBeZ 16 17 rfl rfl rfl rfl h (fun h => ?_) fun h => ?_
 exact gR 9 rfl <| gJ (h K hK) [] [] rfl hK pq5 trivial rfl
 refine gR 7 rfl <| qBeZ 18 19 rfl rfl rfl rfl h (fun h => ?_) fun h => ?_
 exact gR 9 rfl <| gJ (h K hK) [] [] rfl hK pq5 trivial rfl
 refine gR 7 rfl <| qBeZ 20 21 rfl rfl rfl rfl h (fun h => ?_) fun h => ?_
 exact gR 8 rfl <| gJ (h K hK) [] [] rfl hK pq5 trivial rfl
 refine gR 8 rfl <| qBeZ 22 23 rfl rfl rfl rfl h (fun h => ?_) fun h => ?_
 exact gR 3 rfl <| gJ (h K hK) [] [] rfl hK pq7 trivial rfl
 refine gR 7 rfl <| qBeZ 22 24 rfl rfl rfl rfl h (fun h => ?_) fun h => ?_
 exact gR 3 rfl <| gJ (h K hK) [] [] rfl hK pq7 trivial rfl
 exact gR 6 rfl <| gJ (h K hK) [] [] rfl hK pq7 trivial rfl
theorem sA (m : Nat) (p1 : Int) (b c d : Nat) (a r0 : Int) (h : ((0 ≤ a) → ((a < p1) → (-1) = r0) ∧ ((¬ a < p1) → jB m p1 b c d a r0)) ∧ ((¬ 0 ≤ a) → jB m p1 b c d a r0)) : aQ (m + 1) p1 b c d a r0 := by
 intro K hK
 refine gR 6 rfl <| qBdZ 47 46 rfl rfl rfl rfl h (fun h => ?_) fun h => ?_
 refine gR 6 rfl <| qBd 51 rfl rfl rfl h (fun h => ?_) fun h => ?_
 refine gR 8 rfl ?_
 subst h
 exact go_end ab (rs := [.tmp 4]) rfl rfl rfl
 exact gR 3 rfl <| gJ (h K hK) [] [] rfl hK pq5 trivial rfl
 exact gR 9 rfl <| gJ (h K hK) [] [] rfl hK pq5 trivial rfl
theorem sU (m : Nat) (p0 p1 : Int) (a : Bool) (r0 : Int) (h : ((a = true) → aQ m p1 1 2 0 1 r0) ∧ ((a = false) → ((p0 = 17) → aQ m p1 1 0 0 1 r0) ∧ ((p0 ≠ 17) → ((p0 = 19) → aQ m p1 3 3 0 3 r0) ∧ ((p0 ≠ 19) → ((p0 = 20) → aQ m p1 2 4 0 2 r0) ∧ ((p0 ≠ 20) → ((p0 = 21) → aQ m p1 2 1 0 2 r0) ∧ ((p0 ≠ 21) → ((p0 = 5) → aQ m p1 0 1 0 0 r0) ∧ ((p0 ≠ 5) → ((p0 = 6) → aQ m p1 0 1 0 0 r0) ∧ ((p0 ≠ 6) → ((p0 = 7) → aQ m p1 0 1 0 0 r0) ∧ ((p0 ≠ 7) → ((p0 = 9) → aQ m p1 0 1 0 0 r0) ∧ ((p0 ≠ 9) → ((p0 = 10) → aQ m p1 0 1 0 0 r0) ∧ ((p0 ≠ 10) → ((p0 = 11) → aQ m p1 0 1 0 0 r0) ∧ ((p0 ≠ 11) → ((p0 = 12) → aQ m p1 0 1 0 0 r0) ∧ ((p0 ≠ 12) → ((p0 = 13) → aQ m p1 0 1 0 0 r0) ∧ ((p0 ≠ 13) → ((p0 = 14) → aQ m p1 0 1 0 0 r0) ∧ ((p0 ≠ 14) → ((p0 = 15) → aQ m p1 0 1 0 0 r0) ∧ ((p0 ≠ 15) → (-1) = r0)))))))))))))))) : jE (m + 1) p0 p1 a r0 := by
 intro K hK
 refine qBi 22 rfl rfl rfl h (fun h => ?_) fun h => ?_
 exact gR 8 rfl <| gJ (h K hK) [] [] rfl hK pq5 trivial rfl
 refine gR 7 rfl <| qBeZ 26 27 rfl rfl rfl rfl h (fun h => ?_) fun h => ?_
 exact gR 8 rfl <| gJ (h K hK) [] [] rfl hK pq5 trivial rfl
 refine gR 7 rfl <| qBeZ 28 29 rfl rfl rfl rfl h (fun h => ?_) fun h => ?_
 exact gR 8 rfl <| gJ (h K hK) [] [] rfl hK pq5 trivial rfl
 refine gR 7 rfl <| qBeZ 30 31 rfl rfl rfl rfl h (fun h => ?_) fun h => ?_
 exact gR 8 rfl <| gJ (h K hK) [] [] rfl hK pq5 trivial rfl
 refine gR 7 rfl <| qBeZ 32 33 rfl rfl rfl rfl h (fun h => ?_) fun h => ?_
 exact gR 8 rfl <| gJ (h K hK) [] [] rfl hK pq5 trivial rfl
 refine gR 8 rfl <| qBeZ 34 35 rfl rfl rfl rfl h (fun h => ?_) fun h => ?_
 exact gR 7 rfl <| gJ (h K hK) [] [] rfl hK pq5 trivial rfl
 refine gR 7 rfl <| qBeZ 34 36 rfl rfl rfl rfl h (fun h => ?_) fun h => ?_
 exact gR 7 rfl <| gJ (h K hK) [] [] rfl hK pq5 trivial rfl
 refine gR 7 rfl <| qBeZ 34 37 rfl rfl rfl rfl h (fun h => ?_) fun h => ?_
 exact gR 7 rfl <| gJ (h K hK) [] [] rfl hK pq5 trivial rfl
 refine gR 7 rfl <| qBeZ 34 38 rfl rfl rfl rfl h (fun h => ?_) fun h => ?_
 exact gR 7 rfl <| gJ (h K hK) [] [] rfl hK pq5 trivial rfl
 refine gR 7 rfl <| qBeZ 34 39 rfl rfl rfl rfl h (fun h => ?_) fun h => ?_
 exact gR 7 rfl <| gJ (h K hK) [] [] rfl hK pq5 trivial rfl
 refine gR 7 rfl <| qBeZ 34 40 rfl rfl rfl rfl h (fun h => ?_) fun h => ?_
 exact gR 7 rfl <| gJ (h K hK) [] [] rfl hK pq5 trivial rfl
 refine gR 7 rfl <| qBeZ 34 41 rfl rfl rfl rfl h (fun h => ?_) fun h => ?_
 exact gR 7 rfl <| gJ (h K hK) [] [] rfl hK pq5 trivial rfl
 refine gR 7 rfl <| qBeZ 34 42 rfl rfl rfl rfl h (fun h => ?_) fun h => ?_
 exact gR 7 rfl <| gJ (h K hK) [] [] rfl hK pq5 trivial rfl
 refine gR 7 rfl <| qBeZ 34 43 rfl rfl rfl rfl h (fun h => ?_) fun h => ?_
 exact gR 7 rfl <| gJ (h K hK) [] [] rfl hK pq5 trivial rfl
 refine gR 6 rfl <| qBeZ 34 44 rfl rfl rfl rfl h (fun h => ?_) fun h => ?_
 exact gR 4 rfl <| gJ (h K hK) [] [] rfl hK pq5 trivial rfl
 refine gR 9 rfl ?_
 subst h
 exact go_end ab (rs := [.tmp 4]) rfl rfl rfl
theorem sx (m : Nat) (p1 : Int) (c b a : Nat) (d r0 : Int) (h : ((d < 0) → (((a : Int) < p1) → InI (p1 - (a : Int)) ∧ InI ((p1 - (a : Int)) - 1) ∧ InI ((b : Int) + ((p1 - (a : Int)) - 1)) ∧ ∃ e, eD p1 (c : Int) ((b : Int) + ((p1 - (a : Int)) - 1)) e ∧ e = r0) ∧ ((¬ (a : Int) < p1) → ∃ f, eD p1 (c : Int) (b : Int) f ∧ f = r0)) ∧ ((¬ d < 0) → ∃ g, eD p1 (c : Int) (b : Int) g ∧ g = r0)) : jB (m + 1) p1 c b a d r0 := by
 intro K hK
 refine gR 6 rfl <| qBdZ 54 53 rfl rfl rfl rfl h (fun h => ?_) fun h => ?_
 refine gR 6 rfl <| qBd 58 rfl rfl rfl h (fun h => ?_) fun h => ?_
 refine gR 5 rfl ?_
 obtain ⟨hb, h⟩ := h
 refine gR 1 rfl <| gV 62 (.int .i64 (p1 - (a : Int))) rfl (ax hb rfl) rfl ?_
 obtain ⟨hb, h⟩ := h
 refine gR 1 rfl <| gV 63 (.int .i64 ((p1 - (a : Int)) - 1)) rfl (ax hb rfl) rfl ?_
 obtain ⟨hb, h⟩ := h
 refine gR 1 rfl <| gV 64 (.int .i64 ((b : Int) + ((p1 - (a : Int)) - 1))) rfl (ax hb rfl) rfl <| gR 8 rfl ?_
 obtain ⟨e, hs18, h⟩ := h
 refine gC0 hs18 (by kernel_rfl) rfl rfl .rfl rfl <| gR 4 rfl ?_
 subst h
 exact go_end ab (rs := [.tmp 4]) rfl rfl rfl
 refine gR 8 rfl ?_
 obtain ⟨f, hs19, h⟩ := h
 refine gC0 hs19 (by kernel_rfl) rfl rfl .rfl rfl <| gR 4 rfl ?_
 subst h
 exact go_end ab (rs := [.tmp 4]) rfl rfl rfl
 refine gR 14 rfl ?_
 obtain ⟨g, hs20, h⟩ := h
 refine gC0 hs20 (by kernel_rfl) rfl rfl .rfl rfl <| gR 4 rfl ?_
 subst h
 exact go_end ab (rs := [.tmp 4]) rfl rfl rfl
theorem rX (m : Nat) (p0 p1 p2 r0 : Int) (h : ((p0 < p1) → (-1) = r0) ∧ ((¬ p0 < p1) → p2 = r0)) : eD p0 p1 p2 r0 := by
 refine ⟨rfl, rfl, ?_⟩
 refine am 11 [] Tryz.func43 rfl rfl rfl (aL rfl) fun K hK => ?_
 refine gR 13 rfl <| qBd 9 rfl rfl rfl h (fun h => ?_) fun h => ?_
 refine gR 8 rfl ?_
 subst h
 exact go_end ab (rs := [.tmp 6]) rfl rfl rfl
 refine gR 10 rfl ?_
 subst h
 exact go_end ab (rs := [.tmp 6]) rfl rfl rfl
theorem sF (m : Nat) (p0 : Int) (r0 : Bool) (h : ((5 ≤ p0) → decide (p0 ≤ 9) = r0) ∧ ((¬ 5 ≤ p0) → false = r0)) : jD p0 r0 := by
 refine ⟨rfl, rfl, ?_⟩
 refine am 9 [] Tryz.func83 rfl rfl rfl (aL rfl) fun K hK => ?_
 refine gR 10 rfl <| qBdZ 5 4 rfl rfl rfl rfl h (fun h => ?_) fun h => ?_
 refine gR 7 rfl ?_
 subst h
 exact go_end ab (rs := [.tmp 2]) rfl rfl rfl
 refine gR 7 rfl ?_
 subst h
 exact go_end ab (rs := [.tmp 2]) rfl rfl rfl
theorem py (m : Nat) (p0 : Int) (r0 : Bool) (h : ((10 ≤ p0) → ((p0 ≤ 22) → (p0 != 17) = r0) ∧ ((¬ p0 ≤ 22) → false = r0)) ∧ ((¬ 10 ≤ p0) → false = r0)) : dJ p0 r0 := by
 refine ⟨rfl, rfl, ?_⟩
 refine am 13 [] Tryz.func82 rfl rfl rfl (aL rfl) fun K hK => ?_
 refine gR 10 rfl <| qBdZ 5 4 rfl rfl rfl rfl h (fun h => ?_) fun h => ?_
 refine gR 4 rfl <| qBdZ 9 8 rfl rfl rfl rfl h (fun h => ?_) fun h => ?_
 refine gR 7 rfl ?_
 subst h
 exact go_end ab (rs := [.tmp 2]) rfl rfl rfl
 refine gR 7 rfl ?_
 subst h
 exact go_end ab (rs := [.tmp 2]) rfl rfl rfl
 refine gR 11 rfl ?_
 subst h
 exact go_end ab (rs := [.tmp 2]) rfl rfl rfl
theorem sV (m : Nat) (p0 : Int) (r0 : Bool) (h : ∃ a, dJ p0 a ∧ ((a = true) → ((p0 ≠ 19) → ((p0 ≠ 20) → (p0 != 21) = r0) ∧ ((p0 = 20) → false = r0)) ∧ ((p0 = 19) → false = r0)) ∧ ((a = false) → false = r0)) : mw p0 r0 := by
 refine ⟨rfl, rfl, ?_⟩
 refine am 17 [] Tryz.func84 rfl rfl rfl (aL rfl) fun K hK => ?_
 refine gR 8 rfl ?_
 obtain ⟨a, hs2, h⟩ := h
 refine gC0 hs2 (by kernel_rfl) rfl rfl .rfl rfl <| gR 1 rfl <| qBiZ 5 4 rfl rfl rfl rfl h (fun h => ?_) fun h => ?_
 refine gR 4 rfl <| qBhZ 9 8 rfl rfl rfl rfl h eF dl (fun h => ?_) fun h => ?_
 refine gR 4 rfl <| qBhZ 13 12 rfl rfl rfl rfl h eF dl (fun h => ?_) fun h => ?_
 refine gR 7 rfl ?_
 subst h
 exact go_end ab (rs := [.tmp 2]) rfl rfl rfl
 refine gR 7 rfl ?_
 subst h
 exact go_end ab (rs := [.tmp 2]) rfl rfl rfl
 refine gR 11 rfl ?_
 subst h
 exact go_end ab (rs := [.tmp 2]) rfl rfl rfl
 refine gR 15 rfl ?_
 subst h
 exact go_end ab (rs := [.tmp 2]) rfl rfl rfl
theorem rq (m : Nat) (p0 : List UInt8) (r0 : Bool) (h : ((p0 = [43]) → true = r0) ∧ ((p0 ≠ [43]) → ((p0 = [45]) → true = r0) ∧ ((p0 ≠ [45]) → ((p0 = [42]) → true = r0) ∧ ((p0 ≠ [42]) → ((p0 = [60]) → true = r0) ∧ ((p0 ≠ [60]) → ((p0 = [61, 61]) → true = r0) ∧ ((p0 ≠ [61, 61]) → false = r0)))))) : io p0 r0 := by
 refine ⟨rfl, rfl, ?_⟩
 refine am 10 [] Tryz.func81 rfl rfl rfl (aL rfl) fun K hK => ?_
 refine gR 19 rfl <| qBeZ 4 5 rfl rfl rfl rfl h (fun h => ?_) fun h => ?_
 refine gR 12 rfl ?_
 subst h
 exact go_end ab (rs := [.tmp 2]) rfl rfl rfl
 refine gR 7 rfl <| qBeZ 4 6 rfl rfl rfl rfl h (fun h => ?_) fun h => ?_
 refine gR 12 rfl ?_
 subst h
 exact go_end ab (rs := [.tmp 2]) rfl rfl rfl
 refine gR 7 rfl <| qBeZ 4 7 rfl rfl rfl rfl h (fun h => ?_) fun h => ?_
 refine gR 12 rfl ?_
 subst h
 exact go_end ab (rs := [.tmp 2]) rfl rfl rfl
 refine gR 7 rfl <| qBeZ 4 8 rfl rfl rfl rfl h (fun h => ?_) fun h => ?_
 refine gR 12 rfl ?_
 subst h
 exact go_end ab (rs := [.tmp 2]) rfl rfl rfl
 refine gR 6 rfl <| qBeZ 4 9 rfl rfl rfl rfl h (fun h => ?_) fun h => ?_
 refine gR 9 rfl ?_
 subst h
 exact go_end ab (rs := [.tmp 2]) rfl rfl rfl
 refine gR 10 rfl ?_
 subst h
 exact go_end ab (rs := [.tmp 2]) rfl rfl rfl
def lK (m : Nat) (p0 : Int) (p1 : List UInt8) (a : Int) (b r0 : Bool) : Prop := ∀ (K : Ctx), aq K [] → qLG K Tryz.f53 (fun u _ => u = .bool r0) (cB (xG (ac Tryz.f53))) [.blk 0, .seq (xH (ac Tryz.f53))] 51 (mkF 51 0 [(1, .str p1), (5, .int .i64 a), (8, .int .i64 p0), (9, .bool b)]) ⟨0, []⟩
def fS (m : Nat) (p0 : Int) (p1 : List UInt8) (a : Int) (b r0 : Bool) : Prop := ∀ (K : Ctx), aq K [] → qLG K Tryz.f53 (fun u _ => u = .bool r0) (cB (xN (ac Tryz.f53))) [.blk 0, .seq (xH (ac Tryz.f53))] 51 (mkF 51 0 [(1, .str p1), (5, .int .i64 a), (8, .int .i64 p0), (14, .bool b)]) ⟨0, []⟩
theorem sC (m : Nat) (p0 : Int) (p1 : List UInt8) (r0 : Bool) (h : ∃ a, wY p1 a ∧ ((p0 = 1) → lK m p0 p1 a true r0) ∧ ((p0 ≠ 1) → lK m p0 p1 a (p0 == 3) r0)) : ms p0 p1 r0 := by
 refine ⟨rfl, rfl, ?_⟩
 refine am 51 [] Tryz.func53 rfl rfl rfl (aL rfl) fun K hK => ?_
 refine gR 8 rfl ?_
 obtain ⟨a, hs7, h⟩ := h
 refine gC0 hs7 (by kernel_rfl) rfl rfl .rfl rfl <| gR 17 rfl <| qBeZ 9 10 rfl rfl rfl rfl h (fun h => ?_) fun h => ?_
 exact gR 3 rfl <| gJ (h K hK) [] [] rfl hK pq4 trivial rfl
 exact gR 6 rfl <| gJ (h K hK) [] [] rfl hK pq4 trivial rfl
theorem rY (m : Nat) (p0 : Int) (p1 : List UInt8) (a : Int) (b r0 : Bool) (h : ((b = true) → (a == 2) = r0) ∧ ((b = false) → ((p0 = 2) → fS m p0 p1 a true r0) ∧ ((p0 ≠ 2) → ((p0 = 4) → fS m p0 p1 a true r0) ∧ ((p0 ≠ 4) → ((p0 = 12) → fS m p0 p1 a true r0) ∧ ((p0 ≠ 12) → fS m p0 p1 a (p0 == 20) r0))))) : lK (m + 1) p0 p1 a b r0 := by
 intro K hK
 refine qBi 9 rfl rfl rfl h (fun h => ?_) fun h => ?_
 refine gR 11 rfl ?_
 subst h
 exact go_end ab (rs := [.tmp 4]) rfl rfl rfl
 refine gR 8 rfl <| qBeZ 14 15 rfl rfl rfl rfl h (fun h => ?_) fun h => ?_
 exact gR 3 rfl <| gJ (h K hK) [] [] rfl hK pq4 trivial rfl
 refine gR 7 rfl <| qBeZ 14 16 rfl rfl rfl rfl h (fun h => ?_) fun h => ?_
 exact gR 3 rfl <| gJ (h K hK) [] [] rfl hK pq4 trivial rfl
 refine gR 7 rfl <| qBeZ 14 17 rfl rfl rfl rfl h (fun h => ?_) fun h => ?_
 exact gR 3 rfl <| gJ (h K hK) [] [] rfl hK pq4 trivial rfl
 exact gR 6 rfl <| gJ (h K hK) [] [] rfl hK pq4 trivial rfl
theorem rW (m : Nat) (p0 : Int) (p1 : List UInt8) (a : Int) (b r0 : Bool) (h : ((b = true) → (a == 1) = r0) ∧ ((b = false) → ((p0 = 9) → ((a = 2) → true = r0) ∧ ((a ≠ 2) → (a == 4) = r0)) ∧ ((p0 ≠ 9) → ((p0 = 16) → ((a = 1) → true = r0) ∧ ((a ≠ 1) → (a == 3) = r0)) ∧ ((p0 ≠ 16) → ((p0 = 10) → (a == 5) = r0) ∧ ((p0 ≠ 10) → ((p0 = 11) → (a == 6) = r0) ∧ ((p0 ≠ 11) → ((p0 = 21) → ∃ c, io p1 c ∧ c = r0) ∧ ((p0 ≠ 21) → (p1 == []) = r0))))))) : fS (m + 1) p0 p1 a b r0 := by
 intro K hK
 refine qBi 14 rfl rfl rfl h (fun h => ?_) fun h => ?_
 refine gR 11 rfl ?_
 subst h
 exact go_end ab (rs := [.tmp 4]) rfl rfl rfl
 refine gR 7 rfl <| qBeZ 21 22 rfl rfl rfl rfl h (fun h => ?_) fun h => ?_
 refine gR 6 rfl <| qBeZ 25 24 rfl rfl rfl rfl h (fun h => ?_) fun h => ?_
 refine gR 9 rfl ?_
 subst h
 exact go_end ab (rs := [.tmp 4]) rfl rfl rfl
 refine gR 9 rfl ?_
 subst h
 exact go_end ab (rs := [.tmp 4]) rfl rfl rfl
 refine gR 7 rfl <| qBeZ 29 30 rfl rfl rfl rfl h (fun h => ?_) fun h => ?_
 refine gR 6 rfl <| qBeZ 33 32 rfl rfl rfl rfl h (fun h => ?_) fun h => ?_
 refine gR 9 rfl ?_
 subst h
 exact go_end ab (rs := [.tmp 4]) rfl rfl rfl
 refine gR 9 rfl ?_
 subst h
 exact go_end ab (rs := [.tmp 4]) rfl rfl rfl
 refine gR 7 rfl <| qBeZ 37 38 rfl rfl rfl rfl h (fun h => ?_) fun h => ?_
 refine gR 11 rfl ?_
 subst h
 exact go_end ab (rs := [.tmp 4]) rfl rfl rfl
 refine gR 7 rfl <| qBeZ 41 42 rfl rfl rfl rfl h (fun h => ?_) fun h => ?_
 refine gR 11 rfl ?_
 subst h
 exact go_end ab (rs := [.tmp 4]) rfl rfl rfl
 refine gR 7 rfl <| qBeZ 45 46 rfl rfl rfl rfl h (fun h => ?_) fun h => ?_
 refine gR 4 rfl ?_
 obtain ⟨c, hs8, h⟩ := h
 refine gC0 hs8 (by kernel_rfl) rfl rfl .rfl rfl <| gR 6 rfl ?_
 subst h
 exact go_end ab (rs := [.tmp 4]) rfl rfl rfl
 refine gR 12 rfl ?_
 subst h
 exact go_end ab (rs := [.tmp 4]) rfl rfl rfl
def jH (m : Nat) (p0 : Tree) (p1 : Int) (a : Tree) (b r0 : Bool) : Prop := ∀ (K : Ctx), aq K [] → qLG K Tryz.f54 (fun u _ => u = .bool r0) (cB (xC (xG (ac Tryz.f54)))) [.blk 0, .seq (xH (ac Tryz.f54))] 67 (mkF 67 0 [(1, .int .i64 p1), (5, .int .i64 a.kind), (13, .int .i64 p0.kind), (43, .bool b)]) ⟨0, []⟩
theorem tE (m : Nat) (p0 : Tree) (p1 : Int) (r0 : Bool) (h : ∃ b, p1 = ((b : Nat) : Int) ∧ ∃ a, p0.kids[b]? = some a ∧ ((p0.kind = 1) → ((a.kind = 2) → true = r0) ∧ ((a.kind ≠ 2) → (a.kind == 3) = r0)) ∧ ((p0.kind ≠ 1) → ((p0.kind = 2) → ((p1 = ((p0.kids.length : Int) - 1)) → ∃ c, dJ a.kind c ∧ c = r0) ∧ ((p1 ≠ ((p0.kids.length : Int) - 1)) → ((p1 = ((p0.kids.length : Int) - 2)) → ∃ d, jD a.kind d ∧ d = r0) ∧ ((p1 ≠ ((p0.kids.length : Int) - 2)) → (a.kind == 4) = r0))) ∧ ((p0.kind ≠ 2) → ((p0.kind = 3) → jH m p0 p1 a true r0) ∧ ((p0.kind ≠ 3) → ((p0.kind = 4) → jH m p0 p1 a true r0) ∧ ((p0.kind ≠ 4) → jH m p0 p1 a (p0.kind == 8) r0))))) : nh p0 p1 r0 := by
 refine ⟨rfl, rfl, ?_⟩
 refine am 67 [] Tryz.func54 rfl rfl rfl (aL rfl) fun K hK => ?_
 refine gR 3 rfl <| gFP 0 rfl rfl rfl rfl <| gR 8 rfl ?_
 obtain ⟨b, e, h⟩ := h
 refine gV 8 (.int .i64 ((b : Nat) : Int)) rfl (je e) rfl ?_
 obtain ⟨a, hxt0_2, h⟩ := h
 refine gY (aI (av hxt0_2) ab rfl rfl rfl rfl) rfl rfl <| gR 19 rfl <| gB 14 rfl rfl rfl ?_ ?_ <;> intro hd
 refine gT 15 rfl hd rfl ?_
 replace hd := (eq_of_beq hd)
 replace h := h.1 hd
 refine gR 6 rfl <| gB 18 rfl rfl rfl ?_ ?_ <;> intro hd
 refine gT 17 rfl hd rfl ?_
 replace hd := (eq_of_beq hd)
 replace h := h.1 hd
 refine gR 9 rfl ?_
 subst h
 exact go_end ab (rs := [.tmp 4]) rfl rfl rfl
 refine gF 17 rfl hd rfl ?_
 replace hd := (ne_of_beq_false hd)
 replace h := h.2 hd
 refine gR 9 rfl ?_
 subst h
 exact go_end ab (rs := [.tmp 4]) rfl rfl rfl
 refine gF 15 rfl hd rfl ?_
 replace hd := (ne_of_beq_false hd)
 replace h := h.2 hd
 refine gR 7 rfl <| gB 22 rfl rfl rfl ?_ ?_ <;> intro hd
 refine gT 23 rfl hd rfl ?_
 replace hd := (eq_of_beq hd)
 replace h := h.1 hd
 refine gR 13 rfl <| gV 28 (.int .i64 (p0.kids.length : Int)) rfl (bF (aE _)) rfl <| gLB 27 rfl (aE _) fun hl17 => gR 1 rfl <| gV 29 (.int .i64 ((p0.kids.length : Int) - 1)) rfl (ax (by have := hl17; omega) rfl) rfl <| gR 4 rfl <| gB 25 rfl rfl rfl ?_ ?_ <;> intro hd
 refine gT 30 rfl hd rfl ?_
 replace hd := (eq_of_beq hd)
 replace h := h.1 hd
 refine gR 4 rfl ?_
 obtain ⟨c, hs18, h⟩ := h
 refine gC0 hs18 (by kernel_rfl) rfl rfl .rfl rfl <| gR 8 rfl ?_
 subst h
 exact go_end ab (rs := [.tmp 4]) rfl rfl rfl
 refine gF 30 rfl hd rfl ?_
 replace hd := (ne_of_beq_false hd)
 replace h := h.2 hd
 refine gR 6 rfl <| gV 36 (.int .i64 (p0.kids.length : Int)) rfl (bF (aE _)) rfl <| gR 1 rfl <| gV 37 (.int .i64 ((p0.kids.length : Int) - 2)) rfl (ax (by have := hl17; omega) rfl) rfl <| gR 4 rfl <| gB 33 rfl rfl rfl ?_ ?_ <;> intro hd
 refine gT 38 rfl hd rfl ?_
 replace hd := (eq_of_beq hd)
 replace h := h.1 hd
 refine gR 4 rfl ?_
 obtain ⟨d, hs19, h⟩ := h
 refine gC0 hs19 (by kernel_rfl) rfl rfl .rfl rfl <| gR 8 rfl ?_
 subst h
 exact go_end ab (rs := [.tmp 4]) rfl rfl rfl
 refine gF 38 rfl hd rfl ?_
 replace hd := (ne_of_beq_false hd)
 replace h := h.2 hd
 refine gR 14 rfl ?_
 subst h
 exact go_end ab (rs := [.tmp 4]) rfl rfl rfl
 refine gF 23 rfl hd rfl ?_
 replace hd := (ne_of_beq_false hd)
 replace h := h.2 hd
 refine gR 8 rfl <| gB 43 rfl rfl rfl ?_ ?_ <;> intro hd
 refine gT 44 rfl hd rfl ?_
 replace hd := (eq_of_beq hd)
 replace h := h.1 hd
 exact gR 3 rfl <| gJ (h K hK) [] [] rfl hK pq4 trivial rfl
 refine gF 44 rfl hd rfl ?_
 replace hd := (ne_of_beq_false hd)
 replace h := h.2 hd
 refine gR 7 rfl <| gB 43 rfl rfl rfl ?_ ?_ <;> intro hd
 refine gT 45 rfl hd rfl ?_
 replace hd := (eq_of_beq hd)
 replace h := h.1 hd
 exact gR 3 rfl <| gJ (h K hK) [] [] rfl hK pq4 trivial rfl
 refine gF 45 rfl hd rfl ?_
 replace hd := (ne_of_beq_false hd)
 replace h := h.2 hd
 exact gR 6 rfl <| gJ (h K hK) [] [] rfl hK pq4 trivial rfl
theorem sw (m : Nat) (p0 : Tree) (p1 : Int) (a : Tree) (c r0 : Bool) (h : ((c = true) → ∃ d, jD a.kind d ∧ d = r0) ∧ ((c = false) → ((p0.kind = 16) → (a.kind == 17) = r0) ∧ ((p0.kind ≠ 16) → ((p0.kind = 21) → ∃ b, mw a.kind b ∧ ((b = true) → true = r0) ∧ ((b = false) → ((p1 = 0) → (a.kind == 21) = r0) ∧ ((p1 ≠ 0) → false = r0))) ∧ ((p0.kind ≠ 21) → ∃ e, dJ a.kind e ∧ e = r0)))) : jH (m + 1) p0 p1 a c r0 := by
 intro K hK
 refine qBi 43 rfl rfl rfl h (fun h => ?_) fun h => ?_
 refine gR 4 rfl ?_
 obtain ⟨d, hs20, h⟩ := h
 refine gC0 hs20 (by kernel_rfl) rfl rfl .rfl rfl <| gR 6 rfl ?_
 subst h
 exact go_end ab (rs := [.tmp 4]) rfl rfl rfl
 refine gR 7 rfl <| qBeZ 49 50 rfl rfl rfl rfl h (fun h => ?_) fun h => ?_
 refine gR 11 rfl ?_
 subst h
 exact go_end ab (rs := [.tmp 4]) rfl rfl rfl
 refine gR 7 rfl <| qBeZ 53 54 rfl rfl rfl rfl h (fun h => ?_) fun h => ?_
 refine gR 4 rfl ?_
 obtain ⟨b, hs21, h⟩ := h
 refine gC0 hs21 (by kernel_rfl) rfl rfl .rfl rfl <| gR 1 rfl <| qBiZ 57 56 rfl rfl rfl rfl h (fun h => ?_) fun h => ?_
 refine gR 13 rfl ?_
 subst h
 exact go_end ab (rs := [.tmp 4]) rfl rfl rfl
 refine gR 3 rfl <| qBeZ 60 59 rfl rfl rfl rfl h (fun h => ?_) fun h => ?_
 refine gR 10 rfl ?_
 subst h
 exact go_end ab (rs := [.tmp 4]) rfl rfl rfl
 refine gR 10 rfl ?_
 subst h
 exact go_end ab (rs := [.tmp 4]) rfl rfl rfl
 refine gR 7 rfl ?_
 obtain ⟨e, hs22, h⟩ := h
 refine gC0 hs22 (by kernel_rfl) rfl rfl .rfl rfl <| gR 4 rfl ?_
 subst h
 exact go_end ab (rs := [.tmp 4]) rfl rfl rfl
def jd (m : Nat) (p0 : Tree) (a : Nat) (r0 : Bool) : Prop := ∀ (K : Ctx) (j1 : Nat), aq K [] → m ≤ j1 → qLG K Tryz.f27 (fun u _ => u = .bool r0) (xI (ac Tryz.f27)) [.loop (xI (ac Tryz.f27)) j1, .blk 0, .seq (xH (ac Tryz.f27))] 38 (mkF 38 0 [(1, .box (ae p0) 0), (21, .row 4 (kidsV p0.kids)), (22, .int .i64 (p0.kids.length : Int)), (23, .int .i64 (a : Int))]) ⟨0, []⟩
theorem sS (m : Nat) (p0 : Tree) (r0 : Bool) (h : ∃ a, iD p0.kind (p0.kids.length : Int) a ∧ ((a < 0) → false = r0) ∧ ((¬ a < 0) → ∃ b, ms p0.kind p0.text b ∧ ((b = false) → false = r0) ∧ ((b = true) → jd m p0 0 r0))) : ff p0 r0 := by
 refine ⟨rfl, rfl, ?_⟩
 refine am 38 [] Tryz.func27 rfl rfl rfl (aL rfl) fun K hK => ?_
 refine gR 3 rfl <| gFP 0 rfl rfl rfl rfl <| gR 11 rfl <| gV 9 (.int .i64 (p0.kids.length : Int)) rfl (bF (aE _)) rfl <| gLB 8 rfl (aE _) fun hl11 => ?_
 obtain ⟨a, hs12, h⟩ := h
 refine gC0 hs12 (by kernel_rfl) rfl rfl .rfl rfl <| gR 2 rfl <| gB 12 rfl rfl rfl ?_ ?_ <;> intro hd
 refine gT 11 rfl hd rfl ?_
 replace hd := (of_decide_eq_true hd)
 replace h := h.1 hd
 refine gR 17 rfl ?_
 subst h
 exact go_end ab (rs := [.tmp 2]) rfl rfl rfl
 refine gF 11 rfl hd rfl ?_
 replace hd := (of_decide_eq_false hd)
 replace h := h.2 hd
 refine gR 4 rfl ?_
 obtain ⟨b, hs13, h⟩ := h
 refine gC0 hs13 (by kernel_rfl) rfl rfl .rfl rfl <| gR 4 rfl <| gB 19 rfl rfl rfl ?_ ?_ <;> intro hd
 replace hd := (dD hd)
 replace h := h.1 hd
 refine gR 8 rfl ?_
 subst h
 exact go_end ab (rs := [.tmp 2]) rfl rfl rfl
 replace hd := (dC hd)
 replace h := h.2 hd
 exact gR 9 rfl <| gV 22 (.int .i64 (p0.kids.length : Int)) rfl (bF (aE _)) rfl <| gR 4 rfl <| go_loop m <| gJ (h K _ hK (by omega)) [] [] rfl hK pq4 trivial rfl
theorem nJ (m : Nat) (p0 : Tree) (a : Nat) (r0 : Bool) (h : ((a < p0.kids.length) → ∃ d, p0.kids[a]? = some d ∧ ∃ b, nh p0 (a : Int) b ∧ ((b = false) → false = r0) ∧ ((b = true) → ∃ c, ff d c ∧ ((c = false) → false = r0) ∧ ((c = true) → a + 1 ≤ 9223372036854775807 ∧ jd m p0 (a + 1) r0))) ∧ ((¬ a < p0.kids.length) → true = r0)) : jd (m + 1) p0 a r0 := by
 intro K j1 hK hj1
 obtain ⟨j1, rfl⟩ : ∃ j, j1 = j + 1 := ⟨j1 - 1, by omega⟩
 refine gR 6 rfl <| gB 24 rfl rfl rfl ?_ ?_ <;> intro hd
 replace hd := (fh hd)
 replace h := h.1 hd
 refine gR 8 rfl ?_
 obtain ⟨d, hxt1_1, h⟩ := h
 refine gY (aI (av hxt1_1) ab rfl rfl rfl rfl) rfl rfl <| gR 10 rfl ?_
 obtain ⟨b, hs14, h⟩ := h
 refine gC0 hs14 (by kernel_rfl) rfl rfl .rfl rfl <| gR 2 rfl <| gB 32 rfl rfl rfl ?_ ?_ <;> intro hd
 refine gT 31 rfl hd rfl ?_
 replace hd := (dD hd)
 replace h := h.1 hd
 refine gR 15 rfl <| go_xloopR <| gR 2 rfl ?_
 subst h
 exact go_end ab (rs := [.tmp 2]) rfl rfl rfl
 refine gF 31 rfl hd rfl ?_
 replace hd := (dC hd)
 replace h := h.2 hd
 refine gR 1 rfl ?_
 obtain ⟨c, hs15, h⟩ := h
 refine gC0 hs15 (by kernel_rfl) rfl rfl .rfl rfl <| gR 4 rfl <| gB 36 rfl rfl rfl ?_ ?_ <;> intro hd
 replace hd := (dD hd)
 replace h := h.1 hd
 refine gR 9 rfl <| go_xloopR <| gR 2 rfl ?_
 subst h
 exact go_end ab (rs := [.tmp 2]) rfl rfl rfl
 replace hd := (dC hd)
 replace h := h.2 hd
 refine gR 5 rfl ?_
 obtain ⟨hb, h⟩ := h
 exact gR 1 rfl <| gV 37 (.int .i64 ((a + 1 : Nat) : Int)) rfl (ax (by omega) (by omega)) rfl <| gR 2 rfl <| go_xloop <| gJ (h K _ hK (by omega)) [] [] rfl hK pq4 trivial rfl
 replace hd := (fo hd)
 replace h := h.2 hd
 refine gR 3 rfl <| go_xloopE <| gR 8 rfl ?_
 subst h
 exact go_end ab (rs := [.tmp 2]) rfl rfl rfl
def fC (m : Nat) (p0 p1 : Int) (a : Bool) (r0 : Int) : Prop := ∀ (K : Ctx), aq K [] → qLG K Tryz.f63 (fun u _ => u = .int .i64 r0) (cB (xC (xB (xE (cA (cB (ac Tryz.f63))))))) [.blk 0, .seq (xA (ac Tryz.f63))] 71 (mkF 71 0 [(1, .int .i64 p1), (5, .int .i64 p0), (22, .bool a)]) ⟨0, []⟩
def br (m : Nat) (p0 p1 : Int) (a : Bool) (r0 : Int) : Prop := ∀ (K : Ctx), aq K [] → qLG K Tryz.f63 (fun u _ => u = .int .i64 r0) (cB (xD (xE (cA (cB (ac Tryz.f63)))))) [.blk 0, .seq (xA (ac Tryz.f63))] 71 (mkF 71 0 [(1, .int .i64 p1), (5, .int .i64 p0), (28, .bool a)]) ⟨0, []⟩
theorem qL (m : Nat) (p0 p1 r0 : Int) (h : ((p0 = 1) → ((0 ≤ p1) → 3 = r0) ∧ ((¬ 0 ≤ p1) → (-1) = r0)) ∧ ((p0 ≠ 1) → ((p0 = 2) → ((2 ≤ p1) → InI (p1 - 3) ∧ InI (6 + (max 0 (p1 - 3))) ∧ (6 + (max 0 (p1 - 3))) = r0) ∧ ((¬ 2 ≤ p1) → (-1) = r0)) ∧ ((p0 ≠ 2) → ((p0 = 3) → ∃ a, cl p1 1 3 a ∧ a = r0) ∧ ((p0 ≠ 3) → ((p0 = 4) → fC m p0 p1 true r0) ∧ ((p0 ≠ 4) → ((p0 = 8) → fC m p0 p1 true r0) ∧ ((p0 ≠ 8) → fC m p0 p1 (p0 == 22) r0)))))) : ev p0 p1 r0 := by
 refine ⟨rfl, rfl, ?_⟩
 refine am 71 [] Tryz.func63 rfl rfl rfl (aL rfl) fun K hK => ?_
 refine gR 18 rfl <| qBeZ 6 7 rfl rfl rfl rfl h (fun h => ?_) fun h => ?_
 refine gR 7 rfl <| qBd 9 rfl rfl rfl h (fun h => ?_) fun h => ?_
 refine gR 9 rfl ?_
 subst h
 exact go_end ab (rs := [.tmp 4]) rfl rfl rfl
 refine gR 10 rfl ?_
 subst h
 exact go_end ab (rs := [.tmp 4]) rfl rfl rfl
 refine gR 7 rfl <| qBeZ 10 11 rfl rfl rfl rfl h (fun h => ?_) fun h => ?_
 refine gR 7 rfl <| qBd 13 rfl rfl rfl h (fun h => ?_) fun h => ?_
 refine gR 4 rfl ?_
 obtain ⟨hb, h⟩ := h
 refine gR 1 rfl <| gV 15 (.int .i64 (p1 - 3)) rfl (ax hb rfl) rfl <| gR 1 rfl ?_
 obtain ⟨hb, h⟩ := h
 refine gR 1 rfl <| gV 17 (.int .i64 (6 + (max 0 (p1 - 3)))) rfl (ax hb rfl) rfl <| gR 6 rfl ?_
 subst h
 exact go_end ab (rs := [.tmp 4]) rfl rfl rfl
 refine gR 10 rfl ?_
 subst h
 exact go_end ab (rs := [.tmp 4]) rfl rfl rfl
 refine gR 7 rfl <| qBeZ 18 19 rfl rfl rfl rfl h (fun h => ?_) fun h => ?_
 refine gR 4 rfl ?_
 obtain ⟨a, hs20, h⟩ := h
 refine gC0 hs20 (by kernel_rfl) rfl rfl .rfl rfl <| gR 6 rfl ?_
 subst h
 exact go_end ab (rs := [.tmp 4]) rfl rfl rfl
 refine gR 8 rfl <| qBeZ 22 23 rfl rfl rfl rfl h (fun h => ?_) fun h => ?_
 exact gR 3 rfl <| gJ (h K hK) [] [] rfl hK pq3 trivial rfl
 refine gR 7 rfl <| qBeZ 22 24 rfl rfl rfl rfl h (fun h => ?_) fun h => ?_
 exact gR 3 rfl <| gJ (h K hK) [] [] rfl hK pq3 trivial rfl
 exact gR 6 rfl <| gJ (h K hK) [] [] rfl hK pq3 trivial rfl
theorem pL (m : Nat) (p0 p1 : Int) (a : Bool) (r0 : Int) (h : ((a = true) → ∃ b, cl p1 1 2 b ∧ b = r0) ∧ ((a = false) → ((p0 = 5) → br m p0 p1 true r0) ∧ ((p0 ≠ 5) → ((p0 = 6) → br m p0 p1 true r0) ∧ ((p0 ≠ 6) → ((p0 = 7) → br m p0 p1 true r0) ∧ ((p0 ≠ 7) → ((p0 = 9) → br m p0 p1 true r0) ∧ ((p0 ≠ 9) → ((p0 = 10) → br m p0 p1 true r0) ∧ ((p0 ≠ 10) → ((p0 = 11) → br m p0 p1 true r0) ∧ ((p0 ≠ 11) → ((p0 = 12) → br m p0 p1 true r0) ∧ ((p0 ≠ 12) → ((p0 = 13) → br m p0 p1 true r0) ∧ ((p0 ≠ 13) → ((p0 = 14) → br m p0 p1 true r0) ∧ ((p0 ≠ 14) → br m p0 p1 (p0 == 15) r0))))))))))) : fC (m + 1) p0 p1 a r0 := by
 intro K hK
 refine qBi 22 rfl rfl rfl h (fun h => ?_) fun h => ?_
 refine gR 4 rfl ?_
 obtain ⟨b, hs21, h⟩ := h
 refine gC0 hs21 (by kernel_rfl) rfl rfl .rfl rfl <| gR 6 rfl ?_
 subst h
 exact go_end ab (rs := [.tmp 4]) rfl rfl rfl
 refine gR 8 rfl <| qBeZ 28 29 rfl rfl rfl rfl h (fun h => ?_) fun h => ?_
 exact gR 3 rfl <| gJ (h K hK) [] [] rfl hK pq3 trivial rfl
 refine gR 7 rfl <| qBeZ 28 30 rfl rfl rfl rfl h (fun h => ?_) fun h => ?_
 exact gR 3 rfl <| gJ (h K hK) [] [] rfl hK pq3 trivial rfl
 refine gR 7 rfl <| qBeZ 28 31 rfl rfl rfl rfl h (fun h => ?_) fun h => ?_
 exact gR 3 rfl <| gJ (h K hK) [] [] rfl hK pq3 trivial rfl
 refine gR 7 rfl <| qBeZ 28 32 rfl rfl rfl rfl h (fun h => ?_) fun h => ?_
 exact gR 3 rfl <| gJ (h K hK) [] [] rfl hK pq3 trivial rfl
 refine gR 7 rfl <| qBeZ 28 33 rfl rfl rfl rfl h (fun h => ?_) fun h => ?_
 exact gR 3 rfl <| gJ (h K hK) [] [] rfl hK pq3 trivial rfl
 refine gR 7 rfl <| qBeZ 28 34 rfl rfl rfl rfl h (fun h => ?_) fun h => ?_
 exact gR 3 rfl <| gJ (h K hK) [] [] rfl hK pq3 trivial rfl
 refine gR 7 rfl <| qBeZ 28 35 rfl rfl rfl rfl h (fun h => ?_) fun h => ?_
 exact gR 3 rfl <| gJ (h K hK) [] [] rfl hK pq3 trivial rfl
 refine gR 7 rfl <| qBeZ 28 36 rfl rfl rfl rfl h (fun h => ?_) fun h => ?_
 exact gR 3 rfl <| gJ (h K hK) [] [] rfl hK pq3 trivial rfl
 refine gR 7 rfl <| qBeZ 28 37 rfl rfl rfl rfl h (fun h => ?_) fun h => ?_
 exact gR 3 rfl <| gJ (h K hK) [] [] rfl hK pq3 trivial rfl
 exact gR 6 rfl <| gJ (h K hK) [] [] rfl hK pq3 trivial rfl
theorem pG (m : Nat) (p0 p1 : Int) (a : Bool) (r0 : Int) (h : ((a = true) → ∃ b, cl p1 0 1 b ∧ b = r0) ∧ ((a = false) → ((p0 = 16) → ((0 ≤ p1) → InI (p1 - 1) ∧ InI (3 + (max 0 (p1 - 1))) ∧ (3 + (max 0 (p1 - 1))) = r0) ∧ ((¬ 0 ≤ p1) → (-1) = r0)) ∧ ((p0 ≠ 16) → ((p0 = 17) → ∃ c, cl p1 1 0 c ∧ c = r0) ∧ ((p0 ≠ 17) → ((p0 = 18) → ((1 ≤ p1) → InI (1 + p1) ∧ (1 + p1) = r0) ∧ ((¬ 1 ≤ p1) → (-1) = r0)) ∧ ((p0 ≠ 18) → ((p0 = 19) → ∃ d, cl p1 3 3 d ∧ d = r0) ∧ ((p0 ≠ 19) → ((p0 = 20) → ∃ e, cl p1 2 4 e ∧ e = r0) ∧ ((p0 ≠ 20) → ((p0 = 21) → ∃ f, cl p1 2 1 f ∧ f = r0) ∧ ((p0 ≠ 21) → (-1) = r0)))))))) : br (m + 1) p0 p1 a r0 := by
 intro K hK
 refine qBi 28 rfl rfl rfl h (fun h => ?_) fun h => ?_
 refine gR 4 rfl ?_
 obtain ⟨b, hs22, h⟩ := h
 refine gC0 hs22 (by kernel_rfl) rfl rfl .rfl rfl <| gR 6 rfl ?_
 subst h
 exact go_end ab (rs := [.tmp 4]) rfl rfl rfl
 refine gR 7 rfl <| qBeZ 41 42 rfl rfl rfl rfl h (fun h => ?_) fun h => ?_
 refine gR 7 rfl <| qBd 44 rfl rfl rfl h (fun h => ?_) fun h => ?_
 refine gR 4 rfl ?_
 obtain ⟨hb, h⟩ := h
 refine gR 1 rfl <| gV 46 (.int .i64 (p1 - 1)) rfl (ax hb rfl) rfl <| gR 1 rfl ?_
 obtain ⟨hb, h⟩ := h
 refine gR 1 rfl <| gV 48 (.int .i64 (3 + (max 0 (p1 - 1)))) rfl (ax hb rfl) rfl <| gR 6 rfl ?_
 subst h
 exact go_end ab (rs := [.tmp 4]) rfl rfl rfl
 refine gR 10 rfl ?_
 subst h
 exact go_end ab (rs := [.tmp 4]) rfl rfl rfl
 refine gR 7 rfl <| qBeZ 49 50 rfl rfl rfl rfl h (fun h => ?_) fun h => ?_
 refine gR 4 rfl ?_
 obtain ⟨c, hs23, h⟩ := h
 refine gC0 hs23 (by kernel_rfl) rfl rfl .rfl rfl <| gR 6 rfl ?_
 subst h
 exact go_end ab (rs := [.tmp 4]) rfl rfl rfl
 refine gR 7 rfl <| qBeZ 53 54 rfl rfl rfl rfl h (fun h => ?_) fun h => ?_
 refine gR 7 rfl <| qBd 56 rfl rfl rfl h (fun h => ?_) fun h => ?_
 refine gR 4 rfl ?_
 obtain ⟨hb, h⟩ := h
 refine gR 1 rfl <| gV 58 (.int .i64 (1 + p1)) rfl (ax hb rfl) rfl <| gR 6 rfl ?_
 subst h
 exact go_end ab (rs := [.tmp 4]) rfl rfl rfl
 refine gR 10 rfl ?_
 subst h
 exact go_end ab (rs := [.tmp 4]) rfl rfl rfl
 refine gR 7 rfl <| qBeZ 59 60 rfl rfl rfl rfl h (fun h => ?_) fun h => ?_
 refine gR 4 rfl ?_
 obtain ⟨d, hs24, h⟩ := h
 refine gC0 hs24 (by kernel_rfl) rfl rfl .rfl rfl <| gR 6 rfl ?_
 subst h
 exact go_end ab (rs := [.tmp 4]) rfl rfl rfl
 refine gR 7 rfl <| qBeZ 63 64 rfl rfl rfl rfl h (fun h => ?_) fun h => ?_
 refine gR 4 rfl ?_
 obtain ⟨e, hs25, h⟩ := h
 refine gC0 hs25 (by kernel_rfl) rfl rfl .rfl rfl <| gR 6 rfl ?_
 subst h
 exact go_end ab (rs := [.tmp 4]) rfl rfl rfl
 refine gR 7 rfl <| qBeZ 67 68 rfl rfl rfl rfl h (fun h => ?_) fun h => ?_
 refine gR 4 rfl ?_
 obtain ⟨f, hs26, h⟩ := h
 refine gC0 hs26 (by kernel_rfl) rfl rfl .rfl rfl <| gR 6 rfl ?_
 subst h
 exact go_end ab (rs := [.tmp 4]) rfl rfl rfl
 refine gR 10 rfl ?_
 subst h
 exact go_end ab (rs := [.tmp 4]) rfl rfl rfl
theorem re (m : Nat) (p0 p1 p2 r0 : Int) (h : ((p0 = p1) → p2 = r0) ∧ ((p0 ≠ p1) → (-1) = r0)) : cl p0 p1 p2 r0 := by
 refine ⟨rfl, rfl, ?_⟩
 refine am 11 [] Tryz.func93 rfl rfl rfl (aL rfl) fun K hK => ?_
 refine gR 13 rfl <| qBe 9 rfl rfl rfl h (fun h => ?_) fun h => ?_
 refine gR 9 rfl ?_
 subst h
 exact go_end ab (rs := [.tmp 6]) rfl rfl rfl
 refine gR 9 rfl ?_
 subst h
 exact go_end ab (rs := [.tmp 6]) rfl rfl rfl
theorem pO (m : Nat) (p0 : Int) (r0 : Bool) (h : ((5 ≤ p0) → decide (p0 ≤ 9) = r0) ∧ ((¬ 5 ≤ p0) → false = r0)) : fz p0 r0 := by
 refine ⟨rfl, rfl, ?_⟩
 refine am 9 [] Tryz.func96 rfl rfl rfl (aL rfl) fun K hK => ?_
 refine gR 10 rfl <| qBdZ 5 4 rfl rfl rfl rfl h (fun h => ?_) fun h => ?_
 refine gR 7 rfl ?_
 subst h
 exact go_end ab (rs := [.tmp 2]) rfl rfl rfl
 refine gR 7 rfl ?_
 subst h
 exact go_end ab (rs := [.tmp 2]) rfl rfl rfl
theorem pD (m : Nat) (p0 : Int) (r0 : Bool) (h : ((10 ≤ p0) → ((p0 ≤ 22) → (p0 != 17) = r0) ∧ ((¬ p0 ≤ 22) → false = r0)) ∧ ((¬ 10 ≤ p0) → false = r0)) : dW p0 r0 := by
 refine ⟨rfl, rfl, ?_⟩
 refine am 13 [] Tryz.func95 rfl rfl rfl (aL rfl) fun K hK => ?_
 refine gR 10 rfl <| qBdZ 5 4 rfl rfl rfl rfl h (fun h => ?_) fun h => ?_
 refine gR 4 rfl <| qBdZ 9 8 rfl rfl rfl rfl h (fun h => ?_) fun h => ?_
 refine gR 7 rfl ?_
 subst h
 exact go_end ab (rs := [.tmp 2]) rfl rfl rfl
 refine gR 7 rfl ?_
 subst h
 exact go_end ab (rs := [.tmp 2]) rfl rfl rfl
 refine gR 11 rfl ?_
 subst h
 exact go_end ab (rs := [.tmp 2]) rfl rfl rfl
theorem pK (m : Nat) (p0 : Int) (r0 : Bool) (h : ∃ a, dW p0 a ∧ ((a = true) → ((p0 ≠ 19) → ((p0 ≠ 20) → (p0 != 21) = r0) ∧ ((p0 = 20) → false = r0)) ∧ ((p0 = 19) → false = r0)) ∧ ((a = false) → false = r0)) : fw p0 r0 := by
 refine ⟨rfl, rfl, ?_⟩
 refine am 17 [] Tryz.func97 rfl rfl rfl (aL rfl) fun K hK => ?_
 refine gR 8 rfl ?_
 obtain ⟨a, hs2, h⟩ := h
 refine gC0 hs2 (by kernel_rfl) rfl rfl .rfl rfl <| gR 1 rfl <| qBiZ 5 4 rfl rfl rfl rfl h (fun h => ?_) fun h => ?_
 refine gR 4 rfl <| qBhZ 9 8 rfl rfl rfl rfl h eF dl (fun h => ?_) fun h => ?_
 refine gR 4 rfl <| qBhZ 13 12 rfl rfl rfl rfl h eF dl (fun h => ?_) fun h => ?_
 refine gR 7 rfl ?_
 subst h
 exact go_end ab (rs := [.tmp 2]) rfl rfl rfl
 refine gR 7 rfl ?_
 subst h
 exact go_end ab (rs := [.tmp 2]) rfl rfl rfl
 refine gR 11 rfl ?_
 subst h
 exact go_end ab (rs := [.tmp 2]) rfl rfl rfl
 refine gR 15 rfl ?_
 subst h
 exact go_end ab (rs := [.tmp 2]) rfl rfl rfl
theorem nN (m : Nat) (p0 : List UInt8) (r0 : Bool) (h : ((p0 = [43]) → true = r0) ∧ ((p0 ≠ [43]) → ((p0 = [45]) → true = r0) ∧ ((p0 ≠ [45]) → ((p0 = [42]) → true = r0) ∧ ((p0 ≠ [42]) → ((p0 = [60]) → true = r0) ∧ ((p0 ≠ [60]) → ((p0 = [61, 61]) → true = r0) ∧ ((p0 ≠ [61, 61]) → false = r0)))))) : fR p0 r0 := by
 refine ⟨rfl, rfl, ?_⟩
 refine am 10 [] Tryz.func94 rfl rfl rfl (aL rfl) fun K hK => ?_
 refine gR 19 rfl <| qBeZ 4 5 rfl rfl rfl rfl h (fun h => ?_) fun h => ?_
 refine gR 12 rfl ?_
 subst h
 exact go_end ab (rs := [.tmp 2]) rfl rfl rfl
 refine gR 7 rfl <| qBeZ 4 6 rfl rfl rfl rfl h (fun h => ?_) fun h => ?_
 refine gR 12 rfl ?_
 subst h
 exact go_end ab (rs := [.tmp 2]) rfl rfl rfl
 refine gR 7 rfl <| qBeZ 4 7 rfl rfl rfl rfl h (fun h => ?_) fun h => ?_
 refine gR 12 rfl ?_
 subst h
 exact go_end ab (rs := [.tmp 2]) rfl rfl rfl
 refine gR 7 rfl <| qBeZ 4 8 rfl rfl rfl rfl h (fun h => ?_) fun h => ?_
 refine gR 12 rfl ?_
 subst h
 exact go_end ab (rs := [.tmp 2]) rfl rfl rfl
 refine gR 6 rfl <| qBeZ 4 9 rfl rfl rfl rfl h (fun h => ?_) fun h => ?_
 refine gR 9 rfl ?_
 subst h
 exact go_end ab (rs := [.tmp 2]) rfl rfl rfl
 refine gR 10 rfl ?_
 subst h
 exact go_end ab (rs := [.tmp 2]) rfl rfl rfl
def gh (m : Nat) (p0 : Int) (p1 : List UInt8) (a : Int) (b r0 : Bool) : Prop := ∀ (K : Ctx), aq K [] → qLG K Tryz.f64 (fun u _ => u = .bool r0) (cB (xG (ac Tryz.f64))) [.blk 0, .seq (xH (ac Tryz.f64))] 51 (mkF 51 0 [(1, .str p1), (5, .int .i64 a), (8, .int .i64 p0), (9, .bool b)]) ⟨0, []⟩
def ds (m : Nat) (p0 : Int) (p1 : List UInt8) (a : Int) (b r0 : Bool) : Prop := ∀ (K : Ctx), aq K [] → qLG K Tryz.f64 (fun u _ => u = .bool r0) (cB (xN (ac Tryz.f64))) [.blk 0, .seq (xH (ac Tryz.f64))] 51 (mkF 51 0 [(1, .str p1), (5, .int .i64 a), (8, .int .i64 p0), (14, .bool b)]) ⟨0, []⟩
theorem oA (m : Nat) (p0 : Int) (p1 : List UInt8) (r0 : Bool) (h : ∃ a, rc p1 a ∧ ((p0 = 1) → gh m p0 p1 a true r0) ∧ ((p0 ≠ 1) → gh m p0 p1 a (p0 == 3) r0)) : gU p0 p1 r0 := by
 refine ⟨rfl, rfl, ?_⟩
 refine am 51 [] Tryz.func64 rfl rfl rfl (aL rfl) fun K hK => ?_
 refine gR 8 rfl ?_
 obtain ⟨a, hs7, h⟩ := h
 refine gC0 hs7 (by kernel_rfl) rfl rfl .rfl rfl <| gR 17 rfl <| qBeZ 9 10 rfl rfl rfl rfl h (fun h => ?_) fun h => ?_
 exact gR 3 rfl <| gJ (h K hK) [] [] rfl hK pq4 trivial rfl
 exact gR 6 rfl <| gJ (h K hK) [] [] rfl hK pq4 trivial rfl
theorem oz (m : Nat) (p0 : Int) (p1 : List UInt8) (a : Int) (b r0 : Bool) (h : ((b = true) → (a == 2) = r0) ∧ ((b = false) → ((p0 = 2) → ds m p0 p1 a true r0) ∧ ((p0 ≠ 2) → ((p0 = 4) → ds m p0 p1 a true r0) ∧ ((p0 ≠ 4) → ((p0 = 12) → ds m p0 p1 a true r0) ∧ ((p0 ≠ 12) → ds m p0 p1 a (p0 == 20) r0))))) : gh (m + 1) p0 p1 a b r0 := by
 intro K hK
 refine qBi 9 rfl rfl rfl h (fun h => ?_) fun h => ?_
 refine gR 11 rfl ?_
 subst h
 exact go_end ab (rs := [.tmp 4]) rfl rfl rfl
 refine gR 8 rfl <| qBeZ 14 15 rfl rfl rfl rfl h (fun h => ?_) fun h => ?_
 exact gR 3 rfl <| gJ (h K hK) [] [] rfl hK pq4 trivial rfl
 refine gR 7 rfl <| qBeZ 14 16 rfl rfl rfl rfl h (fun h => ?_) fun h => ?_
 exact gR 3 rfl <| gJ (h K hK) [] [] rfl hK pq4 trivial rfl
 refine gR 7 rfl <| qBeZ 14 17 rfl rfl rfl rfl h (fun h => ?_) fun h => ?_
 exact gR 3 rfl <| gJ (h K hK) [] [] rfl hK pq4 trivial rfl
 exact gR 6 rfl <| gJ (h K hK) [] [] rfl hK pq4 trivial rfl
theorem nV (m : Nat) (p0 : Int) (p1 : List UInt8) (a : Int) (b r0 : Bool) (h : ((b = true) → (a == 1) = r0) ∧ ((b = false) → ((p0 = 9) → ((a = 2) → true = r0) ∧ ((a ≠ 2) → (a == 4) = r0)) ∧ ((p0 ≠ 9) → ((p0 = 16) → ((a = 1) → true = r0) ∧ ((a ≠ 1) → (a == 3) = r0)) ∧ ((p0 ≠ 16) → ((p0 = 10) → (a == 5) = r0) ∧ ((p0 ≠ 10) → ((p0 = 11) → (a == 6) = r0) ∧ ((p0 ≠ 11) → ((p0 = 21) → ∃ c, fR p1 c ∧ c = r0) ∧ ((p0 ≠ 21) → (p1 == []) = r0))))))) : ds (m + 1) p0 p1 a b r0 := by
 intro K hK
 refine qBi 14 rfl rfl rfl h (fun h => ?_) fun h => ?_
 refine gR 11 rfl ?_
 subst h
 exact go_end ab (rs := [.tmp 4]) rfl rfl rfl
 refine gR 7 rfl <| qBeZ 21 22 rfl rfl rfl rfl h (fun h => ?_) fun h => ?_
 refine gR 6 rfl <| qBeZ 25 24 rfl rfl rfl rfl h (fun h => ?_) fun h => ?_
 refine gR 9 rfl ?_
 subst h
 exact go_end ab (rs := [.tmp 4]) rfl rfl rfl
 refine gR 9 rfl ?_
 subst h
 exact go_end ab (rs := [.tmp 4]) rfl rfl rfl
 refine gR 7 rfl <| qBeZ 29 30 rfl rfl rfl rfl h (fun h => ?_) fun h => ?_
 refine gR 6 rfl <| qBeZ 33 32 rfl rfl rfl rfl h (fun h => ?_) fun h => ?_
 refine gR 9 rfl ?_
 subst h
 exact go_end ab (rs := [.tmp 4]) rfl rfl rfl
 refine gR 9 rfl ?_
 subst h
 exact go_end ab (rs := [.tmp 4]) rfl rfl rfl
 refine gR 7 rfl <| qBeZ 37 38 rfl rfl rfl rfl h (fun h => ?_) fun h => ?_
 refine gR 11 rfl ?_
 subst h
 exact go_end ab (rs := [.tmp 4]) rfl rfl rfl
 refine gR 7 rfl <| qBeZ 41 42 rfl rfl rfl rfl h (fun h => ?_) fun h => ?_
 refine gR 11 rfl ?_
 subst h
 exact go_end ab (rs := [.tmp 4]) rfl rfl rfl
 refine gR 7 rfl <| qBeZ 45 46 rfl rfl rfl rfl h (fun h => ?_) fun h => ?_
 refine gR 4 rfl ?_
 obtain ⟨c, hs8, h⟩ := h
 refine gC0 hs8 (by kernel_rfl) rfl rfl .rfl rfl <| gR 6 rfl ?_
 subst h
 exact go_end ab (rs := [.tmp 4]) rfl rfl rfl
 refine gR 12 rfl ?_
 subst h
 exact go_end ab (rs := [.tmp 4]) rfl rfl rfl
def gu (m : Nat) (p0 : Tree) (p1 p2 : Int) (a r0 : Bool) : Prop := ∀ (K : Ctx), aq K [] → qLG K Tryz.f65 (fun u _ => u = .bool r0) (cB (xC (xG (ac Tryz.f65)))) [.blk 0, .seq (xH (ac Tryz.f65))] 62 (mkF 62 0 [(1, .int .i64 p1), (2, .int .i64 p2), (12, .int .i64 p0.kind), (38, .bool a)]) ⟨0, []⟩
theorem rp (m : Nat) (p0 : Tree) (p1 p2 : Int) (r0 : Bool) (h : ((p0.kind = 1) → ((p2 = 2) → true = r0) ∧ ((p2 ≠ 2) → (p2 == 3) = r0)) ∧ ((p0.kind ≠ 1) → ((p0.kind = 2) → ((p1 = ((p0.kids.length : Int) - 1)) → ∃ a, dW p2 a ∧ a = r0) ∧ ((p1 ≠ ((p0.kids.length : Int) - 1)) → ((p1 = ((p0.kids.length : Int) - 2)) → ∃ b, fz p2 b ∧ b = r0) ∧ ((p1 ≠ ((p0.kids.length : Int) - 2)) → (p2 == 4) = r0))) ∧ ((p0.kind ≠ 2) → ((p0.kind = 3) → gu m p0 p1 p2 true r0) ∧ ((p0.kind ≠ 3) → ((p0.kind = 4) → gu m p0 p1 p2 true r0) ∧ ((p0.kind ≠ 4) → gu m p0 p1 p2 (p0.kind == 8) r0))))) : kS p0 p1 p2 r0 := by
 refine ⟨rfl, rfl, ?_⟩
 refine am 62 [] Tryz.func65 rfl rfl rfl (aL rfl) fun K hK => ?_
 refine gR 3 rfl <| gFP 0 rfl rfl rfl rfl <| gR 8 rfl <| gV 10 (.int .i64 (p0.kids.length : Int)) rfl (bF (aE _)) rfl <| gLB 9 rfl (aE _) fun hl17 => gR 17 rfl <| gB 13 rfl rfl rfl ?_ ?_ <;> intro hd
 refine gT 14 rfl hd rfl ?_
 replace hd := (eq_of_beq hd)
 replace h := h.1 hd
 refine gR 6 rfl <| gB 17 rfl rfl rfl ?_ ?_ <;> intro hd
 refine gT 16 rfl hd rfl ?_
 replace hd := (eq_of_beq hd)
 replace h := h.1 hd
 refine gR 9 rfl ?_
 subst h
 exact go_end ab (rs := [.tmp 6]) rfl rfl rfl
 refine gF 16 rfl hd rfl ?_
 replace hd := (ne_of_beq_false hd)
 replace h := h.2 hd
 refine gR 9 rfl ?_
 subst h
 exact go_end ab (rs := [.tmp 6]) rfl rfl rfl
 refine gF 14 rfl hd rfl ?_
 replace hd := (ne_of_beq_false hd)
 replace h := h.2 hd
 refine gR 7 rfl <| gB 21 rfl rfl rfl ?_ ?_ <;> intro hd
 refine gT 22 rfl hd rfl ?_
 replace hd := (eq_of_beq hd)
 replace h := h.1 hd
 refine gR 12 rfl <| gV 26 (.int .i64 ((p0.kids.length : Int) - 1)) rfl (ax (by have := hl17; omega) rfl) rfl <| gR 4 rfl <| gB 24 rfl rfl rfl ?_ ?_ <;> intro hd
 refine gT 27 rfl hd rfl ?_
 replace hd := (eq_of_beq hd)
 replace h := h.1 hd
 refine gR 4 rfl ?_
 obtain ⟨a, hs18, h⟩ := h
 refine gC0 hs18 (by kernel_rfl) rfl rfl .rfl rfl <| gR 8 rfl ?_
 subst h
 exact go_end ab (rs := [.tmp 6]) rfl rfl rfl
 refine gF 27 rfl hd rfl ?_
 replace hd := (ne_of_beq_false hd)
 replace h := h.2 hd
 refine gR 5 rfl <| gV 32 (.int .i64 ((p0.kids.length : Int) - 2)) rfl (ax (by have := hl17; omega) rfl) rfl <| gR 4 rfl <| gB 30 rfl rfl rfl ?_ ?_ <;> intro hd
 refine gT 33 rfl hd rfl ?_
 replace hd := (eq_of_beq hd)
 replace h := h.1 hd
 refine gR 4 rfl ?_
 obtain ⟨b, hs19, h⟩ := h
 refine gC0 hs19 (by kernel_rfl) rfl rfl .rfl rfl <| gR 8 rfl ?_
 subst h
 exact go_end ab (rs := [.tmp 6]) rfl rfl rfl
 refine gF 33 rfl hd rfl ?_
 replace hd := (ne_of_beq_false hd)
 replace h := h.2 hd
 refine gR 14 rfl ?_
 subst h
 exact go_end ab (rs := [.tmp 6]) rfl rfl rfl
 refine gF 22 rfl hd rfl ?_
 replace hd := (ne_of_beq_false hd)
 replace h := h.2 hd
 refine gR 8 rfl <| gB 38 rfl rfl rfl ?_ ?_ <;> intro hd
 refine gT 39 rfl hd rfl ?_
 replace hd := (eq_of_beq hd)
 replace h := h.1 hd
 exact gR 3 rfl <| gJ (h K hK) [] [] rfl hK pq4 trivial rfl
 refine gF 39 rfl hd rfl ?_
 replace hd := (ne_of_beq_false hd)
 replace h := h.2 hd
 refine gR 7 rfl <| gB 38 rfl rfl rfl ?_ ?_ <;> intro hd
 refine gT 40 rfl hd rfl ?_
 replace hd := (eq_of_beq hd)
 replace h := h.1 hd
 exact gR 3 rfl <| gJ (h K hK) [] [] rfl hK pq4 trivial rfl
 refine gF 40 rfl hd rfl ?_
 replace hd := (ne_of_beq_false hd)
 replace h := h.2 hd
 exact gR 6 rfl <| gJ (h K hK) [] [] rfl hK pq4 trivial rfl
theorem ri (m : Nat) (p0 : Tree) (p1 p2 : Int) (b r0 : Bool) (h : ((b = true) → ∃ c, fz p2 c ∧ c = r0) ∧ ((b = false) → ((p0.kind = 16) → (p2 == 17) = r0) ∧ ((p0.kind ≠ 16) → ((p0.kind = 21) → ∃ a, fw p2 a ∧ ((a = true) → true = r0) ∧ ((a = false) → ((p1 = 0) → (p2 == 21) = r0) ∧ ((p1 ≠ 0) → false = r0))) ∧ ((p0.kind ≠ 21) → ∃ d, dW p2 d ∧ d = r0)))) : gu (m + 1) p0 p1 p2 b r0 := by
 intro K hK
 refine qBi 38 rfl rfl rfl h (fun h => ?_) fun h => ?_
 refine gR 4 rfl ?_
 obtain ⟨c, hs20, h⟩ := h
 refine gC0 hs20 (by kernel_rfl) rfl rfl .rfl rfl <| gR 6 rfl ?_
 subst h
 exact go_end ab (rs := [.tmp 6]) rfl rfl rfl
 refine gR 7 rfl <| qBeZ 44 45 rfl rfl rfl rfl h (fun h => ?_) fun h => ?_
 refine gR 11 rfl ?_
 subst h
 exact go_end ab (rs := [.tmp 6]) rfl rfl rfl
 refine gR 7 rfl <| qBeZ 48 49 rfl rfl rfl rfl h (fun h => ?_) fun h => ?_
 refine gR 4 rfl ?_
 obtain ⟨a, hs21, h⟩ := h
 refine gC0 hs21 (by kernel_rfl) rfl rfl .rfl rfl <| gR 1 rfl <| qBiZ 52 51 rfl rfl rfl rfl h (fun h => ?_) fun h => ?_
 refine gR 13 rfl ?_
 subst h
 exact go_end ab (rs := [.tmp 6]) rfl rfl rfl
 refine gR 3 rfl <| qBeZ 55 54 rfl rfl rfl rfl h (fun h => ?_) fun h => ?_
 refine gR 10 rfl ?_
 subst h
 exact go_end ab (rs := [.tmp 6]) rfl rfl rfl
 refine gR 10 rfl ?_
 subst h
 exact go_end ab (rs := [.tmp 6]) rfl rfl rfl
 refine gR 7 rfl ?_
 obtain ⟨d, hs22, h⟩ := h
 refine gC0 hs22 (by kernel_rfl) rfl rfl .rfl rfl <| gR 4 rfl ?_
 subst h
 exact go_end ab (rs := [.tmp 6]) rfl rfl rfl
def fe (m : Nat) (p0 : Tree) (a : Nat) (r0 : Bool) : Prop := ∀ (K : Ctx) (j1 : Nat), aq K [] → m ≤ j1 → qLG K Tryz.f39 (fun u _ => u = .bool r0) (xI (ac Tryz.f39)) [.loop (xI (ac Tryz.f39)) j1, .blk 0, .seq (xH (ac Tryz.f39))] 45 (mkF 45 0 [(1, .box (ae p0) 0), (3, .int .i64 (a : Int))]) ⟨0, []⟩
theorem qd (m : Nat) (p0 : Tree) (r0 : Bool) (h : ∃ a, ev p0.kind (p0.kids.length : Int) a ∧ ((a < 0) → false = r0) ∧ ((¬ a < 0) → ∃ b, gU p0.kind p0.text b ∧ ((b = false) → false = r0) ∧ ((b = true) → fe m p0 0 r0))) : dV p0 r0 := by
 refine ⟨rfl, rfl, ?_⟩
 refine am 45 [] Tryz.func39 rfl rfl rfl (aL rfl) fun K hK => ?_
 refine gR 3 rfl <| gFP 0 rfl rfl rfl rfl <| gR 11 rfl <| gV 8 (.int .i64 (p0.kids.length : Int)) rfl (bF (aE _)) rfl <| gLB 7 rfl (aE _) fun hl13 => ?_
 obtain ⟨a, hs14, h⟩ := h
 refine gC0 hs14 (by kernel_rfl) rfl rfl .rfl rfl <| gR 2 rfl <| gB 11 rfl rfl rfl ?_ ?_ <;> intro hd
 refine gT 10 rfl hd rfl ?_
 replace hd := (of_decide_eq_true hd)
 replace h := h.1 hd
 refine gR 17 rfl ?_
 subst h
 exact go_end ab (rs := [.tmp 2]) rfl rfl rfl
 refine gF 10 rfl hd rfl ?_
 replace hd := (of_decide_eq_false hd)
 replace h := h.2 hd
 refine gR 4 rfl ?_
 obtain ⟨b, hs15, h⟩ := h
 refine gC0 hs15 (by kernel_rfl) rfl rfl .rfl rfl <| gR 4 rfl <| gB 18 rfl rfl rfl ?_ ?_ <;> intro hd
 replace hd := (dD hd)
 replace h := h.1 hd
 refine gR 8 rfl ?_
 subst h
 exact go_end ab (rs := [.tmp 2]) rfl rfl rfl
 replace hd := (dC hd)
 replace h := h.2 hd
 exact gR 10 rfl <| go_loop m <| gJ (h K _ hK (by omega)) [] [] rfl hK pq2 trivial rfl
theorem li (m : Nat) (p0 : Tree) (a : Nat) (r0 : Bool) (h : ((a < p0.kids.length) → ∃ d, p0.kids[a]? = some d ∧ ∃ b, kS p0 (a : Int) d.kind b ∧ ((b = false) → false = r0) ∧ ((b = true) → ∃ e, p0.kids[a]? = some e ∧ ∃ c, dV e c ∧ ((c = false) → false = r0) ∧ ((c = true) → fe m p0 (a + 1) r0))) ∧ ((¬ a < p0.kids.length) → true = r0)) : fe (m + 1) p0 a r0 := by
 intro K j1 hK hj1
 obtain ⟨j1, rfl⟩ : ∃ j, j1 = j + 1 := ⟨j1 - 1, by omega⟩
 refine gR 7 rfl <| gV 22 (.int .i64 (p0.kids.length : Int)) rfl (bF (aE _)) rfl <| gLB 21 rfl (aE _) fun hl16 => gR 3 rfl <| gB 23 rfl rfl rfl ?_ ?_ <;> intro hd
 replace hd := (fh hd)
 replace h := h.1 hd
 refine gR 6 rfl <| gDs [] 19 19 rfl (by kernel_rfl) (by kernel_rfl) <| gDr [(0, 2), (1, 2), (2, 2), (3, 2), (4, 0)] (by kernel_rfl) rfl rfl ?_
 obtain ⟨d, hxt1_1, h⟩ := h
 refine bi 5 rfl (by kernel_rfl) (aI (av hxt1_1) ab rfl rfl rfl rfl) rfl rfl ?_
 refine gDr [(6, 0), (7, 0)] (by kernel_rfl) rfl rfl ?_
 obtain ⟨b, hs17, h⟩ := h
 refine cf 8 hs17 (by kernel_rfl) rfl (by kernel_rfl) rfl rfl .rfl rfl rfl ?_
 refine gDr [(9, 0), (10, 0)] (by kernel_rfl) rfl rfl <| gB 36 rfl rfl rfl ?_ ?_ <;> intro hd
 refine gT 35 rfl hd rfl ?_
 replace hd := (dD hd)
 replace h := h.1 hd
 refine gDr [(11, 2), (12, 2), (13, 0), (14, 0), (15, 0), (16, 0), (17, 0), (18, 0)] (by kernel_rfl) rfl rfl <| gDe (by kernel_rfl) <| gR 10 rfl <| go_xloopR <| gR 2 rfl ?_
 subst h
 exact go_end ab (rs := [.tmp 2]) rfl rfl rfl
 refine gF 35 rfl hd rfl ?_
 replace hd := (dC hd)
 replace h := h.2 hd
 refine gDr [(11, 2), (12, 2), (13, 0)] (by kernel_rfl) rfl rfl ?_
 obtain ⟨e, hxt1_3, h⟩ := h
 refine bi 14 rfl (by kernel_rfl) (aI (av hxt1_3) ab rfl rfl rfl rfl) rfl rfl ?_
 refine gDr [(15, 0)] (by kernel_rfl) rfl rfl ?_
 obtain ⟨c, hs18, h⟩ := h
 refine cf 16 hs18 (by kernel_rfl) rfl (by kernel_rfl) rfl rfl .rfl rfl rfl ?_
 refine gDr [(17, 0), (18, 0)] (by kernel_rfl) rfl rfl <| gDe (by kernel_rfl) <| gR 1 rfl <| gB 44 rfl rfl rfl ?_ ?_ <;> intro hd
 replace hd := (dD hd)
 replace h := h.1 hd
 refine gR 9 rfl <| go_xloopR <| gR 2 rfl ?_
 subst h
 exact go_end ab (rs := [.tmp 2]) rfl rfl rfl
 replace hd := (dC hd)
 replace h := h.2 hd
 exact gR 7 rfl <| gV 25 (.int .i64 ((a + 1 : Nat) : Int)) rfl (ax (by have := hl16; omega) (by omega)) rfl <| gR 2 rfl <| go_xloop <| gJ (h K _ hK (by omega)) [] [] rfl hK pq2 trivial rfl
 replace hd := (fo hd)
 replace h := h.2 hd
 refine gR 3 rfl <| go_xloopE <| gR 8 rfl ?_
 subst h
 exact go_end ab (rs := [.tmp 2]) rfl rfl rfl
end Go.Proofs.YtaoiaeohojfdgaaGreat
