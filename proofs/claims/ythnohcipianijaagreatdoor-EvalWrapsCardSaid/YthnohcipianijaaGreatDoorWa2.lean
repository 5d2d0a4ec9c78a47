/- Contracts of the functions that the law reaches, part 2. -/
import Derived.Test.YthnohcipianijaaGreatDoorWa1
set_option linter.unusedVariables false
set_option linter.unusedSimpArgs false
namespace Go.Proofs.YthnohcipianijaaGreatDoor
open Go.RowKit
def qD (d : Nat) : Operand → Bool
 | .tmp t => !Nat.beq t d
 | _ => true
def iX (d : Option Tmp) (ps : List (Nat × Operand)) : Bool := match d with
 | some d => ps.all fun p => qD d p.2
 | none => true
def nC (d e : Option Tmp) : Bool := match d, e with
 | some d, some e => !Nat.beq d e
 | _, _ => true
section
variable {P : Program} {T : Tab} {K : Ctx} {Q : Exit → Act → World → Prop} {s : List EI} {n : Nat} {F : Fm} {H : Hp} {S : Nat → Prop} {w : World} {ρ : Nat → Option Value} {a : Act}
theorem uL {d : Nat} {x : Operand} {y : Value} (h : qD d x = true) : ay (fA (a.put (some d) y)) x = ay (fA a) x := by
 cases x with
 | tmp t =>
  have hne : t ≠ d := fun e => by subst e; simp [qD] at h
  simp only [ay, fA, Act.put, Array.getElem?_setIfInBounds]
  rw [if_neg (fun e => hne e.symm)]
 | _ => rfl
theorem rQ {d : Option Tmp} {y : Value} : ∀ {ps : List (Nat × Operand)}, iX d ps = true → bV (fA (a.put d y)) ps = bV (fA a) ps := by
 intro ps h
 cases d with
 | none => rfl
 | some d =>
  induction ps with
  | nil => rfl
  | cons p r ih =>
   obtain ⟨i, x⟩ := p
   simp only [iX, List.all_cons, Bool.and_eq_true] at h
   have ih' := ih (by simp only [iX]; exact h.2)
   simp only [bV, uL h.1, ih']
theorem PRel.up {S' : Nat → Prop} {w' : World} {ρ' : Nat → Option Value} (u : Up S S' w w' ρ ρ') : ∀ {vs : List (Nat × V)} {ys : List (Nat × Value)}, PRel S w ρ vs ys → PRel S' w' ρ' vs ys
 | [], ys, h => h
 | (i, v) :: r, ys, h => by
  simp only [PRel] at h ⊢
  obtain ⟨x, zs, h1, h2, h3⟩ := h
  exact ⟨x, zs, h1, h2.up u, PRel.up u h3⟩
theorem rN {d e : Option Tmp} {v u : Option V} (h : nC d e = true) : (F.seto d v).seto e u = (F.seto e u).seto d v := by
 cases d with
 | none => rfl
 |some d => cases e with
  | none => rfl
  | some e =>
   have : d ≠ e := fun x => by subst x; simp [nC] at h
   simp only [Fm.seto]
   exact List.set_comm _ _ this
theorem rJ {d : Option Tmp} {v : V} (hd : ∀ t, d = some t → F.get t = none) (hF : FRel S w ρ a n (F.seto d (some v))) : FRel S w ρ a n F := by
 cases d with
 | none => exact hF
 | some d =>
  refine ⟨hF.size, hF.defers, by have := hF.len; simpa [Fm.seto] using this, fun i u hu => hF.get i u ?_⟩
  have hne : d ≠ i := fun e => by subst e; rw [hd d rfl] at hu; cases hu
  rw [Fm.get_eq] at hu ⊢
  simp only [Fm.seto, List.getElem?_set, if_neg hne]
  exact hu
variable {all : Array Oper} {L : List Nat} {m left i : Nat} {listed : Array Bool} {o : Oper}
def GoP (P : Program) (K : Ctx) (Q : Exit → Act → World → Prop) (all : Array Oper) (L : List Nat) (m left : Nat) (listed : Array Bool) (s : List EI) (n : Nat) (F : Fm) (H : Hp) (i : Nat) (o : Oper) (ps : List (Nat × Operand)) (vs : List (Nat × V)) (v : V) : Prop :=
  ∀ S w ρ a, HRel S w ρ H.get → Inv K S w ρ H.get → Region.noSelect all = true →
    (FRel S w ρ a n F → (∃ ys, bV (fA a) ps = some ys ∧ PRel S w ρ vs ys) → wpB P all (NoPanic (bq P Q s)) (Agree S w) (Ls ρ L w) m (left + 1) listed a w) ∧
    (FRel S w ρ a n (F.seto o.dst (some v)) → wpB P all (NoPanic (bq P Q s)) (Agree S w) (Ls ρ L w) m left (listed.setIfInBounds i true) a w)
theorem rP {ps : List (Nat × Operand)} {vs : List (Nat × V)} {v : V} (hv : eg F ps = some vs) (k : GoP P K Q all L m left listed s n (F.seto o.dst none) H i o ps vs v) : Go P K Q (.drw all L m (left + 1) listed) s n F H := fun S w ρ a hr hi hF hs => by
 obtain ⟨ys, h1, h2⟩ := gl hF hv
 refine (k S w ρ a hr hi hs).1 ?_ ⟨ys, h1, h2⟩
 refine ⟨hF.size, hF.defers, ?_, fun j u hu => ?_⟩
 ·cases hd : o.dst with
  | none => exact hF.len
  | some d => have := hF.len; simpa [Fm.seto] using this
 ·cases hd : o.dst with
  | none => rw [hd] at hu; exact hF.get j u hu
  | some d =>
   rw [hd, Fm.get_eq] at hu
   simp only [Fm.seto, List.getElem?_set] at hu
   split at hu
   ·split at hu <;> simp at hu
   ·exact hF.get j u (by rw [Fm.get_eq]; exact hu)
theorem my {w' : World} {b : Nat} (hc : Chg [] w w') : Up S (fun c => S c ∨ c = b) w w' ρ ρ := ⟨fun _ h => .inl h, fun c _ hlt => hc.block c hlt (by simp), fun _ _ h => h⟩
theorem sh {h : Nat → Ob} {w' : World} {b : Nat} (hr : HRel S w ρ h) (hc : Chg [] w w') (hb : b = w.heap.size) (hb' : b < w'.heap.size) : HRel (fun c => S c ∨ c = b) w' ρ h := by
 refine ⟨fun i => (hr.ob i).up (my hc) (fun hf => ?_) (fun c hcc => hc.block c (cd (hr.ob i) hcc) (by simp)), fun i c hcc => ?_, hr.dis, fun c hcc => ?_⟩
 ·have := hr.ob i; rw [hf] at this; exact this
 ·rintro (h1 | h1)
  ·exact hr.sep i c hcc h1
  ·have := cd (hr.ob i) hcc; omega
 ·rcases hcc with h1 | h1
  ·exact Nat.lt_of_lt_of_le (hr.slt c h1) hc.size
  ·omega
theorem tI {h : Nat → Ob} {w' : World} {b : Nat} (hi : Inv K S w ρ h) (hc : Chg [] w w') (hb : b = w.heap.size) : Inv K (fun c => S c ∨ c = b) w' ρ h := by
 have h0 := hi.chg0 hc
 refine ⟨h0.chg, fun c hcc => .inl (hi.s0 c hcc), fun c hcc => ?_, hi.ow, hi.pin⟩
 rcases hcc with h1 | h1
 ·exact hi.s1 c h1
 ·have := hi.chg.size; exact .inr (.inr (by omega))
theorem pw {h : Nat → Ob} {t e : TypeId} {ps : List (Nat × Operand)} {vs : List (Nat × V)} {ys : List (Nat × Value)} {d : TD} {k : Nat} {ty : TypeId} {els : List V} (hT : TabOk P T) (hr : HRel S w ρ h) (hi : Inv K S w ρ h) (fr : Fr a n (fA a)) (hps : bV (fA a) ps = some ys) (hpr : PRel S w ρ vs ys)
  {x1 x2 : Nat} {x3 : V} (ht : T.ty t = some ⟨x1, x2, x3, .sl e⟩) (he : T.ty e = some d) (hp : dN d.size 0 vs = some els) (hb : (Nat.beq els.length k && Nat.ble (k * d.size) 16777216 && Nat.ble k 16777216 && pureL els) = true) :
  ∃ x S' w', Runs P a ty (.buildSlice t k ps.toArray) w (.value x) w' ∧ HRel S' w' ρ h ∧ Inv K S' w' ρ h ∧ Up S S' w w' ρ ρ ∧ Chg [] w w' ∧ VRel S' w' ρ (.row d.size els) x := by
 simp only [Bool.and_eq_true, Nat.beq_eq] at hb
 obtain ⟨⟨⟨hl, hsm⟩, hm⟩, hpu⟩ := hb
 have hmm : k ≤ 16777216 := Nat.le_of_ble_eq_true hm
 obtain ⟨z, hz1, hz2⟩ := (hT.ty _ _ he).zeroT
 obtain ⟨h1, h2, h3⟩ := iT hpr hp
 have hidx : ps.map (·.1) = List.range k := by
  have : ps.map (·.1) = ys.map (·.1) := by rw [← fr.parts hps]; simp
  rw [this, h1, hl, List.range_eq_range']
 obtain ⟨w', b, g1, g2, g3, g4, g5⟩ := mR (P := P) (t := t) (m := k) fr hps ((hT.ty _ _ ht).sl rfl) (hT.ty _ _ he).size hz1 hidx h2 hsm rfl w ty
 have hlen := h3.length
 refine ⟨_, fun c => S c ∨ c = b, w', g1, sh hr g3 g4 g5, tI hi g3 g4, my g3, g3, ?_⟩
 simp only [VRel]
 refine ⟨some ⟨b, 0, none⟩, k, _, by rw [hl], by omega, by simp only [maxLen]; omega, (h3.up (my g3)).pure hpu, hlen, fun _ => ⟨b, 0, rfl, .inr rfl, g5, fun j hj => by rw [Nat.zero_add, g2.cell]⟩⟩
def iG (T : Tab) (all : Array Oper) (i : Nat) (vs : List (Nat × V)) : Option (Oper × List (Nat × Operand) × V) := match all[i]? with
 |some ⟨dst, .buildSlice t k ⟨ps⟩, ty, pp, af, none⟩ => match T.ty t with
  |some ⟨_, _, _, .sl e⟩ => match T.ty e with
   |some d => match dN d.size 0 vs with
    |some els => match Nat.beq els.length k && Nat.ble (k * d.size) 16777216 && Nat.ble k 16777216 && pureL els with
     | true => ch d.size fun sz => some (⟨dst, .buildSlice t k ⟨ps⟩, ty, pp, af, none⟩, ps, .row sz els)
     | false => none
    | none => none
   | none => none
  | _ => none
 | _ => none
variable {ps : List (Nat × Operand)} {vs : List (Nat × V)} {v : V}
theorem nb (hT : TabOk P T) (hp : iG T all i vs = some (o, ps, v)) (hr : HRel S w ρ H.get) (hiv : Inv K S w ρ H.get) (hF : FRel S w ρ a n F) {ys : List (Nat × Value)} (hps : bV (fA a) ps = some ys) (hpr : PRel S w ρ vs ys) (hs : Region.noSelect all = true)
  (hl : (bg H.get L || (listed.setIfInBounds i true).getD m false) = true)
  (D : ∀ S w ρ a, HRel S w ρ H.get → Inv K S w ρ H.get → FRel S w ρ a n (F.seto o.dst (some v)) → wpB P all (NoPanic (bq P Q s)) (Agree S w) (Ls ρ L w) m left (listed.setIfInBounds i true) a w) :
  wpOp P all (NoPanic (bq P Q s)) i (fun a' w' => Agree S w w' ∧ (Ls ρ L w w' ∨ (listed.setIfInBounds i true).getD m false = true) ∧ wpB P all (NoPanic (bq P Q s)) (Agree S w) (Ls ρ L w) m left (listed.setIfInBounds i true) a' w') a w := by
 unfold iG at hp
 split at hp
 ·rename_i dst t k ps' ty pp af hi
  split at hp
  ·rename_i e ht
   split at hp
   ·rename_i d he
    split at hp
    ·rename_i els hrp
     split at hp
     ·rename_i hb
      rw [bn] at hp
      simp only [Option.some.injEq, Prod.mk.injEq] at hp
      obtain ⟨rfl, rfl, rfl⟩ := hp
      obtain ⟨x, S', w', g1, g2, g3, g4, g5, g6⟩ := pw (ty := ty) hT hr hiv hF.fr hps hpr ht he hrp hb
      unfold wpOp
      simp only [hi]
      rw [if_pos (aN hF (o := ⟨dst, .buildSlice t k ⟨ps'⟩, ty, pp, af, none⟩) rfl)]
      refine .inl ?_
      have hk := D S' w' ρ _ g2 g3 (aS (hF.up g4) dst g6)
      unfold Oper.wp
      rw [g1 dst pp af none]
      refine dj g4 (fun b hb => g5.block b (hr.slt b hb) (by simp)) ((kH hl).imp (fun hl id hid x b hx hb => ?_) id) hk
      exact g5.block b (cd (hr.ob id) (eK hr hl id hid x b hx hb)) (by simp)
     ·cases hp
    ·cases hp
   ·cases hp
  ·cases hp
 ·cases hp
theorem ug (hT : TabOk P T) (hp : iG T all i vs = some (o, ps, v)) (hrd : Region.ready .any all listed = [i]) (hl : (bg H.get L || (listed.setIfInBounds i true).getD m false) = true)
  (kk : Go P K Q (.drw all L m left (listed.setIfInBounds i true)) s n (F.seto o.dst (some v)) H) : GoP P K Q all L m left listed s n F H i o ps vs v := fun S w ρ a hr hiv hs => by
 refine ⟨fun hF ⟨ys, hps, hpr⟩ => fP (S := S) hrd (nb hT hp hr hiv hF hps hpr hs hl fun S w ρ a hr hiv hF => kk S w ρ a hr hiv hF hs), fun hF => kk S w ρ a hr hiv hF hs⟩
theorem pC {j : Nat} {B Sx : World → Prop} {Q' : Exit → Act → World → Prop} (hrd : (match Region.ready .any all listed with | [x, y] => (Nat.beq x i && Nat.beq y j) || (Nat.beq x j && Nat.beq y i) | _ => false) = true)
  (h1 : wpOp P all Q' i (fun a' w' => B w' ∧ (Sx w' ∨ (listed.setIfInBounds i true).getD m false = true) ∧ wpB P all Q' B Sx m left (listed.setIfInBounds i true) a' w') a w)
  (h2 : wpOp P all Q' j (fun a' w' => B w' ∧ (Sx w' ∨ (listed.setIfInBounds j true).getD m false = true) ∧ wpB P all Q' B Sx m left (listed.setIfInBounds j true) a' w') a w) : wpB P all Q' B Sx m (left + 1) listed a w := by
 split at hrd
 ·rename_i x y hr
  refine ⟨fun h0 => (by rw [hr] at h0; cases h0), fun c hc => ?_⟩
  rw [hr] at hc
  simp only [Bool.or_eq_true, Bool.and_eq_true, Nat.beq_eq] at hrd
  simp only [List.mem_cons, List.not_mem_nil, or_false] at hc
  rcases hrd with ⟨rfl, rfl⟩ | ⟨rfl, rfl⟩
  ·rcases hc with rfl | rfl
   ·exact h1
   ·exact h2
  ·rcases hc with rfl | rfl
   ·exact h2
   ·exact h1
 ·cases hrd
theorem ss (hT : TabOk P T) (hp : iG T all i vs = some (o, ps, v)) {j : Nat} {oj : Oper} (hj : all[j]? = some oj) (hrd : (match Region.ready .any all listed with | [x, y] => (Nat.beq x i && Nat.beq y j) || (Nat.beq x j && Nat.beq y i) | _ => false) = true) (hrd1 : Region.ready .any all (listed.setIfInBounds i true) = [j])
  (hl : (bg H.get L || (listed.setIfInBounds i true).getD m false) = true) (hd : ∀ t, o.dst = some t → F.get t = none) (hne : nC o.dst oj.dst = true) (hpn : iX oj.dst ps = true) (hcomm : (listed.setIfInBounds i true).setIfInBounds j true = (listed.setIfInBounds j true).setIfInBounds i true)
  {Post : V → Hp → Prop}
  (hx : ∀ S w ρ a, HRel S w ρ H.get → Inv K S w ρ H.get → FRel S w ρ a n F → ∀ (K2 : Act → World → Prop), (∀ x S' w' ρ' u H', Post u H' → HRel S' w' ρ' H'.get → Inv K S' w' ρ' H'.get → Up S S' w w' ρ ρ' → Agree S w w' → (Ls ρ L w w' ∨ ((listed.setIfInBounds j true).getD m false = true ∧ ((listed.setIfInBounds j true).setIfInBounds i true).getD m false = true)) → VRel S' w' ρ' u x → K2 (a.put oj.dst x) w') → wpOp P all (NoPanic (bq P Q s)) j K2 a w)
  (kk : ∀ u H', Post u H' → GoP P K Q all L m left (listed.setIfInBounds j true) s n (F.seto oj.dst (some u)) H' i o ps vs v) : GoP P K Q all L m (left + 1) listed s n F H i o ps vs v := fun S w ρ a hr hiv hs => by
 have D : ∀ S w ρ a, HRel S w ρ H.get → Inv K S w ρ H.get → FRel S w ρ a n (F.seto o.dst (some v)) → wpB P all (NoPanic (bq P Q s)) (Agree S w) (Ls ρ L w) m (left + 1) (listed.setIfInBounds i true) a w := fun S w ρ a hr hiv hF => by
  refine fP (S := S) hrd1 ?_
  refine hx S w ρ a hr hiv (rJ hd hF) _ fun x S' w' ρ' u H' hP hr' hi' hu hA hL hv => ?_
  rw [hcomm]
  refine dj hu hA (hL.imp id (·.2)) ((kk u H' hP S' w' ρ' _ hr' hi' hs).2 ?_)
  rw [← rN hne]
  exact aS (hF.up hu) oj.dst hv
 refine ⟨fun hF ⟨ys, hps, hpr⟩ => ?_, D S w ρ a hr hiv⟩
 refine pC hrd (nb hT hp hr hiv hF hps hpr hs hl D) ?_
 refine hx S w ρ a hr hiv hF _ fun x S' w' ρ' u H' hP hr' hi' hu hA hL hv => ?_
 refine dj hu hA (hL.imp id (·.1)) ((kk u H' hP S' w' ρ' _ hr' hi' hs).1 (aS (hF.up hu) oj.dst hv) ⟨ys, ?_, hpr.up hu⟩)
 rw [rQ hpn]; exact hps
end
section
variable {P : Program} {T : Tab} {K : Ctx} {Q : Exit → Act → World → Prop} {s : List EI} {n : Nat} {F : Fm} {H : Hp}
def en (P : Program) (K : Ctx) (o : Oper) (L : List Nat) (ok : Bool) (n : Nat) (F : Fm) (H : Hp) (u : V) (H' : Hp) : Prop :=
  ∀ S w ρ a, HRel S w ρ H.get → Inv K S w ρ H.get → FRel S w ρ a n F → ∀ (Q' : Exit → Act → World → Prop) (K2 : Act → World → Prop),
    (∀ x S' w' ρ', HRel S' w' ρ' H'.get → Inv K S' w' ρ' H'.get → Up S S' w w' ρ ρ' → Agree S w w' → (Ls ρ L w w' ∨ ok = true) → VRel S' w' ρ' u x → K2 (a.put o.dst x) w') → o.wp P a w K2 Q'
theorem rK (hT : TabOk P T) {o : Oper} {L : List Nat} {ok : Bool} {v : V} (hv : fu T H.get F o.op = some v) : en P K o L ok n F H v H := fun S w ρ a hr hi hF Q' K2 k => by
 obtain ⟨x, h1, h2⟩ := jP (ty := o.type) hT hr hF hv
 have := k x S w ρ hr hi Up.refl Agree.refl (.inl fT) h1
 obtain ⟨d, op, ty, ps, af, g⟩ := o
 unfold Oper.wp
 rw [h2 w Agree.refl d ps af g]
 exact this
theorem ac (hT : TabOk P T) {o : Oper} {L : List Nat} {ok : Bool} {v : Option V} {ed : ED} (hv : eB T H.get F H.nx o.op = some (v, ed)) (hc : ((bg H.get L && ed.clear L) || ok) = true) : en P K o L ok n F H (v.getD (.tup [])) (H.app ed) := fun S w ρ a hr hi hF Q' K2 k => by
 obtain ⟨nx, w', ρ', h1, h2, h3⟩ := kL (ty := o.type) hT hr hF H.get_free hv
 have hr' := h2.hr
 have hi' := hi.eff h2
 rw [← Hp.get_app (iI hv)] at hr' hi'
 have hLs : Ls ρ L w w' ∨ ok = true := (kH hc).imp (fun h => by
  simp only [Bool.and_eq_true] at h
  exact pd hr h2 h.1 h.2) id
 have kk := fun x hx => k x S w' ρ' hr' hi' h2.up (hG hr h2) hLs hx
 obtain ⟨d, op, ty, ps, af, g⟩ := o
 unfold Oper.wp
 rw [h1 d ps af g]
 cases v with
 | none =>
  subst h3
  exact kk undef jw
 | some v =>
  obtain ⟨x, rfl, h4⟩ := h3
  exact kk x h4
theorem ak {o : Oper} {L : List Nat} {ok : Bool} {fid : FuncId} {args : List Operand} {tys : Array TypeId} {vs : List V} {u : V} {H' : Hp} {L' : List Nat} (he : bI P fid = true) (ho : o.op = .call { callee := .value (.func fid), args := args.toArray, argTypes := tys }) (hv : db F args = some vs) (hC : CallR P K fid vs H L' (fun u' H'' => u' = u ∧ H'' = H')) (hL : L' = L ∨ ok = true) : en P K o L ok n F H u H' := fun S w ρ a hr hi hF Q' K2 k => by
 obtain ⟨xs, h1, h2⟩ := fK hF hv
 have hcl := hC S w ρ xs hr hi h2
 obtain ⟨d, op, ty, ps, af, g⟩ := o
 simp only at ho
 subst ho
 have hx : (execOp a.eval ⟨d, .call { callee := .value (.func fid), args := args.toArray, argTypes := tys }, ty, ps, af, g⟩).run P w = .ok (.enter fid xs.toArray) w := by
  have e : args.toArray.map a.eval = xs.toArray := by rw [← hF.fr.vals h1]; simp
  simp only [execOp, resolve, e]
  simp [Act.eval, Deferred.ofValue, invoke, fa he]
 unfold Oper.wp
 rw [hx, Oper.upon_enter]
 refine hcl.mono fun e w1 hR => ?_
 obtain ⟨x, S', ρ', v, H'', rfl, ⟨rfl, rfl⟩, hr', hi', hu, hvr, hls⟩ := hR
 exact k x S' w1 ρ' hr' hi' hu (fun b hb => hu.blk b hb (hr.slt b hb)) (hL.imp (fun e => by subst e; exact hls) id) hvr
theorem ah {all : Array Oper} {L : List Nat} {m left i j : Nat} {listed : Array Bool} {oi oj : Oper} {ui uj : V} {Hi Hj : Hp} (hrd : (match Region.ready .any all listed with | [x, y] => (Nat.beq x i && Nat.beq y j) || (Nat.beq x j && Nat.beq y i) | _ => false) = true) (hi : all[i]? = some oi) (hj : all[j]? = some oj) (hwi : aF F all oi.guard = some true) (hwj : aF F all oj.guard = some true)
  (xi : en P K oi L ((listed.setIfInBounds i true).getD m false) n F H ui Hi) (xj : en P K oj L ((listed.setIfInBounds j true).getD m false) n F H uj Hj)
  (ki : Go P K Q (.drw all L m left (listed.setIfInBounds i true)) s n (F.seto oi.dst (some ui)) Hi) (kj : Go P K Q (.drw all L m left (listed.setIfInBounds j true)) s n (F.seto oj.dst (some uj)) Hj) : Go P K Q (.drw all L m (left + 1) listed) s n F H := fun S w ρ a hr hiv hF hs => by
 refine pC hrd ?_ ?_
 ·unfold wpOp
  simp only [hi]
  rw [if_pos (aN hF hwi)]
  exact .inl (xi S w ρ a hr hiv hF _ _ fun x S' w' ρ' hr' hi' hu hA hL hv => dj hu hA hL (ki S' w' ρ' _ hr' hi' (aS (hF.up hu) oi.dst hv) hs))
 ·unfold wpOp
  simp only [hj]
  rw [if_pos (aN hF hwj)]
  exact .inl (xj S w ρ a hr hiv hF _ _ fun x S' w' ρ' hr' hi' hu hA hL hv => dj hu hA hL (kj S' w' ρ' _ hr' hi' (aS (hF.up hu) oj.dst hv) hs))
end
end Go.Proofs.YthnohcipianijaaGreatDoor
namespace Go.Proofs.YthnohcipianijaaGreatDoor
open Go.RowKit
def atN : List Nat → Nat → Option Nat
 | [], _ => none
 | x :: _, 0 => some x
 | _ :: r, i + 1 => atN r i
theorem eX : ∀ (l : List Nat) (i : Nat), atN l i = l[i]?
 | [], i => by simp [atN]
 | x :: r, 0 => by simp [atN]
 | x :: r, i + 1 => by simp [atN, eX r i]
abbrev re : V := .raw (.agg #[])
mutual
def V.ren (σ : List Nat) : V → V
 |.ptr id o => match atN σ id with
  | some j => .ptr j o
  | none => re
 |.el id sz i o => match atN σ id with
  | some j => .el j sz i o
  | none => re
 |.sl id => match atN σ id with
  | some j => .sl j
  | none => re
 | .agg cs => .agg (renL σ cs)
 | .tup cs => .tup (renL σ cs)
 | .clo fid cs => .clo fid (renL σ cs)
 | .int k n => .int k n
 | .bool b => .bool b
 | .str l => .str l
 | .nilp => .nilp
 | .nils => .nils
 | .raw x => .raw x
 | .box cs o => .box cs o
 | .row sz els => .row sz els
 | .lk els => .lk els
def renL (σ : List Nat) : List V → List V
 | [] => []
 | v :: r => v.ren σ :: renL σ r
end
def Ob.ren (σ : List Nat) : Ob → Ob
 | .var t cs => .var t (renL σ cs)
 | .row e sz els => .row e sz (renL σ els)
 | o => o
def cb (σ : List Nat) (ρ : Nat → Option Value) : Nat → Option Value := fun j => match atN σ j with
 | some i => ρ i
 | none => none
section
variable {S : Nat → Prop} {w : World} {ρ : Nat → Option Value} {σ : List Nat}
theorem oV {x : Value} (h : VRel S w ρ re x) : False := by simp only [VRel, Value.oneCell'] at h; exact absurd h.2 (by simp)
mutual
theorem VRel.ren : ∀ {v : V} {x : Value}, VRel S w ρ (v.ren σ) x → VRel S w (cb σ ρ) v x
 | .int _ _, x, h => by simp only [V.ren, VRel] at h ⊢; exact h
 | .bool _, x, h => by simp only [V.ren, VRel] at h ⊢; exact h
 | .str _, x, h => by simp only [V.ren, VRel] at h ⊢; exact h
 | .nilp, x, h => by simp only [V.ren, VRel] at h ⊢; exact h
 | .nils, x, h => by simp only [V.ren, VRel] at h ⊢; exact h
 | .raw _, x, h => by simp only [V.ren, VRel] at h ⊢; exact h
 | .box _ _, x, h => by simp only [V.ren, VRel] at h ⊢; exact h
 | .row _ _, x, h => by simp only [V.ren, VRel] at h ⊢; exact h
 | .lk _, x, h => by simp only [V.ren, VRel] at h ⊢; exact h
 | .ptr id o, x, h => by
  simp only [V.ren] at h
  split at h
  ·rename_i j hj
   simp only [VRel] at h ⊢
   obtain ⟨b, h1, h2⟩ := h
   exact ⟨b, by simp only [cb, hj]; exact h1, h2⟩
  ·exact (oV h).elim
 | .el id sz i o, x, h => by
  simp only [V.ren] at h
  split at h
  ·rename_i j hj
   simp only [VRel] at h ⊢
   obtain ⟨b, n, c, h1, h2⟩ := h
   exact ⟨b, n, c, by simp only [cb, hj]; exact h1, h2⟩
  ·exact (oV h).elim
 | .sl id, x, h => by
  simp only [V.ren] at h
  split at h
  ·rename_i j hj
   simp only [VRel] at h ⊢
   exact ⟨by simp only [cb, hj]; exact h.1, h.2⟩
  ·exact (oV h).elim
 | .agg cs, x, h => by
  simp only [V.ren, VRel] at h ⊢
  obtain ⟨xs, h1, h2⟩ := h
  exact ⟨xs, h1, LRel.ren h2⟩
 | .tup cs, x, h => by
  simp only [V.ren, VRel] at h ⊢
  obtain ⟨xs, h1, h2⟩ := h
  exact ⟨xs, h1, LRel.ren h2⟩
 | .clo fid cs, x, h => by
  simp only [V.ren, VRel] at h ⊢
  obtain ⟨xs, h1, h2⟩ := h
  exact ⟨xs, h1, LRel.ren h2⟩
theorem LRel.ren : ∀ {v : List V} {x : List Value}, LRel S w ρ (renL σ v) x → LRel S w (cb σ ρ) v x
 | [], x, h => by simp only [renL, LRel] at h ⊢; exact h
 | v :: r, x, h => by
  simp only [renL, LRel] at h ⊢
  obtain ⟨y, ys, h1, h2, h3⟩ := h
  exact ⟨y, ys, h1, VRel.ren h2, LRel.ren h3⟩
end
theorem lz : ∀ (l : List V), (renL σ l).length = l.length
 | [] => by simp [renL]
 | v :: r => by simp [renL, lz r]
theorem CRel.ren {sz : Nat} : ∀ {v : List V} {x : List Value}, CRel S w ρ sz (renL σ v) x → CRel S w (cb σ ρ) sz v x
 | [], x, h => by simp only [renL, CRel] at h ⊢; exact h
 | v :: r, x, h => by
  simp only [renL, CRel] at h ⊢
  obtain ⟨y, ys, h1, h2, h3, h4⟩ := h
  exact ⟨y, ys, h1, h2, VRel.ren h3, CRel.ren h4⟩
mutual
theorem VRel.bwd {ρ' : Nat → Option Value} (hσ : ∀ j x, ρ j = some x → ∃ i, atN σ j = some i ∧ ρ' i = some x) : ∀ {v : V} {x : Value}, VRel S w ρ v x → VRel S w ρ' (v.ren σ) x
 | .int _ _, x, h => by simp only [V.ren, VRel] at h ⊢; exact h
 | .bool _, x, h => by simp only [V.ren, VRel] at h ⊢; exact h
 | .str _, x, h => by simp only [V.ren, VRel] at h ⊢; exact h
 | .nilp, x, h => by simp only [V.ren, VRel] at h ⊢; exact h
 | .nils, x, h => by simp only [V.ren, VRel] at h ⊢; exact h
 | .raw _, x, h => by simp only [V.ren, VRel] at h ⊢; exact h
 | .box _ _, x, h => by simp only [V.ren, VRel] at h ⊢; exact h
 | .row _ _, x, h => by simp only [V.ren, VRel] at h ⊢; exact h
 | .lk _, x, h => by simp only [V.ren, VRel] at h ⊢; exact h
 | .ptr id o, x, h => by
  simp only [VRel] at h
  obtain ⟨b, h1, h2⟩ := h
  obtain ⟨i, h3, h4⟩ := hσ _ _ h1
  simp only [V.ren, h3, VRel]
  exact ⟨b, h4, h2⟩
 | .el id sz i o, x, h => by
  simp only [VRel] at h
  obtain ⟨b, n, c, h1, h2⟩ := h
  obtain ⟨i', h3, h4⟩ := hσ _ _ h1
  simp only [V.ren, h3, VRel]
  exact ⟨b, n, c, h4, h2⟩
 | .sl id, x, h => by
  simp only [VRel] at h
  obtain ⟨i, h3, h4⟩ := hσ _ _ h.1
  simp only [V.ren, h3, VRel]
  exact ⟨h4, h.2⟩
 | .agg cs, x, h => by
  simp only [V.ren, VRel] at h ⊢
  obtain ⟨xs, h1, h2⟩ := h
  exact ⟨xs, h1, LRel.bwd hσ h2⟩
 | .tup cs, x, h => by
  simp only [V.ren, VRel] at h ⊢
  obtain ⟨xs, h1, h2⟩ := h
  exact ⟨xs, h1, LRel.bwd hσ h2⟩
 | .clo fid cs, x, h => by
  simp only [V.ren, VRel] at h ⊢
  obtain ⟨xs, h1, h2⟩ := h
  exact ⟨xs, h1, LRel.bwd hσ h2⟩
theorem LRel.bwd {ρ' : Nat → Option Value} (hσ : ∀ j x, ρ j = some x → ∃ i, atN σ j = some i ∧ ρ' i = some x) : ∀ {v : List V} {x : List Value}, LRel S w ρ v x → LRel S w ρ' (renL σ v) x
 | [], x, h => by simp only [renL, LRel] at h ⊢; exact h
 | v :: r, x, h => by
  simp only [renL, LRel] at h ⊢
  obtain ⟨y, ys, h1, h2, h3⟩ := h
  exact ⟨y, ys, h1, VRel.bwd hσ h2, LRel.bwd hσ h3⟩
end
theorem CRel.bwd {ρ' : Nat → Option Value} (hσ : ∀ j x, ρ j = some x → ∃ i, atN σ j = some i ∧ ρ' i = some x) {sz : Nat} : ∀ {v : List V} {x : List Value}, CRel S w ρ sz v x → CRel S w ρ' sz (renL σ v) x
 | [], x, h => by simp only [renL, CRel] at h ⊢; exact h
 | v :: r, x, h => by
  simp only [renL, CRel] at h ⊢
  obtain ⟨y, ys, h1, h2, h3, h4⟩ := h
  exact ⟨y, ys, h1, h2, VRel.bwd hσ h3, CRel.bwd hσ h4⟩
end
def aq (v u : V) : Prop := ∀ S w ρ x, VRel S w ρ v x → VRel S w ρ u x
theorem aq.rfl {v : V} : aq v v := fun _ _ _ _ h => h
theorem aq.of_eq {v u : V} (h : v = u) : aq v u := h ▸ aq.rfl
theorem aq.nil (sz : Nat) : aq .nils (.row sz []) := fun S w ρ x h => by
 simp only [VRel] at h ⊢
 subst h
 exact ⟨none, 0, [], by simp, Nat.le_refl _, by decide, by simp [CRel], RowIn.none_⟩
def aB : List V → List V → Prop
 | [], us => us = []
 | v :: r, us => ∃ u q, us = u :: q ∧ aq v u ∧ aB r q
theorem aB.rel {S : Nat → Prop} {w : World} {ρ : Nat → Option Value} : ∀ {vs us : List V} {xs : List Value}, aB vs us → LRel S w ρ vs xs → LRel S w ρ us xs
 | [], us, xs, h, hl => by simp only [aB] at h; subst h; exact hl
 | v :: r, us, xs, h, hl => by
  simp only [aB] at h
  obtain ⟨u, q, rfl, h1, h2⟩ := h
  simp only [LRel] at hl ⊢
  obtain ⟨y, ys, rfl, h3, h4⟩ := hl
  exact ⟨y, ys, rfl, h1 _ _ _ _ h3, aB.rel h2 h4⟩
theorem aB.rfl : ∀ {vs : List V}, aB vs vs
 | [] => by simp [aB]
 | v :: r => ⟨v, r, by rfl, aq.rfl, aB.rfl⟩
theorem aq.agg {vs us : List V} (h : aB vs us) : aq (.agg vs) (.agg us) := fun S w ρ x hx => by
 simp only [VRel] at hx ⊢
 obtain ⟨xs, h1, h2⟩ := hx
 exact ⟨xs, h1, h.rel h2⟩
theorem aB.cons {v u : V} {r q : List V} (h : aq v u) (k : aB r q) : aB (v :: r) (u :: q) := ⟨u, q, by rfl, h, k⟩
theorem aB.nil : aB [] [] := by simp [aB]
def cw : Ob → Ob → Prop
 | _, .gone => True
 | .var t cs, .var t' cs' => t = t' ∧ aB cs cs'
 | .row e sz els, .row e' sz' els' => e = e' ∧ sz = sz' ∧ els = els'
 | .mp k e ks vs, .mp k' e' ks' vs' => k = k' ∧ e = e' ∧ ks = ks' ∧ vs = vs'
 | _, _ => False
def leF (σ : List Nat) : Fm → Fm → Prop
 | _, [] => True
 | [], none :: r' => leF σ [] r'
 | [], some _ :: _ => False
 | x :: r, none :: r' => leF σ r r'
 | x :: r, some u :: r' => (∃ v, x = some v ∧ aq v (u.ren σ)) ∧ leF σ r r'
def leH (σ : List Nat) (H : Hp) : List (Nat × Ob) → Prop
 | [] => True
 | (j, o) :: r => (∃ i, atN σ j = some i ∧ cw (H.get i) (o.ren σ)) ∧ leH σ H r
def bM : List Nat → Bool
 | [] => true
 | i :: r => !r.contains i && bM r
section
variable {P : Program} {T : Tab} {K : Ctx} {Q : Exit → Act → World → Prop} {s : List EI} {n : Nat} {F F' : Fm} {H H' : Hp} {σ : List Nat} {S : Nat → Prop} {w : World} {ρ : Nat → Option Value} {a : Act}
theorem kD : ∀ {F F' : Fm}, leF σ F F' → ∀ i u, F'.get i = some u → ∃ v, F.get i = some v ∧ aq v (u.ren σ)
 | F, [], h, i, u, hu => by simp [Fm.get] at hu
 | [], none :: r', h, 0, u, hu => by simp [Fm.get] at hu
 | [], none :: r', h, i + 1, u, hu => by
  obtain ⟨v, h1, _⟩ := kD (F := []) (F' := r') (by simpa [leF] using h) i u (by simpa [Fm.get] using hu)
  simp [Fm.get] at h1
 | [], some _ :: _, h, i, u, hu => by simp [leF] at h
 | x :: r, none :: r', h, 0, u, hu => by simp [Fm.get] at hu
 | x :: r, none :: r', h, i + 1, u, hu => by
  have := kD (F := r) (F' := r') (by simpa [leF] using h) i u (by simpa [Fm.get] using hu)
  simpa [Fm.get] using this
 | x :: r, some u' :: r', h, 0, u, hu => by
  simp only [leF] at h
  simp only [Fm.get, Option.some.injEq] at hu
  subst hu
  obtain ⟨v, h1, h2⟩ := h.1
  exact ⟨v, by simp [Fm.get, h1], h2⟩
 | x :: r, some u' :: r', h, i + 1, u, hu => by
  simp only [leF] at h
  have := kD h.2 i u (by simpa [Fm.get] using hu)
  simpa [Fm.get] using this
theorem sE (h : leF σ F F') (hl : F'.length ≤ n) (hF : FRel S w ρ a n F) : FRel S w (cb σ ρ) a n F' :=
 ⟨hF.size, hF.defers, hl, fun i u hu => by
  obtain ⟨v, h1, h2⟩ := kD h i u hu
  obtain ⟨x, h3, h4⟩ := hF.get i v h1
  exact ⟨x, h3, (h2 _ _ _ _ h4).ren⟩⟩
theorem lC : ∀ {l : List (Nat × Ob)}, leH σ H l → ∀ j, an l j = .gone ∨ ∃ i, atN σ j = some i ∧ cw (H.get i) ((an l j).ren σ)
 | [], _, j => .inl rfl
 | (k, o) :: r, h, j => by
  simp only [leH] at h
  simp only [an]
  split
  ·rename_i hb
   have := Nat.eq_of_beq_eq_true hb
   subst this
   exact .inr h.1
  ·exact lC h.2 j
theorem iz : ∀ {l : List Nat}, bM l = true → ∀ i j x, atN l i = some x → atN l j = some x → i = j
 | [], _, i, j, x, hi, hj => by simp [atN] at hi
 | y :: r, h, 0, 0, x, hi, hj => rfl
 | y :: r, h, 0, j + 1, x, hi, hj => by
  simp only [bM, Bool.and_eq_true, Bool.not_eq_true'] at h
  simp only [atN, Option.some.injEq] at hi hj
  subst hi
  rw [eX] at hj
  have := List.mem_of_getElem? hj
  simp [this] at h
 | y :: r, h, i + 1, 0, x, hi, hj => by
  simp only [bM, Bool.and_eq_true, Bool.not_eq_true'] at h
  simp only [atN, Option.some.injEq] at hi hj
  subst hj
  rw [eX] at hi
  have := List.mem_of_getElem? hi
  simp [this] at h
 | y :: r, h, i + 1, j + 1, x, hi, hj => by
  simp only [bM, Bool.and_eq_true] at h
  have := iz h.2 i j x (by simpa [atN] using hi) (by simpa [atN] using hj)
  omega
theorem sW {i j : Nat} {o o' : Ob} (hij : atN σ j = some i) (h : cw o (o'.ren σ)) (ho' : o' ≠ .gone) (hr : cM S w ρ i o) : cM S w (cb σ ρ) j o' ∧ ∀ b, own (cb σ ρ) j o' b → own ρ i o b := by
 have hρ : cb σ ρ j = ρ i := by simp only [cb, hij]
 cases o' with
 | gone => exact absurd rfl ho'
 | free => cases o <;> simp [Ob.ren, cw] at h
 | ext bs Φ => cases o <;> simp [Ob.ren, cw] at h
 | mp kt' et' ks' vs' =>
  cases o <;> simp only [Ob.ren, cw] at h
  rename_i kt et ks vs
  obtain ⟨rfl, rfl, rfl, rfl⟩ := h
  obtain ⟨b, es, ck, h1, h2, h3, h4⟩ := hr
  exact ⟨⟨b, es, ck, by rw [hρ]; exact h1, h2, h3, h4⟩, fun c hc => by simp only [own] at hc ⊢; rw [hρ] at hc; exact hc⟩
 | var t' cs' =>
  cases o <;> simp only [Ob.ren, cw] at h
  rename_i t cs
  obtain ⟨rfl, h⟩ := h
  obtain ⟨b, xs, h1, h2, h3⟩ := hr
  exact ⟨⟨b, xs, by rw [hρ]; exact h1, h2, (h.rel h3).ren⟩, fun c hc => by simp only [own] at hc ⊢; rw [hρ] at hc; exact hc⟩
 | row e' sz' els' =>
  cases o <;> simp only [Ob.ren, cw] at h
  rename_i e sz els
  obtain ⟨rfl, rfl, rfl⟩ := h
  obtain ⟨v, xs, h1, h2, h3⟩ := hr
  rw [lz] at h2
  exact ⟨⟨v, xs, by rw [hρ]; exact h1, h2, h3.ren⟩, fun c hc => by
   obtain ⟨q, e1, e2⟩ := hc
   exact ⟨q, by rw [← hρ]; exact e1, e2⟩⟩
def aC (K : Ctx) (pv : List Nat) : Prop := ∀ id x, K.pin id = some x → id ∈ pv
def rk (σ pv : List Nat) : Bool := pv.all fun i => match atN σ i with | some j => Nat.beq i j | none => false
theorem oz (hH : leH σ H H'.es) (hn : bM σ = true) (hlen : Nat.ble σ.length H'.nx = true) (hr : HRel S w ρ H.get) : HRel S w (cb σ ρ) H'.get ∧ ∀ j b, own (cb σ ρ) j (H'.get j) b → ∃ i, atN σ j = some i ∧ own ρ i (H.get i) b := by
 have key : ∀ j, cM S w (cb σ ρ) j (H'.get j) ∧ ∀ b, own (cb σ ρ) j (H'.get j) b → ∃ i, atN σ j = some i ∧ own ρ i (H.get i) b := fun j => by
  unfold Hp.get
  split
  ·rcases lC hH j with e | ⟨i, h1, h2⟩
   ·rw [e]; exact ⟨trivial, fun b hb => hb.elim⟩
   ·by_cases hg : an H'.es j = .gone
    ·rw [hg]; exact ⟨trivial, fun b hb => hb.elim⟩
    ·obtain ⟨h3, h4⟩ := sW h1 h2 hg (hr.ob i)
     exact ⟨h3, fun b hb => ⟨i, h1, h4 b hb⟩⟩
  ·rename_i hlt
   refine ⟨?_, fun b hb => hb.elim⟩
   show cb σ ρ j = none
   have hj : ¬ j < H'.nx := fun h => by rw [nlT h] at hlt; cases hlt
   have hl : σ.length ≤ H'.nx := Nat.le_of_ble_eq_true hlen
   simp only [cb, eX]
   rw [List.getElem?_eq_none (by omega)]
 refine ⟨⟨fun j => (key j).1, fun j b hb => ?_, fun i j b hbi hbj => ?_, hr.slt⟩, fun j => (key j).2⟩
 ·obtain ⟨i, _, h⟩ := (key j).2 b hb
  exact hr.sep i b h
 ·obtain ⟨i', h1, h2⟩ := (key i).2 b hbi
  obtain ⟨j', h3, h4⟩ := (key j).2 b hbj
  have := hr.dis i' j' b h2 h4
  subst this
  exact iz hn i j i' h1 h3
def EP.still : EP → Bool
 | .drw .. => false
 | _ => true
theorem go_sub {p : EP} (σ pv : List Nat) (hp : p.still = true) (hpin : aC K pv) (hF : leF σ F F') (hH : leH σ H H'.es) (hc : (bM σ && Nat.ble σ.length H'.nx && rk σ pv && Nat.ble F'.length n) = true) (k : Go P K Q p s n F' H') : Go P K Q p s n F H := fun S w ρ a hr hi hf => by
 simp only [Bool.and_eq_true] at hc
 obtain ⟨⟨⟨h1, h2⟩, h3⟩, h4⟩ := hc
 obtain ⟨g1, g2⟩ := oz hH h1 h2 hr
 have hi' : Inv K S w (cb σ ρ) H'.get := ⟨hi.chg, hi.s0, hi.s1, fun j b hb => by obtain ⟨i, _, h⟩ := g2 j b hb; exact hi.ow i b h, fun id x hx => by
  have hm := List.all_eq_true.1 h3 id (hpin id x hx)
  simp only [cb]
  split at hm
  ·rename_i j hj
   have := Nat.eq_of_beq_eq_true hm
   subst this
   first | exact hi.pin id x hx | (rw [hj]; exact hi.pin id x hx)
  ·cases hm⟩
 have := k S w (cb σ ρ) a g1 hi' (sE hF (Nat.le_of_ble_eq_true h4) hf)
 cases p with
 | drw => cases hp
 | code c => exact this
 | ops all rest => exact this
 | ex e => exact this
def SP (K : Ctx) (Post : V → Hp → Prop) (e : Ending) (w' : World) : Prop :=
 ∃ x S' ρ' v H', e = .returned x ∧ Post v H' ∧ HRel S' w' ρ' H'.get ∧ Inv K S' w' ρ' H'.get ∧ VRel S' w' ρ' v x
def dn (PL : List Nat) (i : Nat) : Ob → Bool
 | .var _ _ => true
 | .ext _ _ => true
 | .mp _ _ _ _ => true
 | .row _ _ _ => PL.contains i
 | _ => false
def lK (PL : List Nat) (h : Nat → Ob) (ρ : Nat → Option Value) : Nat → Option Value := fun i => match dn PL i (h i) with
 | true => ρ i
 | false => none
def cP (PL : List Nat) (P : Program) (fid : FuncId) (vs : List V) (H0 : Hp) (Post : V → Hp → Prop) : Prop :=
 ∀ S w ρ xs, HRel S w ρ H0.get → LRel S w ρ vs xs → Calls P fid xs.toArray w (SP ⟨w, S, fun b => ∃ id, own ρ id (H0.get id) b, lK PL H0.get ρ⟩ Post)
abbrev Sum (P : Program) (fid : FuncId) (vs : List V) (H0 : Hp) (Post : V → Hp → Prop) : Prop := cP [] P fid vs H0 Post
theorem av {PL : List Nat} {fid : FuncId} {fn : Func} {c : Code} {vs : List V} {H0 : Hp} {Post : V → Hp → Prop} (N : Nat) (pv : List Nat) (hf : P.funcs[fid]? = some fn) (hb : fn.body = some c) (hN : fn.ntmps = N) (hl : Nat.ble vs.length N = true) (hpv : ∀ i, dn PL i (H0.get i) = true → i ∈ pv)
  (k : ∀ K, aC K pv → Go P K (bodyPost P fn (SP K Post)) (.code c) [] N (eD N vs) H0) : cP PL P fid vs H0 Post := fun S w ρ xs hr hx => by
 subst hN
 have hi : Inv ⟨w, S, fun b => ∃ id, own ρ id (H0.get id) b, lK PL H0.get ρ⟩ S w ρ H0.get := ⟨ChgP.refl _ _, fun _ h => h, fun _ h => .inl h, fun id b hb => .inl ⟨id, hb⟩, fun id x h => by
  simp only [lK] at h
  split at h
  ·exact h
  ·cases h⟩
 refine lr hf hb hl hr hi hx (k _ fun id x h => hpv id ?_)
 simp only [lK] at h
 split at h
 ·assumption
 ·cases h
theorem go_end (hT : TabOk P T) {fn : Func} {Post : V → Hp → Prop} {rs : List ResultVar} {vs : List V} {e : Exit} (hrs : fn.results = rs.toArray) (hv : jt T H.get F rs = some vs) (hP : Post (gb vs) H) (he : e = .ret ∨ e = .normal := by first | exact .inl rfl | exact .inr rfl) : Go P K (bodyPost P fn (SP K Post)) (.ex e) [] n F H := fun S w ρ a hr hi hF =>
 ret_go hT he hrs hr hF hv fun x hx => ⟨x, S, ρ, _, H, rfl, hP, hr, hi, hx⟩
theorem Sum.mono {PL : List Nat} {fid : FuncId} {vs : List V} {H0 : Hp} {Post Post' : V → Hp → Prop} (h : cP PL P fid vs H0 Post) (hp : ∀ v H, Post v H → Post' v H) : cP PL P fid vs H0 Post' := fun S w ρ xs hr hx => (h S w ρ xs hr hx).mono fun e w' ⟨x, S', ρ', v, H', h1, h2, h3⟩ => ⟨x, S', ρ', v, H', h1, hp v H' h2, h3⟩
theorem Sum.sub {PL : List Nat} {fid : FuncId} {vs us : List V} {H0 : Hp} {Post : V → Hp → Prop} (h : cP PL P fid us H0 Post) (hs : aB vs us) : cP PL P fid vs H0 Post := fun S w ρ xs hr hx => h S w ρ xs hr (hs.rel hx)
end
end Go.Proofs.YthnohcipianijaaGreatDoor
namespace Go.Proofs.YthnohcipianijaaGreatDoor
open Go.RowKit
def dL : List Nat → Nat → Option Nat
 | [], _ => none
 |x :: r, i => match Nat.beq x i with
  | true => some 0
  |false => match dL r i with
   | some j => some (j + 1)
   | none => none
theorem cz : ∀ {l : List Nat} {i j : Nat}, dL l i = some j → atN l j = some i
 | [], i, j, h => by cases h
 | x :: r, i, j, h => by
  simp only [dL] at h
  split at h
  ·rename_i hb
   have := Nat.eq_of_beq_eq_true hb
   injection h with h; subst h; subst this; rfl
  ·split at h
   ·rename_i j' hj
    injection h with h; subst h
    simpa [atN] using cz hj
   ·cases h
theorem mW : ∀ {l : List Nat} {i : Nat}, dL l i = none → ∀ j, atN l j ≠ some i
 | [], i, h, j => by simp [atN]
 | x :: r, i, h, 0 => by
  simp only [dL] at h
  split at h
  ·cases h
  ·rename_i hb
   simp only [atN, ne_eq, Option.some.injEq]
   exact Nat.ne_of_beq_eq_false hb
 | x :: r, i, h, j + 1 => by
  simp only [dL] at h
  split at h
  ·cases h
  ·split at h
   ·cases h
   ·rename_i hn
    simpa [atN] using mW hn j
theorem uC {l : List Nat} (hn : bM l = true) {i j : Nat} (h : atN l j = some i) : dL l i = some j := by
 cases hi : dL l i with
 | none => exact absurd h (mW hi j)
 | some k => rw [iz hn k j i (cz hi) h]
def sgN (PL : List Nat) (nx : Nat) (h0 : Nat → Ob) : Nat → List Nat → Nat → List Nat
 | 0, _, _ => []
 |m + 1, σ, j => match σ with
  | [] => (nx + j) :: sgN PL nx h0 m [] (j + 1)
  | i :: r => (match dn PL j (h0 j) with | true => i | false => nx + j) :: sgN PL nx h0 m r (j + 1)
theorem mw (PL : List Nat) (nx : Nat) (h0 : Nat → Ob) : ∀ (m : Nat) (σ : List Nat) (j : Nat), (sgN PL nx h0 m σ j).length = m
 | 0, _, _ => rfl
 | m + 1, [], j => by simp [sgN, mw PL nx h0 m]
 | m + 1, i :: r, j => by simp [sgN, mw PL nx h0 m]
theorem oe (PL : List Nat) (nx : Nat) (h0 : Nat → Ob) : ∀ (m : Nat) (σ : List Nat) (j k : Nat), k < m → atN (sgN PL nx h0 m σ j) k = some (match atN σ k, dn PL (j + k) (h0 (j + k)) with | some i, true => i | _, _ => nx + (j + k))
 | 0, _, _, k, h => by omega
 | m + 1, [], j, 0, h => by simp [sgN, atN]
 | m + 1, [], j, k + 1, h => by
  have := oe PL nx h0 m [] (j + 1) k (by omega)
  simp only [sgN, atN] at this ⊢
  rw [this]
  simp only [show j + 1 + k = j + (k + 1) by omega]
 | m + 1, i :: r, j, 0, h => by
  simp only [sgN, atN, Nat.add_zero]
  cases dn PL j (h0 j) <;> rfl
 | m + 1, i :: r, j, k + 1, h => by
  have := oe PL nx h0 m r (j + 1) k (by omega)
  simp only [sgN, atN] at this ⊢
  rw [this]
  simp only [show j + 1 + k = j + (k + 1) by omega]
def kd (σ : List Nat) : List (Nat × Ob) → List (Nat × Ob)
 | [] => []
 |(j, o) :: r => match atN σ j with
  | some i => (i, o.ren σ) :: kd σ r
  | none => kd σ r
def ip (σ : List Nat) (nx : Nat) : List (Nat × Ob) → List (Nat × Ob)
 | [] => []
 |(j, o) :: r => match !σ.contains j && Nat.blt j nx with
  |true => match o with
   | .free => (j, .gone) :: ip σ nx r
   | o => (j, o) :: ip σ nx r
  | false => ip σ nx r
def gr (PL : List Nat) (H : Hp) (σ : List Nat) (H0 H' : Hp) : Hp := ⟨H.nx + H'.nx, kd (sgN PL H.nx H0.get H'.nx σ 0) H'.es ++ ip σ H.nx H.es⟩
theorem mZ {σ : List Nat} (hn : bM σ = true) {i : Nat} : ∀ {l : List (Nat × Ob)}, an (kd σ l) i = match dL σ i with | some j => (an l j).ren σ | none => .gone
 | [] => by simp only [kd, an]; cases dL σ i <;> rfl
 | (k, o) :: r => by
  have ih := mZ hn (i := i) (l := r)
  simp only [kd]
  split
  ·rename_i i' hi'
   simp only [an]
   by_cases e : i' = i
   ·subst e
    rw [nbT, uC hn hi']
    simp only [nbT]
   ·rw [nbF e, ih]
    cases hj : dL σ i with
    | none => rfl
    | some j =>
     have hne : k ≠ j := fun e' => by subst e'; rw [cz hj] at hi'; injection hi' with h; exact e h.symm
     simp only [nbF hne]
  ·rename_i hk
   rw [ih]
   cases hj : dL σ i with
   | none => rfl
   | some j =>
    have hne : k ≠ j := fun e' => by subst e'; rw [cz hj] at hk; cases hk
    simp only [an, nbF hne]
theorem mS {σ : List Nat} {nx i : Nat} : ∀ {l : List (Nat × Ob)}, an (ip σ nx l) i = .gone ∨ (an (ip σ nx l) i = an l i ∧ σ.contains i = false ∧ i < nx ∧ an l i ≠ .free)
 | [] => .inl rfl
 | (k, o) :: r => by
  have ih := mS (σ := σ) (nx := nx) (i := i) (l := r)
  simp only [ip]
  by_cases hk : k = i
  ·subst hk
   cases hc : (!σ.contains k && Nat.blt k nx)
   ·simp only
    -- none of the entries for k is kept
    left
    have key : ∀ (l : List (Nat × Ob)), an (ip σ nx l) k = .gone := by
     intro l
     induction l with
     | nil => rfl
     | cons q t ih =>
      obtain ⟨m, o'⟩ := q
      simp only [ip]
      by_cases hm : m = k
      ·subst hm; rw [hc]; exact ih
      ·cases hc' : (!σ.contains m && Nat.blt m nx)
       ·exact ih
       ·cases o' <;> (simp only [an, nbF hm]; exact ih)
    exact key r
   ·simp only [Bool.and_eq_true, Bool.not_eq_true'] at hc
    have hlt : k < nx := by simpa [Nat.blt_eq] using hc.2
    cases o with
    | free => left; simp only [an, nbT]
    | gone => left; simp only [an, nbT]
    | var t cs => right; simp only [an, nbT]; exact ⟨trivial, hc.1, hlt, by simp⟩
    | row e sz els => right; simp only [an, nbT]; exact ⟨trivial, hc.1, hlt, by simp⟩
    | ext bs Φ => right; simp only [an, nbT]; exact ⟨trivial, hc.1, hlt, by simp⟩
    | mp kt et ks vs => right; simp only [an, nbT]; exact ⟨trivial, hc.1, hlt, by simp⟩
  ·have e2 : an ((k, o) :: r) i = an r i := by simp only [an, nbF hk]
   rw [e2]
   cases hc : (!σ.contains k && Nat.blt k nx)
   ·exact ih
   ·cases o <;> (simp only [an, nbF hk]; exact ih)
theorem kf : ∀ {l : List Nat}, (∀ i j x, atN l i = some x → atN l j = some x → i = j) → bM l = true
 | [], _ => rfl
 | y :: r, h => by
  simp only [bM, Bool.and_eq_true, Bool.not_eq_true']
  refine ⟨?_, kf fun i j x hi hj => by have := h (i + 1) (j + 1) x (by simpa [atN] using hi) (by simpa [atN] using hj); omega⟩
  cases hc : r.contains y
  ·rfl
  ·exfalso
   have hm : y ∈ r := by simpa using hc
   obtain ⟨k, hk, e⟩ := List.getElem_of_mem hm
   have := h 0 (k + 1) y (by simp [atN]) (by simp only [atN, eX]; rw [List.getElem?_eq_getElem hk, e])
   omega
section
variable {P : Program} {K : Ctx} {H H0 : Hp} {σ : List Nat} {S : Nat → Prop} {w : World}
theorem vA {ρ ρ' : Nat → Option Value} {i j : Nat} {o : Ob} (hσ : ∀ j x, ρ j = some x → ∃ i, atN σ j = some i ∧ ρ' i = some x) (hj : atN σ j = some i) (hnn : ρ j = none → ρ' i = none ∨ o ≠ .free) (h : cM S w ρ j o) : cM S w ρ' i (o.ren σ) ∧ ∀ b, own ρ' i (o.ren σ) b → own ρ j o b := by
 have hs : ∀ x, ρ j = some x → ρ' i = some x := fun x hx => by
  obtain ⟨i', h1, h2⟩ := hσ j x hx
  rw [hj] at h1; injection h1 with h1; subst h1; exact h2
 cases o with
 | free => exact ⟨(hnn h).resolve_right (by simp), fun b hb => hb⟩
 | gone => exact ⟨trivial, fun b hb => hb⟩
 | ext bs Φ => exact ⟨h, fun b hb => hb⟩
 | mp kt et ks vs =>
  obtain ⟨b, es, ck, h1, h2, h3⟩ := h
  refine ⟨⟨b, es, ck, hs _ h1, h2, h3⟩, fun c hc => ?_⟩
  simp only [Ob.ren, own] at hc ⊢
  rw [hs _ h1] at hc; rw [h1]; exact hc
 | var t cs =>
  obtain ⟨b, xs, h1, h2, h3⟩ := h
  refine ⟨⟨b, xs, hs _ h1, h2, h3.bwd hσ⟩, fun c hc => ?_⟩
  simp only [Ob.ren, own] at hc ⊢
  rw [hs _ h1] at hc; rw [h1]; exact hc
 | row e sz els =>
  obtain ⟨v, xs, h1, h2, h3⟩ := h
  refine ⟨⟨v, xs, hs _ h1, by rw [lz]; exact h2, h3.bwd hσ⟩, fun c hc => ?_⟩
  obtain ⟨q, e1, e2⟩ := hc
  rw [hs _ h1] at e1
  cases e1
  exact ⟨v, h1, e2⟩
theorem lF {PL : List Nat} {fid : FuncId} {vs us : List V} {Post : V → Hp → Prop} (hS : cP PL P fid us H0 Post) (σ : List Nat) (hv : aB vs (renL σ us)) (hH : leH σ H H0.es) (hc : (bM σ && Nat.beq σ.length H0.nx && σ.all fun i => Nat.blt i H.nx) = true) (L : List Nat) (hL : (bg H.get L && L.all fun i => !σ.contains i) = true) :
  CallR P K fid vs H L (fun v' H'' => ∃ v H', Post v H' ∧ v' = v.ren (sgN PL H.nx H0.get H'.nx σ 0) ∧ H'' = gr PL H σ H0 H') := fun S w ρ xs hr hi hx => by
 simp only [Bool.and_eq_true] at hc hL
 obtain ⟨⟨hc1, hc2⟩, hc3⟩ := hc
 have hlen : σ.length = H0.nx := by simpa using hc2
 have hσlt : ∀ j i, atN σ j = some i → i < H.nx := fun j i h => by
  rw [eX] at h
  have := List.all_eq_true.1 hc3 i (List.mem_of_getElem? h)
  simpa [Nat.blt_eq] using this
 obtain ⟨g1, g2⟩ := oz (H' := H0) hH hc1 (by simp [hlen]) hr
 refine (hS S w (cb σ ρ) xs g1 ((hv.rel hx).ren)).mono fun e w' hR => ?_
 obtain ⟨x, S', ρ1, v, H', rfl, hP, hr', hi', hvr⟩ := hR
 obtain ⟨τ, hτ⟩ : ∃ τ, τ = sgN PL H.nx H0.get H'.nx σ 0 := ⟨_, rfl⟩
 have hτlen : τ.length = H'.nx := by rw [hτ]; exact mw _ _ _ _ _ _
 have hτat : ∀ j, j < H'.nx → atN τ j = some (match atN σ j, dn PL j (H0.get j) with | some i, true => i | _, _ => H.nx + j) := fun j hj => by
  rw [hτ, oe _ _ _ _ _ _ _ hj]; simp only [Nat.zero_add]
 have hτlt : ∀ j i, atN τ j = some i → j < H'.nx := fun j i h => by
  rw [eX] at h
  have := (List.getElem?_eq_some_iff.1 h).1
  omega
 have hτc : ∀ j i, atN τ j = some i → (atN σ j = some i ∧ dn PL j (H0.get j) = true) ∨ i = H.nx + j := fun j i h => by
  have hj := hτlt j i h
  rw [hτat j hj] at h
  simp only [Option.some.injEq] at h
  cases h1 : atN σ j with
  | none => rw [h1] at h; exact .inr h.symm
  | some i1 =>
   rw [h1] at h
   cases h2 : dn PL j (H0.get j)
   ·rw [h2] at h; exact .inr h.symm
   ·rw [h2] at h; simp only at h; subst h; exact .inl ⟨rfl, rfl⟩
 have hτbd : ∀ j i, atN τ j = some i → i < H.nx + H'.nx := fun j i h => by
  have hj := hτlt j i h
  rcases hτc j i h with ⟨h1, _⟩ | h1
  ·have := hσlt j i h1; omega
  ·omega
 have hτinj : bM τ = true := kf fun j k i h1 h2 => by
  rcases hτc j i h1 with ⟨a1, _⟩ | a1 <;> rcases hτc k i h2 with ⟨a2, _⟩ | a2
  ·exact iz hc1 j k i a1 a2
  ·have := hσlt j i a1; omega
  ·have := hσlt k i a2; omega
  ·omega
 have hfreeρ : ∀ i, H.nx ≤ i → ρ i = none := fun i hi' => by
  have := hr.ob i
  have e : H.get i = .free := by
   unfold Hp.get
   have : Nat.blt i H.nx = false := by cases hb : Nat.blt i H.nx; rfl; simp [Nat.blt_eq] at hb; omega
   rw [this]
  rw [e] at this; exact this
 have hfree1 : ∀ j, H'.nx ≤ j → ρ1 j = none := fun j hj => by
  have := hr'.ob j
  have e : H'.get j = .free := by
   unfold Hp.get
   have : Nat.blt j H'.nx = false := by cases hb : Nat.blt j H'.nx; rfl; simp [Nat.blt_eq] at hb; omega
   rw [this]
  rw [e] at this; exact this
 obtain ⟨ρ2, hρ2⟩ : ∃ ρ2 : Nat → Option Value, ρ2 = fun i => if i < H.nx then ρ i else ρ1 (i - H.nx) := ⟨_, rfl⟩
 have hup : ∀ i y, ρ i = some y → ρ2 i = some y := fun i y h => by
  by_cases hlt : i < H.nx
  ·rw [hρ2]; simp only [hlt, if_true]; exact h
  ·rw [hfreeρ i (by omega)] at h; cases h
 have hpin : ∀ j, dn PL j (H0.get j) = true → ∀ y, cb σ ρ j = some y → ρ1 j = some y := fun j hv y h => hi'.pin j y (by simp only [lK, hv]; exact h)
 have hnoext : ∀ j i, atN σ j = some i → ∀ bs Φ, H0.get j = .ext bs Φ → False := fun j i h1 bs Φ hy' => by
  have hl := lC hH j
  have hlt : j < H0.nx := by
   rw [← hlen]
   rw [eX] at h1
   exact (List.getElem?_eq_some_iff.1 h1).1
  have e0 : H0.get j = an H0.es j := by unfold Hp.get; rw [nlT hlt]
  rw [← e0, hy'] at hl
  rcases hl with hl | ⟨i', _, hl⟩
  ·cases hl
  ·cases ho : H.get i' <;> rw [ho] at hl <;> simp [Ob.ren, cw] at hl
 have hτρ : ∀ j y, ρ1 j = some y → ∃ i, atN τ j = some i ∧ ρ2 i = some y := fun j y h => by
  have hj : j < H'.nx := by
   rcases Nat.lt_or_ge j H'.nx with h1 | h1
   ·exact h1
   ·rw [hfree1 j h1] at h; cases h
  obtain ⟨i, hji⟩ : ∃ i, atN τ j = some i := ⟨_, hτat j hj⟩
  refine ⟨i, hji, ?_⟩
  rcases hτc j i hji with ⟨h1, h2⟩ | h1
  · -- a variable keeps its place
   have hob := g1.ob j
   have hsome : ∃ y', cb σ ρ j = some y' ∨ ∃ bs Φ, H0.get j = .ext bs Φ := by
    cases ho : H0.get j with
    | var t cs => rw [ho] at hob; obtain ⟨b, _, hb, _⟩ := hob; exact ⟨_, .inl hb⟩
    | row e sz els => rw [ho] at hob; obtain ⟨b, _, hb, _⟩ := hob; exact ⟨_, .inl hb⟩
    | ext bs Φ => exact ⟨.bool true, .inr ⟨bs, Φ, rfl⟩⟩
    | mp kt et ks vs => rw [ho] at hob; obtain ⟨b, _, _, hb, _⟩ := hob; exact ⟨_, .inl hb⟩
    | _ => rw [ho] at h2; cases h2
   obtain ⟨y', hy' | ⟨bs, Φ, hy'⟩⟩ := hsome
   ·have := hpin j h2 y' hy'
    rw [h] at this; injection this with this; subst this
    simp only [cb, h1] at hy'
    exact hup _ _ hy'
   ·exact (hnoext j i h1 bs Φ hy').elim
  ·subst h1
   rw [hρ2]
   simp only [show ¬ H.nx + j < H.nx by omega, if_false, Nat.add_sub_cancel_left]
   exact h
 -- the call's objects under the caller's numbers
 obtain ⟨h1', hh1'⟩ : ∃ h1' : Nat → Ob, h1' = fun i => match dL τ i with | some j => (H'.get j).ren τ | none => if i < H.nx + H'.nx then .gone else .free := ⟨_, rfl⟩
 obtain ⟨h1, hh1⟩ : ∃ h1 : Nat → Ob, h1 = fun i => match σ.contains i with | true => H.get i | false => .gone := ⟨_, rfl⟩
 have hin : ∀ i, h1 i = H.get i ∨ h1 i = .gone := fun i => by rw [hh1]; simp only []; cases σ.contains i <;> simp
 have hkey : ∀ i, cM S' w' ρ2 i (h1' i) ∧ ∀ b, own ρ2 i (h1' i) b → ∃ j, dL τ i = some j ∧ own ρ1 j (H'.get j) b := fun i => by
  rw [hh1']
  simp only []
  cases hj : dL τ i with
  | none =>
   simp only []
   split
   ·exact ⟨trivial, fun b hb => hb.elim⟩
   ·rename_i hlt
    refine ⟨?_, fun b hb => hb.elim⟩
    show ρ2 i = none
    rw [hρ2]
    simp only [show ¬ i < H.nx by omega, if_false]
    exact hfree1 _ (by omega)
  | some j =>
   have hat := cz hj
   obtain ⟨k1, k2⟩ := vA hτρ hat (fun hn => by
    have hjl := hτlt j i hat
    by_cases hf : H'.get j = .free
    ·left
     rcases hτc j i hat with ⟨a1, a2⟩ | a1
     · -- a variable is not free
      have hob := g1.ob j
      exfalso
      cases ho : H0.get j with
      | var t cs =>
       rw [ho] at hob; obtain ⟨b, _, hb, _⟩ := hob
       have := hpin j a2 _ hb
       rw [hn] at this; cases this
      | row e sz els =>
       rw [ho] at hob; obtain ⟨b, _, hb, _⟩ := hob
       have := hpin j a2 _ hb
       rw [hn] at this; cases this
      | ext bs Φ => exact hnoext j i a1 bs Φ ho
      | mp kt et ks vs =>
       rw [ho] at hob; obtain ⟨b, _, _, hb, _⟩ := hob
       have := hpin j a2 _ hb
       rw [hn] at this; cases this
      | _ => rw [ho] at a2; cases a2
     ·subst a1
      rw [hρ2]
      simp only [show ¬ H.nx + j < H.nx by omega, if_false, Nat.add_sub_cancel_left]
      exact hn
    ·exact .inr hf) (hr'.ob j)
   exact ⟨k1, fun b hb => ⟨j, rfl, k2 b hb⟩⟩
 have hX : ∀ b, (∃ id, own (cb σ ρ) id (H0.get id) b) → ∃ id, own ρ id (h1 id) b := fun b ⟨id, hb⟩ => by
  obtain ⟨i, h2, h3⟩ := g2 id b hb
  refine ⟨i, ?_⟩
  have hm : σ.contains i = true := by
   rw [eX] at h2
   simpa using List.mem_of_getElem? h2
  rw [hh1]; simp only [hm]; exact h3
 have hrel1 : HRel S' w' ρ2 h1' := ⟨fun i => (hkey i).1, fun i b hb => by obtain ⟨j, _, h⟩ := (hkey i).2 b hb; exact hr'.sep j b h, fun i k b hbi hbk => by
  obtain ⟨j, e1, h1⟩ := (hkey i).2 b hbi
  obtain ⟨j', e2, h2⟩ := (hkey k).2 b hbk
  have := hr'.dis j j' b h1 h2
  subst this
  have a1 := cz e1
  have a2 := cz e2
  rw [a1] at a2; injection a2, hr'.slt⟩
 have hinv1 : Inv ⟨w, S, fun b => ∃ id, own ρ id (h1 id) b, ρ⟩ S' w' ρ2 h1' := ⟨hi'.chg.mono hX, hi'.s0, fun b hb => by
  rcases hi'.s1 b hb with h | h | h
  ·exact .inl h
  ·exact .inr (.inl (hX b h))
  ·exact .inr (.inr h), fun i b hb => by
  obtain ⟨j, _, h⟩ := (hkey i).2 b hb
  rcases hi'.ow j b h with h | h
  ·exact .inl (hX b h)
  ·exact .inr h, fun id y h => hup id y h⟩
 have hh2 : ∀ i, ((gr PL H σ H0 H').get i = h1' i ∨ (gr PL H σ H0 H').get i = .gone) ∨ ((gr PL H σ H0 H').get i = H.get i ∧ h1 i = .gone ∧ H.get i ≠ .free) := fun i => by
  by_cases hlt : i < H.nx + H'.nx
  ·have e0 : (gr PL H σ H0 H').get i = an (kd τ H'.es ++ ip σ H.nx H.es) i := by
    unfold Hp.get gr
    simp only [nlT hlt, hτ]
   rw [e0]
   rcases oa (kd τ H'.es) (ip σ H.nx H.es) i with e | ⟨_, e⟩
   ·rw [e, mZ hτinj]
    cases hj : dL τ i with
    | none => exact .inl (.inr rfl)
    | some j =>
     left; left
     rw [hh1']
     simp only [hj]
     have hjl := hτlt j i (cz hj)
     unfold Hp.get
     rw [nlT hjl]
   ·rw [e]
    rcases mS (σ := σ) (nx := H.nx) (i := i) (l := H.es) with e1 | ⟨e1, e2, e3, e4⟩
    ·exact .inl (.inr e1)
    ·right
     have eH : H.get i = an H.es i := by unfold Hp.get; rw [nlT e3]
     refine ⟨by rw [e1, eH], ?_, by rw [eH]; exact e4⟩
     rw [hh1]; simp only [e2]
  ·left; left
   have e0 : (gr PL H σ H0 H').get i = .free := by
    unfold Hp.get gr
    have : Nat.blt i (H.nx + H'.nx) = false := by cases hb : Nat.blt i (H.nx + H'.nx); rfl; simp [Nat.blt_eq] at hb; omega
    simp only [this]
   rw [e0, hh1']
   simp only []
   cases hj : dL τ i with
   | none => simp only [hlt, if_false]
   | some j => have := hτbd j i (cz hj); omega
 obtain ⟨m1, m2, m3, m4⟩ := oG (h2 := (gr PL H σ H0 H').get) hr hi hin hrel1 hinv1 hh2
 refine ⟨x, S', ρ2, _, _, rfl, ⟨v, H', hP, rfl, rfl⟩, m1, m2, m3, by rw [← hτ]; exact hvr.bwd hτρ, m4 L hL.1 fun id hid => ?_⟩
 have := List.all_eq_true.1 hL.2 id hid
 simp only [Bool.not_eq_true'] at this
 rw [hh1]; simp only [this]
end
end Go.Proofs.YthnohcipianijaaGreatDoor
namespace Go.Proofs.YthnohcipianijaaGreatDoor
open Go.RowKit
section
variable (T : Tab)
def opS (F : Fm) (H : Hp) (o : Oper) {α : Type} (c : Fm → Hp → Option α) : Option α :=
 match fu T H.get F o.op with
 | some v => F.puto o.dst (some v) fun F' => c F' H
 |none => match eB T H.get F H.nx o.op with
  |some (v, ed) => H.ap ed fun H' => match v with
   | some v => F.puto o.dst (some v) fun F' => c F' H'
   | none => F.puto o.dst (some (.tup [])) fun F' => c F' H'
  | none => none
def cc : Nat → EP → List EI → Fm → Hp → Option (EP × List EI × Fm × Hp)
 | 0, p, s, F, H => some (p, s, F, H)
 |k + 1, .code c, s, F, H => match c with
  | .seq x y => cc k (.code x) (.seq y :: s) F H
  | .block id c => cc k (.code c) (.blk id :: s) F H
  | .skip => cc k (.ex .normal) s F H
  | .ret => cc k (.ex .ret) s F H
  | .exit id => cc k (.ex (.exit id)) s F H
  |.cond c x y => match az F c with
   | some (.bool true) => cc k (.code x) s F H
   | some (.bool false) => cc k (.code y) s F H
   | _ => none
  | .region _ ⟨l⟩ false => cc k (.ops ⟨l⟩ l) s F H
  | _ => none
 |k + 1, .ops all rest, s, F, H => match rest with
  | [] => cc k (.ex .normal) s F H
  |o :: r => match aF F all o.guard with
   | some true => opS T F H o fun F' H' => cc k (.ops all r) s F' H'
   | some false => F.puto o.dst (some (.tup [])) fun F' => cc k (.ops all r) s F' H
   | none => none
 |k + 1, .ex e, s, F, H => match s with
  | [] => none
  |.seq c :: s => match e with
   | .normal => cc k (.code c) s F H
   | .exit i => cc k (.ex (.exit i)) s F H
   | .ret => cc k (.ex .ret) s F H
   | _ => none
  |.blk id :: s => match e with
   | .normal => cc k (.ex .normal) s F H
   |.exit i => match Nat.beq i id with
    | true => cc k (.ex .normal) s F H
    | false => cc k (.ex (.exit i)) s F H
   | .ret => cc k (.ex .ret) s F H
   | _ => none
  | _ => none
 | k + 1, .drw .., _, _, _ => none
def gh (all : Array Oper) (L : List Nat) : List (Nat × Nat) → Fm → Hp → Option (Fm × Hp)
 | [], F, H => some (F, H)
 |(i, f) :: r, F, H => match all[i]? with
  |some o => match aF F all o.guard with
   | some false => F.puto o.dst (some (.tup [])) fun F' => gh all L r F' H
   |some true => match f with
    |2 => match fu T H.get F o.op with
     | some v => F.puto o.dst (some v) fun F' => gh all L r F' H
     | none => none
    |3 => match jg F o.op with
     |some id => match L.contains id with
      |true => match eB T H.get F H.nx o.op with
       | some (some v, _) => F.puto o.dst (some v) fun F' => gh all L r F' H
       | _ => none
      | false => none
     | none => none
    |f => match fu T H.get F o.op with
     | some v => F.puto o.dst (some v) fun F' => gh all L r F' H
     |none => match eB T H.get F H.nx o.op with
      |some (v, ed) => match (bg H.get L && ed.clear L) || Nat.beq f 1 with
       |true => H.ap ed fun H' => match v with
        | some v => F.puto o.dst (some v) fun F' => gh all L r F' H'
        | none => F.puto o.dst (some (.tup [])) fun F' => gh all L r F' H'
       | false => none
      | none => none
   | none => none
  | none => none
end
def ql (all : Array Oper) (m : Nat) : List (Nat × Nat) → Array Bool → Bool
 | [], _ => true
 |(i, f) :: r, listed => (match f with
  | 2 => !Nat.beq i m && Region.free .any all listed i && (Region.ready .any all listed).contains i
  | 3 => !Nat.beq i m && Region.free .any all listed i && (Region.ready .any all listed).contains i && ma .any all m i && !listed.getD m false
  | 1 => (match Region.ready .any all listed with | [j] => Nat.beq i j | _ => false) && (listed.setIfInBounds i true).getD m false
  | _ => (match Region.ready .any all listed with | [j] => Nat.beq i j | _ => false)) && ql all m r (listed.setIfInBounds i true)
def sC : List (Nat × Nat) → Array Bool → Array Bool
 | [], l => l
 | (i, _) :: r, l => sC r (l.setIfInBounds i true)
section
variable {P : Program} {T : Tab} {K : Ctx} {Q : Exit → Act → World → Prop} {p p' : EP} {s s' : List EI} {n : Nat} {F F' F1 F2 : Fm} {H H' H1 : Hp}
theorem vY (hT : TabOk P T) {all : Array Oper} {rest : List Oper} {o : Oper} {α : Type} {c : Fm → Hp → Option α} {x : α} (hw : aF F all o.guard = some true) (h : opS T F H o c = some x) : ∃ F' H', c F' H' = some x ∧ (Go P K Q (.ops all rest) s n F' H' → Go P K Q (.ops all (o :: rest)) s n F H) := by
 unfold opS at h
 split at h
 ·rename_i v hv
  rw [Fm.puto_eq] at h
  exact ⟨_, _, h, fun k => go_opP hT hw hv k⟩
 ·split at h
  ·rename_i v ed hv
   rw [Hp.ap_eq] at h
   cases v with
   | none =>
    simp only [Fm.puto_eq] at h
    exact ⟨_, _, h, fun k => go_opE hT hw hv k⟩
   | some v =>
    simp only [Fm.puto_eq] at h
    exact ⟨_, _, h, fun k => go_opE hT hw hv k⟩
  ·cases h
theorem bj (hT : TabOk P T) : ∀ (k : Nat) (p : EP) (s : List EI) (F : Fm) (H : Hp), cc T k p s F H = some (p', s', F', H') → Go P K Q p' s' n F' H' → Go P K Q p s n F H
 | 0, p, s, F, H, h, kk => by
  simp only [cc, Option.some.injEq, Prod.mk.injEq] at h
  obtain ⟨rfl, rfl, rfl, rfl⟩ := h
  exact kk
 | k + 1, .code c, s, F, H, h, kk => by
  unfold cc at h
  split at h
  ·exact rE (bj hT k _ _ _ _ h kk)
  ·exact oE (bj hT k _ _ _ _ h kk)
  ·exact qh (bj hT k _ _ _ _ h kk)
  ·exact go_ret (bj hT k _ _ _ _ h kk)
  ·exact pK (bj hT k _ _ _ _ h kk)
  ·split at h
   ·exact oo ‹_› (bj hT k _ _ _ _ h kk)
   ·exact pg ‹_› (bj hT k _ _ _ _ h kk)
   ·cases h
  ·exact nk (bj hT k _ _ _ _ h kk)
  ·cases h
 | k + 1, .ops all rest, s, F, H, h, kk => by
  unfold cc at h
  split at h
  ·exact sg (bj hT k _ _ _ _ h kk)
  ·split at h
   ·obtain ⟨F1, H1, h1, h2⟩ := vY (P := P) (K := K) (Q := Q) (s := s) (n := n) hT ‹_› h
    exact h2 (bj hT k _ _ _ _ h1 kk)
   ·rw [Fm.puto_eq] at h
    exact rv ‹_› (bj hT k _ _ _ _ h kk)
   ·cases h
 | k + 1, .ex e, s, F, H, h, kk => by
  unfold cc at h
  split at h
  ·cases h
  ·split at h
   ·exact px (bj hT k _ _ _ _ h kk)
   ·exact oN (bj hT k _ _ _ _ h kk)
   ·exact nM (bj hT k _ _ _ _ h kk)
   ·cases h
  ·split at h
   ·exact pa (bj hT k _ _ _ _ h kk)
   ·split at h
    ·exact oh ‹_› (bj hT k _ _ _ _ h kk)
    ·exact oW ‹_› (bj hT k _ _ _ _ h kk)
   ·exact pc (bj hT k _ _ _ _ h kk)
   ·cases h
  ·cases h
 | k + 1, .drw .., s, F, H, h, kk => by simp [cc] at h
variable {all : Array Oper} {rest : List Oper} {o : Oper} {L : List Nat} {m fuel : Nat} {listed : Array Bool}
theorem na {i : Nat} (h : (match Region.ready .any all listed with | [j] => Nat.beq i j | _ => false) = true) : Region.ready .any all listed = [i] := by
 split at h
 ·rename_i j hj
  rw [hj, Nat.eq_of_beq_eq_true h]
 ·cases h
theorem eF (hT : TabOk P T) : ∀ (is : List (Nat × Nat)) (fuel : Nat) (listed : Array Bool) (F : Fm) (H : Hp), ql all m is listed = true → gh T all L is F H = some (F', H') → Go P K Q (.drw all L m fuel (sC is listed)) s n F' H' → Go P K Q (.drw all L m (fuel + is.length) listed) s n F H
 | [], fuel, listed, F, H, hc, hr, k => by
  simp only [gh, Option.some.injEq, Prod.mk.injEq] at hr
  obtain ⟨rfl, rfl⟩ := hr
  exact k
 | (i, f) :: r, fuel, listed, F, H, hc, hr, k => by
  simp only [ql, Bool.and_eq_true] at hc
  obtain ⟨hc1, hc2⟩ := hc
  show Go P K Q (.drw all L m (fuel + r.length + 1) listed) s n F H
  unfold gh at hr
  split at hr
  ·rename_i o ho
   split at hr
   ·rename_i hw
    rw [Fm.puto_eq] at hr
    have ih := eF hT r fuel _ _ _ hc2 hr k
    have single : (match Region.ready .any all listed with | [j] => Nat.beq i j | _ => false) = true → Go P K Q (.drw all L m (fuel + r.length + 1) listed) s n F H := fun hx => go_d1S (na hx) ho hw ih
    split at hc1
    ·simp only [Bool.and_eq_true, Bool.not_eq_true'] at hc1
     exact qI hc1.1.1 ho hc1.1.2 hc1.2 hw ih
    ·simp only [Bool.and_eq_true, Bool.not_eq_true'] at hc1
     exact qI hc1.1.1.1.1 ho hc1.1.1.1.2 hc1.1.1.2 hw ih
    ·simp only [Bool.and_eq_true] at hc1
     exact single hc1.1
    ·exact single hc1
   ·rename_i hw
    split at hr
    ·split at hr
     ·rename_i v hv
      rw [Fm.puto_eq] at hr
      have ih := eF hT r fuel _ _ _ hc2 hr k
      simp only [Bool.and_eq_true, Bool.not_eq_true'] at hc1
      exact tN hT hc1.1.1 ho hc1.1.2 hc1.2 hw hv ih
     ·cases hr
    ·split at hr
     ·rename_i id hid
      split at hr
      ·rename_i hL
       split at hr
       ·rename_i v ed hv
        rw [Fm.puto_eq] at hr
        have ih := eF hT r fuel _ _ _ hc2 hr k
        simp only [Bool.and_eq_true, Bool.not_eq_true'] at hc1
        exact tR hT hc1.1.1.1.1 hc1.1.2 hc1.2 ho hc1.1.1.1.2 hc1.1.1.2 hw hid hL hv ih
       ·cases hr
      ·cases hr
     ·cases hr
    ·rename_i h2 h3
     have hs : (match Region.ready .any all listed with | [j] => Nat.beq i j | _ => false) = true ∧ (Nat.beq f 1 = true → (listed.setIfInBounds i true).getD m false = true) := by
      split at hc1
      ·exact absurd rfl h2
      ·exact absurd rfl h3
      ·simp only [Bool.and_eq_true] at hc1
       exact ⟨hc1.1, fun _ => hc1.2⟩
      ·rename_i h1
       exact ⟨hc1, fun hb => absurd (Nat.eq_of_beq_eq_true hb) h1⟩
     have hrd := na hs.1
     split at hr
     ·rename_i v hv
      rw [Fm.puto_eq] at hr
      have ih := eF hT r fuel _ _ _ hc2 hr k
      exact sj hrd ho hw (fun S w ρ a hr hF => jP hT hr hF hv) ih
     ·split at hr
      ·rename_i v ed hv
       split at hr
       ·rename_i hcl
        rw [Hp.ap_eq] at hr
        have hcl' : ((bg H.get L && ed.clear L) || (listed.setIfInBounds i true).getD m false) = true := by
         rcases kH hcl with h | h
         ·rw [h]; rfl
         ·rw [hs.2 h]; simp
        cases v with
        | none =>
         simp only [Fm.puto_eq] at hr
         exact oB hrd ho hw (fun S w ρ a hr hF => kL hT hr hF H.get_free hv) (iI hv) hcl' (eF hT r fuel _ _ _ hc2 hr k)
        | some v =>
         simp only [Fm.puto_eq] at hr
         exact oB hrd ho hw (fun S w ρ a hr hF => kL hT hr hF H.get_free hv) (iI hv) hcl' (eF hT r fuel _ _ _ hc2 hr k)
       ·cases hr
      ·cases hr
   ·cases hr
  ·cases hr
theorem gW {d : Nat} {v v' : V} (hd : F.get d = some v) (hs : aq v v') (k : Go P K Q p s n (F.set d (some v')) H) : Go P K Q p s n F H := fun S w ρ a hr hi hF => by
 refine k S w ρ a hr hi ⟨hF.size, hF.defers, by have := hF.len; simpa using this, fun i u hu => ?_⟩
 rw [Fm.get_eq, List.getElem?_set] at hu
 split at hu
 ·rename_i e
  subst e
  split at hu
  ·simp only [Option.bind_some, id_eq, Option.some.injEq] at hu
   subst hu
   obtain ⟨x, h1, h2⟩ := hF.get d v hd
   exact ⟨x, h1, hs _ _ _ _ h2⟩
  ·cases hu
 ·exact hF.get i u (by rw [Fm.get_eq]; exact hu)
theorem gB {e : Bool} (d : Nat) (hd : F.get d = some (.bool e)) (h1 : F.put d (some (.bool true)) id = F1) (h2 : F.put d (some (.bool false)) id = F2) (kT : e = true → Go P K Q p s n F1 H) (kF : e = false → Go P K Q p s n F2 H) : Go P K Q p s n F H := by
 rw [Fm.put_eq] at h1 h2
 subst h1 h2
 cases he : e with
 | true => exact gW hd (by rw [he]; exact aq.rfl) (kT he)
 | false => exact gW hd (by rw [he]; exact aq.rfl) (kF he)
theorem gT {e : Bool} (d : Nat) (hd : F.get d = some (.bool e)) (he : e = true) (h1 : F.put d (some (.bool true)) id = F1) (k : Go P K Q p s n F1 H) : Go P K Q p s n F H := by
 rw [Fm.put_eq] at h1; subst h1
 exact gW hd (by rw [he]; exact aq.rfl) k
theorem gF {e : Bool} (d : Nat) (hd : F.get d = some (.bool e)) (he : e = false) (h1 : F.put d (some (.bool false)) id = F1) (k : Go P K Q p s n F1 H) : Go P K Q p s n F H := by
 rw [Fm.put_eq] at h1; subst h1
 exact gW hd (by rw [he]; exact aq.rfl) k
theorem gV {v : V} (d : Nat) (v' : V) (hd : F.get d = some v) (he : v = v') (h1 : F.put d (some v') id = F1) (k : Go P K Q p s n F1 H) : Go P K Q p s n F H := by
 rw [Fm.put_eq] at h1; subst h1
 exact gW hd (by rw [he]; exact aq.rfl) k
theorem aL {m l : Int} (h : -9223372036854775808 ≤ m ∧ m ≤ 9223372036854775807) (e : m = l) : V.int .i64 (IntKind.i64.wrap m) = .int .i64 l := by
 subst e
 rw [IntWalk.i64_in _ (by omega)]
def slT (T : Tab) (t : TypeId) : Option (TypeId × Nat) := match T.ty t with
 |some ⟨_, _, _, .sl e⟩ => match T.ty e with
  | some ⟨sz, _, _, _⟩ => some (e, sz)
  | none => none
 | _ => none
theorem fe (hT : TabOk P T) {t e : TypeId} {sz : Nat} (h : slT T t = some (e, sz)) : P.underlying t = some (.slice e) ∧ cf P e = some sz := by
 unfold slT at h
 split at h
 ·rename_i ht
  split at h
  ·rename_i he
   simp only [Option.some.injEq, Prod.mk.injEq] at h
   obtain ⟨rfl, rfl⟩ := h
   exact ⟨(hT.ty _ _ ht).sl rfl, (hT.ty _ _ he).size⟩
  ·cases h
 ·cases h
theorem yIR (hT : TabOk P T) {t e : TypeId} {x y : Operand} {sz i : Nat} {els : List V} {v : V} {ty : TypeId} (ht : slT T t = some (e, sz)) (hx : az F x = some (.row sz els)) (hy : az F y = some (.int .i64 (i : Int))) (hi : els[i]? = some v) : ∀ S w ρ a, HRel S w ρ H.get → FRel S w ρ a n F → Yld P S w ρ a ty (.indexAddr t x y) (.box v.cells 0) := fun S w ρ a hr hF =>
 p_idxR hF.fr (fe hT ht).1 (fe hT ht).2 (al hF hx) (al hF hy) hi
theorem yIO (hT : TabOk P T) {t e e' : TypeId} {x y : Operand} {id sz i : Nat} {els : List V} {ty : TypeId} (ht : slT T t = some (e, sz)) (hx : az F x = some (.sl id)) (ho : H.get id = .row e' sz els) (hy : az F y = some (.int .i64 (i : Int))) (hi : i < els.length) : ∀ S w ρ a, HRel S w ρ H.get → FRel S w ρ a n F → Yld P S w ρ a ty (.indexAddr t x y) (.el id sz i 0) := fun S w ρ a hr hF =>
 p_idxO hr ho hF.fr (fe hT ht).1 (fe hT ht).2 (al hF hx) (al hF hy) hi
theorem gY {v : V} (hy : ∀ S w ρ a, HRel S w ρ H.get → FRel S w ρ a n F → Yld P S w ρ a o.type o.op v) (hw : aF F all o.guard = some true) (h1 : F.puto o.dst (some v) id = F1) (k : Go P K Q (.ops all rest) s n F1 H) : Go P K Q (.ops all (o :: rest)) s n F H := by
 rw [Fm.puto_eq] at h1; subst h1
 exact go_opY hw hy k
mutual
def mapV (f : V → V) : V → V
 | .agg cs => .agg (mapVs f cs)
 | .tup cs => .tup (mapVs f cs)
 | .clo fid cs => .clo fid (mapVs f cs)
 | .sl j => f (.sl j)
 | .int k n => f (.int k n)
 | .bool b => f (.bool b)
 | .str l => f (.str l)
 | .nilp => f .nilp
 | .nils => f .nils
 | .raw x => f (.raw x)
 | .ptr i o => f (.ptr i o)
 | .el i sz j o => f (.el i sz j o)
 | .box cs o => f (.box cs o)
 | .row sz els => f (.row sz els)
 | .lk els => f (.lk els)
def mapVs (f : V → V) : List V → List V
 | [] => []
 | v :: r => mapV f v :: mapVs f r
end
mutual
theorem VRel.mapV {S S' : Nat → Prop} {w : World} {ρ : Nat → Option Value} {f : V → V} (hf : ∀ v x, VRel S w ρ v x → VRel S' w ρ (f v) x) : ∀ {v : V} {x : Value}, VRel S w ρ v x → VRel S' w ρ (mapV f v) x
 | .int _ _, x, h => by simp only [Go.Proofs.YthnohcipianijaaGreatDoor.mapV]; exact hf _ _ h
 | .bool _, x, h => by simp only [Go.Proofs.YthnohcipianijaaGreatDoor.mapV]; exact hf _ _ h
 | .str _, x, h => by simp only [Go.Proofs.YthnohcipianijaaGreatDoor.mapV]; exact hf _ _ h
 | .nilp, x, h => by simp only [Go.Proofs.YthnohcipianijaaGreatDoor.mapV]; exact hf _ _ h
 | .nils, x, h => by simp only [Go.Proofs.YthnohcipianijaaGreatDoor.mapV]; exact hf _ _ h
 | .raw _, x, h => by simp only [Go.Proofs.YthnohcipianijaaGreatDoor.mapV]; exact hf _ _ h
 | .box _ _, x, h => by simp only [Go.Proofs.YthnohcipianijaaGreatDoor.mapV]; exact hf _ _ h
 | .row _ _, x, h => by simp only [Go.Proofs.YthnohcipianijaaGreatDoor.mapV]; exact hf _ _ h
 | .lk _, x, h => by simp only [Go.Proofs.YthnohcipianijaaGreatDoor.mapV]; exact hf _ _ h
 | .ptr _ _, x, h => by simp only [Go.Proofs.YthnohcipianijaaGreatDoor.mapV]; exact hf _ _ h
 | .el _ _ _ _, x, h => by simp only [Go.Proofs.YthnohcipianijaaGreatDoor.mapV]; exact hf _ _ h
 | .sl j, x, h => by simp only [Go.Proofs.YthnohcipianijaaGreatDoor.mapV]; exact hf _ _ h
 | .agg cs, x, h => by
  simp only [Go.Proofs.YthnohcipianijaaGreatDoor.mapV, VRel] at h ⊢
  obtain ⟨xs, h1, h2⟩ := h
  exact ⟨xs, h1, LRel.mapV hf h2⟩
 | .tup cs, x, h => by
  simp only [Go.Proofs.YthnohcipianijaaGreatDoor.mapV, VRel] at h ⊢
  obtain ⟨xs, h1, h2⟩ := h
  exact ⟨xs, h1, LRel.mapV hf h2⟩
 | .clo fid cs, x, h => by
  simp only [Go.Proofs.YthnohcipianijaaGreatDoor.mapV, VRel] at h ⊢
  obtain ⟨xs, h1, h2⟩ := h
  exact ⟨xs, h1, LRel.mapV hf h2⟩
theorem LRel.mapV {S S' : Nat → Prop} {w : World} {ρ : Nat → Option Value} {f : V → V} (hf : ∀ v x, VRel S w ρ v x → VRel S' w ρ (f v) x) : ∀ {v : List V} {x : List Value}, LRel S w ρ v x → LRel S' w ρ (mapVs f v) x
 | [], x, h => by simp only [mapVs, LRel] at h ⊢; exact h
 | v :: r, x, h => by
  simp only [mapVs, LRel] at h ⊢
  obtain ⟨y, ys, h1, h2, h3⟩ := h
  exact ⟨y, ys, h1, VRel.mapV hf h2, LRel.mapV hf h3⟩
end
def fF (f : V → V) : Fm → Fm
 | [] => []
 | none :: r => none :: fF f r
 | some v :: r => some (mapV f v) :: fF f r
theorem li {f : V → V} : ∀ (F : Fm) (i : Nat), (fF f F).get i = (F.get i).map (mapV f)
 | [], i => by simp [fF, Fm.get]
 | none :: r, 0 => by simp [fF, Fm.get]
 | some v :: r, 0 => by simp [fF, Fm.get]
 | none :: r, i + 1 => by simp [fF, Fm.get, li r i]
 | some v :: r, i + 1 => by simp [fF, Fm.get, li r i]
theorem lD {f : V → V} : ∀ (F : Fm), (fF f F).length = F.length
 | [] => rfl
 | none :: r => by simp [fF, lD r]
 | some v :: r => by simp [fF, lD r]
def eW (f : V → V) (id : Nat) : List (Nat × Ob) → List (Nat × Ob)
 | [] => []
 |(j, o) :: r => match Nat.beq j id with
  | true => eW f id r
  |false => match o with
   | .var t cs => (j, .var t (mapVs f cs)) :: eW f id r
   | o => (j, o) :: eW f id r
theorem kA {f : V → V} {id i : Nat} : ∀ {l : List (Nat × Ob)}, an (eW f id l) i = if i = id then .gone else match an l i with | .var t cs => .var t (mapVs f cs) | o => o
 | [] => by simp [eW, an]
 | (j, o) :: r => by
  have ih := kA (f := f) (id := id) (i := i) (l := r)
  simp only [eW]
  by_cases hj : j = id
  ·subst hj
   rw [nbT]
   simp only []
   rw [ih]
   by_cases hi : i = j
   ·simp [hi]
   ·rw [if_neg hi, if_neg hi]
    simp only [an, nbF (Ne.symm hi)]
  ·rw [nbF hj]
   simp only []
   by_cases hi : j = i
   ·subst hi
    rw [if_neg hj]
    cases o <;> simp only [an, nbT]
   ·have e2 : an ((j, o) :: r) i = an r i := by simp only [an, nbF hi]
    rw [e2, ← ih]
    cases o <;> simp only [an, nbF hi]
theorem go_frz {f : V → V} {id : Nat} (hid : H.get id ≠ .free) (hf : ∀ S w ρ, HRel S w ρ H.get → ∀ v x, VRel S w ρ v x → VRel (fun b => S b ∨ own ρ id (H.get id) b) w ρ (f v) x) (h1 : fF f F = F1) (h2 : (⟨H.nx, eW f id H.es⟩ : Hp) = H1) (k : Go P K Q p s n F1 H1) : Go P K Q p s n F H := fun S w ρ a hr hi hF => by
 subst h1 h2
 obtain ⟨g1, g2⟩ := cC (id := id) hr
 have hlt : id < H.nx := by
  rcases Nat.lt_or_ge id H.nx with h | h
  ·exact h
  ·exfalso; apply hid
   unfold Hp.get
   have : Nat.blt id H.nx = false := by cases hb : Nat.blt id H.nx; rfl; simp [Nat.blt_eq] at hb; omega
   rw [this]
 have hg : ∀ i, (⟨H.nx, eW f id H.es⟩ : Hp).get i = if i = id then .gone else match H.get i with | .var t cs => .var t (mapVs f cs) | o => o := fun i => by
  unfold Hp.get
  by_cases hi : i = id
  ·subst hi
   simp only [nlT hlt, if_true, kA]
  ·simp only [if_neg hi]
   cases hb : Nat.blt i H.nx
   ·rfl
   ·simp only [kA, if_neg hi]
 have hob : ∀ i, i ≠ id → own ρ i ((⟨H.nx, eW f id H.es⟩ : Hp).get i) = own ρ i (H.get i) := fun i hii => by
  rw [hg i, if_neg hii]
  cases H.get i <;> rfl
 have hhr : HRel (fun b => S b ∨ own ρ id (H.get id) b) w ρ (⟨H.nx, eW f id H.es⟩ : Hp).get := by
  have hne : ∀ i b, own ρ i ((⟨H.nx, eW f id H.es⟩ : Hp).get i) b → i ≠ id ∧ own ρ i (H.get i) b := fun i b hb => by
   by_cases hii : i = id
   ·subst hii; rw [hg i, if_pos rfl] at hb; exact hb.elim
   ·rw [hob i hii] at hb; exact ⟨hii, hb⟩
  refine ⟨fun i => ?_, fun i b hb => ?_, fun i j b hbi hbj => hr.dis i j b (hne i b hbi).2 (hne j b hbj).2, g1.slt⟩
  ·rw [hg i]
   by_cases hii : i = id
   ·rw [if_pos hii]; trivial
   ·rw [if_neg hii]
    have h0 := g1.ob i
    rw [aV _ _ hii] at h0
    have h1 := hr.ob i
    cases ho : H.get i with
    | var t cs =>
     rw [ho] at h1
     obtain ⟨b, xs, q1, q2, q3⟩ := h1
     exact ⟨b, xs, q1, q2, q3.mapV (hf S w ρ hr)⟩
    | _ => rw [ho] at h0; exact h0
  ·have := hne i b hb
   exact g1.sep i b (by rw [aV _ _ this.1]; exact this.2)
 have hii : Inv K (fun b => S b ∨ own ρ id (H.get id) b) w ρ (⟨H.nx, eW f id H.es⟩ : Hp).get := by
  have h0 := hi.frz hr id
  refine ⟨h0.chg, h0.s0, h0.s1, fun i b hb => ?_, h0.pin⟩
  by_cases hii : i = id
  ·subst hii; rw [hg i, if_pos rfl] at hb; exact hb.elim
  ·rw [hob i hii] at hb; exact hi.ow i b hb
 have := k _ w ρ a hhr hii ⟨hF.size, hF.defers, by rw [lD]; exact hF.len, fun i u hu => by
  rw [li] at hu
  obtain ⟨v, h3, h4⟩ := Option.map_eq_some_iff.1 hu
  obtain ⟨x, h5, h6⟩ := hF.get i v h3
  exact ⟨x, h5, by rw [← h4]; exact h6.mapV (hf S w ρ hr)⟩⟩
 cases p with
 | drw all L m left listed => exact fun hs => ll (jI (fun b hb => .inl hb) Agree.refl) (fun x _ h => h) _ _ _ _ (this hs)
 | code c => exact this
 | ops all rest => exact this
 | ex e => exact this
def fzR (id sz : Nat) (els : List V) : V → V
 |.sl j => match Nat.beq j id with
  | true => .row sz els
  | false => .sl j
 | v => v
def fzP (id : Nat) (cs : List V) : V → V
 |.ptr j o => match Nat.beq j id with
  | true => .box cs o
  | false => .ptr j o
 | v => v
theorem gFR {e : TypeId} {sz : Nat} {els : List V} (id : Nat) (ho : H.get id = .row e sz els) (hpu : pureL els = true) (h1 : fF (fzR id sz els) F = F1) (h2 : (⟨H.nx, eW (fzR id sz els) id H.es⟩ : Hp) = H1) (k : Go P K Q p s n F1 H1) : Go P K Q p s n F H :=
 go_frz (f := fzR id sz els) (by rw [ho]; simp) (fun S w ρ hr v x hx => by
  unfold fzR
  split
  ·split
   ·rename_i hb
    have := Nat.eq_of_beq_eq_true hb
    subst this
    exact ml hr ho hpu hx
   ·exact hx.up (cC hr).2
  ·exact hx.up (cC hr).2) h1 h2 k
theorem gFP {t : TypeId} {cs : List V} (id : Nat) (ho : H.get id = .var t cs) (hpu : pureL cs = true) (h1 : fF (fzP id cs) F = F1) (h2 : (⟨H.nx, eW (fzP id cs) id H.es⟩ : Hp) = H1) (k : Go P K Q p s n F1 H1) : Go P K Q p s n F H :=
 go_frz (f := fzP id cs) (by rw [ho]; simp) (fun S w ρ hr v x hx => by
  unfold fzP
  split
  ·split
   ·rename_i hb
    have := Nat.eq_of_beq_eq_true hb
    subst this
    exact qB hr ho hpu hx
   ·exact hx.up (cC hr).2
  ·exact hx.up (cC hr).2) h1 h2 k
def mkF : Nat → Nat → List (Nat × V) → Fm
 | 0, _, _ => []
 | n + 1, i, [] => none :: mkF n (i + 1) []
 |n + 1, i, (j, v) :: r => match Nat.beq i j with
  | true => some v :: mkF n (i + 1) r
  | false => none :: mkF n (i + 1) ((j, v) :: r)
end
end Go.Proofs.YthnohcipianijaaGreatDoor
namespace Go.Proofs.YthnohcipianijaaGreatDoor
open Go.RowKit
mutual
def vEq : V → V → Bool
 |.int k n, v => match v with
  | .int k' n' => kEq k k' && iEq n n'
  | _ => false
 |.bool b, v => match v with
  | .bool c => b == c
  | _ => false
 |.str l, v => match v with
  | .str l' => lEq l l'
  | _ => false
 |.nilp, v => match v with
  | .nilp => true
  | _ => false
 |.nils, v => match v with
  | .nils => true
  | _ => false
 |.ptr i o, v => match v with
  | .ptr j p => Nat.beq i j && Nat.beq o p
  | _ => false
 |.el i z k o, v => match v with
  | .el i' z' k' o' => Nat.beq i i' && Nat.beq z z' && Nat.beq k k' && Nat.beq o o'
  | _ => false
 |.sl i, v => match v with
  | .sl j => Nat.beq i j
  | _ => false
 |.row z cs, v => match v with
  | .row z' cs' => Nat.beq z z' && vEqL cs cs'
  | _ => false
 |.agg cs, v => match v with
  | .agg cs' => vEqL cs cs'
  | _ => false
 |.tup cs, v => match v with
  | .tup cs' => vEqL cs cs'
  | _ => false
 | .raw _, _ => false
 | .box _ _, _ => false
 | .clo _ _, _ => false
 | .lk _, _ => false
def vEqL : List V → List V → Bool
 |[], vs => match vs with
  | [] => true
  | _ :: _ => false
 |v :: r, vs => match vs with
  | u :: q => vEq v u && vEqL r q
  | [] => false
end
mutual
theorem vEq_eq : ∀ {v u : V}, vEq v u = true → v = u
 | .int k n, u, h => by
  unfold vEq at h
  split at h
  ·rename_i k' n'
   simp only [Bool.and_eq_true, ke, beq_iff_eq] at h
   obtain ⟨h1, h2⟩ := h
   have : k = k' := by
    unfold kEq at h1
    split at h1 <;> first | rfl | cases h1
   rw [this, h2]
  ·cases h
 | .bool b, u, h => by
  unfold vEq at h
  split at h
  ·rw [beq_iff_eq] at h; rw [h]
  ·cases h
 | .str l, u, h => by
  unfold vEq at h
  split at h
  ·rw [jf, beq_iff_eq] at h; rw [h]
  ·cases h
 | .nilp, u, h => by
  unfold vEq at h
  split at h
  ·rfl
  ·cases h
 | .nils, u, h => by
  unfold vEq at h
  split at h
  ·rfl
  ·cases h
 | .ptr i o, u, h => by
  unfold vEq at h
  split at h
  ·simp only [Bool.and_eq_true, Nat.beq_eq] at h
   obtain ⟨rfl, rfl⟩ := h; rfl
  ·cases h
 | .el i z k o, u, h => by
  unfold vEq at h
  split at h
  ·simp only [Bool.and_eq_true, Nat.beq_eq] at h
   obtain ⟨⟨⟨rfl, rfl⟩, rfl⟩, rfl⟩ := h; rfl
  ·cases h
 | .sl i, u, h => by
  unfold vEq at h
  split at h
  ·rw [Nat.beq_eq] at h; rw [h]
  ·cases h
 | .row z cs, u, h => by
  unfold vEq at h
  split at h
  ·simp only [Bool.and_eq_true, Nat.beq_eq] at h
   obtain ⟨rfl, h2⟩ := h
   rw [vEqL_eq h2]
  ·cases h
 | .agg cs, u, h => by
  unfold vEq at h
  split at h
  ·rw [vEqL_eq h]
  ·cases h
 | .tup cs, u, h => by
  unfold vEq at h
  split at h
  ·rw [vEqL_eq h]
  ·cases h
 | .raw _, u, h => by unfold vEq at h; cases h
 | .box _ _, u, h => by unfold vEq at h; cases h
 | .clo _ _, u, h => by unfold vEq at h; cases h
 | .lk _, u, h => by unfold vEq at h; cases h
theorem vEqL_eq : ∀ {v u : List V}, vEqL v u = true → v = u
 | [], u, h => by
  unfold vEqL at h
  split at h
  ·rfl
  ·cases h
 | v :: r, u, h => by
  unfold vEqL at h
  split at h
  ·simp only [Bool.and_eq_true] at h
   rw [vEq_eq h.1, vEqL_eq h.2]
  ·cases h
end
def fmB (σ : List Nat) : Fm → Fm → Bool
 |[], F' => match F' with
  | [] => true
  | _ :: _ => false
 |x :: r, F' => match F' with
  | [] => false
  |y :: r' => (match y with
   | none => true
   |some u => match x with
    | some v => vEq v (u.ren σ)
    | none => false) && fmB σ r r'
theorem sd {σ : List Nat} : ∀ {F F' : Fm}, fmB σ F F' = true → leF σ F F' ∧ F.length = F'.length
 | [], F', h => by
  unfold fmB at h
  split at h
  ·simp [leF]
  ·cases h
 | x :: r, F', h => by
  unfold fmB at h
  split at h
  ·cases h
  ·rename_i y r'
   simp only [Bool.and_eq_true] at h
   obtain ⟨h1, h2⟩ := h
   obtain ⟨g1, g2⟩ := sd h2
   refine ⟨?_, by simp [g2]⟩
   cases y with
   | none => simp only [leF]; exact g1
   | some u =>
    simp only at h1
    split at h1
    ·rename_i v
     simp only [leF]
     exact ⟨⟨v, rfl, aq.of_eq (vEq_eq h1)⟩, g1⟩
    ·cases h1
theorem aB.of_eq {v u : List V} (h : v = u) : aB v u := h ▸ aB.rfl
def obB (o : Ob) : Ob → Bool
 | .gone => true
 |.var t cs => match o with
  | .var t' cs' => Nat.beq t' t && vEqL cs' cs
  | _ => false
 |.row e z els => match o with
  | .row e' z' els' => Nat.beq e' e && Nat.beq z' z && vEqL els' els
  | _ => false
 | _ => false
theorem vv {o o' : Ob} (h : obB o o' = true) : cw o o' := by
 unfold obB at h
 split at h
 ·cases o <;> simp [cw]
 ·split at h
  ·simp only [Bool.and_eq_true, Nat.beq_eq] at h
   obtain ⟨rfl, h2⟩ := h
   exact ⟨rfl, aB.of_eq (vEqL_eq h2)⟩
  ·cases h
 ·split at h
  ·simp only [Bool.and_eq_true, Nat.beq_eq] at h
   obtain ⟨⟨rfl, rfl⟩, h2⟩ := h
   exact ⟨rfl, rfl, vEqL_eq h2⟩
  ·cases h
 ·cases h
def hpB (σ : List Nat) (H : Hp) : List (Nat × Ob) → Bool
 | [] => true
 |(j, o) :: r => (match atN σ j with
  | some i => obB (H.get i) (o.ren σ)
  | none => false) && hpB σ H r
theorem rp {σ : List Nat} {H : Hp} : ∀ {l : List (Nat × Ob)}, hpB σ H l = true → leH σ H l
 | [], _ => by simp [leH]
 | (j, o) :: r, h => by
  simp only [hpB, Bool.and_eq_true] at h
  obtain ⟨h1, h2⟩ := h
  simp only [leH]
  refine ⟨?_, rp h2⟩
  split at h1
  ·rename_i i hi
   exact ⟨i, hi, vv h1⟩
  ·cases h1
def wO (k i : Nat) : Nat := match Nat.beq i k with
 | true => k + 1
 |false => match Nat.beq i (k + 1) with
  | true => k
  | false => i
def tP (k : Nat) : Nat → List Nat → List Nat
 | 0, acc => acc
 | n + 1, acc => ch (wO k n) fun x => tP k n (x :: acc)
def oc (k : Nat) (F : Fm) (H : Hp) (F' : Fm) (H' : Hp) : Bool :=
 listK (tP k H'.nx []) fun σ => fmB σ F F' && hpB σ H H'.es && (bM σ && Nat.ble σ.length H'.nx && rk σ (List.range k))
theorem go_alike {P : Program} {K : Ctx} {Q : Exit → Act → World → Prop} {s : List EI} {n : Nat} {F F' : Fm} {H H' : Hp} {e : Exit} {k : Nat} (h : oc k F H F' H' = true) (hp : ∀ id x, K.pin id = some x → id < k) (c : Go P K Q (.ex e) s n F' H') : Go P K Q (.ex e) s n F H := fun S w ρ a hr hi hf => by
 unfold oc at h
 rw [aW] at h
 simp only [Bool.and_eq_true] at h
 obtain ⟨⟨h1, h2⟩, ⟨h3, h4⟩, h5⟩ := h
 obtain ⟨g1, g2⟩ := sd h1
 refine go_sub _ (List.range k) rfl (fun id x h => List.mem_range.2 (hp id x h)) g1 (rp h2) ?_ c S w ρ a hr hi hf
 simp only [Bool.and_eq_true]
 exact ⟨⟨⟨h3, h4⟩, h5⟩, by rw [← g2]; exact Nat.ble_eq_true_of_le hf.len⟩
end Go.Proofs.YthnohcipianijaaGreatDoor
namespace Go.Proofs.YthnohcipianijaaGreatDoor
open Go.RowKit
inductive Rs where
 | ok (e : Bool) (F : Fm) (H : Hp)
 | pt (p : EP) (s : List EI) (F : Fm) (H : Hp)
 | er (n m : Nat)
def vt : V → List Nat → List Nat
 | .ptr id _, acc => id :: acc
 | .el id _ _ _, acc => id :: acc
 | .sl id, acc => id :: acc
 | _, acc => acc
def sM : List V → List Nat → List Nat
 | [], acc => acc
 | v :: r, acc => sM r (vt v acc)
def vz : V → List Nat → List Nat
 | .agg cs, acc => sM cs acc
 | v, acc => vt v acc
def jv : List V → List Nat → List Nat
 | [], acc => acc
 | .tup vs :: r, acc => jv r (vs.foldl (fun acc v => vz v acc) acc)
 | v :: r, acc => jv r (vz v acc)
def dh (i : Nat) : List Nat → Bool
 | [] => false
 |j :: r => match Nat.beq i j with
  | true => true
  | false => dh i r
def gm (H : Hp) : Nat → List Nat → List Nat → List Nat
 | 0, _, acc => acc
 | _ + 1, [], acc => acc
 |n + 1, id :: r, acc => match dh id acc with
  | true => gm H n r acc
  |false => match H.get id with
   | .var _ cs => gm H n (sM cs r) (id :: acc)
   | _ => gm H n r (id :: acc)
def kK {α : Type} (R : List Nat) : List (Nat × Ob) → (List (Nat × Ob) → α) → α
 | [], c => c []
 |(i, o) :: r, c => match dh i R with
  | true => kK R r fun r' => c ((i, o) :: r')
  | false => kK R r c
def jH {α : Type} (nx : Nat) (R : List Nat) : List (Nat × Ob) → (List (Nat × Ob) → α) → α
 | [], c => c []
 |(i, o) :: r, c => match !dh i R && Nat.blt i nx with
  |true => match o with
   | .free => jH nx R r fun r' => c ((i, .gone) :: r')
   | o => jH nx R r fun r' => c ((i, o) :: r')
  | false => jH nx R r c
def qj {α : Type} (lo : Nat) (H : Hp) (v : V) (c : V → Hp → α) : α := match v with
 |.sl id => match Nat.ble lo id with
  |true => match H.get id with
   |.row _ sz els => match pureL els with
    | true => mI id H.es fun es => c (.row sz els) ⟨H.nx, es⟩
    | false => c v H
   | _ => c v H
  | false => c v H
 | _ => c v H
def qL {α : Type} (lo : Nat) (H : Hp) : List V → (List V → Hp → α) → α
 | [], c => c [] H
 | v :: r, c => qj lo H v fun v' H' => qL lo H' r fun r' H'' => c (v' :: r') H''
def sy {α : Type} (lo : Nat) (H : Hp) (v : V) (c : V → Hp → α) : α := match v with
 | .agg cs => qL lo H cs fun cs H' => c (.agg cs) H'
 | v => qj lo H v c
def oU {α : Type} (lo : Nat) (H : Hp) : List V → (List V → Hp → α) → α
 | [], c => c [] H
 | v :: r, c => sy lo H v fun v' H' => oU lo H' r fun r' H'' => c (v' :: r') H''
def sm (H : Hp) : List Nat → Bool
 | [] => false
 |i :: r => match H.get i with
  | .row _ _ _ => true
  | _ => sm H r
def uy (o : Oper) : Bool := match o.op with
 | .store .. => true
 | _ => false
def vN (o : Oper) : Bool := match o.op with
 | .alloc .. => false
 | .box .. => false
 | .store .. => false
 | .buildSlice .. => false
 | .makeSlice .. => false
 | .call ⟨.builtin .len, _, _⟩ => true
 | .call ⟨.builtin .max, _, _⟩ => true
 | .call .. => false
 | _ => true
def qf : Nat → List Oper → Nat
 | i, [] => i
 |i, o :: r => match uy o with
  | true => i
  | false => qf (i + 1) r
def kb (T : Tab) (H : Hp) (all : Array Oper) : List Oper → Fm → List Nat → List Nat → List Nat
 | [], _, rd, cl => rd.filter fun i => !dh i cl
 |o :: r, F, rd, cl => match aF F all o.guard with
  | some false => F.puto o.dst (some (.tup [])) fun F' => kb T H all r F' rd cl
  |_ => match fu T H.get F o.op with
   | some v => F.puto o.dst (some v) fun F' => kb T H all r F' rd cl
   |none => match jg F o.op with
    |some id => match eB T H.get F H.nx o.op with
     | some (v, _) => F.puto o.dst v fun F' => kb T H all r F' (match dh id rd with | true => rd | false => id :: rd) cl
     | none => F.puto o.dst none fun F' => kb T H all r F' rd cl
    |none => match o.op with
     |.call ⟨.value (.func _), ⟨args⟩, _⟩ => match db F args with
      | some vs => F.puto o.dst none fun F' => kb T H all r F' rd (gm H 40 (jv vs []) cl)
      | none => F.puto o.dst none fun F' => kb T H all r F' rd cl
     | _ => F.puto o.dst none fun F' => kb T H all r F' rd cl
def ms (F : Fm) (all : Array Oper) (L : List Nat) (m : Nat) (listed : Array Bool) : List Nat → Option Nat
 | [] => none
 |i :: r => match all[i]? with
  |some o => match Nat.beq i m with
   | true => ms F all L m listed r
   |false => match vN o with
    |true => match Region.free .any all listed i with
     | true => some i
     | false => ms F all L m listed r
    | false => ms F all L m listed r
  | none => none
section
variable (T : Tab) (ih : EP → List EI → Fm → Hp → Rs)
def qo (keep : Bool) (vs : List V) (fn : Func) (b : Code) (H : Hp) (L : List Nat) (ok : Bool) (c : V → Hp → Rs) : Rs :=
 match gm H 40 (jv vs []) [] with
 |R => match (bg H.get L && L.all fun i => !dh i R) || ok with
  |true => kK R H.es fun es1 => match ih (.code b) [] (eD fn.ntmps vs) ⟨H.nx, es1⟩ with
   |.ok _ F1 H1 => match jt T H1.get F1 fn.results.toList with
    |some rs => match Nat.ble H.nx H1.nx with
     |true => match keep || sm H R with
      | true => jH H.nx R H.es fun es2 => c (gb rs) ⟨H1.nx, H1.es ++ es2⟩
      |false => oU H.nx H1 rs fun rs H2 => match gm H2 60 (jv rs R) [] with
       | R2 => kK R2 H2.es fun es3 => jH H.nx R H.es fun es2 => c (gb rs) ⟨H2.nx, es3 ++ es2⟩
     | false => .er 1 0
    | none => .er 2 0
   | .er n m => .er n m
   | .pt .. => .er 3 0
  | false => .er 4 0
def jy (F : Fm) (H : Hp) (L : List Nat) (ok : Bool) (o : Oper) (c : Option V → Hp → Rs) : Rs :=
 match fu T H.get F o.op with
 | some v => c (some v) H
 |none => match ch H.nx fun nid => eB T H.get F nid o.op with
  |some (v, ed) => match (bg H.get L && ed.clear L) || ok with
   |true => H.ap ed fun H' => match v with
    | some v => c (some v) H'
    | none => c (some (.tup [])) H'
   | false => .er 5 0
  |none => match o.op with
   |.call ⟨.value (.func fid), ⟨args⟩, _⟩ => match db F args with
    |some vs => match T.nat fid vs with
     | some v => c (some v) H
     |none => match T.fn fid with
      |some fn => match fn.body with
       |some b => match Nat.ble vs.length fn.ntmps with
        | true => qo T ih (T.keep fid) vs fn b H L ok fun v H' => c (some v) H'
        | false => .er 6 fid
       | none => .er 7 fid
      | none => .er 8 fid
    | none => .er 9 fid
   | _ => .er (10000 + o.type) (match o.dst with | some d => d | none => 999)
def oy (l : List Nat) (j : Nat) : Bool := match l with
 | [x] => Nat.beq x j
 | _ => false
def qQ (x y i : Nat) : Nat := match Nat.beq x i with
 | true => y
 |false => match Nat.beq y i with
  | true => x
  | false => i
def nE (all : Array Oper) (L : List Nat) (m i : Nat) (o : Oper) (ps : List (Nat × Operand)) (v : V) (s : List EI) : Nat → Array Bool → Fm → Hp → Rs
 |left, listed, F, H => match bg H.get L || (listed.setIfInBounds i true).getD m false with
  |true => match Region.ready .any all listed with
   |[x] => match Nat.beq x i with
    | true => F.puto o.dst (some v) fun F' => ih (.drw all L m left (listed.setIfInBounds i true)) s F' H
    | false => .er 41 i
   |[x, y] => match left with
    | 0 => .er 42 i
    |left + 1 => ch (qQ x y i) fun j => match Nat.beq j i with
     | true => .er 43 i
     |false => match all[j]? with
      |some oj => match oy (Region.ready .any all (listed.setIfInBounds i true)) j && nC o.dst oj.dst && iX oj.dst ps && (match o.dst with | some t => (F.get t).isNone | none => true) with
       |true => match aF F all oj.guard with
        | some true => jy T ih F H L ((listed.setIfInBounds j true).getD m false && ((listed.setIfInBounds j true).setIfInBounds i true).getD m false) oj fun u H' => F.puto oj.dst u fun F' => nE all L m i o ps v s left (listed.setIfInBounds j true) F' H'
        | _ => .er 44 i
       | false => .er 45 i
      | none => .er 46 i
   | _ => .er 47 i
  | false => .er 48 i
def jn (T : Tab) (F : Fm) (all : Array Oper) : List Nat → Option (Nat × Oper × List (Nat × Operand) × V)
 | [] => none
 |i :: r => match all[i]? with
  |some ⟨_, .buildSlice _ _ ⟨ps⟩, _, _, _, none⟩ => match eg F ps with
   |some vs => match iG T all i vs with
    | some (o, ps', v) => some (i, o, ps', v)
    | none => jn T F all r
   | none => jn T F all r
  | _ => jn T F all r
def tu (all : Array Oper) (L : List Nat) (m left i j : Nat) (listed : Array Bool) (s : List EI) (F : Fm) (H : Hp) : Rs := match all[i]? with
 |some oi => match all[j]? with
  |some oj => match aF F all oi.guard with
   |some true => match aF F all oj.guard with
    |some true => jy T ih F H L ((listed.setIfInBounds i true).getD m false) oi fun ui Hi => F.puto oi.dst ui fun Fi => match ih (.drw all L m left (listed.setIfInBounds i true)) [] Fi Hi with
     |.ok false F1 H1 => jy T ih F H L ((listed.setIfInBounds j true).getD m false) oj fun uj Hj => F.puto oj.dst uj fun Fj => match ih (.drw all L m left (listed.setIfInBounds j true)) [] Fj Hj with
      |.ok false F2 H2 => match oc H.nx F2 H2 F1 H1 with
       | true => ih (.ex .normal) s F1 H1
       | false => .er 51 i
      | .er a b => .er a b
      | _ => .er 52 i
     | .er a b => .er a b
     | _ => .er 53 i
    | _ => .er 54 i
   | _ => .er 55 i
  | none => .er 56 i
 | none => .er 57 i
def qG (c : Code) (s : List EI) (F : Fm) (H : Hp) : Rs := match c with
 | .seq x y => ih (.code x) (.seq y :: s) F H
 | .block id c => ih (.code c) (.blk id :: s) F H
 | .skip => ih (.ex .normal) s F H
 | .ret => ih (.ex .ret) s F H
 | .exit id => ih (.ex (.exit id)) s F H
 | .scope c => ih (.code c) (.scp :: s) F H
 | .label _ => ih (.ex .normal) s F H
 | .loop c => ih (.code c) (.loop c 1000000 :: s) F H
 |.cond c x y => match az F c with
  | some (.bool true) => ih (.code x) s F H
  | some (.bool false) => ih (.code y) s F H
  | _ => .er 11 0
 | .region _ ⟨l⟩ false => ih (.ops ⟨l⟩ l) s F H
 |.region _ ⟨l⟩ true => match Region.noSelect ⟨l⟩ with
  | true => listK (kb T H ⟨l⟩ l F [] []) fun L => ch (qf 0 l) fun m => ch l.length fun n => ih (.drw ⟨l⟩ L m n (Array.replicate n false)) s F H
  | false => .er 13 0
 | _ => .er 14 0
def oC (all : Array Oper) (rest : List Oper) (s : List EI) (F : Fm) (H : Hp) : Rs := match rest with
 | [] => ih (.ex .normal) s F H
 |o :: r => match aF F all o.guard with
  | some false => F.puto o.dst (some (.tup [])) fun F' => ih (.ops all r) s F' H
  | some true => jy T ih F H [] true o fun v H' => F.puto o.dst v fun F' => ih (.ops all r) s F' H'
  | none => .er 15 0
def rg (e : Exit) (s : List EI) (F : Fm) (H : Hp) : Rs := match s with
 |[] => match e with
  | .normal => .ok false F H
  | .ret => .ok true F H
  | _ => .er 16 0
 |.seq c :: s => match e with
  | .normal => ih (.code c) s F H
  | .exit i => ih (.ex (.exit i)) s F H
  | .ret => ih (.ex .ret) s F H
  | _ => .er 17 0
 |.loop c j :: s => match e with
  |.normal => match j with
   | 0 => .er 18 0
   | j + 1 => ih (.code c) (.loop c j :: s) F H
  | .exit i => ih (.ex (.exit i)) s F H
  | .ret => ih (.ex .ret) s F H
  | _ => .er 19 0
 |.scp :: s => match e with
  | .normal => ih (.ex .normal) s F H
  | .exit i => ih (.ex (.exit i)) s F H
  | .ret => ih (.ex .ret) s F H
  | _ => .er 20 0
 |.blk id :: s => match e with
  | .normal => ih (.ex .normal) s F H
  |.exit i => match Nat.beq i id with
   | true => ih (.ex .normal) s F H
   | false => ih (.ex (.exit i)) s F H
  | .ret => ih (.ex .ret) s F H
  | _ => .er 21 0
def qw (all : Array Oper) (L : List Nat) (m left : Nat) (listed : Array Bool) (s : List EI) (F : Fm) (H : Hp) : Rs := match Region.ready .any all listed with
 | [] => ih (.ex .normal) s F H
 |i :: R => match left with
  | 0 => .er 22 0
  |left + 1 => match R with
   |[] => match all[i]? with
    |some o => match aF F all o.guard with
     | some false => F.puto o.dst (some (.tup [])) fun F' => ih (.drw all L m left (listed.setIfInBounds i true)) s F' H
     | some true => jy T ih F H L ((listed.setIfInBounds i true).getD m false) o fun v H' => F.puto o.dst v fun F' => ih (.drw all L m left (listed.setIfInBounds i true)) s F' H'
     | none => .er (6000 + all.size) i
    | none => .er 24 0
   |_ => match ms F all L m listed (i :: R) with
    |some i => match all[i]? with
     |some o => match (Region.ready .any all listed).contains i && Region.free .any all listed i && !Nat.beq i m with
      |true => match aF F all o.guard with
       | some false => F.puto o.dst (some (.tup [])) fun F' => ih (.drw all L m left (listed.setIfInBounds i true)) s F' H
       |some true => match fu T H.get F o.op with
        | some v => F.puto o.dst (some v) fun F' => ih (.drw all L m left (listed.setIfInBounds i true)) s F' H
        |none => match jg F o.op with
         |some id => match L.contains id && ma .any all m i && !listed.getD m false with
          |true => match eB T H.get F H.nx o.op with
           | some (some v, _) => F.puto o.dst (some v) fun F' => ih (.drw all L m left (listed.setIfInBounds i true)) s F' H
           | _ => .er (4000 + all.size) i
          | false => .er (2000 + all.size) i
         | none => .er (3000 + all.size) i
       | none => .er (5000 + all.size) i
      | false => .er 29 i
     | none => .er 30 i
    |none => match jn T F all (i :: R) with
     | some (i, o, ps, v) => F.puto o.dst none fun F' => nE T ih all L m i o ps v s left listed F' H
     |none => match R with
      | [j] => tu T ih all L m left i j listed s F H
      | _ => .er (1000 + all.size) i
def step (p : EP) (s : List EI) (F : Fm) (H : Hp) : Rs := match p with
 | .code c => qG T ih c s F H
 | .ops all rest => oC T ih all rest s F H
 | .ex e => rg ih e s F H
 | .drw all L m left listed => qw T ih all L m left listed s F H
end
def run (T : Tab) : Nat → EP → List EI → Fm → Hp → Rs
 | 0, p, s, F, H => .pt p s F H
 | k + 1, p, s, F, H => step T (run T k) p s F H
end Go.Proofs.YthnohcipianijaaGreatDoor
namespace Go.Proofs.YthnohcipianijaaGreatDoor
open Go.RowKit
set_option maxRecDepth 100000
def tyL : List (Nat × TD) := [
 (3, ⟨1, 8, .int .i64 0, .sc⟩),
 (35, ⟨4, 72, .agg [.int .i64 0, .str [], .nils, .nils], .struct [(0, 1, true), (1, 1, true), (2, 1, true), (3, 1, true)]⟩),
 (31, ⟨1, 24, .nils, .sl 35⟩),
 (24, ⟨4, 56, .agg [.int .i64 0, .int .i64 0, .str [], .nils], .struct [(0, 1, true), (1, 1, true), (2, 1, true), (3, 1, true)]⟩),
 (9, ⟨1, 16, .str [], .str⟩),
 (33, ⟨1, 24, .nils, .sl 9⟩),
 (102, ⟨2, 16, .agg [.int .i64 0, .int .i64 0], .struct [(0, 1, true), (1, 1, true)]⟩),
 (22, ⟨1, 24, .nils, .sl 24⟩),
 (149, ⟨1, 24, .nils, .sl 152⟩),
 (5, ⟨1, 1, .int .u8 0, .sc⟩),
 (86, ⟨1, 8, .nilp, .sc⟩),
 (29, ⟨1, 24, .nils, .sl 3⟩),
 (2, ⟨1, 8, .int .i64 0, .sc⟩),
 (90, ⟨3, 40, .agg [.int .i64 0, .str [], .str []], .struct [(0, 1, true), (1, 1, true), (2, 1, true)]⟩),
 (55, ⟨1, 8, .nilp, .sc⟩),
 (36, ⟨1, 8, .int .i64 0, .sc⟩),
 (92, ⟨1, 8, .nilp, .sc⟩),
 (218, ⟨4, 32, .agg [.int .i64 0, .int .i64 0, .int .i64 0, .int .i64 0], .struct [(0, 1, true), (1, 1, true), (2, 1, true), (3, 1, true)]⟩),
 (52, ⟨1, 24, .nils, .sl 98⟩),
 (152, ⟨2, 32, .agg [.str [], .str []], .struct [(0, 1, true), (1, 1, true)]⟩),
 (67, ⟨1, 24, .nils, .sl 71⟩),
 (71, ⟨6, 72, .agg [.int .i64 0, .int .i64 0, .int .i64 0, .bool false, .str [], .nils], .struct [(0, 1, true), (1, 1, true), (2, 1, true), (3, 1, true), (4, 1, true), (5, 1, true)]⟩),
 (98, ⟨3, 40, .agg [.int .i64 0, .nils, .int .i64 0], .struct [(0, 2, false), (2, 1, true)]⟩),
 (104, ⟨11, 168, .agg [.nils, .nils, .raw (.map none), .raw (.map none), .int .i64 0, .nils, .nils, .int .i64 0, .nils, .int .i64 0, .int .i64 0], .struct [(0, 1, true), (1, 1, true), (2, 1, true), (3, 1, true), (4, 1, true), (5, 1, true), (6, 1, true), (7, 2, false), (9, 2, false)]⟩),
 (117, ⟨5, 56, .agg [.int .i64 0, .nils, .int .i64 0, .int .i64 0, .bool false], .struct [(0, 2, false), (2, 1, true), (3, 1, true), (4, 1, true)]⟩),
 (83, ⟨1, 24, .nils, .sl 90⟩),
 (180, ⟨2, 16, .agg [.int .i64 0, .int .i64 0], .struct [(0, 1, true), (1, 1, true)]⟩),
 (88, ⟨5, 56, .agg [.nils, .int .i64 0, .int .i64 0, .int .i64 0, .int .i64 0], .struct [(0, 1, true), (1, 1, true), (2, 1, true), (3, 1, true), (4, 1, true)]⟩),
 (64, ⟨1, 24, .nils, .sl 117⟩),
 (174, ⟨1, 8, .nilp, .sc⟩),
 (136, ⟨3, 40, .agg [.nils, .int .i64 0, .int .i64 0], .struct [(0, 1, true), (1, 2, false)]⟩),
 (66, ⟨1, 8, .nilp, .sc⟩),
 (76, ⟨1, 8, .nilp, .sc⟩),
 (114, ⟨4, 80, .agg [.nils, .int .i64 0, .nils, .nils], .struct [(0, 1, true), (1, 1, true), (2, 1, true), (3, 1, true)]⟩),
 (118, ⟨1, 8, .nilp, .sc⟩),
 (4, ⟨1, 1, .bool false, .bool⟩),
 (79, ⟨1, 8, .nilp, .sc⟩),
 (122, ⟨1, 8, .nilp, .sc⟩),
 (96, ⟨2, 32, .agg [.int .i64 0, .nils], .struct [(0, 1, true), (1, 1, true)]⟩),
 (237, ⟨4, 32, .agg [.int .i64 0, .int .i64 0, .int .i64 0, .int .i64 0], .arr 2 102⟩),
 (134, ⟨1, 24, .nils, .sl 102⟩),
 (69, ⟨3, 40, .agg [.nils, .int .i64 0, .int .i64 0], .struct [(0, 1, true), (1, 1, true), (2, 1, true)]⟩),
 (81, ⟨3, 40, .agg [.nils, .int .i64 0, .int .i64 0], .struct [(0, 1, true), (1, 1, true), (2, 1, true)]⟩),
 (108, ⟨2, 32, .agg [.nils, .int .i64 0], .struct [(0, 1, true), (1, 1, true)]⟩),
 (120, ⟨6, 80, .agg [.str [], .int .i64 0, .int .i64 0, .str [], .nils, .nilp], .struct [(0, 1, true), (1, 4, false), (5, 1, true)]⟩),
 (124, ⟨6, 80, .agg [.str [], .int .i64 0, .int .i64 0, .str [], .nils, .nilp], .struct [(0, 1, true), (1, 4, false), (5, 1, true)]⟩),
 (176, ⟨4, 40, .agg [.str [], .int .i64 0, .int .i64 0, .nilp], .struct [(0, 1, true), (1, 2, false), (3, 1, true)]⟩),
 (50, ⟨20, 280, .agg [.int .i64 0, .int .i64 0, .str [], .nils, .int .i64 0, .int .i64 0, .str [], .nils, .int .i64 0, .int .i64 0, .str [], .nils, .int .i64 0, .int .i64 0, .str [], .nils, .int .i64 0, .int .i64 0, .str [], .nils], .arr 5 24⟩),
 (204, ⟨2, 24, .agg [.int .i64 0, .str []], .struct [(0, 1, true), (1, 1, true)]⟩),
 (49, ⟨5, 80, .agg [.str [], .str [], .str [], .str [], .str []], .arr 5 9⟩),
 (212, ⟨1, 8, .int .u64 0, .sc⟩),
 (100, ⟨1, 8, .raw (.map none), .sc⟩),
 (139, ⟨2, 16, .agg [.int .i64 0, .int .i64 0], .struct [(0, 1, true), (1, 1, true)]⟩),
 (73, ⟨1, 8, .nilp, .sc⟩),
 (109, ⟨3, 48, .agg [.str [], .str [], .str []], .arr 3 9⟩),
 (210, ⟨1, 24, .nils, .sl 29⟩),
 (99, ⟨1, 8, .raw (.map none), .sc⟩),
 (156, ⟨1, 8, .nilp, .sc⟩)]
def gj {α : Type} : List (Nat × α) → Nat → Option α
 | [], _ => none
 |(i, x) :: r, j => match Nat.beq i j with
  | true => some x
  | false => gj r j
def tyB (P : Program) : List (Nat × TD) → Bool
 | [] => true
 | (t, d) :: r => tdB P t d && tyB P r
theorem sp {P : Program} : ∀ {l : List (Nat × TD)}, tyB P l = true → ∀ t d, gj l t = some d → TdOk P t d
 | [], _, t, d, h => by cases h
 | (i, x) :: r, hb, t, d, h => by
  simp only [tyB, Bool.and_eq_true] at hb
  simp only [gj] at h
  split at h
  ·rename_i e
   have := Nat.eq_of_beq_eq_true e
   subst this
   injection h with h; subst h
   exact wu hb.1
  ·exact sp hb.2 t d h
theorem rR : ∀ t d, gj tyL t = some d → TdOk Tryz.prog t d := sp (by kernel_rfl)
noncomputable def fnL : List (Nat × Func) := [(27, Tryz.f27), (49, Tryz.f49), (50, Tryz.f50), (51, Tryz.f51), (72, Tryz.f72), (73, Tryz.f73), (74, Tryz.f74), (75, Tryz.f75), (76, Tryz.f76), (77, Tryz.f77), (78, Tryz.f78), (79, Tryz.f79), (80, Tryz.f80), (116, Tryz.f116), (117, Tryz.f117), (118, Tryz.f118), (119, Tryz.f119), (120, Tryz.f120), (122, Tryz.f122), (123, Tryz.f123), (124, Tryz.f124), (125, Tryz.f125), (159, Tryz.f159), (160, Tryz.f160), (161, Tryz.f161), (162, Tryz.f162), (144, Tryz.f144), (164, Tryz.f164), (186, Tryz.f186), (187, Tryz.f187), (209, Tryz.f209), (210, Tryz.f210)]
def fnB (P : Program) : List (Nat × Func) → Prop
 | [] => True
 | (i, f) :: r => (P.funcs[i]? = some f ∧ bI P i = true) ∧ fnB P r
theorem rA {P : Program} : ∀ {l : List (Nat × Func)}, fnB P l → ∀ i f, gj l i = some f → P.funcs[i]? = some f ∧ bI P i = true
 | [], _, i, f, h => by cases h
 | (j, x) :: r, hb, i, f, h => by
  simp only [gj] at h
  split at h
  ·rename_i e
   have := Nat.eq_of_beq_eq_true e
   subst this
   injection h with h; subst h
   exact hb.1
  ·exact rA hb.2 i f h
theorem vQ : ∀ i f, gj fnL i = some f → Tryz.prog.funcs[i]? = some f ∧ bI Tryz.prog i = true := rA ⟨⟨Tryz.func27, by kernel_rfl⟩, ⟨Tryz.func49, by kernel_rfl⟩, ⟨Tryz.func50, by kernel_rfl⟩, ⟨Tryz.func51, by kernel_rfl⟩, ⟨Tryz.func72, by kernel_rfl⟩, ⟨Tryz.func73, by kernel_rfl⟩, ⟨Tryz.func74, by kernel_rfl⟩, ⟨Tryz.func75, by kernel_rfl⟩, ⟨Tryz.func76, by kernel_rfl⟩, ⟨Tryz.func77, by kernel_rfl⟩, ⟨Tryz.func78, by kernel_rfl⟩, ⟨Tryz.func79, by kernel_rfl⟩, ⟨Tryz.func80, by kernel_rfl⟩, ⟨Tryz.func116, by kernel_rfl⟩, ⟨Tryz.func117, by kernel_rfl⟩, ⟨Tryz.func118, by kernel_rfl⟩, ⟨Tryz.func119, by kernel_rfl⟩, ⟨Tryz.func120, by kernel_rfl⟩, ⟨Tryz.func122, by kernel_rfl⟩, ⟨Tryz.func123, by kernel_rfl⟩, ⟨Tryz.func124, by kernel_rfl⟩, ⟨Tryz.func125, by kernel_rfl⟩, ⟨Tryz.func159, by kernel_rfl⟩, ⟨Tryz.func160, by kernel_rfl⟩, ⟨Tryz.func161, by kernel_rfl⟩, ⟨Tryz.func162, by kernel_rfl⟩, ⟨Tryz.func144, by kernel_rfl⟩, ⟨Tryz.func164, by kernel_rfl⟩, ⟨Tryz.func186, by kernel_rfl⟩, ⟨Tryz.func187, by kernel_rfl⟩, ⟨Tryz.func209, by kernel_rfl⟩, ⟨Tryz.func210, by kernel_rfl⟩, trivial⟩
end Go.Proofs.YthnohcipianijaaGreatDoor
namespace Go.Proofs.YthnohcipianijaaGreatDoor
open Go.RowKit Lx Sx
def sQ : Tab := ⟨false, gj tyL, fun _ => none, fun _ _ => none, fun _ => false⟩
theorem ab : TabOk Tryz.prog sQ := ⟨rR, (fun _ _ h => by cases h), (fun _ _ _ h => by cases h)⟩
mutual
def treeV : Tree → V
 | .node k s ls ks => .agg [.int .i64 k, .str s, .row 1 (ls.map .str), .row 4 (kidsV ks)]
def kidsV : List Tree → List V
 | [] => []
 | t :: r => treeV t :: kidsV r
end
abbrev cN (t : Tree) : List V := [.int .i64 t.kind, .str t.text, .row 1 (t.leads.map .str), .row 4 (kidsV t.kids)]
abbrev nA (t : Tree) : V := .agg (cN t)
theorem ju (t : Tree) : treeV t = nA t := by cases t; simp [treeV, Tree.kind, Tree.text, Tree.leads, Tree.kids]
theorem gk : ∀ (ks : List Tree), (kidsV ks).length = ks.length
 | [] => rfl
 | t :: r => by simp [kidsV, gk r]
theorem bm : ∀ {ks : List Tree} {i : Nat} {u : Tree}, ks[i]? = some u → (kidsV ks)[i]? = some (nA u)
 | [], i, u, h => by simp at h
 | t :: r, 0, u, h => by
  simp only [List.getElem?_cons_zero, Option.some.injEq] at h
  subst h
  simp [kidsV, ju]
 | t :: r, i + 1, u, h => by
  simp only [List.getElem?_cons_succ] at h
  simpa [kidsV] using bm h
theorem rh (t : Tree) : (nA t).pure = true := rfl
theorem lO : ∀ (ks : List Tree), pureL (kidsV ks) = true
 | [] => rfl
 | t :: r => by simp only [kidsV, pureL, ju, rh, lO r]
def jD (P : Program) (fid : FuncId) (us : List V) (v : V) : Prop := pureL us = true ∧ v.pure = true ∧ Sum P fid us ⟨0, []⟩ (fun u _ => u = v)
theorem nG (i : Nat) : (⟨0, []⟩ : Hp).get i = .free := by
 unfold Hp.get
 have : Nat.blt i 0 = false := by cases i <;> rfl
 simp only [this]
theorem ar {P : Program} {K : Ctx} {H : Hp} {fid : FuncId} {vs us : List V} {v : V} (hS : jD P fid us v) (hs : aB vs us) (L : List Nat) (hL : bg H.get L = true) : CallR P K fid vs H L (fun v' H'' => v' = v ∧ H'' = H) := fun S w ρ xs hr hi hx => by
 obtain ⟨h1, h2, h3⟩ := hS
 have hr0 : HRel S w ρ0 (⟨0, []⟩ : Hp).get := ⟨fun i => by rw [nG]; rfl, fun i b hb => by rw [nG] at hb; exact hb.elim, fun i j b hb _ => by rw [nG] at hb; exact hb.elim, hr.slt⟩
 refine (h3 S w ρ0 xs hr0 ((hs.rel hx).pure h1)).mono fun e w' hR => ?_
 obtain ⟨x, S', ρ', u, H', rfl, rfl, hr', hi', hv⟩ := hR
 have hno : ∀ b, ¬ ∃ id, own ρ0 id ((⟨0, []⟩ : Hp).get id) b := fun b ⟨id, hb⟩ => by rw [nG] at hb; exact hb
 have hc : Chg [] w w' := ⟨hi'.chg.os, hi'.chg.tape, hi'.chg.output, hi'.chg.size, fun b hb _ => hi'.chg.block b hb (hno b)⟩
 have up : Up S S' w w' ρ ρ := ⟨hi'.s0, fun b hb hlt => hc.block b hlt (by simp), fun _ _ h => h⟩
 have hs1 : ∀ b, S' b → S b ∨ w.heap.size ≤ b := fun b hb => by
  rcases hi'.s1 b hb with h | h | h
  ·exact .inl h
  ·exact absurd h (hno b)
  ·exact .inr h
 refine ⟨x, S', ρ, u, H, rfl, ⟨rfl, rfl⟩, ⟨fun i => (hr.ob i).up up (fun hf => ?_) (fun b hb => hc.block b (cd (hr.ob i) hb) (by simp)), fun i b hb => ?_, hr.dis, hr'.slt⟩, ⟨hi.chg.trans (ChgP.of hc) (fun b hb => by simp at hb), fun b hb => hi'.s0 b (hi.s0 b hb), fun b hb => ?_, hi.ow, hi.pin⟩, up, hv.pure h2, fun id hid y b hy hb => ?_⟩
 ·have := hr.ob i; rw [hf] at this; exact this
 ·intro hS
  rcases hs1 b hS with h | h
  ·exact hr.sep i b hb h
  ·have := cd (hr.ob i) hb; omega
 ·rcases hs1 b hb with h | h
  ·exact hi.s1 b h
  ·exact .inr (.inr (Nat.le_trans hi.chg.size h))
 ·exact hc.block b (cd (hr.ob id) (eK hr hL id hid y b hy hb)) (by simp)
theorem aQ {α : Type} [BEq α] [LawfulBEq α] {a b : α} (h : (a != b) = false) : a = b := by simpa using h
section
variable {K : Ctx} {Q : Exit → Act → World → Prop} {p p' : EP} {s s' : List EI} {n : Nat} {F F' F1 F2 : Fm} {H H' H1 : Hp} {all : Array Oper} {rest : List Oper} {o : Oper}
theorem gR (k : Nat) (h : cc sQ k p s F H = some (p', s', F', H')) (kk : Go Tryz.prog K Q p' s' n F' H') : Go Tryz.prog K Q p s n F H := bj ab k p s F H h kk
theorem gC {PL : List Nat} {fid : FuncId} {args : List Operand} {tys : Array TypeId} {vs us : List V} {H0 : Hp} {Post : V → Hp → Prop} {d : Option Tmp} {ty : TypeId} {ps : String} {af : Array Edge} {g : Option (Nat × Bool)} (hS : cP PL Tryz.prog fid us H0 Post) (σ : List Nat) (he : bI Tryz.prog fid = true) (hw : aF F all g = some true) (hv : db F args = some vs) (hs : aB vs (renL σ us)) (hH : leH σ H H0.es) (hc : (bM σ && Nat.beq σ.length H0.nx && σ.all fun i => Nat.blt i H.nx) = true)
  (k : ∀ v H', Post v H' → Go Tryz.prog K Q (.ops all rest) s n (F.seto d (some (v.ren (sgN PL H.nx H0.get H'.nx σ 0)))) (gr PL H σ H0 H')) : Go Tryz.prog K Q (.ops all (⟨d, .call { callee := .value (.func fid), args := args.toArray, argTypes := tys }, ty, ps, af, g⟩ :: rest)) s n F H :=
 go_opC (o := ⟨d, .call { callee := .value (.func fid), args := args.toArray, argTypes := tys }, ty, ps, af, g⟩) he rfl hw hv (lF hS σ hs hH hc [] (by simp [bg])) fun v' H'' ⟨v, H', hP, e1, e2⟩ => by subst e1 e2; exact k v H' hP
theorem gC0 {fid : FuncId} {args : List Operand} {tys : Array TypeId} {vs us : List V} {v : V} {d : Option Tmp} {ty : TypeId} {ps : String} {af : Array Edge} {g : Option (Nat × Bool)} (hS : jD Tryz.prog fid us v) (he : bI Tryz.prog fid = true) (hw : aF F all g = some true) (hv : db F args = some vs) (hs : aB vs us) (h1 : F.puto d (some v) id = F1)
  (k : Go Tryz.prog K Q (.ops all rest) s n F1 H) : Go Tryz.prog K Q (.ops all (⟨d, .call { callee := .value (.func fid), args := args.toArray, argTypes := tys }, ty, ps, af, g⟩ :: rest)) s n F H := by
 rw [Fm.puto_eq] at h1; subst h1
 exact go_opC (o := ⟨d, .call { callee := .value (.func fid), args := args.toArray, argTypes := tys }, ty, ps, af, g⟩) he rfl hw hv (ar hS hs [] rfl) fun v' H'' ⟨e1, e2⟩ => by subst e1 e2; exact k
def slB (T : Tab) (t : TypeId) : Option (TypeId × Nat × Nat) := match T.ty t with
 |some ⟨_, _, _, .sl e⟩ => match T.ty e with
  |some ⟨sz, by_, _, _⟩ => match Nat.blt 0 sz && Nat.ble by_ 100000 with
   | true => some (e, sz, by_)
   | false => none
  | none => none
 | _ => none
theorem wh {P : Program} {T : Tab} (hT : TabOk P T) {t e : TypeId} {sz by_ : Nat} (h : slB T t = some (e, sz, by_)) : P.underlying t = some (.slice e) ∧ 0 < sz ∧ by_ ≤ 100000 ∧ ∃ z : Value, (P.info? e).map (fun i => (i.zero, i.size, i.bytes)) = some (some z, sz, by_) ∧ z.cells.size = sz := by
 unfold slB at h
 split at h
 ·rename_i ht
  split at h
  ·rename_i he
   split at h
   ·rename_i hb
    simp only [Option.some.injEq, Prod.mk.injEq] at h
    obtain ⟨rfl, rfl, rfl⟩ := h
    simp only [Bool.and_eq_true, Nat.blt_eq, Nat.ble_eq] at hb
    obtain ⟨z, h1, _, h3, _⟩ := (hT.ty _ _ he).info
    exact ⟨(hT.ty _ _ ht).sl rfl, hb.1, hb.2, z, h1, h3⟩
   ·cases h
  ·cases h
 ·cases h
theorem dAp {P : Program} {T : Tab} (hT : TabOk P T) {t e : TypeId} {x y : Operand} {sz by_ id : Nat} {els news : List V} {v : V} {ty : TypeId} (ht : slB T t = some (e, sz, by_)) (hx : az F x = some (.sl id)) (ho : H.get id = .row e sz els) (hy : az F y = some v) (hs : nY H.get sz v = some news) (hb : els.length + news.length ≤ 1000000000) :
  ∀ S w ρ a, HRel S w ρ H.get → FRel S w ρ a n F → Does P S w ρ H.get a ty (.call { callee := .builtin .append, args := #[x, y], argTypes := #[t, t] }) (some (.sl H.nx)) ((ED.repl id (.row e sz (els ++ news))).app H.get H.nx) (ED.repl id (.row e sz (els ++ news))).tch := fun S w ρ a hr hF => by
 obtain ⟨h1, h2, h3, z, h4, h5⟩ := wh hT ht
 obtain ⟨u, g1, g2⟩ := pQ hr hF hy hs
 exact nK hr hF.fr H.get_free g1 g2 h1 h4 h5 h2 (al hF hx) ho (by simp only [maxLen]; omega) (Nat.le_trans (Nat.mul_le_mul hb h3) (by decide))
variable {L : List Nat} {m fuel c : Nat} {listed : Array Bool}
theorem gDs {id : Nat} {l : List Oper} (L : List Nat) (m sz : Nat) (hsz : l.length = sz) (hm : Tryz.prog.follows .mixedOrders = true) (hs : Region.noSelect l.toArray = true) (k : Go Tryz.prog K Q (.drw l.toArray L m sz (Array.replicate sz false)) s n F H) : Go Tryz.prog K Q (.code (.region id l.toArray true)) s n F H := pS L m sz hsz hm hs k
theorem gDr (is : List (Nat × Nat)) (hc : ql all m is listed = true) (hl : is.length = c) (hr : gh sQ all L is F H = some (F', H')) (k : Go Tryz.prog K Q (.drw all L m fuel (sC is listed)) s n F' H') : Go Tryz.prog K Q (.drw all L m (fuel + c) listed) s n F H := by
 subst hl; exact eF ab is fuel listed F H hc hr k
theorem gDe (hd : Region.ready .any all listed = []) (k : Go Tryz.prog K Q (.ex .normal) s n F H) : Go Tryz.prog K Q (.drw all L m fuel listed) s n F H := oI hd k
theorem aj {fid : FuncId} {args : List Operand} {tys : Array TypeId} {vs us : List V} {v : V} {d : Option Tmp} {ty : TypeId} {ps : String} {af : Array Edge} {g : Option (Nat × Bool)} (i : Nat) (hS : jD Tryz.prog fid us v) (he : bI Tryz.prog fid = true) (hi : all[i]? = some ⟨d, .call { callee := .value (.func fid), args := args.toArray, argTypes := tys }, ty, ps, af, g⟩) (hrd : Region.ready .any all listed = [i]) (hw : aF F all g = some true) (hv : db F args = some vs) (hs : aB vs us) (hL : bg H.get L = true) (h1 : F.puto d (some v) id = F1)
  (k : Go Tryz.prog K Q (.drw all L m fuel (listed.setIfInBounds i true)) s n F1 H) : Go Tryz.prog K Q (.drw all L m (fuel + 1) listed) s n F H := by
 rw [Fm.puto_eq] at h1; subst h1
 exact go_d1C he hrd hi rfl hw hv (ar hS hs L hL) (.inl rfl) fun v' H'' ⟨e1, e2⟩ => by subst e1 e2; exact k
theorem gDC {PL : List Nat} {fid : FuncId} {args : List Operand} {tys : Array TypeId} {vs us : List V} {H0 : Hp} {Post : V → Hp → Prop} {d : Option Tmp} {ty : TypeId} {ps : String} {af : Array Edge} {g : Option (Nat × Bool)} (i : Nat) (hS : cP PL Tryz.prog fid us H0 Post) (σ : List Nat) (he : bI Tryz.prog fid = true) (hi : all[i]? = some ⟨d, .call { callee := .value (.func fid), args := args.toArray, argTypes := tys }, ty, ps, af, g⟩) (hrd : Region.ready .any all listed = [i]) (hw : aF F all g = some true) (hv : db F args = some vs) (hs : aB vs (renL σ us)) (hH : leH σ H H0.es) (hc : (bM σ && Nat.beq σ.length H0.nx && σ.all fun i => Nat.blt i H.nx) = true) (hL : (bg H.get L && L.all fun i => !σ.contains i) = true)
  (k : ∀ v H', Post v H' → Go Tryz.prog K Q (.drw all L m fuel (listed.setIfInBounds i true)) s n (F.seto d (some (v.ren (sgN PL H.nx H0.get H'.nx σ 0)))) (gr PL H σ H0 H')) : Go Tryz.prog K Q (.drw all L m (fuel + 1) listed) s n F H :=
 go_d1C he hrd hi rfl hw hv (lF hS σ hs hH hc L hL) (.inl rfl) fun v' H'' ⟨v, H', hP, e1, e2⟩ => by subst e1 e2; exact k v H' hP
end
end Go.Proofs.YthnohcipianijaaGreatDoor
namespace Go.Proofs.YthnohcipianijaaGreatDoor
open Go.RowKit Lx Sx
def ai (f : Func) : Code := match f.body with
 | some c => c
 | none => .skip
def cA : Code → Code
 | .seq x _ => x
 | c => c
def cB : Code → Code
 | .seq _ y => y
 | c => c
def cK : Code → Code
 | .block _ c => c
 | c => c
def cL : Code → Code
 | .loop c => c
 | c => c
def cT : Code → Code
 | .cond _ x _ => x
 | c => c
def cE : Code → Code
 | .cond _ _ y => y
 | c => c
theorem apM {α : Type} (f : α → V) (l : List α) (x : α) : List.map f l ++ [f x] = List.map f (l ++ [x]) := by simp
theorem ax (x : Tree) : [nA x] = kidsV [x] := by simp [kidsV, ju]
theorem mapget {α : Type} {f : α → V} {l : List α} {i : Nat} {x : α} (h : l[i]? = some x) : (List.map f l)[i]? = some (f x) := by simp [h]
theorem bp (l : List Tree) : (kidsV l).length = l.length := gk l
theorem kw {α : Type} (f : α → V) (l : List α) : (List.map f l).length = l.length := List.length_map ..
theorem aZ {n : Nat} {m : Nat} (h : n = m) : V.int .i64 (n : Int) = .int .i64 (m : Int) := by rw [h]
theorem wU {α : Type} (f : α → V) (l : List α) (i : Nat) : (List.map f l).take i = List.map f (l.take i) := by simp
theorem xN {α : Type} (f : α → V) (l : List α) (i j : Nat) : ((List.map f l).drop i).take j = List.map f ((l.drop i).take j) := by simp [List.map_drop, List.map_take]
theorem bc {α : Type} (σ : List Nat) (f : α → V) (hf : ∀ x, (f x).ren σ = f x) : ∀ (l : List α), renL σ (List.map f l) = List.map f l
 | [] => rfl
 | x :: r => by simp only [List.map_cons, renL, hf, bc σ f hf r]
theorem am (l : List Tree) : pureL (kidsV l) = true := lO l
theorem lP {α : Type} (f : α → V) (hf : ∀ x, (f x).pure = true) : ∀ (l : List α), pureL (List.map f l) = true
 | [] => rfl
 | x :: r => by simp only [List.map_cons, pureL, hf, lP f hf r]
theorem dg {e : Bool} (h : (!e) = true) : e = false := by simpa using h
theorem de {e : Bool} (h : (!e) = false) : e = true := by simpa using h
theorem bi {α : Type} [BEq α] [LawfulBEq α] {a b : α} (h : (a != b) = true) : a ≠ b := by simpa using h
theorem fi {a b : Nat} (h : decide ((a : Int) < (b : Int)) = true) : a < b := by have := of_decide_eq_true h; omega
theorem fq {a b : Nat} (h : decide ((a : Int) < (b : Int)) = false) : ¬ a < b := by have := of_decide_eq_false h; omega
theorem wE {a b : Nat} (h : ((a : Int) != (b : Int)) = true) : a ≠ b := by have := bi h; omega
theorem vh {a b : Nat} (h : ((a : Int) != (b : Int)) = false) : a = b := by have := aQ h; omega
theorem dc {n m : Int} (h : n = m) : V.int .i64 n = .int .i64 m := by rw [h]
abbrev InI (x : Int) : Prop := -9223372036854775808 ≤ x ∧ x ≤ 9223372036854775807
section
variable {P : Program} {T : Tab} {K : Ctx} {Q : Exit → Act → World → Prop} {p p' : EP} {s s' : List EI} {n : Nat} {F F' F1 F2 : Fm} {H H' H1 : Hp} {all : Array Oper} {rest : List Oper} {o : Oper} {L : List Nat} {m fuel : Nat} {listed : Array Bool}
theorem gS {v : V} (d : Nat) (v' : V) (hd : F.get d = some v) (hs : aq v v') (h1 : F.put d (some v') id = F1) (k : Go P K Q p s n F1 H) : Go P K Q p s n F H := by
 rw [Fm.put_eq] at h1; subst h1
 exact gW hd hs k
theorem sB {h : Nat → Ob} {id : Nat} {o : Ob} (ho : h id = o) : be h id o = h := by
 funext i
 by_cases hi : i = id
 ·subst hi; rw [aK, ho]
 ·rw [aV _ _ hi]
theorem gHR {e : TypeId} {sz : Nat} {els : List V} (id : Nat) (els' : List V) (ho : H.get id = .row e sz els) (he : els = els') (h2 : H.ap (.set id (.row e sz els')) _root_.id = H1) (k : Go P K Q p s n F H1) : Go P K Q p s n F H := by
 subst he
 rw [Hp.ap_eq] at h2; subst h2
 have hg : (H.app (.set id (.row e sz els))).get = H.get := by
  rw [Hp.get_app (by exact ⟨by rw [ho]; simp, by rw [ho]; simp⟩)]
  exact sB ho
 intro S w ρ a hr hi hF
 exact k S w ρ a (by rw [id_eq, hg]; exact hr) (by rw [id_eq, hg]; exact hi) hF
theorem CRel.sub {S : Nat → Prop} {w : World} {ρ : Nat → Option Value} {sz : Nat} : ∀ {vs us : List V} {xs : List Value}, aB vs us → CRel S w ρ sz vs xs → CRel S w ρ sz us xs
 | [], us, xs, h, hl => by simp only [aB] at h; subst h; exact hl
 | v :: r, us, xs, h, hl => by
  simp only [aB] at h
  obtain ⟨u, q, rfl, h1, h2⟩ := h
  simp only [CRel] at hl ⊢
  obtain ⟨x, ys, rfl, h3, h4, h5⟩ := hl
  exact ⟨x, ys, rfl, h3, h1 _ _ _ _ h4, h5.sub h2⟩
theorem aB.len : ∀ {vs us : List V}, aB vs us → us.length = vs.length
 | [], us, h => by simp only [aB] at h; subst h; rfl
 | v :: r, us, h => by
  simp only [aB] at h
  obtain ⟨u, q, rfl, _, h2⟩ := h
  simp [h2.len]
def ny (PL : List Nat) : List (Nat × Ob) → List Nat → Bool
 | [], _ => true
 | (i, o) :: r, pv => (!dn PL i o || pv.contains i) && ny PL r pv
theorem oP {PL : List Nat} : ∀ {es : List (Nat × Ob)} {pv : List Nat}, ny PL es pv = true → ∀ i, dn PL i (an es i) = true → i ∈ pv
 | [], pv, h, i, hi => by simp [an, dn] at hi
 | (j, o) :: r, pv, h, i, hi => by
  simp only [ny, Bool.and_eq_true, Bool.or_eq_true, Bool.not_eq_true'] at h
  simp only [an] at hi
  split at hi
  ·rename_i e
   have := Nat.eq_of_beq_eq_true e
   subst this
   rcases h.1 with h1 | h1
   ·rw [h1] at hi; cases hi
   ·simpa using h1
  ·exact oP h.2 i hi
theorem aI {PL : List Nat} {nx : Nat} {es : List (Nat × Ob)} {pv : List Nat} (h : ny PL es pv = true) : ∀ i, dn PL i ((⟨nx, es⟩ : Hp).get i) = true → i ∈ pv := fun i hi => by
 unfold Hp.get at hi
 split at hi
 ·exact oP h i hi
 ·simp [dn] at hi
def gf (ids : List Nat) : List (Nat × Ob) → List (Nat × Ob)
 | [] => []
 |(j, o) :: r => match ids.contains j with
  | true => gf ids r
  | false => (j, o) :: gf ids r
theorem mj {ids : List Nat} {i : Nat} : ∀ {l : List (Nat × Ob)}, an (gf ids l) i = an l i ∨ an (gf ids l) i = .gone
 | [] => .inl rfl
 | (j, o) :: r => by
  have ih := mj (ids := ids) (i := i) (l := r)
  simp only [gf]
  split
  ·rename_i hc
   by_cases hj : j = i
   ·subst hj
    refine .inr ?_
    have : ∀ l : List (Nat × Ob), an (gf ids l) j = .gone := fun l => by
     induction l with
     | nil => rfl
     | cons p q ihq =>
      obtain ⟨k, o'⟩ := p
      simp only [gf]
      split
      ·exact ihq
      ·rename_i hk
       have hne : k ≠ j := fun e => by subst e; rw [hc] at hk; cases hk
       simp only [an, nbF hne]
       exact ihq
    exact this r
   ·simp only [an, nbF hj]; exact ih
  ·simp only [an]
   split
   ·exact .inl rfl
   ·exact ih
theorem go_endD {fn : Func} {Post : V → Hp → Prop} {rs : List ResultVar} {vs : List V} {e : Exit} (ids : List Nat) (hT : TabOk P T) (hrs : fn.results = rs.toArray) (hv : jt T H.get F rs = some vs) (hP : Post (gb vs) ⟨H.nx, gf ids H.es⟩) (he : e = .ret ∨ e = .normal := by first | exact .inl rfl | exact .inr rfl) : Go P K (bodyPost P fn (SP K Post)) (.ex e) [] n F H := fun S w ρ a hr hi hF => by
 have hh : ∀ i, (⟨H.nx, gf ids H.es⟩ : Hp).get i = H.get i ∨ (⟨H.nx, gf ids H.es⟩ : Hp).get i = .gone := fun i => by
  unfold Hp.get
  cases hb : Nat.blt i H.nx
  ·exact .inl rfl
  ·exact mj
 exact ret_go hT he hrs hr hF hv fun x hx => ⟨x, S, ρ, _, _, rfl, hP, hr.drop hh, hi.drop hh, hx⟩
theorem gJ (k : Go P K Q p s n F' H') (σ pv : List Nat) (hp : p.still = true) (hpin : aC K pv) (hF : leF σ F F') (hH : leH σ H H'.es) (hc : (bM σ && Nat.ble σ.length H'.nx && rk σ pv && Nat.ble F'.length n) = true) : Go P K Q p s n F H := go_sub σ pv hp hpin hF hH hc k
theorem pM {S : Nat → Prop} {w : World} {ρ : Nat → Option Value} {h : Nat → Ob} {nid : Nat} (e : TypeId) (sz : Nat) (hr : HRel S w ρ h) (hf : h nid = .free) : Eff S w w ρ (bP ρ nid (.slice none 0 0)) h (be h nid (.row e sz [])) (fun _ => False) :=
 eff_new hr hf (Chg.refl _ _) ⟨_, [], aD _ _ _, ⟨by simp, .inl ⟨rfl, rfl⟩⟩, by simp [CRel]⟩ (fun b hb => by
  obtain ⟨v, h1, h2⟩ := hb
  rw [aD] at h1
  cases h1; cases h2)
theorem gNS (d : Nat) (e : TypeId) (sz : Nat) (hp : p.still = true) (hd : F.get d = some .nils) (h1 : F.put d (some (.sl H.nx)) id = F1) (h2 : H.ap (.new (.row e sz [])) id = H1) (k : Go P K Q p s n F1 H1) : Go P K Q p s n F H := by
 rw [Fm.put_eq] at h1; rw [Hp.ap_eq] at h2; subst h1 h2
 intro S w ρ a hr hi hF
 have he := pM e sz hr H.get_free
 have hg : (H.app (.new (.row e sz []))).get = be H.get H.nx (.row e sz []) := Hp.get_app trivial
 have := k S w (bP ρ H.nx (.slice none 0 0)) a (by rw [id_eq, hg]; exact he.hr) (by rw [id_eq, hg]; exact hi.eff he) (by
  have hu := hF.up he.up
  refine ⟨hu.size, hu.defers, by simpa using hu.len, fun i u hiu => ?_⟩
  rw [id_eq, Fm.get_eq, List.getElem?_set] at hiu
  split at hiu
  ·rename_i e1; subst e1
   split at hiu
   ·simp only [Option.bind_some, id_eq, Option.some.injEq] at hiu
    subst hiu
    obtain ⟨x, h3, h4⟩ := hF.get d _ hd
    simp only [VRel] at h4; subst h4
    exact ⟨_, h3, by simp only [VRel]; exact ⟨aD _ _ _, rfl⟩⟩
   ·cases hiu
  ·exact hu.get i u (by rw [Fm.get_eq]; exact hiu))
 cases p with
 | drw all L m left listed => cases hp
 | code c => exact this
 | ops all rest => exact this
 | ex e => exact this
theorem gNC {t : TypeId} {cs : List V} (id o : Nat) (e : TypeId) (sz : Nat) (hp : p.still = true) (ho : H.get id = .var t cs) (hc : cs[o]? = some .nils) (h2 : (H.ap (.new (.row e sz [])) fun H1 => H1.ap (.set id (.var t (cs.set o (.sl H.nx)))) _root_.id) = H1) (k : Go P K Q p s n F H1) : Go P K Q p s n F H := by
 rw [Hp.ap_eq, Hp.ap_eq] at h2; subst h2
 intro S w ρ a hr hi hF
 have he := pM e sz hr H.get_free
 have hg : (H.app (.new (.row e sz []))).get = be H.get H.nx (.row e sz []) := Hp.get_app trivial
 have hne : id ≠ H.nx := fun e1 => by subst e1; rw [H.get_free] at ho; cases ho
 have hg1 : (H.app (.new (.row e sz []))).get id = .var t cs := by rw [hg, aV _ _ hne, ho]
 have hg2 : ((H.app (.new (.row e sz []))).app (.set id (.var t (cs.set o (.sl H.nx))))).get = be (H.app (.new (.row e sz []))).get id (.var t (cs.set o (.sl H.nx))) := Hp.get_app (by exact ⟨by rw [hg1]; simp, by rw [hg1]; simp⟩)
 have h1 : HRel S w (bP ρ H.nx (.slice none 0 0)) (H.app (.new (.row e sz []))).get := by rw [hg]; exact he.hr
 have h2 : Inv K S w (bP ρ H.nx (.slice none 0 0)) (H.app (.new (.row e sz []))).get := by rw [hg]; exact hi.eff he
 have how : ∀ i b, own (bP ρ H.nx (.slice none 0 0)) i (be (H.app (.new (.row e sz []))).get id (.var t (cs.set o (.sl H.nx))) i) b ↔ own (bP ρ H.nx (.slice none 0 0)) i ((H.app (.new (.row e sz []))).get i) b := fun i b => by
  by_cases hi : i = id
  ·subst hi; rw [aK, hg1]; rfl
  ·rw [aV _ _ hi]
 have := k S w (bP ρ H.nx (.slice none 0 0)) a (by
  rw [id_eq, hg2]
  refine ⟨fun i => ?_, fun i b hb => h1.sep i b ((how i b).1 hb), fun i j b q1 q2 => h1.dis i j b ((how i b).1 q1) ((how j b).1 q2), h1.slt⟩
  by_cases hii : i = id
  ·subst hii
   rw [aK]
   obtain ⟨b, xs, q1, q2, q3⟩ := il h1 hg1
   obtain ⟨x, q4, q5⟩ := q3.get hc
   simp only [VRel] at q5; subst q5
   refine ⟨b, xs, q1, q2, ?_⟩
   have := q3.set (i := o) (v := .sl H.nx) (x := .slice none 0 0) (by simp only [VRel]; exact ⟨aD _ _ _, rfl⟩)
   have e2 : xs.set o (.slice none 0 0) = xs := by
    obtain ⟨hl, q6⟩ := List.getElem?_eq_some_iff.1 q4
    rw [← q6]; exact List.set_getElem_self ..
   rw [e2] at this; exact this
  ·rw [aV _ _ hii]; exact h1.ob i) (by
  rw [id_eq, hg2]
  exact ⟨h2.chg, h2.s0, h2.s1, fun i b hb => h2.ow i b ((how i b).1 hb), h2.pin⟩) (hF.up he.up)
 cases p with
 | drw all L m left listed => cases hp
 | code c => exact this
 | ops all rest => exact this
 | ex e => exact this
theorem gLB {sz : Nat} {els : List V} {N : Nat} (d : Nat) (hd : F.get d = some (.row sz els)) (hn : els.length = N) (k : N ≤ 9223372036854775807 → Go P K Q p s n F H) : Go P K Q p s n F H := fun S w ρ a hr hi hF => by
 obtain ⟨x, h1, h2⟩ := hF.get d _ hd
 simp only [VRel] at h2
 obtain ⟨A, c, xs, rfl, h3, h4, _⟩ := h2
 exact k (by simp only [maxLen] at h4; omega) S w ρ a hr hi hF
theorem gLO {e : TypeId} {sz : Nat} {els : List V} {N : Nat} (id : Nat) (ho : H.get id = .row e sz els) (hn : els.length = N) (k : N ≤ 9223372036854775807 → Go P K Q p s n F H) : Go P K Q p s n F H := fun S w ρ a hr hi hF => by
 obtain ⟨v, xs, h1, h2, h3⟩ := dE hr ho
 refine k ?_ S w ρ a hr hi hF
 rcases h2.2 with ⟨_, h⟩ | ⟨g, cap, cur, _, _, _, h4, h5, _⟩
 ·omega
 ·simp only [maxLen] at h5; omega
theorem xV (hT : TabOk P T) {t : TypeId} (ht : (match T.ty t with | some ⟨_, _, _, .str⟩ => true | _ => false) = true) : P.underlying t = some .string := by
 split at ht
 ·rename_i h; exact (hT.ty _ _ h).str rfl
 ·cases ht
def jE (F : Fm) (y : Option Operand) (i : Nat) (dflt : Nat) : Prop := (y = none ∧ i = dflt) ∨ ∃ z, y = some z ∧ az F z = some (.int .i64 (i : Int))
theorem tv {i : Nat} : jE F none i i := .inl ⟨rfl, rfl⟩
theorem og {z : Operand} {i d : Nat} (h : az F z = some (.int .i64 (i : Int))) : jE F (some z) i d := .inr ⟨z, rfl, h⟩
theorem lS {S : Nat → Prop} {w : World} {ρ : Nat → Option Value} {a : Act} (hF : FRel S w ρ a n F) {y : Option Operand} {i d : Nat} (h : jE F y i d) : (y = none ∧ i = d) ∨ ∃ z, y = some z ∧ Opd S w ρ a z (.int .i64 (i : Int)) := h.imp _root_.id fun ⟨z, e, h⟩ => ⟨z, e, al hF h⟩
theorem ySS (hT : TabOk P T) {t : TypeId} {x : Operand} {lo hi : Option Operand} {l r : List UInt8} {i j : Nat} {ty : TypeId} (ht : (match T.ty t with | some ⟨_, _, _, .str⟩ => true | _ => false) = true) (hx : az F x = some (.str l)) (hlo : jE F lo i 0) (hhi : jE F hi j l.length) (hij : i ≤ j) (hj : j ≤ l.length) (he : (l.drop i).take (j - i) = r) : ∀ S w ρ a, HRel S w ρ H.get → FRel S w ρ a n F → Yld P S w ρ a ty (.slice t x lo hi none) (.str r) := fun S w ρ a hr hF => by
 subst he
 exact tU hF.fr (xV hT ht) (al hF hx) (lS hF hlo) (lS hF hhi) hij hj
theorem ySR (hT : TabOk P T) {t e : TypeId} {x : Operand} {lo hi : Option Operand} {sz i j : Nat} {els els' : List V} {ty : TypeId} (ht : slT T t = some (e, sz)) (hx : az F x = some (.row sz els)) (hlo : jE F lo i 0) (hhi : jE F hi j els.length) (hij : i ≤ j) (hj : j ≤ els.length) (he : (els.drop i).take (j - i) = els') : ∀ S w ρ a, HRel S w ρ H.get → FRel S w ρ a n F → Yld P S w ρ a ty (.slice t x lo hi none) (.row sz els') := fun S w ρ a hr hF => by
 subst he
 exact tO hF.fr (fe hT ht).1 (fe hT ht).2 (al hF hx) (lS hF hlo) (lS hF hhi) hij hj
theorem xQ {t e : TypeId} {x : Operand} {lo hi : Option Operand} {sz i j N : Nat} {els els' : List V} {ty : TypeId} (hn : els.length = N) (hT : TabOk P T) (ht : slT T t = some (e, sz)) (hx : az F x = some (.row sz els)) (hlo : jE F lo i 0) (hhi : jE F hi j N) (hij : i ≤ j) (hj : j ≤ N) (he : (els.drop i).take (j - i) = els') : ∀ S w ρ a, HRel S w ρ H.get → FRel S w ρ a n F → Yld P S w ρ a ty (.slice t x lo hi none) (.row sz els') := by
 subst hn; exact ySR hT ht hx hlo hhi hij hj he
theorem ot {α : Type} (l : List α) (i : Nat) : (l.drop i).take (l.length - i) = l.drop i := by
 rw [List.take_of_length_le (by simp)]
theorem tq {α : Type} (l : List α) (j : Nat) : (l.drop 0).take (j - 0) = l.take j := by simp
theorem aY {t e : TypeId} {x y : Operand} {sz i : Nat} {els cs : List V} {v : V} {ty : TypeId} (hi : els[i]? = some v) (hT : TabOk P T) (ht : slT T t = some (e, sz)) (hx : az F x = some (.row sz els)) (hy : az F y = some (.int .i64 (i : Int))) (hc : v.cells = cs) : ∀ S w ρ a, HRel S w ρ H.get → FRel S w ρ a n F → Yld P S w ρ a ty (.indexAddr t x y) (.box cs 0) := by
 subst hc; exact yIR hT ht hx hy hi
theorem uD {f : Nat → Option Value} {a : Act} {w : World} {ty t u : TypeId} {x y : Operand} {m l : List UInt8} (h : Fr a n f) (hx : ay f x = some (.string ⟨m.toArray⟩)) (hy : ay f y = some (.string ⟨l.toArray⟩)) (hb : m.length + l.length ≤ 9223372036854775807) : Runs P a ty (.binOp .add t x y u) w (.value (.string ⟨(m ++ l).toArray⟩)) w := fun _ _ _ _ => by
 simp only [execOp, h.eval hx, h.eval hy]; simp [go_sem, eqGuard, show ¬ 9223372036854775807 < m.length + l.length by omega]; rfl
theorem mi {w : World} (d : Nat) {t e : TypeId} (A : Option Addr) (k c : Nat) (ht : P.underlying t = some (.slice e)) : (Op.equalIn (d + 1) t (.slice A k c) (.slice none 0 0)).run P w = .ok A.isNone w := by
 cases A <;> simp [Op.equalIn, run_underlying ht]
theorem no {w : World} {t e : TypeId} (A : Option Addr) (k c : Nat) (ht : P.underlying t = some (.slice e)) : (Op.equal t (.slice A k c) (.slice none 0 0)).run P w = .ok A.isNone w := mi 9999 A k c ht
theorem vF {f : Nat → Option Value} {a : Act} {w : World} {ty t u e : TypeId} {x : Operand} {A : Option Addr} {k c : Nat} (h : Fr a n f) (ht : P.underlying t = some (.slice e)) (hx : ay f x = some (.slice A k c)) : Runs P a ty (.binOp .eql t x (.const (.slice none 0 0)) u) w (.value (.bool A.isNone)) w := fun _ _ _ _ => by
 have hb : (binOp .eql t (.slice A k c) (.slice none 0 0)).run P w = .ok (.bool A.isNone) w := by simp only [binOp]; simp [no A k c ht]
 simp only [execOp, h.eval hx]; simp [go_sem, eqGuard, hb]
def sS (h : Nat → Ob) : V → Bool
 | .row _ _ => true
 | .sl i => match h i with | .row _ _ _ => true | _ => false
 | .nils => true
 | _ => false
def sw (h : Nat → Ob) : V → Nat
 | .row _ els => els.length
 | .sl i => match h i with | .row _ _ els => els.length | _ => 0
 | _ => 0
theorem uF {S : Nat → Prop} {w : World} {ρ : Nat → Option Value} {h : Nat → Ob} {v : V} {x : Value} (hr : HRel S w ρ h) (hs : sS h v = true) (hx : VRel S w ρ v x) : ∃ A k c, x = .slice A k c ∧ (A.isNone = true → sw h v = 0) := by
 unfold sS at hs
 split at hs
 ·simp only [VRel] at hx
  obtain ⟨A, c, xs, rfl, _, _, _, h6⟩ := hx
  refine ⟨_, _, _, rfl, fun hA => ?_⟩
  refine Nat.eq_zero_of_not_pos fun h0 => ?_
  obtain ⟨b, off, rfl, _⟩ := h6.2 h0
  cases hA
 ·split at hs
  ·rename_i ho
   obtain ⟨v, xs, h1, h2, _⟩ := dE hr ho
   simp only [VRel] at hx
   rw [h1] at hx
   obtain ⟨e, _⟩ := hx
   injection e with e; subst e
   rcases h2.2 with ⟨rfl, h3⟩ | ⟨_, _, _, rfl, _⟩
   ·exact ⟨_, _, _, rfl, fun _ => by simp only [sw, ho]; exact h3⟩
   ·exact ⟨_, _, _, rfl, fun hA => by cases hA⟩
  ·cases hs
 ·simp only [VRel] at hx; subst hx; exact ⟨_, _, _, rfl, fun _ => rfl⟩
 ·cases hs
theorem wY {t u ty e : TypeId} {sz N : Nat} {x : Operand} {v : V} {d : Option Tmp} {ps : String} {af : Array Edge} {g : Option (Nat × Bool)} (hT : TabOk P T) (hw : aF F all g = some true) (ht : slT T t = some (e, sz)) (hx : az F x = some v) (hv : sS H.get v = true) (hN : sw H.get v = N) (k : ∀ b : Bool, (b = true → N = 0) → Go P K Q (.ops all rest) s n (F.seto d (some (.bool b))) H) : Go P K Q (.ops all (⟨d, .binOp .eql t x (.const (.slice none 0 0)) u, ty, ps, af, g⟩ :: rest)) s n F H := fun S w ρ a hr hi hF => by
 show wpList P all (bq P Q s) (⟨d, .binOp .eql t x (.const (.slice none 0 0)) u, ty, ps, af, g⟩ :: rest) a w
 unfold wpList
 rw [if_pos (aN hF hw)]
 refine .inl ?_
 obtain ⟨y, h1, h2⟩ := al hF hx
 obtain ⟨A, kk, c, rfl, hl⟩ := uF hr hv h2
 have := vF (P := P) (w := w) (ty := ty) (u := u) hF.fr (fe hT ht).1 h1
 unfold Oper.wp
 rw [this d ps af g]
 exact k A.isNone (fun hb => by subst hN; exact hl (by simpa using hb)) S w ρ _ hr hi (aS hF d (by simp only [VRel]))
theorem ia {t u ty : TypeId} {x y : Operand} {m l : List UInt8} (hx : az F x = some (.str m)) (hy : az F y = some (.str l)) (hb : m.length + l.length ≤ 9223372036854775807) : ∀ S w ρ a, HRel S w ρ H.get → FRel S w ρ a n F → Yld P S w ρ a ty (.binOp .add t x y u) (.str (m ++ l)) := fun S w ρ a hr hF => ⟨_, by simp only [VRel], fun w' _ => uD hF.fr (cQ (al hF hx)) (cQ (al hF hy)) hb⟩
theorem nf {PL : List Nat} {fid : FuncId} {vs us : List V} {v : V} {H0 G : Hp} (hS : cP PL P fid us H0 (fun u G' => u = v ∧ G' = G)) (σ : List Nat) (hv : aB vs (renL σ us)) (hH : leH σ H H0.es) (hc : (bM σ && Nat.beq σ.length H0.nx && σ.all fun i => Nat.blt i H.nx) = true) (L : List Nat) (hL : (bg H.get L && L.all fun i => !σ.contains i) = true) :
  CallR P K fid vs H L (fun v' H'' => v' = v.ren (sgN PL H.nx H0.get G.nx σ 0) ∧ H'' = gr PL H σ H0 G) := fun S w ρ xs hr hi hx =>
 (lF hS σ hv hH hc L hL S w ρ xs hr hi hx).mono fun e w' hh => by
  obtain ⟨x, S', ρ', v', H', h1, ⟨u, G', ⟨q1, q2⟩, e1, e2⟩, h3⟩ := hh
  subst q1 q2
  exact ⟨x, S', ρ', v', H', h1, ⟨e1, e2⟩, h3⟩
theorem nh {o : Oper} {L : List Nat} {ok : Bool} {v : Option V} (ed : ED) (hd : ∀ S w ρ a, HRel S w ρ H.get → FRel S w ρ a n F → Does P S w ρ H.get a o.type o.op v (ed.app H.get H.nx) ed.tch) (hl : ed.ok H.get) (hc : ((bg H.get L && ed.clear L) || ok) = true) : en P K o L ok n F H (v.getD (.tup [])) (H.app ed) := fun S w ρ a hr hi hF Q' K2 k => by
 obtain ⟨nx, w', ρ', h1, h2, h3⟩ := hd S w ρ a hr hF
 have hr' := h2.hr
 have hi' := hi.eff h2
 rw [← Hp.get_app hl] at hr' hi'
 have hLs : Ls ρ L w w' ∨ ok = true := (kH hc).imp (fun h => by
  simp only [Bool.and_eq_true] at h
  exact pd hr h2 h.1 h.2) _root_.id
 have kk := fun x hx => k x S w' ρ' hr' hi' h2.up (hG hr h2) hLs hx
 obtain ⟨d, op, ty, ps, af, g⟩ := o
 unfold Oper.wp
 rw [h1 d ps af g]
 cases v with
 | none =>
  subst h3
  exact kk undef jw
 | some v =>
  obtain ⟨x, rfl, h4⟩ := h3
  exact kk x h4
theorem uw {f : Nat → Option Value} {a : Act} {w : World} {ty : TypeId} {t e : TypeId} {x y : Operand} {b o len sz r : Nat} {i : Int} {k : Nat} (h : Fr a n f) (ht : P.underlying t = some (.array len e)) (hz : (P.info? e).map (·.size) = some sz) (hx : ay f x = some (.pointer (some ⟨b, o, none⟩))) (hy : ay f y = some (.int .i64 i))
  (hk : i = (k : Int)) (hlt : k < len) (hr : o + k * sz = r) : Runs P a ty (.indexAddr t x y) w (.value (.pointer (some ⟨b, r, none⟩))) w := fun _ _ _ _ => by
 obtain ⟨inf, hi, hs⟩ := Option.map_eq_some_iff.1 hz
 have hso : (sizeOf e).run P w = .ok sz w := by simp [sizeOf, typeInfo, hi, hs]
 subst hk hr
 simp only [execOp, h.eval hx, h.eval hy]
 simp [Instr.indexAt, asIntOf, run_underlying ht, Instr.sureAddr, hso, hlt, gc]
theorem LRel.sub {S : Nat → Prop} {w : World} {ρ : Nat → Option Value} {vs : List V} {xs : List Value} (h : LRel S w ρ vs xs) (i j : Nat) : LRel S w ρ ((vs.drop i).take j) ((xs.drop i).take j) := (h.drop i).take j
theorem yMF {fid : FuncId} {caps : List Operand} {vs : List V} {ty : TypeId} (hv : db F caps = some vs) : ∀ S w ρ a, HRel S w ρ H.get → FRel S w ρ a n F → Yld P S w ρ a ty (.makeFunc (.func fid) #[] caps.toArray) (.clo fid vs) := fun S w ρ a hr hF => by
 obtain ⟨xs, h1, h2⟩ := fK hF hv
 refine ⟨.func (.func fid) #[] xs.toArray, by simp only [VRel]; exact ⟨xs, rfl, h2⟩, fun w' _ => fun _ _ _ _ => ?_⟩
 have e : caps.toArray.map a.eval = xs.toArray := by rw [← hF.fr.vals h1]; simp
 simp only [execOp, e]
 simp [Instr.makeFunc]
theorem xv {fid : FuncId} {t : Tmp} {args : List Operand} {tys : Array TypeId} {vs caps us : List V} {v : V} {d : Option Tmp} {ty : TypeId} {ps : String} {af : Array Edge} {g : Option (Nat × Bool)} (hS : jD P fid us v) (he : bI P fid = true) (hw : aF F all g = some true) (hf : az F (.tmp t) = some (.clo fid caps)) (hv : db F args = some vs) (hs : aB (vs ++ caps) us) (h1 : F.puto d (some v) id = F1)
  (k : Go P K Q (.ops all rest) s n F1 H) : Go P K Q (.ops all (⟨d, .call { callee := .value (.tmp t), args := args.toArray, argTypes := tys }, ty, ps, af, g⟩ :: rest)) s n F H := fun S w ρ a hr hi hF => by
 rw [Fm.puto_eq] at h1; subst h1
 show wpList P all (bq P Q s) (⟨d, .call { callee := .value (.tmp t), args := args.toArray, argTypes := tys }, ty, ps, af, g⟩ :: rest) a w
 unfold wpList
 rw [if_pos (aN hF hw)]
 refine .inl ?_
 obtain ⟨xs, h1, h2⟩ := fK hF hv
 obtain ⟨y, h3, h4⟩ := al hF hf
 simp only [VRel] at h4
 obtain ⟨ys, rfl, h5⟩ := h4
 have hc := ar (K := K) (H := H) hS hs [] rfl S w ρ (xs ++ ys) hr hi (h2.append h5)
 have hx : (execOp a.eval ⟨d, .call { callee := .value (.tmp t), args := args.toArray, argTypes := tys }, ty, ps, af, g⟩).run P w = .ok (.enter fid (xs ++ ys).toArray) w := by
  have e : args.toArray.map a.eval = xs.toArray := by rw [← hF.fr.vals h1]; simp
  have e2 : a.eval (.tmp t) = .func (.func fid) #[] ys.toArray := hF.fr.eval h3
  simp only [execOp, resolve, e, e2]
  simp [Deferred.ofValue, invoke, fa he]
 unfold Oper.wp
 rw [hx, Oper.upon_enter]
 refine hc.mono fun e w1 hR => ?_
 obtain ⟨x, S', ρ', v', H', rfl, ⟨rfl, rfl⟩, hr', hi', hu, hvr, _⟩ := hR
 exact k S' w1 ρ' _ hr' hi' (aS (hF.up hu) d hvr)
theorem gYd {v : V} (i : Nat) (hi : all[i]? = some o) (hc : (!Nat.beq i m && Region.free .any all listed i && (Region.ready .any all listed).contains i) = true) (hy : ∀ S w ρ a, HRel S w ρ H.get → FRel S w ρ a n F → Yld P S w ρ a o.type o.op v) (hw : aF F all o.guard = some true) (h1 : F.puto o.dst (some v) id = F1) (k : Go P K Q (.drw all L m fuel (listed.setIfInBounds i true)) s n F1 H) : Go P K Q (.drw all L m (fuel + 1) listed) s n F H := by
 rw [Fm.puto_eq] at h1; subst h1
 simp only [Bool.and_eq_true, Bool.not_eq_true'] at hc
 exact tT hc.1.1 hi hc.1.2 hc.2 hw hy k
theorem jF {v : V} (i : Nat) (hi : all[i]? = some o) (hrd : Region.ready .any all listed = [i]) (hy : ∀ S w ρ a, HRel S w ρ H.get → FRel S w ρ a n F → Yld P S w ρ a o.type o.op v) (hw : aF F all o.guard = some true) (h1 : F.puto o.dst (some v) id = F1) (k : Go P K Q (.drw all L m fuel (listed.setIfInBounds i true)) s n F1 H) : Go P K Q (.drw all L m (fuel + 1) listed) s n F H := by
 rw [Fm.puto_eq] at h1; subst h1
 exact sj hrd hi hw hy k
theorem gDo {v : Option V} (ed : ED) (hd : ∀ S w ρ a, HRel S w ρ H.get → FRel S w ρ a n F → Does P S w ρ H.get a o.type o.op v (ed.app H.get H.nx) ed.tch) (hl : ed.ok H.get) (hw : aF F all o.guard = some true) (h1 : F.puto o.dst (oq v) id = F1) (h2 : H.ap ed id = H1) (k : Go P K Q (.ops all rest) s n F1 H1) : Go P K Q (.ops all (o :: rest)) s n F H := by
 rw [Fm.puto_eq] at h1; rw [Hp.ap_eq] at h2; subst h1 h2
 exact go_opD hw hd hl k
theorem lm {v : Option V} (i : Nat) (ed : ED) (hi : all[i]? = some o) (hrd : Region.ready .any all listed = [i]) (hd : ∀ S w ρ a, HRel S w ρ H.get → FRel S w ρ a n F → Does P S w ρ H.get a o.type o.op v (ed.app H.get H.nx) ed.tch) (hl : ed.ok H.get) (hw : aF F all o.guard = some true) (hc : ((bg H.get L && ed.clear L) || (listed.setIfInBounds i true).getD m false) = true) (h1 : F.puto o.dst (oq v) id = F1) (h2 : H.ap ed id = H1) (k : Go P K Q (.drw all L m fuel (listed.setIfInBounds i true)) s n F1 H1) : Go P K Q (.drw all L m (fuel + 1) listed) s n F H := by
 rw [Fm.puto_eq] at h1; rw [Hp.ap_eq] at h2; subst h1 h2
 exact oB hrd hi hw hd hl hc k
theorem kx {t e : TypeId} {x y : Operand} {sz by_ id : Nat} {els news els' : List V} {v : V} {ty : TypeId} (hT : TabOk P T) (ht : slB T t = some (e, sz, by_)) (hx : az F x = some (.sl id)) (ho : H.get id = .row e sz els) (hy : az F y = some v) (hs : nY H.get sz v = some news) (he : els ++ news = els') (hb : els'.length ≤ 1000000000) :
  ∀ S w ρ a, HRel S w ρ H.get → FRel S w ρ a n F → Does P S w ρ H.get a ty (.call { callee := .builtin .append, args := #[x, y], argTypes := #[t, t] }) (some (.sl H.nx)) ((ED.repl id (.row e sz els')).app H.get H.nx) (ED.repl id (.row e sz els')).tch := by
 subst he
 exact dAp hT ht hx ho hy hs (by simpa using hb)
theorem okR {e : TypeId} {sz : Nat} {els : List V} {id : Nat} {o' : Ob} (ho : H.get id = .row e sz els) : (ED.repl id o').ok H.get := by exact ⟨by rw [ho]; simp, by rw [ho]; simp⟩
theorem okS {e : TypeId} {sz : Nat} {els : List V} {id : Nat} {o' : Ob} (ho : H.get id = .row e sz els) : (ED.set id o').ok H.get := by exact ⟨by rw [ho]; simp, by rw [ho]; simp⟩
theorem dTr (hT : TabOk P T) {t e : TypeId} {x y : Operand} {sz id k : Nat} {els els' : List V} {ty : TypeId} (ht : slT T t = some (e, sz)) (hx : az F x = some (.sl id)) (ho : H.get id = .row e sz els) (hy : az F y = some (.int .i64 (k : Int))) (hk : k ≤ els.length) (he : els.take k = els') :
  ∀ S w ρ a, HRel S w ρ H.get → FRel S w ρ a n F → Does P S w ρ H.get a ty (.slice t x none (some y) none) (some (.sl H.nx)) ((ED.repl id (.row e sz els')).app H.get H.nx) (ED.repl id (.row e sz els')).tch := fun S w ρ a hr hF => by
 subst he
 exact qa hr hF.fr H.get_free (al hF hx) (al hF hy) ho (fe hT ht).1 (fe hT ht).2 hk
theorem dLe (hT : TabOk P T) {t e : TypeId} {x : Operand} {id sz i o : Nat} {els : List V} {v0 v : V} {td : TD} {ty : TypeId} (ht : T.ty t = some td) (hx : az F x = some (.el id sz i o)) (ho : H.get id = .row e sz els) (hi : els[i]? = some v0) (hv : gd td v0.cells o = some v) :
  ∀ S w ρ a, HRel S w ρ H.get → FRel S w ρ a n F → Does P S w ρ H.get a ty (.load t x) (some v) (ED.nop.app H.get H.nx) ED.nop.tch := fun S w ρ a hr hF => by
 rcases fL (hT.ty _ _ ht) hv with ⟨h1, h2⟩ | ⟨h1, h2, rfl⟩
 ·exact pI hr hF.fr (al hF hx) ho h1 hi h2
 ·exact ou hr hF.fr (al hF hx) ho h1 hi h2
theorem dSe (hT : TabOk P T) {t e : TypeId} {x y : Operand} {id sz i o : Nat} {els els' : List V} {v0 v : V} {td : TD} {ty : TypeId} (ht : T.ty t = some td) (hx : az F x = some (.el id sz i o)) (hy : az F y = some v) (ho : H.get id = .row e sz els) (hi : els[i]? = some v0) (hc : (Nat.beq v.cells.length td.size && v.cells.all V.one && Nat.ble (o + td.size) v0.cells.length && (match v0 with | .agg _ => true | v0 => v0.one && v.one)) = true) (he : els.set i (v0.over o v.cells) = els') :
  ∀ S w ρ a, HRel S w ρ H.get → FRel S w ρ a n F → Does P S w ρ H.get a ty (.store t x y) none ((ED.set id (.row e sz els')).app H.get H.nx) (ED.set id (.row e sz els')).tch := fun S w ρ a hr hF => by
 subst he
 simp only [Bool.and_eq_true] at hc
 obtain ⟨⟨⟨h1, h2⟩, h3⟩, h4⟩ := hc
 exact lp hr hF.fr (al hF hx) (al hF hy) ho (hT.ty _ _ ht).size hi (Nat.eq_of_beq_eq_true h1) h2 (Nat.le_of_ble_eq_true h3) (by
  cases v0 with
  | agg cs => exact .inl ⟨cs, rfl⟩
  | _ => simp only [Bool.and_eq_true] at h4; exact .inr ⟨jQ h4.1, jQ h4.2⟩)
end
abbrev qS (f : FuncId) (a : List V) (r : V) : Prop := jD Tryz.prog f a r
abbrev qLG (K : Ctx) (fn : Func) (Q : V → Hp → Prop) (c : Code) (s : List EI) (n : Nat) (F : Fm) (H : Hp) : Prop := Go Tryz.prog K (bodyPost Tryz.prog fn (SP K Q)) (.code c) s n F H
section
variable {P : Program} {K : Ctx} {Q : Exit → Act → World → Prop} {p : EP} {s : List EI} {n : Nat} {F F1 F2 F3 F4 : Fm} {H : Hp}
theorem qBh {e : Bool} {A B C D : Prop} (d : Nat) (hd : F.get d = some (.bool e)) (h1 : F.put d (some (.bool true)) id = F1) (h2 : F.put d (some (.bool false)) id = F2) (h : (A → C) ∧ (B → D)) (a : e = true → A) (b : e = false → B) (kT : C → Go P K Q p s n F1 H) (kF : D → Go P K Q p s n F2 H) : Go P K Q p s n F H := gB d hd h1 h2 (fun z => kT (h.1 (a z))) (fun z => kF (h.2 (b z)))
theorem qBi {e : Bool} {C D : Prop} (d : Nat) (hd : F.get d = some (.bool e)) (h1 : F.put d (some (.bool true)) id = F1) (h2 : F.put d (some (.bool false)) id = F2) (h : (e = true → C) ∧ (e = false → D)) (kT : C → Go P K Q p s n F1 H) (kF : D → Go P K Q p s n F2 H) : Go P K Q p s n F H := qBh d hd h1 h2 h id id kT kF
theorem qBe {α : Type} [BEq α] [LawfulBEq α] {x y : α} {C D : Prop} (d : Nat) (hd : F.get d = some (.bool (x == y))) (h1 : F.put d (some (.bool true)) id = F1) (h2 : F.put d (some (.bool false)) id = F2) (h : (x = y → C) ∧ (x ≠ y → D)) (kT : C → Go P K Q p s n F1 H) (kF : D → Go P K Q p s n F2 H) : Go P K Q p s n F H := qBh d hd h1 h2 h eq_of_beq ne_of_beq_false kT kF
theorem qBd {x : Prop} [Decidable x] {C D : Prop} (d : Nat) (hd : F.get d = some (.bool (decide x))) (h1 : F.put d (some (.bool true)) id = F1) (h2 : F.put d (some (.bool false)) id = F2) (h : (x → C) ∧ (¬ x → D)) (kT : C → Go P K Q p s n F1 H) (kF : D → Go P K Q p s n F2 H) : Go P K Q p s n F H := qBh d hd h1 h2 h of_decide_eq_true of_decide_eq_false kT kF
theorem qBhZ {e : Bool} {A B C D : Prop} (d i : Nat) (hd : F.get d = some (.bool e)) (hi : Fm.get (F.set d none) i = some (.bool e)) (h1 : F.put d (some (.bool true)) (fun F => F.put i (some (.bool true)) id) = F3) (h2 : F.put d (some (.bool false)) (fun F => F.put i (some (.bool false)) id) = F4) (h : (A → C) ∧ (B → D)) (a : e = true → A) (b : e = false → B) (kT : C → Go P K Q p s n F3 H) (kF : D → Go P K Q p s n F4 H) : Go P K Q p s n F H := by
 rw [Fm.put_eq, Fm.put_eq] at h1 h2
 have w (v : V) : Fm.get (F.set d (some v)) i = some (.bool e) := by
  rw [Fm.get_eq, List.getElem?_set] at hi ⊢
  split at hi
  · split at hi <;> simp at hi
  · rename_i e; rw [if_neg e]; exact hi
 exact gB d hd (Fm.put_eq ..) (Fm.put_eq ..) (fun z => gT i (w _) z ((Fm.put_eq ..).trans h1) (kT (h.1 (a z)))) (fun z => gF i (w _) z ((Fm.put_eq ..).trans h2) (kF (h.2 (b z))))
theorem qBiZ {e : Bool} {C D : Prop} (d i : Nat) (hd : F.get d = some (.bool e)) (hi : Fm.get (F.set d none) i = some (.bool e)) (h1 : F.put d (some (.bool true)) (fun F => F.put i (some (.bool true)) id) = F3) (h2 : F.put d (some (.bool false)) (fun F => F.put i (some (.bool false)) id) = F4) (h : (e = true → C) ∧ (e = false → D)) (kT : C → Go P K Q p s n F3 H) (kF : D → Go P K Q p s n F4 H) : Go P K Q p s n F H := qBhZ d i hd hi h1 h2 h id id kT kF
theorem qBeZ {α : Type} [BEq α] [LawfulBEq α] {x y : α} {C D : Prop} (d i : Nat) (hd : F.get d = some (.bool (x == y))) (hi : Fm.get (F.set d none) i = some (.bool (x == y))) (h1 : F.put d (some (.bool true)) (fun F => F.put i (some (.bool true)) id) = F3) (h2 : F.put d (some (.bool false)) (fun F => F.put i (some (.bool false)) id) = F4) (h : (x = y → C) ∧ (x ≠ y → D)) (kT : C → Go P K Q p s n F3 H) (kF : D → Go P K Q p s n F4 H) : Go P K Q p s n F H := qBhZ d i hd hi h1 h2 h eq_of_beq ne_of_beq_false kT kF
theorem qBdZ {x : Prop} [Decidable x] {C D : Prop} (d i : Nat) (hd : F.get d = some (.bool (decide x))) (hi : Fm.get (F.set d none) i = some (.bool (decide x))) (h1 : F.put d (some (.bool true)) (fun F => F.put i (some (.bool true)) id) = F3) (h2 : F.put d (some (.bool false)) (fun F => F.put i (some (.bool false)) id) = F4) (h : (x → C) ∧ (¬ x → D)) (kT : C → Go P K Q p s n F3 H) (kF : D → Go P K Q p s n F4 H) : Go P K Q p s n F H := qBhZ d i hd hi h1 h2 h of_decide_eq_true of_decide_eq_false kT kF
end
theorem pqq {v : V} : ∃ u, some v = some u ∧ aq u v := ⟨v, rfl, aq.rfl⟩
theorem pq1 {a0 : V} : (∃ u, some a0 = some u ∧ aq u a0) ∧ True := ⟨pqq, trivial⟩
theorem pq2 {a0 a1 : V} : (∃ u, some a0 = some u ∧ aq u a0) ∧ (∃ u, some a1 = some u ∧ aq u a1) ∧ True := ⟨pqq, pqq, trivial⟩
theorem pq3 {a0 a1 a2 : V} : (∃ u, some a0 = some u ∧ aq u a0) ∧ (∃ u, some a1 = some u ∧ aq u a1) ∧ (∃ u, some a2 = some u ∧ aq u a2) ∧ True := ⟨pqq, pqq, pqq, trivial⟩
theorem pq4 {a0 a1 a2 a3 : V} : (∃ u, some a0 = some u ∧ aq u a0) ∧ (∃ u, some a1 = some u ∧ aq u a1) ∧ (∃ u, some a2 = some u ∧ aq u a2) ∧ (∃ u, some a3 = some u ∧ aq u a3) ∧ True := ⟨pqq, pqq, pqq, pqq, trivial⟩
theorem pq5 {a0 a1 a2 a3 a4 : V} : (∃ u, some a0 = some u ∧ aq u a0) ∧ (∃ u, some a1 = some u ∧ aq u a1) ∧ (∃ u, some a2 = some u ∧ aq u a2) ∧ (∃ u, some a3 = some u ∧ aq u a3) ∧ (∃ u, some a4 = some u ∧ aq u a4) ∧ True := ⟨pqq, pqq, pqq, pqq, pqq, trivial⟩
theorem pq6 {a0 a1 a2 a3 a4 a5 : V} : (∃ u, some a0 = some u ∧ aq u a0) ∧ (∃ u, some a1 = some u ∧ aq u a1) ∧ (∃ u, some a2 = some u ∧ aq u a2) ∧ (∃ u, some a3 = some u ∧ aq u a3) ∧ (∃ u, some a4 = some u ∧ aq u a4) ∧ (∃ u, some a5 = some u ∧ aq u a5) ∧ True := ⟨pqq, pqq, pqq, pqq, pqq, pqq, trivial⟩
theorem pq7 {a0 a1 a2 a3 a4 a5 a6 : V} : (∃ u, some a0 = some u ∧ aq u a0) ∧ (∃ u, some a1 = some u ∧ aq u a1) ∧ (∃ u, some a2 = some u ∧ aq u a2) ∧ (∃ u, some a3 = some u ∧ aq u a3) ∧ (∃ u, some a4 = some u ∧ aq u a4) ∧ (∃ u, some a5 = some u ∧ aq u a5) ∧ (∃ u, some a6 = some u ∧ aq u a6) ∧ True := ⟨pqq, pqq, pqq, pqq, pqq, pqq, pqq, trivial⟩
theorem pq8 {a0 a1 a2 a3 a4 a5 a6 a7 : V} : (∃ u, some a0 = some u ∧ aq u a0) ∧ (∃ u, some a1 = some u ∧ aq u a1) ∧ (∃ u, some a2 = some u ∧ aq u a2) ∧ (∃ u, some a3 = some u ∧ aq u a3) ∧ (∃ u, some a4 = some u ∧ aq u a4) ∧ (∃ u, some a5 = some u ∧ aq u a5) ∧ (∃ u, some a6 = some u ∧ aq u a6) ∧ (∃ u, some a7 = some u ∧ aq u a7) ∧ True := ⟨pqq, pqq, pqq, pqq, pqq, pqq, pqq, pqq, trivial⟩
theorem pq9 {a0 a1 a2 a3 a4 a5 a6 a7 a8 : V} : (∃ u, some a0 = some u ∧ aq u a0) ∧ (∃ u, some a1 = some u ∧ aq u a1) ∧ (∃ u, some a2 = some u ∧ aq u a2) ∧ (∃ u, some a3 = some u ∧ aq u a3) ∧ (∃ u, some a4 = some u ∧ aq u a4) ∧ (∃ u, some a5 = some u ∧ aq u a5) ∧ (∃ u, some a6 = some u ∧ aq u a6) ∧ (∃ u, some a7 = some u ∧ aq u a7) ∧ (∃ u, some a8 = some u ∧ aq u a8) ∧ True := ⟨pqq, pqq, pqq, pqq, pqq, pqq, pqq, pqq, pqq, trivial⟩
theorem pq10 {a0 a1 a2 a3 a4 a5 a6 a7 a8 a9 : V} : (∃ u, some a0 = some u ∧ aq u a0) ∧ (∃ u, some a1 = some u ∧ aq u a1) ∧ (∃ u, some a2 = some u ∧ aq u a2) ∧ (∃ u, some a3 = some u ∧ aq u a3) ∧ (∃ u, some a4 = some u ∧ aq u a4) ∧ (∃ u, some a5 = some u ∧ aq u a5) ∧ (∃ u, some a6 = some u ∧ aq u a6) ∧ (∃ u, some a7 = some u ∧ aq u a7) ∧ (∃ u, some a8 = some u ∧ aq u a8) ∧ (∃ u, some a9 = some u ∧ aq u a9) ∧ True := ⟨pqq, pqq, pqq, pqq, pqq, pqq, pqq, pqq, pqq, pqq, trivial⟩
theorem pq11 {a0 a1 a2 a3 a4 a5 a6 a7 a8 a9 a10 : V} : (∃ u, some a0 = some u ∧ aq u a0) ∧ (∃ u, some a1 = some u ∧ aq u a1) ∧ (∃ u, some a2 = some u ∧ aq u a2) ∧ (∃ u, some a3 = some u ∧ aq u a3) ∧ (∃ u, some a4 = some u ∧ aq u a4) ∧ (∃ u, some a5 = some u ∧ aq u a5) ∧ (∃ u, some a6 = some u ∧ aq u a6) ∧ (∃ u, some a7 = some u ∧ aq u a7) ∧ (∃ u, some a8 = some u ∧ aq u a8) ∧ (∃ u, some a9 = some u ∧ aq u a9) ∧ (∃ u, some a10 = some u ∧ aq u a10) ∧ True := ⟨pqq, pqq, pqq, pqq, pqq, pqq, pqq, pqq, pqq, pqq, pqq, trivial⟩
theorem pq12 {a0 a1 a2 a3 a4 a5 a6 a7 a8 a9 a10 a11 : V} : (∃ u, some a0 = some u ∧ aq u a0) ∧ (∃ u, some a1 = some u ∧ aq u a1) ∧ (∃ u, some a2 = some u ∧ aq u a2) ∧ (∃ u, some a3 = some u ∧ aq u a3) ∧ (∃ u, some a4 = some u ∧ aq u a4) ∧ (∃ u, some a5 = some u ∧ aq u a5) ∧ (∃ u, some a6 = some u ∧ aq u a6) ∧ (∃ u, some a7 = some u ∧ aq u a7) ∧ (∃ u, some a8 = some u ∧ aq u a8) ∧ (∃ u, some a9 = some u ∧ aq u a9) ∧ (∃ u, some a10 = some u ∧ aq u a10) ∧ (∃ u, some a11 = some u ∧ aq u a11) ∧ True := ⟨pqq, pqq, pqq, pqq, pqq, pqq, pqq, pqq, pqq, pqq, pqq, pqq, trivial⟩
theorem pqo {H : Hp} {x : Option Nat} {i : Nat} {t : TypeId} {cs : List V} (h1 : x = some i) (h2 : H.get i = .var t cs) : ∃ i, x = some i ∧ cw (H.get i) (.var t cs) := ⟨i, h1, by rw [h2]; exact ⟨rfl, aB.rfl⟩⟩
theorem pqo1 {H : Hp} {x0 : Option Nat} {i0 : Nat} {t0 : TypeId} {c0 : List V} (h0 : x0 = some i0) (k0 : H.get i0 = .var t0 c0) : (∃ i, x0 = some i ∧ cw (H.get i) (.var t0 c0)) ∧ True := ⟨pqo h0 k0, trivial⟩
theorem pqo2 {H : Hp} {x0 : Option Nat} {i0 : Nat} {t0 : TypeId} {c0 : List V} (h0 : x0 = some i0) (k0 : H.get i0 = .var t0 c0) {x1 : Option Nat} {i1 : Nat} {t1 : TypeId} {c1 : List V} (h1 : x1 = some i1) (k1 : H.get i1 = .var t1 c1) : (∃ i, x0 = some i ∧ cw (H.get i) (.var t0 c0)) ∧ (∃ i, x1 = some i ∧ cw (H.get i) (.var t1 c1)) ∧ True := ⟨pqo h0 k0, pqo h1 k1, trivial⟩
theorem pqo3 {H : Hp} {x0 : Option Nat} {i0 : Nat} {t0 : TypeId} {c0 : List V} (h0 : x0 = some i0) (k0 : H.get i0 = .var t0 c0) {x1 : Option Nat} {i1 : Nat} {t1 : TypeId} {c1 : List V} (h1 : x1 = some i1) (k1 : H.get i1 = .var t1 c1) {x2 : Option Nat} {i2 : Nat} {t2 : TypeId} {c2 : List V} (h2 : x2 = some i2) (k2 : H.get i2 = .var t2 c2) : (∃ i, x0 = some i ∧ cw (H.get i) (.var t0 c0)) ∧ (∃ i, x1 = some i ∧ cw (H.get i) (.var t1 c1)) ∧ (∃ i, x2 = some i ∧ cw (H.get i) (.var t2 c2)) ∧ True := ⟨pqo h0 k0, pqo h1 k1, pqo h2 k2, trivial⟩
theorem pqo4 {H : Hp} {x0 : Option Nat} {i0 : Nat} {t0 : TypeId} {c0 : List V} (h0 : x0 = some i0) (k0 : H.get i0 = .var t0 c0) {x1 : Option Nat} {i1 : Nat} {t1 : TypeId} {c1 : List V} (h1 : x1 = some i1) (k1 : H.get i1 = .var t1 c1) {x2 : Option Nat} {i2 : Nat} {t2 : TypeId} {c2 : List V} (h2 : x2 = some i2) (k2 : H.get i2 = .var t2 c2) {x3 : Option Nat} {i3 : Nat} {t3 : TypeId} {c3 : List V} (h3 : x3 = some i3) (k3 : H.get i3 = .var t3 c3) : (∃ i, x0 = some i ∧ cw (H.get i) (.var t0 c0)) ∧ (∃ i, x1 = some i ∧ cw (H.get i) (.var t1 c1)) ∧ (∃ i, x2 = some i ∧ cw (H.get i) (.var t2 c2)) ∧ (∃ i, x3 = some i ∧ cw (H.get i) (.var t3 c3)) ∧ True := ⟨pqo h0 k0, pqo h1 k1, pqo h2 k2, pqo h3 k3, trivial⟩
abbrev xA (c : Code) : Code := cB (cB c)
abbrev xB (c : Code) : Code := cE (cB c)
abbrev xC (c : Code) : Code := cB (cA c)
abbrev xD (c : Code) : Code := xA (xA c)
abbrev xE (c : Code) : Code := cK (xC c)
abbrev xF (c : Code) : Code := xB (xB c)
abbrev xG (c : Code) : Code := cL (xE c)
abbrev xH (c : Code) : Code := xA (cB c)
abbrev xI (c : Code) : Code := xD (cB c)
abbrev xJ (c : Code) : Code := xG (xI c)
abbrev xK (c : Code) : Code := xF (xF c)
end Go.Proofs.YthnohcipianijaaGreatDoor
namespace Go.Proofs.YthnohcipianijaaGreatDoor
open Go.RowKit Lx Sx
section
variable {P : Program} {T : Tab} {K : Ctx} {Q : Exit → Act → World → Prop} {p : EP} {s : List EI} {n : Nat} {F F1 : Fm} {H H1 : Hp} {α β : Type} [DecidableEq α] {enc : α → V} {kt : TypeId}
theorem lkN : aq .nilp (.lk []) := fun S w ρ x h => by simp only [VRel, KRel] at h ⊢; exact h
theorem va : aq (.lk []) .nilp := fun S w ρ x h => by simp only [VRel, KRel] at h ⊢; exact h
theorem lkC {cs : List V} {r : List (List V)} {l : List V} (hl : l = cs ++ [.lk r]) : aq (.box l 0) (.lk (cs :: r)) := fun S w ρ x h => by
 subst hl
 simp only [VRel, KRel] at h ⊢
 obtain ⟨b, off, xs, rfl, h2, h3, h4, h5⟩ := h
 have hlen := h4.length
 rw [List.length_append, List.length_singleton] at hlen
 obtain ⟨ys, y, rfl⟩ : ∃ ys y, xs = ys ++ [y] := by
  rcases List.eq_nil_or_concat xs with e | ⟨ys, y, e⟩
  ·rw [e] at hlen; simp at hlen
  ·exact ⟨ys, y, by rw [e]; simp⟩
 have hy : ys.length = cs.length := by simpa using hlen
 have g1 := LRel.take (w := w) (S := S) (ρ := ρ0) cs.length h4
 have g2 := LRel.drop (w := w) (S := S) (ρ := ρ0) cs.length h4
 rw [List.take_append_of_le_length (Nat.le_refl _), List.take_length, List.take_append_of_le_length (by omega), ← hy, List.take_length] at g1
 rw [List.drop_append_of_le_length (Nat.le_refl _), List.drop_length, List.nil_append, List.drop_append_of_le_length (by omega), ← hy, List.drop_length, List.nil_append] at g2
 simp only [LRel] at g2
 obtain ⟨z, zs, e, hz, hzs⟩ := g2
 simp only [List.cons.injEq] at e
 obtain ⟨rfl, _⟩ := e
 refine ⟨b, off, ys, y, by simp, h2, h3, g1, by simpa only [VRel] using hz, hz.one rfl, fun j hj => h5 j (by simpa using hj)⟩
theorem wi {cs : List V} {r : List (List V)} {l : List V} (hl : l = cs ++ [.lk r]) : aq (.lk (cs :: r)) (.box l 0) := fun S w ρ x h => by
 subst hl
 simp only [VRel, KRel] at h ⊢
 obtain ⟨b, off, xs, y, rfl, h2, h3, h4, h5, _, h7⟩ := h
 exact ⟨b, off, xs ++ [y], by simp, h2, h3, h4.append ⟨y, [], rfl, by simp only [VRel]; exact h5, rfl⟩, fun j hj => h7 j (by simpa using hj)⟩
theorem od {w : World} {t e : TypeId} {neg : Bool} {x : Operand} {a : Act} {u ty : TypeId} {q : Option Addr} {f : Nat → Option Value} (hf : Fr a n f) (ht : P.underlying t = some (.pointer e)) (hx : ay f x = some (.pointer q)) : Runs P a ty (.binOp (if neg then .neq else .eql) t x (.const (.pointer none)) u) w (.value (.bool (if neg then q.isSome else q.isNone))) w := fun _ _ _ _ => by
 have hp : P.pointee t = e := by simp [Program.pointee, ht]
 have hu : P.underlying t = some (.pointer (P.pointee t)) := by rw [hp]; exact ht
 have he : (Op.equal t (.pointer q) (.pointer none)).run P w = .ok q.isNone w := run_equal_pointer_nil w t q hu
 have hc : a.eval (.const (.pointer none)) = .pointer none := rfl
 simp only [execOp, hf.eval hx, hc]
 cases neg
 ·have : (binOp .eql t (.pointer q) (.pointer none)).run P w = .ok (.bool q.isNone) w := by simp only [binOp]; simp [he]
  simp [eqGuard, this]
 ·have : (binOp .neq t (.pointer q) (.pointer none)).run P w = .ok (.bool !q.isNone) w := by simp only [binOp]; simp [he]
  cases q <;> simp_all [eqGuard]
section
variable {t e u ty : TypeId} {x : Operand}
theorem xS (ht : P.underlying t = some (.pointer e)) (hx : az F x = some .nilp) : ∀ S w ρ a, HRel S w ρ H.get → FRel S w ρ a n F → Yld P S w ρ a ty (.binOp .neq t x (.const (.pointer none)) u) (.bool false) := fun S w ρ a hr hF => by
 obtain ⟨y, h1, h2⟩ := al hF hx
 simp only [VRel] at h2; subst h2
 exact ⟨.bool false, by simp only [VRel], fun w' _ => by have := od (P := P) (w := w') (neg := true) (u := u) (ty := ty) hF.fr ht h1; simpa using this⟩
theorem xO {cs : List V} {o : Nat} (ht : P.underlying t = some (.pointer e)) (hx : az F x = some (.box cs o)) : ∀ S w ρ a, HRel S w ρ H.get → FRel S w ρ a n F → Yld P S w ρ a ty (.binOp .neq t x (.const (.pointer none)) u) (.bool true) := fun S w ρ a hr hF => by
 obtain ⟨y, h1, h2⟩ := al hF hx
 simp only [VRel] at h2
 obtain ⟨b, off, xs, rfl, _⟩ := h2
 exact ⟨.bool true, by simp only [VRel], fun w' _ => by have := od (P := P) (w := w') (neg := true) (u := u) (ty := ty) hF.fr ht h1; simpa using this⟩
end
end
end Go.Proofs.YthnohcipianijaaGreatDoor
namespace Go.Proofs.YthnohcipianijaaGreatDoor
open Go.RowKit Lx Sx
section
variable {P : Program} {T : Tab} {n : Nat} {F : Fm} {H : Hp}
theorem yIP (hT : TabOk P T) {t e : TypeId} {x y : Operand} {len sz k o id r : Nat} {td tz : TD} {ty : TypeId} (ht : T.ty t = some tz) (hk : (match tz.kind with | .arr l e' => Nat.beq l len && Nat.beq e e' | _ => false) = true) (hte : T.ty e = some td) (hsz : td.size = sz) (hx : az F x = some (.ptr id o)) (hy : az F y = some (.int .i64 (k : Int))) (hlt : Nat.blt k len = true) (hl : o + k * sz = r) :
  ∀ S w ρ a, HRel S w ρ H.get → FRel S w ρ a n F → Yld P S w ρ a ty (.indexAddr t x y) (.ptr id r) := fun S w ρ a hr hF => by
 subst hl hsz
 obtain ⟨y0, h1, h2⟩ := al hF hx
 simp only [VRel] at h2
 obtain ⟨b, h3, rfl⟩ := h2
 have harr : P.underlying t = some (.array len e) := by
  split at hk
  ·rename_i l e' he'
   simp only [Bool.and_eq_true] at hk
   have h3 := Nat.eq_of_beq_eq_true hk.1
   have h4 := Nat.eq_of_beq_eq_true hk.2
   subst h3 h4
   exact (hT.ty _ _ ht).arr he'
  ·cases hk
 exact ⟨_, by simp only [VRel]; exact ⟨b, h3, rfl⟩, fun w' _ => uw hF.fr harr (hT.ty _ _ hte).size h1 (aG (al hF hy)) rfl (Nat.le_of_ble_eq_true hlt) rfl⟩
end
end Go.Proofs.YthnohcipianijaaGreatDoor
namespace Go.Proofs.YthnohcipianijaaGreatDoor
open Go.RowKit Lx Sx
section
variable {P : Program} {n : Nat} {F : Fm} {H : Hp}
theorem ua {f : Nat → Option Value} {a : Act} {w : World} {ty t u : TypeId} {x y : Operand} {m l : Int} (h : Fr a n f) (hx : ay f x = some (.int .i64 m)) (hy : ay f y = some (.int .i64 l)) : Runs P a ty (.binOp .mul t x y u) w (.value (.int .i64 (IntKind.i64.wrap (m * l)))) w := fun _ _ _ _ => by
 simp only [execOp, h.eval hx, h.eval hy]; simp [go_sem, eqGuard]
theorem tW {t u ty : TypeId} {x y : Operand} {m l : Int} (hx : az F x = some (.int .i64 m)) (hy : az F y = some (.int .i64 l)) : ∀ S w ρ a, HRel S w ρ H.get → FRel S w ρ a n F → Yld P S w ρ a ty (.binOp .mul t x y u) (.int .i64 (IntKind.i64.wrap (m * l))) := fun S w ρ a hr hF => ⟨_, by simp only [VRel], fun w' _ => ua hF.fr (aG (al hF hx)) (aG (al hF hy))⟩
end
section
variable {P : Program} {T : Tab} {K : Ctx} {Q : Exit → Act → World → Prop} {s : List EI} {n : Nat} {F : Fm} {H : Hp}
theorem bE {all : Array Oper} {L : List Nat} {m left i j l : Nat} {listed : Array Bool} {oi oj ol : Oper} {ui uj ul : V} {Hi Hj Hl : Hp} (hrd : (match Region.ready .any all listed with | [x, y, z] => Nat.beq x i && Nat.beq y j && Nat.beq z l | _ => false) = true) (hi : all[i]? = some oi) (hj : all[j]? = some oj) (hl : all[l]? = some ol) (hwi : aF F all oi.guard = some true) (hwj : aF F all oj.guard = some true) (hwl : aF F all ol.guard = some true)
  (xi : en P K oi L ((listed.setIfInBounds i true).getD m false) n F H ui Hi) (xj : en P K oj L ((listed.setIfInBounds j true).getD m false) n F H uj Hj) (xl : en P K ol L ((listed.setIfInBounds l true).getD m false) n F H ul Hl)
  (ki : Go P K Q (.drw all L m left (listed.setIfInBounds i true)) s n (F.seto oi.dst (some ui)) Hi) (kj : Go P K Q (.drw all L m left (listed.setIfInBounds j true)) s n (F.seto oj.dst (some uj)) Hj) (kl : Go P K Q (.drw all L m left (listed.setIfInBounds l true)) s n (F.seto ol.dst (some ul)) Hl) : Go P K Q (.drw all L m (left + 1) listed) s n F H := fun S w ρ a hr hiv hF hs => by
 split at hrd
 ·rename_i x y z hre
  simp only [Bool.and_eq_true, Nat.beq_eq] at hrd
  obtain ⟨⟨rfl, rfl⟩, rfl⟩ := hrd
  refine ⟨fun h0 => (by rw [hre] at h0; cases h0), fun c hc => ?_⟩
  rw [hre] at hc
  simp only [List.mem_cons, List.not_mem_nil, or_false] at hc
  rcases hc with rfl | rfl | rfl
  ·unfold wpOp
   simp only [hi]
   rw [if_pos (aN hF hwi)]
   exact .inl (xi S w ρ a hr hiv hF _ _ fun x S' w' ρ' hr' hi' hu hA hL hv => dj hu hA hL (ki S' w' ρ' _ hr' hi' (aS (hF.up hu) oi.dst hv) hs))
  ·unfold wpOp
   simp only [hj]
   rw [if_pos (aN hF hwj)]
   exact .inl (xj S w ρ a hr hiv hF _ _ fun x S' w' ρ' hr' hi' hu hA hL hv => dj hu hA hL (kj S' w' ρ' _ hr' hi' (aS (hF.up hu) oj.dst hv) hs))
  ·unfold wpOp
   simp only [hl]
   rw [if_pos (aN hF hwl)]
   exact .inl (xl S w ρ a hr hiv hF _ _ fun x S' w' ρ' hr' hi' hu hA hL hv => dj hu hA hL (kl S' w' ρ' _ hr' hi' (aS (hF.up hu) ol.dst hv) hs))
 ·cases hrd
end
section
variable {P : Program} {K : Ctx} {Q : Exit → Act → World → Prop} {p : EP} {s : List EI} {n : Nat} {F : Fm} {H H1 : Hp}
theorem gHX {e : TypeId} {sz : Nat} {els : List V} (id : Nat) (els' : List V) (ho : H.get id = .row e sz els) (he : aB els els') (h2 : H.ap (.set id (.row e sz els')) _root_.id = H1) (k : Go P K Q p s n F H1) : Go P K Q p s n F H := by
 rw [Hp.ap_eq] at h2; subst h2
 have hg : (H.app (.set id (.row e sz els'))).get = be H.get id (.row e sz els') := Hp.get_app (by exact ⟨by rw [ho]; simp, by rw [ho]; simp⟩)
 intro S w ρ a hr hi hF
 have how : ∀ i b, own ρ i (be H.get id (.row e sz els') i) b ↔ own ρ i (H.get i) b := fun i b => by
  by_cases hi : i = id
  ·subst hi; rw [aK, ho]; rfl
  ·rw [aV _ _ hi]
 refine k S w ρ a ?_ ?_ hF
 ·rw [id_eq, hg]
  refine ⟨fun i => ?_, fun i b hb => hr.sep i b ((how i b).1 hb), fun i j b h1 h2 => hr.dis i j b ((how i b).1 h1) ((how j b).1 h2), hr.slt⟩
  by_cases hii : i = id
  ·subst hii
   rw [aK]
   obtain ⟨v, xs, h1, h2, h3⟩ := dE hr ho
   exact ⟨v, xs, h1, by rw [he.len]; exact h2, h3.sub he⟩
  ·rw [aV _ _ hii]; exact hr.ob i
 ·rw [id_eq, hg]
  exact ⟨hi.chg, hi.s0, hi.s1, fun i b hb => hi.ow i b ((how i b).1 hb), hi.pin⟩
end
end Go.Proofs.YthnohcipianijaaGreatDoor
namespace Go.Proofs.YthnohcipianijaaGreatDoor
open Go.RowKit Lx Sx
set_option maxRecDepth 100000
set_option maxHeartbeats 4000000
structure GDatum where
 Kind : Int
 N : Int
 S : (List UInt8)
 L : (List GDatum)
mutual
def GDatum.v : GDatum → V
 | .mk a0 a1 a2 a3 => .agg [.int .i64 a0, .int .i64 a1, .str a2, .row 4 (GDatum.vs a3)]
def GDatum.vs : List GDatum → List V
 | [] => []
 | t :: r => GDatum.v t :: GDatum.vs r
end
abbrev GDatum.c (x : GDatum) : List V := [.int .i64 x.Kind, .int .i64 x.N, .str x.S, .row 4 (GDatum.vs x.L)]
abbrev GDatum.w (x : GDatum) : V := .agg x.c
theorem GDatum.v_eq (x : GDatum) : x.v = x.w := by cases x; simp [GDatum.v]
theorem GDatum.vs_map : ∀ l : List GDatum, GDatum.vs l = l.map GDatum.w
 | [] => by simp [GDatum.vs]
 | t :: r => by simp [GDatum.vs, GDatum.v_eq, GDatum.vs_map r]
theorem GDatum.vlen (l : List GDatum) : (GDatum.vs l).length = l.length := by rw [GDatum.vs_map, List.length_map]
theorem GDatum.vget {l : List GDatum} {i : Nat} {u : GDatum} (h : l[i]? = some u) : (GDatum.vs l)[i]? = some u.w := by rw [GDatum.vs_map, List.getElem?_map, h]; rfl
theorem GDatum.vapp (a b : List GDatum) : GDatum.vs (a ++ b) = GDatum.vs a ++ GDatum.vs b := by simp [GDatum.vs_map]
theorem GDatum.vset (l : List GDatum) (i : Nat) (x : GDatum) : (GDatum.vs l).set i x.w = GDatum.vs (l.set i x) := by rw [GDatum.vs_map, GDatum.vs_map, List.map_set]
theorem GDatum.vren (σ : List Nat) (l : List GDatum) : renL σ (GDatum.vs l) = GDatum.vs l := by rw [GDatum.vs_map]; exact bc σ GDatum.w (fun _ => rfl) l
theorem GDatum.vpure (l : List GDatum) : pureL (GDatum.vs l) = true := by rw [GDatum.vs_map]; exact lP GDatum.w (fun _ => rfl) l
theorem GDatum.vone (x : GDatum) : [x.w] = GDatum.vs [x] := by rw [GDatum.vs_map]; rfl
theorem GDatum.vlit (l : List GDatum) : l.map GDatum.w = GDatum.vs l := (GDatum.vs_map l).symm
def fg (p0 : GDatum) (p1 r0 : Int) : Prop := qS 37 [.agg (GDatum.c p0), .int .i64 p1] (.int .i64 r0)
def ek (p0 : GDatum) (r0 : Int) : Prop := qS 16 [.agg (GDatum.c p0)] (.int .i64 r0)
def ev (p0 : GDatum) (r0 : Bool) : Prop := qS 35 [.agg (GDatum.c p0)] (.bool r0)
def fw (p0 : GDatum) (r0 : Bool) : Prop := qS 14 [.agg (GDatum.c p0)] (.bool r0)
def aP (p0 p1 : GDatum) (r0 : Bool) : Prop := qS 18 [.agg (GDatum.c p0), .agg (GDatum.c p1)] (.bool r0)
def ep (p0 r0 : GDatum) : Prop := qS 46 [.agg (GDatum.c p0)] (.agg (GDatum.c r0))
def au (p0 : Int) (r0 : GDatum) : Prop := qS 28 [.int .i64 p0] (.agg (GDatum.c r0))
def eu (m : Nat) (p0 : GDatum) (p1 a : Int) (b : Nat) (r0 : Int) : Prop := ∀ (K : Ctx) (j1 : Nat), aC K [] → m ≤ j1 → qLG K Tryz.f37 (fun u _ => u = .int .i64 r0) (xG (xD (ai Tryz.f37))) [.loop (xG (xD (ai Tryz.f37))) j1, .blk 0, .seq (xI (ai Tryz.f37))] 40 (mkF 40 0 [(1, .int .i64 p1), (5, .int .i64 a), (22, .row 4 (GDatum.vs p0.L)), (23, .int .i64 (p0.L.length : Int)), (24, .int .i64 (b : Int))]) ⟨0, []⟩
theorem np (m : Nat) (p0 : GDatum) (p1 r0 : Int) (h : InI (p1 - 1) ∧ (((p1 - 1) ≤ (p0.S.length : Int)) → p1 = r0) ∧ ((¬ (p1 - 1) ≤ (p0.S.length : Int)) → 1 + p0.S.length ≤ 9223372036854775807 ∧ eu m p0 p1 ((1 + p0.S.length : Nat) : Int) 0 r0)) : fg p0 p1 r0 := by
 refine ⟨rfl, rfl, ?_⟩
 refine av 40 [] Tryz.func37 rfl rfl rfl (aI rfl) fun K hK => ?_
 refine gR 3 rfl <| gFP 0 rfl rfl rfl rfl <| gR 16 rfl ?_
 obtain ⟨hb, h⟩ := h
 refine gR 1 rfl <| gV 13 (.int .i64 (p1 - 1)) rfl (aL hb rfl) rfl <| gR 3 rfl <| gB 14 rfl rfl rfl ?_ ?_ <;> intro hd
 replace hd := (of_decide_eq_true hd)
 replace h := h.1 hd
 refine gR 9 rfl ?_
 subst h
 exact go_end ab (rs := [.tmp 4]) rfl rfl rfl
 replace hd := (of_decide_eq_false hd)
 replace h := h.2 hd
 refine gR 9 rfl ?_
 obtain ⟨hb, h⟩ := h
 exact gR 1 rfl <| gV 20 (.int .i64 ((1 + p0.S.length : Nat) : Int)) rfl (aL (by omega) (by omega)) rfl <| gR 9 rfl <| gV 23 (.int .i64 (p0.L.length : Int)) rfl (aZ (GDatum.vlen _)) rfl <| gLB 22 rfl (GDatum.vlen _) fun hl5 => gR 4 rfl <| go_loop m <| gJ (h K _ hK (by omega)) [] [] rfl hK pq5 trivial rfl
theorem iU (m : Nat) (p0 : GDatum) (p1 a : Int) (b : Nat) (r0 : Int) (h : ((b < p0.L.length) → ∃ d, p0.L[b]? = some d ∧ ((p1 ≤ a) → a = r0) ∧ ((¬ p1 ≤ a) → InI (p1 - a) ∧ ∃ c, fg d (p1 - a) c ∧ InI (a + c) ∧ b + 1 ≤ 9223372036854775807 ∧ eu m p0 p1 (a + c) (b + 1) r0)) ∧ ((¬ b < p0.L.length) → a = r0)) : eu (m + 1) p0 p1 a b r0 := by
 intro K j1 hK hj1
 obtain ⟨j1, rfl⟩ : ∃ j, j1 = j + 1 := ⟨j1 - 1, by omega⟩
 refine gR 6 rfl <| gB 25 rfl rfl rfl ?_ ?_ <;> intro hd
 replace hd := (fi hd)
 replace h := h.1 hd
 refine gR 7 rfl ?_
 obtain ⟨d, hxx1_1, h⟩ := h
 refine gY (aY (GDatum.vget hxx1_1) ab rfl rfl rfl rfl) rfl rfl <| gR 13 rfl <| gB 30 rfl rfl rfl ?_ ?_ <;> intro hd
 replace hd := (of_decide_eq_true hd)
 replace h := h.1 hd
 refine gR 5 rfl <| go_xloopE <| gR 9 rfl ?_
 subst h
 exact go_end ab (rs := [.tmp 4]) rfl rfl rfl
 replace hd := (of_decide_eq_false hd)
 replace h := h.2 hd
 refine gR 8 rfl ?_
 obtain ⟨hb, h⟩ := h
 refine gR 1 rfl <| gV 35 (.int .i64 (p1 - a)) rfl (aL hb rfl) rfl ?_
 obtain ⟨c, hs6, h⟩ := h
 refine gC0 hs6 (by kernel_rfl) rfl rfl .rfl rfl ?_
 obtain ⟨hb, h⟩ := h
 refine gR 1 rfl <| gV 37 (.int .i64 (a + c)) rfl (aL hb rfl) rfl <| gR 5 rfl ?_
 obtain ⟨hb, h⟩ := h
 exact gR 1 rfl <| gV 38 (.int .i64 ((b + 1 : Nat) : Int)) rfl (aL (by omega) (by omega)) rfl <| gR 2 rfl <| go_xloop <| gJ (h K _ hK (by omega)) [] [] rfl hK pq5 trivial rfl
 replace hd := (fq hd)
 replace h := h.2 hd
 refine gR 3 rfl <| go_xloopE <| gR 9 rfl ?_
 subst h
 exact go_end ab (rs := [.tmp 4]) rfl rfl rfl
theorem mx (m : Nat) (p0 : GDatum) (r0 : Int) (h : ∃ a, fg p0 4097 a ∧ a = r0) : ek p0 r0 := by
 refine ⟨rfl, rfl, ?_⟩
 refine av 5 [] Tryz.func16 rfl rfl rfl (aI rfl) fun K hK => ?_
 refine gR 3 rfl <| gFP 0 rfl rfl rfl rfl <| gR 6 rfl ?_
 obtain ⟨a, hs2, h⟩ := h
 refine gC0 hs2 (by kernel_rfl) rfl rfl .rfl rfl <| gR 4 rfl ?_
 subst h
 exact go_end ab (rs := [.tmp 2]) rfl rfl rfl
def dR (m : Nat) (p0 : GDatum) (a : Nat) (r0 : Bool) : Prop := ∀ (K : Ctx) (j1 : Nat), aC K [] → m ≤ j1 → qLG K Tryz.f35 (fun u _ => u = .bool r0) (xG (cT (cB (xF (xB (xE (cB (ai Tryz.f35)))))))) [.loop (xG (cT (cB (xF (xB (xE (cB (ai Tryz.f35)))))))) j1, .blk 1, .seq (cB (cT (cB (xF (xB (xE (cB (ai Tryz.f35)))))))), .blk 0, .seq (xA (ai Tryz.f35))] 71 (mkF 71 0 [(1, .box (GDatum.c p0) 0), (53, .row 4 (GDatum.vs p0.L)), (54, .int .i64 (p0.L.length : Int)), (55, .int .i64 (a : Int))]) ⟨0, []⟩
theorem mH (m : Nat) (p0 : GDatum) (r0 : Bool) (h : ((p0.Kind = 1) → ((p0.S = []) → ((p0.L.length : Int) == 0) = r0) ∧ ((p0.S ≠ []) → false = r0)) ∧ ((p0.Kind ≠ 1) → ((p0.Kind = 2) → ((p0.N = 0) → ((p0.L.length : Int) == 0) = r0) ∧ ((p0.N ≠ 0) → false = r0)) ∧ ((p0.Kind ≠ 2) → ((p0.Kind = 3) → ((p0.S = []) → (((p0.L.length : Int) = 0) → ((p0.N = 0) → true = r0) ∧ ((p0.N ≠ 0) → (p0.N == 1) = r0)) ∧ (((p0.L.length : Int) ≠ 0) → false = r0)) ∧ ((p0.S ≠ []) → false = r0)) ∧ ((p0.Kind ≠ 3) → ((p0.Kind = 4) → dR m p0 0 r0) ∧ ((p0.Kind ≠ 4) → false = r0))))) : ev p0 r0 := by
 refine ⟨rfl, rfl, ?_⟩
 refine av 71 [] Tryz.func35 rfl rfl rfl (aI rfl) fun K hK => ?_
 refine gR 3 rfl <| gFP 0 rfl rfl rfl rfl <| gR 17 rfl <| gB 7 rfl rfl rfl ?_ ?_ <;> intro hd
 refine gT 8 rfl hd rfl ?_
 replace hd := (eq_of_beq hd)
 replace h := h.1 hd
 refine gR 7 rfl <| gB 12 rfl rfl rfl ?_ ?_ <;> intro hd
 refine gT 11 rfl hd rfl ?_
 replace hd := (eq_of_beq hd)
 replace h := h.1 hd
 refine gR 3 rfl <| gV 15 (.int .i64 (p0.L.length : Int)) rfl (aZ (GDatum.vlen _)) rfl <| gLB 14 rfl (GDatum.vlen _) fun hl11 => gR 8 rfl ?_
 subst h
 exact go_end ab (rs := [.tmp 2]) rfl rfl rfl
 refine gF 11 rfl hd rfl ?_
 replace hd := (ne_of_beq_false hd)
 replace h := h.2 hd
 refine gR 11 rfl ?_
 subst h
 exact go_end ab (rs := [.tmp 2]) rfl rfl rfl
 refine gF 8 rfl hd rfl ?_
 replace hd := (ne_of_beq_false hd)
 replace h := h.2 hd
 refine gR 7 rfl <| gB 18 rfl rfl rfl ?_ ?_ <;> intro hd
 refine gT 19 rfl hd rfl ?_
 replace hd := (eq_of_beq hd)
 replace h := h.1 hd
 refine gR 7 rfl <| gB 23 rfl rfl rfl ?_ ?_ <;> intro hd
 refine gT 22 rfl hd rfl ?_
 replace hd := (eq_of_beq hd)
 replace h := h.1 hd
 refine gR 3 rfl <| gV 26 (.int .i64 (p0.L.length : Int)) rfl (aZ (GDatum.vlen _)) rfl <| gLB 25 rfl (GDatum.vlen _) fun hl12 => gR 8 rfl ?_
 subst h
 exact go_end ab (rs := [.tmp 2]) rfl rfl rfl
 refine gF 22 rfl hd rfl ?_
 replace hd := (ne_of_beq_false hd)
 replace h := h.2 hd
 refine gR 11 rfl ?_
 subst h
 exact go_end ab (rs := [.tmp 2]) rfl rfl rfl
 refine gF 19 rfl hd rfl ?_
 replace hd := (ne_of_beq_false hd)
 replace h := h.2 hd
 refine gR 7 rfl <| gB 29 rfl rfl rfl ?_ ?_ <;> intro hd
 refine gT 30 rfl hd rfl ?_
 replace hd := (eq_of_beq hd)
 replace h := h.1 hd
 refine gR 7 rfl <| gB 34 rfl rfl rfl ?_ ?_ <;> intro hd
 refine gT 33 rfl hd rfl ?_
 replace hd := (eq_of_beq hd)
 replace h := h.1 hd
 refine gR 3 rfl <| gV 37 (.int .i64 (p0.L.length : Int)) rfl (aZ (GDatum.vlen _)) rfl <| gLB 36 rfl (GDatum.vlen _) fun hl13 => gR 3 rfl <| gB 40 rfl rfl rfl ?_ ?_ <;> intro hd
 refine gT 39 rfl hd rfl ?_
 replace hd := (eq_of_beq hd)
 replace h := h.1 hd
 refine gR 4 rfl <| gB 44 rfl rfl rfl ?_ ?_ <;> intro hd
 refine gT 43 rfl hd rfl ?_
 replace hd := (eq_of_beq hd)
 replace h := h.1 hd
 refine gR 11 rfl ?_
 subst h
 exact go_end ab (rs := [.tmp 2]) rfl rfl rfl
 refine gF 43 rfl hd rfl ?_
 replace hd := (ne_of_beq_false hd)
 replace h := h.2 hd
 refine gR 11 rfl ?_
 subst h
 exact go_end ab (rs := [.tmp 2]) rfl rfl rfl
 refine gF 39 rfl hd rfl ?_
 replace hd := (ne_of_beq_false hd)
 replace h := h.2 hd
 refine gR 15 rfl ?_
 subst h
 exact go_end ab (rs := [.tmp 2]) rfl rfl rfl
 refine gF 33 rfl hd rfl ?_
 replace hd := (ne_of_beq_false hd)
 replace h := h.2 hd
 refine gR 21 rfl ?_
 subst h
 exact go_end ab (rs := [.tmp 2]) rfl rfl rfl
 refine gF 30 rfl hd rfl ?_
 replace hd := (ne_of_beq_false hd)
 replace h := h.2 hd
 refine gR 7 rfl <| gB 50 rfl rfl rfl ?_ ?_ <;> intro hd
 refine gT 51 rfl hd rfl ?_
 replace hd := (eq_of_beq hd)
 replace h := h.1 hd
 exact gR 7 rfl <| gV 54 (.int .i64 (p0.L.length : Int)) rfl (aZ (GDatum.vlen _)) rfl <| gLB 53 rfl (GDatum.vlen _) fun hl14 => gR 4 rfl <| go_loop m <| gJ (h K _ hK (by omega)) [] [] rfl hK pq4 trivial rfl
 refine gF 51 rfl hd rfl ?_
 replace hd := (ne_of_beq_false hd)
 replace h := h.2 hd
 refine gR 10 rfl ?_
 subst h
 exact go_end ab (rs := [.tmp 2]) rfl rfl rfl
theorem iD (m : Nat) (p0 : GDatum) (a : Nat) (r0 : Bool) (h : ((a < p0.L.length) → ∃ c, p0.L[a]? = some c ∧ ∃ b, ev c b ∧ ((b = false) → false = r0) ∧ ((b = true) → a + 1 ≤ 9223372036854775807 ∧ dR m p0 (a + 1) r0)) ∧ ((¬ a < p0.L.length) → ((p0.S = []) → (p0.N == 0) = r0) ∧ ((p0.S ≠ []) → false = r0))) : dR (m + 1) p0 a r0 := by
 intro K j1 hK hj1
 obtain ⟨j1, rfl⟩ : ∃ j, j1 = j + 1 := ⟨j1 - 1, by omega⟩
 refine gR 6 rfl <| gB 56 rfl rfl rfl ?_ ?_ <;> intro hd
 replace hd := (fi hd)
 replace h := h.1 hd
 refine gR 7 rfl ?_
 obtain ⟨c, hxx1_1, h⟩ := h
 refine gY (aY (GDatum.vget hxx1_1) ab rfl rfl rfl rfl) rfl rfl <| gR 8 rfl ?_
 obtain ⟨b, hs15, h⟩ := h
 refine gC0 hs15 (by kernel_rfl) rfl rfl .rfl rfl <| gR 3 rfl <| gB 61 rfl rfl rfl ?_ ?_ <;> intro hd
 replace hd := (dg hd)
 replace h := h.1 hd
 refine gR 9 rfl <| go_xloopR <| gR 4 rfl ?_
 subst h
 exact go_end ab (rs := [.tmp 2]) rfl rfl rfl
 replace hd := (de hd)
 replace h := h.2 hd
 refine gR 5 rfl ?_
 obtain ⟨hb, h⟩ := h
 exact gR 1 rfl <| gV 62 (.int .i64 ((a + 1 : Nat) : Int)) rfl (aL (by omega) (by omega)) rfl <| gR 2 rfl <| go_xloop <| gJ (h K _ hK (by omega)) [] [] rfl hK pq4 trivial rfl
 replace hd := (fq hd)
 replace h := h.2 hd
 refine gR 3 rfl <| go_xloopE <| gR 8 rfl <| gB 66 rfl rfl rfl ?_ ?_ <;> intro hd
 refine gT 65 rfl hd rfl ?_
 replace hd := (eq_of_beq hd)
 replace h := h.1 hd
 refine gR 10 rfl ?_
 subst h
 exact go_end ab (rs := [.tmp 2]) rfl rfl rfl
 refine gF 65 rfl hd rfl ?_
 replace hd := (ne_of_beq_false hd)
 replace h := h.2 hd
 refine gR 10 rfl ?_
 subst h
 exact go_end ab (rs := [.tmp 2]) rfl rfl rfl
theorem nr (m : Nat) (p0 : GDatum) (r0 : Bool) (h : ∃ a, ek p0 a ∧ ((a ≤ 4096) → ∃ b, ev p0 b ∧ b = r0) ∧ ((¬ a ≤ 4096) → false = r0)) : fw p0 r0 := by
 refine ⟨rfl, rfl, ?_⟩
 refine av 10 [] Tryz.func14 rfl rfl rfl (aI rfl) fun K hK => ?_
 refine gR 3 rfl <| gFP 0 rfl rfl rfl rfl <| gR 6 rfl ?_
 obtain ⟨a, hs3, h⟩ := h
 refine gC0 hs3 (by kernel_rfl) rfl rfl .rfl rfl <| gR 2 rfl <| qBdZ 6 5 rfl rfl rfl rfl h (fun h => ?_) fun h => ?_
 refine gR 1 rfl ?_
 obtain ⟨b, hs4, h⟩ := h
 refine gC0 hs4 (by kernel_rfl) rfl rfl .rfl rfl <| gR 5 rfl ?_
 subst h
 exact go_end ab (rs := [.tmp 2]) rfl rfl rfl
 refine gR 7 rfl ?_
 subst h
 exact go_end ab (rs := [.tmp 2]) rfl rfl rfl
def fb (m : Nat) (p0 p1 : GDatum) (a : Nat) (r0 : Bool) : Prop := ∀ (K : Ctx) (j1 : Nat), aC K [] → m ≤ j1 → qLG K Tryz.f18 (fun u _ => u = .bool r0) (xG (xA (ai Tryz.f18))) [.loop (xG (xA (ai Tryz.f18))) j1, .blk 0, .seq (xH (ai Tryz.f18))] 53 (mkF 53 0 [(2, .box (GDatum.c p0) 0), (3, .box (GDatum.c p1) 0), (36, .int .i64 (p0.L.length : Int)), (37, .int .i64 (a : Int))]) ⟨0, []⟩
theorem oS (m : Nat) (p0 p1 : GDatum) (r0 : Bool) (h : ((p0.Kind ≠ p1.Kind) → false = r0) ∧ ((p0.Kind = p1.Kind) → ((p0.N ≠ p1.N) → false = r0) ∧ ((p0.N = p1.N) → ((p0.S ≠ p1.S) → false = r0) ∧ ((p0.S = p1.S) → ((p0.L.length ≠ p1.L.length) → false = r0) ∧ ((p0.L.length = p1.L.length) → fb m p0 p1 0 r0))))) : aP p0 p1 r0 := by
 refine ⟨rfl, rfl, ?_⟩
 refine av 53 [] Tryz.func18 rfl rfl rfl (aI rfl) fun K hK => ?_
 refine gR 3 rfl <| gFP 0 rfl rfl rfl rfl <| gR 1 rfl <| gFP 1 rfl rfl rfl rfl <| gR 12 rfl <| gB 11 rfl rfl rfl ?_ ?_ <;> intro hd
 refine gT 10 rfl hd rfl ?_
 replace hd := (bi hd)
 replace h := h.1 hd
 refine gR 32 rfl ?_
 subst h
 exact go_end ab (rs := [.tmp 4]) rfl rfl rfl
 refine gF 10 rfl hd rfl ?_
 replace hd := (aQ hd)
 replace h := h.2 hd
 refine gR 7 rfl <| gB 18 rfl rfl rfl ?_ ?_ <;> intro hd
 refine gT 17 rfl hd rfl ?_
 replace hd := (bi hd)
 replace h := h.1 hd
 refine gR 25 rfl ?_
 subst h
 exact go_end ab (rs := [.tmp 4]) rfl rfl rfl
 refine gF 17 rfl hd rfl ?_
 replace hd := (aQ hd)
 replace h := h.2 hd
 refine gR 7 rfl <| gB 25 rfl rfl rfl ?_ ?_ <;> intro hd
 refine gT 24 rfl hd rfl ?_
 replace hd := (bi hd)
 replace h := h.1 hd
 refine gR 18 rfl ?_
 subst h
 exact go_end ab (rs := [.tmp 4]) rfl rfl rfl
 refine gF 24 rfl hd rfl ?_
 replace hd := (aQ hd)
 replace h := h.2 hd
 refine gR 3 rfl <| gV 28 (.int .i64 (p0.L.length : Int)) rfl (aZ (GDatum.vlen _)) rfl <| gLB 27 rfl (GDatum.vlen _) fun hl7 => gR 3 rfl <| gV 31 (.int .i64 (p1.L.length : Int)) rfl (aZ (GDatum.vlen _)) rfl <| gLB 30 rfl (GDatum.vlen _) fun hl8 => gR 4 rfl <| gB 33 rfl rfl rfl ?_ ?_ <;> intro hd
 replace hd := (wE hd)
 replace h := h.1 hd
 refine gR 8 rfl ?_
 subst h
 exact go_end ab (rs := [.tmp 4]) rfl rfl rfl
 replace hd := (vh hd)
 replace h := h.2 hd
 exact gR 9 rfl <| gV 36 (.int .i64 (p0.L.length : Int)) rfl (aZ (GDatum.vlen _)) rfl <| gR 4 rfl <| go_loop m <| gJ (h K _ hK (by omega)) [] [] rfl hK pq4 trivial rfl
theorem jT (m : Nat) (p0 p1 : GDatum) (a : Nat) (r0 : Bool) (h : ((a < p0.L.length) → ∃ c, p0.L[a]? = some c ∧ ∃ d, p1.L[a]? = some d ∧ ∃ b, aP c d b ∧ ((b = false) → false = r0) ∧ ((b = true) → a + 1 ≤ 9223372036854775807 ∧ fb m p0 p1 (a + 1) r0)) ∧ ((¬ a < p0.L.length) → true = r0)) : fb (m + 1) p0 p1 a r0 := by
 intro K j1 hK hj1
 obtain ⟨j1, rfl⟩ : ∃ j, j1 = j + 1 := ⟨j1 - 1, by omega⟩
 refine gR 6 rfl <| gB 38 rfl rfl rfl ?_ ?_ <;> intro hd
 replace hd := (fi hd)
 replace h := h.1 hd
 refine gR 12 rfl <| gDs [] 12 12 rfl (by kernel_rfl) (by kernel_rfl) <| gDr [(0, 2), (1, 2), (2, 2)] (by kernel_rfl) rfl rfl ?_
 obtain ⟨c, hxx1_1, h⟩ := h
 refine gYd 3 rfl (by kernel_rfl) (aY (GDatum.vget hxx1_1) ab rfl rfl rfl rfl) rfl rfl <| gDr [(4, 2), (5, 2), (6, 2), (7, 0)] (by kernel_rfl) rfl rfl ?_
 obtain ⟨d, hxx1_2, h⟩ := h
 refine jF 8 rfl (by kernel_rfl) (aY (GDatum.vget hxx1_2) ab rfl rfl rfl rfl) rfl rfl ?_
 refine gDr [(9, 0)] (by kernel_rfl) rfl rfl ?_
 obtain ⟨b, hs9, h⟩ := h
 refine aj 10 hs9 (by kernel_rfl) rfl (by kernel_rfl) rfl rfl .rfl rfl rfl ?_
 refine gDr [(11, 0)] (by kernel_rfl) rfl rfl <| gDe (by kernel_rfl) <| gR 1 rfl <| gB 51 rfl rfl rfl ?_ ?_ <;> intro hd
 replace hd := (dg hd)
 replace h := h.1 hd
 refine gR 9 rfl <| go_xloopR <| gR 2 rfl ?_
 subst h
 exact go_end ab (rs := [.tmp 4]) rfl rfl rfl
 replace hd := (de hd)
 replace h := h.2 hd
 refine gR 5 rfl ?_
 obtain ⟨hb, h⟩ := h
 exact gR 1 rfl <| gV 52 (.int .i64 ((a + 1 : Nat) : Int)) rfl (aL (by omega) (by omega)) rfl <| gR 2 rfl <| go_xloop <| gJ (h K _ hK (by omega)) [] [] rfl hK pq4 trivial rfl
 replace hd := (fq hd)
 replace h := h.2 hd
 refine gR 3 rfl <| go_xloopE <| gR 8 rfl ?_
 subst h
 exact go_end ab (rs := [.tmp 4]) rfl rfl rfl
def dS (m : Nat) (p0 : GDatum) (a : List GDatum) (b : Nat) (r0 : GDatum) : Prop := ∀ (K : Ctx) (j1 : Nat), aC K [] → m ≤ j1 → qLG K Tryz.f46 (fun u _ => u = .agg (GDatum.c r0)) (xG (xA (ai Tryz.f46))) [.loop (xG (xA (ai Tryz.f46))) j1, .blk 0, .seq (xH (ai Tryz.f46))] 22 (mkF 22 0 [(1, .ptr 0 0), (2, .ptr 1 0), (3, .sl 2), (7, .row 4 (GDatum.vs p0.L)), (8, .int .i64 (p0.L.length : Int)), (9, .int .i64 (b : Int))]) ⟨3, [(2, .row 24 4 (GDatum.vs a)), (1, .var 24 [.int .i64 0, .int .i64 0, .str [], .nils]), (0, .var 24 (GDatum.c p0))]⟩
theorem mA (m : Nat) (p0 r0 : GDatum) (h : dS m p0 ([] : List GDatum) 0 r0) : ep p0 r0 := by
 refine ⟨rfl, rfl, ?_⟩
 refine av 22 [] Tryz.func46 rfl rfl rfl (aI rfl) fun K hK => ?_
 exact gR 17 rfl <| gV 8 (.int .i64 (p0.L.length : Int)) rfl (aZ (GDatum.vlen _)) rfl <| gLB 7 rfl (GDatum.vlen _) fun hl5 => gR 4 rfl <| go_loop m <| gNS 3 24 4 rfl rfl rfl rfl <| gJ (h K _ hK (by omega)) [0, 1, 2] [] rfl hK pq6 ⟨⟨_, rfl, rfl, rfl, rfl⟩, (pqo2 rfl rfl rfl rfl)⟩ rfl
theorem iH (m : Nat) (p0 : GDatum) (a : List GDatum) (c : Nat) (r0 : GDatum) (h : ((c < p0.L.length) → ∃ d, p0.L[c]? = some d ∧ ∃ b, ep d b ∧ (a ++ [b]).length ≤ 1000000000 ∧ c + 1 ≤ 9223372036854775807 ∧ dS m p0 (a ++ [b]) (c + 1) r0) ∧ ((¬ c < p0.L.length) → (GDatum.mk p0.Kind p0.N p0.S a) = r0)) : dS (m + 1) p0 a c r0 := by
 intro K j1 hK hj1
 obtain ⟨j1, rfl⟩ : ∃ j, j1 = j + 1 := ⟨j1 - 1, by omega⟩
 refine gR 6 rfl <| gB 10 rfl rfl rfl ?_ ?_ <;> intro hd
 replace hd := (fi hd)
 replace h := h.1 hd
 refine gR 7 rfl ?_
 obtain ⟨d, hxx1_1, h⟩ := h
 refine gY (aY (GDatum.vget hxx1_1) ab rfl rfl rfl rfl) rfl rfl <| gR 8 rfl ?_
 obtain ⟨b, hs6, h⟩ := h
 refine gC0 hs6 (by kernel_rfl) rfl rfl .rfl rfl <| gR 1 rfl <| gHR 4 (GDatum.vs [b]) rfl (GDatum.vone b) rfl ?_
 obtain ⟨hb, h⟩ := h
 refine gDo (.repl 2 (.row 24 4 (GDatum.vs (a ++ [b])))) (kx ab rfl rfl rfl rfl rfl (GDatum.vapp a [b]).symm (by rw [GDatum.vlen]; exact hb)) (okR rfl) rfl rfl rfl <| gR 5 rfl ?_
 obtain ⟨hb, h⟩ := h
 exact gR 1 rfl <| gV 18 (.int .i64 ((c + 1 : Nat) : Int)) rfl (aL (by omega) (by omega)) rfl <| gR 2 rfl <| go_xloop <| gJ (h K _ hK (by omega)) [0, 1, 5] [] rfl hK pq6 ⟨⟨_, rfl, rfl, rfl, (GDatum.vren _ (a ++ [b])).symm⟩, (pqo2 rfl rfl rfl rfl)⟩ rfl
 replace hd := (fq hd)
 replace h := h.2 hd
 refine gR 3 rfl <| go_xloopE <| gR 16 rfl <| gFR 2 rfl (GDatum.vpure _) rfl rfl ?_
 subst h
 exact go_sub (F' := (mkF 22 0 [(2, .ptr 0 0)])) (H' := ⟨1, [(0, .var 24 (GDatum.c (GDatum.mk p0.Kind p0.N p0.S a)))]⟩) [1] [] rfl hK pq1 (pqo1 rfl rfl) rfl <| go_end ab (rs := [.cell 2 24]) rfl rfl rfl
theorem jj (m : Nat) (p0 : Int) (r0 : GDatum) (h : (GDatum.mk 1 p0 [] []) = r0) : au p0 r0 := by
 refine ⟨rfl, rfl, ?_⟩
 refine av 5 [] Tryz.func28 rfl rfl rfl (aI rfl) fun K hK => ?_
 refine gR 13 rfl ?_
 subst h
 exact go_sub (F' := (mkF 5 0 [(2, .ptr 0 0)])) (H' := ⟨1, [(0, .var 24 [.int .i64 ((GDatum.mk 1 p0 [] []).Kind), .int .i64 ((GDatum.mk 1 p0 [] []).N), .str ((GDatum.mk 1 p0 [] []).S), .row 4 (GDatum.vs ((GDatum.mk 1 p0 [] []).L))])]⟩) [0] [] rfl hK pq1 ⟨⟨_, rfl, rfl, (.cons .rfl (.cons .rfl (.cons .rfl (.cons (.nil 4) .nil))))⟩, trivial⟩ rfl <| go_end ab (rs := [.cell 2 24]) rfl rfl rfl
end Go.Proofs.YthnohcipianijaaGreatDoor
namespace Go.Proofs.YthnohcipianijaaGreatDoor
open Go.RowKit Lx Sx
set_option maxRecDepth 100000
set_option maxHeartbeats 4000000
def eG (p0 r0 : List Int) : Prop := cP [0] Tryz.prog 101 [.sl 0] ⟨1, [(0, .row 3 1 (List.map (V.int .i64) p0))]⟩ (fun u G => u = .row 1 (List.map (V.int .i64) r0) ∧ G = ⟨1, [(0, .row 3 1 (List.map (V.int .i64) p0))]⟩)
theorem kS (m : Nat) (p0 r0 : List Int) (h : ∀ (a : Bool), (a = true → p0.length = 0) → ((a = true) → [] = r0) ∧ ((a = false) → p0.length ≤ 1000000000 ∧ p0 = r0)) : eG p0 r0 := by
 refine av 8 [0] Tryz.func101 rfl rfl rfl (aI rfl) fun K hK => ?_
 refine gR 9 rfl <| wY (N := p0.length) ab rfl rfl rfl rfl (kw (V.int .i64) p0) fun a hb => ?_
 replace h := h a hb
 refine gR 2 rfl <| qBi 4 rfl rfl rfl h (fun h => ?_) fun h => ?_
 refine gR 8 rfl ?_
 subst h
 exact go_sub (F' := (mkF 8 0 [(2, .row 1 (List.map (V.int .i64) []))])) (H' := ⟨1, [(0, .row 3 1 (List.map (V.int .i64) p0))]⟩) [0] [0] rfl hK ⟨⟨_, rfl, (.nil 1)⟩, trivial⟩ ⟨⟨_, rfl, rfl, rfl, (bc _ (V.int .i64) (fun _ => rfl) p0).symm⟩, trivial⟩ rfl <| go_endD [] ab (rs := [.tmp 2]) rfl rfl ⟨rfl, rfl⟩
 refine gR 7 rfl ?_
 obtain ⟨hb, h⟩ := h
 refine gDo (.repl 1 (.row 3 1 (List.map (V.int .i64) p0))) (kx ab rfl rfl rfl rfl rfl (List.nil_append _) (by rw [kw]; exact hb)) (okR rfl) rfl rfl rfl <| gR 4 rfl <| gFR 2 rfl (lP _ (fun _ => rfl) _) rfl rfl ?_
 subst h
 exact go_sub (F' := (mkF 8 0 [(2, .row 1 (List.map (V.int .i64) p0))])) (H' := ⟨1, [(0, .row 3 1 (List.map (V.int .i64) p0))]⟩) [0] [0] rfl hK pq1 ⟨⟨_, rfl, rfl, rfl, (bc _ (V.int .i64) (fun _ => rfl) p0).symm⟩, trivial⟩ rfl <| go_endD [] ab (rs := [.tmp 2]) rfl rfl ⟨rfl, rfl⟩
end Go.Proofs.YthnohcipianijaaGreatDoor
namespace Go.Proofs.YthnohcipianijaaGreatDoor
open Go.RowKit Lx Sx
set_option maxRecDepth 100000
set_option maxHeartbeats 4000000
def pm (p0 : List UInt8) (r0 : Int) : Prop := qS 143 [.str p0] (.int .i64 r0)
def fM (p0 p1 r0 : Int) : Prop := qS 97 [.int .i64 p0, .int .i64 p1] (.int .i64 r0)
def bR (p0 p1 p2 r0 : Int) : Prop := qS 142 [.int .i64 p0, .int .i64 p1, .int .i64 p2] (.int .i64 r0)
def dt (p0 : Int) (r0 : Bool) : Prop := qS 146 [.int .i64 p0] (.bool r0)
def bC (p0 : Int) (r0 : Bool) : Prop := qS 145 [.int .i64 p0] (.bool r0)
def eT (p0 : Int) (r0 : Bool) : Prop := qS 147 [.int .i64 p0] (.bool r0)
def ea (p0 : List UInt8) (r0 : Bool) : Prop := qS 144 [.str p0] (.bool r0)
def ft (p0 : Int) (p1 : List UInt8) (r0 : Bool) : Prop := qS 98 [.int .i64 p0, .str p1] (.bool r0)
def fQ (p0 : Tree) (p1 : Int) (r0 : Bool) : Prop := qS 99 [.agg (cN p0), .int .i64 p1] (.bool r0)
def cD (p0 : Tree) (r0 : Bool) : Prop := qS 66 [.agg (cN p0)] (.bool r0)
def aw (m : Nat) (p1 : Int) (a b c : Nat) (d r0 : Int) : Prop := ∀ (K : Ctx), aC K [] → qLG K Tryz.f97 (fun u _ => u = .int .i64 r0) (xD (ai Tryz.f97)) [] 69 (mkF 69 0 [(1, .int .i64 p1), (5, .int .i64 (a : Int)), (6, .int .i64 d), (7, .int .i64 (b : Int)), (8, .int .i64 (c : Int))]) ⟨0, []⟩
def dr (m : Nat) (p0 p1 : Int) (a : Bool) (r0 : Int) : Prop := ∀ (K : Ctx), aC K [] → qLG K Tryz.f97 (fun u _ => u = .int .i64 r0) (cB (xK (xB (xE (xH (ai Tryz.f97)))))) [.blk 0, .seq (xD (ai Tryz.f97))] 69 (mkF 69 0 [(1, .int .i64 p1), (5, .int .i64 0), (6, .int .i64 0), (7, .int .i64 1), (8, .int .i64 0), (9, .int .i64 p0), (22, .bool a)]) ⟨0, []⟩
def dp (m : Nat) (p1 : Int) (a b c : Nat) (d r0 : Int) : Prop := ∀ (K : Ctx), aC K [] → qLG K Tryz.f97 (fun u _ => u = .int .i64 r0) (xI (ai Tryz.f97)) [] 69 (mkF 69 0 [(1, .int .i64 p1), (5, .int .i64 (a : Int)), (6, .int .i64 d), (7, .int .i64 (b : Int)), (8, .int .i64 (c : Int))]) ⟨0, []⟩
theorem mf (m : Nat) (p0 p1 r0 : Int) (h : ((p0 = 1) → ∃ a, bR p1 0 3 a ∧ a = r0) ∧ ((p0 ≠ 1) → ((p0 = 2) → aw m p1 2 6 2 (-1) r0) ∧ ((p0 ≠ 2) → ((p0 = 16) → aw m p1 0 3 0 (-1) r0) ∧ ((p0 ≠ 16) → ((p0 = 18) → aw m p1 1 2 0 (-1) r0) ∧ ((p0 ≠ 18) → ((p0 = 3) → aw m p1 1 3 0 1 r0) ∧ ((p0 ≠ 3) → ((p0 = 4) → dr m p0 p1 true r0) ∧ ((p0 ≠ 4) → ((p0 = 8) → dr m p0 p1 true r0) ∧ ((p0 ≠ 8) → dr m p0 p1 (p0 == 22) r0)))))))) : fM p0 p1 r0 := by
 refine ⟨rfl, rfl, ?_⟩
 refine av 69 [] Tryz.func97 rfl rfl rfl (aI rfl) fun K hK => ?_
 refine gR 30 rfl <| qBeZ 10 11 rfl rfl rfl rfl h (fun h => ?_) fun h => ?_
 refine gR 4 rfl ?_
 obtain ⟨a, hs17, h⟩ := h
 refine gC0 hs17 (by kernel_rfl) rfl rfl .rfl rfl <| gR 6 rfl ?_
 subst h
 exact go_end ab (rs := [.tmp 4]) rfl rfl rfl
 refine gR 7 rfl <| qBeZ 14 15 rfl rfl rfl rfl h (fun h => ?_) fun h => ?_
 exact gR 9 rfl <| gJ (h K hK) [] [] rfl hK pq5 trivial rfl
 refine gR 7 rfl <| qBeZ 16 17 rfl rfl rfl rfl h (fun h => ?_) fun h => ?_
 exact gR 9 rfl <| gJ (h K hK) [] [] rfl hK pq5 trivial rfl
 refine gR 7 rfl <| qBeZ 18 19 rfl rfl rfl rfl h (fun h => ?_) fun h => ?_
 exact gR 9 rfl <| gJ (h K hK) [] [] rfl hK pq5 trivial rfl
 refine gR 7 rfl <| qBeZ 20 21 rfl rfl rfl rfl h (fun h => ?_) fun h => ?_
 exact gR 8 rfl <| gJ (h K hK) [] [] rfl hK pq5 trivial rfl
 refine gR 8 rfl <| qBeZ 22 23 rfl rfl rfl rfl h (fun h => ?_) fun h => ?_
 exact gR 3 rfl <| gJ (h K hK) [] [] rfl hK pq7 trivial rfl
 refine gR 7 rfl <| qBeZ 22 24 rfl rfl rfl rfl h (fun h => ?_) fun h => ?_
 exact gR 3 rfl <| gJ (h K hK) [] [] rfl hK pq7 trivial rfl
 exact gR 6 rfl <| gJ (h K hK) [] [] rfl hK pq7 trivial rfl
theorem lq (m : Nat) (p1 : Int) (b c d : Nat) (a r0 : Int) (h : ((0 ≤ a) → ((a < p1) → (-1) = r0) ∧ ((¬ a < p1) → dp m p1 b c d a r0)) ∧ ((¬ 0 ≤ a) → dp m p1 b c d a r0)) : aw (m + 1) p1 b c d a r0 := by
 intro K hK
 refine gR 6 rfl <| qBdZ 47 46 rfl rfl rfl rfl h (fun h => ?_) fun h => ?_
 refine gR 6 rfl <| qBd 51 rfl rfl rfl h (fun h => ?_) fun h => ?_
 refine gR 8 rfl ?_
 subst h
 exact go_end ab (rs := [.tmp 4]) rfl rfl rfl
 exact gR 3 rfl <| gJ (h K hK) [] [] rfl hK pq5 trivial rfl
 exact gR 9 rfl <| gJ (h K hK) [] [] rfl hK pq5 trivial rfl
theorem lc (m : Nat) (p0 p1 : Int) (a : Bool) (r0 : Int) (h : ((a = true) → aw m p1 1 2 0 1 r0) ∧ ((a = false) → ((p0 = 17) → aw m p1 1 0 0 1 r0) ∧ ((p0 ≠ 17) → ((p0 = 19) → aw m p1 3 3 0 3 r0) ∧ ((p0 ≠ 19) → ((p0 = 20) → aw m p1 2 4 0 2 r0) ∧ ((p0 ≠ 20) → ((p0 = 21) → aw m p1 2 1 0 2 r0) ∧ ((p0 ≠ 21) → ((p0 = 5) → aw m p1 0 1 0 0 r0) ∧ ((p0 ≠ 5) → ((p0 = 6) → aw m p1 0 1 0 0 r0) ∧ ((p0 ≠ 6) → ((p0 = 7) → aw m p1 0 1 0 0 r0) ∧ ((p0 ≠ 7) → ((p0 = 9) → aw m p1 0 1 0 0 r0) ∧ ((p0 ≠ 9) → ((p0 = 10) → aw m p1 0 1 0 0 r0) ∧ ((p0 ≠ 10) → ((p0 = 11) → aw m p1 0 1 0 0 r0) ∧ ((p0 ≠ 11) → ((p0 = 12) → aw m p1 0 1 0 0 r0) ∧ ((p0 ≠ 12) → ((p0 = 13) → aw m p1 0 1 0 0 r0) ∧ ((p0 ≠ 13) → ((p0 = 14) → aw m p1 0 1 0 0 r0) ∧ ((p0 ≠ 14) → ((p0 = 15) → aw m p1 0 1 0 0 r0) ∧ ((p0 ≠ 15) → (-1) = r0)))))))))))))))) : dr (m + 1) p0 p1 a r0 := by
 intro K hK
 refine qBi 22 rfl rfl rfl h (fun h => ?_) fun h => ?_
 exact gR 8 rfl <| gJ (h K hK) [] [] rfl hK pq5 trivial rfl
 refine gR 7 rfl <| qBeZ 26 27 rfl rfl rfl rfl h (fun h => ?_) fun h => ?_
 exact gR 8 rfl <| gJ (h K hK) [] [] rfl hK pq5 trivial rfl
 refine gR 7 rfl <| qBeZ 28 29 rfl rfl rfl rfl h (fun h => ?_) fun h => ?_
 exact gR 8 rfl <| gJ (h K hK) [] [] rfl hK pq5 trivial rfl
 refine gR 7 rfl <| qBeZ 30 31 rfl rfl rfl rfl h (fun h => ?_) fun h => ?_
 exact gR 8 rfl <| gJ (h K hK) [] [] rfl hK pq5 trivial rfl
 refine gR 7 rfl <| qBeZ 32 33 rfl rfl rfl rfl h (fun h => ?_) fun h => ?_
 exact gR 8 rfl <| gJ (h K hK) [] [] rfl hK pq5 trivial rfl
 refine gR 8 rfl <| qBeZ 34 35 rfl rfl rfl rfl h (fun h => ?_) fun h => ?_
 exact gR 7 rfl <| gJ (h K hK) [] [] rfl hK pq5 trivial rfl
 refine gR 7 rfl <| qBeZ 34 36 rfl rfl rfl rfl h (fun h => ?_) fun h => ?_
 exact gR 7 rfl <| gJ (h K hK) [] [] rfl hK pq5 trivial rfl
 refine gR 7 rfl <| qBeZ 34 37 rfl rfl rfl rfl h (fun h => ?_) fun h => ?_
 exact gR 7 rfl <| gJ (h K hK) [] [] rfl hK pq5 trivial rfl
 refine gR 7 rfl <| qBeZ 34 38 rfl rfl rfl rfl h (fun h => ?_) fun h => ?_
 exact gR 7 rfl <| gJ (h K hK) [] [] rfl hK pq5 trivial rfl
 refine gR 7 rfl <| qBeZ 34 39 rfl rfl rfl rfl h (fun h => ?_) fun h => ?_
 exact gR 7 rfl <| gJ (h K hK) [] [] rfl hK pq5 trivial rfl
 refine gR 7 rfl <| qBeZ 34 40 rfl rfl rfl rfl h (fun h => ?_) fun h => ?_
 exact gR 7 rfl <| gJ (h K hK) [] [] rfl hK pq5 trivial rfl
 refine gR 7 rfl <| qBeZ 34 41 rfl rfl rfl rfl h (fun h => ?_) fun h => ?_
 exact gR 7 rfl <| gJ (h K hK) [] [] rfl hK pq5 trivial rfl
 refine gR 7 rfl <| qBeZ 34 42 rfl rfl rfl rfl h (fun h => ?_) fun h => ?_
 exact gR 7 rfl <| gJ (h K hK) [] [] rfl hK pq5 trivial rfl
 refine gR 7 rfl <| qBeZ 34 43 rfl rfl rfl rfl h (fun h => ?_) fun h => ?_
 exact gR 7 rfl <| gJ (h K hK) [] [] rfl hK pq5 trivial rfl
 refine gR 6 rfl <| qBeZ 34 44 rfl rfl rfl rfl h (fun h => ?_) fun h => ?_
 exact gR 4 rfl <| gJ (h K hK) [] [] rfl hK pq5 trivial rfl
 refine gR 9 rfl ?_
 subst h
 exact go_end ab (rs := [.tmp 4]) rfl rfl rfl
theorem ln (m : Nat) (p1 : Int) (c b a : Nat) (d r0 : Int) (h : ((d < 0) → (((a : Int) < p1) → InI (p1 - (a : Int)) ∧ InI ((p1 - (a : Int)) - 1) ∧ InI ((b : Int) + ((p1 - (a : Int)) - 1)) ∧ ∃ e, bR p1 (c : Int) ((b : Int) + ((p1 - (a : Int)) - 1)) e ∧ e = r0) ∧ ((¬ (a : Int) < p1) → ∃ f, bR p1 (c : Int) (b : Int) f ∧ f = r0)) ∧ ((¬ d < 0) → ∃ g, bR p1 (c : Int) (b : Int) g ∧ g = r0)) : dp (m + 1) p1 c b a d r0 := by
 intro K hK
 refine gR 6 rfl <| qBdZ 54 53 rfl rfl rfl rfl h (fun h => ?_) fun h => ?_
 refine gR 6 rfl <| qBd 58 rfl rfl rfl h (fun h => ?_) fun h => ?_
 refine gR 5 rfl ?_
 obtain ⟨hb, h⟩ := h
 refine gR 1 rfl <| gV 62 (.int .i64 (p1 - (a : Int))) rfl (aL hb rfl) rfl ?_
 obtain ⟨hb, h⟩ := h
 refine gR 1 rfl <| gV 63 (.int .i64 ((p1 - (a : Int)) - 1)) rfl (aL hb rfl) rfl ?_
 obtain ⟨hb, h⟩ := h
 refine gR 1 rfl <| gV 64 (.int .i64 ((b : Int) + ((p1 - (a : Int)) - 1))) rfl (aL hb rfl) rfl <| gR 8 rfl ?_
 obtain ⟨e, hs18, h⟩ := h
 refine gC0 hs18 (by kernel_rfl) rfl rfl .rfl rfl <| gR 4 rfl ?_
 subst h
 exact go_end ab (rs := [.tmp 4]) rfl rfl rfl
 refine gR 8 rfl ?_
 obtain ⟨f, hs19, h⟩ := h
 refine gC0 hs19 (by kernel_rfl) rfl rfl .rfl rfl <| gR 4 rfl ?_
 subst h
 exact go_end ab (rs := [.tmp 4]) rfl rfl rfl
 refine gR 14 rfl ?_
 obtain ⟨g, hs20, h⟩ := h
 refine gC0 hs20 (by kernel_rfl) rfl rfl .rfl rfl <| gR 4 rfl ?_
 subst h
 exact go_end ab (rs := [.tmp 4]) rfl rfl rfl
theorem kR (m : Nat) (p0 p1 p2 r0 : Int) (h : ((p0 < p1) → (-1) = r0) ∧ ((¬ p0 < p1) → p2 = r0)) : bR p0 p1 p2 r0 := by
 refine ⟨rfl, rfl, ?_⟩
 refine av 11 [] Tryz.func142 rfl rfl rfl (aI rfl) fun K hK => ?_
 refine gR 13 rfl <| qBd 9 rfl rfl rfl h (fun h => ?_) fun h => ?_
 refine gR 8 rfl ?_
 subst h
 exact go_end ab (rs := [.tmp 6]) rfl rfl rfl
 refine gR 10 rfl ?_
 subst h
 exact go_end ab (rs := [.tmp 6]) rfl rfl rfl
theorem lv (m : Nat) (p0 : Int) (r0 : Bool) (h : ((5 ≤ p0) → decide (p0 ≤ 9) = r0) ∧ ((¬ 5 ≤ p0) → false = r0)) : dt p0 r0 := by
 refine ⟨rfl, rfl, ?_⟩
 refine av 9 [] Tryz.func146 rfl rfl rfl (aI rfl) fun K hK => ?_
 refine gR 10 rfl <| qBdZ 5 4 rfl rfl rfl rfl h (fun h => ?_) fun h => ?_
 refine gR 7 rfl ?_
 subst h
 exact go_end ab (rs := [.tmp 2]) rfl rfl rfl
 refine gR 7 rfl ?_
 subst h
 exact go_end ab (rs := [.tmp 2]) rfl rfl rfl
theorem iM (m : Nat) (p0 : Int) (r0 : Bool) (h : ((10 ≤ p0) → ((p0 ≤ 22) → (p0 != 17) = r0) ∧ ((¬ p0 ≤ 22) → false = r0)) ∧ ((¬ 10 ≤ p0) → false = r0)) : bC p0 r0 := by
 refine ⟨rfl, rfl, ?_⟩
 refine av 13 [] Tryz.func145 rfl rfl rfl (aI rfl) fun K hK => ?_
 refine gR 10 rfl <| qBdZ 5 4 rfl rfl rfl rfl h (fun h => ?_) fun h => ?_
 refine gR 4 rfl <| qBdZ 9 8 rfl rfl rfl rfl h (fun h => ?_) fun h => ?_
 refine gR 7 rfl ?_
 subst h
 exact go_end ab (rs := [.tmp 2]) rfl rfl rfl
 refine gR 7 rfl ?_
 subst h
 exact go_end ab (rs := [.tmp 2]) rfl rfl rfl
 refine gR 11 rfl ?_
 subst h
 exact go_end ab (rs := [.tmp 2]) rfl rfl rfl
theorem lx (m : Nat) (p0 : Int) (r0 : Bool) (h : ∃ a, bC p0 a ∧ ((a = true) → ((p0 ≠ 19) → ((p0 ≠ 20) → (p0 != 21) = r0) ∧ ((p0 = 20) → false = r0)) ∧ ((p0 = 19) → false = r0)) ∧ ((a = false) → false = r0)) : eT p0 r0 := by
 refine ⟨rfl, rfl, ?_⟩
 refine av 17 [] Tryz.func147 rfl rfl rfl (aI rfl) fun K hK => ?_
 refine gR 8 rfl ?_
 obtain ⟨a, hs2, h⟩ := h
 refine gC0 hs2 (by kernel_rfl) rfl rfl .rfl rfl <| gR 1 rfl <| qBiZ 5 4 rfl rfl rfl rfl h (fun h => ?_) fun h => ?_
 refine gR 4 rfl <| qBhZ 9 8 rfl rfl rfl rfl h bi aQ (fun h => ?_) fun h => ?_
 refine gR 4 rfl <| qBhZ 13 12 rfl rfl rfl rfl h bi aQ (fun h => ?_) fun h => ?_
 refine gR 7 rfl ?_
 subst h
 exact go_end ab (rs := [.tmp 2]) rfl rfl rfl
 refine gR 7 rfl ?_
 subst h
 exact go_end ab (rs := [.tmp 2]) rfl rfl rfl
 refine gR 11 rfl ?_
 subst h
 exact go_end ab (rs := [.tmp 2]) rfl rfl rfl
 refine gR 15 rfl ?_
 subst h
 exact go_end ab (rs := [.tmp 2]) rfl rfl rfl
theorem kh (m : Nat) (p0 : List UInt8) (r0 : Bool) (h : ((p0 = [43]) → true = r0) ∧ ((p0 ≠ [43]) → ((p0 = [45]) → true = r0) ∧ ((p0 ≠ [45]) → ((p0 = [42]) → true = r0) ∧ ((p0 ≠ [42]) → ((p0 = [60]) → true = r0) ∧ ((p0 ≠ [60]) → ((p0 = [61, 61]) → true = r0) ∧ ((p0 ≠ [61, 61]) → false = r0)))))) : ea p0 r0 := by
 refine ⟨rfl, rfl, ?_⟩
 refine av 10 [] Tryz.func144 rfl rfl rfl (aI rfl) fun K hK => ?_
 refine gR 19 rfl <| qBeZ 4 5 rfl rfl rfl rfl h (fun h => ?_) fun h => ?_
 refine gR 12 rfl ?_
 subst h
 exact go_end ab (rs := [.tmp 2]) rfl rfl rfl
 refine gR 7 rfl <| qBeZ 4 6 rfl rfl rfl rfl h (fun h => ?_) fun h => ?_
 refine gR 12 rfl ?_
 subst h
 exact go_end ab (rs := [.tmp 2]) rfl rfl rfl
 refine gR 7 rfl <| qBeZ 4 7 rfl rfl rfl rfl h (fun h => ?_) fun h => ?_
 refine gR 12 rfl ?_
 subst h
 exact go_end ab (rs := [.tmp 2]) rfl rfl rfl
 refine gR 7 rfl <| qBeZ 4 8 rfl rfl rfl rfl h (fun h => ?_) fun h => ?_
 refine gR 12 rfl ?_
 subst h
 exact go_end ab (rs := [.tmp 2]) rfl rfl rfl
 refine gR 6 rfl <| qBeZ 4 9 rfl rfl rfl rfl h (fun h => ?_) fun h => ?_
 refine gR 9 rfl ?_
 subst h
 exact go_end ab (rs := [.tmp 2]) rfl rfl rfl
 refine gR 10 rfl ?_
 subst h
 exact go_end ab (rs := [.tmp 2]) rfl rfl rfl
def eC (m : Nat) (p0 : Int) (p1 : List UInt8) (a : Int) (b r0 : Bool) : Prop := ∀ (K : Ctx), aC K [] → qLG K Tryz.f98 (fun u _ => u = .bool r0) (cB (xE (xA (ai Tryz.f98)))) [.blk 0, .seq (xH (ai Tryz.f98))] 51 (mkF 51 0 [(1, .str p1), (5, .int .i64 a), (8, .int .i64 p0), (9, .bool b)]) ⟨0, []⟩
def cr (m : Nat) (p0 : Int) (p1 : List UInt8) (a : Int) (b r0 : Bool) : Prop := ∀ (K : Ctx), aC K [] → qLG K Tryz.f98 (fun u _ => u = .bool r0) (cB (xB (xE (xA (ai Tryz.f98))))) [.blk 0, .seq (xH (ai Tryz.f98))] 51 (mkF 51 0 [(1, .str p1), (5, .int .i64 a), (8, .int .i64 p0), (14, .bool b)]) ⟨0, []⟩
theorem lB (m : Nat) (p0 : Int) (p1 : List UInt8) (r0 : Bool) (h : ∃ a, pm p1 a ∧ ((p0 = 1) → eC m p0 p1 a true r0) ∧ ((p0 ≠ 1) → eC m p0 p1 a (p0 == 3) r0)) : ft p0 p1 r0 := by
 refine ⟨rfl, rfl, ?_⟩
 refine av 51 [] Tryz.func98 rfl rfl rfl (aI rfl) fun K hK => ?_
 refine gR 8 rfl ?_
 obtain ⟨a, hs7, h⟩ := h
 refine gC0 hs7 (by kernel_rfl) rfl rfl .rfl rfl <| gR 17 rfl <| qBeZ 9 10 rfl rfl rfl rfl h (fun h => ?_) fun h => ?_
 exact gR 3 rfl <| gJ (h K hK) [] [] rfl hK pq4 trivial rfl
 exact gR 6 rfl <| gJ (h K hK) [] [] rfl hK pq4 trivial rfl
theorem kX (m : Nat) (p0 : Int) (p1 : List UInt8) (a : Int) (b r0 : Bool) (h : ((b = true) → (a == 2) = r0) ∧ ((b = false) → ((p0 = 2) → cr m p0 p1 a true r0) ∧ ((p0 ≠ 2) → ((p0 = 4) → cr m p0 p1 a true r0) ∧ ((p0 ≠ 4) → ((p0 = 12) → cr m p0 p1 a true r0) ∧ ((p0 ≠ 12) → cr m p0 p1 a (p0 == 20) r0))))) : eC (m + 1) p0 p1 a b r0 := by
 intro K hK
 refine qBi 9 rfl rfl rfl h (fun h => ?_) fun h => ?_
 refine gR 11 rfl ?_
 subst h
 exact go_end ab (rs := [.tmp 4]) rfl rfl rfl
 refine gR 8 rfl <| qBeZ 14 15 rfl rfl rfl rfl h (fun h => ?_) fun h => ?_
 exact gR 3 rfl <| gJ (h K hK) [] [] rfl hK pq4 trivial rfl
 refine gR 7 rfl <| qBeZ 14 16 rfl rfl rfl rfl h (fun h => ?_) fun h => ?_
 exact gR 3 rfl <| gJ (h K hK) [] [] rfl hK pq4 trivial rfl
 refine gR 7 rfl <| qBeZ 14 17 rfl rfl rfl rfl h (fun h => ?_) fun h => ?_
 exact gR 3 rfl <| gJ (h K hK) [] [] rfl hK pq4 trivial rfl
 exact gR 6 rfl <| gJ (h K hK) [] [] rfl hK pq4 trivial rfl
theorem kU (m : Nat) (p0 : Int) (p1 : List UInt8) (a : Int) (b r0 : Bool) (h : ((b = true) → (a == 1) = r0) ∧ ((b = false) → ((p0 = 9) → ((a = 2) → true = r0) ∧ ((a ≠ 2) → (a == 4) = r0)) ∧ ((p0 ≠ 9) → ((p0 = 16) → ((a = 1) → true = r0) ∧ ((a ≠ 1) → (a == 3) = r0)) ∧ ((p0 ≠ 16) → ((p0 = 10) → (a == 5) = r0) ∧ ((p0 ≠ 10) → ((p0 = 11) → (a == 6) = r0) ∧ ((p0 ≠ 11) → ((p0 = 21) → ∃ c, ea p1 c ∧ c = r0) ∧ ((p0 ≠ 21) → (p1 == []) = r0))))))) : cr (m + 1) p0 p1 a b r0 := by
 intro K hK
 refine qBi 14 rfl rfl rfl h (fun h => ?_) fun h => ?_
 refine gR 11 rfl ?_
 subst h
 exact go_end ab (rs := [.tmp 4]) rfl rfl rfl
 refine gR 7 rfl <| qBeZ 21 22 rfl rfl rfl rfl h (fun h => ?_) fun h => ?_
 refine gR 6 rfl <| qBeZ 25 24 rfl rfl rfl rfl h (fun h => ?_) fun h => ?_
 refine gR 9 rfl ?_
 subst h
 exact go_end ab (rs := [.tmp 4]) rfl rfl rfl
 refine gR 9 rfl ?_
 subst h
 exact go_end ab (rs := [.tmp 4]) rfl rfl rfl
 refine gR 7 rfl <| qBeZ 29 30 rfl rfl rfl rfl h (fun h => ?_) fun h => ?_
 refine gR 6 rfl <| qBeZ 33 32 rfl rfl rfl rfl h (fun h => ?_) fun h => ?_
 refine gR 9 rfl ?_
 subst h
 exact go_end ab (rs := [.tmp 4]) rfl rfl rfl
 refine gR 9 rfl ?_
 subst h
 exact go_end ab (rs := [.tmp 4]) rfl rfl rfl
 refine gR 7 rfl <| qBeZ 37 38 rfl rfl rfl rfl h (fun h => ?_) fun h => ?_
 refine gR 11 rfl ?_
 subst h
 exact go_end ab (rs := [.tmp 4]) rfl rfl rfl
 refine gR 7 rfl <| qBeZ 41 42 rfl rfl rfl rfl h (fun h => ?_) fun h => ?_
 refine gR 11 rfl ?_
 subst h
 exact go_end ab (rs := [.tmp 4]) rfl rfl rfl
 refine gR 7 rfl <| qBeZ 45 46 rfl rfl rfl rfl h (fun h => ?_) fun h => ?_
 refine gR 4 rfl ?_
 obtain ⟨c, hs8, h⟩ := h
 refine gC0 hs8 (by kernel_rfl) rfl rfl .rfl rfl <| gR 6 rfl ?_
 subst h
 exact go_end ab (rs := [.tmp 4]) rfl rfl rfl
 refine gR 12 rfl ?_
 subst h
 exact go_end ab (rs := [.tmp 4]) rfl rfl rfl
def ds (m : Nat) (p0 : Tree) (p1 : Int) (a : Tree) (b r0 : Bool) : Prop := ∀ (K : Ctx), aC K [] → qLG K Tryz.f99 (fun u _ => u = .bool r0) (cB (xF (xE (xA (ai Tryz.f99))))) [.blk 0, .seq (xH (ai Tryz.f99))] 67 (mkF 67 0 [(1, .int .i64 p1), (5, .int .i64 a.kind), (13, .int .i64 p0.kind), (43, .bool b)]) ⟨0, []⟩
theorem mt (m : Nat) (p0 : Tree) (p1 : Int) (r0 : Bool) (h : ∃ b, p1 = ((b : Nat) : Int) ∧ ∃ a, p0.kids[b]? = some a ∧ ((p0.kind = 1) → ((a.kind = 2) → true = r0) ∧ ((a.kind ≠ 2) → (a.kind == 3) = r0)) ∧ ((p0.kind ≠ 1) → ((p0.kind = 2) → ((p1 = ((p0.kids.length : Int) - 1)) → ∃ c, bC a.kind c ∧ c = r0) ∧ ((p1 ≠ ((p0.kids.length : Int) - 1)) → ((p1 = ((p0.kids.length : Int) - 2)) → ∃ d, dt a.kind d ∧ d = r0) ∧ ((p1 ≠ ((p0.kids.length : Int) - 2)) → (a.kind == 4) = r0))) ∧ ((p0.kind ≠ 2) → ((p0.kind = 3) → ds m p0 p1 a true r0) ∧ ((p0.kind ≠ 3) → ((p0.kind = 4) → ds m p0 p1 a true r0) ∧ ((p0.kind ≠ 4) → ds m p0 p1 a (p0.kind == 8) r0))))) : fQ p0 p1 r0 := by
 refine ⟨rfl, rfl, ?_⟩
 refine av 67 [] Tryz.func99 rfl rfl rfl (aI rfl) fun K hK => ?_
 refine gR 3 rfl <| gFP 0 rfl rfl rfl rfl <| gR 8 rfl ?_
 obtain ⟨b, e, h⟩ := h
 refine gV 8 (.int .i64 ((b : Nat) : Int)) rfl (dc e) rfl ?_
 obtain ⟨a, hxt0_2, h⟩ := h
 refine gY (aY (bm hxt0_2) ab rfl rfl rfl rfl) rfl rfl <| gR 19 rfl <| gB 14 rfl rfl rfl ?_ ?_ <;> intro hd
 refine gT 15 rfl hd rfl ?_
 replace hd := (eq_of_beq hd)
 replace h := h.1 hd
 refine gR 6 rfl <| gB 18 rfl rfl rfl ?_ ?_ <;> intro hd
 refine gT 17 rfl hd rfl ?_
 replace hd := (eq_of_beq hd)
 replace h := h.1 hd
 refine gR 9 rfl ?_
 subst h
 exact go_end ab (rs := [.tmp 4]) rfl rfl rfl
 refine gF 17 rfl hd rfl ?_
 replace hd := (ne_of_beq_false hd)
 replace h := h.2 hd
 refine gR 9 rfl ?_
 subst h
 exact go_end ab (rs := [.tmp 4]) rfl rfl rfl
 refine gF 15 rfl hd rfl ?_
 replace hd := (ne_of_beq_false hd)
 replace h := h.2 hd
 refine gR 7 rfl <| gB 22 rfl rfl rfl ?_ ?_ <;> intro hd
 refine gT 23 rfl hd rfl ?_
 replace hd := (eq_of_beq hd)
 replace h := h.1 hd
 refine gR 13 rfl <| gV 28 (.int .i64 (p0.kids.length : Int)) rfl (aZ (bp _)) rfl <| gLB 27 rfl (bp _) fun hl17 => gR 1 rfl <| gV 29 (.int .i64 ((p0.kids.length : Int) - 1)) rfl (aL (by have := hl17; omega) rfl) rfl <| gR 4 rfl <| gB 25 rfl rfl rfl ?_ ?_ <;> intro hd
 refine gT 30 rfl hd rfl ?_
 replace hd := (eq_of_beq hd)
 replace h := h.1 hd
 refine gR 4 rfl ?_
 obtain ⟨c, hs18, h⟩ := h
 refine gC0 hs18 (by kernel_rfl) rfl rfl .rfl rfl <| gR 8 rfl ?_
 subst h
 exact go_end ab (rs := [.tmp 4]) rfl rfl rfl
 refine gF 30 rfl hd rfl ?_
 replace hd := (ne_of_beq_false hd)
 replace h := h.2 hd
 refine gR 6 rfl <| gV 36 (.int .i64 (p0.kids.length : Int)) rfl (aZ (bp _)) rfl <| gR 1 rfl <| gV 37 (.int .i64 ((p0.kids.length : Int) - 2)) rfl (aL (by have := hl17; omega) rfl) rfl <| gR 4 rfl <| gB 33 rfl rfl rfl ?_ ?_ <;> intro hd
 refine gT 38 rfl hd rfl ?_
 replace hd := (eq_of_beq hd)
 replace h := h.1 hd
 refine gR 4 rfl ?_
 obtain ⟨d, hs19, h⟩ := h
 refine gC0 hs19 (by kernel_rfl) rfl rfl .rfl rfl <| gR 8 rfl ?_
 subst h
 exact go_end ab (rs := [.tmp 4]) rfl rfl rfl
 refine gF 38 rfl hd rfl ?_
 replace hd := (ne_of_beq_false hd)
 replace h := h.2 hd
 refine gR 14 rfl ?_
 subst h
 exact go_end ab (rs := [.tmp 4]) rfl rfl rfl
 refine gF 23 rfl hd rfl ?_
 replace hd := (ne_of_beq_false hd)
 replace h := h.2 hd
 refine gR 8 rfl <| gB 43 rfl rfl rfl ?_ ?_ <;> intro hd
 refine gT 44 rfl hd rfl ?_
 replace hd := (eq_of_beq hd)
 replace h := h.1 hd
 exact gR 3 rfl <| gJ (h K hK) [] [] rfl hK pq4 trivial rfl
 refine gF 44 rfl hd rfl ?_
 replace hd := (ne_of_beq_false hd)
 replace h := h.2 hd
 refine gR 7 rfl <| gB 43 rfl rfl rfl ?_ ?_ <;> intro hd
 refine gT 45 rfl hd rfl ?_
 replace hd := (eq_of_beq hd)
 replace h := h.1 hd
 exact gR 3 rfl <| gJ (h K hK) [] [] rfl hK pq4 trivial rfl
 refine gF 45 rfl hd rfl ?_
 replace hd := (ne_of_beq_false hd)
 replace h := h.2 hd
 exact gR 6 rfl <| gJ (h K hK) [] [] rfl hK pq4 trivial rfl
theorem lA (m : Nat) (p0 : Tree) (p1 : Int) (a : Tree) (c r0 : Bool) (h : ((c = true) → ∃ d, dt a.kind d ∧ d = r0) ∧ ((c = false) → ((p0.kind = 16) → (a.kind == 17) = r0) ∧ ((p0.kind ≠ 16) → ((p0.kind = 21) → ∃ b, eT a.kind b ∧ ((b = true) → true = r0) ∧ ((b = false) → ((p1 = 0) → (a.kind == 21) = r0) ∧ ((p1 ≠ 0) → false = r0))) ∧ ((p0.kind ≠ 21) → ∃ e, bC a.kind e ∧ e = r0)))) : ds (m + 1) p0 p1 a c r0 := by
 intro K hK
 refine qBi 43 rfl rfl rfl h (fun h => ?_) fun h => ?_
 refine gR 4 rfl ?_
 obtain ⟨d, hs20, h⟩ := h
 refine gC0 hs20 (by kernel_rfl) rfl rfl .rfl rfl <| gR 6 rfl ?_
 subst h
 exact go_end ab (rs := [.tmp 4]) rfl rfl rfl
 refine gR 7 rfl <| qBeZ 49 50 rfl rfl rfl rfl h (fun h => ?_) fun h => ?_
 refine gR 11 rfl ?_
 subst h
 exact go_end ab (rs := [.tmp 4]) rfl rfl rfl
 refine gR 7 rfl <| qBeZ 53 54 rfl rfl rfl rfl h (fun h => ?_) fun h => ?_
 refine gR 4 rfl ?_
 obtain ⟨b, hs21, h⟩ := h
 refine gC0 hs21 (by kernel_rfl) rfl rfl .rfl rfl <| gR 1 rfl <| qBiZ 57 56 rfl rfl rfl rfl h (fun h => ?_) fun h => ?_
 refine gR 13 rfl ?_
 subst h
 exact go_end ab (rs := [.tmp 4]) rfl rfl rfl
 refine gR 3 rfl <| qBeZ 60 59 rfl rfl rfl rfl h (fun h => ?_) fun h => ?_
 refine gR 10 rfl ?_
 subst h
 exact go_end ab (rs := [.tmp 4]) rfl rfl rfl
 refine gR 10 rfl ?_
 subst h
 exact go_end ab (rs := [.tmp 4]) rfl rfl rfl
 refine gR 7 rfl ?_
 obtain ⟨e, hs22, h⟩ := h
 refine gC0 hs22 (by kernel_rfl) rfl rfl .rfl rfl <| gR 4 rfl ?_
 subst h
 exact go_end ab (rs := [.tmp 4]) rfl rfl rfl
def df (m : Nat) (p0 : Tree) (a : Nat) (r0 : Bool) : Prop := ∀ (K : Ctx) (j1 : Nat), aC K [] → m ≤ j1 → qLG K Tryz.f66 (fun u _ => u = .bool r0) (xG (xA (ai Tryz.f66))) [.loop (xG (xA (ai Tryz.f66))) j1, .blk 0, .seq (xH (ai Tryz.f66))] 38 (mkF 38 0 [(1, .box (cN p0) 0), (21, .row 4 (kidsV p0.kids)), (22, .int .i64 (p0.kids.length : Int)), (23, .int .i64 (a : Int))]) ⟨0, []⟩
theorem lf (m : Nat) (p0 : Tree) (r0 : Bool) (h : ∃ a, fM p0.kind (p0.kids.length : Int) a ∧ ((a < 0) → false = r0) ∧ ((¬ a < 0) → ∃ b, ft p0.kind p0.text b ∧ ((b = false) → false = r0) ∧ ((b = true) → df m p0 0 r0))) : cD p0 r0 := by
 refine ⟨rfl, rfl, ?_⟩
 refine av 38 [] Tryz.func66 rfl rfl rfl (aI rfl) fun K hK => ?_
 refine gR 3 rfl <| gFP 0 rfl rfl rfl rfl <| gR 11 rfl <| gV 9 (.int .i64 (p0.kids.length : Int)) rfl (aZ (bp _)) rfl <| gLB 8 rfl (bp _) fun hl11 => ?_
 obtain ⟨a, hs12, h⟩ := h
 refine gC0 hs12 (by kernel_rfl) rfl rfl .rfl rfl <| gR 2 rfl <| gB 12 rfl rfl rfl ?_ ?_ <;> intro hd
 refine gT 11 rfl hd rfl ?_
 replace hd := (of_decide_eq_true hd)
 replace h := h.1 hd
 refine gR 17 rfl ?_
 subst h
 exact go_end ab (rs := [.tmp 2]) rfl rfl rfl
 refine gF 11 rfl hd rfl ?_
 replace hd := (of_decide_eq_false hd)
 replace h := h.2 hd
 refine gR 4 rfl ?_
 obtain ⟨b, hs13, h⟩ := h
 refine gC0 hs13 (by kernel_rfl) rfl rfl .rfl rfl <| gR 4 rfl <| gB 19 rfl rfl rfl ?_ ?_ <;> intro hd
 replace hd := (dg hd)
 replace h := h.1 hd
 refine gR 8 rfl ?_
 subst h
 exact go_end ab (rs := [.tmp 2]) rfl rfl rfl
 replace hd := (de hd)
 replace h := h.2 hd
 exact gR 9 rfl <| gV 22 (.int .i64 (p0.kids.length : Int)) rfl (aZ (bp _)) rfl <| gR 4 rfl <| go_loop m <| gJ (h K _ hK (by omega)) [] [] rfl hK pq4 trivial rfl
theorem gw (m : Nat) (p0 : Tree) (a : Nat) (r0 : Bool) (h : ((a < p0.kids.length) → ∃ d, p0.kids[a]? = some d ∧ ∃ b, fQ p0 (a : Int) b ∧ ((b = false) → false = r0) ∧ ((b = true) → ∃ c, cD d c ∧ ((c = false) → false = r0) ∧ ((c = true) → a + 1 ≤ 9223372036854775807 ∧ df m p0 (a + 1) r0))) ∧ ((¬ a < p0.kids.length) → true = r0)) : df (m + 1) p0 a r0 := by
 intro K j1 hK hj1
 obtain ⟨j1, rfl⟩ : ∃ j, j1 = j + 1 := ⟨j1 - 1, by omega⟩
 refine gR 6 rfl <| gB 24 rfl rfl rfl ?_ ?_ <;> intro hd
 replace hd := (fi hd)
 replace h := h.1 hd
 refine gR 8 rfl ?_
 obtain ⟨d, hxt1_1, h⟩ := h
 refine gY (aY (bm hxt1_1) ab rfl rfl rfl rfl) rfl rfl <| gR 10 rfl ?_
 obtain ⟨b, hs14, h⟩ := h
 refine gC0 hs14 (by kernel_rfl) rfl rfl .rfl rfl <| gR 2 rfl <| gB 32 rfl rfl rfl ?_ ?_ <;> intro hd
 refine gT 31 rfl hd rfl ?_
 replace hd := (dg hd)
 replace h := h.1 hd
 refine gR 15 rfl <| go_xloopR <| gR 2 rfl ?_
 subst h
 exact go_end ab (rs := [.tmp 2]) rfl rfl rfl
 refine gF 31 rfl hd rfl ?_
 replace hd := (de hd)
 replace h := h.2 hd
 refine gR 1 rfl ?_
 obtain ⟨c, hs15, h⟩ := h
 refine gC0 hs15 (by kernel_rfl) rfl rfl .rfl rfl <| gR 4 rfl <| gB 36 rfl rfl rfl ?_ ?_ <;> intro hd
 replace hd := (dg hd)
 replace h := h.1 hd
 refine gR 9 rfl <| go_xloopR <| gR 2 rfl ?_
 subst h
 exact go_end ab (rs := [.tmp 2]) rfl rfl rfl
 replace hd := (de hd)
 replace h := h.2 hd
 refine gR 5 rfl ?_
 obtain ⟨hb, h⟩ := h
 exact gR 1 rfl <| gV 37 (.int .i64 ((a + 1 : Nat) : Int)) rfl (aL (by omega) (by omega)) rfl <| gR 2 rfl <| go_xloop <| gJ (h K _ hK (by omega)) [] [] rfl hK pq4 trivial rfl
 replace hd := (fq hd)
 replace h := h.2 hd
 refine gR 3 rfl <| go_xloopE <| gR 8 rfl ?_
 subst h
 exact go_end ab (rs := [.tmp 2]) rfl rfl rfl
end Go.Proofs.YthnohcipianijaaGreatDoor
namespace Go.Proofs.YthnohcipianijaaGreatDoor
open Go.RowKit Lx Sx
set_option maxRecDepth 100000
set_option maxHeartbeats 4000000
structure GPlace where
 Module : Int
 Path : (List Int)
abbrev GPlace.c (x : GPlace) : List V := [.int .i64 x.Module, .row 1 (List.map (V.int .i64) x.Path)]
abbrev GPlace.w (x : GPlace) : V := .agg x.c
structure GTarget where
 Use : GPlace
 Module : Int
 Def : Int
 Free : Bool
abbrev GTarget.c (x : GTarget) : List V := [.int .i64 x.Use.Module, .row 1 (List.map (V.int .i64) x.Use.Path), .int .i64 x.Module, .int .i64 x.Def, .bool x.Free]
abbrev GTarget.w (x : GTarget) : V := .agg x.c
def cq (p0 : List UInt8) (p1 r0 : Int) : Prop := qS 163 [.str p0, .int .u8 p1] (.int .i64 r0)
def fO (p0 : List Tree) (r0 : Bool) : Prop := qS 67 [.row 4 (kidsV p0)] (.bool r0)
def gs (p0 : List Tree) (p1 : Int) (p2 : List UInt8) (r0 r1 : Int) (r2 : Bool) : Prop := qS 100 [.row 4 (kidsV p0), .int .i64 p1, .str p2] (.tup [.int .i64 r0, .int .i64 r1, .bool r2])
def fJ (p0 : List Tree) (r0 : List GTarget) : Prop := qS 43 [.row 4 (kidsV p0)] (.row 5 (List.map GTarget.w r0))
def eV (p0 : List Tree) (p1 : List UInt8) (r0 : Int) : Prop := qS 149 [.row 4 (kidsV p0), .str p1] (.int .i64 r0)
def fU (p0 : Tree) (p1 : List UInt8) (r0 : Bool) : Prop := qS 179 [.agg (cN p0), .box [.str p1] 0] (.bool r0)
def bS (g : List Tree) (a : Int) (e : List Int) (c : List GTarget) (p1 : Tree) (i : List Tree) (b : Int) (f : List Int) (d : List GTarget) : Prop := cP [] Tryz.prog 68 [.ptr 0 0, .agg (cN p1)] ⟨3, [(2, .row 117 5 (List.map GTarget.w c)), (1, .row 3 1 (List.map (V.int .i64) e)), (0, .var 114 [.row 4 (kidsV g), .int .i64 a, .sl 1, .sl 2])]⟩ (fun u G => u = .tup [] ∧ G = ⟨3, [(2, .row 117 5 (List.map GTarget.w d)), (1, .row 3 1 (List.map (V.int .i64) f)), (0, .var 114 [.row 4 (kidsV i), .int .i64 b, .sl 1, .sl 2])]⟩)
def dz (p0 : List Tree) (a : List UInt8) (r0 : Int) : Prop := qS 178 [.row 4 (kidsV p0), .clo 179 [.box [.str a] 0]] (.int .i64 r0)
def eb (p0 r0 r1 : List UInt8) (r2 : Bool) : Prop := qS 148 [.str p0, .str [46]] (.tup [.str r0, .str r1, .bool r2])
def cF (p0 r0 r1 : List UInt8) (r2 : Bool) : Prop := qS 177 [.str p0, .str [46]] (.tup [.str r0, .str r1, .bool r2])
def bt (p0 : List UInt8) (r0 : Int) : Prop := qS 203 [.str p0, .str [46]] (.int .i64 r0)
def dm (m : Nat) (p0 : List Tree) (a : Nat) (r0 : Bool) : Prop := ∀ (K : Ctx) (j1 : Nat), aC K [] → m ≤ j1 → qLG K Tryz.f67 (fun u _ => u = .bool r0) (xG (cB (ai Tryz.f67))) [.loop (xG (cB (ai Tryz.f67))) j1, .blk 0, .seq (xA (ai Tryz.f67))] 20 (mkF 20 0 [(5, .row 4 (kidsV p0)), (6, .int .i64 (p0.length : Int)), (7, .int .i64 (a : Int))]) ⟨0, []⟩
theorem mg (m : Nat) (p0 : List Tree) (r0 : Bool) (h : dm m p0 0 r0) : fO p0 r0 := by
 refine ⟨rfl, rfl, ?_⟩
 refine av 20 [] Tryz.func67 rfl rfl rfl (aI rfl) fun K hK => ?_
 exact gR 10 rfl <| gV 6 (.int .i64 (p0.length : Int)) rfl (aZ (bp _)) rfl <| gLB 5 rfl (bp _) fun hl5 => gR 4 rfl <| go_loop m <| gJ (h K _ hK (by omega)) [] [] rfl hK pq3 trivial rfl
theorem hO (m : Nat) (p0 : List Tree) (a : Nat) (r0 : Bool) (h : ((a < p0.length) → ∃ b, p0[a]? = some b ∧ ((b.kind ≠ 1) → false = r0) ∧ ((b.kind = 1) → ∃ c, cD b c ∧ ((c = false) → false = r0) ∧ ((c = true) → a + 1 ≤ 9223372036854775807 ∧ dm m p0 (a + 1) r0))) ∧ ((¬ a < p0.length) → true = r0)) : dm (m + 1) p0 a r0 := by
 intro K j1 hK hj1
 obtain ⟨j1, rfl⟩ : ∃ j, j1 = j + 1 := ⟨j1 - 1, by omega⟩
 refine gR 6 rfl <| gB 8 rfl rfl rfl ?_ ?_ <;> intro hd
 replace hd := (fi hd)
 replace h := h.1 hd
 refine gR 7 rfl ?_
 obtain ⟨b, hxt1_1, h⟩ := h
 refine gY (aY (bm hxt1_1) ab rfl rfl rfl rfl) rfl rfl <| gR 11 rfl <| gB 14 rfl rfl rfl ?_ ?_ <;> intro hd
 refine gT 13 rfl hd rfl ?_
 replace hd := (bi hd)
 replace h := h.1 hd
 refine gR 15 rfl <| go_xloopR <| gR 2 rfl ?_
 subst h
 exact go_end ab (rs := [.tmp 2]) rfl rfl rfl
 refine gF 13 rfl hd rfl ?_
 replace hd := (aQ hd)
 replace h := h.2 hd
 refine gR 1 rfl ?_
 obtain ⟨c, hs6, h⟩ := h
 refine gC0 hs6 (by kernel_rfl) rfl rfl .rfl rfl <| gR 4 rfl <| gB 18 rfl rfl rfl ?_ ?_ <;> intro hd
 replace hd := (dg hd)
 replace h := h.1 hd
 refine gR 9 rfl <| go_xloopR <| gR 2 rfl ?_
 subst h
 exact go_end ab (rs := [.tmp 2]) rfl rfl rfl
 replace hd := (de hd)
 replace h := h.2 hd
 refine gR 5 rfl ?_
 obtain ⟨hb, h⟩ := h
 exact gR 1 rfl <| gV 19 (.int .i64 ((a + 1 : Nat) : Int)) rfl (aL (by omega) (by omega)) rfl <| gR 2 rfl <| go_xloop <| gJ (h K _ hK (by omega)) [] [] rfl hK pq3 trivial rfl
 replace hd := (fq hd)
 replace h := h.2 hd
 refine gR 3 rfl <| go_xloopE <| gR 8 rfl ?_
 subst h
 exact go_end ab (rs := [.tmp 2]) rfl rfl rfl
def dW (m : Nat) (p0 : List Tree) (a : Int) (b : List UInt8) (r0 r1 : Int) (r2 : Bool) : Prop := ∀ (K : Ctx), aC K [] → qLG K Tryz.f100 (fun u _ => u = .tup [.int .i64 r0, .int .i64 r1, .bool r2]) (xH (ai Tryz.f100)) [] 45 (mkF 45 0 [(0, .row 4 (kidsV p0)), (1, .int .i64 a), (2, .str b)]) ⟨0, []⟩
theorem mv (m : Nat) (p0 : List Tree) (p1 : Int) (p2 : List UInt8) (r0 r1 : Int) (r2 : Bool) (h : ((p1 < 0) → 0 = r0 ∧ 0 = r1 ∧ false = r2) ∧ ((¬ p1 < 0) → (((p0.length : Int) ≤ p1) → 0 = r0 ∧ 0 = r1 ∧ false = r2) ∧ ((¬ (p0.length : Int) ≤ p1) → ∃ b c a, eb p2 b c a ∧ ((a = true) → ∃ d, eV p0 b d ∧ dW m p0 d c r0 r1 r2) ∧ ((a = false) → dW m p0 p1 p2 r0 r1 r2)))) : gs p0 p1 p2 r0 r1 r2 := by
 refine ⟨rfl, rfl, ?_⟩
 refine av 45 [] Tryz.func100 rfl rfl rfl (aI rfl) fun K hK => ?_
 refine gR 13 rfl <| qBdZ 15 14 rfl rfl rfl rfl h (fun h => ?_) fun h => ?_
 refine gR 17 rfl ?_
 obtain ⟨rfl, rfl, rfl⟩ := h
 exact go_end ab (rs := [.tmp 6, .tmp 7, .tmp 8]) rfl rfl rfl
 refine gR 3 rfl <| gV 18 (.int .i64 (p0.length : Int)) rfl (aZ (bp _)) rfl <| gLB 17 rfl (bp _) fun hl13 => gR 4 rfl <| qBd 20 rfl rfl rfl h (fun h => ?_) fun h => ?_
 refine gR 10 rfl ?_
 obtain ⟨rfl, rfl, rfl⟩ := h
 exact go_end ab (rs := [.tmp 6, .tmp 7, .tmp 8]) rfl rfl rfl
 refine gR 7 rfl ?_
 obtain ⟨b, c, a, hs14, h⟩ := h
 refine gC0 hs14 (by kernel_rfl) rfl rfl .rfl rfl <| gR 14 rfl <| gB 27 rfl rfl rfl ?_ ?_ <;> intro hd
 refine gT 11 rfl hd rfl ?_
 refine gT 26 rfl hd rfl ?_
 replace h := h.1 hd
 refine gR 4 rfl ?_
 obtain ⟨d, hs15, h⟩ := h
 exact gC0 hs15 (by kernel_rfl) rfl rfl .rfl rfl <| gR 5 rfl <| gJ (h K hK) [] [] rfl hK pq3 trivial rfl
 refine gF 11 rfl hd rfl ?_
 refine gF 26 rfl hd rfl ?_
 replace h := h.2 hd
 exact gR 3 rfl <| gJ (h K hK) [] [] rfl hK pq3 trivial rfl
theorem lZ (m : Nat) (p0 : List Tree) (a : Int) (e : List UInt8) (r0 r1 : Int) (r2 : Bool) (h : ((a < 0) → 0 = r0 ∧ 0 = r1 ∧ false = r2) ∧ ((¬ a < 0) → ∃ c, a = ((c : Nat) : Int) ∧ ∃ d, p0[c]? = some d ∧ ∃ b, eV d.kids e b ∧ ((b < 0) → 0 = r0 ∧ 0 = r1 ∧ false = r2) ∧ ((¬ b < 0) → a = r0 ∧ b = r1 ∧ true = r2))) : dW (m + 1) p0 a e r0 r1 r2 := by
 intro K hK
 refine gR 7 rfl <| qBd 33 rfl rfl rfl h (fun h => ?_) fun h => ?_
 refine gR 10 rfl ?_
 obtain ⟨rfl, rfl, rfl⟩ := h
 exact go_end ab (rs := [.tmp 6, .tmp 7, .tmp 8]) rfl rfl rfl
 refine gR 7 rfl ?_
 obtain ⟨c, f, h⟩ := h
 refine gV 35 (.int .i64 ((c : Nat) : Int)) rfl (dc f) rfl ?_
 obtain ⟨d, hxt1_2, h⟩ := h
 refine gY (aY (bm hxt1_2) ab rfl rfl rfl rfl) rfl rfl <| gR 3 rfl ?_
 obtain ⟨b, hs16, h⟩ := h
 refine gC0 hs16 (by kernel_rfl) rfl rfl .rfl rfl <| gR 10 rfl <| qBd 42 rfl rfl rfl h (fun h => ?_) fun h => ?_
 refine gR 10 rfl ?_
 obtain ⟨rfl, rfl, rfl⟩ := h
 exact go_end ab (rs := [.tmp 6, .tmp 7, .tmp 8]) rfl rfl rfl
 refine gR 13 rfl ?_
 obtain ⟨rfl, rfl, rfl⟩ := h
 exact go_end ab (rs := [.tmp 6, .tmp 7, .tmp 8]) rfl rfl rfl
def dl (m : Nat) (p0 a : List Tree) (b : Int) (c : List Int) (d : List GTarget) (e : Nat) (r0 : List GTarget) : Prop := ∀ (K : Ctx) (j1 : Nat), aC K [] → m ≤ j1 → qLG K Tryz.f43 (fun u _ => u = .row 5 (List.map GTarget.w r0)) (xG (xH (ai Tryz.f43))) [.loop (xG (xH (ai Tryz.f43))) j1, .blk 0, .seq (xD (ai Tryz.f43))] 25 (mkF 25 0 [(3, .ptr 0 0), (11, .row 4 (kidsV p0)), (12, .int .i64 (p0.length : Int)), (13, .int .i64 (e : Int))]) ⟨3, [(2, .row 117 5 (List.map GTarget.w d)), (1, .row 3 1 (List.map (V.int .i64) c)), (0, .var 114 [.row 4 (kidsV a), .int .i64 b, .sl 1, .sl 2])]⟩
theorem lR (m : Nat) (p0 : List Tree) (r0 : List GTarget) (h : ∃ a, fO p0 a ∧ ((a = false) → [] = r0) ∧ ((a = true) → dl m p0 p0 0 ([] : List Int) ([] : List GTarget) 0 r0)) : fJ p0 r0 := by
 refine ⟨rfl, rfl, ?_⟩
 refine av 25 [] Tryz.func43 rfl rfl rfl (aI rfl) fun K hK => ?_
 refine gR 9 rfl ?_
 obtain ⟨a, hs7, h⟩ := h
 refine gC0 hs7 (by kernel_rfl) rfl rfl .rfl rfl <| gR 3 rfl <| gB 8 rfl rfl rfl ?_ ?_ <;> intro hd
 replace hd := (dg hd)
 replace h := h.1 hd
 refine gR 8 rfl ?_
 subst h
 exact go_sub (F' := (mkF 25 0 [(2, .row 5 (List.map GTarget.w []))])) (H' := ⟨0, []⟩) [] [] rfl hK ⟨⟨_, rfl, (.nil 5)⟩, trivial⟩ trivial rfl <| go_end ab (rs := [.tmp 2]) rfl rfl rfl
 replace hd := (de hd)
 replace h := h.2 hd
 exact gR 16 rfl <| gV 12 (.int .i64 (p0.length : Int)) rfl (aZ (bp _)) rfl <| gLB 11 rfl (bp _) fun hl8 => gR 4 rfl <| go_loop m <| gNC 0 2 3 1 rfl rfl rfl rfl <| gNC 0 3 117 5 rfl rfl rfl rfl <| gJ (h K _ hK (by omega)) [0, 1, 2] [] rfl hK pq4 ⟨⟨_, rfl, rfl, rfl, rfl⟩, ⟨_, rfl, rfl, rfl, rfl⟩, (pqo1 rfl rfl)⟩ rfl
theorem ij (m : Nat) (p0 k : List Tree) (l : Int) (e : List Int) (d : List GTarget) (a : Nat) (r0 : List GTarget) (h : ((a < p0.length) → ∃ f, p0[a]? = some f ∧ ∃ g i b c, bS k (a : Int) e d f g i b c ∧ a + 1 ≤ 9223372036854775807 ∧ dl m p0 g i b c (a + 1) r0) ∧ ((¬ a < p0.length) → d = r0)) : dl (m + 1) p0 k l e d a r0 := by
 intro K j1 hK hj1
 obtain ⟨j1, rfl⟩ : ∃ j, j1 = j + 1 := ⟨j1 - 1, by omega⟩
 refine gR 6 rfl <| gB 14 rfl rfl rfl ?_ ?_ <;> intro hd
 replace hd := (fi hd)
 replace h := h.1 hd
 refine gR 8 rfl ?_
 obtain ⟨f, hxt1_1, h⟩ := h
 refine gY (aY (bm hxt1_1) ab rfl rfl rfl rfl) rfl rfl <| gR 15 rfl ?_
 obtain ⟨g, i, b, c, hs9, h⟩ := h
 refine gC hs9 [0, 1, 2] (by kernel_rfl) rfl rfl .rfl ⟨⟨_, rfl, ⟨rfl, rfl, (bc _ GTarget.w (fun _ => rfl) d).symm⟩⟩, ⟨⟨_, rfl, ⟨rfl, rfl, (bc _ (V.int .i64) (fun _ => rfl) e).symm⟩⟩, ⟨⟨_, rfl, ⟨rfl, aB.rfl⟩⟩, trivial⟩⟩⟩ rfl ?_
 rintro _ _ ⟨rfl, rfl⟩
 refine gHR 5 (List.map (V.int .i64) b) rfl (bc _ (V.int .i64) (fun _ => rfl) b) rfl <| gHR 6 (List.map GTarget.w c) rfl (bc _ GTarget.w (fun _ => rfl) c) rfl <| gR 4 rfl ?_
 obtain ⟨hb, h⟩ := h
 exact gR 1 rfl <| gV 22 (.int .i64 ((a + 1 : Nat) : Int)) rfl (aL (by omega) (by omega)) rfl <| gR 2 rfl <| go_xloop <| gJ (h K _ hK (by omega)) [0, 5, 6] [] rfl hK pq4 ⟨⟨_, rfl, rfl, rfl, (bc _ GTarget.w (fun _ => rfl) c).symm⟩, ⟨_, rfl, rfl, rfl, (bc _ (V.int .i64) (fun _ => rfl) b).symm⟩, (pqo1 rfl rfl)⟩ rfl
 replace hd := (fq hd)
 replace h := h.2 hd
 refine gR 3 rfl <| go_xloopE <| gR 10 rfl <| gFR 2 rfl (lP _ (fun _ => rfl) _) rfl rfl ?_
 subst h
 exact go_end ab (rs := [.tmp 2]) rfl rfl rfl
theorem nq (m : Nat) (p0 : List Tree) (p1 : List UInt8) (r0 : Int) (h : ∃ a, dz p0 p1 a ∧ a = r0) : eV p0 p1 r0 := by
 refine ⟨rfl, rfl, ?_⟩
 refine av 8 [] Tryz.func149 rfl rfl rfl (aI rfl) fun K hK => ?_
 refine gR 9 rfl <| gFP 0 rfl rfl rfl rfl <| gY (yMF rfl) rfl rfl ?_
 obtain ⟨a, hs2, h⟩ := h
 refine gC0 hs2 (by kernel_rfl) rfl rfl .rfl rfl <| gR 4 rfl ?_
 subst h
 exact go_end ab (rs := [.tmp 4]) rfl rfl rfl
theorem me (m : Nat) (p0 : Tree) (p1 : List UInt8) (r0 : Bool) (h : (p0.text == p1) = r0) : fU p0 p1 r0 := by
 refine ⟨rfl, rfl, ?_⟩
 refine av 8 [] Tryz.func179 rfl rfl rfl (aI rfl) fun K hK => ?_
 refine gR 3 rfl <| gFP 0 rfl rfl rfl rfl <| gR 13 rfl ?_
 subst h
 exact go_end ab (rs := [.tmp 3]) rfl rfl rfl
def bL (m : Nat) (g : List Tree) (a : Int) (e : List Int) (c : List GTarget) (p1 : Tree) (i : Bool) (j : List Tree) (b : Int) (f : List Int) (d : List GTarget) : Prop := ∀ (K : Ctx), aC K [0] → qLG K Tryz.f68 (fun u G => u = .tup [] ∧ G = ⟨3, [(2, .row 117 5 (List.map GTarget.w d)), (1, .row 3 1 (List.map (V.int .i64) f)), (0, .var 114 [.row 4 (kidsV j), .int .i64 b, .sl 1, .sl 2])]⟩) (xC (cB (ai Tryz.f68))) [.seq (xA (ai Tryz.f68))] 94 (mkF 94 0 [(0, .ptr 0 0), (3, .box (cN p1) 0), (17, .bool i)]) ⟨3, [(2, .row 117 5 (List.map GTarget.w c)), (1, .row 3 1 (List.map (V.int .i64) e)), (0, .var 114 [.row 4 (kidsV g), .int .i64 a, .sl 1, .sl 2])]⟩
def dZ (m : Nat) (g : List Tree) (a : Int) (e : List Int) (c : List GTarget) (p1 : Tree) (i j : Int) (k : Bool) (l : List Int) (n : List Tree) (b : Int) (f : List Int) (d : List GTarget) : Prop := ∀ (K : Ctx), aC K [0] → Go Tryz.prog K (bodyPost Tryz.prog Tryz.f68 (SP K (fun u G => u = .tup [] ∧ G = ⟨3, [(2, .row 117 5 (List.map GTarget.w d)), (1, .row 3 1 (List.map (V.int .i64) f)), (0, .var 114 [.row 4 (kidsV n), .int .i64 b, .sl 1, .sl 2])]⟩))) (.ex .normal) [.seq (xA (cT (xC (cB (ai Tryz.f68))))), .seq (xA (ai Tryz.f68))] 94 (mkF 94 0 [(0, .ptr 0 0), (3, .box (cN p1) 0), (4, .int .i64 i), (5, .int .i64 j), (6, .bool k), (7, .ptr 1 0)]) ⟨4, [(3, .row 117 5 (List.map GTarget.w c)), (2, .row 3 1 (List.map (V.int .i64) e)), (1, .var 96 [.int .i64 a, .row 1 (List.map (V.int .i64) l)]), (0, .var 114 [.row 4 (kidsV g), .int .i64 a, .sl 2, .sl 3])]⟩
def bk (m : Nat) (p1 : Tree) (d : List GTarget) (e : List Tree) (f : Int) (g : List Int) (i : Nat) (j : List Tree) (a : Int) (c : List Int) (b : List GTarget) : Prop := ∀ (K : Ctx) (j1 : Nat), aC K [0] → m ≤ j1 → qLG K Tryz.f68 (fun u G => u = .tup [] ∧ G = ⟨3, [(2, .row 117 5 (List.map GTarget.w b)), (1, .row 3 1 (List.map (V.int .i64) c)), (0, .var 114 [.row 4 (kidsV j), .int .i64 a, .sl 1, .sl 2])]⟩) (cL (cK (xH (ai Tryz.f68)))) [.loop (cL (cK (xH (ai Tryz.f68)))) j1, .blk 0] 94 (mkF 94 0 [(0, .ptr 0 0), (59, .row 4 (kidsV p1.kids)), (60, .int .i64 (p1.kids.length : Int)), (61, .int .i64 (i : Int))]) ⟨3, [(2, .row 117 5 (List.map GTarget.w d)), (1, .row 3 1 (List.map (V.int .i64) g)), (0, .var 114 [.row 4 (kidsV e), .int .i64 f, .sl 1, .sl 2])]⟩
theorem ir (m : Nat) (g : List Tree) (c : Int) (b : List Int) (a : List GTarget) (p1 : Tree) (i : List Tree) (d : Int) (f : List Int) (e : List GTarget) (h : ((p1.kind = 16) → bL m g c b a p1 true i d f e) ∧ ((p1.kind ≠ 16) → bL m g c b a p1 (p1.kind == 9) i d f e)) : bS g c b a p1 i d f e := by
 refine av 94 [0] Tryz.func68 rfl rfl rfl (aI rfl) fun K hK => ?_
 refine gR 3 rfl <| gFP 3 rfl rfl rfl rfl <| gR 9 rfl <| qBeZ 13 12 rfl rfl rfl rfl h (fun h => ?_) fun h => ?_
 exact gR 6 rfl <| gJ (h K hK) [0, 1, 2] [0] rfl hK pq3 ⟨⟨_, rfl, rfl, rfl, (bc _ GTarget.w (fun _ => rfl) a).symm⟩, ⟨_, rfl, rfl, rfl, (bc _ (V.int .i64) (fun _ => rfl) b).symm⟩, (pqo1 rfl rfl)⟩ rfl
 exact gR 6 rfl <| gJ (h K hK) [0, 1, 2] [0] rfl hK pq3 ⟨⟨_, rfl, rfl, rfl, (bc _ GTarget.w (fun _ => rfl) a).symm⟩, ⟨_, rfl, rfl, rfl, (bc _ (V.int .i64) (fun _ => rfl) b).symm⟩, (pqo1 rfl rfl)⟩ rfl
theorem hU (m : Nat) (g : List Tree) (c : Int) (a : List Int) (b : List GTarget) (p1 : Tree) (k : Bool) (l : List Tree) (d : Int) (f : List Int) (e : List GTarget) (h : ((k = true) → ∃ n o p, gs g c p1.text n o p ∧ ∃ q, eG a q ∧ dZ m g c a b p1 n o p q l d f e) ∧ ((k = false) → bk m p1 b g c a 0 l d f e)) : bL (m + 1) g c a b p1 k l d f e := by
 intro K hK
 refine gB 17 rfl rfl rfl ?_ ?_ <;> intro hd
 replace h := h.1 hd
 refine gR 2 rfl <| gDs [0] 10 18 rfl (by kernel_rfl) (by kernel_rfl) <| gDr [(0, 2), (1, 2), (2, 2), (3, 3), (4, 2), (5, 2), (6, 2), (7, 3), (8, 0), (9, 0)] (by kernel_rfl) rfl rfl ?_
 obtain ⟨n, o, p, hs21, h⟩ := h
 refine aj 10 hs21 (by kernel_rfl) rfl (by kernel_rfl) rfl rfl .rfl rfl rfl ?_
 refine gDr [(11, 1), (12, 2), (13, 2), (14, 2), (15, 1), (16, 1), (17, 1)] (by kernel_rfl) rfl rfl <| gDe (by kernel_rfl) <| gR 2 rfl <| gDs [0] 11 12 rfl (by kernel_rfl) (by kernel_rfl) <| gDr [(0, 2), (1, 2), (2, 2), (3, 3), (4, 2), (5, 2), (6, 2), (7, 3)] (by kernel_rfl) rfl rfl ?_
 obtain ⟨q, hs22, h⟩ := h
 apply ah (i := 8) (j := 10) (by kernel_rfl) rfl rfl rfl rfl
 exact (ak (L' := [0]) (by kernel_rfl) rfl rfl (nf (H := ⟨3, [(2, .row 117 5 (List.map GTarget.w b)), (1, .row 3 1 (List.map (V.int .i64) a)), (0, .var 114 [.row 4 (kidsV g), .int .i64 c, .sl 1, .sl 2])]⟩) hs22 [1] .rfl ⟨⟨_, rfl, ⟨rfl, rfl, (bc _ (V.int .i64) (fun _ => rfl) a).symm⟩⟩, trivial⟩ rfl [0] rfl) (.inl rfl))
 exact (ac ab rfl rfl)
 exact gHR 1 (List.map (V.int .i64) a) rfl (bc _ (V.int .i64) (fun _ => rfl) a) rfl <| gDr [(9, 2), (10, 0), (11, 1)] (by kernel_rfl) rfl rfl <| gDe (by kernel_rfl) <| gJ (h K hK) [0, 4, 1, 2] [0] rfl hK pq6 ⟨⟨_, rfl, rfl, rfl, (bc _ GTarget.w (fun _ => rfl) b).symm⟩, ⟨_, rfl, rfl, rfl, (bc _ (V.int .i64) (fun _ => rfl) a).symm⟩, (pqo2 rfl rfl rfl rfl)⟩ rfl
 refine gDC 8 hs22 [1] (by kernel_rfl) rfl (by kernel_rfl) rfl rfl .rfl ⟨⟨_, rfl, ⟨rfl, rfl, (bc _ (V.int .i64) (fun _ => rfl) a).symm⟩⟩, trivial⟩ (by kernel_rfl) rfl ?_
 rintro _ _ ⟨rfl, rfl⟩
 exact gHR 1 (List.map (V.int .i64) a) rfl (bc _ (V.int .i64) (fun _ => rfl) a) rfl <| gDr [(9, 0), (11, 1)] (by kernel_rfl) rfl rfl <| gDe (by kernel_rfl) <| gJ (h K hK) [0, 3, 1, 2] [0] rfl hK pq6 ⟨⟨_, rfl, rfl, rfl, (bc _ GTarget.w (fun _ => rfl) b).symm⟩, ⟨_, rfl, rfl, rfl, (bc _ (V.int .i64) (fun _ => rfl) a).symm⟩, (pqo2 rfl rfl rfl rfl)⟩ rfl
 replace h := h.2 hd
 exact gR 8 rfl <| gV 60 (.int .i64 (p1.kids.length : Int)) rfl (aZ (bp _)) rfl <| gLB 59 rfl (bp _) fun hl23 => gR 4 rfl <| go_loop m <| gJ (h K _ hK (by omega)) [0, 1, 2] [0] rfl hK pq4 ⟨⟨_, rfl, rfl, rfl, (bc _ GTarget.w (fun _ => rfl) b).symm⟩, ⟨_, rfl, rfl, rfl, (bc _ (V.int .i64) (fun _ => rfl) a).symm⟩, (pqo1 rfl rfl)⟩ rfl
theorem im (m : Nat) (l : List Tree) (a : Int) (c : List Int) (b : List GTarget) (p1 : Tree) (e f : Int) (g : Bool) (i : List Int) (n : List Tree) (d : Int) (k : List Int) (j : List GTarget) (h : (b ++ [(GTarget.mk (GPlace.mk a i) e f (!g))]).length ≤ 1000000000 ∧ bk m p1 (b ++ [(GTarget.mk (GPlace.mk a i) e f (!g))]) l a c 0 n d k j) : dZ (m + 1) l a c b p1 e f g i n d k j := by
 intro K hK
 refine gR 1 rfl <| gDs [0, 1] 15 16 rfl (by kernel_rfl) (by kernel_rfl) <| gDr [(0, 2), (1, 2), (2, 2), (3, 2), (4, 3), (5, 3), (6, 2), (7, 2), (8, 0), (9, 0), (10, 0), (11, 0)] (by kernel_rfl) rfl rfl ?_
 obtain ⟨hb, h⟩ := h
 refine lm 12 (.repl 3 (.row 117 5 (List.map GTarget.w (b ++ [(GTarget.mk (GPlace.mk a i) e f (!g))])))) rfl (by kernel_rfl) (kx ab rfl rfl rfl rfl rfl (apM GTarget.w b (GTarget.mk (GPlace.mk a i) e f (!g))) (by rw [kw]; exact hb)) (okR rfl) rfl (by kernel_rfl) rfl rfl ?_
 exact gDr [(13, 0), (14, 0), (15, 1)] (by kernel_rfl) rfl rfl <| gDe (by kernel_rfl) <| gR 6 rfl <| gV 60 (.int .i64 (p1.kids.length : Int)) rfl (aZ (bp _)) rfl <| gLB 59 rfl (bp _) fun hl24 => gR 4 rfl <| go_loop m <| gJ (h K _ hK (by omega)) [0, 2, 5] [0] rfl hK pq4 ⟨⟨_, rfl, rfl, rfl, (bc _ GTarget.w (fun _ => rfl) (b ++ [(GTarget.mk (GPlace.mk a i) e f (!g))])).symm⟩, ⟨_, rfl, rfl, rfl, (bc _ (V.int .i64) (fun _ => rfl) c).symm⟩, (pqo1 rfl rfl)⟩ rfl
theorem dF (m : Nat) (p1 : Tree) (i : List GTarget) (l : List Tree) (n : Int) (d : List Int) (a : Nat) (o : List Tree) (c : Int) (f : List Int) (e : List GTarget) (h : ((a < p1.kids.length) → ∃ p, p1.kids[a]? = some p ∧ (d ++ [(a : Int)]).length ≤ 1000000000 ∧ ∃ q r b k, bS l n (d ++ [(a : Int)]) i p q r b k ∧ ∃ g, ((b.length : Int) - 1) = ((g : Nat) : Int) ∧ g ≤ b.length ∧ a + 1 ≤ 9223372036854775807 ∧ bk m p1 k q r (b.take g) (a + 1) o c f e) ∧ ((¬ a < p1.kids.length) → l = o ∧ n = c ∧ d = f ∧ i = e)) : bk (m + 1) p1 i l n d a o c f e := by
 intro K j1 hK hj1
 obtain ⟨j1, rfl⟩ : ∃ j, j1 = j + 1 := ⟨j1 - 1, by omega⟩
 refine gR 6 rfl <| gB 62 rfl rfl rfl ?_ ?_ <;> intro hd
 replace hd := (fi hd)
 replace h := h.1 hd
 refine gR 8 rfl ?_
 obtain ⟨p, hxt3_1, h⟩ := h
 refine gY (aY (bm hxt3_1) ab rfl rfl rfl rfl) rfl rfl <| gR 15 rfl ?_
 obtain ⟨hb, h⟩ := h
 refine gDo (.repl 1 (.row 3 1 (List.map (V.int .i64) (d ++ [(a : Int)])))) (kx ab rfl rfl rfl rfl rfl (apM (V.int .i64) d (a : Int)) (by rw [kw]; exact hb)) (okR rfl) rfl rfl rfl <| gR 9 rfl ?_
 obtain ⟨q, r, b, k, hs25, h⟩ := h
 refine gC hs25 [0, 5, 2] (by kernel_rfl) rfl rfl .rfl ⟨⟨_, rfl, ⟨rfl, rfl, (bc _ GTarget.w (fun _ => rfl) i).symm⟩⟩, ⟨⟨_, rfl, ⟨rfl, rfl, (bc _ (V.int .i64) (fun _ => rfl) (d ++ [(a : Int)])).symm⟩⟩, ⟨⟨_, rfl, ⟨rfl, aB.rfl⟩⟩, trivial⟩⟩⟩ rfl ?_
 rintro _ _ ⟨rfl, rfl⟩
 refine gHR 7 (List.map (V.int .i64) b) rfl (bc _ (V.int .i64) (fun _ => rfl) b) rfl <| gHR 8 (List.map GTarget.w k) rfl (bc _ GTarget.w (fun _ => rfl) k) rfl <| gR 2 rfl <| gDs [0] 14 15 rfl (by kernel_rfl) (by kernel_rfl) <| gDr [(0, 2), (1, 2), (2, 2), (3, 2), (4, 3), (5, 0), (6, 0), (7, 0), (8, 0), (9, 0)] (by kernel_rfl) rfl rfl <| gV 88 (.int .i64 (b.length : Int)) rfl (aZ (kw (V.int .i64) _)) rfl <| gLO 7 rfl (kw (V.int .i64) _) fun hl29 => gDr [(10, 0)] (by kernel_rfl) rfl rfl <| gV 89 (.int .i64 ((b.length : Int) - 1)) rfl (aL (by have := hl29; omega) rfl) rfl ?_
 obtain ⟨g, s, h⟩ := h
 refine gV 89 (.int .i64 ((g : Nat) : Int)) rfl (dc s) rfl ?_
 obtain ⟨hb, h⟩ := h
 refine lm 11 (.repl 7 (.row 3 1 (List.map (V.int .i64) (b.take g)))) rfl (by kernel_rfl) (dTr ab rfl rfl rfl rfl (by rw [kw]; exact hb) (wU _ _ _)) (okR rfl) rfl (by kernel_rfl) rfl rfl ?_
 refine gDr [(12, 0), (13, 0), (14, 1)] (by kernel_rfl) rfl rfl <| gDe (by kernel_rfl) <| gR 3 rfl ?_
 obtain ⟨hb, h⟩ := h
 exact gR 1 rfl <| gV 93 (.int .i64 ((a + 1 : Nat) : Int)) rfl (aL (by omega) (by omega)) rfl <| gR 2 rfl <| go_xloop <| gJ (h K _ hK (by omega)) [0, 9, 8] [0] rfl hK pq4 ⟨⟨_, rfl, rfl, rfl, (bc _ GTarget.w (fun _ => rfl) k).symm⟩, ⟨_, rfl, rfl, rfl, (bc _ (V.int .i64) (fun _ => rfl) (b.take g)).symm⟩, (pqo1 rfl rfl)⟩ rfl
 replace hd := (fq hd)
 replace h := h.2 hd
 refine gR 3 rfl <| go_xloopE <| gR 1 rfl ?_
 obtain ⟨rfl, rfl, rfl, rfl⟩ := h
 exact go_sub (F' := (mkF 94 0 [])) (H' := ⟨3, [(2, .row 117 5 (List.map GTarget.w i)), (1, .row 3 1 (List.map (V.int .i64) d)), (0, .var 114 [.row 4 (kidsV l), .int .i64 n, .sl 1, .sl 2])]⟩) [0, 1, 2] [0] rfl hK trivial ⟨⟨_, rfl, rfl, rfl, (bc _ GTarget.w (fun _ => rfl) i).symm⟩, ⟨_, rfl, rfl, rfl, (bc _ (V.int .i64) (fun _ => rfl) d).symm⟩, (pqo1 rfl rfl)⟩ rfl <| go_endD [] ab (rs := []) rfl rfl ⟨rfl, rfl⟩
def ct (m : Nat) (p0 : List Tree) (a : List UInt8) (b : Nat) (r0 : Int) : Prop := ∀ (K : Ctx) (j1 : Nat), aC K [] → m ≤ j1 → qLG K Tryz.f178 (fun u _ => u = .int .i64 r0) (xG (cB (ai Tryz.f178))) [.loop (xG (cB (ai Tryz.f178))) j1, .blk 0, .seq (xA (ai Tryz.f178))] 19 (mkF 19 0 [(0, .row 4 (kidsV p0)), (1, .clo 179 [.box [.str a] 0]), (7, .int .i64 (p0.length : Int)), (8, .int .i64 (b : Int))]) ⟨0, []⟩
theorem jY (m : Nat) (p0 : List Tree) (a : List UInt8) (r0 : Int) (h : ct m p0 a 0 r0) : dz p0 a r0 := by
 refine ⟨rfl, rfl, ?_⟩
 refine av 19 [] Tryz.func178 rfl rfl rfl (aI rfl) fun K hK => ?_
 exact gR 10 rfl <| gV 7 (.int .i64 (p0.length : Int)) rfl (aZ (bp _)) rfl <| gLB 6 rfl (bp _) fun hl5 => gR 4 rfl <| go_loop m <| gJ (h K _ hK (by omega)) [] [] rfl hK pq4 trivial rfl
theorem fE (m : Nat) (p0 : List Tree) (b : List UInt8) (a : Nat) (r0 : Int) (h : ((a < p0.length) → ∃ d, p0[a]? = some d ∧ ∃ c, fU d b c ∧ ((c = true) → (a : Int) = r0) ∧ ((c = false) → a + 1 ≤ 9223372036854775807 ∧ ct m p0 b (a + 1) r0)) ∧ ((¬ a < p0.length) → (-1) = r0)) : ct (m + 1) p0 b a r0 := by
 intro K j1 hK hj1
 obtain ⟨j1, rfl⟩ : ∃ j, j1 = j + 1 := ⟨j1 - 1, by omega⟩
 refine gR 6 rfl <| gB 9 rfl rfl rfl ?_ ?_ <;> intro hd
 replace hd := (fi hd)
 replace h := h.1 hd
 refine gR 16 rfl ?_
 obtain ⟨d, hxt1_1, h⟩ := h
 refine gY (aY (bm hxt1_1) ab rfl rfl rfl rfl) rfl rfl <| gR 1 rfl ?_
 obtain ⟨c, hs6, h⟩ := h
 refine xv hs6 (by kernel_rfl) rfl rfl rfl .rfl rfl ?_
 refine gR 2 rfl <| gB 16 rfl rfl rfl ?_ ?_ <;> intro hd
 replace h := h.1 hd
 refine gR 10 rfl <| go_xloopR <| gR 2 rfl ?_
 subst h
 exact go_end ab (rs := [.tmp 4]) rfl rfl rfl
 replace h := h.2 hd
 refine gR 5 rfl ?_
 obtain ⟨hb, h⟩ := h
 exact gR 1 rfl <| gV 18 (.int .i64 ((a + 1 : Nat) : Int)) rfl (aL (by omega) (by omega)) rfl <| gR 2 rfl <| go_xloop <| gJ (h K _ hK (by omega)) [] [] rfl hK pq4 trivial rfl
 replace hd := (fq hd)
 replace h := h.2 hd
 refine gR 3 rfl <| go_xloopE <| gR 8 rfl ?_
 subst h
 exact go_end ab (rs := [.tmp 4]) rfl rfl rfl
theorem kc (m : Nat) (p0 r0 r1 : List UInt8) (r2 : Bool) (h : ∃ a b c, cF p0 a b c ∧ a = r0 ∧ b = r1 ∧ c = r2) : eb p0 r0 r1 r2 := by
 refine ⟨rfl, rfl, ?_⟩
 refine av 13 [] Tryz.func148 rfl rfl rfl (aI rfl) fun K hK => ?_
 refine gR 11 rfl ?_
 obtain ⟨a, b, c, hs2, h⟩ := h
 refine gC0 hs2 (by kernel_rfl) rfl rfl .rfl rfl <| gR 9 rfl ?_
 obtain ⟨rfl, rfl, rfl⟩ := h
 exact go_end ab (rs := [.tmp 4, .tmp 5, .tmp 6]) rfl rfl rfl
theorem eR (m : Nat) (p0 r0 r1 : List UInt8) (r2 : Bool) (h : ∃ a, bt p0 a ∧ ((0 ≤ a) → ∃ b, a = ((b : Nat) : Int) ∧ b ≤ p0.length ∧ InI (a + 1) ∧ ∃ c, (a + 1) = ((c : Nat) : Int) ∧ c ≤ p0.length ∧ (p0.take b) = r0 ∧ (p0.drop c) = r1 ∧ true = r2) ∧ ((¬ 0 ≤ a) → p0 = r0 ∧ [] = r1 ∧ false = r2)) : cF p0 r0 r1 r2 := by
 refine ⟨rfl, rfl, ?_⟩
 refine av 23 [] Tryz.func177 rfl rfl rfl (aI rfl) fun K hK => ?_
 refine gR 12 rfl ?_
 obtain ⟨a, hs2, h⟩ := h
 refine gC0 hs2 (by kernel_rfl) rfl rfl .rfl rfl <| gR 9 rfl <| qBd 12 rfl rfl rfl h (fun h => ?_) fun h => ?_
 refine gR 2 rfl <| gDs [] 12 12 rfl (by kernel_rfl) (by kernel_rfl) <| gDr [(0, 2), (1, 2)] (by kernel_rfl) rfl rfl ?_
 obtain ⟨b, d, h⟩ := h
 refine gV 14 (.int .i64 ((b : Nat) : Int)) rfl (dc d) rfl ?_
 obtain ⟨hb', h⟩ := h
 refine gYd 2 rfl (by kernel_rfl) (ySS ab rfl rfl tv (og rfl) (Nat.zero_le _) hb' (tq _ _)) rfl rfl <| gDr [(3, 2), (4, 2), (5, 2), (6, 2)] (by kernel_rfl) rfl rfl ?_
 obtain ⟨hb, h⟩ := h
 refine gDr [(7, 2)] (by kernel_rfl) rfl rfl <| gV 20 (.int .i64 (a + 1)) rfl (aL hb rfl) rfl ?_
 obtain ⟨c, e, h⟩ := h
 refine gV 20 (.int .i64 ((c : Nat) : Int)) rfl (dc e) rfl ?_
 obtain ⟨hb, h⟩ := h
 refine gYd 8 rfl (by kernel_rfl) (ySS ab rfl rfl (og rfl) tv hb (Nat.le_refl _) (ot _ _)) rfl rfl <| gDr [(9, 0), (10, 0), (11, 0)] (by kernel_rfl) rfl rfl <| gDe (by kernel_rfl) <| gR 3 rfl ?_
 obtain ⟨rfl, rfl, rfl⟩ := h
 exact go_end ab (rs := [.tmp 4, .tmp 5, .tmp 6]) rfl rfl rfl
 refine gR 12 rfl ?_
 obtain ⟨rfl, rfl, rfl⟩ := h
 exact go_end ab (rs := [.tmp 4, .tmp 5, .tmp 6]) rfl rfl rfl
def cm (m : Nat) (p0 : List UInt8) (r0 : Int) : Prop := ∀ (K : Ctx), aC K [] → qLG K Tryz.f203 (fun u _ => u = .int .i64 r0) (xB (cK (cA (xA (ai Tryz.f203))))) [.blk 0, .seq (xH (ai Tryz.f203))] 143 (mkF 143 0 [(0, .str p0), (1, .str [46]), (5, .int .i64 1)]) ⟨0, []⟩
theorem ej (m : Nat) (p0 : List UInt8) (r0 : Int) (h : (([46] = p0) → 0 = r0) ∧ (([46] ≠ p0) → cm m p0 r0)) : bt p0 r0 := by
 refine ⟨rfl, rfl, ?_⟩
 refine av 143 [] Tryz.func203 rfl rfl rfl (aI rfl) fun K hK => ?_
 refine gR 26 rfl <| qBeZ 16 23 rfl rfl rfl rfl h (fun h => ?_) fun h => ?_
 refine gR 9 rfl ?_
 subst h
 exact go_end ab (rs := [.tmp 4]) rfl rfl rfl
 exact gR 1 rfl <| gJ (h K hK) [] [] rfl hK pq3 trivial rfl
theorem ec (m : Nat) (p0 : List UInt8) (r0 : Int) (h : ∃ a, cq p0 46 a ∧ a = r0) : cm (m + 1) p0 r0 := by
 intro K hK
 refine gR 13 rfl ?_
 obtain ⟨a, hs3, h⟩ := h
 refine gC0 hs3 (by kernel_rfl) rfl rfl .rfl rfl <| gR 6 rfl ?_
 subst h
 exact go_end ab (rs := [.tmp 4]) rfl rfl rfl
end Go.Proofs.YthnohcipianijaaGreatDoor
