/- Contracts of the functions that the law reaches, part 2. -/
import Derived.Test.YtgpcdfbmbcognaaGreatTa1
set_option linter.unusedVariables false
set_option linter.unusedSimpArgs false
namespace Go.Proofs.YtgpcdfbmbcognaaGreat
open Go.RowKit
structure Ctx where
 w0 : World
 S0 : Nat → Prop
 X0 : Nat → Prop
 pin : Nat → Option Value
structure Inv (K : Ctx) (S : Nat → Prop) (w : World) (ρ : Nat → Option Value) (h : Nat → Ob) : Prop where
 chg : ChgP K.X0 K.w0 w
 s0 : ∀ b, K.S0 b → S b
 s1 : ∀ b, S b → K.S0 b ∨ K.X0 b ∨ K.w0.heap.size ≤ b
 ow : ∀ id b, own ρ id (h id) b → K.X0 b ∨ K.w0.heap.size ≤ b
 pin : ∀ id x, K.pin id = some x → ρ id = some x
section
variable {P : Program} {T : Tab} {K : Ctx} {S S' : Nat → Prop} {w w' : World} {ρ ρ' : Nat → Option Value} {h h' : Nat → Ob} {a : Act} {n : Nat} {F : Fm} {X : Nat → Prop}
theorem Inv.eff (hi : Inv K S w ρ h) (he : Eff S w w' ρ ρ' h h' X) : Inv K S w' ρ' h' :=
 ⟨hi.chg.trans he.chg (fun b ⟨id, _, hb⟩ => hi.ow id b hb), hi.s0, hi.s1, fun id b hb => by
  rcases he.new id b hb with ⟨j, hj⟩ | hj
  ·exact hi.ow j b hj
  ·exact .inr (Nat.le_trans hi.chg.size hj), fun id x hx => he.up.r _ _ (hi.pin id x hx)⟩
theorem Inv.frz (hr : HRel S w ρ h) (hi : Inv K S w ρ h) (id : Nat) : Inv K (fun b => S b ∨ own ρ id (h id) b) w ρ (cb h id .gone) :=
 ⟨hi.chg, fun b hb => .inl (hi.s0 b hb), fun b hb => by
  rcases hb with hb | hb
  ·exact hi.s1 b hb
  ·exact .inr (hi.ow id b hb), fun i b hb => by
  by_cases hii : i = id
  ·subst hii; rw [bB] at hb; exact hb.elim
  ·rw [bW _ _ hii] at hb; exact hi.ow i b hb, hi.pin⟩
theorem HRel.chg0 (hr : HRel S w ρ h) (hc : Chg [] w w') : HRel S w' ρ h := by
 have up : Up S S w w' ρ ρ := ⟨fun _ h => h, fun b _ hb => hc.block b hb (by simp), fun _ _ h => h⟩
 refine ⟨fun i => (hr.ob i).up up (fun hf => ?_) (fun b hb => hc.block b (eo (hr.ob i) hb) (by simp)), hr.sep, hr.dis, fun b hb => Nat.lt_of_lt_of_le (hr.slt b hb) hc.size⟩
 have := hr.ob i; rw [hf] at this; exact this
theorem Up.chg0 (hc : Chg [] w w') : Up S S w w' ρ ρ := ⟨fun _ h => h, fun b _ hb => hc.block b hb (by simp), fun _ _ h => h⟩
theorem Inv.chg0 (hi : Inv K S w ρ h) (hc : Chg [] w w') : Inv K S w' ρ h := ⟨hi.chg.trans (ChgP.of hc) (fun b hb => by simp at hb), hi.s0, hi.s1, hi.ow, hi.pin⟩
theorem HRel.drop (hr : HRel S w ρ h) (hh : ∀ i, h' i = h i ∨ h' i = .gone) : HRel S w ρ h' := by
 have back : ∀ i b, own ρ i (h' i) b → own ρ i (h i) b := fun i b hb => by
  rcases hh i with e | e
  ·rw [e] at hb; exact hb
  ·rw [e] at hb; exact hb.elim
 refine ⟨fun i => ?_, fun i b hb => hr.sep i b (back i b hb), fun i j b hbi hbj => hr.dis i j b (back i b hbi) (back j b hbj), hr.slt⟩
 rcases hh i with e | e
 ·rw [e]; exact hr.ob i
 ·rw [e]; trivial
theorem Inv.drop (hi : Inv K S w ρ h) (hh : ∀ i, h' i = h i ∨ h' i = .gone) : Inv K S w ρ h' :=
 ⟨hi.chg, hi.s0, hi.s1, fun i b hb => by
  rcases hh i with e | e
  ·rw [e] at hb; exact hi.ow i b hb
  ·rw [e] at hb; exact hb.elim, hi.pin⟩
theorem Agree.refl : Agree S w w := fun _ _ => rfl
theorem mh (hr : HRel S w ρ h) (he : Eff S w w' ρ ρ' h h' X) : Agree S w w' := fun b hb => he.up.blk b hb (hr.slt b hb)
def bv (F : Fm) (all : Array Oper) (g : Option (Nat × Bool)) : Option Bool := match g with
 | none => some true
 |some (j, b) => match (all[j]?).bind (·.dst) with
  |some d => match F.get d with
   | some (.bool true) => some b
   | some (.bool false) => some (!b)
   | some (.tup _) => some false
   | _ => none
  | none => none
theorem cn (hF : FRel S w ρ a n F) {all : Array Oper} {o : Oper} {c : Bool} (hw : bv F all o.guard = some c) : Region.wanted o (yielded all a.tmps) = c := by
 unfold bv at hw
 split at hw
 ·rename_i hg
  injection hw with hw; subst hw
  exact iH hF.fr (by rw [hg]; rfl)
 ·rename_i j b hg
  split at hw
  ·rename_i d hd
   split at hw
   ·rename_i hv
    obtain ⟨x, h1, h2⟩ := hF.get d _ hv
    simp only [VRel] at h2; subst h2
    injection hw with hw; subst hw
    cases b
    ·exact nY hF.fr (by rw [hg]; simp only [mO, look, hd]; simp [fA, h1])
    ·exact iH hF.fr (by rw [hg]; simp only [ds, look, hd]; simp [fA, h1])
   ·rename_i hv
    obtain ⟨x, h1, h2⟩ := hF.get d _ hv
    simp only [VRel] at h2; subst h2
    injection hw with hw; subst hw
    cases b
    ·exact iH hF.fr (by rw [hg]; simp only [ds, look, hd]; simp [fA, h1])
    ·exact nY hF.fr (by rw [hg]; simp only [mO, look, hd]; simp [fA, h1])
   ·rename_i hv
    obtain ⟨x, h1, h2⟩ := hF.get d _ hv
    simp only [VRel] at h2; obtain ⟨xs, rfl, _⟩ := h2
    injection hw with hw; subst hw
    exact nY hF.fr (by rw [hg]; simp only [mO, look, hd]; simp [fA, h1])
   ·cases hw
  ·cases hw
end
def Go (P : Program) (K : Ctx) (Q : Exit → Act → World → Prop) (p : EP) (s : List EI) (n : Nat) (F : Fm) (H : Hp) : Prop :=
 ∀ S w ρ a, HRel S w ρ H.get → Inv K S w ρ H.get → FRel S w ρ a n F → EP.wp P Q p s S w ρ a
def CallR (P : Program) (K : Ctx) (fid : FuncId) (vs : List V) (H : Hp) (L : List Nat) (Post : V → Hp → Prop) : Prop :=
  ∀ S w ρ xs, HRel S w ρ H.get → Inv K S w ρ H.get → LRel S w ρ vs xs → Calls P fid xs.toArray w fun e w' =>
    ∃ x S' ρ' v H', e = .returned x ∧ Post v H' ∧ HRel S' w' ρ' H'.get ∧ Inv K S' w' ρ' H'.get ∧ Up S S' w w' ρ ρ' ∧ VRel S' w' ρ' v x ∧ Ls ρ L w w'
def vb (v : Option V) : Option V := match v with
 | some v => some v
 | none => some (.tup [])
section
variable {P : Program} {T : Tab} {K : Ctx} {Q : Exit → Act → World → Prop} {s : List EI} {n : Nat} {F : Fm} {H : Hp}
theorem oA {S : Nat → Prop} {w : World} {ρ : Nat → Option Value} : VRel S w ρ (.tup []) undef := by
 simp only [VRel]; exact ⟨[], rfl, by simp [LRel]⟩
theorem mf {S : Nat → Prop} {w : World} {ρ : Nat → Option Value} {a : Act} (hF : FRel S w ρ a n F) (d : Option Tmp) : FRel S w ρ (a.put d undef) n (F.seto d (some (.tup []))) :=
 hF.set d (fun u hu => by injection hu with hu; subst hu; exact oA)
theorem cQ {S : Nat → Prop} {w : World} {ρ : Nat → Option Value} {a : Act} {v : V} {x : Value} (hF : FRel S w ρ a n F) (d : Option Tmp) (hx : VRel S w ρ v x) : FRel S w ρ (a.put d x) n (F.seto d (some v)) :=
 hF.set d (fun u hu => by injection hu with hu; subst hu; exact hx)
theorem zP {x y : Code} (k : Go P K Q (.code x) (.seq y :: s) n F H) : Go P K Q (.code (.seq x y)) s n F H := fun S w ρ a hr hi hF => wp_seq (k S w ρ a hr hi hF)
theorem vl {id : Nat} {c : Code} (k : Go P K Q (.code c) (.blk id :: s) n F H) : Go P K Q (.code (.block id c)) s n F H := fun S w ρ a hr hi hF => wp_block (k S w ρ a hr hi hF)
theorem wc (k : Go P K Q (.ex .normal) s n F H) : Go P K Q (.code .skip) s n F H := fun S w ρ a hr hi hF => wp_skip (k S w ρ a hr hi hF)
theorem go_ret (k : Go P K Q (.ex .ret) s n F H) : Go P K Q (.code .ret) s n F H := fun S w ρ a hr hi hF => wp_ret (k S w ρ a hr hi hF)
theorem ws {id : Nat} (k : Go P K Q (.ex (.exit id)) s n F H) : Go P K Q (.code (.exit id)) s n F H := fun S w ρ a hr hi hF => wp_exit (k S w ρ a hr hi hF)
theorem As {l : Nat} (k : Go P K Q (.ex .normal) s n F H) : Go P K Q (.code (.label l)) s n F H := fun S w ρ a hr hi hF => wp_label (k S w ρ a hr hi hF)
theorem Bh {c : Code} (k : Go P K Q (.code c) (.scp :: s) n F H) : Go P K Q (.code (.scope c)) s n F H := fun S w ρ a hr hi hF => wp_scope_straight (k S w ρ a hr hi hF)
theorem go_loop {c : Code} (j : Nat) (k : Go P K Q (.code c) (.loop c j :: s) n F H) : Go P K Q (.code (.loop c)) s n F H := fun S w ρ a hr hi hF => wp_loop_rounds (j + 1) (k S w ρ a hr hi hF)
theorem uw {c : Operand} {x y : Code} (hc : aR F c = some (.bool true)) (k : Go P K Q (.code x) s n F H) : Go P K Q (.code (.cond c x y)) s n F H := fun S w ρ a hr hi hF => qJ hF.fr (lc (aj hF hc)) (k S w ρ a hr hi hF)
theorem uc {c : Operand} {x y : Code} (hc : aR F c = some (.bool false)) (k : Go P K Q (.code y) s n F H) : Go P K Q (.code (.cond c x y)) s n F H := fun S w ρ a hr hi hF => ra hF.fr (lc (aj hF hc)) (k S w ρ a hr hi hF)
theorem go_region {id : Nat} {l : List Oper} (k : Go P K Q (.ops l.toArray l) s n F H) : Go P K Q (.code (.region id l.toArray false)) s n F H := fun S w ρ a hr hi hF => wp_region_lit (k S w ρ a hr hi hF)
theorem zS {all : Array Oper} (k : Go P K Q (.ex .normal) s n F H) : Go P K Q (.ops all []) s n F H := fun S w ρ a hr hi hF => k S w ρ a hr hi hF
theorem wk {c : Code} (k : Go P K Q (.code c) s n F H) : Go P K Q (.ex .normal) (.seq c :: s) n F H := k
theorem uN {c : Code} {i : Nat} (k : Go P K Q (.ex (.exit i)) s n F H) : Go P K Q (.ex (.exit i)) (.seq c :: s) n F H := k
theorem vf {c : Code} (k : Go P K Q (.ex .ret) s n F H) : Go P K Q (.ex .ret) (.seq c :: s) n F H := k
theorem go_xloop {c : Code} {j : Nat} (k : Go P K Q (.code c) (.loop c j :: s) n F H) : Go P K Q (.ex .normal) (.loop c (j + 1) :: s) n F H := fun S w ρ a hr hi hF => k S w ρ a hr hi hF
theorem go_xloopE {c : Code} {j i : Nat} (k : Go P K Q (.ex (.exit i)) s n F H) : Go P K Q (.ex (.exit i)) (.loop c j :: s) n F H := k
theorem go_xloopR {c : Code} {j : Nat} (k : Go P K Q (.ex .ret) s n F H) : Go P K Q (.ex .ret) (.loop c j :: s) n F H := k
theorem uX {id : Nat} (k : Go P K Q (.ex .normal) s n F H) : Go P K Q (.ex .normal) (.blk id :: s) n F H := k
theorem va {id : Nat} (k : Go P K Q (.ex .ret) s n F H) : Go P K Q (.ex .ret) (.blk id :: s) n F H := k
theorem uG {id i : Nat} (hb : Nat.beq i id = true) (k : Go P K Q (.ex .normal) s n F H) : Go P K Q (.ex (.exit i)) (.blk id :: s) n F H := fun S w ρ a hr hi hF => by
 have := Nat.eq_of_beq_eq_true hb
 subst this
 simp only [EP.wp, dc, Exit.inBlock, if_true]
 exact k S w ρ a hr hi hF
theorem uD {id i : Nat} (hb : Nat.beq i id = false) (k : Go P K Q (.ex (.exit i)) s n F H) : Go P K Q (.ex (.exit i)) (.blk id :: s) n F H := fun S w ρ a hr hi hF => by
 simp only [EP.wp, dc, Exit.inBlock, if_neg (Nat.ne_of_beq_eq_false hb)]
 exact k S w ρ a hr hi hF
theorem Bc (k : Go P K Q (.ex .normal) s n F H) : Go P K Q (.ex .normal) (.scp :: s) n F H := k
theorem AG {i : Nat} (k : Go P K Q (.ex (.exit i)) s n F H) : Go P K Q (.ex (.exit i)) (.scp :: s) n F H := k
theorem AO (k : Go P K Q (.ex .ret) s n F H) : Go P K Q (.ex .ret) (.scp :: s) n F H := k
variable {all : Array Oper} {rest : List Oper} {o : Oper}
theorem zZ (hw : bv F all o.guard = some false) (k : Go P K Q (.ops all rest) s n (F.seto o.dst (some (.tup []))) H) : Go P K Q (.ops all (o :: rest)) s n F H := fun S w ρ a hr hi hF => by
 show wpList P all (dc P Q s) (o :: rest) a w
 unfold wpList
 rw [cn hF hw]
 simp only [Bool.false_eq_true, if_false]
 exact k S w ρ _ hr hi (mf hF o.dst)
theorem go_opY {v : V} (hw : bv F all o.guard = some true) (hy : ∀ S w ρ a, HRel S w ρ H.get → FRel S w ρ a n F → Yld P S w ρ a o.type o.op v) (k : Go P K Q (.ops all rest) s n (F.seto o.dst (some v)) H) : Go P K Q (.ops all (o :: rest)) s n F H := fun S w ρ a hr hi hF => by
 show wpList P all (dc P Q s) (o :: rest) a w
 unfold wpList
 rw [if_pos (cn hF hw)]
 refine .inl ?_
 obtain ⟨x, h1, h2⟩ := hy S w ρ a hr hF
 obtain ⟨d, op, ty, ps, af, g⟩ := o
 unfold Oper.wp
 rw [h2 w Agree.refl d ps af g]
 exact k S w ρ _ hr hi (cQ hF d h1)
theorem go_opP (hT : TabOk P T) {v : V} (hw : bv F all o.guard = some true) (hv : ke T H.get F o.op = some v) (k : Go P K Q (.ops all rest) s n (F.seto o.dst (some v)) H) : Go P K Q (.ops all (o :: rest)) s n F H :=
 go_opY hw (fun S w ρ a hr hF => oK hT hr hF hv) k
theorem go_opD {v : Option V} {ed : ED} (hw : bv F all o.guard = some true) (hd : ∀ S w ρ a, HRel S w ρ H.get → FRel S w ρ a n F → Does P S w ρ H.get a o.type o.op v (ed.app H.get H.nx) ed.tch) (hl : ed.ok H.get) (k : Go P K Q (.ops all rest) s n (F.seto o.dst (vb v)) (H.app ed)) : Go P K Q (.ops all (o :: rest)) s n F H := fun S w ρ a hr hi hF => by
 show wpList P all (dc P Q s) (o :: rest) a w
 unfold wpList
 rw [if_pos (cn hF hw)]
 refine .inl ?_
 obtain ⟨nx, w', ρ', h1, h2, h3⟩ := hd S w ρ a hr hF
 have hr' := h2.hr
 have hi' := hi.eff h2
 rw [← Hp.get_app hl] at hr' hi'
 obtain ⟨d, op, ty, ps, af, g⟩ := o
 unfold Oper.wp
 rw [h1 d ps af g]
 cases v with
 | none =>
  subst h3
  exact k S w' ρ' _ hr' hi' (mf (hF.up h2.up) d)
 | some v =>
  obtain ⟨x, rfl, h4⟩ := h3
  exact k S w' ρ' _ hr' hi' (cQ (hF.up h2.up) d h4)
theorem go_opE (hT : TabOk P T) {v : Option V} {ed : ED} (hw : bv F all o.guard = some true) (hv : jF T H.get F H.nx o.op = some (v, ed)) (k : Go P K Q (.ops all rest) s n (F.seto o.dst (vb v)) (H.app ed)) : Go P K Q (.ops all (o :: rest)) s n F H :=
 go_opD hw (fun S w ρ a hr hF => qi hT hr hF H.get_free hv) (mN hv) k
theorem go_opC {fid : FuncId} {args : List Operand} {tys : Array TypeId} {vs : List V} {Post : V → Hp → Prop} (he : ce P fid = true) (ho : o.op = .call { callee := .value (.func fid), args := args.toArray, argTypes := tys }) (hw : bv F all o.guard = some true) (hv : it F args = some vs) (hC : CallR P K fid vs H [] Post)
  (k : ∀ v H', Post v H' → Go P K Q (.ops all rest) s n (F.seto o.dst (some v)) H') : Go P K Q (.ops all (o :: rest)) s n F H := fun S w ρ a hr hi hF => by
 show wpList P all (dc P Q s) (o :: rest) a w
 unfold wpList
 rw [if_pos (cn hF hw)]
 refine .inl ?_
 obtain ⟨xs, h1, h2⟩ := oc hF hv
 have hc := hC S w ρ xs hr hi h2
 obtain ⟨d, op, ty, ps, af, g⟩ := o
 simp only at ho
 subst ho
 have hx : (execOp a.eval ⟨d, .call { callee := .value (.func fid), args := args.toArray, argTypes := tys }, ty, ps, af, g⟩).run P w = .ok (.enter fid xs.toArray) w := by
  have e : args.toArray.map a.eval = xs.toArray := by rw [← hF.fr.vals h1]; simp
  simp only [execOp, resolve, e]
  simp [Act.eval, Deferred.ofValue, invoke, kC he]
 unfold Oper.wp
 rw [hx, Oper.upon_enter]
 refine hc.mono fun e w1 hR => ?_
 obtain ⟨x, S', ρ', v, H', rfl, hp, hr', hi', hu, hvr, _⟩ := hR
 exact k v H' hp S' w1 ρ' _ hr' hi' (cQ (hF.up hu) d hvr)
theorem wj {id : Nat} {l : List Oper} (L : List Nat) (m sz : Nat) (hsz : l.length = sz) (hm : P.follows .mixedOrders = true) (hs : Region.noSelect l.toArray = true) (k : Go P K Q (.drw l.toArray L m sz (Array.replicate sz false)) s n F H) : Go P K Q (.code (.region id l.toArray true)) s n F H := fun S w ρ a hr hi hF => by
 refine wp_region_noPanic (wp_region_any hm (ro (B := Agree S { w with drawn := w.drawn + 1 }) (S := Ls ρ L { w with drawn := w.drawn + 1 }) (m := m) _ _ _ _ ?_))
 have hc := Chg.drew w
 have := k S { w with drawn := w.drawn + 1 } ρ a (hr.chg0 hc) (hi.chg0 hc) (hF.up (Up.chg0 hc)) hs
 subst hsz
 simpa using this
variable {L : List Nat} {m left i : Nat} {listed : Array Bool}
theorem un (hd : Region.ready .any all listed = []) (k : Go P K Q (.ex .normal) s n F H) : Go P K Q (.drw all L m left listed) s n F H := fun S w ρ a hr hi hF _ => by
 have hk := k S w ρ a hr hi hF
 cases left with
 | zero => exact ⟨hd, hk⟩
 | succ left => exact ⟨fun _ => hk, by rw [hd]; simp⟩
theorem oO {S S' : Nat → Prop} {w w' : World} (hS : ∀ b, S b → S' b) (h1 : Agree S w w') : ∀ x, Agree S' w' x → Agree S w x := fun x hx b hb => (hx b (hS b hb)).trans (h1 b hb)
theorem BT {ρ ρ' : Nat → Option Value} {w w' : World} (hρ : ∀ i x, ρ i = some x → ρ' i = some x) (h1 : Ls ρ L w w') : ∀ x, Ls ρ' L w' x → Ls ρ L w x := fun x hx id hid y b hy hb => (hx id hid y b (hρ _ _ hy) hb).trans (h1 id hid y b hy hb)
theorem kG {S S' : Nat → Prop} {w w' : World} {ρ ρ' : Nat → Option Value} {a : Act} (hu : Up S S' w w' ρ ρ') (hA : Agree S w w') (hL : Ls ρ L w w' ∨ listed.getD m false = true) (h : wpB P all (NoPanic (dc P Q s)) (Agree S' w') (Ls ρ' L w') m left listed a w') :
  Agree S w w' ∧ (Ls ρ L w w' ∨ listed.getD m false = true) ∧ wpB P all (NoPanic (dc P Q s)) (Agree S w) (Ls ρ L w) m left listed a w' := by
 refine ⟨hA, hL, ?_⟩
 rcases hL with hL | hL
 ·exact re (oO hu.s hA) (fun x _ => BT hu.r hL x) _ _ _ _ h
 · -- number m has come up: S does not matter any more
  have key : ∀ (fuel : Nat) (listed : Array Bool) (a : Act) (w'' : World), listed.getD m false = true → wpB P all (NoPanic (dc P Q s)) (Agree S' w') (Ls ρ' L w') m fuel listed a w'' → wpB P all (NoPanic (dc P Q s)) (Agree S w) (Ls ρ L w) m fuel listed a w'' := by
   intro fuel
   induction fuel with
   | zero => intro _ _ _ _ h; exact h
   | succ fuel ih =>
    intro listed a w'' hl h
    exact ⟨h.1, fun i hi => wpOp_mono (fun a' w3 h' => ⟨oO hu.s hA _ h'.1, .inr (fo hl), ih _ _ _ (fo hl) h'.2.2⟩) (h.2 i hi)⟩
  exact key _ _ _ _ hL h
theorem kZ {ρ : Nat → Option Value} {w : World} : Ls ρ L w w := fun _ _ _ _ _ _ => rfl
theorem Bp {v : V} (him : Nat.beq i m = false) (hi : all[i]? = some o) (hf : Region.free .any all listed i = true) (hrd : (Region.ready .any all listed).contains i = true) (hw : bv F all o.guard = some true) (hy : ∀ S w ρ a, HRel S w ρ H.get → FRel S w ρ a n F → Yld P S w ρ a o.type o.op v)
  (k : Go P K Q (.drw all L m left (listed.setIfInBounds i true)) s n (F.seto o.dst (some v)) H) : Go P K Q (.drw all L m (left + 1) listed) s n F H := fun S w ρ a hr hiv hF hs => by
 obtain ⟨x, h1, h2⟩ := hy S w ρ a hr hF
 refine wpB_pure (Nat.ne_of_beq_eq_false him) hi (Region.noSelect_spec hs) (fun _ _ _ h => h.elim) left listed a w (Region.free_spec hi hf) (by simpa using hrd) (.inl ⟨cn hF hw, fun w' hA => ?_⟩) Agree.refl (.inl kZ) (k S w ρ _ hr hiv (cQ hF o.dst h1) hs)
 obtain ⟨d, op, ty, ps, af, g⟩ := o
 exact h2 w' hA d ps af g
theorem By (hT : TabOk P T) {v : V} (him : Nat.beq i m = false) (hi : all[i]? = some o) (hf : Region.free .any all listed i = true) (hrd : (Region.ready .any all listed).contains i = true) (hw : bv F all o.guard = some true) (hv : ke T H.get F o.op = some v)
 (k : Go P K Q (.drw all L m left (listed.setIfInBounds i true)) s n (F.seto o.dst (some v)) H) : Go P K Q (.drw all L m (left + 1) listed) s n F H := Bp him hi hf hrd hw (fun S w ρ a hr hF => oK hT hr hF hv) k
theorem yp (him : Nat.beq i m = false) (hi : all[i]? = some o) (hf : Region.free .any all listed i = true) (hrd : (Region.ready .any all listed).contains i = true) (hw : bv F all o.guard = some false)
  (k : Go P K Q (.drw all L m left (listed.setIfInBounds i true)) s n (F.seto o.dst (some (.tup []))) H) : Go P K Q (.drw all L m (left + 1) listed) s n F H := fun S w ρ a hr hiv hF hs =>
 wpB_pure (Nat.ne_of_beq_eq_false him) hi (Region.noSelect_spec hs) (fun _ _ _ h => h.elim) left listed a w (Region.free_spec hi hf) (by simpa using hrd) (.inr ⟨cn hF hw, rfl⟩) Agree.refl (.inl kZ) (k S w ρ _ hr hiv (mf hF o.dst) hs)
def nJ (F : Fm) (op : Op) : Option Nat := match op with
 |.load _ x => match aR F x with
  | some (.ptr id _) => some id
  | some (.el id _ _ _) => some id
  | _ => none
 | _ => none
theorem yB (hT : TabOk P T) {S : Nat → Prop} {w : World} {ρ : Nat → Option Value} {h : Nat → Ob} {a : Act} {op : Op} {ty : TypeId} {id nid : Nat} {v : V} {ed : ED} (hr : HRel S w ρ h) (hF : FRel S w ρ a n F) (hid : nJ F op = some id) (hv : jF T h F nid op = some (some v, ed)) :
  ∃ x u b, VRel S w ρ v x ∧ ρ id = some u ∧ vblk u = some b ∧ ∀ w', w'.heap[b]? = w.heap[b]? → Runs P a ty op w' (.value x) w' := by
 have fr := hF.fr
 unfold nJ at hid
 split at hid
 ·rename_i t x
  unfold jF at hv
  simp only at hv
  split at hid
  ·rename_i id' o' hx
   injection hid with hid; subst hid
   rw [hx] at hv
   simp only at hv
   split at hv
   ·rename_i d hd
    split at hv
    ·rename_i ho
     split at hv
     ·rename_i u hu
      simp only [Option.some.injEq, Prod.mk.injEq] at hv
      obtain ⟨rfl, rfl⟩ := hv
      rcases li (hT.ty _ _ hd) hu with ⟨h1, h2⟩ | ⟨h1, h2, rfl⟩
      ·obtain ⟨b, y, g1, g2, g3, g4⟩ := wl (P := P) (ty := ty) hr fr (aj hF hx) ho h1 h2
       exact ⟨y, _, b, g3, g1, rfl, fun w' hw => g4 w' ((World.cell?_of_block (a := ⟨b, _, none⟩) hw).trans g2)⟩
      ·obtain ⟨b, ys, g1, g2, g3, g4⟩ := vo (P := P) (ty := ty) hr fr (aj hF hx) ho h1 h2
       exact ⟨_, _, b, by simp only [VRel]; exact ⟨ys, rfl, g3⟩, g1, rfl, fun w' hw => g4 w' (fun j hj => (World.cell?_of_block (a := ⟨b, _, none⟩) hw).trans (g2 j hj))⟩
     ·cases hv
    ·cases hv
   ·cases hv
  ·rename_i id' sz i' o' hx
   injection hid with hid; subst hid
   rw [hx] at hv
   simp only at hv
   split at hv
   ·rename_i d hd
    split at hv
    ·rename_i ho
     split at hv
     ·rename_i hb
      have := Nat.eq_of_beq_eq_true hb
      subst this
      split at hv
      ·rename_i v0 hi
       rw [kA] at hi
       split at hv
       ·rename_i u hu
        simp only [Option.some.injEq, Prod.mk.injEq] at hv
        obtain ⟨rfl, rfl⟩ := hv
        have hbk : ∀ (q : Value) (b : Nat), q.ownBlock = some b → vblk q = some b := fun q b hq => by
         cases q <;> first | (simp only [Value.ownBlock] at hq; cases hq; done) | skip
         rename_i A _ _
         cases A <;> simp_all [Value.ownBlock, vblk]
        rcases li (hT.ty _ _ hd) hu with ⟨h1, h2⟩ | ⟨h1, h2, rfl⟩
        ·obtain ⟨b, q, y, g1, g1', g2, g3, g4⟩ := uE (P := P) (ty := ty) hr fr (aj hF hx) ho h1 hi h2
         exact ⟨y, q, b, g3, g1, hbk q b g1', fun w' hw => g4 w' ((World.cell?_of_block (a := ⟨b, _, none⟩) hw).trans g2)⟩
        ·obtain ⟨b, q, ys, g1, g1', g2, g3, g4⟩ := tD (P := P) (ty := ty) hr fr (aj hF hx) ho h1 hi h2
         exact ⟨_, q, b, by simp only [VRel]; exact ⟨ys, rfl, g3⟩, g1, hbk q b g1', fun w' hw => g4 w' (fun j hj => (World.cell?_of_block (a := ⟨b, _, none⟩) hw).trans (g2 j hj))⟩
       ·cases hv
      ·cases hv
     ·cases hv
    ·cases hv
   ·cases hv
  ·cases hid
 ·cases hid
theorem Bv (hT : TabOk P T) {v : V} {id : Nat} {ed : ED} (him : Nat.beq i m = false) (hwt : lU .any all m i = true) (hlm : listed.getD m false = false) (hi : all[i]? = some o) (hf : Region.free .any all listed i = true) (hrd : (Region.ready .any all listed).contains i = true) (hw : bv F all o.guard = some true)
  (hid : nJ F o.op = some id) (hL : L.contains id = true) (hv : jF T H.get F H.nx o.op = some (some v, ed))
  (k : Go P K Q (.drw all L m left (listed.setIfInBounds i true)) s n (F.seto o.dst (some v)) H) : Go P K Q (.drw all L m (left + 1) listed) s n F H := fun S w ρ a hr hiv hF hs => by
 obtain ⟨x, u, b, h1, h2, h3, h4⟩ := yB (ty := o.type) hT hr hF hid hv
 refine AL (Nat.ne_of_beq_eq_false him) hwt hi (Region.noSelect_spec hs) (fun _ _ _ h => h.elim) left listed a w (Region.free_spec hi hf) (by simpa using hrd) (.inl ⟨cn hF hw, fun w' hA => ?_⟩) Agree.refl kZ hlm (k S w ρ _ hr hiv (cQ hF o.dst h1) hs)
 have hb := hA.2 id (by simpa using hL) u b h2 h3
 obtain ⟨d, op, ty, ps, af, g⟩ := o
 exact h4 w' hb d ps af g
def cf (h : Nat → Ob) : List Nat → Bool
 | [] => true
 |i :: r => match h i with
  | .var _ _ => cf h r
  | .row _ _ _ => cf h r
  | _ => false
theorem jL {S : Nat → Prop} {w : World} {ρ : Nat → Option Value} {h : Nat → Ob} (hr : HRel S w ρ h) : ∀ {L : List Nat}, cf h L = true → ∀ id, id ∈ L → ∀ x b, ρ id = some x → vblk x = some b → own ρ id (h id) b
 | [], _, id, hid, x, b, hx, hb => by simp at hid
 | j :: r, hl, id, hid, x, b, hx, hb => by
  have hown : ∀ o, h j = o → (∃ t cs, o = .var t cs) ∨ (∃ e sz els, o = .row e sz els) → ∀ x b, ρ j = some x → vblk x = some b → own ρ j (h j) b := by
   rintro o ho (⟨t, cs, rfl⟩ | ⟨e, sz, els, rfl⟩) x b hx hb
   ·obtain ⟨c, xs, g1, _⟩ := mg hr ho
    rw [g1] at hx; cases hx
    simp only [vblk, Option.some.injEq] at hb; subst hb
    rw [ho]; exact g1
   ·obtain ⟨v, xs, g1, g2, _⟩ := jk hr ho
    rw [g1] at hx; cases hx
    rw [ho]
    refine ⟨_, g1, ?_⟩
    obtain ⟨A, c, rfl, _⟩ := ef g2
    cases A <;> simp_all [Value.ownBlock, vblk]
  simp only [cf] at hl
  rcases List.mem_cons.1 hid with e | e
  ·subst e
   split at hl
   ·rename_i t cs ho; exact hown _ ho (.inl ⟨t, cs, rfl⟩) x b hx hb
   ·rename_i e sz els ho; exact hown _ ho (.inr ⟨e, sz, els, rfl⟩) x b hx hb
   ·cases hl
  ·split at hl
   ·exact jL hr hl id e x b hx hb
   ·exact jL hr hl id e x b hx hb
   ·cases hl
def ED.clear (L : List Nat) : ED → Bool
 | .nop => true
 | .new _ => true
 | .set id _ => !L.contains id
 | .repl id _ => !L.contains id
theorem vi {S : Nat → Prop} {w w' : World} {ρ ρ' : Nat → Option Value} {h h' : Nat → Ob} {ed : ED} (hr : HRel S w ρ h) (he : Eff S w w' ρ ρ' h h' ed.tch) (hl : cf h L = true) (hc : ed.clear L = true) : Ls ρ L w w' := fun id hid x b hx hb => by
 have ho := jL hr hl id hid x b hx hb
 refine he.chg.block b (eo (hr.ob id) ho) ?_
 rintro ⟨j, hj, hjo⟩
 have e := hr.dis j id b hjo ho
 subst e
 cases ed with
 | nop => exact hj
 | new _ => exact hj
 | set k _ => simp only [ED.tch] at hj; subst hj; simp [ED.clear] at hc; exact hc hid
 | repl k _ => simp only [ED.tch] at hj; subst hj; simp [ED.clear] at hc; exact hc hid
theorem qf {a b : Bool} (h : (a || b) = true) : a = true ∨ b = true := by simpa using h
theorem kR {S : Nat → Prop} {B : World → Prop} {Sx : World → Prop} {a : Act} {w : World} {Q' : Exit → Act → World → Prop} (hrd : Region.ready .any all listed = [i]) (hk : wpOp P all Q' i (fun a' w' => B w' ∧ (Sx w' ∨ (listed.setIfInBounds i true).getD m false = true) ∧ wpB P all Q' B Sx m left (listed.setIfInBounds i true) a' w') a w) : wpB P all Q' B Sx m (left + 1) listed a w := by
 refine ⟨fun h0 => (by rw [hrd] at h0; cases h0), fun j hj => ?_⟩
 rw [hrd] at hj
 obtain rfl : j = i := by simpa using hj
 exact hk
theorem go_d1S (hrd : Region.ready .any all listed = [i]) (hi : all[i]? = some o) (hw : bv F all o.guard = some false) (k : Go P K Q (.drw all L m left (listed.setIfInBounds i true)) s n (F.seto o.dst (some (.tup []))) H) : Go P K Q (.drw all L m (left + 1) listed) s n F H := fun S w ρ a hr hiv hF hs => by
 refine kR (S := S) hrd ?_
 unfold wpOp
 simp only [hi]
 rw [cn hF hw]
 simp only [Bool.false_eq_true, if_false]
 exact ⟨Agree.refl, .inl kZ, k S w ρ _ hr hiv (mf hF o.dst) hs⟩
theorem yI {v : V} (hrd : Region.ready .any all listed = [i]) (hi : all[i]? = some o) (hw : bv F all o.guard = some true) (hy : ∀ S w ρ a, HRel S w ρ H.get → FRel S w ρ a n F → Yld P S w ρ a o.type o.op v)
  (k : Go P K Q (.drw all L m left (listed.setIfInBounds i true)) s n (F.seto o.dst (some v)) H) : Go P K Q (.drw all L m (left + 1) listed) s n F H := fun S w ρ a hr hiv hF hs => by
 refine kR (S := S) hrd ?_
 obtain ⟨x, h1, h2⟩ := hy S w ρ a hr hF
 unfold wpOp
 simp only [hi]
 rw [if_pos (cn hF hw)]
 refine .inl ?_
 have hk := k S w ρ _ hr hiv (cQ hF o.dst h1) hs
 obtain ⟨d, op, ty, ps, af, g⟩ := o
 unfold Oper.wp
 rw [h2 w Agree.refl d ps af g]
 exact ⟨Agree.refl, .inl kZ, hk⟩
theorem ul {v : Option V} {ed : ED} (hrd : Region.ready .any all listed = [i]) (hi : all[i]? = some o) (hw : bv F all o.guard = some true) (hd : ∀ S w ρ a, HRel S w ρ H.get → FRel S w ρ a n F → Does P S w ρ H.get a o.type o.op v (ed.app H.get H.nx) ed.tch) (hl : ed.ok H.get)
  (hc : ((cf H.get L && ed.clear L) || (listed.setIfInBounds i true).getD m false) = true) (k : Go P K Q (.drw all L m left (listed.setIfInBounds i true)) s n (F.seto o.dst (vb v)) (H.app ed)) : Go P K Q (.drw all L m (left + 1) listed) s n F H := fun S w ρ a hr hiv hF hs => by
 refine kR (S := S) hrd ?_
 obtain ⟨nx, w', ρ', h1, h2, h3⟩ := hd S w ρ a hr hF
 have hr' := h2.hr
 have hi' := hiv.eff h2
 rw [← Hp.get_app hl] at hr' hi'
 have hA := mh hr h2
 have hLs : Ls ρ L w w' ∨ (listed.setIfInBounds i true).getD m false = true := (qf hc).imp (fun h => by
  simp only [Bool.and_eq_true] at h
  exact vi hr h2 h.1 h.2) id
 unfold wpOp
 simp only [hi]
 rw [if_pos (cn hF hw)]
 refine .inl ?_
 have kN := fun (e : v = none) => k S w' ρ' (a.put o.dst undef) hr' hi' (by subst e; exact mf (hF.up h2.up) o.dst) hs
 have kV := fun (x : Value) (u : V) (e : v = some u) (hx : VRel S w' ρ' u x) => k S w' ρ' (a.put o.dst x) hr' hi' (by subst e; exact cQ (hF.up h2.up) o.dst hx) hs
 obtain ⟨d, op, ty, ps, af, g⟩ := o
 unfold Oper.wp
 rw [h1 d ps af g]
 cases v with
 | none =>
  subst h3
  exact kG h2.up hA hLs (kN rfl)
 | some v =>
  obtain ⟨x, rfl, h4⟩ := h3
  exact kG h2.up hA hLs (kV x v rfl h4)
theorem go_d1C {fid : FuncId} {args : List Operand} {tys : Array TypeId} {vs : List V} {Post : V → Hp → Prop} {L' : List Nat} (he : ce P fid = true) (hrd : Region.ready .any all listed = [i]) (hi : all[i]? = some o) (ho : o.op = .call { callee := .value (.func fid), args := args.toArray, argTypes := tys }) (hw : bv F all o.guard = some true) (hv : it F args = some vs) (hC : CallR P K fid vs H L' Post)
  (hc : L' = L ∨ (listed.setIfInBounds i true).getD m false = true) (k : ∀ v H', Post v H' → Go P K Q (.drw all L m left (listed.setIfInBounds i true)) s n (F.seto o.dst (some v)) H') : Go P K Q (.drw all L m (left + 1) listed) s n F H := fun S w ρ a hr hiv hF hs => by
 refine kR (S := S) hrd ?_
 obtain ⟨xs, h1, h2⟩ := oc hF hv
 have hcl := hC S w ρ xs hr hiv h2
 unfold wpOp
 simp only [hi]
 rw [if_pos (cn hF hw)]
 refine .inl ?_
 obtain ⟨d, op, ty, ps, af, g⟩ := o
 simp only at ho
 subst ho
 have hx : (execOp a.eval ⟨d, .call { callee := .value (.func fid), args := args.toArray, argTypes := tys }, ty, ps, af, g⟩).run P w = .ok (.enter fid xs.toArray) w := by
  have e : args.toArray.map a.eval = xs.toArray := by rw [← hF.fr.vals h1]; simp
  simp only [execOp, resolve, e]
  simp [Act.eval, Deferred.ofValue, invoke, kC he]
 unfold Oper.wp
 rw [hx, Oper.upon_enter]
 refine hcl.mono fun e w1 hR => ?_
 obtain ⟨x, S', ρ', v, H', rfl, hp, hr', hi', hu, hvr, hls⟩ := hR
 have hk := k v H' hp S' w1 ρ' _ hr' hi' (cQ (hF.up hu) d hvr) hs
 exact kG hu (fun b hb => hu.blk b hb (hr.slt b hb)) (hc.imp (fun e => by subst e; exact hls) id) hk
end
end Go.Proofs.YtgpcdfbmbcognaaGreat
namespace Go.Proofs.YtgpcdfbmbcognaaGreat
open Go.RowKit
section
variable {P : Program} {T : Tab} {K : Ctx} {Q : Exit → Act → World → Prop} {s : List EI} {n : Nat} {F : Fm} {S S' : Nat → Prop} {w w' : World} {ρ ρ' : Nat → Option Value} {h h1 h1' h2 : Nat → Ob} {a : Act}
theorem uL (hr : HRel S w ρ h) (hi : Inv K S w ρ h) (hh1 : ∀ i, h1 i = h i ∨ h1 i = .gone) (hr' : HRel S' w' ρ' h1') (hi' : Inv ⟨w, S, fun b => ∃ id, own ρ id (h1 id) b, ρ⟩ S' w' ρ' h1')
  (hh2 : ∀ i, (h2 i = h1' i ∨ h2 i = .gone) ∨ (h2 i = h i ∧ h1 i = .gone ∧ h i ≠ .free)) :
  HRel S' w' ρ' h2 ∧ Inv K S' w' ρ' h2 ∧ Up S S' w w' ρ ρ' ∧ ∀ L, cf h L = true → (∀ id, id ∈ L → h1 id = .gone) → Ls ρ L w w' := by
 have h1own : ∀ id b, own ρ id (h1 id) b → own ρ id (h id) b := fun id b hb => by
  rcases hh1 id with e | e
  ·rw [e] at hb; exact hb
  ·rw [e] at hb; exact hb.elim
 have up : Up S S' w w' ρ ρ' := ⟨hi'.s0, fun b hb hlt => hi'.chg.block b hlt (fun ⟨id, ho⟩ => hr.sep id b (h1own id b ho) hb), hi'.pin⟩
 have frame : ∀ i b, h1 i = .gone → own ρ i (h i) b → ¬ ∃ id, own ρ id (h1 id) b := fun i b hg ho ⟨id, hid⟩ => by
  have e := hr.dis i id b ho (h1own id b hid)
  subst e
  rw [hg] at hid; exact hid.elim
 have cases2 : ∀ i b, own ρ' i (h2 i) b → own ρ' i (h1' i) b ∨ (h1 i = .gone ∧ own ρ i (h i) b) := fun i b hb => by
  rcases hh2 i with (e | e) | ⟨e, e1, e2⟩
  ·rw [e] at hb; exact .inl hb
  ·rw [e] at hb; exact hb.elim
  ·rw [e] at hb; exact .inr ⟨e1, zt hi'.pin (hr.ob i) hb⟩
 have far : ∀ i b, h1 i = .gone → own ρ i (h i) b → ¬ S' b := fun i b hg ho hS => by
  rcases hi'.s1 b hS with h3 | h3 | h3
  ·exact hr.sep i b ho h3
  ·exact frame i b hg ho h3
  ·have := eo (hr.ob i) ho; simp only at h3; omega
 have apart : ∀ i j b, own ρ' i (h1' i) b → h1 j = .gone → own ρ j (h j) b → False := fun i j b ho hg hb => by
  rcases hi'.ow i b ho with h3 | h3
  ·exact frame j b hg hb h3
  ·have := eo (hr.ob j) hb; simp only at h3; omega
 refine ⟨⟨fun i => ?_, fun i b hb => ?_, fun i j b hbi hbj => ?_, hr'.slt⟩, ⟨?_, fun b hb => hi'.s0 b (hi.s0 b hb), fun b hb => ?_, fun i b hb => ?_, fun id x hx => hi'.pin _ _ (hi.pin id x hx)⟩, up, fun L hl hg id hid x b hx hb => ?_⟩
 ·rcases hh2 i with (e | e) | ⟨e, e1, e2⟩
  ·rw [e]; exact hr'.ob i
  ·rw [e]; trivial
  ·rw [e]
   exact (hr.ob i).up up (fun hf => absurd hf e2) (fun b hb => hi'.chg.block b (eo (hr.ob i) hb) (frame i b e1 hb))
 ·rcases cases2 i b hb with h3 | ⟨h3, h4⟩
  ·exact hr'.sep i b h3
  ·exact far i b h3 h4
 ·rcases cases2 i b hbi with h3 | ⟨h3, h4⟩ <;> rcases cases2 j b hbj with h5 | ⟨h5, h6⟩
  ·exact hr'.dis i j b h3 h5
  ·exact (apart i j b h3 h5 h6).elim
  ·exact (apart j i b h5 h3 h4).elim
  ·exact hr.dis i j b h4 h6
 ·refine hi.chg.trans hi'.chg ?_
  rintro b ⟨id, ho⟩
  exact hi.ow id b (h1own id b ho)
 ·rcases hi'.s1 b hb with h3 | ⟨id, h3⟩ | h3
  ·exact hi.s1 b h3
  ·exact .inr (hi.ow id b (h1own id b h3))
  ·exact .inr (.inr (Nat.le_trans hi.chg.size h3))
 ·rcases cases2 i b hb with h3 | ⟨h3, h4⟩
  ·rcases hi'.ow i b h3 with ⟨id, h5⟩ | h5
   ·exact hi.ow id b (h1own id b h5)
   ·exact .inr (Nat.le_trans hi.chg.size h5)
  ·exact hi.ow i b h4
 ·have ho := jL hr hl id hid x b hx hb
  exact hi'.chg.block b (eo (hr.ob id) ho) (frame id b (hg id hid) ho)
def jC : Nat → List V → Fm
 | 0, _ => []
 | n + 1, [] => none :: jC n []
 | n + 1, v :: r => some v :: jC n r
theorem qX : ∀ (n : Nat) (vs : List V), (jC n vs).length = n
 | 0, _ => rfl
 | n + 1, [] => by simp [jC, qX n []]
 | n + 1, v :: r => by simp [jC, qX n r]
theorem qO : ∀ (n : Nat) (vs : List V) (i : Nat) (v : V), (jC n vs).get i = some v → vs[i]? = some v
 | 0, _, i, v, h => by simp [jC, Fm.get] at h
 | n + 1, [], 0, v, h => by simp [jC, Fm.get] at h
 | n + 1, [], i + 1, v, h => by
  have := qO n [] i v (by simpa [jC, Fm.get] using h)
  simp at this
 | n + 1, u :: r, 0, v, h => by simpa [jC, Fm.get] using h
 | n + 1, u :: r, i + 1, v, h => by
  have := qO n r i v (by simpa [jC, Fm.get] using h)
  simpa using this
theorem rg {H : Hp} {fid : FuncId} {fn : Func} {c : Code} {vs : List V} {xs : List Value} {R : Ending → World → Prop} (hf : P.funcs[fid]? = some fn) (hb : fn.body = some c) (hl : Nat.ble vs.length fn.ntmps = true) (hr : HRel S w ρ H.get) (hi : Inv K S w ρ H.get) (hx : LRel S w ρ vs xs)
  (k : Go P K (bodyPost P fn R) (.code c) [] fn.ntmps (jC fn.ntmps vs) H) : Calls P fid xs.toArray w R := by
 refine calls_of_wp hf hb (k S w ρ _ hr hi ⟨?_, rfl, ?_, fun i v hv => ?_⟩)
 ·have h1 : vs.length ≤ fn.ntmps := Nat.le_of_ble_eq_true hl
  have h2 := hx.length
  simp; omega
 ·exact Nat.le_of_eq (qX _ _)
 ·have h1 := qO _ _ _ _ hv
  obtain ⟨x, h2, h3⟩ := hx.get h1
  refine ⟨x, ?_, h3⟩
  have hlt : i < xs.length := (List.getElem?_eq_some_iff.1 h2).1
  show (xs.toArray ++ Array.replicate (fn.ntmps - xs.toArray.size) undef)[i]? = some x
  rw [Array.getElem?_append_left (by simpa using hlt)]
  simpa using h2
def xV (T : Tab) (h : Nat → Ob) (F : Fm) : ResultVar → Option V
 | .tmp t => F.get t
 |.cell t ty => match T.ty ty with
  |some d => match F.get t with
   |some (.ptr id 0) => match h id with
    | .var _ cs => ly d cs 0
    | _ => none
   | some (.box cs 0) => ly d cs 0
   | _ => none
  | none => none
def oR (T : Tab) (h : Nat → Ob) (F : Fm) : List ResultVar → Option (List V)
 | [] => some []
 |x :: r => match xV T h F x with
  |some v => match oR T h F r with
   | some vs => some (v :: vs)
   | none => none
  | none => none
def kS : List V → V
 | [v] => v
 | vs => .tup vs
theorem uv {t : TypeId} {d : TD} (td : TdOk P t d) {b off : Nat} {cs : List V} {xs : List Value} {v : V} (hl : LRel S w ρ cs xs) (hc : ∀ j, j < xs.length → w.cell? ⟨b, off + j, none⟩ = xs[j]?) (hv : ly d cs 0 = some v) : ∃ y, (loadVar t ⟨b, off, none⟩).run P w = .ok y w ∧ VRel S w ρ v y := by
 have hlen := hl.length
 rcases li td hv with ⟨h1, h2⟩ | ⟨h1, h2, rfl⟩
 ·obtain ⟨y, h3, h4⟩ := hl.get h2
  have h0 : 0 < xs.length := (List.getElem?_eq_some_iff.1 h3).1
  have := tj (P := P) (w := w) (p := ⟨b, off, none⟩) h1 (by have := hc 0 h0; rw [Nat.add_zero] at this; rw [this, h3])
  refine ⟨y, ?_, h4⟩
  simp only [Instr.loadAt, Instr.sureAddr] at this
  simpa using this
 ·have := pN (P := P) (w := w) (b := b) (o := off) (cs := xs.take d.size) h1 (by simp; omega) (fun j hj => by rw [hc j (by omega), List.getElem?_take, if_pos hj])
  refine ⟨_, ?_, by simp only [VRel]; exact ⟨xs.take d.size, rfl, by simpa using hl.take d.size⟩⟩
  simp only [Instr.loadAt, Instr.sureAddr] at this
  simpa using this
theorem Bj (hT : TabOk P T) (hr : HRel S w ρ h) (hF : FRel S w ρ a n F) {x : ResultVar} {v : V} (hv : xV T h F x = some v) : ∃ y, (ky a x).run P w = .ok y w ∧ VRel S w ρ v y := by
 unfold xV at hv
 split at hv
 ·rename_i t
  obtain ⟨y, h1, h2⟩ := hF.get t v hv
  exact ⟨y, by simp [ky, Array.getD_eq_getD_getElem?, h1], h2⟩
 ·rename_i t ty
  split at hv
  ·rename_i d hd
   split at hv
   ·rename_i id hid
    split at hv
    ·rename_i ho
     obtain ⟨b, xs, g1, g2, g3⟩ := mg hr ho
     obtain ⟨y, h1, h2⟩ := hF.get t _ hid
     simp only [VRel] at h2
     obtain ⟨b', h3, rfl⟩ := h2
     rw [g1] at h3
     simp only [Option.some.injEq, Value.pointer.injEq, Addr.mk.injEq, and_true] at h3
     subst h3
     obtain ⟨z, k1, k2⟩ := uv (hT.ty _ _ hd) g3 (b := b) (off := 0) (fun j hj => by rw [Nat.zero_add, g2.cell]) hv
     exact ⟨z, by simp [ky, Array.getD_eq_getD_getElem?, h1, asAddr, k1], k2⟩
    ·cases hv
   ·rename_i cs hid
    obtain ⟨y, h1, h2⟩ := hF.get t _ hid
    simp only [VRel] at h2
    obtain ⟨b, off, xs, rfl, _, _, g3, g4⟩ := h2
    obtain ⟨z, k1, k2⟩ := uv (hT.ty _ _ hd) g3 (b := b) (off := off) g4 hv
    exact ⟨z, by simp [ky, Array.getD_eq_getD_getElem?, h1, asAddr, k1], k2.up up0⟩
   ·cases hv
  ·cases hv
theorem wi (hT : TabOk P T) (hr : HRel S w ρ h) (hF : FRel S w ρ a n F) : ∀ {l : List ResultVar} {vs : List V}, oR T h F l = some vs → ∃ ys, (l.mapM (ky a)).run P w = .ok ys w ∧ LRel S w ρ vs ys
 | [], vs, hv => by simp only [oR, Option.some.injEq] at hv; subst hv; exact ⟨[], by simp, by simp [LRel]⟩
 | x :: r, vs, hv => by
  simp only [oR] at hv
  split at hv
  ·rename_i v h1
   split at hv
   ·rename_i us h2
    simp only [Option.some.injEq] at hv; subst hv
    obtain ⟨y, g1, g2⟩ := Bj hT hr hF h1
    obtain ⟨ys, g3, g4⟩ := wi hT hr hF h2
    exact ⟨y :: ys, by simp [List.mapM_cons, g1, g3], ⟨y, ys, rfl, g2, g4⟩⟩
   ·cases hv
  ·cases hv
theorem wE {vs : List V} {ys : List Value} (hl : LRel S w ρ vs ys) : VRel S w ρ (kS vs) (km ys) := by
 match vs, ys, hl with
 | [], ys, hl => simp only [LRel] at hl; subst hl; simp only [kS, km, VRel]; exact ⟨[], rfl, by simp [LRel]⟩
 | [v], ys, hl =>
  simp only [LRel] at hl
  obtain ⟨x, zs, rfl, h1, rfl⟩ := hl
  exact h1
 | v :: u :: r, ys, hl =>
  have hl' := hl
  simp only [LRel] at hl
  obtain ⟨x, zs, rfl, h1, y, zs', rfl, h2, h3⟩ := hl
  simp only [kS, km, VRel]
  exact ⟨_, rfl, hl'⟩
theorem ret_go (hT : TabOk P T) {fn : Func} {R : Ending → World → Prop} {rs : List ResultVar} {vs : List V} {e : Exit} (he : e = .ret ∨ e = .normal) (hrs : fn.results = rs.toArray) (hr : HRel S w ρ h) (hF : FRel S w ρ a n F) (hv : oR T h F rs = some vs) (hR : ∀ x, VRel S w ρ (kS vs) x → R (.returned x) w) : bodyPost P fn R e a w := by
 obtain ⟨ys, h0, h1⟩ := wi hT hr hF hv
 have hb : bodyPost P fn R .ret a w := by
  refine bodyPost_ret (v := km ys) ?_ hF.defers (hR _ (wE h1))
  have e : (Array.mapM (ky a) rs.toArray).run P w = .ok ys.toArray w := by rw [List.mapM_toArray]; simp [h0]
  unfold results
  rw [hrs]
  change ((Array.mapM (ky a) rs.toArray) >>= fun vs => pure (if h : vs.size = 1 then vs[0] else .tuple vs)).run P w = _
  simp only [Sem.run_bind, e, Result.andThen_ok, Sem.run_pure]
  match ys with
  | [] => rfl
  | [v] => rfl
  | v :: u :: r => simp [km]
 rcases he with rfl | rfl
 ·exact hb
 ·exact hb
end
end Go.Proofs.YtgpcdfbmbcognaaGreat
namespace Go.Proofs.YtgpcdfbmbcognaaGreat
open Go.RowKit
def xQ (d : Nat) : Operand → Bool
 | .tmp t => !Nat.beq t d
 | _ => true
def nT (d : Option Tmp) (ps : List (Nat × Operand)) : Bool := match d with
 | some d => ps.all fun p => xQ d p.2
 | none => true
def tQ (d e : Option Tmp) : Bool := match d, e with
 | some d, some e => !Nat.beq d e
 | _, _ => true
section
variable {P : Program} {T : Tab} {K : Ctx} {Q : Exit → Act → World → Prop} {s : List EI} {n : Nat} {F : Fm} {H : Hp} {S : Nat → Prop} {w : World} {ρ : Nat → Option Value} {a : Act}
theorem BD {d : Nat} {x : Operand} {y : Value} (h : xQ d x = true) : au (fA (a.put (some d) y)) x = au (fA a) x := by
 cases x with
 | tmp t =>
  have hne : t ≠ d := fun e => by subst e; simp [xQ] at h
  simp only [au, fA, Act.put, Array.getElem?_setIfInBounds]
  rw [if_neg (fun e => hne e.symm)]
 | _ => rfl
theorem zz {d : Option Tmp} {y : Value} : ∀ {ps : List (Nat × Operand)}, nT d ps = true → dQ (fA (a.put d y)) ps = dQ (fA a) ps := by
 intro ps h
 cases d with
 | none => rfl
 | some d =>
  induction ps with
  | nil => rfl
  | cons p r ih =>
   obtain ⟨i, x⟩ := p
   simp only [nT, List.all_cons, Bool.and_eq_true] at h
   have ih' := ih (by simp only [nT]; exact h.2)
   simp only [dQ, BD h.1, ih']
theorem PRel.up {S' : Nat → Prop} {w' : World} {ρ' : Nat → Option Value} (u : Up S S' w w' ρ ρ') : ∀ {vs : List (Nat × V)} {ys : List (Nat × Value)}, PRel S w ρ vs ys → PRel S' w' ρ' vs ys
 | [], ys, h => h
 | (i, v) :: r, ys, h => by
  simp only [PRel] at h ⊢
  obtain ⟨x, zs, h1, h2, h3⟩ := h
  exact ⟨x, zs, h1, h2.up u, PRel.up u h3⟩
theorem zl {d e : Option Tmp} {v u : Option V} (h : tQ d e = true) : (F.seto d v).seto e u = (F.seto e u).seto d v := by
 cases d with
 | none => rfl
 |some d => cases e with
  | none => rfl
  | some e =>
   have : d ≠ e := fun x => by subst x; simp [tQ] at h
   simp only [Fm.seto]
   exact List.set_comm _ _ this
theorem zi {d : Option Tmp} {v : V} (hd : ∀ t, d = some t → F.get t = none) (hF : FRel S w ρ a n (F.seto d (some v))) : FRel S w ρ a n F := by
 cases d with
 | none => exact hF
 | some d =>
  refine ⟨hF.size, hF.defers, by have := hF.len; simpa [Fm.seto] using this, fun i u hu => hF.get i u ?_⟩
  have hne : d ≠ i := fun e => by subst e; rw [hd d rfl] at hu; cases hu
  rw [Fm.get_eq] at hu ⊢
  simp only [Fm.seto, List.getElem?_set, if_neg hne]
  exact hu
variable {all : Array Oper} {L : List Nat} {m left i : Nat} {listed : Array Bool} {o : Oper}
def GoP (P : Program) (K : Ctx) (Q : Exit → Act → World → Prop) (all : Array Oper) (L : List Nat) (m left : Nat) (listed : Array Bool) (s : List EI) (n : Nat) (F : Fm) (H : Hp) (i : Nat) (o : Oper) (ps : List (Nat × Operand)) (vs : List (Nat × V)) (v : V) : Prop :=
  ∀ S w ρ a, HRel S w ρ H.get → Inv K S w ρ H.get → Region.noSelect all = true →
    (FRel S w ρ a n F → (∃ ys, dQ (fA a) ps = some ys ∧ PRel S w ρ vs ys) → wpB P all (NoPanic (dc P Q s)) (Agree S w) (Ls ρ L w) m (left + 1) listed a w) ∧
    (FRel S w ρ a n (F.seto o.dst (some v)) → wpB P all (NoPanic (dc P Q s)) (Agree S w) (Ls ρ L w) m left (listed.setIfInBounds i true) a w)
theorem Ad {ps : List (Nat × Operand)} {vs : List (Nat × V)} {v : V} (hv : jq F ps = some vs) (k : GoP P K Q all L m left listed s n (F.seto o.dst none) H i o ps vs v) : Go P K Q (.drw all L m (left + 1) listed) s n F H := fun S w ρ a hr hi hF hs => by
 obtain ⟨ys, h1, h2⟩ := lK hF hv
 refine (k S w ρ a hr hi hs).1 ?_ ⟨ys, h1, h2⟩
 refine ⟨hF.size, hF.defers, ?_, fun j u hu => ?_⟩
 ·cases hd : o.dst with
  | none => exact hF.len
  | some d => have := hF.len; simpa [Fm.seto] using this
 ·cases hd : o.dst with
  | none => rw [hd] at hu; exact hF.get j u hu
  | some d =>
   rw [hd, Fm.get_eq] at hu
   simp only [Fm.seto, List.getElem?_set] at hu
   split at hu
   ·split at hu <;> simp at hu
   ·exact hF.get j u (by rw [Fm.get_eq]; exact hu)
theorem sB {w' : World} {b : Nat} (hc : Chg [] w w') : Up S (fun c => S c ∨ c = b) w w' ρ ρ := ⟨fun _ h => .inl h, fun c _ hlt => hc.block c hlt (by simp), fun _ _ h => h⟩
theorem zb {h : Nat → Ob} {w' : World} {b : Nat} (hr : HRel S w ρ h) (hc : Chg [] w w') (hb : b = w.heap.size) (hb' : b < w'.heap.size) : HRel (fun c => S c ∨ c = b) w' ρ h := by
 refine ⟨fun i => (hr.ob i).up (sB hc) (fun hf => ?_) (fun c hcc => hc.block c (eo (hr.ob i) hcc) (by simp)), fun i c hcc => ?_, hr.dis, fun c hcc => ?_⟩
 ·have := hr.ob i; rw [hf] at this; exact this
 ·rintro (h1 | h1)
  ·exact hr.sep i c hcc h1
  ·have := eo (hr.ob i) hcc; omega
 ·rcases hcc with h1 | h1
  ·exact Nat.lt_of_lt_of_le (hr.slt c h1) hc.size
  ·omega
theorem AS {h : Nat → Ob} {w' : World} {b : Nat} (hi : Inv K S w ρ h) (hc : Chg [] w w') (hb : b = w.heap.size) : Inv K (fun c => S c ∨ c = b) w' ρ h := by
 have h0 := hi.chg0 hc
 refine ⟨h0.chg, fun c hcc => .inl (hi.s0 c hcc), fun c hcc => ?_, hi.ow, hi.pin⟩
 rcases hcc with h1 | h1
 ·exact hi.s1 c h1
 ·have := hi.chg.size; exact .inr (.inr (by omega))
theorem vK {h : Nat → Ob} {t e : TypeId} {ps : List (Nat × Operand)} {vs : List (Nat × V)} {ys : List (Nat × Value)} {d : TD} {k : Nat} {ty : TypeId} {els : List V} (hT : TabOk P T) (hr : HRel S w ρ h) (hi : Inv K S w ρ h) (fr : Fr a n (fA a)) (hps : dQ (fA a) ps = some ys) (hpr : PRel S w ρ vs ys)
  {x1 x2 : Nat} {x3 : V} (ht : T.ty t = some ⟨x1, x2, x3, .sl e⟩) (he : T.ty e = some d) (hp : iw d.size 0 vs = some els) (hb : (Nat.beq els.length k && Nat.ble (k * d.size) 16777216 && Nat.ble k 16777216 && pureL els) = true) :
  ∃ x S' w', Runs P a ty (.buildSlice t k ps.toArray) w (.value x) w' ∧ HRel S' w' ρ h ∧ Inv K S' w' ρ h ∧ Up S S' w w' ρ ρ ∧ Chg [] w w' ∧ VRel S' w' ρ (.row d.size els) x := by
 simp only [Bool.and_eq_true, Nat.beq_eq] at hb
 obtain ⟨⟨⟨hl, hsm⟩, hm⟩, hpu⟩ := hb
 have hmm : k ≤ 16777216 := Nat.le_of_ble_eq_true hm
 obtain ⟨z, hz1, hz2⟩ := (hT.ty _ _ he).zeroT
 obtain ⟨h1, h2, h3⟩ := nC hpr hp
 have hidx : ps.map (·.1) = List.range k := by
  have : ps.map (·.1) = ys.map (·.1) := by rw [← fr.parts hps]; simp
  rw [this, h1, hl, List.range_eq_range']
 obtain ⟨w', b, g1, g2, g3, g4, g5⟩ := tA (P := P) (t := t) (m := k) fr hps ((hT.ty _ _ ht).sl rfl) (hT.ty _ _ he).size hz1 hidx h2 hsm rfl w ty
 have hlen := h3.length
 refine ⟨_, fun c => S c ∨ c = b, w', g1, zb hr g3 g4 g5, AS hi g3 g4, sB g3, g3, ?_⟩
 simp only [VRel]
 refine ⟨some ⟨b, 0, none⟩, k, _, by rw [hl], by omega, by simp only [maxLen]; omega, (h3.up (sB g3)).pure hpu, hlen, fun _ => ⟨b, 0, rfl, .inr rfl, g5, fun j hj => by rw [Nat.zero_add, g2.cell]⟩⟩
def nf (T : Tab) (all : Array Oper) (i : Nat) (vs : List (Nat × V)) : Option (Oper × List (Nat × Operand) × V) := match all[i]? with
 |some ⟨dst, .buildSlice t k ⟨ps⟩, ty, pp, af, none⟩ => match T.ty t with
  |some ⟨_, _, _, .sl e⟩ => match T.ty e with
   |some d => match iw d.size 0 vs with
    |some els => match Nat.beq els.length k && Nat.ble (k * d.size) 16777216 && Nat.ble k 16777216 && pureL els with
     | true => eu d.size fun sz => some (⟨dst, .buildSlice t k ⟨ps⟩, ty, pp, af, none⟩, ps, .row sz els)
     | false => none
    | none => none
   | none => none
  | _ => none
 | _ => none
variable {ps : List (Nat × Operand)} {vs : List (Nat × V)} {v : V}
theorem ti (hT : TabOk P T) (hp : nf T all i vs = some (o, ps, v)) (hr : HRel S w ρ H.get) (hiv : Inv K S w ρ H.get) (hF : FRel S w ρ a n F) {ys : List (Nat × Value)} (hps : dQ (fA a) ps = some ys) (hpr : PRel S w ρ vs ys) (hs : Region.noSelect all = true)
  (hl : (cf H.get L || (listed.setIfInBounds i true).getD m false) = true)
  (D : ∀ S w ρ a, HRel S w ρ H.get → Inv K S w ρ H.get → FRel S w ρ a n (F.seto o.dst (some v)) → wpB P all (NoPanic (dc P Q s)) (Agree S w) (Ls ρ L w) m left (listed.setIfInBounds i true) a w) :
  wpOp P all (NoPanic (dc P Q s)) i (fun a' w' => Agree S w w' ∧ (Ls ρ L w w' ∨ (listed.setIfInBounds i true).getD m false = true) ∧ wpB P all (NoPanic (dc P Q s)) (Agree S w) (Ls ρ L w) m left (listed.setIfInBounds i true) a' w') a w := by
 unfold nf at hp
 split at hp
 ·rename_i dst t k ps' ty pp af hi
  split at hp
  ·rename_i e ht
   split at hp
   ·rename_i d he
    split at hp
    ·rename_i els hrp
     split at hp
     ·rename_i hb
      rw [cy] at hp
      simp only [Option.some.injEq, Prod.mk.injEq] at hp
      obtain ⟨rfl, rfl, rfl⟩ := hp
      obtain ⟨x, S', w', g1, g2, g3, g4, g5, g6⟩ := vK (ty := ty) hT hr hiv hF.fr hps hpr ht he hrp hb
      unfold wpOp
      simp only [hi]
      rw [if_pos (cn hF (o := ⟨dst, .buildSlice t k ⟨ps'⟩, ty, pp, af, none⟩) rfl)]
      refine .inl ?_
      have hk := D S' w' ρ _ g2 g3 (cQ (hF.up g4) dst g6)
      unfold Oper.wp
      rw [g1 dst pp af none]
      refine kG g4 (fun b hb => g5.block b (hr.slt b hb) (by simp)) ((qf hl).imp (fun hl id hid x b hx hb => ?_) id) hk
      exact g5.block b (eo (hr.ob id) (jL hr hl id hid x b hx hb)) (by simp)
     ·cases hp
    ·cases hp
   ·cases hp
  ·cases hp
 ·cases hp
theorem BN (hT : TabOk P T) (hp : nf T all i vs = some (o, ps, v)) (hrd : Region.ready .any all listed = [i]) (hl : (cf H.get L || (listed.setIfInBounds i true).getD m false) = true)
  (kk : Go P K Q (.drw all L m left (listed.setIfInBounds i true)) s n (F.seto o.dst (some v)) H) : GoP P K Q all L m left listed s n F H i o ps vs v := fun S w ρ a hr hiv hs => by
 refine ⟨fun hF ⟨ys, hps, hpr⟩ => kR (S := S) hrd (ti hT hp hr hiv hF hps hpr hs hl fun S w ρ a hr hiv hF => kk S w ρ a hr hiv hF hs), fun hF => kk S w ρ a hr hiv hF hs⟩
theorem vX {j : Nat} {B Sx : World → Prop} {Q' : Exit → Act → World → Prop} (hrd : (match Region.ready .any all listed with | [x, y] => (Nat.beq x i && Nat.beq y j) || (Nat.beq x j && Nat.beq y i) | _ => false) = true)
  (h1 : wpOp P all Q' i (fun a' w' => B w' ∧ (Sx w' ∨ (listed.setIfInBounds i true).getD m false = true) ∧ wpB P all Q' B Sx m left (listed.setIfInBounds i true) a' w') a w)
  (h2 : wpOp P all Q' j (fun a' w' => B w' ∧ (Sx w' ∨ (listed.setIfInBounds j true).getD m false = true) ∧ wpB P all Q' B Sx m left (listed.setIfInBounds j true) a' w') a w) : wpB P all Q' B Sx m (left + 1) listed a w := by
 split at hrd
 ·rename_i x y hr
  refine ⟨fun h0 => (by rw [hr] at h0; cases h0), fun c hc => ?_⟩
  rw [hr] at hc
  simp only [Bool.or_eq_true, Bool.and_eq_true, Nat.beq_eq] at hrd
  simp only [List.mem_cons, List.not_mem_nil, or_false] at hc
  rcases hrd with ⟨rfl, rfl⟩ | ⟨rfl, rfl⟩
  ·rcases hc with rfl | rfl
   ·exact h1
   ·exact h2
  ·rcases hc with rfl | rfl
   ·exact h2
   ·exact h1
 ·cases hrd
theorem AB (hT : TabOk P T) (hp : nf T all i vs = some (o, ps, v)) {j : Nat} {oj : Oper} (hj : all[j]? = some oj) (hrd : (match Region.ready .any all listed with | [x, y] => (Nat.beq x i && Nat.beq y j) || (Nat.beq x j && Nat.beq y i) | _ => false) = true) (hrd1 : Region.ready .any all (listed.setIfInBounds i true) = [j])
  (hl : (cf H.get L || (listed.setIfInBounds i true).getD m false) = true) (hd : ∀ t, o.dst = some t → F.get t = none) (hne : tQ o.dst oj.dst = true) (hpn : nT oj.dst ps = true) (hcomm : (listed.setIfInBounds i true).setIfInBounds j true = (listed.setIfInBounds j true).setIfInBounds i true)
  {Post : V → Hp → Prop}
  (hx : ∀ S w ρ a, HRel S w ρ H.get → Inv K S w ρ H.get → FRel S w ρ a n F → ∀ (K2 : Act → World → Prop), (∀ x S' w' ρ' u H', Post u H' → HRel S' w' ρ' H'.get → Inv K S' w' ρ' H'.get → Up S S' w w' ρ ρ' → Agree S w w' → (Ls ρ L w w' ∨ ((listed.setIfInBounds j true).getD m false = true ∧ ((listed.setIfInBounds j true).setIfInBounds i true).getD m false = true)) → VRel S' w' ρ' u x → K2 (a.put oj.dst x) w') → wpOp P all (NoPanic (dc P Q s)) j K2 a w)
  (kk : ∀ u H', Post u H' → GoP P K Q all L m left (listed.setIfInBounds j true) s n (F.seto oj.dst (some u)) H' i o ps vs v) : GoP P K Q all L m (left + 1) listed s n F H i o ps vs v := fun S w ρ a hr hiv hs => by
 have D : ∀ S w ρ a, HRel S w ρ H.get → Inv K S w ρ H.get → FRel S w ρ a n (F.seto o.dst (some v)) → wpB P all (NoPanic (dc P Q s)) (Agree S w) (Ls ρ L w) m (left + 1) (listed.setIfInBounds i true) a w := fun S w ρ a hr hiv hF => by
  refine kR (S := S) hrd1 ?_
  refine hx S w ρ a hr hiv (zi hd hF) _ fun x S' w' ρ' u H' hP hr' hi' hu hA hL hv => ?_
  rw [hcomm]
  refine kG hu hA (hL.imp id (·.2)) ((kk u H' hP S' w' ρ' _ hr' hi' hs).2 ?_)
  rw [← zl hne]
  exact cQ (hF.up hu) oj.dst hv
 refine ⟨fun hF ⟨ys, hps, hpr⟩ => ?_, D S w ρ a hr hiv⟩
 refine vX hrd (ti hT hp hr hiv hF hps hpr hs hl D) ?_
 refine hx S w ρ a hr hiv hF _ fun x S' w' ρ' u H' hP hr' hi' hu hA hL hv => ?_
 refine kG hu hA (hL.imp id (·.1)) ((kk u H' hP S' w' ρ' _ hr' hi' hs).1 (cQ (hF.up hu) oj.dst hv) ⟨ys, ?_, hpr.up hu⟩)
 rw [zz hpn]; exact hps
end
section
variable {P : Program} {T : Tab} {K : Ctx} {Q : Exit → Act → World → Prop} {s : List EI} {n : Nat} {F : Fm} {H : Hp}
def lY (P : Program) (K : Ctx) (o : Oper) (L : List Nat) (ok : Bool) (n : Nat) (F : Fm) (H : Hp) (u : V) (H' : Hp) : Prop :=
  ∀ S w ρ a, HRel S w ρ H.get → Inv K S w ρ H.get → FRel S w ρ a n F → ∀ (Q' : Exit → Act → World → Prop) (K2 : Act → World → Prop),
    (∀ x S' w' ρ', HRel S' w' ρ' H'.get → Inv K S' w' ρ' H'.get → Up S S' w w' ρ ρ' → Agree S w w' → (Ls ρ L w w' ∨ ok = true) → VRel S' w' ρ' u x → K2 (a.put o.dst x) w') → o.wp P a w K2 Q'
theorem Ae (hT : TabOk P T) {o : Oper} {L : List Nat} {ok : Bool} {v : V} (hv : ke T H.get F o.op = some v) : lY P K o L ok n F H v H := fun S w ρ a hr hi hF Q' K2 k => by
 obtain ⟨x, h1, h2⟩ := oK (ty := o.type) hT hr hF hv
 have := k x S w ρ hr hi Up.refl Agree.refl (.inl kZ) h1
 obtain ⟨d, op, ty, ps, af, g⟩ := o
 unfold Oper.wp
 rw [h2 w Agree.refl d ps af g]
 exact this
theorem oV (hT : TabOk P T) {o : Oper} {L : List Nat} {ok : Bool} {v : Option V} {ed : ED} (hv : jF T H.get F H.nx o.op = some (v, ed)) (hc : ((cf H.get L && ed.clear L) || ok) = true) : lY P K o L ok n F H (v.getD (.tup [])) (H.app ed) := fun S w ρ a hr hi hF Q' K2 k => by
 obtain ⟨nx, w', ρ', h1, h2, h3⟩ := qi (ty := o.type) hT hr hF H.get_free hv
 have hr' := h2.hr
 have hi' := hi.eff h2
 rw [← Hp.get_app (mN hv)] at hr' hi'
 have hLs : Ls ρ L w w' ∨ ok = true := (qf hc).imp (fun h => by
  simp only [Bool.and_eq_true] at h
  exact vi hr h2 h.1 h.2) id
 have kk := fun x hx => k x S w' ρ' hr' hi' h2.up (mh hr h2) hLs hx
 obtain ⟨d, op, ty, ps, af, g⟩ := o
 unfold Oper.wp
 rw [h1 d ps af g]
 cases v with
 | none =>
  subst h3
  exact kk undef oA
 | some v =>
  obtain ⟨x, rfl, h4⟩ := h3
  exact kk x h4
theorem mZ {o : Oper} {L : List Nat} {ok : Bool} {fid : FuncId} {args : List Operand} {tys : Array TypeId} {vs : List V} {u : V} {H' : Hp} {L' : List Nat} (he : ce P fid = true) (ho : o.op = .call { callee := .value (.func fid), args := args.toArray, argTypes := tys }) (hv : it F args = some vs) (hC : CallR P K fid vs H L' (fun u' H'' => u' = u ∧ H'' = H')) (hL : L' = L ∨ ok = true) : lY P K o L ok n F H u H' := fun S w ρ a hr hi hF Q' K2 k => by
 obtain ⟨xs, h1, h2⟩ := oc hF hv
 have hcl := hC S w ρ xs hr hi h2
 obtain ⟨d, op, ty, ps, af, g⟩ := o
 simp only at ho
 subst ho
 have hx : (execOp a.eval ⟨d, .call { callee := .value (.func fid), args := args.toArray, argTypes := tys }, ty, ps, af, g⟩).run P w = .ok (.enter fid xs.toArray) w := by
  have e : args.toArray.map a.eval = xs.toArray := by rw [← hF.fr.vals h1]; simp
  simp only [execOp, resolve, e]
  simp [Act.eval, Deferred.ofValue, invoke, kC he]
 unfold Oper.wp
 rw [hx, Oper.upon_enter]
 refine hcl.mono fun e w1 hR => ?_
 obtain ⟨x, S', ρ', v, H'', rfl, ⟨rfl, rfl⟩, hr', hi', hu, hvr, hls⟩ := hR
 exact k x S' w1 ρ' hr' hi' hu (fun b hb => hu.blk b hb (hr.slt b hb)) (hL.imp (fun e => by subst e; exact hls) id) hvr
theorem ou {all : Array Oper} {L : List Nat} {m left i j : Nat} {listed : Array Bool} {oi oj : Oper} {ui uj : V} {Hi Hj : Hp} (hrd : (match Region.ready .any all listed with | [x, y] => (Nat.beq x i && Nat.beq y j) || (Nat.beq x j && Nat.beq y i) | _ => false) = true) (hi : all[i]? = some oi) (hj : all[j]? = some oj) (hwi : bv F all oi.guard = some true) (hwj : bv F all oj.guard = some true)
  (xi : lY P K oi L ((listed.setIfInBounds i true).getD m false) n F H ui Hi) (xj : lY P K oj L ((listed.setIfInBounds j true).getD m false) n F H uj Hj)
  (ki : Go P K Q (.drw all L m left (listed.setIfInBounds i true)) s n (F.seto oi.dst (some ui)) Hi) (kj : Go P K Q (.drw all L m left (listed.setIfInBounds j true)) s n (F.seto oj.dst (some uj)) Hj) : Go P K Q (.drw all L m (left + 1) listed) s n F H := fun S w ρ a hr hiv hF hs => by
 refine vX hrd ?_ ?_
 ·unfold wpOp
  simp only [hi]
  rw [if_pos (cn hF hwi)]
  exact .inl (xi S w ρ a hr hiv hF _ _ fun x S' w' ρ' hr' hi' hu hA hL hv => kG hu hA hL (ki S' w' ρ' _ hr' hi' (cQ (hF.up hu) oi.dst hv) hs))
 ·unfold wpOp
  simp only [hj]
  rw [if_pos (cn hF hwj)]
  exact .inl (xj S w ρ a hr hiv hF _ _ fun x S' w' ρ' hr' hi' hu hA hL hv => kG hu hA hL (kj S' w' ρ' _ hr' hi' (cQ (hF.up hu) oj.dst hv) hs))
end
end Go.Proofs.YtgpcdfbmbcognaaGreat
namespace Go.Proofs.YtgpcdfbmbcognaaGreat
open Go.RowKit
def atN : List Nat → Nat → Option Nat
 | [], _ => none
 | x :: _, 0 => some x
 | _ :: r, i + 1 => atN r i
theorem kp : ∀ (l : List Nat) (i : Nat), atN l i = l[i]?
 | [], i => by simp [atN]
 | x :: r, 0 => by simp [atN]
 | x :: r, i + 1 => by simp [atN, kp r i]
abbrev xN : V := .raw (.agg #[])
mutual
def V.ren (σ : List Nat) : V → V
 |.ptr id o => match atN σ id with
  | some j => .ptr j o
  | none => xN
 |.el id sz i o => match atN σ id with
  | some j => .el j sz i o
  | none => xN
 |.sl id => match atN σ id with
  | some j => .sl j
  | none => xN
 | .agg cs => .agg (renL σ cs)
 | .tup cs => .tup (renL σ cs)
 | .clo fid cs => .clo fid (renL σ cs)
 | .int k n => .int k n
 | .bool b => .bool b
 | .str l => .str l
 | .nilp => .nilp
 | .nils => .nils
 | .raw x => .raw x
 | .box cs o => .box cs o
 | .row sz els => .row sz els
 | .lk els => .lk els
def renL (σ : List Nat) : List V → List V
 | [] => []
 | v :: r => v.ren σ :: renL σ r
end
def Ob.ren (σ : List Nat) : Ob → Ob
 | .var t cs => .var t (renL σ cs)
 | .row e sz els => .row e sz (renL σ els)
 | o => o
def ei (σ : List Nat) (ρ : Nat → Option Value) : Nat → Option Value := fun j => match atN σ j with
 | some i => ρ i
 | none => none
section
variable {S : Nat → Prop} {w : World} {ρ : Nat → Option Value} {σ : List Nat}
theorem vj {x : Value} (h : VRel S w ρ xN x) : False := by simp only [VRel, Value.oneCell'] at h; exact absurd h.2 (by simp)
mutual
theorem VRel.ren : ∀ {v : V} {x : Value}, VRel S w ρ (v.ren σ) x → VRel S w (ei σ ρ) v x
 | .int _ _, x, h => by simp only [V.ren, VRel] at h ⊢; exact h
 | .bool _, x, h => by simp only [V.ren, VRel] at h ⊢; exact h
 | .str _, x, h => by simp only [V.ren, VRel] at h ⊢; exact h
 | .nilp, x, h => by simp only [V.ren, VRel] at h ⊢; exact h
 | .nils, x, h => by simp only [V.ren, VRel] at h ⊢; exact h
 | .raw _, x, h => by simp only [V.ren, VRel] at h ⊢; exact h
 | .box _ _, x, h => by simp only [V.ren, VRel] at h ⊢; exact h
 | .row _ _, x, h => by simp only [V.ren, VRel] at h ⊢; exact h
 | .lk _, x, h => by simp only [V.ren, VRel] at h ⊢; exact h
 | .ptr id o, x, h => by
  simp only [V.ren] at h
  split at h
  ·rename_i j hj
   simp only [VRel] at h ⊢
   obtain ⟨b, h1, h2⟩ := h
   exact ⟨b, by simp only [ei, hj]; exact h1, h2⟩
  ·exact (vj h).elim
 | .el id sz i o, x, h => by
  simp only [V.ren] at h
  split at h
  ·rename_i j hj
   simp only [VRel] at h ⊢
   obtain ⟨b, n, c, h1, h2⟩ := h
   exact ⟨b, n, c, by simp only [ei, hj]; exact h1, h2⟩
  ·exact (vj h).elim
 | .sl id, x, h => by
  simp only [V.ren] at h
  split at h
  ·rename_i j hj
   simp only [VRel] at h ⊢
   exact ⟨by simp only [ei, hj]; exact h.1, h.2⟩
  ·exact (vj h).elim
 | .agg cs, x, h => by
  simp only [V.ren, VRel] at h ⊢
  obtain ⟨xs, h1, h2⟩ := h
  exact ⟨xs, h1, LRel.ren h2⟩
 | .tup cs, x, h => by
  simp only [V.ren, VRel] at h ⊢
  obtain ⟨xs, h1, h2⟩ := h
  exact ⟨xs, h1, LRel.ren h2⟩
 | .clo fid cs, x, h => by
  simp only [V.ren, VRel] at h ⊢
  obtain ⟨xs, h1, h2⟩ := h
  exact ⟨xs, h1, LRel.ren h2⟩
theorem LRel.ren : ∀ {v : List V} {x : List Value}, LRel S w ρ (renL σ v) x → LRel S w (ei σ ρ) v x
 | [], x, h => by simp only [renL, LRel] at h ⊢; exact h
 | v :: r, x, h => by
  simp only [renL, LRel] at h ⊢
  obtain ⟨y, ys, h1, h2, h3⟩ := h
  exact ⟨y, ys, h1, VRel.ren h2, LRel.ren h3⟩
end
theorem qL : ∀ (l : List V), (renL σ l).length = l.length
 | [] => by simp [renL]
 | v :: r => by simp [renL, qL r]
theorem CRel.ren {sz : Nat} : ∀ {v : List V} {x : List Value}, CRel S w ρ sz (renL σ v) x → CRel S w (ei σ ρ) sz v x
 | [], x, h => by simp only [renL, CRel] at h ⊢; exact h
 | v :: r, x, h => by
  simp only [renL, CRel] at h ⊢
  obtain ⟨y, ys, h1, h2, h3, h4⟩ := h
  exact ⟨y, ys, h1, h2, VRel.ren h3, CRel.ren h4⟩
mutual
theorem VRel.bwd {ρ' : Nat → Option Value} (hσ : ∀ j x, ρ j = some x → ∃ i, atN σ j = some i ∧ ρ' i = some x) : ∀ {v : V} {x : Value}, VRel S w ρ v x → VRel S w ρ' (v.ren σ) x
 | .int _ _, x, h => by simp only [V.ren, VRel] at h ⊢; exact h
 | .bool _, x, h => by simp only [V.ren, VRel] at h ⊢; exact h
 | .str _, x, h => by simp only [V.ren, VRel] at h ⊢; exact h
 | .nilp, x, h => by simp only [V.ren, VRel] at h ⊢; exact h
 | .nils, x, h => by simp only [V.ren, VRel] at h ⊢; exact h
 | .raw _, x, h => by simp only [V.ren, VRel] at h ⊢; exact h
 | .box _ _, x, h => by simp only [V.ren, VRel] at h ⊢; exact h
 | .row _ _, x, h => by simp only [V.ren, VRel] at h ⊢; exact h
 | .lk _, x, h => by simp only [V.ren, VRel] at h ⊢; exact h
 | .ptr id o, x, h => by
  simp only [VRel] at h
  obtain ⟨b, h1, h2⟩ := h
  obtain ⟨i, h3, h4⟩ := hσ _ _ h1
  simp only [V.ren, h3, VRel]
  exact ⟨b, h4, h2⟩
 | .el id sz i o, x, h => by
  simp only [VRel] at h
  obtain ⟨b, n, c, h1, h2⟩ := h
  obtain ⟨i', h3, h4⟩ := hσ _ _ h1
  simp only [V.ren, h3, VRel]
  exact ⟨b, n, c, h4, h2⟩
 | .sl id, x, h => by
  simp only [VRel] at h
  obtain ⟨i, h3, h4⟩ := hσ _ _ h.1
  simp only [V.ren, h3, VRel]
  exact ⟨h4, h.2⟩
 | .agg cs, x, h => by
  simp only [V.ren, VRel] at h ⊢
  obtain ⟨xs, h1, h2⟩ := h
  exact ⟨xs, h1, LRel.bwd hσ h2⟩
 | .tup cs, x, h => by
  simp only [V.ren, VRel] at h ⊢
  obtain ⟨xs, h1, h2⟩ := h
  exact ⟨xs, h1, LRel.bwd hσ h2⟩
 | .clo fid cs, x, h => by
  simp only [V.ren, VRel] at h ⊢
  obtain ⟨xs, h1, h2⟩ := h
  exact ⟨xs, h1, LRel.bwd hσ h2⟩
theorem LRel.bwd {ρ' : Nat → Option Value} (hσ : ∀ j x, ρ j = some x → ∃ i, atN σ j = some i ∧ ρ' i = some x) : ∀ {v : List V} {x : List Value}, LRel S w ρ v x → LRel S w ρ' (renL σ v) x
 | [], x, h => by simp only [renL, LRel] at h ⊢; exact h
 | v :: r, x, h => by
  simp only [renL, LRel] at h ⊢
  obtain ⟨y, ys, h1, h2, h3⟩ := h
  exact ⟨y, ys, h1, VRel.bwd hσ h2, LRel.bwd hσ h3⟩
end
theorem CRel.bwd {ρ' : Nat → Option Value} (hσ : ∀ j x, ρ j = some x → ∃ i, atN σ j = some i ∧ ρ' i = some x) {sz : Nat} : ∀ {v : List V} {x : List Value}, CRel S w ρ sz v x → CRel S w ρ' sz (renL σ v) x
 | [], x, h => by simp only [renL, CRel] at h ⊢; exact h
 | v :: r, x, h => by
  simp only [renL, CRel] at h ⊢
  obtain ⟨y, ys, h1, h2, h3, h4⟩ := h
  exact ⟨y, ys, h1, h2, VRel.bwd hσ h3, CRel.bwd hσ h4⟩
end
def aA (v u : V) : Prop := ∀ S w ρ x, VRel S w ρ v x → VRel S w ρ u x
theorem aA.rfl {v : V} : aA v v := fun _ _ _ _ h => h
theorem aA.of_eq {v u : V} (h : v = u) : aA v u := h ▸ aA.rfl
theorem aA.nil (sz : Nat) : aA .nils (.row sz []) := fun S w ρ x h => by
 simp only [VRel] at h ⊢
 subst h
 exact ⟨none, 0, [], by simp, Nat.le_refl _, by decide, by simp [CRel], RowIn.none_⟩
def aD : List V → List V → Prop
 | [], us => us = []
 | v :: r, us => ∃ u q, us = u :: q ∧ aA v u ∧ aD r q
theorem aD.rel {S : Nat → Prop} {w : World} {ρ : Nat → Option Value} : ∀ {vs us : List V} {xs : List Value}, aD vs us → LRel S w ρ vs xs → LRel S w ρ us xs
 | [], us, xs, h, hl => by simp only [aD] at h; subst h; exact hl
 | v :: r, us, xs, h, hl => by
  simp only [aD] at h
  obtain ⟨u, q, rfl, h1, h2⟩ := h
  simp only [LRel] at hl ⊢
  obtain ⟨y, ys, rfl, h3, h4⟩ := hl
  exact ⟨y, ys, rfl, h1 _ _ _ _ h3, aD.rel h2 h4⟩
theorem aD.rfl : ∀ {vs : List V}, aD vs vs
 | [] => by simp [aD]
 | v :: r => ⟨v, r, by rfl, aA.rfl, aD.rfl⟩
theorem aA.agg {vs us : List V} (h : aD vs us) : aA (.agg vs) (.agg us) := fun S w ρ x hx => by
 simp only [VRel] at hx ⊢
 obtain ⟨xs, h1, h2⟩ := hx
 exact ⟨xs, h1, h.rel h2⟩
theorem aD.cons {v u : V} {r q : List V} (h : aA v u) (k : aD r q) : aD (v :: r) (u :: q) := ⟨u, q, by rfl, h, k⟩
theorem aD.nil : aD [] [] := by simp [aD]
def fg : Ob → Ob → Prop
 | _, .gone => True
 | .var t cs, .var t' cs' => t = t' ∧ aD cs cs'
 | .row e sz els, .row e' sz' els' => e = e' ∧ sz = sz' ∧ els = els'
 | .mp k e ks vs, .mp k' e' ks' vs' => k = k' ∧ e = e' ∧ ks = ks' ∧ vs = vs'
 | _, _ => False
def leF (σ : List Nat) : Fm → Fm → Prop
 | _, [] => True
 | [], none :: r' => leF σ [] r'
 | [], some _ :: _ => False
 | x :: r, none :: r' => leF σ r r'
 | x :: r, some u :: r' => (∃ v, x = some v ∧ aA v (u.ren σ)) ∧ leF σ r r'
def leH (σ : List Nat) (H : Hp) : List (Nat × Ob) → Prop
 | [] => True
 | (j, o) :: r => (∃ i, atN σ j = some i ∧ fg (H.get i) (o.ren σ)) ∧ leH σ H r
def dj : List Nat → Bool
 | [] => true
 | i :: r => !r.contains i && dj r
section
variable {P : Program} {T : Tab} {K : Ctx} {Q : Exit → Act → World → Prop} {s : List EI} {n : Nat} {F F' : Fm} {H H' : Hp} {σ : List Nat} {S : Nat → Prop} {w : World} {ρ : Nat → Option Value} {a : Act}
theorem pQ : ∀ {F F' : Fm}, leF σ F F' → ∀ i u, F'.get i = some u → ∃ v, F.get i = some v ∧ aA v (u.ren σ)
 | F, [], h, i, u, hu => by simp [Fm.get] at hu
 | [], none :: r', h, 0, u, hu => by simp [Fm.get] at hu
 | [], none :: r', h, i + 1, u, hu => by
  obtain ⟨v, h1, _⟩ := pQ (F := []) (F' := r') (by simpa [leF] using h) i u (by simpa [Fm.get] using hu)
  simp [Fm.get] at h1
 | [], some _ :: _, h, i, u, hu => by simp [leF] at h
 | x :: r, none :: r', h, 0, u, hu => by simp [Fm.get] at hu
 | x :: r, none :: r', h, i + 1, u, hu => by
  have := pQ (F := r) (F' := r') (by simpa [leF] using h) i u (by simpa [Fm.get] using hu)
  simpa [Fm.get] using this
 | x :: r, some u' :: r', h, 0, u, hu => by
  simp only [leF] at h
  simp only [Fm.get, Option.some.injEq] at hu
  subst hu
  obtain ⟨v, h1, h2⟩ := h.1
  exact ⟨v, by simp [Fm.get, h1], h2⟩
 | x :: r, some u' :: r', h, i + 1, u, hu => by
  simp only [leF] at h
  have := pQ h.2 i u (by simpa [Fm.get] using hu)
  simpa [Fm.get] using this
theorem Ax (h : leF σ F F') (hl : F'.length ≤ n) (hF : FRel S w ρ a n F) : FRel S w (ei σ ρ) a n F' :=
 ⟨hF.size, hF.defers, hl, fun i u hu => by
  obtain ⟨v, h1, h2⟩ := pQ h i u hu
  obtain ⟨x, h3, h4⟩ := hF.get i v h1
  exact ⟨x, h3, (h2 _ _ _ _ h4).ren⟩⟩
theorem rk : ∀ {l : List (Nat × Ob)}, leH σ H l → ∀ j, am l j = .gone ∨ ∃ i, atN σ j = some i ∧ fg (H.get i) ((am l j).ren σ)
 | [], _, j => .inl rfl
 | (k, o) :: r, h, j => by
  simp only [leH] at h
  simp only [am]
  split
  ·rename_i hb
   have := Nat.eq_of_beq_eq_true hb
   subst this
   exact .inr h.1
  ·exact rk h.2 j
theorem nd : ∀ {l : List Nat}, dj l = true → ∀ i j x, atN l i = some x → atN l j = some x → i = j
 | [], _, i, j, x, hi, hj => by simp [atN] at hi
 | y :: r, h, 0, 0, x, hi, hj => rfl
 | y :: r, h, 0, j + 1, x, hi, hj => by
  simp only [dj, Bool.and_eq_true, Bool.not_eq_true'] at h
  simp only [atN, Option.some.injEq] at hi hj
  subst hi
  rw [kp] at hj
  have := List.mem_of_getElem? hj
  simp [this] at h
 | y :: r, h, i + 1, 0, x, hi, hj => by
  simp only [dj, Bool.and_eq_true, Bool.not_eq_true'] at h
  simp only [atN, Option.some.injEq] at hi hj
  subst hj
  rw [kp] at hi
  have := List.mem_of_getElem? hi
  simp [this] at h
 | y :: r, h, i + 1, j + 1, x, hi, hj => by
  simp only [dj, Bool.and_eq_true] at h
  have := nd h.2 i j x (by simpa [atN] using hi) (by simpa [atN] using hj)
  omega
theorem Bg {i j : Nat} {o o' : Ob} (hij : atN σ j = some i) (h : fg o (o'.ren σ)) (ho' : o' ≠ .gone) (hr : gb S w ρ i o) : gb S w (ei σ ρ) j o' ∧ ∀ b, own (ei σ ρ) j o' b → own ρ i o b := by
 have hρ : ei σ ρ j = ρ i := by simp only [ei, hij]
 cases o' with
 | gone => exact absurd rfl ho'
 | free => cases o <;> simp [Ob.ren, fg] at h
 | ext bs Φ => cases o <;> simp [Ob.ren, fg] at h
 | mp kt' et' ks' vs' =>
  cases o <;> simp only [Ob.ren, fg] at h
  rename_i kt et ks vs
  obtain ⟨rfl, rfl, rfl, rfl⟩ := h
  obtain ⟨b, es, ck, h1, h2, h3, h4⟩ := hr
  exact ⟨⟨b, es, ck, by rw [hρ]; exact h1, h2, h3, h4⟩, fun c hc => by simp only [own] at hc ⊢; rw [hρ] at hc; exact hc⟩
 | var t' cs' =>
  cases o <;> simp only [Ob.ren, fg] at h
  rename_i t cs
  obtain ⟨rfl, h⟩ := h
  obtain ⟨b, xs, h1, h2, h3⟩ := hr
  exact ⟨⟨b, xs, by rw [hρ]; exact h1, h2, (h.rel h3).ren⟩, fun c hc => by simp only [own] at hc ⊢; rw [hρ] at hc; exact hc⟩
 | row e' sz' els' =>
  cases o <;> simp only [Ob.ren, fg] at h
  rename_i e sz els
  obtain ⟨rfl, rfl, rfl⟩ := h
  obtain ⟨v, xs, h1, h2, h3⟩ := hr
  rw [qL] at h2
  exact ⟨⟨v, xs, by rw [hρ]; exact h1, h2, h3.ren⟩, fun c hc => by
   obtain ⟨q, e1, e2⟩ := hc
   exact ⟨q, by rw [← hρ]; exact e1, e2⟩⟩
def aI (K : Ctx) (pv : List Nat) : Prop := ∀ id x, K.pin id = some x → id ∈ pv
def wI (σ pv : List Nat) : Bool := pv.all fun i => match atN σ i with | some j => Nat.beq i j | none => false
theorem uI (hH : leH σ H H'.es) (hn : dj σ = true) (hlen : Nat.ble σ.length H'.nx = true) (hr : HRel S w ρ H.get) : HRel S w (ei σ ρ) H'.get ∧ ∀ j b, own (ei σ ρ) j (H'.get j) b → ∃ i, atN σ j = some i ∧ own ρ i (H.get i) b := by
 have key : ∀ j, gb S w (ei σ ρ) j (H'.get j) ∧ ∀ b, own (ei σ ρ) j (H'.get j) b → ∃ i, atN σ j = some i ∧ own ρ i (H.get i) b := fun j => by
  unfold Hp.get
  split
  ·rcases rk hH j with e | ⟨i, h1, h2⟩
   ·rw [e]; exact ⟨trivial, fun b hb => hb.elim⟩
   ·by_cases hg : am H'.es j = .gone
    ·rw [hg]; exact ⟨trivial, fun b hb => hb.elim⟩
    ·obtain ⟨h3, h4⟩ := Bg h1 h2 hg (hr.ob i)
     exact ⟨h3, fun b hb => ⟨i, h1, h4 b hb⟩⟩
  ·rename_i hlt
   refine ⟨?_, fun b hb => hb.elim⟩
   show ei σ ρ j = none
   have hj : ¬ j < H'.nx := fun h => by rw [nlT h] at hlt; cases hlt
   have hl : σ.length ≤ H'.nx := Nat.le_of_ble_eq_true hlen
   simp only [ei, kp]
   rw [List.getElem?_eq_none (by omega)]
 refine ⟨⟨fun j => (key j).1, fun j b hb => ?_, fun i j b hbi hbj => ?_, hr.slt⟩, fun j => (key j).2⟩
 ·obtain ⟨i, _, h⟩ := (key j).2 b hb
  exact hr.sep i b h
 ·obtain ⟨i', h1, h2⟩ := (key i).2 b hbi
  obtain ⟨j', h3, h4⟩ := (key j).2 b hbj
  have := hr.dis i' j' b h2 h4
  subst this
  exact nd hn i j i' h1 h3
def EP.still : EP → Bool
 | .drw .. => false
 | _ => true
theorem go_sub {p : EP} (σ pv : List Nat) (hp : p.still = true) (hpin : aI K pv) (hF : leF σ F F') (hH : leH σ H H'.es) (hc : (dj σ && Nat.ble σ.length H'.nx && wI σ pv && Nat.ble F'.length n) = true) (k : Go P K Q p s n F' H') : Go P K Q p s n F H := fun S w ρ a hr hi hf => by
 simp only [Bool.and_eq_true] at hc
 obtain ⟨⟨⟨h1, h2⟩, h3⟩, h4⟩ := hc
 obtain ⟨g1, g2⟩ := uI hH h1 h2 hr
 have hi' : Inv K S w (ei σ ρ) H'.get := ⟨hi.chg, hi.s0, hi.s1, fun j b hb => by obtain ⟨i, _, h⟩ := g2 j b hb; exact hi.ow i b h, fun id x hx => by
  have hm := List.all_eq_true.1 h3 id (hpin id x hx)
  simp only [ei]
  split at hm
  ·rename_i j hj
   have := Nat.eq_of_beq_eq_true hm
   subst this
   first | exact hi.pin id x hx | (rw [hj]; exact hi.pin id x hx)
  ·cases hm⟩
 have := k S w (ei σ ρ) a g1 hi' (Ax hF (Nat.le_of_ble_eq_true h4) hf)
 cases p with
 | drw => cases hp
 | code c => exact this
 | ops all rest => exact this
 | ex e => exact this
def SP (K : Ctx) (Post : V → Hp → Prop) (e : Ending) (w' : World) : Prop :=
 ∃ x S' ρ' v H', e = .returned x ∧ Post v H' ∧ HRel S' w' ρ' H'.get ∧ Inv K S' w' ρ' H'.get ∧ VRel S' w' ρ' v x
def ij (PL : List Nat) (i : Nat) : Ob → Bool
 | .var _ _ => true
 | .ext _ _ => true
 | .mp _ _ _ _ => true
 | .row _ _ _ => PL.contains i
 | _ => false
def pq (PL : List Nat) (h : Nat → Ob) (ρ : Nat → Option Value) : Nat → Option Value := fun i => match ij PL i (h i) with
 | true => ρ i
 | false => none
def eV (PL : List Nat) (P : Program) (fid : FuncId) (vs : List V) (H0 : Hp) (Post : V → Hp → Prop) : Prop :=
 ∀ S w ρ xs, HRel S w ρ H0.get → LRel S w ρ vs xs → Calls P fid xs.toArray w (SP ⟨w, S, fun b => ∃ id, own ρ id (H0.get id) b, pq PL H0.get ρ⟩ Post)
abbrev Sum (P : Program) (fid : FuncId) (vs : List V) (H0 : Hp) (Post : V → Hp → Prop) : Prop := eV [] P fid vs H0 Post
theorem av {PL : List Nat} {fid : FuncId} {fn : Func} {c : Code} {vs : List V} {H0 : Hp} {Post : V → Hp → Prop} (N : Nat) (pv : List Nat) (hf : P.funcs[fid]? = some fn) (hb : fn.body = some c) (hN : fn.ntmps = N) (hl : Nat.ble vs.length N = true) (hpv : ∀ i, ij PL i (H0.get i) = true → i ∈ pv)
  (k : ∀ K, aI K pv → Go P K (bodyPost P fn (SP K Post)) (.code c) [] N (jC N vs) H0) : eV PL P fid vs H0 Post := fun S w ρ xs hr hx => by
 subst hN
 have hi : Inv ⟨w, S, fun b => ∃ id, own ρ id (H0.get id) b, pq PL H0.get ρ⟩ S w ρ H0.get := ⟨ChgP.refl _ _, fun _ h => h, fun _ h => .inl h, fun id b hb => .inl ⟨id, hb⟩, fun id x h => by
  simp only [pq] at h
  split at h
  ·exact h
  ·cases h⟩
 refine rg hf hb hl hr hi hx (k _ fun id x h => hpv id ?_)
 simp only [pq] at h
 split at h
 ·assumption
 ·cases h
theorem go_end (hT : TabOk P T) {fn : Func} {Post : V → Hp → Prop} {rs : List ResultVar} {vs : List V} {e : Exit} (hrs : fn.results = rs.toArray) (hv : oR T H.get F rs = some vs) (hP : Post (kS vs) H) (he : e = .ret ∨ e = .normal := by first | exact .inl rfl | exact .inr rfl) : Go P K (bodyPost P fn (SP K Post)) (.ex e) [] n F H := fun S w ρ a hr hi hF =>
 ret_go hT he hrs hr hF hv fun x hx => ⟨x, S, ρ, _, H, rfl, hP, hr, hi, hx⟩
theorem Sum.mono {PL : List Nat} {fid : FuncId} {vs : List V} {H0 : Hp} {Post Post' : V → Hp → Prop} (h : eV PL P fid vs H0 Post) (hp : ∀ v H, Post v H → Post' v H) : eV PL P fid vs H0 Post' := fun S w ρ xs hr hx => (h S w ρ xs hr hx).mono fun e w' ⟨x, S', ρ', v, H', h1, h2, h3⟩ => ⟨x, S', ρ', v, H', h1, hp v H' h2, h3⟩
theorem Sum.sub {PL : List Nat} {fid : FuncId} {vs us : List V} {H0 : Hp} {Post : V → Hp → Prop} (h : eV PL P fid us H0 Post) (hs : aD vs us) : eV PL P fid vs H0 Post := fun S w ρ xs hr hx => h S w ρ xs hr (hs.rel hx)
end
end Go.Proofs.YtgpcdfbmbcognaaGreat
namespace Go.Proofs.YtgpcdfbmbcognaaGreat
open Go.RowKit
def iF : List Nat → Nat → Option Nat
 | [], _ => none
 |x :: r, i => match Nat.beq x i with
  | true => some 0
  |false => match iF r i with
   | some j => some (j + 1)
   | none => none
theorem fF : ∀ {l : List Nat} {i j : Nat}, iF l i = some j → atN l j = some i
 | [], i, j, h => by cases h
 | x :: r, i, j, h => by
  simp only [iF] at h
  split at h
  ·rename_i hb
   have := Nat.eq_of_beq_eq_true hb
   injection h with h; subst h; subst this; rfl
  ·split at h
   ·rename_i j' hj
    injection h with h; subst h
    simpa [atN] using fF hj
   ·cases h
theorem sR : ∀ {l : List Nat} {i : Nat}, iF l i = none → ∀ j, atN l j ≠ some i
 | [], i, h, j => by simp [atN]
 | x :: r, i, h, 0 => by
  simp only [iF] at h
  split at h
  ·cases h
  ·rename_i hb
   simp only [atN, ne_eq, Option.some.injEq]
   exact Nat.ne_of_beq_eq_false hb
 | x :: r, i, h, j + 1 => by
  simp only [iF] at h
  split at h
  ·cases h
  ·split at h
   ·cases h
   ·rename_i hn
    simpa [atN] using sR hn j
theorem BG {l : List Nat} (hn : dj l = true) {i j : Nat} (h : atN l j = some i) : iF l i = some j := by
 cases hi : iF l i with
 | none => exact absurd h (sR hi j)
 | some k => rw [nd hn k j i (fF hi) h]
def sgN (PL : List Nat) (nx : Nat) (h0 : Nat → Ob) : Nat → List Nat → Nat → List Nat
 | 0, _, _ => []
 |m + 1, σ, j => match σ with
  | [] => (nx + j) :: sgN PL nx h0 m [] (j + 1)
  | i :: r => (match ij PL j (h0 j) with | true => i | false => nx + j) :: sgN PL nx h0 m r (j + 1)
theorem sO (PL : List Nat) (nx : Nat) (h0 : Nat → Ob) : ∀ (m : Nat) (σ : List Nat) (j : Nat), (sgN PL nx h0 m σ j).length = m
 | 0, _, _ => rfl
 | m + 1, [], j => by simp [sgN, sO PL nx h0 m]
 | m + 1, i :: r, j => by simp [sgN, sO PL nx h0 m]
theorem uU (PL : List Nat) (nx : Nat) (h0 : Nat → Ob) : ∀ (m : Nat) (σ : List Nat) (j k : Nat), k < m → atN (sgN PL nx h0 m σ j) k = some (match atN σ k, ij PL (j + k) (h0 (j + k)) with | some i, true => i | _, _ => nx + (j + k))
 | 0, _, _, k, h => by omega
 | m + 1, [], j, 0, h => by simp [sgN, atN]
 | m + 1, [], j, k + 1, h => by
  have := uU PL nx h0 m [] (j + 1) k (by omega)
  simp only [sgN, atN] at this ⊢
  rw [this]
  simp only [show j + 1 + k = j + (k + 1) by omega]
 | m + 1, i :: r, j, 0, h => by
  simp only [sgN, atN, Nat.add_zero]
  cases ij PL j (h0 j) <;> rfl
 | m + 1, i :: r, j, k + 1, h => by
  have := uU PL nx h0 m r (j + 1) k (by omega)
  simp only [sgN, atN] at this ⊢
  rw [this]
  simp only [show j + 1 + k = j + (k + 1) by omega]
def po (σ : List Nat) : List (Nat × Ob) → List (Nat × Ob)
 | [] => []
 |(j, o) :: r => match atN σ j with
  | some i => (i, o.ren σ) :: po σ r
  | none => po σ r
def mC (σ : List Nat) (nx : Nat) : List (Nat × Ob) → List (Nat × Ob)
 | [] => []
 |(j, o) :: r => match !σ.contains j && Nat.blt j nx with
  |true => match o with
   | .free => (j, .gone) :: mC σ nx r
   | o => (j, o) :: mC σ nx r
  | false => mC σ nx r
def la (PL : List Nat) (H : Hp) (σ : List Nat) (H0 H' : Hp) : Hp := ⟨H.nx + H'.nx, po (sgN PL H.nx H0.get H'.nx σ 0) H'.es ++ mC σ H.nx H.es⟩
theorem tt {σ : List Nat} (hn : dj σ = true) {i : Nat} : ∀ {l : List (Nat × Ob)}, am (po σ l) i = match iF σ i with | some j => (am l j).ren σ | none => .gone
 | [] => by simp only [po, am]; cases iF σ i <;> rfl
 | (k, o) :: r => by
  have ih := tt hn (i := i) (l := r)
  simp only [po]
  split
  ·rename_i i' hi'
   simp only [am]
   by_cases e : i' = i
   ·subst e
    rw [nbT, BG hn hi']
    simp only [nbT]
   ·rw [nbF e, ih]
    cases hj : iF σ i with
    | none => rfl
    | some j =>
     have hne : k ≠ j := fun e' => by subst e'; rw [fF hj] at hi'; injection hi' with h; exact e h.symm
     simp only [nbF hne]
  ·rename_i hk
   rw [ih]
   cases hj : iF σ i with
   | none => rfl
   | some j =>
    have hne : k ≠ j := fun e' => by subst e'; rw [fF hj] at hk; cases hk
    simp only [am, nbF hne]
theorem tp {σ : List Nat} {nx i : Nat} : ∀ {l : List (Nat × Ob)}, am (mC σ nx l) i = .gone ∨ (am (mC σ nx l) i = am l i ∧ σ.contains i = false ∧ i < nx ∧ am l i ≠ .free)
 | [] => .inl rfl
 | (k, o) :: r => by
  have ih := tp (σ := σ) (nx := nx) (i := i) (l := r)
  simp only [mC]
  by_cases hk : k = i
  ·subst hk
   cases hc : (!σ.contains k && Nat.blt k nx)
   ·simp only
    -- none of the entries for k is kept
    left
    have key : ∀ (l : List (Nat × Ob)), am (mC σ nx l) k = .gone := by
     intro l
     induction l with
     | nil => rfl
     | cons q t ih =>
      obtain ⟨m, o'⟩ := q
      simp only [mC]
      by_cases hm : m = k
      ·subst hm; rw [hc]; exact ih
      ·cases hc' : (!σ.contains m && Nat.blt m nx)
       ·exact ih
       ·cases o' <;> (simp only [am, nbF hm]; exact ih)
    exact key r
   ·simp only [Bool.and_eq_true, Bool.not_eq_true'] at hc
    have hlt : k < nx := by simpa [Nat.blt_eq] using hc.2
    cases o with
    | free => left; simp only [am, nbT]
    | gone => left; simp only [am, nbT]
    | var t cs => right; simp only [am, nbT]; exact ⟨trivial, hc.1, hlt, by simp⟩
    | row e sz els => right; simp only [am, nbT]; exact ⟨trivial, hc.1, hlt, by simp⟩
    | ext bs Φ => right; simp only [am, nbT]; exact ⟨trivial, hc.1, hlt, by simp⟩
    | mp kt et ks vs => right; simp only [am, nbT]; exact ⟨trivial, hc.1, hlt, by simp⟩
  ·have e2 : am ((k, o) :: r) i = am r i := by simp only [am, nbF hk]
   rw [e2]
   cases hc : (!σ.contains k && Nat.blt k nx)
   ·exact ih
   ·cases o <;> (simp only [am, nbF hk]; exact ih)
theorem pB : ∀ {l : List Nat}, (∀ i j x, atN l i = some x → atN l j = some x → i = j) → dj l = true
 | [], _ => rfl
 | y :: r, h => by
  simp only [dj, Bool.and_eq_true, Bool.not_eq_true']
  refine ⟨?_, pB fun i j x hi hj => by have := h (i + 1) (j + 1) x (by simpa [atN] using hi) (by simpa [atN] using hj); omega⟩
  cases hc : r.contains y
  ·rfl
  ·exfalso
   have hm : y ∈ r := by simpa using hc
   obtain ⟨k, hk, e⟩ := List.getElem_of_mem hm
   have := h 0 (k + 1) y (by simp [atN]) (by simp only [atN, kp]; rw [List.getElem?_eq_getElem hk, e])
   omega
section
variable {P : Program} {K : Ctx} {H H0 : Hp} {σ : List Nat} {S : Nat → Prop} {w : World}
theorem CZ {ρ ρ' : Nat → Option Value} {i j : Nat} {o : Ob} (hσ : ∀ j x, ρ j = some x → ∃ i, atN σ j = some i ∧ ρ' i = some x) (hj : atN σ j = some i) (hnn : ρ j = none → ρ' i = none ∨ o ≠ .free) (h : gb S w ρ j o) : gb S w ρ' i (o.ren σ) ∧ ∀ b, own ρ' i (o.ren σ) b → own ρ j o b := by
 have hs : ∀ x, ρ j = some x → ρ' i = some x := fun x hx => by
  obtain ⟨i', h1, h2⟩ := hσ j x hx
  rw [hj] at h1; injection h1 with h1; subst h1; exact h2
 cases o with
 | free => exact ⟨(hnn h).resolve_right (by simp), fun b hb => hb⟩
 | gone => exact ⟨trivial, fun b hb => hb⟩
 | ext bs Φ => exact ⟨h, fun b hb => hb⟩
 | mp kt et ks vs =>
  obtain ⟨b, es, ck, h1, h2, h3⟩ := h
  refine ⟨⟨b, es, ck, hs _ h1, h2, h3⟩, fun c hc => ?_⟩
  simp only [Ob.ren, own] at hc ⊢
  rw [hs _ h1] at hc; rw [h1]; exact hc
 | var t cs =>
  obtain ⟨b, xs, h1, h2, h3⟩ := h
  refine ⟨⟨b, xs, hs _ h1, h2, h3.bwd hσ⟩, fun c hc => ?_⟩
  simp only [Ob.ren, own] at hc ⊢
  rw [hs _ h1] at hc; rw [h1]; exact hc
 | row e sz els =>
  obtain ⟨v, xs, h1, h2, h3⟩ := h
  refine ⟨⟨v, xs, hs _ h1, by rw [qL]; exact h2, h3.bwd hσ⟩, fun c hc => ?_⟩
  obtain ⟨q, e1, e2⟩ := hc
  rw [hs _ h1] at e1
  cases e1
  exact ⟨v, h1, e2⟩
theorem ov {PL : List Nat} {fid : FuncId} {vs us : List V} {Post : V → Hp → Prop} (hS : eV PL P fid us H0 Post) (σ : List Nat) (hv : aD vs (renL σ us)) (hH : leH σ H H0.es) (hc : (dj σ && Nat.beq σ.length H0.nx && σ.all fun i => Nat.blt i H.nx) = true) (L : List Nat) (hL : (cf H.get L && L.all fun i => !σ.contains i) = true) :
  CallR P K fid vs H L (fun v' H'' => ∃ v H', Post v H' ∧ v' = v.ren (sgN PL H.nx H0.get H'.nx σ 0) ∧ H'' = la PL H σ H0 H') := fun S w ρ xs hr hi hx => by
 simp only [Bool.and_eq_true] at hc hL
 obtain ⟨⟨hc1, hc2⟩, hc3⟩ := hc
 have hlen : σ.length = H0.nx := by simpa using hc2
 have hσlt : ∀ j i, atN σ j = some i → i < H.nx := fun j i h => by
  rw [kp] at h
  have := List.all_eq_true.1 hc3 i (List.mem_of_getElem? h)
  simpa [Nat.blt_eq] using this
 obtain ⟨g1, g2⟩ := uI (H' := H0) hH hc1 (by simp [hlen]) hr
 refine (hS S w (ei σ ρ) xs g1 ((hv.rel hx).ren)).mono fun e w' hR => ?_
 obtain ⟨x, S', ρ1, v, H', rfl, hP, hr', hi', hvr⟩ := hR
 obtain ⟨τ, hτ⟩ : ∃ τ, τ = sgN PL H.nx H0.get H'.nx σ 0 := ⟨_, rfl⟩
 have hτlen : τ.length = H'.nx := by rw [hτ]; exact sO _ _ _ _ _ _
 have hτat : ∀ j, j < H'.nx → atN τ j = some (match atN σ j, ij PL j (H0.get j) with | some i, true => i | _, _ => H.nx + j) := fun j hj => by
  rw [hτ, uU _ _ _ _ _ _ _ hj]; simp only [Nat.zero_add]
 have hτlt : ∀ j i, atN τ j = some i → j < H'.nx := fun j i h => by
  rw [kp] at h
  have := (List.getElem?_eq_some_iff.1 h).1
  omega
 have hτc : ∀ j i, atN τ j = some i → (atN σ j = some i ∧ ij PL j (H0.get j) = true) ∨ i = H.nx + j := fun j i h => by
  have hj := hτlt j i h
  rw [hτat j hj] at h
  simp only [Option.some.injEq] at h
  cases h1 : atN σ j with
  | none => rw [h1] at h; exact .inr h.symm
  | some i1 =>
   rw [h1] at h
   cases h2 : ij PL j (H0.get j)
   ·rw [h2] at h; exact .inr h.symm
   ·rw [h2] at h; simp only at h; subst h; exact .inl ⟨rfl, rfl⟩
 have hτbd : ∀ j i, atN τ j = some i → i < H.nx + H'.nx := fun j i h => by
  have hj := hτlt j i h
  rcases hτc j i h with ⟨h1, _⟩ | h1
  ·have := hσlt j i h1; omega
  ·omega
 have hτinj : dj τ = true := pB fun j k i h1 h2 => by
  rcases hτc j i h1 with ⟨a1, _⟩ | a1 <;> rcases hτc k i h2 with ⟨a2, _⟩ | a2
  ·exact nd hc1 j k i a1 a2
  ·have := hσlt j i a1; omega
  ·have := hσlt k i a2; omega
  ·omega
 have hfreeρ : ∀ i, H.nx ≤ i → ρ i = none := fun i hi' => by
  have := hr.ob i
  have e : H.get i = .free := by
   unfold Hp.get
   have : Nat.blt i H.nx = false := by cases hb : Nat.blt i H.nx; rfl; simp [Nat.blt_eq] at hb; omega
   rw [this]
  rw [e] at this; exact this
 have hfree1 : ∀ j, H'.nx ≤ j → ρ1 j = none := fun j hj => by
  have := hr'.ob j
  have e : H'.get j = .free := by
   unfold Hp.get
   have : Nat.blt j H'.nx = false := by cases hb : Nat.blt j H'.nx; rfl; simp [Nat.blt_eq] at hb; omega
   rw [this]
  rw [e] at this; exact this
 obtain ⟨ρ2, hρ2⟩ : ∃ ρ2 : Nat → Option Value, ρ2 = fun i => if i < H.nx then ρ i else ρ1 (i - H.nx) := ⟨_, rfl⟩
 have hup : ∀ i y, ρ i = some y → ρ2 i = some y := fun i y h => by
  by_cases hlt : i < H.nx
  ·rw [hρ2]; simp only [hlt, if_true]; exact h
  ·rw [hfreeρ i (by omega)] at h; cases h
 have hpin : ∀ j, ij PL j (H0.get j) = true → ∀ y, ei σ ρ j = some y → ρ1 j = some y := fun j hv y h => hi'.pin j y (by simp only [pq, hv]; exact h)
 have hnoext : ∀ j i, atN σ j = some i → ∀ bs Φ, H0.get j = .ext bs Φ → False := fun j i h1 bs Φ hy' => by
  have hl := rk hH j
  have hlt : j < H0.nx := by
   rw [← hlen]
   rw [kp] at h1
   exact (List.getElem?_eq_some_iff.1 h1).1
  have e0 : H0.get j = am H0.es j := by unfold Hp.get; rw [nlT hlt]
  rw [← e0, hy'] at hl
  rcases hl with hl | ⟨i', _, hl⟩
  ·cases hl
  ·cases ho : H.get i' <;> rw [ho] at hl <;> simp [Ob.ren, fg] at hl
 have hτρ : ∀ j y, ρ1 j = some y → ∃ i, atN τ j = some i ∧ ρ2 i = some y := fun j y h => by
  have hj : j < H'.nx := by
   rcases Nat.lt_or_ge j H'.nx with h1 | h1
   ·exact h1
   ·rw [hfree1 j h1] at h; cases h
  obtain ⟨i, hji⟩ : ∃ i, atN τ j = some i := ⟨_, hτat j hj⟩
  refine ⟨i, hji, ?_⟩
  rcases hτc j i hji with ⟨h1, h2⟩ | h1
  · -- a variable keeps its place
   have hob := g1.ob j
   have hsome : ∃ y', ei σ ρ j = some y' ∨ ∃ bs Φ, H0.get j = .ext bs Φ := by
    cases ho : H0.get j with
    | var t cs => rw [ho] at hob; obtain ⟨b, _, hb, _⟩ := hob; exact ⟨_, .inl hb⟩
    | row e sz els => rw [ho] at hob; obtain ⟨b, _, hb, _⟩ := hob; exact ⟨_, .inl hb⟩
    | ext bs Φ => exact ⟨.bool true, .inr ⟨bs, Φ, rfl⟩⟩
    | mp kt et ks vs => rw [ho] at hob; obtain ⟨b, _, _, hb, _⟩ := hob; exact ⟨_, .inl hb⟩
    | _ => rw [ho] at h2; cases h2
   obtain ⟨y', hy' | ⟨bs, Φ, hy'⟩⟩ := hsome
   ·have := hpin j h2 y' hy'
    rw [h] at this; injection this with this; subst this
    simp only [ei, h1] at hy'
    exact hup _ _ hy'
   ·exact (hnoext j i h1 bs Φ hy').elim
  ·subst h1
   rw [hρ2]
   simp only [show ¬ H.nx + j < H.nx by omega, if_false, Nat.add_sub_cancel_left]
   exact h
 -- the call's objects under the caller's numbers
 obtain ⟨h1', hh1'⟩ : ∃ h1' : Nat → Ob, h1' = fun i => match iF τ i with | some j => (H'.get j).ren τ | none => if i < H.nx + H'.nx then .gone else .free := ⟨_, rfl⟩
 obtain ⟨h1, hh1⟩ : ∃ h1 : Nat → Ob, h1 = fun i => match σ.contains i with | true => H.get i | false => .gone := ⟨_, rfl⟩
 have hin : ∀ i, h1 i = H.get i ∨ h1 i = .gone := fun i => by rw [hh1]; simp only []; cases σ.contains i <;> simp
 have hkey : ∀ i, gb S' w' ρ2 i (h1' i) ∧ ∀ b, own ρ2 i (h1' i) b → ∃ j, iF τ i = some j ∧ own ρ1 j (H'.get j) b := fun i => by
  rw [hh1']
  simp only []
  cases hj : iF τ i with
  | none =>
   simp only []
   split
   ·exact ⟨trivial, fun b hb => hb.elim⟩
   ·rename_i hlt
    refine ⟨?_, fun b hb => hb.elim⟩
    show ρ2 i = none
    rw [hρ2]
    simp only [show ¬ i < H.nx by omega, if_false]
    exact hfree1 _ (by omega)
  | some j =>
   have hat := fF hj
   obtain ⟨k1, k2⟩ := CZ hτρ hat (fun hn => by
    have hjl := hτlt j i hat
    by_cases hf : H'.get j = .free
    ·left
     rcases hτc j i hat with ⟨a1, a2⟩ | a1
     · -- a variable is not free
      have hob := g1.ob j
      exfalso
      cases ho : H0.get j with
      | var t cs =>
       rw [ho] at hob; obtain ⟨b, _, hb, _⟩ := hob
       have := hpin j a2 _ hb
       rw [hn] at this; cases this
      | row e sz els =>
       rw [ho] at hob; obtain ⟨b, _, hb, _⟩ := hob
       have := hpin j a2 _ hb
       rw [hn] at this; cases this
      | ext bs Φ => exact hnoext j i a1 bs Φ ho
      | mp kt et ks vs =>
       rw [ho] at hob; obtain ⟨b, _, _, hb, _⟩ := hob
       have := hpin j a2 _ hb
       rw [hn] at this; cases this
      | _ => rw [ho] at a2; cases a2
     ·subst a1
      rw [hρ2]
      simp only [show ¬ H.nx + j < H.nx by omega, if_false, Nat.add_sub_cancel_left]
      exact hn
    ·exact .inr hf) (hr'.ob j)
   exact ⟨k1, fun b hb => ⟨j, rfl, k2 b hb⟩⟩
 have hX : ∀ b, (∃ id, own (ei σ ρ) id (H0.get id) b) → ∃ id, own ρ id (h1 id) b := fun b ⟨id, hb⟩ => by
  obtain ⟨i, h2, h3⟩ := g2 id b hb
  refine ⟨i, ?_⟩
  have hm : σ.contains i = true := by
   rw [kp] at h2
   simpa using List.mem_of_getElem? h2
  rw [hh1]; simp only [hm]; exact h3
 have hrel1 : HRel S' w' ρ2 h1' := ⟨fun i => (hkey i).1, fun i b hb => by obtain ⟨j, _, h⟩ := (hkey i).2 b hb; exact hr'.sep j b h, fun i k b hbi hbk => by
  obtain ⟨j, e1, h1⟩ := (hkey i).2 b hbi
  obtain ⟨j', e2, h2⟩ := (hkey k).2 b hbk
  have := hr'.dis j j' b h1 h2
  subst this
  have a1 := fF e1
  have a2 := fF e2
  rw [a1] at a2; injection a2, hr'.slt⟩
 have hinv1 : Inv ⟨w, S, fun b => ∃ id, own ρ id (h1 id) b, ρ⟩ S' w' ρ2 h1' := ⟨hi'.chg.mono hX, hi'.s0, fun b hb => by
  rcases hi'.s1 b hb with h | h | h
  ·exact .inl h
  ·exact .inr (.inl (hX b h))
  ·exact .inr (.inr h), fun i b hb => by
  obtain ⟨j, _, h⟩ := (hkey i).2 b hb
  rcases hi'.ow j b h with h | h
  ·exact .inl (hX b h)
  ·exact .inr h, fun id y h => hup id y h⟩
 have hh2 : ∀ i, ((la PL H σ H0 H').get i = h1' i ∨ (la PL H σ H0 H').get i = .gone) ∨ ((la PL H σ H0 H').get i = H.get i ∧ h1 i = .gone ∧ H.get i ≠ .free) := fun i => by
  by_cases hlt : i < H.nx + H'.nx
  ·have e0 : (la PL H σ H0 H').get i = am (po τ H'.es ++ mC σ H.nx H.es) i := by
    unfold Hp.get la
    simp only [nlT hlt, hτ]
   rw [e0]
   rcases vh (po τ H'.es) (mC σ H.nx H.es) i with e | ⟨_, e⟩
   ·rw [e, tt hτinj]
    cases hj : iF τ i with
    | none => exact .inl (.inr rfl)
    | some j =>
     left; left
     rw [hh1']
     simp only [hj]
     have hjl := hτlt j i (fF hj)
     unfold Hp.get
     rw [nlT hjl]
   ·rw [e]
    rcases tp (σ := σ) (nx := H.nx) (i := i) (l := H.es) with e1 | ⟨e1, e2, e3, e4⟩
    ·exact .inl (.inr e1)
    ·right
     have eH : H.get i = am H.es i := by unfold Hp.get; rw [nlT e3]
     refine ⟨by rw [e1, eH], ?_, by rw [eH]; exact e4⟩
     rw [hh1]; simp only [e2]
  ·left; left
   have e0 : (la PL H σ H0 H').get i = .free := by
    unfold Hp.get la
    have : Nat.blt i (H.nx + H'.nx) = false := by cases hb : Nat.blt i (H.nx + H'.nx); rfl; simp [Nat.blt_eq] at hb; omega
    simp only [this]
   rw [e0, hh1']
   simp only []
   cases hj : iF τ i with
   | none => simp only [hlt, if_false]
   | some j => have := hτbd j i (fF hj); omega
 obtain ⟨m1, m2, m3, m4⟩ := uL (h2 := (la PL H σ H0 H').get) hr hi hin hrel1 hinv1 hh2
 refine ⟨x, S', ρ2, _, _, rfl, ⟨v, H', hP, rfl, rfl⟩, m1, m2, m3, by rw [← hτ]; exact hvr.bwd hτρ, m4 L hL.1 fun id hid => ?_⟩
 have := List.all_eq_true.1 hL.2 id hid
 simp only [Bool.not_eq_true'] at this
 rw [hh1]; simp only [this]
end
end Go.Proofs.YtgpcdfbmbcognaaGreat
namespace Go.Proofs.YtgpcdfbmbcognaaGreat
open Go.RowKit
section
variable (T : Tab)
def opS (F : Fm) (H : Hp) (o : Oper) {α : Type} (c : Fm → Hp → Option α) : Option α :=
 match ke T H.get F o.op with
 | some v => F.puto o.dst (some v) fun F' => c F' H
 |none => match jF T H.get F H.nx o.op with
  |some (v, ed) => H.ap ed fun H' => match v with
   | some v => F.puto o.dst (some v) fun F' => c F' H'
   | none => F.puto o.dst (some (.tup [])) fun F' => c F' H'
  | none => none
def dZ : Nat → EP → List EI → Fm → Hp → Option (EP × List EI × Fm × Hp)
 | 0, p, s, F, H => some (p, s, F, H)
 |k + 1, .code c, s, F, H => match c with
  | .seq x y => dZ k (.code x) (.seq y :: s) F H
  | .block id c => dZ k (.code c) (.blk id :: s) F H
  | .skip => dZ k (.ex .normal) s F H
  | .ret => dZ k (.ex .ret) s F H
  | .exit id => dZ k (.ex (.exit id)) s F H
  |.cond c x y => match aR F c with
   | some (.bool true) => dZ k (.code x) s F H
   | some (.bool false) => dZ k (.code y) s F H
   | _ => none
  | .region _ ⟨l⟩ false => dZ k (.ops ⟨l⟩ l) s F H
  | _ => none
 |k + 1, .ops all rest, s, F, H => match rest with
  | [] => dZ k (.ex .normal) s F H
  |o :: r => match bv F all o.guard with
   | some true => opS T F H o fun F' H' => dZ k (.ops all r) s F' H'
   | some false => F.puto o.dst (some (.tup [])) fun F' => dZ k (.ops all r) s F' H
   | none => none
 |k + 1, .ex e, s, F, H => match s with
  | [] => none
  |.seq c :: s => match e with
   | .normal => dZ k (.code c) s F H
   | .exit i => dZ k (.ex (.exit i)) s F H
   | .ret => dZ k (.ex .ret) s F H
   | _ => none
  |.blk id :: s => match e with
   | .normal => dZ k (.ex .normal) s F H
   |.exit i => match Nat.beq i id with
    | true => dZ k (.ex .normal) s F H
    | false => dZ k (.ex (.exit i)) s F H
   | .ret => dZ k (.ex .ret) s F H
   | _ => none
  | _ => none
 | k + 1, .drw .., _, _, _ => none
def ln (all : Array Oper) (L : List Nat) : List (Nat × Nat) → Fm → Hp → Option (Fm × Hp)
 | [], F, H => some (F, H)
 |(i, f) :: r, F, H => match all[i]? with
  |some o => match bv F all o.guard with
   | some false => F.puto o.dst (some (.tup [])) fun F' => ln all L r F' H
   |some true => match f with
    |2 => match ke T H.get F o.op with
     | some v => F.puto o.dst (some v) fun F' => ln all L r F' H
     | none => none
    |3 => match nJ F o.op with
     |some id => match L.contains id with
      |true => match jF T H.get F H.nx o.op with
       | some (some v, _) => F.puto o.dst (some v) fun F' => ln all L r F' H
       | _ => none
      | false => none
     | none => none
    |f => match ke T H.get F o.op with
     | some v => F.puto o.dst (some v) fun F' => ln all L r F' H
     |none => match jF T H.get F H.nx o.op with
      |some (v, ed) => match (cf H.get L && ed.clear L) || Nat.beq f 1 with
       |true => H.ap ed fun H' => match v with
        | some v => F.puto o.dst (some v) fun F' => ln all L r F' H'
        | none => F.puto o.dst (some (.tup [])) fun F' => ln all L r F' H'
       | false => none
      | none => none
   | none => none
  | none => none
end
def yr (all : Array Oper) (m : Nat) : List (Nat × Nat) → Array Bool → Bool
 | [], _ => true
 |(i, f) :: r, listed => (match f with
  | 2 => !Nat.beq i m && Region.free .any all listed i && (Region.ready .any all listed).contains i
  | 3 => !Nat.beq i m && Region.free .any all listed i && (Region.ready .any all listed).contains i && lU .any all m i && !listed.getD m false
  | 1 => (match Region.ready .any all listed with | [j] => Nat.beq i j | _ => false) && (listed.setIfInBounds i true).getD m false
  | _ => (match Region.ready .any all listed with | [j] => Nat.beq i j | _ => false)) && yr all m r (listed.setIfInBounds i true)
def AT : List (Nat × Nat) → Array Bool → Array Bool
 | [], l => l
 | (i, _) :: r, l => AT r (l.setIfInBounds i true)
section
variable {P : Program} {T : Tab} {K : Ctx} {Q : Exit → Act → World → Prop} {p p' : EP} {s s' : List EI} {n : Nat} {F F' F1 F2 : Fm} {H H' H1 : Hp}
theorem DF (hT : TabOk P T) {all : Array Oper} {rest : List Oper} {o : Oper} {α : Type} {c : Fm → Hp → Option α} {x : α} (hw : bv F all o.guard = some true) (h : opS T F H o c = some x) : ∃ F' H', c F' H' = some x ∧ (Go P K Q (.ops all rest) s n F' H' → Go P K Q (.ops all (o :: rest)) s n F H) := by
 unfold opS at h
 split at h
 ·rename_i v hv
  rw [Fm.puto_eq] at h
  exact ⟨_, _, h, fun k => go_opP hT hw hv k⟩
 ·split at h
  ·rename_i v ed hv
   rw [Hp.ap_eq] at h
   cases v with
   | none =>
    simp only [Fm.puto_eq] at h
    exact ⟨_, _, h, fun k => go_opE hT hw hv k⟩
   | some v =>
    simp only [Fm.puto_eq] at h
    exact ⟨_, _, h, fun k => go_opE hT hw hv k⟩
  ·cases h
theorem cp (hT : TabOk P T) : ∀ (k : Nat) (p : EP) (s : List EI) (F : Fm) (H : Hp), dZ T k p s F H = some (p', s', F', H') → Go P K Q p' s' n F' H' → Go P K Q p s n F H
 | 0, p, s, F, H, h, kk => by
  simp only [dZ, Option.some.injEq, Prod.mk.injEq] at h
  obtain ⟨rfl, rfl, rfl, rfl⟩ := h
  exact kk
 | k + 1, .code c, s, F, H, h, kk => by
  unfold dZ at h
  split at h
  ·exact zP (cp hT k _ _ _ _ h kk)
  ·exact vl (cp hT k _ _ _ _ h kk)
  ·exact wc (cp hT k _ _ _ _ h kk)
  ·exact go_ret (cp hT k _ _ _ _ h kk)
  ·exact ws (cp hT k _ _ _ _ h kk)
  ·split at h
   ·exact uw ‹_› (cp hT k _ _ _ _ h kk)
   ·exact uc ‹_› (cp hT k _ _ _ _ h kk)
   ·cases h
  ·exact go_region (cp hT k _ _ _ _ h kk)
  ·cases h
 | k + 1, .ops all rest, s, F, H, h, kk => by
  unfold dZ at h
  split at h
  ·exact zS (cp hT k _ _ _ _ h kk)
  ·split at h
   ·obtain ⟨F1, H1, h1, h2⟩ := DF (P := P) (K := K) (Q := Q) (s := s) (n := n) hT ‹_› h
    exact h2 (cp hT k _ _ _ _ h1 kk)
   ·rw [Fm.puto_eq] at h
    exact zZ ‹_› (cp hT k _ _ _ _ h kk)
   ·cases h
 | k + 1, .ex e, s, F, H, h, kk => by
  unfold dZ at h
  split at h
  ·cases h
  ·split at h
   ·exact wk (cp hT k _ _ _ _ h kk)
   ·exact uN (cp hT k _ _ _ _ h kk)
   ·exact vf (cp hT k _ _ _ _ h kk)
   ·cases h
  ·split at h
   ·exact uX (cp hT k _ _ _ _ h kk)
   ·split at h
    ·exact uG ‹_› (cp hT k _ _ _ _ h kk)
    ·exact uD ‹_› (cp hT k _ _ _ _ h kk)
   ·exact va (cp hT k _ _ _ _ h kk)
   ·cases h
  ·cases h
 | k + 1, .drw .., s, F, H, h, kk => by simp [dZ] at h
variable {all : Array Oper} {rest : List Oper} {o : Oper} {L : List Nat} {m fuel : Nat} {listed : Array Bool}
theorem te {i : Nat} (h : (match Region.ready .any all listed with | [j] => Nat.beq i j | _ => false) = true) : Region.ready .any all listed = [i] := by
 split at h
 ·rename_i j hj
  rw [hj, Nat.eq_of_beq_eq_true h]
 ·cases h
theorem jB (hT : TabOk P T) : ∀ (is : List (Nat × Nat)) (fuel : Nat) (listed : Array Bool) (F : Fm) (H : Hp), yr all m is listed = true → ln T all L is F H = some (F', H') → Go P K Q (.drw all L m fuel (AT is listed)) s n F' H' → Go P K Q (.drw all L m (fuel + is.length) listed) s n F H
 | [], fuel, listed, F, H, hc, hr, k => by
  simp only [ln, Option.some.injEq, Prod.mk.injEq] at hr
  obtain ⟨rfl, rfl⟩ := hr
  exact k
 | (i, f) :: r, fuel, listed, F, H, hc, hr, k => by
  simp only [yr, Bool.and_eq_true] at hc
  obtain ⟨hc1, hc2⟩ := hc
  show Go P K Q (.drw all L m (fuel + r.length + 1) listed) s n F H
  unfold ln at hr
  split at hr
  ·rename_i o ho
   split at hr
   ·rename_i hw
    rw [Fm.puto_eq] at hr
    have ih := jB hT r fuel _ _ _ hc2 hr k
    have single : (match Region.ready .any all listed with | [j] => Nat.beq i j | _ => false) = true → Go P K Q (.drw all L m (fuel + r.length + 1) listed) s n F H := fun hx => go_d1S (te hx) ho hw ih
    split at hc1
    ·simp only [Bool.and_eq_true, Bool.not_eq_true'] at hc1
     exact yp hc1.1.1 ho hc1.1.2 hc1.2 hw ih
    ·simp only [Bool.and_eq_true, Bool.not_eq_true'] at hc1
     exact yp hc1.1.1.1.1 ho hc1.1.1.1.2 hc1.1.1.2 hw ih
    ·simp only [Bool.and_eq_true] at hc1
     exact single hc1.1
    ·exact single hc1
   ·rename_i hw
    split at hr
    ·split at hr
     ·rename_i v hv
      rw [Fm.puto_eq] at hr
      have ih := jB hT r fuel _ _ _ hc2 hr k
      simp only [Bool.and_eq_true, Bool.not_eq_true'] at hc1
      exact By hT hc1.1.1 ho hc1.1.2 hc1.2 hw hv ih
     ·cases hr
    ·split at hr
     ·rename_i id hid
      split at hr
      ·rename_i hL
       split at hr
       ·rename_i v ed hv
        rw [Fm.puto_eq] at hr
        have ih := jB hT r fuel _ _ _ hc2 hr k
        simp only [Bool.and_eq_true, Bool.not_eq_true'] at hc1
        exact Bv hT hc1.1.1.1.1 hc1.1.2 hc1.2 ho hc1.1.1.1.2 hc1.1.1.2 hw hid hL hv ih
       ·cases hr
      ·cases hr
     ·cases hr
    ·rename_i h2 h3
     have hs : (match Region.ready .any all listed with | [j] => Nat.beq i j | _ => false) = true ∧ (Nat.beq f 1 = true → (listed.setIfInBounds i true).getD m false = true) := by
      split at hc1
      ·exact absurd rfl h2
      ·exact absurd rfl h3
      ·simp only [Bool.and_eq_true] at hc1
       exact ⟨hc1.1, fun _ => hc1.2⟩
      ·rename_i h1
       exact ⟨hc1, fun hb => absurd (Nat.eq_of_beq_eq_true hb) h1⟩
     have hrd := te hs.1
     split at hr
     ·rename_i v hv
      rw [Fm.puto_eq] at hr
      have ih := jB hT r fuel _ _ _ hc2 hr k
      exact yI hrd ho hw (fun S w ρ a hr hF => oK hT hr hF hv) ih
     ·split at hr
      ·rename_i v ed hv
       split at hr
       ·rename_i hcl
        rw [Hp.ap_eq] at hr
        have hcl' : ((cf H.get L && ed.clear L) || (listed.setIfInBounds i true).getD m false) = true := by
         rcases qf hcl with h | h
         ·rw [h]; rfl
         ·rw [hs.2 h]; simp
        cases v with
        | none =>
         simp only [Fm.puto_eq] at hr
         exact ul hrd ho hw (fun S w ρ a hr hF => qi hT hr hF H.get_free hv) (mN hv) hcl' (jB hT r fuel _ _ _ hc2 hr k)
        | some v =>
         simp only [Fm.puto_eq] at hr
         exact ul hrd ho hw (fun S w ρ a hr hF => qi hT hr hF H.get_free hv) (mN hv) hcl' (jB hT r fuel _ _ _ hc2 hr k)
       ·cases hr
      ·cases hr
   ·cases hr
  ·cases hr
theorem mb {d : Nat} {v v' : V} (hd : F.get d = some v) (hs : aA v v') (k : Go P K Q p s n (F.set d (some v')) H) : Go P K Q p s n F H := fun S w ρ a hr hi hF => by
 refine k S w ρ a hr hi ⟨hF.size, hF.defers, by have := hF.len; simpa using this, fun i u hu => ?_⟩
 rw [Fm.get_eq, List.getElem?_set] at hu
 split at hu
 ·rename_i e
  subst e
  split at hu
  ·simp only [Option.bind_some, id_eq, Option.some.injEq] at hu
   subst hu
   obtain ⟨x, h1, h2⟩ := hF.get d v hd
   exact ⟨x, h1, hs _ _ _ _ h2⟩
  ·cases hu
 ·exact hF.get i u (by rw [Fm.get_eq]; exact hu)
theorem gB {e : Bool} (d : Nat) (hd : F.get d = some (.bool e)) (h1 : F.put d (some (.bool true)) id = F1) (h2 : F.put d (some (.bool false)) id = F2) (kT : e = true → Go P K Q p s n F1 H) (kF : e = false → Go P K Q p s n F2 H) : Go P K Q p s n F H := by
 rw [Fm.put_eq] at h1 h2
 subst h1 h2
 cases he : e with
 | true => exact mb hd (by rw [he]; exact aA.rfl) (kT he)
 | false => exact mb hd (by rw [he]; exact aA.rfl) (kF he)
theorem gT {e : Bool} (d : Nat) (hd : F.get d = some (.bool e)) (he : e = true) (h1 : F.put d (some (.bool true)) id = F1) (k : Go P K Q p s n F1 H) : Go P K Q p s n F H := by
 rw [Fm.put_eq] at h1; subst h1
 exact mb hd (by rw [he]; exact aA.rfl) k
theorem gF {e : Bool} (d : Nat) (hd : F.get d = some (.bool e)) (he : e = false) (h1 : F.put d (some (.bool false)) id = F1) (k : Go P K Q p s n F1 H) : Go P K Q p s n F H := by
 rw [Fm.put_eq] at h1; subst h1
 exact mb hd (by rw [he]; exact aA.rfl) k
theorem gV {v : V} (d : Nat) (v' : V) (hd : F.get d = some v) (he : v = v') (h1 : F.put d (some v') id = F1) (k : Go P K Q p s n F1 H) : Go P K Q p s n F H := by
 rw [Fm.put_eq] at h1; subst h1
 exact mb hd (by rw [he]; exact aA.rfl) k
theorem aG {m l : Int} (h : -9223372036854775808 ≤ m ∧ m ≤ 9223372036854775807) (e : m = l) : V.int .i64 (IntKind.i64.wrap m) = .int .i64 l := by
 subst e
 rw [IntWalk.i64_in _ (by omega)]
def slT (T : Tab) (t : TypeId) : Option (TypeId × Nat) := match T.ty t with
 |some ⟨_, _, _, .sl e⟩ => match T.ty e with
  | some ⟨sz, _, _, _⟩ => some (e, sz)
  | none => none
 | _ => none
theorem sg (hT : TabOk P T) {t e : TypeId} {sz : Nat} (h : slT T t = some (e, sz)) : P.underlying t = some (.slice e) ∧ df P e = some sz := by
 unfold slT at h
 split at h
 ·rename_i ht
  split at h
  ·rename_i he
   simp only [Option.some.injEq, Prod.mk.injEq] at h
   obtain ⟨rfl, rfl⟩ := h
   exact ⟨(hT.ty _ _ ht).sl rfl, (hT.ty _ _ he).size⟩
  ·cases h
 ·cases h
theorem yIR (hT : TabOk P T) {t e : TypeId} {x y : Operand} {sz i : Nat} {els : List V} {v : V} {ty : TypeId} (ht : slT T t = some (e, sz)) (hx : aR F x = some (.row sz els)) (hy : aR F y = some (.int .i64 (i : Int))) (hi : els[i]? = some v) : ∀ S w ρ a, HRel S w ρ H.get → FRel S w ρ a n F → Yld P S w ρ a ty (.indexAddr t x y) (.box v.cells 0) := fun S w ρ a hr hF =>
 p_idxR hF.fr (sg hT ht).1 (sg hT ht).2 (aj hF hx) (aj hF hy) hi
theorem yIO (hT : TabOk P T) {t e e' : TypeId} {x y : Operand} {id sz i : Nat} {els : List V} {ty : TypeId} (ht : slT T t = some (e, sz)) (hx : aR F x = some (.sl id)) (ho : H.get id = .row e' sz els) (hy : aR F y = some (.int .i64 (i : Int))) (hi : i < els.length) : ∀ S w ρ a, HRel S w ρ H.get → FRel S w ρ a n F → Yld P S w ρ a ty (.indexAddr t x y) (.el id sz i 0) := fun S w ρ a hr hF =>
 p_idxO hr ho hF.fr (sg hT ht).1 (sg hT ht).2 (aj hF hx) (aj hF hy) hi
theorem gY {v : V} (hy : ∀ S w ρ a, HRel S w ρ H.get → FRel S w ρ a n F → Yld P S w ρ a o.type o.op v) (hw : bv F all o.guard = some true) (h1 : F.puto o.dst (some v) id = F1) (k : Go P K Q (.ops all rest) s n F1 H) : Go P K Q (.ops all (o :: rest)) s n F H := by
 rw [Fm.puto_eq] at h1; subst h1
 exact go_opY hw hy k
mutual
def mapV (f : V → V) : V → V
 | .agg cs => .agg (mapVs f cs)
 | .tup cs => .tup (mapVs f cs)
 | .clo fid cs => .clo fid (mapVs f cs)
 | .sl j => f (.sl j)
 | .int k n => f (.int k n)
 | .bool b => f (.bool b)
 | .str l => f (.str l)
 | .nilp => f .nilp
 | .nils => f .nils
 | .raw x => f (.raw x)
 | .ptr i o => f (.ptr i o)
 | .el i sz j o => f (.el i sz j o)
 | .box cs o => f (.box cs o)
 | .row sz els => f (.row sz els)
 | .lk els => f (.lk els)
def mapVs (f : V → V) : List V → List V
 | [] => []
 | v :: r => mapV f v :: mapVs f r
end
mutual
theorem VRel.mapV {S S' : Nat → Prop} {w : World} {ρ : Nat → Option Value} {f : V → V} (hf : ∀ v x, VRel S w ρ v x → VRel S' w ρ (f v) x) : ∀ {v : V} {x : Value}, VRel S w ρ v x → VRel S' w ρ (mapV f v) x
 | .int _ _, x, h => by simp only [Go.Proofs.YtgpcdfbmbcognaaGreat.mapV]; exact hf _ _ h
 | .bool _, x, h => by simp only [Go.Proofs.YtgpcdfbmbcognaaGreat.mapV]; exact hf _ _ h
 | .str _, x, h => by simp only [Go.Proofs.YtgpcdfbmbcognaaGreat.mapV]; exact hf _ _ h
 | .nilp, x, h => by simp only [Go.Proofs.YtgpcdfbmbcognaaGreat.mapV]; exact hf _ _ h
 | .nils, x, h => by simp only [Go.Proofs.YtgpcdfbmbcognaaGreat.mapV]; exact hf _ _ h
 | .raw _, x, h => by simp only [Go.Proofs.YtgpcdfbmbcognaaGreat.mapV]; exact hf _ _ h
 | .box _ _, x, h => by simp only [Go.Proofs.YtgpcdfbmbcognaaGreat.mapV]; exact hf _ _ h
 | .row _ _, x, h => by simp only [Go.Proofs.YtgpcdfbmbcognaaGreat.mapV]; exact hf _ _ h
 | .lk _, x, h => by simp only [Go.Proofs.YtgpcdfbmbcognaaGreat.mapV]; exact hf _ _ h
 | .ptr _ _, x, h => by simp only [Go.Proofs.YtgpcdfbmbcognaaGreat.mapV]; exact hf _ _ h
 | .el _ _ _ _, x, h => by simp only [Go.Proofs.YtgpcdfbmbcognaaGreat.mapV]; exact hf _ _ h
 | .sl j, x, h => by simp only [Go.Proofs.YtgpcdfbmbcognaaGreat.mapV]; exact hf _ _ h
 | .agg cs, x, h => by
  simp only [Go.Proofs.YtgpcdfbmbcognaaGreat.mapV, VRel] at h ⊢
  obtain ⟨xs, h1, h2⟩ := h
  exact ⟨xs, h1, LRel.mapV hf h2⟩
 | .tup cs, x, h => by
  simp only [Go.Proofs.YtgpcdfbmbcognaaGreat.mapV, VRel] at h ⊢
  obtain ⟨xs, h1, h2⟩ := h
  exact ⟨xs, h1, LRel.mapV hf h2⟩
 | .clo fid cs, x, h => by
  simp only [Go.Proofs.YtgpcdfbmbcognaaGreat.mapV, VRel] at h ⊢
  obtain ⟨xs, h1, h2⟩ := h
  exact ⟨xs, h1, LRel.mapV hf h2⟩
theorem LRel.mapV {S S' : Nat → Prop} {w : World} {ρ : Nat → Option Value} {f : V → V} (hf : ∀ v x, VRel S w ρ v x → VRel S' w ρ (f v) x) : ∀ {v : List V} {x : List Value}, LRel S w ρ v x → LRel S' w ρ (mapVs f v) x
 | [], x, h => by simp only [mapVs, LRel] at h ⊢; exact h
 | v :: r, x, h => by
  simp only [mapVs, LRel] at h ⊢
  obtain ⟨y, ys, h1, h2, h3⟩ := h
  exact ⟨y, ys, h1, VRel.mapV hf h2, LRel.mapV hf h3⟩
end
def kl (f : V → V) : Fm → Fm
 | [] => []
 | none :: r => none :: kl f r
 | some v :: r => some (mapV f v) :: kl f r
theorem rj {f : V → V} : ∀ (F : Fm) (i : Nat), (kl f F).get i = (F.get i).map (mapV f)
 | [], i => by simp [kl, Fm.get]
 | none :: r, 0 => by simp [kl, Fm.get]
 | some v :: r, 0 => by simp [kl, Fm.get]
 | none :: r, i + 1 => by simp [kl, Fm.get, rj r i]
 | some v :: r, i + 1 => by simp [kl, Fm.get, rj r i]
theorem rb {f : V → V} : ∀ (F : Fm), (kl f F).length = F.length
 | [] => rfl
 | none :: r => by simp [kl, rb r]
 | some v :: r => by simp [kl, rb r]
def jW (f : V → V) (id : Nat) : List (Nat × Ob) → List (Nat × Ob)
 | [] => []
 |(j, o) :: r => match Nat.beq j id with
  | true => jW f id r
  |false => match o with
   | .var t cs => (j, .var t (mapVs f cs)) :: jW f id r
   | o => (j, o) :: jW f id r
theorem pC {f : V → V} {id i : Nat} : ∀ {l : List (Nat × Ob)}, am (jW f id l) i = if i = id then .gone else match am l i with | .var t cs => .var t (mapVs f cs) | o => o
 | [] => by simp [jW, am]
 | (j, o) :: r => by
  have ih := pC (f := f) (id := id) (i := i) (l := r)
  simp only [jW]
  by_cases hj : j = id
  ·subst hj
   rw [nbT]
   simp only []
   rw [ih]
   by_cases hi : i = j
   ·simp [hi]
   ·rw [if_neg hi, if_neg hi]
    simp only [am, nbF (Ne.symm hi)]
  ·rw [nbF hj]
   simp only []
   by_cases hi : j = i
   ·subst hi
    rw [if_neg hj]
    cases o <;> simp only [am, nbT]
   ·have e2 : am ((j, o) :: r) i = am r i := by simp only [am, nbF hi]
    rw [e2, ← ih]
    cases o <;> simp only [am, nbF hi]
theorem go_frz {f : V → V} {id : Nat} (hid : H.get id ≠ .free) (hf : ∀ S w ρ, HRel S w ρ H.get → ∀ v x, VRel S w ρ v x → VRel (fun b => S b ∨ own ρ id (H.get id) b) w ρ (f v) x) (h1 : kl f F = F1) (h2 : (⟨H.nx, jW f id H.es⟩ : Hp) = H1) (k : Go P K Q p s n F1 H1) : Go P K Q p s n F H := fun S w ρ a hr hi hF => by
 subst h1 h2
 obtain ⟨g1, g2⟩ := fG (id := id) hr
 have hlt : id < H.nx := by
  rcases Nat.lt_or_ge id H.nx with h | h
  ·exact h
  ·exfalso; apply hid
   unfold Hp.get
   have : Nat.blt id H.nx = false := by cases hb : Nat.blt id H.nx; rfl; simp [Nat.blt_eq] at hb; omega
   rw [this]
 have hg : ∀ i, (⟨H.nx, jW f id H.es⟩ : Hp).get i = if i = id then .gone else match H.get i with | .var t cs => .var t (mapVs f cs) | o => o := fun i => by
  unfold Hp.get
  by_cases hi : i = id
  ·subst hi
   simp only [nlT hlt, if_true, pC]
  ·simp only [if_neg hi]
   cases hb : Nat.blt i H.nx
   ·rfl
   ·simp only [pC, if_neg hi]
 have hob : ∀ i, i ≠ id → own ρ i ((⟨H.nx, jW f id H.es⟩ : Hp).get i) = own ρ i (H.get i) := fun i hii => by
  rw [hg i, if_neg hii]
  cases H.get i <;> rfl
 have hhr : HRel (fun b => S b ∨ own ρ id (H.get id) b) w ρ (⟨H.nx, jW f id H.es⟩ : Hp).get := by
  have hne : ∀ i b, own ρ i ((⟨H.nx, jW f id H.es⟩ : Hp).get i) b → i ≠ id ∧ own ρ i (H.get i) b := fun i b hb => by
   by_cases hii : i = id
   ·subst hii; rw [hg i, if_pos rfl] at hb; exact hb.elim
   ·rw [hob i hii] at hb; exact ⟨hii, hb⟩
  refine ⟨fun i => ?_, fun i b hb => ?_, fun i j b hbi hbj => hr.dis i j b (hne i b hbi).2 (hne j b hbj).2, g1.slt⟩
  ·rw [hg i]
   by_cases hii : i = id
   ·rw [if_pos hii]; trivial
   ·rw [if_neg hii]
    have h0 := g1.ob i
    rw [bW _ _ hii] at h0
    have h1 := hr.ob i
    cases ho : H.get i with
    | var t cs =>
     rw [ho] at h1
     obtain ⟨b, xs, q1, q2, q3⟩ := h1
     exact ⟨b, xs, q1, q2, q3.mapV (hf S w ρ hr)⟩
    | _ => rw [ho] at h0; exact h0
  ·have := hne i b hb
   exact g1.sep i b (by rw [bW _ _ this.1]; exact this.2)
 have hii : Inv K (fun b => S b ∨ own ρ id (H.get id) b) w ρ (⟨H.nx, jW f id H.es⟩ : Hp).get := by
  have h0 := hi.frz hr id
  refine ⟨h0.chg, h0.s0, h0.s1, fun i b hb => ?_, h0.pin⟩
  by_cases hii : i = id
  ·subst hii; rw [hg i, if_pos rfl] at hb; exact hb.elim
  ·rw [hob i hii] at hb; exact hi.ow i b hb
 have := k _ w ρ a hhr hii ⟨hF.size, hF.defers, by rw [rb]; exact hF.len, fun i u hu => by
  rw [rj] at hu
  obtain ⟨v, h3, h4⟩ := Option.map_eq_some_iff.1 hu
  obtain ⟨x, h5, h6⟩ := hF.get i v h3
  exact ⟨x, h5, by rw [← h4]; exact h6.mapV (hf S w ρ hr)⟩⟩
 cases p with
 | drw all L m left listed => exact fun hs => re (oO (fun b hb => .inl hb) Agree.refl) (fun x _ h => h) _ _ _ _ (this hs)
 | code c => exact this
 | ops all rest => exact this
 | ex e => exact this
def fzR (id sz : Nat) (els : List V) : V → V
 |.sl j => match Nat.beq j id with
  | true => .row sz els
  | false => .sl j
 | v => v
def fzP (id : Nat) (cs : List V) : V → V
 |.ptr j o => match Nat.beq j id with
  | true => .box cs o
  | false => .ptr j o
 | v => v
theorem gFR {e : TypeId} {sz : Nat} {els : List V} (id : Nat) (ho : H.get id = .row e sz els) (hpu : pureL els = true) (h1 : kl (fzR id sz els) F = F1) (h2 : (⟨H.nx, jW (fzR id sz els) id H.es⟩ : Hp) = H1) (k : Go P K Q p s n F1 H1) : Go P K Q p s n F H :=
 go_frz (f := fzR id sz els) (by rw [ho]; simp) (fun S w ρ hr v x hx => by
  unfold fzR
  split
  ·split
   ·rename_i hb
    have := Nat.eq_of_beq_eq_true hb
    subst this
    exact sm hr ho hpu hx
   ·exact hx.up (fG hr).2
  ·exact hx.up (fG hr).2) h1 h2 k
theorem gFP {t : TypeId} {cs : List V} (id : Nat) (ho : H.get id = .var t cs) (hpu : pureL cs = true) (h1 : kl (fzP id cs) F = F1) (h2 : (⟨H.nx, jW (fzP id cs) id H.es⟩ : Hp) = H1) (k : Go P K Q p s n F1 H1) : Go P K Q p s n F H :=
 go_frz (f := fzP id cs) (by rw [ho]; simp) (fun S w ρ hr v x hx => by
  unfold fzP
  split
  ·split
   ·rename_i hb
    have := Nat.eq_of_beq_eq_true hb
    subst this
    exact xS hr ho hpu hx
   ·exact hx.up (fG hr).2
  ·exact hx.up (fG hr).2) h1 h2 k
def mkF : Nat → Nat → List (Nat × V) → Fm
 | 0, _, _ => []
 | n + 1, i, [] => none :: mkF n (i + 1) []
 |n + 1, i, (j, v) :: r => match Nat.beq i j with
  | true => some v :: mkF n (i + 1) r
  | false => none :: mkF n (i + 1) ((j, v) :: r)
end
end Go.Proofs.YtgpcdfbmbcognaaGreat
namespace Go.Proofs.YtgpcdfbmbcognaaGreat
open Go.RowKit
mutual
def vEq : V → V → Bool
 |.int k n, v => match v with
  | .int k' n' => kEq k k' && iEq n n'
  | _ => false
 |.bool b, v => match v with
  | .bool c => b == c
  | _ => false
 |.str l, v => match v with
  | .str l' => lEq l l'
  | _ => false
 |.nilp, v => match v with
  | .nilp => true
  | _ => false
 |.nils, v => match v with
  | .nils => true
  | _ => false
 |.ptr i o, v => match v with
  | .ptr j p => Nat.beq i j && Nat.beq o p
  | _ => false
 |.el i z k o, v => match v with
  | .el i' z' k' o' => Nat.beq i i' && Nat.beq z z' && Nat.beq k k' && Nat.beq o o'
  | _ => false
 |.sl i, v => match v with
  | .sl j => Nat.beq i j
  | _ => false
 |.row z cs, v => match v with
  | .row z' cs' => Nat.beq z z' && vEqL cs cs'
  | _ => false
 |.agg cs, v => match v with
  | .agg cs' => vEqL cs cs'
  | _ => false
 |.tup cs, v => match v with
  | .tup cs' => vEqL cs cs'
  | _ => false
 | .raw _, _ => false
 | .box _ _, _ => false
 | .clo _ _, _ => false
 | .lk _, _ => false
def vEqL : List V → List V → Bool
 |[], vs => match vs with
  | [] => true
  | _ :: _ => false
 |v :: r, vs => match vs with
  | u :: q => vEq v u && vEqL r q
  | [] => false
end
mutual
theorem vEq_eq : ∀ {v u : V}, vEq v u = true → v = u
 | .int k n, u, h => by
  unfold vEq at h
  split at h
  ·rename_i k' n'
   simp only [Bool.and_eq_true, nV, beq_iff_eq] at h
   obtain ⟨h1, h2⟩ := h
   have : k = k' := by
    unfold kEq at h1
    split at h1 <;> first | rfl | cases h1
   rw [this, h2]
  ·cases h
 | .bool b, u, h => by
  unfold vEq at h
  split at h
  ·rw [beq_iff_eq] at h; rw [h]
  ·cases h
 | .str l, u, h => by
  unfold vEq at h
  split at h
  ·rw [lF, beq_iff_eq] at h; rw [h]
  ·cases h
 | .nilp, u, h => by
  unfold vEq at h
  split at h
  ·rfl
  ·cases h
 | .nils, u, h => by
  unfold vEq at h
  split at h
  ·rfl
  ·cases h
 | .ptr i o, u, h => by
  unfold vEq at h
  split at h
  ·simp only [Bool.and_eq_true, Nat.beq_eq] at h
   obtain ⟨rfl, rfl⟩ := h; rfl
  ·cases h
 | .el i z k o, u, h => by
  unfold vEq at h
  split at h
  ·simp only [Bool.and_eq_true, Nat.beq_eq] at h
   obtain ⟨⟨⟨rfl, rfl⟩, rfl⟩, rfl⟩ := h; rfl
  ·cases h
 | .sl i, u, h => by
  unfold vEq at h
  split at h
  ·rw [Nat.beq_eq] at h; rw [h]
  ·cases h
 | .row z cs, u, h => by
  unfold vEq at h
  split at h
  ·simp only [Bool.and_eq_true, Nat.beq_eq] at h
   obtain ⟨rfl, h2⟩ := h
   rw [vEqL_eq h2]
  ·cases h
 | .agg cs, u, h => by
  unfold vEq at h
  split at h
  ·rw [vEqL_eq h]
  ·cases h
 | .tup cs, u, h => by
  unfold vEq at h
  split at h
  ·rw [vEqL_eq h]
  ·cases h
 | .raw _, u, h => by unfold vEq at h; cases h
 | .box _ _, u, h => by unfold vEq at h; cases h
 | .clo _ _, u, h => by unfold vEq at h; cases h
 | .lk _, u, h => by unfold vEq at h; cases h
theorem vEqL_eq : ∀ {v u : List V}, vEqL v u = true → v = u
 | [], u, h => by
  unfold vEqL at h
  split at h
  ·rfl
  ·cases h
 | v :: r, u, h => by
  unfold vEqL at h
  split at h
  ·simp only [Bool.and_eq_true] at h
   rw [vEq_eq h.1, vEqL_eq h.2]
  ·cases h
end
def fmB (σ : List Nat) : Fm → Fm → Bool
 |[], F' => match F' with
  | [] => true
  | _ :: _ => false
 |x :: r, F' => match F' with
  | [] => false
  |y :: r' => (match y with
   | none => true
   |some u => match x with
    | some v => vEq v (u.ren σ)
    | none => false) && fmB σ r r'
theorem yX {σ : List Nat} : ∀ {F F' : Fm}, fmB σ F F' = true → leF σ F F' ∧ F.length = F'.length
 | [], F', h => by
  unfold fmB at h
  split at h
  ·simp [leF]
  ·cases h
 | x :: r, F', h => by
  unfold fmB at h
  split at h
  ·cases h
  ·rename_i y r'
   simp only [Bool.and_eq_true] at h
   obtain ⟨h1, h2⟩ := h
   obtain ⟨g1, g2⟩ := yX h2
   refine ⟨?_, by simp [g2]⟩
   cases y with
   | none => simp only [leF]; exact g1
   | some u =>
    simp only at h1
    split at h1
    ·rename_i v
     simp only [leF]
     exact ⟨⟨v, rfl, aA.of_eq (vEq_eq h1)⟩, g1⟩
    ·cases h1
theorem aD.of_eq {v u : List V} (h : v = u) : aD v u := h ▸ aD.rfl
def obB (o : Ob) : Ob → Bool
 | .gone => true
 |.var t cs => match o with
  | .var t' cs' => Nat.beq t' t && vEqL cs' cs
  | _ => false
 |.row e z els => match o with
  | .row e' z' els' => Nat.beq e' e && Nat.beq z' z && vEqL els' els
  | _ => false
 | _ => false
theorem Dj {o o' : Ob} (h : obB o o' = true) : fg o o' := by
 unfold obB at h
 split at h
 ·cases o <;> simp [fg]
 ·split at h
  ·simp only [Bool.and_eq_true, Nat.beq_eq] at h
   obtain ⟨rfl, h2⟩ := h
   exact ⟨rfl, aD.of_eq (vEqL_eq h2)⟩
  ·cases h
 ·split at h
  ·simp only [Bool.and_eq_true, Nat.beq_eq] at h
   obtain ⟨⟨rfl, rfl⟩, h2⟩ := h
   exact ⟨rfl, rfl, vEqL_eq h2⟩
  ·cases h
 ·cases h
def hpB (σ : List Nat) (H : Hp) : List (Nat × Ob) → Bool
 | [] => true
 |(j, o) :: r => (match atN σ j with
  | some i => obB (H.get i) (o.ren σ)
  | none => false) && hpB σ H r
theorem zM {σ : List Nat} {H : Hp} : ∀ {l : List (Nat × Ob)}, hpB σ H l = true → leH σ H l
 | [], _ => by simp [leH]
 | (j, o) :: r, h => by
  simp only [hpB, Bool.and_eq_true] at h
  obtain ⟨h1, h2⟩ := h
  simp only [leH]
  refine ⟨?_, zM h2⟩
  split at h1
  ·rename_i i hi
   exact ⟨i, hi, Dj h1⟩
  ·cases h1
def Ex (k i : Nat) : Nat := match Nat.beq i k with
 | true => k + 1
 |false => match Nat.beq i (k + 1) with
  | true => k
  | false => i
def Bx (k : Nat) : Nat → List Nat → List Nat
 | 0, acc => acc
 | n + 1, acc => eu (Ex k n) fun x => Bx k n (x :: acc)
def vd (k : Nat) (F : Fm) (H : Hp) (F' : Fm) (H' : Hp) : Bool :=
 listK (Bx k H'.nx []) fun σ => fmB σ F F' && hpB σ H H'.es && (dj σ && Nat.ble σ.length H'.nx && wI σ (List.range k))
theorem go_alike {P : Program} {K : Ctx} {Q : Exit → Act → World → Prop} {s : List EI} {n : Nat} {F F' : Fm} {H H' : Hp} {e : Exit} {k : Nat} (h : vd k F H F' H' = true) (hp : ∀ id x, K.pin id = some x → id < k) (c : Go P K Q (.ex e) s n F' H') : Go P K Q (.ex e) s n F H := fun S w ρ a hr hi hf => by
 unfold vd at h
 rw [bX] at h
 simp only [Bool.and_eq_true] at h
 obtain ⟨⟨h1, h2⟩, ⟨h3, h4⟩, h5⟩ := h
 obtain ⟨g1, g2⟩ := yX h1
 refine go_sub _ (List.range k) rfl (fun id x h => List.mem_range.2 (hp id x h)) g1 (zM h2) ?_ c S w ρ a hr hi hf
 simp only [Bool.and_eq_true]
 exact ⟨⟨⟨h3, h4⟩, h5⟩, by rw [← g2]; exact Nat.ble_eq_true_of_le hf.len⟩
end Go.Proofs.YtgpcdfbmbcognaaGreat
namespace Go.Proofs.YtgpcdfbmbcognaaGreat
open Go.RowKit
inductive Rs where
 | ok (e : Bool) (F : Fm) (H : Hp)
 | pt (p : EP) (s : List EI) (F : Fm) (H : Hp)
 | er (n m : Nat)
def Da : V → List Nat → List Nat
 | .ptr id _, acc => id :: acc
 | .el id _ _ _, acc => id :: acc
 | .sl id, acc => id :: acc
 | _, acc => acc
def AM : List V → List Nat → List Nat
 | [], acc => acc
 | v :: r, acc => AM r (Da v acc)
def Do : V → List Nat → List Nat
 | .agg cs, acc => AM cs acc
 | v, acc => Da v acc
def oF : List V → List Nat → List Nat
 | [], acc => acc
 | .tup vs :: r, acc => oF r (vs.foldl (fun acc v => Do v acc) acc)
 | v :: r, acc => oF r (Do v acc)
def gU (i : Nat) : List Nat → Bool
 | [] => false
 |j :: r => match Nat.beq i j with
  | true => true
  | false => gU i r
def lB (H : Hp) : Nat → List Nat → List Nat → List Nat
 | 0, _, acc => acc
 | _ + 1, [], acc => acc
 |n + 1, id :: r, acc => match gU id acc with
  | true => lB H n r acc
  |false => match H.get id with
   | .var _ cs => lB H n (AM cs r) (id :: acc)
   | _ => lB H n r (id :: acc)
def pR {α : Type} (R : List Nat) : List (Nat × Ob) → (List (Nat × Ob) → α) → α
 | [], c => c []
 |(i, o) :: r, c => match gU i R with
  | true => pR R r fun r' => c ((i, o) :: r')
  | false => pR R r c
def oW {α : Type} (nx : Nat) (R : List Nat) : List (Nat × Ob) → (List (Nat × Ob) → α) → α
 | [], c => c []
 |(i, o) :: r, c => match !gU i R && Nat.blt i nx with
  |true => match o with
   | .free => oW nx R r fun r' => c ((i, .gone) :: r')
   | o => oW nx R r fun r' => c ((i, o) :: r')
  | false => oW nx R r c
def yj {α : Type} (lo : Nat) (H : Hp) (v : V) (c : V → Hp → α) : α := match v with
 |.sl id => match Nat.ble lo id with
  |true => match H.get id with
   |.row _ sz els => match pureL els with
    | true => ss id H.es fun es => c (.row sz els) ⟨H.nx, es⟩
    | false => c v H
   | _ => c v H
  | false => c v H
 | _ => c v H
def wZ {α : Type} (lo : Nat) (H : Hp) : List V → (List V → Hp → α) → α
 | [], c => c [] H
 | v :: r, c => yj lo H v fun v' H' => wZ lo H' r fun r' H'' => c (v' :: r') H''
def AC {α : Type} (lo : Nat) (H : Hp) (v : V) (c : V → Hp → α) : α := match v with
 | .agg cs => wZ lo H cs fun cs H' => c (.agg cs) H'
 | v => yj lo H v c
def uZ {α : Type} (lo : Nat) (H : Hp) : List V → (List V → Hp → α) → α
 | [], c => c [] H
 | v :: r, c => AC lo H v fun v' H' => uZ lo H' r fun r' H'' => c (v' :: r') H''
def zF (H : Hp) : List Nat → Bool
 | [] => false
 |i :: r => match H.get i with
  | .row _ _ _ => true
  | _ => zF H r
def Cm (o : Oper) : Bool := match o.op with
 | .store .. => true
 | _ => false
def CU (o : Oper) : Bool := match o.op with
 | .alloc .. => false
 | .box .. => false
 | .store .. => false
 | .buildSlice .. => false
 | .makeSlice .. => false
 | .call ⟨.builtin .len, _, _⟩ => true
 | .call ⟨.builtin .max, _, _⟩ => true
 | .call .. => false
 | _ => true
def wt : Nat → List Oper → Nat
 | i, [] => i
 |i, o :: r => match Cm o with
  | true => i
  | false => wt (i + 1) r
def pK (T : Tab) (H : Hp) (all : Array Oper) : List Oper → Fm → List Nat → List Nat → List Nat
 | [], _, rd, cl => rd.filter fun i => !gU i cl
 |o :: r, F, rd, cl => match bv F all o.guard with
  | some false => F.puto o.dst (some (.tup [])) fun F' => pK T H all r F' rd cl
  |_ => match ke T H.get F o.op with
   | some v => F.puto o.dst (some v) fun F' => pK T H all r F' rd cl
   |none => match nJ F o.op with
    |some id => match jF T H.get F H.nx o.op with
     | some (v, _) => F.puto o.dst v fun F' => pK T H all r F' (match gU id rd with | true => rd | false => id :: rd) cl
     | none => F.puto o.dst none fun F' => pK T H all r F' rd cl
    |none => match o.op with
     |.call ⟨.value (.func _), ⟨args⟩, _⟩ => match it F args with
      | some vs => F.puto o.dst none fun F' => pK T H all r F' rd (lB H 40 (oF vs []) cl)
      | none => F.puto o.dst none fun F' => pK T H all r F' rd cl
     | _ => F.puto o.dst none fun F' => pK T H all r F' rd cl
def rz (F : Fm) (all : Array Oper) (L : List Nat) (m : Nat) (listed : Array Bool) : List Nat → Option Nat
 | [] => none
 |i :: r => match all[i]? with
  |some o => match Nat.beq i m with
   | true => rz F all L m listed r
   |false => match CU o with
    |true => match Region.free .any all listed i with
     | true => some i
     | false => rz F all L m listed r
    | false => rz F all L m listed r
  | none => none
section
variable (T : Tab) (ih : EP → List EI → Fm → Hp → Rs)
def wO (keep : Bool) (vs : List V) (fn : Func) (b : Code) (H : Hp) (L : List Nat) (ok : Bool) (c : V → Hp → Rs) : Rs :=
 match lB H 40 (oF vs []) [] with
 |R => match (cf H.get L && L.all fun i => !gU i R) || ok with
  |true => pR R H.es fun es1 => match ih (.code b) [] (jC fn.ntmps vs) ⟨H.nx, es1⟩ with
   |.ok _ F1 H1 => match oR T H1.get F1 fn.results.toList with
    |some rs => match Nat.ble H.nx H1.nx with
     |true => match keep || zF H R with
      | true => oW H.nx R H.es fun es2 => c (kS rs) ⟨H1.nx, H1.es ++ es2⟩
      |false => uZ H.nx H1 rs fun rs H2 => match lB H2 60 (oF rs R) [] with
       | R2 => pR R2 H2.es fun es3 => oW H.nx R H.es fun es2 => c (kS rs) ⟨H2.nx, es3 ++ es2⟩
     | false => .er 1 0
    | none => .er 2 0
   | .er n m => .er n m
   | .pt .. => .er 3 0
  | false => .er 4 0
def ot (F : Fm) (H : Hp) (L : List Nat) (ok : Bool) (o : Oper) (c : Option V → Hp → Rs) : Rs :=
 match ke T H.get F o.op with
 | some v => c (some v) H
 |none => match eu H.nx fun nid => jF T H.get F nid o.op with
  |some (v, ed) => match (cf H.get L && ed.clear L) || ok with
   |true => H.ap ed fun H' => match v with
    | some v => c (some v) H'
    | none => c (some (.tup [])) H'
   | false => .er 5 0
  |none => match o.op with
   |.call ⟨.value (.func fid), ⟨args⟩, _⟩ => match it F args with
    |some vs => match T.nat fid vs with
     | some v => c (some v) H
     |none => match T.fn fid with
      |some fn => match fn.body with
       |some b => match Nat.ble vs.length fn.ntmps with
        | true => wO T ih (T.keep fid) vs fn b H L ok fun v H' => c (some v) H'
        | false => .er 6 fid
       | none => .er 7 fid
      | none => .er 8 fid
    | none => .er 9 fid
   | _ => .er (10000 + o.type) (match o.dst with | some d => d | none => 999)
def ud (l : List Nat) (j : Nat) : Bool := match l with
 | [x] => Nat.beq x j
 | _ => false
def wL (x y i : Nat) : Nat := match Nat.beq x i with
 | true => y
 |false => match Nat.beq y i with
  | true => x
  | false => i
def tK (all : Array Oper) (L : List Nat) (m i : Nat) (o : Oper) (ps : List (Nat × Operand)) (v : V) (s : List EI) : Nat → Array Bool → Fm → Hp → Rs
 |left, listed, F, H => match cf H.get L || (listed.setIfInBounds i true).getD m false with
  |true => match Region.ready .any all listed with
   |[x] => match Nat.beq x i with
    | true => F.puto o.dst (some v) fun F' => ih (.drw all L m left (listed.setIfInBounds i true)) s F' H
    | false => .er 41 i
   |[x, y] => match left with
    | 0 => .er 42 i
    |left + 1 => eu (wL x y i) fun j => match Nat.beq j i with
     | true => .er 43 i
     |false => match all[j]? with
      |some oj => match ud (Region.ready .any all (listed.setIfInBounds i true)) j && tQ o.dst oj.dst && nT oj.dst ps && (match o.dst with | some t => (F.get t).isNone | none => true) with
       |true => match bv F all oj.guard with
        | some true => ot T ih F H L ((listed.setIfInBounds j true).getD m false && ((listed.setIfInBounds j true).setIfInBounds i true).getD m false) oj fun u H' => F.puto oj.dst u fun F' => tK all L m i o ps v s left (listed.setIfInBounds j true) F' H'
        | _ => .er 44 i
       | false => .er 45 i
      | none => .er 46 i
   | _ => .er 47 i
  | false => .er 48 i
def nI (T : Tab) (F : Fm) (all : Array Oper) : List Nat → Option (Nat × Oper × List (Nat × Operand) × V)
 | [] => none
 |i :: r => match all[i]? with
  |some ⟨_, .buildSlice _ _ ⟨ps⟩, _, _, _, none⟩ => match jq F ps with
   |some vs => match nf T all i vs with
    | some (o, ps', v) => some (i, o, ps', v)
    | none => nI T F all r
   | none => nI T F all r
  | _ => nI T F all r
def An (all : Array Oper) (L : List Nat) (m left i j : Nat) (listed : Array Bool) (s : List EI) (F : Fm) (H : Hp) : Rs := match all[i]? with
 |some oi => match all[j]? with
  |some oj => match bv F all oi.guard with
   |some true => match bv F all oj.guard with
    |some true => ot T ih F H L ((listed.setIfInBounds i true).getD m false) oi fun ui Hi => F.puto oi.dst ui fun Fi => match ih (.drw all L m left (listed.setIfInBounds i true)) [] Fi Hi with
     |.ok false F1 H1 => ot T ih F H L ((listed.setIfInBounds j true).getD m false) oj fun uj Hj => F.puto oj.dst uj fun Fj => match ih (.drw all L m left (listed.setIfInBounds j true)) [] Fj Hj with
      |.ok false F2 H2 => match vd H.nx F2 H2 F1 H1 with
       | true => ih (.ex .normal) s F1 H1
       | false => .er 51 i
      | .er a b => .er a b
      | _ => .er 52 i
     | .er a b => .er a b
     | _ => .er 53 i
    | _ => .er 54 i
   | _ => .er 55 i
  | none => .er 56 i
 | none => .er 57 i
def wJ (c : Code) (s : List EI) (F : Fm) (H : Hp) : Rs := match c with
 | .seq x y => ih (.code x) (.seq y :: s) F H
 | .block id c => ih (.code c) (.blk id :: s) F H
 | .skip => ih (.ex .normal) s F H
 | .ret => ih (.ex .ret) s F H
 | .exit id => ih (.ex (.exit id)) s F H
 | .scope c => ih (.code c) (.scp :: s) F H
 | .label _ => ih (.ex .normal) s F H
 | .loop c => ih (.code c) (.loop c 1000000 :: s) F H
 |.cond c x y => match aR F c with
  | some (.bool true) => ih (.code x) s F H
  | some (.bool false) => ih (.code y) s F H
  | _ => .er 11 0
 | .region _ ⟨l⟩ false => ih (.ops ⟨l⟩ l) s F H
 |.region _ ⟨l⟩ true => match Region.noSelect ⟨l⟩ with
  | true => listK (pK T H ⟨l⟩ l F [] []) fun L => eu (wt 0 l) fun m => eu l.length fun n => ih (.drw ⟨l⟩ L m n (Array.replicate n false)) s F H
  | false => .er 13 0
 | _ => .er 14 0
def vw (all : Array Oper) (rest : List Oper) (s : List EI) (F : Fm) (H : Hp) : Rs := match rest with
 | [] => ih (.ex .normal) s F H
 |o :: r => match bv F all o.guard with
  | some false => F.puto o.dst (some (.tup [])) fun F' => ih (.ops all r) s F' H
  | some true => ot T ih F H [] true o fun v H' => F.puto o.dst v fun F' => ih (.ops all r) s F' H'
  | none => .er 15 0
def yu (e : Exit) (s : List EI) (F : Fm) (H : Hp) : Rs := match s with
 |[] => match e with
  | .normal => .ok false F H
  | .ret => .ok true F H
  | _ => .er 16 0
 |.seq c :: s => match e with
  | .normal => ih (.code c) s F H
  | .exit i => ih (.ex (.exit i)) s F H
  | .ret => ih (.ex .ret) s F H
  | _ => .er 17 0
 |.loop c j :: s => match e with
  |.normal => match j with
   | 0 => .er 18 0
   | j + 1 => ih (.code c) (.loop c j :: s) F H
  | .exit i => ih (.ex (.exit i)) s F H
  | .ret => ih (.ex .ret) s F H
  | _ => .er 19 0
 |.scp :: s => match e with
  | .normal => ih (.ex .normal) s F H
  | .exit i => ih (.ex (.exit i)) s F H
  | .ret => ih (.ex .ret) s F H
  | _ => .er 20 0
 |.blk id :: s => match e with
  | .normal => ih (.ex .normal) s F H
  |.exit i => match Nat.beq i id with
   | true => ih (.ex .normal) s F H
   | false => ih (.ex (.exit i)) s F H
  | .ret => ih (.ex .ret) s F H
  | _ => .er 21 0
def yl (all : Array Oper) (L : List Nat) (m left : Nat) (listed : Array Bool) (s : List EI) (F : Fm) (H : Hp) : Rs := match Region.ready .any all listed with
 | [] => ih (.ex .normal) s F H
 |i :: R => match left with
  | 0 => .er 22 0
  |left + 1 => match R with
   |[] => match all[i]? with
    |some o => match bv F all o.guard with
     | some false => F.puto o.dst (some (.tup [])) fun F' => ih (.drw all L m left (listed.setIfInBounds i true)) s F' H
     | some true => ot T ih F H L ((listed.setIfInBounds i true).getD m false) o fun v H' => F.puto o.dst v fun F' => ih (.drw all L m left (listed.setIfInBounds i true)) s F' H'
     | none => .er (6000 + all.size) i
    | none => .er 24 0
   |_ => match rz F all L m listed (i :: R) with
    |some i => match all[i]? with
     |some o => match (Region.ready .any all listed).contains i && Region.free .any all listed i && !Nat.beq i m with
      |true => match bv F all o.guard with
       | some false => F.puto o.dst (some (.tup [])) fun F' => ih (.drw all L m left (listed.setIfInBounds i true)) s F' H
       |some true => match ke T H.get F o.op with
        | some v => F.puto o.dst (some v) fun F' => ih (.drw all L m left (listed.setIfInBounds i true)) s F' H
        |none => match nJ F o.op with
         |some id => match L.contains id && lU .any all m i && !listed.getD m false with
          |true => match jF T H.get F H.nx o.op with
           | some (some v, _) => F.puto o.dst (some v) fun F' => ih (.drw all L m left (listed.setIfInBounds i true)) s F' H
           | _ => .er (4000 + all.size) i
          | false => .er (2000 + all.size) i
         | none => .er (3000 + all.size) i
       | none => .er (5000 + all.size) i
      | false => .er 29 i
     | none => .er 30 i
    |none => match nI T F all (i :: R) with
     | some (i, o, ps, v) => F.puto o.dst none fun F' => tK T ih all L m i o ps v s left listed F' H
     |none => match R with
      | [j] => An T ih all L m left i j listed s F H
      | _ => .er (1000 + all.size) i
def step (p : EP) (s : List EI) (F : Fm) (H : Hp) : Rs := match p with
 | .code c => wJ T ih c s F H
 | .ops all rest => vw T ih all rest s F H
 | .ex e => yu ih e s F H
 | .drw all L m left listed => yl T ih all L m left listed s F H
end
def run (T : Tab) : Nat → EP → List EI → Fm → Hp → Rs
 | 0, p, s, F, H => .pt p s F H
 | k + 1, p, s, F, H => step T (run T k) p s F H
end Go.Proofs.YtgpcdfbmbcognaaGreat
namespace Go.Proofs.YtgpcdfbmbcognaaGreat
open Go.RowKit
set_option maxRecDepth 100000
def tyL : List (Nat × TD) := [
 (34, ⟨4, 72, .agg [.int .i64 0, .str [], .nils, .nils], .struct [(0, 1, true), (1, 1, true), (2, 1, true), (3, 1, true)]⟩),
 (3, ⟨1, 8, .int .i64 0, .sc⟩),
 (9, ⟨1, 16, .str [], .str⟩),
 (25, ⟨1, 24, .nils, .sl 34⟩),
 (32, ⟨1, 24, .nils, .sl 9⟩),
 (81, ⟨1, 24, .nils, .sl 84⟩),
 (5, ⟨1, 1, .int .u8 0, .sc⟩),
 (49, ⟨1, 8, .nilp, .sc⟩),
 (37, ⟨3, 40, .agg [.int .i64 0, .str [], .str []], .struct [(0, 1, true), (1, 1, true), (2, 1, true)]⟩),
 (89, ⟨1, 8, .nilp, .sc⟩),
 (106, ⟨4, 32, .agg [.int .i64 0, .int .i64 0, .int .i64 0, .int .i64 0], .struct [(0, 1, true), (1, 1, true), (2, 1, true), (3, 1, true)]⟩),
 (41, ⟨1, 8, .nilp, .sc⟩),
 (84, ⟨2, 32, .agg [.str [], .str []], .struct [(0, 1, true), (1, 1, true)]⟩),
 (27, ⟨1, 24, .nils, .sl 37⟩),
 (28, ⟨1, 8, .int .i64 0, .sc⟩),
 (51, ⟨5, 56, .agg [.nils, .int .i64 0, .int .i64 0, .int .i64 0, .int .i64 0], .struct [(0, 1, true), (1, 1, true), (2, 1, true), (3, 1, true), (4, 1, true)]⟩),
 (22, ⟨1, 24, .nils, .sl 3⟩),
 (70, ⟨3, 48, .agg [.nilp, .nils, .str []], .struct [(0, 2, false), (2, 1, true)]⟩),
 (56, ⟨2, 32, .agg [.nils, .int .i64 0], .struct [(0, 1, true), (1, 1, true)]⟩),
 (68, ⟨2, 32, .agg [.nilp, .nils], .struct [(0, 1, true), (1, 1, true)]⟩),
 (4, ⟨1, 1, .bool false, .bool⟩)]
def lr {α : Type} : List (Nat × α) → Nat → Option α
 | [], _ => none
 |(i, x) :: r, j => match Nat.beq i j with
  | true => some x
  | false => lr r j
def tyB (P : Program) : List (Nat × TD) → Bool
 | [] => true
 | (t, d) :: r => tdB P t d && tyB P r
theorem za {P : Program} : ∀ {l : List (Nat × TD)}, tyB P l = true → ∀ t d, lr l t = some d → TdOk P t d
 | [], _, t, d, h => by cases h
 | (i, x) :: r, hb, t, d, h => by
  simp only [tyB, Bool.and_eq_true] at hb
  simp only [lr] at h
  split at h
  ·rename_i e
   have := Nat.eq_of_beq_eq_true e
   subst this
   injection h with h; subst h
   exact Di hb.1
  ·exact za hb.2 t d h
theorem Ag : ∀ t d, lr tyL t = some d → TdOk Tryz.prog t d := za (by kernel_rfl)
noncomputable def fnL : List (Nat × Func) := [(10, Tryz.f10), (7, Tryz.f7), (22, Tryz.f22), (23, Tryz.f23), (16, Tryz.f16), (17, Tryz.f17), (18, Tryz.f18), (44, Tryz.f44), (45, Tryz.f45), (46, Tryz.f46), (47, Tryz.f47), (48, Tryz.f48), (49, Tryz.f49), (33, Tryz.f33), (34, Tryz.f34), (35, Tryz.f35), (36, Tryz.f36), (37, Tryz.f37), (72, Tryz.f72), (73, Tryz.f73), (74, Tryz.f74), (75, Tryz.f75), (58, Tryz.f58), (59, Tryz.f59), (60, Tryz.f60), (61, Tryz.f61), (64, Tryz.f64), (89, Tryz.f89), (102, Tryz.f102), (103, Tryz.f103), (112, Tryz.f112), (113, Tryz.f113)]
def fnB (P : Program) : List (Nat × Func) → Prop
 | [] => True
 | (i, f) :: r => (P.funcs[i]? = some f ∧ ce P i = true) ∧ fnB P r
theorem yH {P : Program} : ∀ {l : List (Nat × Func)}, fnB P l → ∀ i f, lr l i = some f → P.funcs[i]? = some f ∧ ce P i = true
 | [], _, i, f, h => by cases h
 | (j, x) :: r, hb, i, f, h => by
  simp only [lr] at h
  split at h
  ·rename_i e
   have := Nat.eq_of_beq_eq_true e
   subst this
   injection h with h; subst h
   exact hb.1
  ·exact yH hb.2 i f h
theorem Dz : ∀ i f, lr fnL i = some f → Tryz.prog.funcs[i]? = some f ∧ ce Tryz.prog i = true := yH ⟨⟨Tryz.func10, by kernel_rfl⟩, ⟨Tryz.func7, by kernel_rfl⟩, ⟨Tryz.func22, by kernel_rfl⟩, ⟨Tryz.func23, by kernel_rfl⟩, ⟨Tryz.func16, by kernel_rfl⟩, ⟨Tryz.func17, by kernel_rfl⟩, ⟨Tryz.func18, by kernel_rfl⟩, ⟨Tryz.func44, by kernel_rfl⟩, ⟨Tryz.func45, by kernel_rfl⟩, ⟨Tryz.func46, by kernel_rfl⟩, ⟨Tryz.func47, by kernel_rfl⟩, ⟨Tryz.func48, by kernel_rfl⟩, ⟨Tryz.func49, by kernel_rfl⟩, ⟨Tryz.func33, by kernel_rfl⟩, ⟨Tryz.func34, by kernel_rfl⟩, ⟨Tryz.func35, by kernel_rfl⟩, ⟨Tryz.func36, by kernel_rfl⟩, ⟨Tryz.func37, by kernel_rfl⟩, ⟨Tryz.func72, by kernel_rfl⟩, ⟨Tryz.func73, by kernel_rfl⟩, ⟨Tryz.func74, by kernel_rfl⟩, ⟨Tryz.func75, by kernel_rfl⟩, ⟨Tryz.func58, by kernel_rfl⟩, ⟨Tryz.func59, by kernel_rfl⟩, ⟨Tryz.func60, by kernel_rfl⟩, ⟨Tryz.func61, by kernel_rfl⟩, ⟨Tryz.func64, by kernel_rfl⟩, ⟨Tryz.func89, by kernel_rfl⟩, ⟨Tryz.func102, by kernel_rfl⟩, ⟨Tryz.func103, by kernel_rfl⟩, ⟨Tryz.func112, by kernel_rfl⟩, ⟨Tryz.func113, by kernel_rfl⟩, trivial⟩
end Go.Proofs.YtgpcdfbmbcognaaGreat
namespace Go.Proofs.YtgpcdfbmbcognaaGreat
open Go.RowKit Lx Sx
def AY : Tab := ⟨false, lr tyL, fun _ => none, fun _ _ => none, fun _ => false⟩
theorem ab : TabOk Tryz.prog AY := ⟨Ag, (fun _ _ h => by cases h), (fun _ _ _ h => by cases h)⟩
mutual
def treeV : Tree → V
 | .node k s ls ks => .agg [.int .i64 k, .str s, .row 1 (ls.map .str), .row 4 (kidsV ks)]
def kidsV : List Tree → List V
 | [] => []
 | t :: r => treeV t :: kidsV r
end
abbrev ak (t : Tree) : List V := [.int .i64 t.kind, .str t.text, .row 1 (t.leads.map .str), .row 4 (kidsV t.kids)]
abbrev mW (t : Tree) : V := .agg (ak t)
theorem fL (t : Tree) : treeV t = mW t := by cases t; simp [treeV, Tree.kind, Tree.text, Tree.leads, Tree.kids]
theorem lN : ∀ (ks : List Tree), (kidsV ks).length = ks.length
 | [] => rfl
 | t :: r => by simp [kidsV, lN r]
theorem aJ : ∀ {ks : List Tree} {i : Nat} {u : Tree}, ks[i]? = some u → (kidsV ks)[i]? = some (mW u)
 | [], i, u, h => by simp at h
 | t :: r, 0, u, h => by
  simp only [List.getElem?_cons_zero, Option.some.injEq] at h
  subst h
  simp [kidsV, fL]
 | t :: r, i + 1, u, h => by
  simp only [List.getElem?_cons_succ] at h
  simpa [kidsV] using aJ h
theorem fE : ∀ (a b : List Tree), kidsV (a ++ b) = kidsV a ++ kidsV b
 | [], b => rfl
 | t :: r, b => by simp [kidsV, fE r b]
theorem xn (t : Tree) : (mW t).pure = true := rfl
theorem rH : ∀ (ks : List Tree), pureL (kidsV ks) = true
 | [] => rfl
 | t :: r => by simp only [kidsV, pureL, fL, xn, rH r]
def nu (P : Program) (fid : FuncId) (us : List V) (v : V) : Prop := pureL us = true ∧ v.pure = true ∧ Sum P fid us ⟨0, []⟩ (fun u _ => u = v)
theorem tJ (i : Nat) : (⟨0, []⟩ : Hp).get i = .free := by
 unfold Hp.get
 have : Nat.blt i 0 = false := by cases i <;> rfl
 simp only [this]
theorem yy {P : Program} {K : Ctx} {H : Hp} {fid : FuncId} {vs us : List V} {v : V} (hS : nu P fid us v) (hs : aD vs us) (L : List Nat) (hL : cf H.get L = true) : CallR P K fid vs H L (fun v' H'' => v' = v ∧ H'' = H) := fun S w ρ xs hr hi hx => by
 obtain ⟨h1, h2, h3⟩ := hS
 have hr0 : HRel S w ρ0 (⟨0, []⟩ : Hp).get := ⟨fun i => by rw [tJ]; rfl, fun i b hb => by rw [tJ] at hb; exact hb.elim, fun i j b hb _ => by rw [tJ] at hb; exact hb.elim, hr.slt⟩
 refine (h3 S w ρ0 xs hr0 ((hs.rel hx).pure h1)).mono fun e w' hR => ?_
 obtain ⟨x, S', ρ', u, H', rfl, rfl, hr', hi', hv⟩ := hR
 have hno : ∀ b, ¬ ∃ id, own ρ0 id ((⟨0, []⟩ : Hp).get id) b := fun b ⟨id, hb⟩ => by rw [tJ] at hb; exact hb
 have hc : Chg [] w w' := ⟨hi'.chg.os, hi'.chg.tape, hi'.chg.output, hi'.chg.size, fun b hb _ => hi'.chg.block b hb (hno b)⟩
 have up : Up S S' w w' ρ ρ := ⟨hi'.s0, fun b hb hlt => hc.block b hlt (by simp), fun _ _ h => h⟩
 have hs1 : ∀ b, S' b → S b ∨ w.heap.size ≤ b := fun b hb => by
  rcases hi'.s1 b hb with h | h | h
  ·exact .inl h
  ·exact absurd h (hno b)
  ·exact .inr h
 refine ⟨x, S', ρ, u, H, rfl, ⟨rfl, rfl⟩, ⟨fun i => (hr.ob i).up up (fun hf => ?_) (fun b hb => hc.block b (eo (hr.ob i) hb) (by simp)), fun i b hb => ?_, hr.dis, hr'.slt⟩, ⟨hi.chg.trans (ChgP.of hc) (fun b hb => by simp at hb), fun b hb => hi'.s0 b (hi.s0 b hb), fun b hb => ?_, hi.ow, hi.pin⟩, up, hv.pure h2, fun id hid y b hy hb => ?_⟩
 ·have := hr.ob i; rw [hf] at this; exact this
 ·intro hS
  rcases hs1 b hS with h | h
  ·exact hr.sep i b hb h
  ·have := eo (hr.ob i) hb; omega
 ·rcases hs1 b hb with h | h
  ·exact hi.s1 b h
  ·exact .inr (.inr (Nat.le_trans hi.chg.size h))
 ·exact hc.block b (eo (hr.ob id) (jL hr hL id hid y b hy hb)) (by simp)
theorem iK {α : Type} [BEq α] [LawfulBEq α] {a b : α} (h : (a != b) = false) : a = b := by simpa using h
section
variable {K : Ctx} {Q : Exit → Act → World → Prop} {p p' : EP} {s s' : List EI} {n : Nat} {F F' F1 F2 : Fm} {H H' H1 : Hp} {all : Array Oper} {rest : List Oper} {o : Oper}
theorem gR (k : Nat) (h : dZ AY k p s F H = some (p', s', F', H')) (kk : Go Tryz.prog K Q p' s' n F' H') : Go Tryz.prog K Q p s n F H := cp ab k p s F H h kk
theorem gC {PL : List Nat} {fid : FuncId} {args : List Operand} {tys : Array TypeId} {vs us : List V} {H0 : Hp} {Post : V → Hp → Prop} {d : Option Tmp} {ty : TypeId} {ps : String} {af : Array Edge} {g : Option (Nat × Bool)} (hS : eV PL Tryz.prog fid us H0 Post) (σ : List Nat) (he : ce Tryz.prog fid = true) (hw : bv F all g = some true) (hv : it F args = some vs) (hs : aD vs (renL σ us)) (hH : leH σ H H0.es) (hc : (dj σ && Nat.beq σ.length H0.nx && σ.all fun i => Nat.blt i H.nx) = true)
  (k : ∀ v H', Post v H' → Go Tryz.prog K Q (.ops all rest) s n (F.seto d (some (v.ren (sgN PL H.nx H0.get H'.nx σ 0)))) (la PL H σ H0 H')) : Go Tryz.prog K Q (.ops all (⟨d, .call { callee := .value (.func fid), args := args.toArray, argTypes := tys }, ty, ps, af, g⟩ :: rest)) s n F H :=
 go_opC (o := ⟨d, .call { callee := .value (.func fid), args := args.toArray, argTypes := tys }, ty, ps, af, g⟩) he rfl hw hv (ov hS σ hs hH hc [] (by simp [cf])) fun v' H'' ⟨v, H', hP, e1, e2⟩ => by subst e1 e2; exact k v H' hP
theorem gC0 {fid : FuncId} {args : List Operand} {tys : Array TypeId} {vs us : List V} {v : V} {d : Option Tmp} {ty : TypeId} {ps : String} {af : Array Edge} {g : Option (Nat × Bool)} (hS : nu Tryz.prog fid us v) (he : ce Tryz.prog fid = true) (hw : bv F all g = some true) (hv : it F args = some vs) (hs : aD vs us) (h1 : F.puto d (some v) id = F1)
  (k : Go Tryz.prog K Q (.ops all rest) s n F1 H) : Go Tryz.prog K Q (.ops all (⟨d, .call { callee := .value (.func fid), args := args.toArray, argTypes := tys }, ty, ps, af, g⟩ :: rest)) s n F H := by
 rw [Fm.puto_eq] at h1; subst h1
 exact go_opC (o := ⟨d, .call { callee := .value (.func fid), args := args.toArray, argTypes := tys }, ty, ps, af, g⟩) he rfl hw hv (yy hS hs [] rfl) fun v' H'' ⟨e1, e2⟩ => by subst e1 e2; exact k
def slB (T : Tab) (t : TypeId) : Option (TypeId × Nat × Nat) := match T.ty t with
 |some ⟨_, _, _, .sl e⟩ => match T.ty e with
  |some ⟨sz, by_, _, _⟩ => match Nat.blt 0 sz && Nat.ble by_ 100000 with
   | true => some (e, sz, by_)
   | false => none
  | none => none
 | _ => none
theorem Dn {P : Program} {T : Tab} (hT : TabOk P T) {t e : TypeId} {sz by_ : Nat} (h : slB T t = some (e, sz, by_)) : P.underlying t = some (.slice e) ∧ 0 < sz ∧ by_ ≤ 100000 ∧ ∃ z : Value, (P.info? e).map (fun i => (i.zero, i.size, i.bytes)) = some (some z, sz, by_) ∧ z.cells.size = sz := by
 unfold slB at h
 split at h
 ·rename_i ht
  split at h
  ·rename_i he
   split at h
   ·rename_i hb
    simp only [Option.some.injEq, Prod.mk.injEq] at h
    obtain ⟨rfl, rfl, rfl⟩ := h
    simp only [Bool.and_eq_true, Nat.blt_eq, Nat.ble_eq] at hb
    obtain ⟨z, h1, _, h3, _⟩ := (hT.ty _ _ he).info
    exact ⟨(hT.ty _ _ ht).sl rfl, hb.1, hb.2, z, h1, h3⟩
   ·cases h
  ·cases h
 ·cases h
theorem dAp {P : Program} {T : Tab} (hT : TabOk P T) {t e : TypeId} {x y : Operand} {sz by_ id : Nat} {els news : List V} {v : V} {ty : TypeId} (ht : slB T t = some (e, sz, by_)) (hx : aR F x = some (.sl id)) (ho : H.get id = .row e sz els) (hy : aR F y = some v) (hs : tS H.get sz v = some news) (hb : els.length + news.length ≤ 1000000000) :
  ∀ S w ρ a, HRel S w ρ H.get → FRel S w ρ a n F → Does P S w ρ H.get a ty (.call { callee := .builtin .append, args := #[x, y], argTypes := #[t, t] }) (some (.sl H.nx)) ((ED.repl id (.row e sz (els ++ news))).app H.get H.nx) (ED.repl id (.row e sz (els ++ news))).tch := fun S w ρ a hr hF => by
 obtain ⟨h1, h2, h3, z, h4, h5⟩ := Dn hT ht
 obtain ⟨u, g1, g2⟩ := vU hr hF hy hs
 exact vk hr hF.fr H.get_free g1 g2 h1 h4 h5 h2 (aj hF hx) ho (by simp only [maxLen]; omega) (Nat.le_trans (Nat.mul_le_mul hb h3) (by decide))
variable {L : List Nat} {m fuel c : Nat} {listed : Array Bool}
theorem gDs {id : Nat} {l : List Oper} (L : List Nat) (m sz : Nat) (hsz : l.length = sz) (hm : Tryz.prog.follows .mixedOrders = true) (hs : Region.noSelect l.toArray = true) (k : Go Tryz.prog K Q (.drw l.toArray L m sz (Array.replicate sz false)) s n F H) : Go Tryz.prog K Q (.code (.region id l.toArray true)) s n F H := wj L m sz hsz hm hs k
theorem gDr (is : List (Nat × Nat)) (hc : yr all m is listed = true) (hl : is.length = c) (hr : ln AY all L is F H = some (F', H')) (k : Go Tryz.prog K Q (.drw all L m fuel (AT is listed)) s n F' H') : Go Tryz.prog K Q (.drw all L m (fuel + c) listed) s n F H := by
 subst hl; exact jB ab is fuel listed F H hc hr k
theorem gDe (hd : Region.ready .any all listed = []) (k : Go Tryz.prog K Q (.ex .normal) s n F H) : Go Tryz.prog K Q (.drw all L m fuel listed) s n F H := un hd k
theorem bP {fid : FuncId} {args : List Operand} {tys : Array TypeId} {vs us : List V} {v : V} {d : Option Tmp} {ty : TypeId} {ps : String} {af : Array Edge} {g : Option (Nat × Bool)} (i : Nat) (hS : nu Tryz.prog fid us v) (he : ce Tryz.prog fid = true) (hi : all[i]? = some ⟨d, .call { callee := .value (.func fid), args := args.toArray, argTypes := tys }, ty, ps, af, g⟩) (hrd : Region.ready .any all listed = [i]) (hw : bv F all g = some true) (hv : it F args = some vs) (hs : aD vs us) (hL : cf H.get L = true) (h1 : F.puto d (some v) id = F1)
  (k : Go Tryz.prog K Q (.drw all L m fuel (listed.setIfInBounds i true)) s n F1 H) : Go Tryz.prog K Q (.drw all L m (fuel + 1) listed) s n F H := by
 rw [Fm.puto_eq] at h1; subst h1
 exact go_d1C he hrd hi rfl hw hv (yy hS hs L hL) (.inl rfl) fun v' H'' ⟨e1, e2⟩ => by subst e1 e2; exact k
theorem gDC {PL : List Nat} {fid : FuncId} {args : List Operand} {tys : Array TypeId} {vs us : List V} {H0 : Hp} {Post : V → Hp → Prop} {d : Option Tmp} {ty : TypeId} {ps : String} {af : Array Edge} {g : Option (Nat × Bool)} (i : Nat) (hS : eV PL Tryz.prog fid us H0 Post) (σ : List Nat) (he : ce Tryz.prog fid = true) (hi : all[i]? = some ⟨d, .call { callee := .value (.func fid), args := args.toArray, argTypes := tys }, ty, ps, af, g⟩) (hrd : Region.ready .any all listed = [i]) (hw : bv F all g = some true) (hv : it F args = some vs) (hs : aD vs (renL σ us)) (hH : leH σ H H0.es) (hc : (dj σ && Nat.beq σ.length H0.nx && σ.all fun i => Nat.blt i H.nx) = true) (hL : (cf H.get L && L.all fun i => !σ.contains i) = true)
  (k : ∀ v H', Post v H' → Go Tryz.prog K Q (.drw all L m fuel (listed.setIfInBounds i true)) s n (F.seto d (some (v.ren (sgN PL H.nx H0.get H'.nx σ 0)))) (la PL H σ H0 H')) : Go Tryz.prog K Q (.drw all L m (fuel + 1) listed) s n F H :=
 go_d1C he hrd hi rfl hw hv (ov hS σ hs hH hc L hL) (.inl rfl) fun v' H'' ⟨v, H', hP, e1, e2⟩ => by subst e1 e2; exact k v H' hP
end
end Go.Proofs.YtgpcdfbmbcognaaGreat
namespace Go.Proofs.YtgpcdfbmbcognaaGreat
open Go.RowKit Lx Sx
def ae (f : Func) : Code := match f.body with
 | some c => c
 | none => .skip
def cA : Code → Code
 | .seq x _ => x
 | c => c
def cB : Code → Code
 | .seq _ y => y
 | c => c
def cK : Code → Code
 | .block _ c => c
 | c => c
def cL : Code → Code
 | .loop c => c
 | c => c
def cT : Code → Code
 | .cond _ x _ => x
 | c => c
def cE : Code → Code
 | .cond _ _ y => y
 | c => c
theorem apM {α : Type} (f : α → V) (l : List α) (x : α) : List.map f l ++ [f x] = List.map f (l ++ [x]) := by simp
theorem su (l : List Tree) : l.map mW = kidsV l := by
 induction l with
 | nil => rfl
 | cons t r ih => simp [kidsV, fL, ih]
theorem ld (x : Tree) : [mW x] = kidsV [x] := by simp [kidsV, fL]
theorem iG : ∀ (l : List Tree), kidsV l = l.map mW
 | [] => rfl
 | t :: r => by simp [kidsV, fL, iG r]
theorem mapget {α : Type} {f : α → V} {l : List α} {i : Nat} {x : α} (h : l[i]? = some x) : (List.map f l)[i]? = some (f x) := by simp [h]
theorem bq (l : List Tree) : (kidsV l).length = l.length := lN l
theorem aV {α : Type} (f : α → V) (l : List α) : (List.map f l).length = l.length := List.length_map ..
theorem bV {n : Nat} {m : Nat} (h : n = m) : V.int .i64 (n : Int) = .int .i64 (m : Int) := by rw [h]
theorem AJ : ∀ (l : List Tree) (i : Nat) (x : Tree), (kidsV l).set i (mW x) = kidsV (l.set i x)
 | [], i, x => rfl
 | t :: r, 0, x => by simp [kidsV, fL]
 | t :: r, i + 1, x => by simp [kidsV, AJ r i x]
theorem mz {α : Type} (f : α → V) (l : List α) (i : Nat) (x : α) : (List.map f l).set i (f x) = List.map f (l.set i x) := by simp
theorem ff (σ : List Nat) : ∀ (l : List Tree), renL σ (kidsV l) = kidsV l
 | [] => rfl
 | t :: r => by simp only [kidsV, renL, ff σ r]; rw [fL]; rfl
theorem aq {α : Type} (σ : List Nat) (f : α → V) (hf : ∀ x, (f x).ren σ = f x) : ∀ (l : List α), renL σ (List.map f l) = List.map f l
 | [] => rfl
 | x :: r => by simp only [List.map_cons, renL, hf, aq σ f hf r]
theorem cN (l : List Tree) : pureL (kidsV l) = true := rH l
theorem iJ {α : Type} (f : α → V) (hf : ∀ x, (f x).pure = true) : ∀ (l : List α), pureL (List.map f l) = true
 | [] => rfl
 | x :: r => by simp only [List.map_cons, pureL, hf, iJ f hf r]
theorem eE {e : Bool} (h : (!e) = true) : e = false := by simpa using h
theorem eC {e : Bool} (h : (!e) = false) : e = true := by simpa using h
theorem lf {α : Type} [BEq α] [LawfulBEq α] {a b : α} (h : (a != b) = true) : a ≠ b := by simpa using h
theorem ia {a b : Nat} (h : decide ((a : Int) < (b : Int)) = true) : a < b := by have := of_decide_eq_true h; omega
theorem ib {a b : Nat} (h : decide ((a : Int) < (b : Int)) = false) : ¬ a < b := by have := of_decide_eq_false h; omega
theorem Fg {a b : Nat} (h : ((a : Int) != (b : Int)) = true) : a ≠ b := by have := lf h; omega
theorem Fh {a b : Nat} (h : ((a : Int) != (b : Int)) = false) : a = b := by have := iK h; omega
theorem lV {n m : Int} (h : n = m) : V.int .i64 n = .int .i64 m := by rw [h]
abbrev InI (x : Int) : Prop := -9223372036854775808 ≤ x ∧ x ≤ 9223372036854775807
section
variable {P : Program} {T : Tab} {K : Ctx} {Q : Exit → Act → World → Prop} {p p' : EP} {s s' : List EI} {n : Nat} {F F' F1 F2 : Fm} {H H' H1 : Hp} {all : Array Oper} {rest : List Oper} {o : Oper} {L : List Nat} {m fuel : Nat} {listed : Array Bool}
theorem gS {v : V} (d : Nat) (v' : V) (hd : F.get d = some v) (hs : aA v v') (h1 : F.put d (some v') id = F1) (k : Go P K Q p s n F1 H) : Go P K Q p s n F H := by
 rw [Fm.put_eq] at h1; subst h1
 exact mb hd hs k
theorem AW {h : Nat → Ob} {id : Nat} {o : Ob} (ho : h id = o) : cb h id o = h := by
 funext i
 by_cases hi : i = id
 ·subst hi; rw [bB, ho]
 ·rw [bW _ _ hi]
theorem gHR {e : TypeId} {sz : Nat} {els : List V} (id : Nat) (els' : List V) (ho : H.get id = .row e sz els) (he : els = els') (h2 : H.ap (.set id (.row e sz els')) _root_.id = H1) (k : Go P K Q p s n F H1) : Go P K Q p s n F H := by
 subst he
 rw [Hp.ap_eq] at h2; subst h2
 have hg : (H.app (.set id (.row e sz els))).get = H.get := by
  rw [Hp.get_app (by exact ⟨by rw [ho]; simp, by rw [ho]; simp⟩)]
  exact AW ho
 intro S w ρ a hr hi hF
 exact k S w ρ a (by rw [id_eq, hg]; exact hr) (by rw [id_eq, hg]; exact hi) hF
theorem CRel.sub {S : Nat → Prop} {w : World} {ρ : Nat → Option Value} {sz : Nat} : ∀ {vs us : List V} {xs : List Value}, aD vs us → CRel S w ρ sz vs xs → CRel S w ρ sz us xs
 | [], us, xs, h, hl => by simp only [aD] at h; subst h; exact hl
 | v :: r, us, xs, h, hl => by
  simp only [aD] at h
  obtain ⟨u, q, rfl, h1, h2⟩ := h
  simp only [CRel] at hl ⊢
  obtain ⟨x, ys, rfl, h3, h4, h5⟩ := hl
  exact ⟨x, ys, rfl, h3, h1 _ _ _ _ h4, h5.sub h2⟩
theorem aD.len : ∀ {vs us : List V}, aD vs us → us.length = vs.length
 | [], us, h => by simp only [aD] at h; subst h; rfl
 | v :: r, us, h => by
  simp only [aD] at h
  obtain ⟨u, q, rfl, _, h2⟩ := h
  simp [h2.len]
theorem aD.rep {a b : V} (h : aA a b) : ∀ n, aD (List.replicate n a) (List.replicate n b)
 | 0 => aD.nil
 | n + 1 => aD.cons h (aD.rep h n)
theorem gHW {e : TypeId} {sz : Nat} {els : List V} (id : Nat) (els' : List V) (hp : p.still = true) (ho : H.get id = .row e sz els) (he : aD els els') (h2 : H.ap (.set id (.row e sz els')) _root_.id = H1) (k : Go P K Q p s n F H1) : Go P K Q p s n F H := by
 rw [Hp.ap_eq] at h2; subst h2
 have hg : (H.app (.set id (.row e sz els'))).get = cb H.get id (.row e sz els') := Hp.get_app (by exact ⟨by rw [ho]; simp, by rw [ho]; simp⟩)
 intro S w ρ a hr hi hF
 have how : ∀ i b, own ρ i (cb H.get id (.row e sz els') i) b ↔ own ρ i (H.get i) b := fun i b => by
  by_cases hi : i = id
  ·subst hi; rw [bB, ho]; rfl
  ·rw [bW _ _ hi]
 refine k S w ρ a ?_ ?_ hF
 ·rw [id_eq, hg]
  refine ⟨fun i => ?_, fun i b hb => hr.sep i b ((how i b).1 hb), fun i j b h1 h2 => hr.dis i j b ((how i b).1 h1) ((how j b).1 h2), hr.slt⟩
  by_cases hii : i = id
  ·subst hii
   rw [bB]
   obtain ⟨v, xs, h1, h2, h3⟩ := jk hr ho
   exact ⟨v, xs, h1, by rw [he.len]; exact h2, h3.sub he⟩
  ·rw [bW _ _ hii]; exact hr.ob i
 ·rw [id_eq, hg]
  exact ⟨hi.chg, hi.s0, hi.s1, fun i b hb => hi.ow i b ((how i b).1 hb), hi.pin⟩
def tM (PL : List Nat) : List (Nat × Ob) → List Nat → Bool
 | [], _ => true
 | (i, o) :: r, pv => (!ij PL i o || pv.contains i) && tM PL r pv
theorem uA {PL : List Nat} : ∀ {es : List (Nat × Ob)} {pv : List Nat}, tM PL es pv = true → ∀ i, ij PL i (am es i) = true → i ∈ pv
 | [], pv, h, i, hi => by simp [am, ij] at hi
 | (j, o) :: r, pv, h, i, hi => by
  simp only [tM, Bool.and_eq_true, Bool.or_eq_true, Bool.not_eq_true'] at h
  simp only [am] at hi
  split at hi
  ·rename_i e
   have := Nat.eq_of_beq_eq_true e
   subst this
   rcases h.1 with h1 | h1
   ·rw [h1] at hi; cases hi
   ·simpa using h1
  ·exact uA h.2 i hi
theorem aY {PL : List Nat} {nx : Nat} {es : List (Nat × Ob)} {pv : List Nat} (h : tM PL es pv = true) : ∀ i, ij PL i ((⟨nx, es⟩ : Hp).get i) = true → i ∈ pv := fun i hi => by
 unfold Hp.get at hi
 split at hi
 ·exact uA h i hi
 ·simp [ij] at hi
def lq (ids : List Nat) : List (Nat × Ob) → List (Nat × Ob)
 | [] => []
 |(j, o) :: r => match ids.contains j with
  | true => lq ids r
  | false => (j, o) :: lq ids r
theorem rn {ids : List Nat} {i : Nat} : ∀ {l : List (Nat × Ob)}, am (lq ids l) i = am l i ∨ am (lq ids l) i = .gone
 | [] => .inl rfl
 | (j, o) :: r => by
  have ih := rn (ids := ids) (i := i) (l := r)
  simp only [lq]
  split
  ·rename_i hc
   by_cases hj : j = i
   ·subst hj
    refine .inr ?_
    have : ∀ l : List (Nat × Ob), am (lq ids l) j = .gone := fun l => by
     induction l with
     | nil => rfl
     | cons p q ihq =>
      obtain ⟨k, o'⟩ := p
      simp only [lq]
      split
      ·exact ihq
      ·rename_i hk
       have hne : k ≠ j := fun e => by subst e; rw [hc] at hk; cases hk
       simp only [am, nbF hne]
       exact ihq
    exact this r
   ·simp only [am, nbF hj]; exact ih
  ·simp only [am]
   split
   ·exact .inl rfl
   ·exact ih
theorem go_endD {fn : Func} {Post : V → Hp → Prop} {rs : List ResultVar} {vs : List V} {e : Exit} (ids : List Nat) (hT : TabOk P T) (hrs : fn.results = rs.toArray) (hv : oR T H.get F rs = some vs) (hP : Post (kS vs) ⟨H.nx, lq ids H.es⟩) (he : e = .ret ∨ e = .normal := by first | exact .inl rfl | exact .inr rfl) : Go P K (bodyPost P fn (SP K Post)) (.ex e) [] n F H := fun S w ρ a hr hi hF => by
 have hh : ∀ i, (⟨H.nx, lq ids H.es⟩ : Hp).get i = H.get i ∨ (⟨H.nx, lq ids H.es⟩ : Hp).get i = .gone := fun i => by
  unfold Hp.get
  cases hb : Nat.blt i H.nx
  ·exact .inl rfl
  ·exact rn
 exact ret_go hT he hrs hr hF hv fun x hx => ⟨x, S, ρ, _, _, rfl, hP, hr.drop hh, hi.drop hh, hx⟩
theorem gJ (k : Go P K Q p s n F' H') (σ pv : List Nat) (hp : p.still = true) (hpin : aI K pv) (hF : leF σ F F') (hH : leH σ H H'.es) (hc : (dj σ && Nat.ble σ.length H'.nx && wI σ pv && Nat.ble F'.length n) = true) : Go P K Q p s n F H := go_sub σ pv hp hpin hF hH hc k
theorem sr {S : Nat → Prop} {w : World} {ρ : Nat → Option Value} {h : Nat → Ob} {nid : Nat} (e : TypeId) (sz : Nat) (hr : HRel S w ρ h) (hf : h nid = .free) : Eff S w w ρ (dh ρ nid (.slice none 0 0)) h (cb h nid (.row e sz [])) (fun _ => False) :=
 eff_new hr hf (Chg.refl _ _) ⟨_, [], ba _ _ _, ⟨by simp, .inl ⟨rfl, rfl⟩⟩, by simp [CRel]⟩ (fun b hb => by
  obtain ⟨v, h1, h2⟩ := hb
  rw [ba] at h1
  cases h1; cases h2)
theorem gNS (d : Nat) (e : TypeId) (sz : Nat) (hp : p.still = true) (hd : F.get d = some .nils) (h1 : F.put d (some (.sl H.nx)) id = F1) (h2 : H.ap (.new (.row e sz [])) id = H1) (k : Go P K Q p s n F1 H1) : Go P K Q p s n F H := by
 rw [Fm.put_eq] at h1; rw [Hp.ap_eq] at h2; subst h1 h2
 intro S w ρ a hr hi hF
 have he := sr e sz hr H.get_free
 have hg : (H.app (.new (.row e sz []))).get = cb H.get H.nx (.row e sz []) := Hp.get_app trivial
 have := k S w (dh ρ H.nx (.slice none 0 0)) a (by rw [id_eq, hg]; exact he.hr) (by rw [id_eq, hg]; exact hi.eff he) (by
  have hu := hF.up he.up
  refine ⟨hu.size, hu.defers, by simpa using hu.len, fun i u hiu => ?_⟩
  rw [id_eq, Fm.get_eq, List.getElem?_set] at hiu
  split at hiu
  ·rename_i e1; subst e1
   split at hiu
   ·simp only [Option.bind_some, id_eq, Option.some.injEq] at hiu
    subst hiu
    obtain ⟨x, h3, h4⟩ := hF.get d _ hd
    simp only [VRel] at h4; subst h4
    exact ⟨_, h3, by simp only [VRel]; exact ⟨ba _ _ _, rfl⟩⟩
   ·cases hiu
  ·exact hu.get i u (by rw [Fm.get_eq]; exact hiu))
 cases p with
 | drw all L m left listed => cases hp
 | code c => exact this
 | ops all rest => exact this
 | ex e => exact this
theorem gNC {t : TypeId} {cs : List V} (id o : Nat) (e : TypeId) (sz : Nat) (hp : p.still = true) (ho : H.get id = .var t cs) (hc : cs[o]? = some .nils) (h2 : (H.ap (.new (.row e sz [])) fun H1 => H1.ap (.set id (.var t (cs.set o (.sl H.nx)))) _root_.id) = H1) (k : Go P K Q p s n F H1) : Go P K Q p s n F H := by
 rw [Hp.ap_eq, Hp.ap_eq] at h2; subst h2
 intro S w ρ a hr hi hF
 have he := sr e sz hr H.get_free
 have hg : (H.app (.new (.row e sz []))).get = cb H.get H.nx (.row e sz []) := Hp.get_app trivial
 have hne : id ≠ H.nx := fun e1 => by subst e1; rw [H.get_free] at ho; cases ho
 have hg1 : (H.app (.new (.row e sz []))).get id = .var t cs := by rw [hg, bW _ _ hne, ho]
 have hg2 : ((H.app (.new (.row e sz []))).app (.set id (.var t (cs.set o (.sl H.nx))))).get = cb (H.app (.new (.row e sz []))).get id (.var t (cs.set o (.sl H.nx))) := Hp.get_app (by exact ⟨by rw [hg1]; simp, by rw [hg1]; simp⟩)
 have h1 : HRel S w (dh ρ H.nx (.slice none 0 0)) (H.app (.new (.row e sz []))).get := by rw [hg]; exact he.hr
 have h2 : Inv K S w (dh ρ H.nx (.slice none 0 0)) (H.app (.new (.row e sz []))).get := by rw [hg]; exact hi.eff he
 have how : ∀ i b, own (dh ρ H.nx (.slice none 0 0)) i (cb (H.app (.new (.row e sz []))).get id (.var t (cs.set o (.sl H.nx))) i) b ↔ own (dh ρ H.nx (.slice none 0 0)) i ((H.app (.new (.row e sz []))).get i) b := fun i b => by
  by_cases hi : i = id
  ·subst hi; rw [bB, hg1]; rfl
  ·rw [bW _ _ hi]
 have := k S w (dh ρ H.nx (.slice none 0 0)) a (by
  rw [id_eq, hg2]
  refine ⟨fun i => ?_, fun i b hb => h1.sep i b ((how i b).1 hb), fun i j b q1 q2 => h1.dis i j b ((how i b).1 q1) ((how j b).1 q2), h1.slt⟩
  by_cases hii : i = id
  ·subst hii
   rw [bB]
   obtain ⟨b, xs, q1, q2, q3⟩ := mg h1 hg1
   obtain ⟨x, q4, q5⟩ := q3.get hc
   simp only [VRel] at q5; subst q5
   refine ⟨b, xs, q1, q2, ?_⟩
   have := q3.set (i := o) (v := .sl H.nx) (x := .slice none 0 0) (by simp only [VRel]; exact ⟨ba _ _ _, rfl⟩)
   have e2 : xs.set o (.slice none 0 0) = xs := by
    obtain ⟨hl, q6⟩ := List.getElem?_eq_some_iff.1 q4
    rw [← q6]; exact List.set_getElem_self ..
   rw [e2] at this; exact this
  ·rw [bW _ _ hii]; exact h1.ob i) (by
  rw [id_eq, hg2]
  exact ⟨h2.chg, h2.s0, h2.s1, fun i b hb => h2.ow i b ((how i b).1 hb), h2.pin⟩) (hF.up he.up)
 cases p with
 | drw all L m left listed => cases hp
 | code c => exact this
 | ops all rest => exact this
 | ex e => exact this
theorem gLB {sz : Nat} {els : List V} {N : Nat} (d : Nat) (hd : F.get d = some (.row sz els)) (hn : els.length = N) (k : N ≤ 9223372036854775807 → Go P K Q p s n F H) : Go P K Q p s n F H := fun S w ρ a hr hi hF => by
 obtain ⟨x, h1, h2⟩ := hF.get d _ hd
 simp only [VRel] at h2
 obtain ⟨A, c, xs, rfl, h3, h4, _⟩ := h2
 exact k (by simp only [maxLen] at h4; omega) S w ρ a hr hi hF
theorem gLO {e : TypeId} {sz : Nat} {els : List V} {N : Nat} (id : Nat) (ho : H.get id = .row e sz els) (hn : els.length = N) (k : N ≤ 9223372036854775807 → Go P K Q p s n F H) : Go P K Q p s n F H := fun S w ρ a hr hi hF => by
 obtain ⟨v, xs, h1, h2, h3⟩ := jk hr ho
 refine k ?_ S w ρ a hr hi hF
 rcases h2.2 with ⟨_, h⟩ | ⟨g, cap, cur, _, _, _, h4, h5, _⟩
 ·omega
 ·simp only [maxLen] at h5; omega
theorem bw {t e : TypeId} {x y : Operand} {sz i : Nat} {els cs : List V} {v : V} {ty : TypeId} (hi : els[i]? = some v) (hT : TabOk P T) (ht : slT T t = some (e, sz)) (hx : aR F x = some (.row sz els)) (hy : aR F y = some (.int .i64 (i : Int))) (hc : v.cells = cs) : ∀ S w ρ a, HRel S w ρ H.get → FRel S w ρ a n F → Yld P S w ρ a ty (.indexAddr t x y) (.box cs 0) := by
 subst hc; exact yIR hT ht hx hy hi
theorem BO {f : Nat → Option Value} {a : Act} {w : World} {ty t u : TypeId} {x y : Operand} {m l : Int} (h : Fr a n f) (hx : au f x = some (.int .i64 m)) (hy : au f y = some (.int .i64 l)) (hl : l ≠ 0) : Runs P a ty (.binOp .rem t x y u) w (.value (.int .i64 (Int.tmod m l))) w := fun _ _ _ _ => by
 simp only [execOp, h.eval hx, h.eval hy]; simp [go_sem, eqGuard, Op.intDiv, hl]
theorem Ct {f : Nat → Option Value} {a : Act} {w : World} {ty t u : TypeId} {x y : Operand} {m l : List UInt8} (h : Fr a n f) (hx : au f x = some (.string ⟨m.toArray⟩)) (hy : au f y = some (.string ⟨l.toArray⟩)) (hb : m.length + l.length ≤ 9223372036854775807) : Runs P a ty (.binOp .add t x y u) w (.value (.string ⟨(m ++ l).toArray⟩)) w := fun _ _ _ _ => by
 simp only [execOp, h.eval hx, h.eval hy]; simp [go_sem, eqGuard, show ¬ 9223372036854775807 < m.length + l.length by omega]; rfl
theorem ER {t u ty : TypeId} {x y : Operand} {m l : Int} (hx : aR F x = some (.int .i64 m)) (hy : aR F y = some (.int .i64 l)) (hl : l ≠ 0) : ∀ S w ρ a, HRel S w ρ H.get → FRel S w ρ a n F → Yld P S w ρ a ty (.binOp .rem t x y u) (.int .i64 (Int.tmod m l)) := fun S w ρ a hr hF => ⟨_, by simp only [VRel], fun w' _ => BO hF.fr (bk (aj hF hx)) (bk (aj hF hy)) hl⟩
theorem oY {t u ty : TypeId} {x y : Operand} {m l : List UInt8} (hx : aR F x = some (.str m)) (hy : aR F y = some (.str l)) (hb : m.length + l.length ≤ 9223372036854775807) : ∀ S w ρ a, HRel S w ρ H.get → FRel S w ρ a n F → Yld P S w ρ a ty (.binOp .add t x y u) (.str (m ++ l)) := fun S w ρ a hr hF => ⟨_, by simp only [VRel], fun w' _ => Ct hF.fr (gA (aj hF hx)) (gA (aj hF hy)) hb⟩
theorem zW {PL : List Nat} {fid : FuncId} {vs us : List V} {v : V} {H0 G : Hp} (hS : eV PL P fid us H0 (fun u G' => u = v ∧ G' = G)) (σ : List Nat) (hv : aD vs (renL σ us)) (hH : leH σ H H0.es) (hc : (dj σ && Nat.beq σ.length H0.nx && σ.all fun i => Nat.blt i H.nx) = true) (L : List Nat) (hL : (cf H.get L && L.all fun i => !σ.contains i) = true) :
  CallR P K fid vs H L (fun v' H'' => v' = v.ren (sgN PL H.nx H0.get G.nx σ 0) ∧ H'' = la PL H σ H0 G) := fun S w ρ xs hr hi hx =>
 (ov hS σ hv hH hc L hL S w ρ xs hr hi hx).mono fun e w' hh => by
  obtain ⟨x, S', ρ', v', H', h1, ⟨u, G', ⟨q1, q2⟩, e1, e2⟩, h3⟩ := hh
  subst q1 q2
  exact ⟨x, S', ρ', v', H', h1, ⟨e1, e2⟩, h3⟩
theorem zd {o : Oper} {L : List Nat} {ok : Bool} {v : Option V} (ed : ED) (hd : ∀ S w ρ a, HRel S w ρ H.get → FRel S w ρ a n F → Does P S w ρ H.get a o.type o.op v (ed.app H.get H.nx) ed.tch) (hl : ed.ok H.get) (hc : ((cf H.get L && ed.clear L) || ok) = true) : lY P K o L ok n F H (v.getD (.tup [])) (H.app ed) := fun S w ρ a hr hi hF Q' K2 k => by
 obtain ⟨nx, w', ρ', h1, h2, h3⟩ := hd S w ρ a hr hF
 have hr' := h2.hr
 have hi' := hi.eff h2
 rw [← Hp.get_app hl] at hr' hi'
 have hLs : Ls ρ L w w' ∨ ok = true := (qf hc).imp (fun h => by
  simp only [Bool.and_eq_true] at h
  exact vi hr h2 h.1 h.2) _root_.id
 have kk := fun x hx => k x S w' ρ' hr' hi' h2.up (mh hr h2) hLs hx
 obtain ⟨d, op, ty, ps, af, g⟩ := o
 unfold Oper.wp
 rw [h1 d ps af g]
 cases v with
 | none =>
  subst h3
  exact kk undef oA
 | some v =>
  obtain ⟨x, rfl, h4⟩ := h3
  exact kk x h4
theorem LRel.sub {S : Nat → Prop} {w : World} {ρ : Nat → Option Value} {vs : List V} {xs : List Value} (h : LRel S w ρ vs xs) (i j : Nat) : LRel S w ρ ((vs.drop i).take j) ((xs.drop i).take j) := (h.drop i).take j
theorem zy {fid : FuncId} {vs : List V} {L : List Nat} {Post : V → Hp → Prop} (i : Nat) (e : TypeId) (sz : Nat) (hv : vs[i]? = some .nils) (k : CallR P K fid (vs.set i (.sl H.nx)) (H.app (.new (.row e sz []))) L Post) : CallR P K fid vs H L Post := fun S w ρ xs hr hi hx => by
 have he := sr e sz hr H.get_free
 have hg : (H.app (.new (.row e sz []))).get = cb H.get H.nx (.row e sz []) := Hp.get_app trivial
 have hx' : LRel S w (dh ρ H.nx (.slice none 0 0)) (vs.set i (.sl H.nx)) xs := by
  obtain ⟨x, h1, h2⟩ := hx.get hv
  simp only [VRel] at h2; subst h2
  have := (hx.up he.up).set (i := i) (v := .sl H.nx) (x := .slice none 0 0) (by simp only [VRel]; exact ⟨ba _ _ _, rfl⟩)
  have e2 : xs.set i (.slice none 0 0) = xs := by
   obtain ⟨hl, q6⟩ := List.getElem?_eq_some_iff.1 h1
   rw [← q6]; exact List.set_getElem_self ..
  rw [e2] at this; exact this
 refine (k S w (dh ρ H.nx (.slice none 0 0)) xs (by rw [hg]; exact he.hr) (by rw [hg]; exact hi.eff he) hx').mono fun e w' hh => ?_
 obtain ⟨x, S', ρ', v, H', h1, h2, h3, h4, h5, h6, h7⟩ := hh
 exact ⟨x, S', ρ', v, H', h1, h2, h3, h4, ⟨h5.s, h5.blk, fun i y h => h5.r i y (he.up.r i y h)⟩, h6, fun id hid y b hy hb => h7 id hid y b (he.up.r _ _ hy) hb⟩
theorem gYd {v : V} (i : Nat) (hi : all[i]? = some o) (hc : (!Nat.beq i m && Region.free .any all listed i && (Region.ready .any all listed).contains i) = true) (hy : ∀ S w ρ a, HRel S w ρ H.get → FRel S w ρ a n F → Yld P S w ρ a o.type o.op v) (hw : bv F all o.guard = some true) (h1 : F.puto o.dst (some v) id = F1) (k : Go P K Q (.drw all L m fuel (listed.setIfInBounds i true)) s n F1 H) : Go P K Q (.drw all L m (fuel + 1) listed) s n F H := by
 rw [Fm.puto_eq] at h1; subst h1
 simp only [Bool.and_eq_true, Bool.not_eq_true'] at hc
 exact Bp hc.1.1 hi hc.1.2 hc.2 hw hy k
theorem fk {v : V} (i : Nat) (hi : all[i]? = some o) (hrd : Region.ready .any all listed = [i]) (hy : ∀ S w ρ a, HRel S w ρ H.get → FRel S w ρ a n F → Yld P S w ρ a o.type o.op v) (hw : bv F all o.guard = some true) (h1 : F.puto o.dst (some v) id = F1) (k : Go P K Q (.drw all L m fuel (listed.setIfInBounds i true)) s n F1 H) : Go P K Q (.drw all L m (fuel + 1) listed) s n F H := by
 rw [Fm.puto_eq] at h1; subst h1
 exact yI hrd hi hw hy k
theorem gDo {v : Option V} (ed : ED) (hd : ∀ S w ρ a, HRel S w ρ H.get → FRel S w ρ a n F → Does P S w ρ H.get a o.type o.op v (ed.app H.get H.nx) ed.tch) (hl : ed.ok H.get) (hw : bv F all o.guard = some true) (h1 : F.puto o.dst (vb v) id = F1) (h2 : H.ap ed id = H1) (k : Go P K Q (.ops all rest) s n F1 H1) : Go P K Q (.ops all (o :: rest)) s n F H := by
 rw [Fm.puto_eq] at h1; rw [Hp.ap_eq] at h2; subst h1 h2
 exact go_opD hw hd hl k
theorem cJ {v : Option V} (i : Nat) (ed : ED) (hi : all[i]? = some o) (hrd : Region.ready .any all listed = [i]) (hd : ∀ S w ρ a, HRel S w ρ H.get → FRel S w ρ a n F → Does P S w ρ H.get a o.type o.op v (ed.app H.get H.nx) ed.tch) (hl : ed.ok H.get) (hw : bv F all o.guard = some true) (hc : ((cf H.get L && ed.clear L) || (listed.setIfInBounds i true).getD m false) = true) (h1 : F.puto o.dst (vb v) id = F1) (h2 : H.ap ed id = H1) (k : Go P K Q (.drw all L m fuel (listed.setIfInBounds i true)) s n F1 H1) : Go P K Q (.drw all L m (fuel + 1) listed) s n F H := by
 rw [Fm.puto_eq] at h1; rw [Hp.ap_eq] at h2; subst h1 h2
 exact ul hrd hi hw hd hl hc k
theorem bO {t e : TypeId} {x y : Operand} {sz by_ id : Nat} {els news els' : List V} {v : V} {ty : TypeId} (hT : TabOk P T) (ht : slB T t = some (e, sz, by_)) (hx : aR F x = some (.sl id)) (ho : H.get id = .row e sz els) (hy : aR F y = some v) (hs : tS H.get sz v = some news) (he : els ++ news = els') (hb : els'.length ≤ 1000000000) :
  ∀ S w ρ a, HRel S w ρ H.get → FRel S w ρ a n F → Does P S w ρ H.get a ty (.call { callee := .builtin .append, args := #[x, y], argTypes := #[t, t] }) (some (.sl H.nx)) ((ED.repl id (.row e sz els')).app H.get H.nx) (ED.repl id (.row e sz els')).tch := by
 subst he
 exact dAp hT ht hx ho hy hs (by simpa using hb)
theorem okR {e : TypeId} {sz : Nat} {els : List V} {id : Nat} {o' : Ob} (ho : H.get id = .row e sz els) : (ED.repl id o').ok H.get := by exact ⟨by rw [ho]; simp, by rw [ho]; simp⟩
theorem okS {e : TypeId} {sz : Nat} {els : List V} {id : Nat} {o' : Ob} (ho : H.get id = .row e sz els) : (ED.set id o').ok H.get := by exact ⟨by rw [ho]; simp, by rw [ho]; simp⟩
theorem dLe (hT : TabOk P T) {t e : TypeId} {x : Operand} {id sz i o : Nat} {els : List V} {v0 v : V} {td : TD} {ty : TypeId} (ht : T.ty t = some td) (hx : aR F x = some (.el id sz i o)) (ho : H.get id = .row e sz els) (hi : els[i]? = some v0) (hv : ly td v0.cells o = some v) :
  ∀ S w ρ a, HRel S w ρ H.get → FRel S w ρ a n F → Does P S w ρ H.get a ty (.load t x) (some v) (ED.nop.app H.get H.nx) ED.nop.tch := fun S w ρ a hr hF => by
 rcases li (hT.ty _ _ ht) hv with ⟨h1, h2⟩ | ⟨h1, h2, rfl⟩
 ·exact wu hr hF.fr (aj hF hx) ho h1 hi h2
 ·exact uk hr hF.fr (aj hF hx) ho h1 hi h2
theorem dSe (hT : TabOk P T) {t e : TypeId} {x y : Operand} {id sz i o : Nat} {els els' : List V} {v0 v : V} {td : TD} {ty : TypeId} (ht : T.ty t = some td) (hx : aR F x = some (.el id sz i o)) (hy : aR F y = some v) (ho : H.get id = .row e sz els) (hi : els[i]? = some v0) (hc : (Nat.beq v.cells.length td.size && v.cells.all V.one && Nat.ble (o + td.size) v0.cells.length && (match v0 with | .agg _ => true | v0 => v0.one && v.one)) = true) (he : els.set i (v0.over o v.cells) = els') :
  ∀ S w ρ a, HRel S w ρ H.get → FRel S w ρ a n F → Does P S w ρ H.get a ty (.store t x y) none ((ED.set id (.row e sz els')).app H.get H.nx) (ED.set id (.row e sz els')).tch := fun S w ρ a hr hF => by
 subst he
 simp only [Bool.and_eq_true] at hc
 obtain ⟨⟨⟨h1, h2⟩, h3⟩, h4⟩ := hc
 exact qK hr hF.fr (aj hF hx) (aj hF hy) ho (hT.ty _ _ ht).size hi (Nat.eq_of_beq_eq_true h1) h2 (Nat.le_of_ble_eq_true h3) (by
  cases v0 with
  | agg cs => exact .inl ⟨cs, rfl⟩
  | _ => simp only [Bool.and_eq_true] at h4; exact .inr ⟨oo h4.1, oo h4.2⟩)
theorem dMk (hT : TabOk P T) {t e : TypeId} {x y : Operand} {m sz : Nat} {z0 : V} {td : TD} {tz : TD} {ty : TypeId} (ht : T.ty t = some tz) (hk : (match tz.kind with | .sl e' => Nat.beq e e' | _ => false) = true) (hte : T.ty e = some td) (hx : aR F x = some (.int .i64 (m : Int))) (hy : aR F y = some (.int .i64 (m : Int))) (hsz : td.size = sz) (hz0 : td.zero = z0) (hc : (Nat.blt 0 td.size && Nat.ble td.bytes 1000) = true) (hm : m ≤ 1000000000) :
  ∀ S w ρ a, HRel S w ρ H.get → FRel S w ρ a n F → Does P S w ρ H.get a ty (.makeSlice t x y) (some (.sl H.nx)) ((ED.new (.row e sz (List.replicate m z0))).app H.get H.nx) (ED.new (.row e sz (List.replicate m z0))).tch := fun S w ρ a hr hF => by
 subst hsz hz0
 simp only [Bool.and_eq_true, Nat.blt_eq] at hc
 obtain ⟨z, h1, h2, h3, h4⟩ := (hT.ty _ _ hte).info
 have hsl : P.underlying t = some (.slice e) := by
  split at hk
  ·rename_i e' he'
   have := Nat.eq_of_beq_eq_true hk
   subst this
   exact (hT.ty _ _ ht).sl he'
  ·cases hk
 have hb : td.bytes ≤ 1000 := Nat.le_of_ble_eq_true hc.2
 exact zD hr hF.fr H.get_free (aj hF hx) (aj hF hy) hsl h1 h3 hc.1 h4 h2 (Nat.le_trans (Nat.mul_le_mul hb hm) (by decide)) (by simp only [maxLen]; omega)
theorem gCn {PL : List Nat} {fid : FuncId} {args : List Operand} {tys : Array TypeId} {vs us : List V} {H0 : Hp} {Post : V → Hp → Prop} {d : Option Tmp} {ty : TypeId} {ps : String} {af : Array Edge} {g : Option (Nat × Bool)} (i : Nat) (e : TypeId) (sz : Nat) (hS : eV PL P fid us H0 Post) (σ : List Nat) (he : ce P fid = true) (hw : bv F all g = some true) (hv : it F args = some vs) (hvi : vs[i]? = some .nils) (h2 : H.ap (.new (.row e sz [])) id = H1) (hs : aD (vs.set i (.sl H.nx)) (renL σ us)) (hH : leH σ H1 H0.es) (hc : (dj σ && Nat.beq σ.length H0.nx && σ.all fun i => Nat.blt i H1.nx) = true)
  (k : ∀ v H', Post v H' → Go P K Q (.ops all rest) s n (F.seto d (some (v.ren (sgN PL H1.nx H0.get H'.nx σ 0)))) (la PL H1 σ H0 H')) : Go P K Q (.ops all (⟨d, .call { callee := .value (.func fid), args := args.toArray, argTypes := tys }, ty, ps, af, g⟩ :: rest)) s n F H := by
 rw [Hp.ap_eq] at h2; subst h2
 exact go_opC (o := ⟨d, .call { callee := .value (.func fid), args := args.toArray, argTypes := tys }, ty, ps, af, g⟩) he rfl hw hv (zy i e sz hvi (ov hS σ hs hH hc [] (by simp [cf]))) fun v' H'' ⟨v, H', hP, e1, e2⟩ => by subst e1 e2; exact k v H' hP
end
abbrev qS (f : FuncId) (a : List V) (r : V) : Prop := nu Tryz.prog f a r
abbrev qLG (K : Ctx) (fn : Func) (Q : V → Hp → Prop) (c : Code) (s : List EI) (n : Nat) (F : Fm) (H : Hp) : Prop := Go Tryz.prog K (bodyPost Tryz.prog fn (SP K Q)) (.code c) s n F H
section
variable {P : Program} {K : Ctx} {Q : Exit → Act → World → Prop} {p : EP} {s : List EI} {n : Nat} {F F1 F2 F3 F4 : Fm} {H : Hp}
theorem qBh {e : Bool} {A B C D : Prop} (d : Nat) (hd : F.get d = some (.bool e)) (h1 : F.put d (some (.bool true)) id = F1) (h2 : F.put d (some (.bool false)) id = F2) (h : (A → C) ∧ (B → D)) (a : e = true → A) (b : e = false → B) (kT : C → Go P K Q p s n F1 H) (kF : D → Go P K Q p s n F2 H) : Go P K Q p s n F H := gB d hd h1 h2 (fun z => kT (h.1 (a z))) (fun z => kF (h.2 (b z)))
theorem qBi {e : Bool} {C D : Prop} (d : Nat) (hd : F.get d = some (.bool e)) (h1 : F.put d (some (.bool true)) id = F1) (h2 : F.put d (some (.bool false)) id = F2) (h : (e = true → C) ∧ (e = false → D)) (kT : C → Go P K Q p s n F1 H) (kF : D → Go P K Q p s n F2 H) : Go P K Q p s n F H := qBh d hd h1 h2 h id id kT kF
theorem qBe {α : Type} [BEq α] [LawfulBEq α] {x y : α} {C D : Prop} (d : Nat) (hd : F.get d = some (.bool (x == y))) (h1 : F.put d (some (.bool true)) id = F1) (h2 : F.put d (some (.bool false)) id = F2) (h : (x = y → C) ∧ (x ≠ y → D)) (kT : C → Go P K Q p s n F1 H) (kF : D → Go P K Q p s n F2 H) : Go P K Q p s n F H := qBh d hd h1 h2 h eq_of_beq ne_of_beq_false kT kF
theorem qBd {x : Prop} [Decidable x] {C D : Prop} (d : Nat) (hd : F.get d = some (.bool (decide x))) (h1 : F.put d (some (.bool true)) id = F1) (h2 : F.put d (some (.bool false)) id = F2) (h : (x → C) ∧ (¬ x → D)) (kT : C → Go P K Q p s n F1 H) (kF : D → Go P K Q p s n F2 H) : Go P K Q p s n F H := qBh d hd h1 h2 h of_decide_eq_true of_decide_eq_false kT kF
theorem qBhZ {e : Bool} {A B C D : Prop} (d i : Nat) (hd : F.get d = some (.bool e)) (hi : Fm.get (F.set d none) i = some (.bool e)) (h1 : F.put d (some (.bool true)) (fun F => F.put i (some (.bool true)) id) = F3) (h2 : F.put d (some (.bool false)) (fun F => F.put i (some (.bool false)) id) = F4) (h : (A → C) ∧ (B → D)) (a : e = true → A) (b : e = false → B) (kT : C → Go P K Q p s n F3 H) (kF : D → Go P K Q p s n F4 H) : Go P K Q p s n F H := by
 rw [Fm.put_eq, Fm.put_eq] at h1 h2
 have w (v : V) : Fm.get (F.set d (some v)) i = some (.bool e) := by
  rw [Fm.get_eq, List.getElem?_set] at hi ⊢
  split at hi
  · split at hi <;> simp at hi
  · rename_i e; rw [if_neg e]; exact hi
 exact gB d hd (Fm.put_eq ..) (Fm.put_eq ..) (fun z => gT i (w _) z ((Fm.put_eq ..).trans h1) (kT (h.1 (a z)))) (fun z => gF i (w _) z ((Fm.put_eq ..).trans h2) (kF (h.2 (b z))))
theorem qBiZ {e : Bool} {C D : Prop} (d i : Nat) (hd : F.get d = some (.bool e)) (hi : Fm.get (F.set d none) i = some (.bool e)) (h1 : F.put d (some (.bool true)) (fun F => F.put i (some (.bool true)) id) = F3) (h2 : F.put d (some (.bool false)) (fun F => F.put i (some (.bool false)) id) = F4) (h : (e = true → C) ∧ (e = false → D)) (kT : C → Go P K Q p s n F3 H) (kF : D → Go P K Q p s n F4 H) : Go P K Q p s n F H := qBhZ d i hd hi h1 h2 h id id kT kF
theorem qBeZ {α : Type} [BEq α] [LawfulBEq α] {x y : α} {C D : Prop} (d i : Nat) (hd : F.get d = some (.bool (x == y))) (hi : Fm.get (F.set d none) i = some (.bool (x == y))) (h1 : F.put d (some (.bool true)) (fun F => F.put i (some (.bool true)) id) = F3) (h2 : F.put d (some (.bool false)) (fun F => F.put i (some (.bool false)) id) = F4) (h : (x = y → C) ∧ (x ≠ y → D)) (kT : C → Go P K Q p s n F3 H) (kF : D → Go P K Q p s n F4 H) : Go P K Q p s n F H := qBhZ d i hd hi h1 h2 h eq_of_beq ne_of_beq_false kT kF
theorem qBdZ {x : Prop} [Decidable x] {C D : Prop} (d i : Nat) (hd : F.get d = some (.bool (decide x))) (hi : Fm.get (F.set d none) i = some (.bool (decide x))) (h1 : F.put d (some (.bool true)) (fun F => F.put i (some (.bool true)) id) = F3) (h2 : F.put d (some (.bool false)) (fun F => F.put i (some (.bool false)) id) = F4) (h : (x → C) ∧ (¬ x → D)) (kT : C → Go P K Q p s n F3 H) (kF : D → Go P K Q p s n F4 H) : Go P K Q p s n F H := qBhZ d i hd hi h1 h2 h of_decide_eq_true of_decide_eq_false kT kF
end
theorem pqq {v : V} : ∃ u, some v = some u ∧ aA u v := ⟨v, rfl, aA.rfl⟩
theorem pq1 {a0 : V} : (∃ u, some a0 = some u ∧ aA u a0) ∧ True := ⟨pqq, trivial⟩
theorem pq2 {a0 a1 : V} : (∃ u, some a0 = some u ∧ aA u a0) ∧ (∃ u, some a1 = some u ∧ aA u a1) ∧ True := ⟨pqq, pqq, trivial⟩
theorem pq3 {a0 a1 a2 : V} : (∃ u, some a0 = some u ∧ aA u a0) ∧ (∃ u, some a1 = some u ∧ aA u a1) ∧ (∃ u, some a2 = some u ∧ aA u a2) ∧ True := ⟨pqq, pqq, pqq, trivial⟩
theorem pq4 {a0 a1 a2 a3 : V} : (∃ u, some a0 = some u ∧ aA u a0) ∧ (∃ u, some a1 = some u ∧ aA u a1) ∧ (∃ u, some a2 = some u ∧ aA u a2) ∧ (∃ u, some a3 = some u ∧ aA u a3) ∧ True := ⟨pqq, pqq, pqq, pqq, trivial⟩
theorem pq5 {a0 a1 a2 a3 a4 : V} : (∃ u, some a0 = some u ∧ aA u a0) ∧ (∃ u, some a1 = some u ∧ aA u a1) ∧ (∃ u, some a2 = some u ∧ aA u a2) ∧ (∃ u, some a3 = some u ∧ aA u a3) ∧ (∃ u, some a4 = some u ∧ aA u a4) ∧ True := ⟨pqq, pqq, pqq, pqq, pqq, trivial⟩
theorem pq6 {a0 a1 a2 a3 a4 a5 : V} : (∃ u, some a0 = some u ∧ aA u a0) ∧ (∃ u, some a1 = some u ∧ aA u a1) ∧ (∃ u, some a2 = some u ∧ aA u a2) ∧ (∃ u, some a3 = some u ∧ aA u a3) ∧ (∃ u, some a4 = some u ∧ aA u a4) ∧ (∃ u, some a5 = some u ∧ aA u a5) ∧ True := ⟨pqq, pqq, pqq, pqq, pqq, pqq, trivial⟩
theorem pq7 {a0 a1 a2 a3 a4 a5 a6 : V} : (∃ u, some a0 = some u ∧ aA u a0) ∧ (∃ u, some a1 = some u ∧ aA u a1) ∧ (∃ u, some a2 = some u ∧ aA u a2) ∧ (∃ u, some a3 = some u ∧ aA u a3) ∧ (∃ u, some a4 = some u ∧ aA u a4) ∧ (∃ u, some a5 = some u ∧ aA u a5) ∧ (∃ u, some a6 = some u ∧ aA u a6) ∧ True := ⟨pqq, pqq, pqq, pqq, pqq, pqq, pqq, trivial⟩
theorem pq8 {a0 a1 a2 a3 a4 a5 a6 a7 : V} : (∃ u, some a0 = some u ∧ aA u a0) ∧ (∃ u, some a1 = some u ∧ aA u a1) ∧ (∃ u, some a2 = some u ∧ aA u a2) ∧ (∃ u, some a3 = some u ∧ aA u a3) ∧ (∃ u, some a4 = some u ∧ aA u a4) ∧ (∃ u, some a5 = some u ∧ aA u a5) ∧ (∃ u, some a6 = some u ∧ aA u a6) ∧ (∃ u, some a7 = some u ∧ aA u a7) ∧ True := ⟨pqq, pqq, pqq, pqq, pqq, pqq, pqq, pqq, trivial⟩
theorem pq9 {a0 a1 a2 a3 a4 a5 a6 a7 a8 : V} : (∃ u, some a0 = some u ∧ aA u a0) ∧ (∃ u, some a1 = some u ∧ aA u a1) ∧ (∃ u, some a2 = some u ∧ aA u a2) ∧ (∃ u, some a3 = some u ∧ aA u a3) ∧ (∃ u, some a4 = some u ∧ aA u a4) ∧ (∃ u, some a5 = some u ∧ aA u a5) ∧ (∃ u, some a6 = some u ∧ aA u a6) ∧ (∃ u, some a7 = some u ∧ aA u a7) ∧ (∃ u, some a8 = some u ∧ aA u a8) ∧ True := ⟨pqq, pqq, pqq, pqq, pqq, pqq, pqq, pqq, pqq, trivial⟩
theorem pq10 {a0 a1 a2 a3 a4 a5 a6 a7 a8 a9 : V} : (∃ u, some a0 = some u ∧ aA u a0) ∧ (∃ u, some a1 = some u ∧ aA u a1) ∧ (∃ u, some a2 = some u ∧ aA u a2) ∧ (∃ u, some a3 = some u ∧ aA u a3) ∧ (∃ u, some a4 = some u ∧ aA u a4) ∧ (∃ u, some a5 = some u ∧ aA u a5) ∧ (∃ u, some a6 = some u ∧ aA u a6) ∧ (∃ u, some a7 = some u ∧ aA u a7) ∧ (∃ u, some a8 = some u ∧ aA u a8) ∧ (∃ u, some a9 = some u ∧ aA u a9) ∧ True := ⟨pqq, pqq, pqq, pqq, pqq, pqq, pqq, pqq, pqq, pqq, trivial⟩
theorem pq11 {a0 a1 a2 a3 a4 a5 a6 a7 a8 a9 a10 : V} : (∃ u, some a0 = some u ∧ aA u a0) ∧ (∃ u, some a1 = some u ∧ aA u a1) ∧ (∃ u, some a2 = some u ∧ aA u a2) ∧ (∃ u, some a3 = some u ∧ aA u a3) ∧ (∃ u, some a4 = some u ∧ aA u a4) ∧ (∃ u, some a5 = some u ∧ aA u a5) ∧ (∃ u, some a6 = some u ∧ aA u a6) ∧ (∃ u, some a7 = some u ∧ aA u a7) ∧ (∃ u, some a8 = some u ∧ aA u a8) ∧ (∃ u, some a9 = some u ∧ aA u a9) ∧ (∃ u, some a10 = some u ∧ aA u a10) ∧ True := ⟨pqq, pqq, pqq, pqq, pqq, pqq, pqq, pqq, pqq, pqq, pqq, trivial⟩
theorem pq12 {a0 a1 a2 a3 a4 a5 a6 a7 a8 a9 a10 a11 : V} : (∃ u, some a0 = some u ∧ aA u a0) ∧ (∃ u, some a1 = some u ∧ aA u a1) ∧ (∃ u, some a2 = some u ∧ aA u a2) ∧ (∃ u, some a3 = some u ∧ aA u a3) ∧ (∃ u, some a4 = some u ∧ aA u a4) ∧ (∃ u, some a5 = some u ∧ aA u a5) ∧ (∃ u, some a6 = some u ∧ aA u a6) ∧ (∃ u, some a7 = some u ∧ aA u a7) ∧ (∃ u, some a8 = some u ∧ aA u a8) ∧ (∃ u, some a9 = some u ∧ aA u a9) ∧ (∃ u, some a10 = some u ∧ aA u a10) ∧ (∃ u, some a11 = some u ∧ aA u a11) ∧ True := ⟨pqq, pqq, pqq, pqq, pqq, pqq, pqq, pqq, pqq, pqq, pqq, pqq, trivial⟩
theorem pqo {H : Hp} {x : Option Nat} {i : Nat} {t : TypeId} {cs : List V} (h1 : x = some i) (h2 : H.get i = .var t cs) : ∃ i, x = some i ∧ fg (H.get i) (.var t cs) := ⟨i, h1, by rw [h2]; exact ⟨rfl, aD.rfl⟩⟩
theorem pqo1 {H : Hp} {x0 : Option Nat} {i0 : Nat} {t0 : TypeId} {c0 : List V} (h0 : x0 = some i0) (k0 : H.get i0 = .var t0 c0) : (∃ i, x0 = some i ∧ fg (H.get i) (.var t0 c0)) ∧ True := ⟨pqo h0 k0, trivial⟩
theorem pqo2 {H : Hp} {x0 : Option Nat} {i0 : Nat} {t0 : TypeId} {c0 : List V} (h0 : x0 = some i0) (k0 : H.get i0 = .var t0 c0) {x1 : Option Nat} {i1 : Nat} {t1 : TypeId} {c1 : List V} (h1 : x1 = some i1) (k1 : H.get i1 = .var t1 c1) : (∃ i, x0 = some i ∧ fg (H.get i) (.var t0 c0)) ∧ (∃ i, x1 = some i ∧ fg (H.get i) (.var t1 c1)) ∧ True := ⟨pqo h0 k0, pqo h1 k1, trivial⟩
theorem pqo3 {H : Hp} {x0 : Option Nat} {i0 : Nat} {t0 : TypeId} {c0 : List V} (h0 : x0 = some i0) (k0 : H.get i0 = .var t0 c0) {x1 : Option Nat} {i1 : Nat} {t1 : TypeId} {c1 : List V} (h1 : x1 = some i1) (k1 : H.get i1 = .var t1 c1) {x2 : Option Nat} {i2 : Nat} {t2 : TypeId} {c2 : List V} (h2 : x2 = some i2) (k2 : H.get i2 = .var t2 c2) : (∃ i, x0 = some i ∧ fg (H.get i) (.var t0 c0)) ∧ (∃ i, x1 = some i ∧ fg (H.get i) (.var t1 c1)) ∧ (∃ i, x2 = some i ∧ fg (H.get i) (.var t2 c2)) ∧ True := ⟨pqo h0 k0, pqo h1 k1, pqo h2 k2, trivial⟩
theorem pqo4 {H : Hp} {x0 : Option Nat} {i0 : Nat} {t0 : TypeId} {c0 : List V} (h0 : x0 = some i0) (k0 : H.get i0 = .var t0 c0) {x1 : Option Nat} {i1 : Nat} {t1 : TypeId} {c1 : List V} (h1 : x1 = some i1) (k1 : H.get i1 = .var t1 c1) {x2 : Option Nat} {i2 : Nat} {t2 : TypeId} {c2 : List V} (h2 : x2 = some i2) (k2 : H.get i2 = .var t2 c2) {x3 : Option Nat} {i3 : Nat} {t3 : TypeId} {c3 : List V} (h3 : x3 = some i3) (k3 : H.get i3 = .var t3 c3) : (∃ i, x0 = some i ∧ fg (H.get i) (.var t0 c0)) ∧ (∃ i, x1 = some i ∧ fg (H.get i) (.var t1 c1)) ∧ (∃ i, x2 = some i ∧ fg (H.get i) (.var t2 c2)) ∧ (∃ i, x3 = some i ∧ fg (H.get i) (.var t3 c3)) ∧ True := ⟨pqo h0 k0, pqo h1 k1, pqo h2 k2, pqo h3 k3, trivial⟩
abbrev xA (c : Code) : Code := cE (cB c)
abbrev xB (c : Code) : Code := cB (cB c)
abbrev xC (c : Code) : Code := xA (xA c)
abbrev xD (c : Code) : Code := xC (xC c)
abbrev xE (c : Code) : Code := cK (cB c)
abbrev xF (c : Code) : Code := xE (cA c)
abbrev xG (c : Code) : Code := xF (xB c)
abbrev xH (c : Code) : Code := xB (cB c)
abbrev xI (c : Code) : Code := cL (xG c)
abbrev xJ (c : Code) : Code := xD (xD c)
abbrev xK (c : Code) : Code := xB (xB c)
abbrev xL (c : Code) : Code := xA (xG c)
abbrev xM (c : Code) : Code := cT (cB c)
end Go.Proofs.YtgpcdfbmbcognaaGreat
namespace Go.Proofs.YtgpcdfbmbcognaaGreat
open Go.RowKit Lx Sx
set_option maxRecDepth 100000
set_option maxHeartbeats 4000000
def vM (p0 : List UInt8) (r0 : Int) : Prop := qS 63 [.str p0] (.int .i64 r0)
def pk (p0 : List UInt8) (r0 : Int) : Prop := qS 84 [.str p0] (.int .i64 r0)
def eM (p0 p1 r0 : Int) : Prop := qS 11 [.int .i64 p0, .int .i64 p1] (.int .i64 r0)
def dF (p0 p1 p2 r0 : Int) : Prop := qS 24 [.int .i64 p0, .int .i64 p1, .int .i64 p2] (.int .i64 r0)
def il (p0 : Int) (r0 : Bool) : Prop := qS 66 [.int .i64 p0] (.bool r0)
def cS (p0 : Int) (r0 : Bool) : Prop := qS 65 [.int .i64 p0] (.bool r0)
def kB (p0 : Int) (r0 : Bool) : Prop := qS 67 [.int .i64 p0] (.bool r0)
def jb (p0 : List UInt8) (r0 : Bool) : Prop := qS 64 [.str p0] (.bool r0)
def jX (p0 : Int) (p1 : List UInt8) (r0 : Bool) : Prop := qS 39 [.int .i64 p0, .str p1] (.bool r0)
def ll (p0 : Tree) (p1 : Int) (r0 : Bool) : Prop := qS 40 [.agg (ak p0), .int .i64 p1] (.bool r0)
def ik (p0 : Tree) (r0 : Bool) : Prop := qS 19 [.agg (ak p0)] (.bool r0)
def dy (p0 p1 r0 : Int) : Prop := qS 77 [.int .i64 p0, .int .i64 p1] (.int .i64 r0)
def bM (p0 p1 p2 r0 : Int) : Prop := qS 91 [.int .i64 p0, .int .i64 p1, .int .i64 p2] (.int .i64 r0)
def ep (p0 : Int) (r0 : Bool) : Prop := qS 94 [.int .i64 p0] (.bool r0)
def di (p0 : Int) (r0 : Bool) : Prop := qS 93 [.int .i64 p0] (.bool r0)
def ew (p0 : Int) (r0 : Bool) : Prop := qS 90 [.int .i64 p0] (.bool r0)
def eW (p0 : List UInt8) (r0 : Bool) : Prop := qS 92 [.str p0] (.bool r0)
def fI (p0 : Int) (p1 : List UInt8) (r0 : Bool) : Prop := qS 78 [.int .i64 p0, .str p1] (.bool r0)
def jd (p0 : Tree) (p1 p2 : Int) (r0 : Bool) : Prop := qS 79 [.agg (ak p0), .int .i64 p1, .int .i64 p2] (.bool r0)
def dg (p0 : Tree) (r0 : Bool) : Prop := qS 53 [.agg (ak p0)] (.bool r0)
def aH (m : Nat) (p1 : Int) (a b c : Nat) (d r0 : Int) : Prop := ∀ (K : Ctx), aI K [] → qLG K Tryz.f11 (fun u _ => u = .int .i64 r0) (xK (ae Tryz.f11)) [] 69 (mkF 69 0 [(1, .int .i64 p1), (5, .int .i64 (a : Int)), (6, .int .i64 d), (7, .int .i64 (b : Int)), (8, .int .i64 (c : Int))]) ⟨0, []⟩
def ii (m : Nat) (p0 p1 : Int) (a : Bool) (r0 : Int) : Prop := ∀ (K : Ctx), aI K [] → qLG K Tryz.f11 (fun u _ => u = .int .i64 r0) (cB (xD (xL (cB (ae Tryz.f11))))) [.blk 0, .seq (xK (ae Tryz.f11))] 69 (mkF 69 0 [(1, .int .i64 p1), (5, .int .i64 0), (6, .int .i64 0), (7, .int .i64 1), (8, .int .i64 0), (9, .int .i64 p0), (22, .bool a)]) ⟨0, []⟩
def io (m : Nat) (p1 : Int) (a b c : Nat) (d r0 : Int) : Prop := ∀ (K : Ctx), aI K [] → qLG K Tryz.f11 (fun u _ => u = .int .i64 r0) (xB (xH (ae Tryz.f11))) [] 69 (mkF 69 0 [(1, .int .i64 p1), (5, .int .i64 (a : Int)), (6, .int .i64 d), (7, .int .i64 (b : Int)), (8, .int .i64 (c : Int))]) ⟨0, []⟩
theorem ry (m : Nat) (p0 p1 r0 : Int) (h : ((p0 = 1) → ∃ a, dF p1 0 3 a ∧ a = r0) ∧ ((p0 ≠ 1) → ((p0 = 2) → aH m p1 2 6 2 (-1) r0) ∧ ((p0 ≠ 2) → ((p0 = 16) → aH m p1 0 3 0 (-1) r0) ∧ ((p0 ≠ 16) → ((p0 = 18) → aH m p1 1 2 0 (-1) r0) ∧ ((p0 ≠ 18) → ((p0 = 3) → aH m p1 1 3 0 1 r0) ∧ ((p0 ≠ 3) → ((p0 = 4) → ii m p0 p1 true r0) ∧ ((p0 ≠ 4) → ((p0 = 8) → ii m p0 p1 true r0) ∧ ((p0 ≠ 8) → ii m p0 p1 (p0 == 22) r0)))))))) : eM p0 p1 r0 := by
 refine ⟨rfl, rfl, ?_⟩
 refine av 69 [] Tryz.func11 rfl rfl rfl (aY rfl) fun K hK => ?_
 refine gR 30 rfl <| qBeZ 10 11 rfl rfl rfl rfl h (fun h => ?_) fun h => ?_
 refine gR 4 rfl ?_
 obtain ⟨a, hs17, h⟩ := h
 refine gC0 hs17 (by kernel_rfl) rfl rfl .rfl rfl <| gR 6 rfl ?_
 subst h
 exact go_end ab (rs := [.tmp 4]) rfl rfl rfl
 refine gR 7 rfl <| qBeZ 14 15 rfl rfl rfl rfl h (fun h => ?_) fun h => ?_
 exact gR 9 rfl <| gJ (h K hK) [] [] rfl hK pq5 trivial rfl
 refine gR 7 rfl <| qBeZ 16 17 rfl rfl rfl rfl h (fun h => ?_) fun h => ?_
 exact gR 9 rfl <| gJ (h K hK) [] [] rfl hK pq5 trivial rfl
 refine gR 7 rfl <| qBeZ 18 19 rfl rfl rfl rfl h (fun h => ?_) fun h => ?_
 exact gR 9 rfl <| gJ (h K hK) [] [] rfl hK pq5 trivial rfl
 refine gR 7 rfl <| qBeZ 20 21 rfl rfl rfl rfl h (fun h => ?_) fun h => ?_
 exact gR 8 rfl <| gJ (h K hK) [] [] rfl hK pq5 trivial rfl
 refine gR 8 rfl <| qBeZ 22 23 rfl rfl rfl rfl h (fun h => ?_) fun h => ?_
 exact gR 3 rfl <| gJ (h K hK) [] [] rfl hK pq7 trivial rfl
 refine gR 7 rfl <| qBeZ 22 24 rfl rfl rfl rfl h (fun h => ?_) fun h => ?_
 exact gR 3 rfl <| gJ (h K hK) [] [] rfl hK pq7 trivial rfl
 exact gR 6 rfl <| gJ (h K hK) [] [] rfl hK pq7 trivial rfl
theorem qR (m : Nat) (p1 : Int) (b c d : Nat) (a r0 : Int) (h : ((0 ≤ a) → ((a < p1) → (-1) = r0) ∧ ((¬ a < p1) → io m p1 b c d a r0)) ∧ ((¬ 0 ≤ a) → io m p1 b c d a r0)) : aH (m + 1) p1 b c d a r0 := by
 intro K hK
 refine gR 6 rfl <| qBdZ 47 46 rfl rfl rfl rfl h (fun h => ?_) fun h => ?_
 refine gR 6 rfl <| qBd 51 rfl rfl rfl h (fun h => ?_) fun h => ?_
 refine gR 8 rfl ?_
 subst h
 exact go_end ab (rs := [.tmp 4]) rfl rfl rfl
 exact gR 3 rfl <| gJ (h K hK) [] [] rfl hK pq5 trivial rfl
 exact gR 9 rfl <| gJ (h K hK) [] [] rfl hK pq5 trivial rfl
theorem qY (m : Nat) (p0 p1 : Int) (a : Bool) (r0 : Int) (h : ((a = true) → aH m p1 1 2 0 1 r0) ∧ ((a = false) → ((p0 = 17) → aH m p1 1 0 0 1 r0) ∧ ((p0 ≠ 17) → ((p0 = 19) → aH m p1 3 3 0 3 r0) ∧ ((p0 ≠ 19) → ((p0 = 20) → aH m p1 2 4 0 2 r0) ∧ ((p0 ≠ 20) → ((p0 = 21) → aH m p1 2 1 0 2 r0) ∧ ((p0 ≠ 21) → ((p0 = 5) → aH m p1 0 1 0 0 r0) ∧ ((p0 ≠ 5) → ((p0 = 6) → aH m p1 0 1 0 0 r0) ∧ ((p0 ≠ 6) → ((p0 = 7) → aH m p1 0 1 0 0 r0) ∧ ((p0 ≠ 7) → ((p0 = 9) → aH m p1 0 1 0 0 r0) ∧ ((p0 ≠ 9) → ((p0 = 10) → aH m p1 0 1 0 0 r0) ∧ ((p0 ≠ 10) → ((p0 = 11) → aH m p1 0 1 0 0 r0) ∧ ((p0 ≠ 11) → ((p0 = 12) → aH m p1 0 1 0 0 r0) ∧ ((p0 ≠ 12) → ((p0 = 13) → aH m p1 0 1 0 0 r0) ∧ ((p0 ≠ 13) → ((p0 = 14) → aH m p1 0 1 0 0 r0) ∧ ((p0 ≠ 14) → ((p0 = 15) → aH m p1 0 1 0 0 r0) ∧ ((p0 ≠ 15) → (-1) = r0)))))))))))))))) : ii (m + 1) p0 p1 a r0 := by
 intro K hK
 refine qBi 22 rfl rfl rfl h (fun h => ?_) fun h => ?_
 exact gR 8 rfl <| gJ (h K hK) [] [] rfl hK pq5 trivial rfl
 refine gR 7 rfl <| qBeZ 26 27 rfl rfl rfl rfl h (fun h => ?_) fun h => ?_
 exact gR 8 rfl <| gJ (h K hK) [] [] rfl hK pq5 trivial rfl
 refine gR 7 rfl <| qBeZ 28 29 rfl rfl rfl rfl h (fun h => ?_) fun h => ?_
 exact gR 8 rfl <| gJ (h K hK) [] [] rfl hK pq5 trivial rfl
 refine gR 7 rfl <| qBeZ 30 31 rfl rfl rfl rfl h (fun h => ?_) fun h => ?_
 exact gR 8 rfl <| gJ (h K hK) [] [] rfl hK pq5 trivial rfl
 refine gR 7 rfl <| qBeZ 32 33 rfl rfl rfl rfl h (fun h => ?_) fun h => ?_
 exact gR 8 rfl <| gJ (h K hK) [] [] rfl hK pq5 trivial rfl
 refine gR 8 rfl <| qBeZ 34 35 rfl rfl rfl rfl h (fun h => ?_) fun h => ?_
 exact gR 7 rfl <| gJ (h K hK) [] [] rfl hK pq5 trivial rfl
 refine gR 7 rfl <| qBeZ 34 36 rfl rfl rfl rfl h (fun h => ?_) fun h => ?_
 exact gR 7 rfl <| gJ (h K hK) [] [] rfl hK pq5 trivial rfl
 refine gR 7 rfl <| qBeZ 34 37 rfl rfl rfl rfl h (fun h => ?_) fun h => ?_
 exact gR 7 rfl <| gJ (h K hK) [] [] rfl hK pq5 trivial rfl
 refine gR 7 rfl <| qBeZ 34 38 rfl rfl rfl rfl h (fun h => ?_) fun h => ?_
 exact gR 7 rfl <| gJ (h K hK) [] [] rfl hK pq5 trivial rfl
 refine gR 7 rfl <| qBeZ 34 39 rfl rfl rfl rfl h (fun h => ?_) fun h => ?_
 exact gR 7 rfl <| gJ (h K hK) [] [] rfl hK pq5 trivial rfl
 refine gR 7 rfl <| qBeZ 34 40 rfl rfl rfl rfl h (fun h => ?_) fun h => ?_
 exact gR 7 rfl <| gJ (h K hK) [] [] rfl hK pq5 trivial rfl
 refine gR 7 rfl <| qBeZ 34 41 rfl rfl rfl rfl h (fun h => ?_) fun h => ?_
 exact gR 7 rfl <| gJ (h K hK) [] [] rfl hK pq5 trivial rfl
 refine gR 7 rfl <| qBeZ 34 42 rfl rfl rfl rfl h (fun h => ?_) fun h => ?_
 exact gR 7 rfl <| gJ (h K hK) [] [] rfl hK pq5 trivial rfl
 refine gR 7 rfl <| qBeZ 34 43 rfl rfl rfl rfl h (fun h => ?_) fun h => ?_
 exact gR 7 rfl <| gJ (h K hK) [] [] rfl hK pq5 trivial rfl
 refine gR 6 rfl <| qBeZ 34 44 rfl rfl rfl rfl h (fun h => ?_) fun h => ?_
 exact gR 4 rfl <| gJ (h K hK) [] [] rfl hK pq5 trivial rfl
 refine gR 9 rfl ?_
 subst h
 exact go_end ab (rs := [.tmp 4]) rfl rfl rfl
theorem qW (m : Nat) (p1 : Int) (c b a : Nat) (d r0 : Int) (h : ((d < 0) → (((a : Int) < p1) → InI (p1 - (a : Int)) ∧ InI ((p1 - (a : Int)) - 1) ∧ InI ((b : Int) + ((p1 - (a : Int)) - 1)) ∧ ∃ e, dF p1 (c : Int) ((b : Int) + ((p1 - (a : Int)) - 1)) e ∧ e = r0) ∧ ((¬ (a : Int) < p1) → ∃ f, dF p1 (c : Int) (b : Int) f ∧ f = r0)) ∧ ((¬ d < 0) → ∃ g, dF p1 (c : Int) (b : Int) g ∧ g = r0)) : io (m + 1) p1 c b a d r0 := by
 intro K hK
 refine gR 6 rfl <| qBdZ 54 53 rfl rfl rfl rfl h (fun h => ?_) fun h => ?_
 refine gR 6 rfl <| qBd 58 rfl rfl rfl h (fun h => ?_) fun h => ?_
 refine gR 5 rfl ?_
 obtain ⟨hb, h⟩ := h
 refine gR 1 rfl <| gV 62 (.int .i64 (p1 - (a : Int))) rfl (aG hb rfl) rfl ?_
 obtain ⟨hb, h⟩ := h
 refine gR 1 rfl <| gV 63 (.int .i64 ((p1 - (a : Int)) - 1)) rfl (aG hb rfl) rfl ?_
 obtain ⟨hb, h⟩ := h
 refine gR 1 rfl <| gV 64 (.int .i64 ((b : Int) + ((p1 - (a : Int)) - 1))) rfl (aG hb rfl) rfl <| gR 8 rfl ?_
 obtain ⟨e, hs18, h⟩ := h
 refine gC0 hs18 (by kernel_rfl) rfl rfl .rfl rfl <| gR 4 rfl ?_
 subst h
 exact go_end ab (rs := [.tmp 4]) rfl rfl rfl
 refine gR 8 rfl ?_
 obtain ⟨f, hs19, h⟩ := h
 refine gC0 hs19 (by kernel_rfl) rfl rfl .rfl rfl <| gR 4 rfl ?_
 subst h
 exact go_end ab (rs := [.tmp 4]) rfl rfl rfl
 refine gR 14 rfl ?_
 obtain ⟨g, hs20, h⟩ := h
 refine gC0 hs20 (by kernel_rfl) rfl rfl .rfl rfl <| gR 4 rfl ?_
 subst h
 exact go_end ab (rs := [.tmp 4]) rfl rfl rfl
theorem qn (m : Nat) (p0 p1 p2 r0 : Int) (h : ((p0 < p1) → (-1) = r0) ∧ ((¬ p0 < p1) → p2 = r0)) : dF p0 p1 p2 r0 := by
 refine ⟨rfl, rfl, ?_⟩
 refine av 11 [] Tryz.func24 rfl rfl rfl (aY rfl) fun K hK => ?_
 refine gR 13 rfl <| qBd 9 rfl rfl rfl h (fun h => ?_) fun h => ?_
 refine gR 8 rfl ?_
 subst h
 exact go_end ab (rs := [.tmp 6]) rfl rfl rfl
 refine gR 10 rfl ?_
 subst h
 exact go_end ab (rs := [.tmp 6]) rfl rfl rfl
theorem qP (m : Nat) (p0 : Int) (r0 : Bool) (h : ((5 ≤ p0) → decide (p0 ≤ 9) = r0) ∧ ((¬ 5 ≤ p0) → false = r0)) : il p0 r0 := by
 refine ⟨rfl, rfl, ?_⟩
 refine av 9 [] Tryz.func66 rfl rfl rfl (aY rfl) fun K hK => ?_
 refine gR 10 rfl <| qBdZ 5 4 rfl rfl rfl rfl h (fun h => ?_) fun h => ?_
 refine gR 7 rfl ?_
 subst h
 exact go_end ab (rs := [.tmp 2]) rfl rfl rfl
 refine gR 7 rfl ?_
 subst h
 exact go_end ab (rs := [.tmp 2]) rfl rfl rfl
theorem nA (m : Nat) (p0 : Int) (r0 : Bool) (h : ((10 ≤ p0) → ((p0 ≤ 22) → (p0 != 17) = r0) ∧ ((¬ p0 ≤ 22) → false = r0)) ∧ ((¬ 10 ≤ p0) → false = r0)) : cS p0 r0 := by
 refine ⟨rfl, rfl, ?_⟩
 refine av 13 [] Tryz.func65 rfl rfl rfl (aY rfl) fun K hK => ?_
 refine gR 10 rfl <| qBdZ 5 4 rfl rfl rfl rfl h (fun h => ?_) fun h => ?_
 refine gR 4 rfl <| qBdZ 9 8 rfl rfl rfl rfl h (fun h => ?_) fun h => ?_
 refine gR 7 rfl ?_
 subst h
 exact go_end ab (rs := [.tmp 2]) rfl rfl rfl
 refine gR 7 rfl ?_
 subst h
 exact go_end ab (rs := [.tmp 2]) rfl rfl rfl
 refine gR 11 rfl ?_
 subst h
 exact go_end ab (rs := [.tmp 2]) rfl rfl rfl
theorem rm (m : Nat) (p0 : Int) (r0 : Bool) (h : ∃ a, cS p0 a ∧ ((a = true) → ((p0 ≠ 19) → ((p0 ≠ 20) → (p0 != 21) = r0) ∧ ((p0 = 20) → false = r0)) ∧ ((p0 = 19) → false = r0)) ∧ ((a = false) → false = r0)) : kB p0 r0 := by
 refine ⟨rfl, rfl, ?_⟩
 refine av 17 [] Tryz.func67 rfl rfl rfl (aY rfl) fun K hK => ?_
 refine gR 8 rfl ?_
 obtain ⟨a, hs2, h⟩ := h
 refine gC0 hs2 (by kernel_rfl) rfl rfl .rfl rfl <| gR 1 rfl <| qBiZ 5 4 rfl rfl rfl rfl h (fun h => ?_) fun h => ?_
 refine gR 4 rfl <| qBhZ 9 8 rfl rfl rfl rfl h lf iK (fun h => ?_) fun h => ?_
 refine gR 4 rfl <| qBhZ 13 12 rfl rfl rfl rfl h lf iK (fun h => ?_) fun h => ?_
 refine gR 7 rfl ?_
 subst h
 exact go_end ab (rs := [.tmp 2]) rfl rfl rfl
 refine gR 7 rfl ?_
 subst h
 exact go_end ab (rs := [.tmp 2]) rfl rfl rfl
 refine gR 11 rfl ?_
 subst h
 exact go_end ab (rs := [.tmp 2]) rfl rfl rfl
 refine gR 15 rfl ?_
 subst h
 exact go_end ab (rs := [.tmp 2]) rfl rfl rfl
theorem pH (m : Nat) (p0 : List UInt8) (r0 : Bool) (h : ((p0 = [43]) → true = r0) ∧ ((p0 ≠ [43]) → ((p0 = [45]) → true = r0) ∧ ((p0 ≠ [45]) → ((p0 = [42]) → true = r0) ∧ ((p0 ≠ [42]) → ((p0 = [60]) → true = r0) ∧ ((p0 ≠ [60]) → ((p0 = [61, 61]) → true = r0) ∧ ((p0 ≠ [61, 61]) → false = r0)))))) : jb p0 r0 := by
 refine ⟨rfl, rfl, ?_⟩
 refine av 10 [] Tryz.func64 rfl rfl rfl (aY rfl) fun K hK => ?_
 refine gR 19 rfl <| qBeZ 4 5 rfl rfl rfl rfl h (fun h => ?_) fun h => ?_
 refine gR 12 rfl ?_
 subst h
 exact go_end ab (rs := [.tmp 2]) rfl rfl rfl
 refine gR 7 rfl <| qBeZ 4 6 rfl rfl rfl rfl h (fun h => ?_) fun h => ?_
 refine gR 12 rfl ?_
 subst h
 exact go_end ab (rs := [.tmp 2]) rfl rfl rfl
 refine gR 7 rfl <| qBeZ 4 7 rfl rfl rfl rfl h (fun h => ?_) fun h => ?_
 refine gR 12 rfl ?_
 subst h
 exact go_end ab (rs := [.tmp 2]) rfl rfl rfl
 refine gR 7 rfl <| qBeZ 4 8 rfl rfl rfl rfl h (fun h => ?_) fun h => ?_
 refine gR 12 rfl ?_
 subst h
 exact go_end ab (rs := [.tmp 2]) rfl rfl rfl
 refine gR 6 rfl <| qBeZ 4 9 rfl rfl rfl rfl h (fun h => ?_) fun h => ?_
 refine gR 9 rfl ?_
 subst h
 exact go_end ab (rs := [.tmp 2]) rfl rfl rfl
 refine gR 10 rfl ?_
 subst h
 exact go_end ab (rs := [.tmp 2]) rfl rfl rfl
def jD (m : Nat) (p0 : Int) (p1 : List UInt8) (a : Int) (b r0 : Bool) : Prop := ∀ (K : Ctx), aI K [] → qLG K Tryz.f39 (fun u _ => u = .bool r0) (cB (xG (ae Tryz.f39))) [.blk 0, .seq (xH (ae Tryz.f39))] 51 (mkF 51 0 [(1, .str p1), (5, .int .i64 a), (8, .int .i64 p0), (9, .bool b)]) ⟨0, []⟩
def eU (m : Nat) (p0 : Int) (p1 : List UInt8) (a : Int) (b r0 : Bool) : Prop := ∀ (K : Ctx), aI K [] → qLG K Tryz.f39 (fun u _ => u = .bool r0) (cB (xL (ae Tryz.f39))) [.blk 0, .seq (xH (ae Tryz.f39))] 51 (mkF 51 0 [(1, .str p1), (5, .int .i64 a), (8, .int .i64 p0), (14, .bool b)]) ⟨0, []⟩
theorem qV (m : Nat) (p0 : Int) (p1 : List UInt8) (r0 : Bool) (h : ∃ a, vM p1 a ∧ ((p0 = 1) → jD m p0 p1 a true r0) ∧ ((p0 ≠ 1) → jD m p0 p1 a (p0 == 3) r0)) : jX p0 p1 r0 := by
 refine ⟨rfl, rfl, ?_⟩
 refine av 51 [] Tryz.func39 rfl rfl rfl (aY rfl) fun K hK => ?_
 refine gR 8 rfl ?_
 obtain ⟨a, hs7, h⟩ := h
 refine gC0 hs7 (by kernel_rfl) rfl rfl .rfl rfl <| gR 17 rfl <| qBeZ 9 10 rfl rfl rfl rfl h (fun h => ?_) fun h => ?_
 exact gR 3 rfl <| gJ (h K hK) [] [] rfl hK pq4 trivial rfl
 exact gR 6 rfl <| gJ (h K hK) [] [] rfl hK pq4 trivial rfl
theorem ql (m : Nat) (p0 : Int) (p1 : List UInt8) (a : Int) (b r0 : Bool) (h : ((b = true) → (a == 2) = r0) ∧ ((b = false) → ((p0 = 2) → eU m p0 p1 a true r0) ∧ ((p0 ≠ 2) → ((p0 = 4) → eU m p0 p1 a true r0) ∧ ((p0 ≠ 4) → ((p0 = 12) → eU m p0 p1 a true r0) ∧ ((p0 ≠ 12) → eU m p0 p1 a (p0 == 20) r0))))) : jD (m + 1) p0 p1 a b r0 := by
 intro K hK
 refine qBi 9 rfl rfl rfl h (fun h => ?_) fun h => ?_
 refine gR 11 rfl ?_
 subst h
 exact go_end ab (rs := [.tmp 4]) rfl rfl rfl
 refine gR 8 rfl <| qBeZ 14 15 rfl rfl rfl rfl h (fun h => ?_) fun h => ?_
 exact gR 3 rfl <| gJ (h K hK) [] [] rfl hK pq4 trivial rfl
 refine gR 7 rfl <| qBeZ 14 16 rfl rfl rfl rfl h (fun h => ?_) fun h => ?_
 exact gR 3 rfl <| gJ (h K hK) [] [] rfl hK pq4 trivial rfl
 refine gR 7 rfl <| qBeZ 14 17 rfl rfl rfl rfl h (fun h => ?_) fun h => ?_
 exact gR 3 rfl <| gJ (h K hK) [] [] rfl hK pq4 trivial rfl
 exact gR 6 rfl <| gJ (h K hK) [] [] rfl hK pq4 trivial rfl
theorem qo (m : Nat) (p0 : Int) (p1 : List UInt8) (a : Int) (b r0 : Bool) (h : ((b = true) → (a == 1) = r0) ∧ ((b = false) → ((p0 = 9) → ((a = 2) → true = r0) ∧ ((a ≠ 2) → (a == 4) = r0)) ∧ ((p0 ≠ 9) → ((p0 = 16) → ((a = 1) → true = r0) ∧ ((a ≠ 1) → (a == 3) = r0)) ∧ ((p0 ≠ 16) → ((p0 = 10) → (a == 5) = r0) ∧ ((p0 ≠ 10) → ((p0 = 11) → (a == 6) = r0) ∧ ((p0 ≠ 11) → ((p0 = 21) → ∃ c, jb p1 c ∧ c = r0) ∧ ((p0 ≠ 21) → (p1 == []) = r0))))))) : eU (m + 1) p0 p1 a b r0 := by
 intro K hK
 refine qBi 14 rfl rfl rfl h (fun h => ?_) fun h => ?_
 refine gR 11 rfl ?_
 subst h
 exact go_end ab (rs := [.tmp 4]) rfl rfl rfl
 refine gR 7 rfl <| qBeZ 21 22 rfl rfl rfl rfl h (fun h => ?_) fun h => ?_
 refine gR 6 rfl <| qBeZ 25 24 rfl rfl rfl rfl h (fun h => ?_) fun h => ?_
 refine gR 9 rfl ?_
 subst h
 exact go_end ab (rs := [.tmp 4]) rfl rfl rfl
 refine gR 9 rfl ?_
 subst h
 exact go_end ab (rs := [.tmp 4]) rfl rfl rfl
 refine gR 7 rfl <| qBeZ 29 30 rfl rfl rfl rfl h (fun h => ?_) fun h => ?_
 refine gR 6 rfl <| qBeZ 33 32 rfl rfl rfl rfl h (fun h => ?_) fun h => ?_
 refine gR 9 rfl ?_
 subst h
 exact go_end ab (rs := [.tmp 4]) rfl rfl rfl
 refine gR 9 rfl ?_
 subst h
 exact go_end ab (rs := [.tmp 4]) rfl rfl rfl
 refine gR 7 rfl <| qBeZ 37 38 rfl rfl rfl rfl h (fun h => ?_) fun h => ?_
 refine gR 11 rfl ?_
 subst h
 exact go_end ab (rs := [.tmp 4]) rfl rfl rfl
 refine gR 7 rfl <| qBeZ 41 42 rfl rfl rfl rfl h (fun h => ?_) fun h => ?_
 refine gR 11 rfl ?_
 subst h
 exact go_end ab (rs := [.tmp 4]) rfl rfl rfl
 refine gR 7 rfl <| qBeZ 45 46 rfl rfl rfl rfl h (fun h => ?_) fun h => ?_
 refine gR 4 rfl ?_
 obtain ⟨c, hs8, h⟩ := h
 refine gC0 hs8 (by kernel_rfl) rfl rfl .rfl rfl <| gR 6 rfl ?_
 subst h
 exact go_end ab (rs := [.tmp 4]) rfl rfl rfl
 refine gR 12 rfl ?_
 subst h
 exact go_end ab (rs := [.tmp 4]) rfl rfl rfl
def iq (m : Nat) (p0 : Tree) (p1 : Int) (a : Tree) (b r0 : Bool) : Prop := ∀ (K : Ctx), aI K [] → qLG K Tryz.f40 (fun u _ => u = .bool r0) (cB (xC (xG (ae Tryz.f40)))) [.blk 0, .seq (xH (ae Tryz.f40))] 67 (mkF 67 0 [(1, .int .i64 p1), (5, .int .i64 a.kind), (13, .int .i64 p0.kind), (43, .bool b)]) ⟨0, []⟩
theorem rA (m : Nat) (p0 : Tree) (p1 : Int) (r0 : Bool) (h : ∃ b, p1 = ((b : Nat) : Int) ∧ ∃ a, p0.kids[b]? = some a ∧ ((p0.kind = 1) → ((a.kind = 2) → true = r0) ∧ ((a.kind ≠ 2) → (a.kind == 3) = r0)) ∧ ((p0.kind ≠ 1) → ((p0.kind = 2) → ((p1 = ((p0.kids.length : Int) - 1)) → ∃ c, cS a.kind c ∧ c = r0) ∧ ((p1 ≠ ((p0.kids.length : Int) - 1)) → ((p1 = ((p0.kids.length : Int) - 2)) → ∃ d, il a.kind d ∧ d = r0) ∧ ((p1 ≠ ((p0.kids.length : Int) - 2)) → (a.kind == 4) = r0))) ∧ ((p0.kind ≠ 2) → ((p0.kind = 3) → iq m p0 p1 a true r0) ∧ ((p0.kind ≠ 3) → ((p0.kind = 4) → iq m p0 p1 a true r0) ∧ ((p0.kind ≠ 4) → iq m p0 p1 a (p0.kind == 8) r0))))) : ll p0 p1 r0 := by
 refine ⟨rfl, rfl, ?_⟩
 refine av 67 [] Tryz.func40 rfl rfl rfl (aY rfl) fun K hK => ?_
 refine gR 3 rfl <| gFP 0 rfl rfl rfl rfl <| gR 8 rfl ?_
 obtain ⟨b, e, h⟩ := h
 refine gV 8 (.int .i64 ((b : Nat) : Int)) rfl (lV e) rfl ?_
 obtain ⟨a, hxt0_2, h⟩ := h
 refine gY (bw (aJ hxt0_2) ab rfl rfl rfl rfl) rfl rfl <| gR 19 rfl <| gB 14 rfl rfl rfl ?_ ?_ <;> intro hd
 refine gT 15 rfl hd rfl ?_
 replace hd := (eq_of_beq hd)
 replace h := h.1 hd
 refine gR 6 rfl <| gB 18 rfl rfl rfl ?_ ?_ <;> intro hd
 refine gT 17 rfl hd rfl ?_
 replace hd := (eq_of_beq hd)
 replace h := h.1 hd
 refine gR 9 rfl ?_
 subst h
 exact go_end ab (rs := [.tmp 4]) rfl rfl rfl
 refine gF 17 rfl hd rfl ?_
 replace hd := (ne_of_beq_false hd)
 replace h := h.2 hd
 refine gR 9 rfl ?_
 subst h
 exact go_end ab (rs := [.tmp 4]) rfl rfl rfl
 refine gF 15 rfl hd rfl ?_
 replace hd := (ne_of_beq_false hd)
 replace h := h.2 hd
 refine gR 7 rfl <| gB 22 rfl rfl rfl ?_ ?_ <;> intro hd
 refine gT 23 rfl hd rfl ?_
 replace hd := (eq_of_beq hd)
 replace h := h.1 hd
 refine gR 13 rfl <| gV 28 (.int .i64 (p0.kids.length : Int)) rfl (bV (bq _)) rfl <| gLB 27 rfl (bq _) fun hl17 => gR 1 rfl <| gV 29 (.int .i64 ((p0.kids.length : Int) - 1)) rfl (aG (by have := hl17; omega) rfl) rfl <| gR 4 rfl <| gB 25 rfl rfl rfl ?_ ?_ <;> intro hd
 refine gT 30 rfl hd rfl ?_
 replace hd := (eq_of_beq hd)
 replace h := h.1 hd
 refine gR 4 rfl ?_
 obtain ⟨c, hs18, h⟩ := h
 refine gC0 hs18 (by kernel_rfl) rfl rfl .rfl rfl <| gR 8 rfl ?_
 subst h
 exact go_end ab (rs := [.tmp 4]) rfl rfl rfl
 refine gF 30 rfl hd rfl ?_
 replace hd := (ne_of_beq_false hd)
 replace h := h.2 hd
 refine gR 6 rfl <| gV 36 (.int .i64 (p0.kids.length : Int)) rfl (bV (bq _)) rfl <| gR 1 rfl <| gV 37 (.int .i64 ((p0.kids.length : Int) - 2)) rfl (aG (by have := hl17; omega) rfl) rfl <| gR 4 rfl <| gB 33 rfl rfl rfl ?_ ?_ <;> intro hd
 refine gT 38 rfl hd rfl ?_
 replace hd := (eq_of_beq hd)
 replace h := h.1 hd
 refine gR 4 rfl ?_
 obtain ⟨d, hs19, h⟩ := h
 refine gC0 hs19 (by kernel_rfl) rfl rfl .rfl rfl <| gR 8 rfl ?_
 subst h
 exact go_end ab (rs := [.tmp 4]) rfl rfl rfl
 refine gF 38 rfl hd rfl ?_
 replace hd := (ne_of_beq_false hd)
 replace h := h.2 hd
 refine gR 14 rfl ?_
 subst h
 exact go_end ab (rs := [.tmp 4]) rfl rfl rfl
 refine gF 23 rfl hd rfl ?_
 replace hd := (ne_of_beq_false hd)
 replace h := h.2 hd
 refine gR 8 rfl <| gB 43 rfl rfl rfl ?_ ?_ <;> intro hd
 refine gT 44 rfl hd rfl ?_
 replace hd := (eq_of_beq hd)
 replace h := h.1 hd
 exact gR 3 rfl <| gJ (h K hK) [] [] rfl hK pq4 trivial rfl
 refine gF 44 rfl hd rfl ?_
 replace hd := (ne_of_beq_false hd)
 replace h := h.2 hd
 refine gR 7 rfl <| gB 43 rfl rfl rfl ?_ ?_ <;> intro hd
 refine gT 45 rfl hd rfl ?_
 replace hd := (eq_of_beq hd)
 replace h := h.1 hd
 exact gR 3 rfl <| gJ (h K hK) [] [] rfl hK pq4 trivial rfl
 refine gF 45 rfl hd rfl ?_
 replace hd := (ne_of_beq_false hd)
 replace h := h.2 hd
 exact gR 6 rfl <| gJ (h K hK) [] [] rfl hK pq4 trivial rfl
theorem qQ (m : Nat) (p0 : Tree) (p1 : Int) (a : Tree) (c r0 : Bool) (h : ((c = true) → ∃ d, il a.kind d ∧ d = r0) ∧ ((c = false) → ((p0.kind = 16) → (a.kind == 17) = r0) ∧ ((p0.kind ≠ 16) → ((p0.kind = 21) → ∃ b, kB a.kind b ∧ ((b = true) → true = r0) ∧ ((b = false) → ((p1 = 0) → (a.kind == 21) = r0) ∧ ((p1 ≠ 0) → false = r0))) ∧ ((p0.kind ≠ 21) → ∃ e, cS a.kind e ∧ e = r0)))) : iq (m + 1) p0 p1 a c r0 := by
 intro K hK
 refine qBi 43 rfl rfl rfl h (fun h => ?_) fun h => ?_
 refine gR 4 rfl ?_
 obtain ⟨d, hs20, h⟩ := h
 refine gC0 hs20 (by kernel_rfl) rfl rfl .rfl rfl <| gR 6 rfl ?_
 subst h
 exact go_end ab (rs := [.tmp 4]) rfl rfl rfl
 refine gR 7 rfl <| qBeZ 49 50 rfl rfl rfl rfl h (fun h => ?_) fun h => ?_
 refine gR 11 rfl ?_
 subst h
 exact go_end ab (rs := [.tmp 4]) rfl rfl rfl
 refine gR 7 rfl <| qBeZ 53 54 rfl rfl rfl rfl h (fun h => ?_) fun h => ?_
 refine gR 4 rfl ?_
 obtain ⟨b, hs21, h⟩ := h
 refine gC0 hs21 (by kernel_rfl) rfl rfl .rfl rfl <| gR 1 rfl <| qBiZ 57 56 rfl rfl rfl rfl h (fun h => ?_) fun h => ?_
 refine gR 13 rfl ?_
 subst h
 exact go_end ab (rs := [.tmp 4]) rfl rfl rfl
 refine gR 3 rfl <| qBeZ 60 59 rfl rfl rfl rfl h (fun h => ?_) fun h => ?_
 refine gR 10 rfl ?_
 subst h
 exact go_end ab (rs := [.tmp 4]) rfl rfl rfl
 refine gR 10 rfl ?_
 subst h
 exact go_end ab (rs := [.tmp 4]) rfl rfl rfl
 refine gR 7 rfl ?_
 obtain ⟨e, hs22, h⟩ := h
 refine gC0 hs22 (by kernel_rfl) rfl rfl .rfl rfl <| gR 4 rfl ?_
 subst h
 exact go_end ab (rs := [.tmp 4]) rfl rfl rfl
def gG (m : Nat) (p0 : Tree) (a : Nat) (r0 : Bool) : Prop := ∀ (K : Ctx) (j1 : Nat), aI K [] → m ≤ j1 → qLG K Tryz.f19 (fun u _ => u = .bool r0) (xI (ae Tryz.f19)) [.loop (xI (ae Tryz.f19)) j1, .blk 0, .seq (xH (ae Tryz.f19))] 38 (mkF 38 0 [(1, .box (ak p0) 0), (21, .row 4 (kidsV p0.kids)), (22, .int .i64 (p0.kids.length : Int)), (23, .int .i64 (a : Int))]) ⟨0, []⟩
theorem rf (m : Nat) (p0 : Tree) (r0 : Bool) (h : ∃ a, eM p0.kind (p0.kids.length : Int) a ∧ ((a < 0) → false = r0) ∧ ((¬ a < 0) → ∃ b, jX p0.kind p0.text b ∧ ((b = false) → false = r0) ∧ ((b = true) → gG m p0 0 r0))) : ik p0 r0 := by
 refine ⟨rfl, rfl, ?_⟩
 refine av 38 [] Tryz.func19 rfl rfl rfl (aY rfl) fun K hK => ?_
 refine gR 3 rfl <| gFP 0 rfl rfl rfl rfl <| gR 11 rfl <| gV 9 (.int .i64 (p0.kids.length : Int)) rfl (bV (bq _)) rfl <| gLB 8 rfl (bq _) fun hl11 => ?_
 obtain ⟨a, hs12, h⟩ := h
 refine gC0 hs12 (by kernel_rfl) rfl rfl .rfl rfl <| gR 2 rfl <| gB 12 rfl rfl rfl ?_ ?_ <;> intro hd
 refine gT 11 rfl hd rfl ?_
 replace hd := (of_decide_eq_true hd)
 replace h := h.1 hd
 refine gR 17 rfl ?_
 subst h
 exact go_end ab (rs := [.tmp 2]) rfl rfl rfl
 refine gF 11 rfl hd rfl ?_
 replace hd := (of_decide_eq_false hd)
 replace h := h.2 hd
 refine gR 4 rfl ?_
 obtain ⟨b, hs13, h⟩ := h
 refine gC0 hs13 (by kernel_rfl) rfl rfl .rfl rfl <| gR 4 rfl <| gB 19 rfl rfl rfl ?_ ?_ <;> intro hd
 replace hd := (eE hd)
 replace h := h.1 hd
 refine gR 8 rfl ?_
 subst h
 exact go_end ab (rs := [.tmp 2]) rfl rfl rfl
 replace hd := (eC hd)
 replace h := h.2 hd
 exact gR 9 rfl <| gV 22 (.int .i64 (p0.kids.length : Int)) rfl (bV (bq _)) rfl <| gR 4 rfl <| go_loop m <| gJ (h K _ hK (by omega)) [] [] rfl hK pq4 trivial rfl
theorem lO (m : Nat) (p0 : Tree) (a : Nat) (r0 : Bool) (h : ((a < p0.kids.length) → ∃ d, p0.kids[a]? = some d ∧ ∃ b, ll p0 (a : Int) b ∧ ((b = false) → false = r0) ∧ ((b = true) → ∃ c, ik d c ∧ ((c = false) → false = r0) ∧ ((c = true) → a + 1 ≤ 9223372036854775807 ∧ gG m p0 (a + 1) r0))) ∧ ((¬ a < p0.kids.length) → true = r0)) : gG (m + 1) p0 a r0 := by
 intro K j1 hK hj1
 obtain ⟨j1, rfl⟩ : ∃ j, j1 = j + 1 := ⟨j1 - 1, by omega⟩
 refine gR 6 rfl <| gB 24 rfl rfl rfl ?_ ?_ <;> intro hd
 replace hd := (ia hd)
 replace h := h.1 hd
 refine gR 8 rfl ?_
 obtain ⟨d, hxt1_1, h⟩ := h
 refine gY (bw (aJ hxt1_1) ab rfl rfl rfl rfl) rfl rfl <| gR 10 rfl ?_
 obtain ⟨b, hs14, h⟩ := h
 refine gC0 hs14 (by kernel_rfl) rfl rfl .rfl rfl <| gR 2 rfl <| gB 32 rfl rfl rfl ?_ ?_ <;> intro hd
 refine gT 31 rfl hd rfl ?_
 replace hd := (eE hd)
 replace h := h.1 hd
 refine gR 15 rfl <| go_xloopR <| gR 2 rfl ?_
 subst h
 exact go_end ab (rs := [.tmp 2]) rfl rfl rfl
 refine gF 31 rfl hd rfl ?_
 replace hd := (eC hd)
 replace h := h.2 hd
 refine gR 1 rfl ?_
 obtain ⟨c, hs15, h⟩ := h
 refine gC0 hs15 (by kernel_rfl) rfl rfl .rfl rfl <| gR 4 rfl <| gB 36 rfl rfl rfl ?_ ?_ <;> intro hd
 replace hd := (eE hd)
 replace h := h.1 hd
 refine gR 9 rfl <| go_xloopR <| gR 2 rfl ?_
 subst h
 exact go_end ab (rs := [.tmp 2]) rfl rfl rfl
 replace hd := (eC hd)
 replace h := h.2 hd
 refine gR 5 rfl ?_
 obtain ⟨hb, h⟩ := h
 exact gR 1 rfl <| gV 37 (.int .i64 ((a + 1 : Nat) : Int)) rfl (aG (by omega) (by omega)) rfl <| gR 2 rfl <| go_xloop <| gJ (h K _ hK (by omega)) [] [] rfl hK pq4 trivial rfl
 replace hd := (ib hd)
 replace h := h.2 hd
 refine gR 3 rfl <| go_xloopE <| gR 8 rfl ?_
 subst h
 exact go_end ab (rs := [.tmp 2]) rfl rfl rfl
def eJ (m : Nat) (p0 p1 : Int) (a : Bool) (r0 : Int) : Prop := ∀ (K : Ctx), aI K [] → qLG K Tryz.f77 (fun u _ => u = .int .i64 r0) (cB (xC (xA (xF (cB (ae Tryz.f77)))))) [.blk 0, .seq (xB (ae Tryz.f77))] 71 (mkF 71 0 [(1, .int .i64 p1), (5, .int .i64 p0), (22, .bool a)]) ⟨0, []⟩
def bb (m : Nat) (p0 p1 : Int) (a : Bool) (r0 : Int) : Prop := ∀ (K : Ctx), aI K [] → qLG K Tryz.f77 (fun u _ => u = .int .i64 r0) (cB (xD (xF (cB (ae Tryz.f77))))) [.blk 0, .seq (xB (ae Tryz.f77))] 71 (mkF 71 0 [(1, .int .i64 p1), (5, .int .i64 p0), (28, .bool a)]) ⟨0, []⟩
theorem oh (m : Nat) (p0 p1 r0 : Int) (h : ((p0 = 1) → ((0 ≤ p1) → 3 = r0) ∧ ((¬ 0 ≤ p1) → (-1) = r0)) ∧ ((p0 ≠ 1) → ((p0 = 2) → ((2 ≤ p1) → InI (p1 - 3) ∧ InI (6 + (max 0 (p1 - 3))) ∧ (6 + (max 0 (p1 - 3))) = r0) ∧ ((¬ 2 ≤ p1) → (-1) = r0)) ∧ ((p0 ≠ 2) → ((p0 = 3) → ∃ a, bM p1 1 3 a ∧ a = r0) ∧ ((p0 ≠ 3) → ((p0 = 4) → eJ m p0 p1 true r0) ∧ ((p0 ≠ 4) → ((p0 = 8) → eJ m p0 p1 true r0) ∧ ((p0 ≠ 8) → eJ m p0 p1 (p0 == 22) r0)))))) : dy p0 p1 r0 := by
 refine ⟨rfl, rfl, ?_⟩
 refine av 71 [] Tryz.func77 rfl rfl rfl (aY rfl) fun K hK => ?_
 refine gR 18 rfl <| qBeZ 6 7 rfl rfl rfl rfl h (fun h => ?_) fun h => ?_
 refine gR 7 rfl <| qBd 9 rfl rfl rfl h (fun h => ?_) fun h => ?_
 refine gR 9 rfl ?_
 subst h
 exact go_end ab (rs := [.tmp 4]) rfl rfl rfl
 refine gR 10 rfl ?_
 subst h
 exact go_end ab (rs := [.tmp 4]) rfl rfl rfl
 refine gR 7 rfl <| qBeZ 10 11 rfl rfl rfl rfl h (fun h => ?_) fun h => ?_
 refine gR 7 rfl <| qBd 13 rfl rfl rfl h (fun h => ?_) fun h => ?_
 refine gR 4 rfl ?_
 obtain ⟨hb, h⟩ := h
 refine gR 1 rfl <| gV 15 (.int .i64 (p1 - 3)) rfl (aG hb rfl) rfl <| gR 1 rfl ?_
 obtain ⟨hb, h⟩ := h
 refine gR 1 rfl <| gV 17 (.int .i64 (6 + (max 0 (p1 - 3)))) rfl (aG hb rfl) rfl <| gR 6 rfl ?_
 subst h
 exact go_end ab (rs := [.tmp 4]) rfl rfl rfl
 refine gR 10 rfl ?_
 subst h
 exact go_end ab (rs := [.tmp 4]) rfl rfl rfl
 refine gR 7 rfl <| qBeZ 18 19 rfl rfl rfl rfl h (fun h => ?_) fun h => ?_
 refine gR 4 rfl ?_
 obtain ⟨a, hs20, h⟩ := h
 refine gC0 hs20 (by kernel_rfl) rfl rfl .rfl rfl <| gR 6 rfl ?_
 subst h
 exact go_end ab (rs := [.tmp 4]) rfl rfl rfl
 refine gR 8 rfl <| qBeZ 22 23 rfl rfl rfl rfl h (fun h => ?_) fun h => ?_
 exact gR 3 rfl <| gJ (h K hK) [] [] rfl hK pq3 trivial rfl
 refine gR 7 rfl <| qBeZ 22 24 rfl rfl rfl rfl h (fun h => ?_) fun h => ?_
 exact gR 3 rfl <| gJ (h K hK) [] [] rfl hK pq3 trivial rfl
 exact gR 6 rfl <| gJ (h K hK) [] [] rfl hK pq3 trivial rfl
theorem nP (m : Nat) (p0 p1 : Int) (a : Bool) (r0 : Int) (h : ((a = true) → ∃ b, bM p1 1 2 b ∧ b = r0) ∧ ((a = false) → ((p0 = 5) → bb m p0 p1 true r0) ∧ ((p0 ≠ 5) → ((p0 = 6) → bb m p0 p1 true r0) ∧ ((p0 ≠ 6) → ((p0 = 7) → bb m p0 p1 true r0) ∧ ((p0 ≠ 7) → ((p0 = 9) → bb m p0 p1 true r0) ∧ ((p0 ≠ 9) → ((p0 = 10) → bb m p0 p1 true r0) ∧ ((p0 ≠ 10) → ((p0 = 11) → bb m p0 p1 true r0) ∧ ((p0 ≠ 11) → ((p0 = 12) → bb m p0 p1 true r0) ∧ ((p0 ≠ 12) → ((p0 = 13) → bb m p0 p1 true r0) ∧ ((p0 ≠ 13) → ((p0 = 14) → bb m p0 p1 true r0) ∧ ((p0 ≠ 14) → bb m p0 p1 (p0 == 15) r0))))))))))) : eJ (m + 1) p0 p1 a r0 := by
 intro K hK
 refine qBi 22 rfl rfl rfl h (fun h => ?_) fun h => ?_
 refine gR 4 rfl ?_
 obtain ⟨b, hs21, h⟩ := h
 refine gC0 hs21 (by kernel_rfl) rfl rfl .rfl rfl <| gR 6 rfl ?_
 subst h
 exact go_end ab (rs := [.tmp 4]) rfl rfl rfl
 refine gR 8 rfl <| qBeZ 28 29 rfl rfl rfl rfl h (fun h => ?_) fun h => ?_
 exact gR 3 rfl <| gJ (h K hK) [] [] rfl hK pq3 trivial rfl
 refine gR 7 rfl <| qBeZ 28 30 rfl rfl rfl rfl h (fun h => ?_) fun h => ?_
 exact gR 3 rfl <| gJ (h K hK) [] [] rfl hK pq3 trivial rfl
 refine gR 7 rfl <| qBeZ 28 31 rfl rfl rfl rfl h (fun h => ?_) fun h => ?_
 exact gR 3 rfl <| gJ (h K hK) [] [] rfl hK pq3 trivial rfl
 refine gR 7 rfl <| qBeZ 28 32 rfl rfl rfl rfl h (fun h => ?_) fun h => ?_
 exact gR 3 rfl <| gJ (h K hK) [] [] rfl hK pq3 trivial rfl
 refine gR 7 rfl <| qBeZ 28 33 rfl rfl rfl rfl h (fun h => ?_) fun h => ?_
 exact gR 3 rfl <| gJ (h K hK) [] [] rfl hK pq3 trivial rfl
 refine gR 7 rfl <| qBeZ 28 34 rfl rfl rfl rfl h (fun h => ?_) fun h => ?_
 exact gR 3 rfl <| gJ (h K hK) [] [] rfl hK pq3 trivial rfl
 refine gR 7 rfl <| qBeZ 28 35 rfl rfl rfl rfl h (fun h => ?_) fun h => ?_
 exact gR 3 rfl <| gJ (h K hK) [] [] rfl hK pq3 trivial rfl
 refine gR 7 rfl <| qBeZ 28 36 rfl rfl rfl rfl h (fun h => ?_) fun h => ?_
 exact gR 3 rfl <| gJ (h K hK) [] [] rfl hK pq3 trivial rfl
 refine gR 7 rfl <| qBeZ 28 37 rfl rfl rfl rfl h (fun h => ?_) fun h => ?_
 exact gR 3 rfl <| gJ (h K hK) [] [] rfl hK pq3 trivial rfl
 exact gR 6 rfl <| gJ (h K hK) [] [] rfl hK pq3 trivial rfl
theorem nL (m : Nat) (p0 p1 : Int) (a : Bool) (r0 : Int) (h : ((a = true) → ∃ b, bM p1 0 1 b ∧ b = r0) ∧ ((a = false) → ((p0 = 16) → ((0 ≤ p1) → InI (p1 - 1) ∧ InI (3 + (max 0 (p1 - 1))) ∧ (3 + (max 0 (p1 - 1))) = r0) ∧ ((¬ 0 ≤ p1) → (-1) = r0)) ∧ ((p0 ≠ 16) → ((p0 = 17) → ∃ c, bM p1 1 0 c ∧ c = r0) ∧ ((p0 ≠ 17) → ((p0 = 18) → ((1 ≤ p1) → InI (1 + p1) ∧ (1 + p1) = r0) ∧ ((¬ 1 ≤ p1) → (-1) = r0)) ∧ ((p0 ≠ 18) → ((p0 = 19) → ∃ d, bM p1 3 3 d ∧ d = r0) ∧ ((p0 ≠ 19) → ((p0 = 20) → ∃ e, bM p1 2 4 e ∧ e = r0) ∧ ((p0 ≠ 20) → ((p0 = 21) → ∃ f, bM p1 2 1 f ∧ f = r0) ∧ ((p0 ≠ 21) → (-1) = r0)))))))) : bb (m + 1) p0 p1 a r0 := by
 intro K hK
 refine qBi 28 rfl rfl rfl h (fun h => ?_) fun h => ?_
 refine gR 4 rfl ?_
 obtain ⟨b, hs22, h⟩ := h
 refine gC0 hs22 (by kernel_rfl) rfl rfl .rfl rfl <| gR 6 rfl ?_
 subst h
 exact go_end ab (rs := [.tmp 4]) rfl rfl rfl
 refine gR 7 rfl <| qBeZ 41 42 rfl rfl rfl rfl h (fun h => ?_) fun h => ?_
 refine gR 7 rfl <| qBd 44 rfl rfl rfl h (fun h => ?_) fun h => ?_
 refine gR 4 rfl ?_
 obtain ⟨hb, h⟩ := h
 refine gR 1 rfl <| gV 46 (.int .i64 (p1 - 1)) rfl (aG hb rfl) rfl <| gR 1 rfl ?_
 obtain ⟨hb, h⟩ := h
 refine gR 1 rfl <| gV 48 (.int .i64 (3 + (max 0 (p1 - 1)))) rfl (aG hb rfl) rfl <| gR 6 rfl ?_
 subst h
 exact go_end ab (rs := [.tmp 4]) rfl rfl rfl
 refine gR 10 rfl ?_
 subst h
 exact go_end ab (rs := [.tmp 4]) rfl rfl rfl
 refine gR 7 rfl <| qBeZ 49 50 rfl rfl rfl rfl h (fun h => ?_) fun h => ?_
 refine gR 4 rfl ?_
 obtain ⟨c, hs23, h⟩ := h
 refine gC0 hs23 (by kernel_rfl) rfl rfl .rfl rfl <| gR 6 rfl ?_
 subst h
 exact go_end ab (rs := [.tmp 4]) rfl rfl rfl
 refine gR 7 rfl <| qBeZ 53 54 rfl rfl rfl rfl h (fun h => ?_) fun h => ?_
 refine gR 7 rfl <| qBd 56 rfl rfl rfl h (fun h => ?_) fun h => ?_
 refine gR 4 rfl ?_
 obtain ⟨hb, h⟩ := h
 refine gR 1 rfl <| gV 58 (.int .i64 (1 + p1)) rfl (aG hb rfl) rfl <| gR 6 rfl ?_
 subst h
 exact go_end ab (rs := [.tmp 4]) rfl rfl rfl
 refine gR 10 rfl ?_
 subst h
 exact go_end ab (rs := [.tmp 4]) rfl rfl rfl
 refine gR 7 rfl <| qBeZ 59 60 rfl rfl rfl rfl h (fun h => ?_) fun h => ?_
 refine gR 4 rfl ?_
 obtain ⟨d, hs24, h⟩ := h
 refine gC0 hs24 (by kernel_rfl) rfl rfl .rfl rfl <| gR 6 rfl ?_
 subst h
 exact go_end ab (rs := [.tmp 4]) rfl rfl rfl
 refine gR 7 rfl <| qBeZ 63 64 rfl rfl rfl rfl h (fun h => ?_) fun h => ?_
 refine gR 4 rfl ?_
 obtain ⟨e, hs25, h⟩ := h
 refine gC0 hs25 (by kernel_rfl) rfl rfl .rfl rfl <| gR 6 rfl ?_
 subst h
 exact go_end ab (rs := [.tmp 4]) rfl rfl rfl
 refine gR 7 rfl <| qBeZ 67 68 rfl rfl rfl rfl h (fun h => ?_) fun h => ?_
 refine gR 4 rfl ?_
 obtain ⟨f, hs26, h⟩ := h
 refine gC0 hs26 (by kernel_rfl) rfl rfl .rfl rfl <| gR 6 rfl ?_
 subst h
 exact go_end ab (rs := [.tmp 4]) rfl rfl rfl
 refine gR 10 rfl ?_
 subst h
 exact go_end ab (rs := [.tmp 4]) rfl rfl rfl
theorem pf (m : Nat) (p0 p1 p2 r0 : Int) (h : ((p0 = p1) → p2 = r0) ∧ ((p0 ≠ p1) → (-1) = r0)) : bM p0 p1 p2 r0 := by
 refine ⟨rfl, rfl, ?_⟩
 refine av 11 [] Tryz.func91 rfl rfl rfl (aY rfl) fun K hK => ?_
 refine gR 13 rfl <| qBe 9 rfl rfl rfl h (fun h => ?_) fun h => ?_
 refine gR 9 rfl ?_
 subst h
 exact go_end ab (rs := [.tmp 6]) rfl rfl rfl
 refine gR 9 rfl ?_
 subst h
 exact go_end ab (rs := [.tmp 6]) rfl rfl rfl
theorem nG (m : Nat) (p0 : Int) (r0 : Bool) (h : ((5 ≤ p0) → decide (p0 ≤ 9) = r0) ∧ ((¬ 5 ≤ p0) → false = r0)) : ep p0 r0 := by
 refine ⟨rfl, rfl, ?_⟩
 refine av 9 [] Tryz.func94 rfl rfl rfl (aY rfl) fun K hK => ?_
 refine gR 10 rfl <| qBdZ 5 4 rfl rfl rfl rfl h (fun h => ?_) fun h => ?_
 refine gR 7 rfl ?_
 subst h
 exact go_end ab (rs := [.tmp 2]) rfl rfl rfl
 refine gR 7 rfl ?_
 subst h
 exact go_end ab (rs := [.tmp 2]) rfl rfl rfl
theorem nK (m : Nat) (p0 : Int) (r0 : Bool) (h : ((10 ≤ p0) → ((p0 ≤ 22) → (p0 != 17) = r0) ∧ ((¬ p0 ≤ 22) → false = r0)) ∧ ((¬ 10 ≤ p0) → false = r0)) : di p0 r0 := by
 refine ⟨rfl, rfl, ?_⟩
 refine av 13 [] Tryz.func93 rfl rfl rfl (aY rfl) fun K hK => ?_
 refine gR 10 rfl <| qBdZ 5 4 rfl rfl rfl rfl h (fun h => ?_) fun h => ?_
 refine gR 4 rfl <| qBdZ 9 8 rfl rfl rfl rfl h (fun h => ?_) fun h => ?_
 refine gR 7 rfl ?_
 subst h
 exact go_end ab (rs := [.tmp 2]) rfl rfl rfl
 refine gR 7 rfl ?_
 subst h
 exact go_end ab (rs := [.tmp 2]) rfl rfl rfl
 refine gR 11 rfl ?_
 subst h
 exact go_end ab (rs := [.tmp 2]) rfl rfl rfl
theorem nN (m : Nat) (p0 : Int) (r0 : Bool) (h : ∃ a, di p0 a ∧ ((a = true) → ((p0 ≠ 19) → ((p0 ≠ 20) → (p0 != 21) = r0) ∧ ((p0 = 20) → false = r0)) ∧ ((p0 = 19) → false = r0)) ∧ ((a = false) → false = r0)) : ew p0 r0 := by
 refine ⟨rfl, rfl, ?_⟩
 refine av 17 [] Tryz.func90 rfl rfl rfl (aY rfl) fun K hK => ?_
 refine gR 8 rfl ?_
 obtain ⟨a, hs2, h⟩ := h
 refine gC0 hs2 (by kernel_rfl) rfl rfl .rfl rfl <| gR 1 rfl <| qBiZ 5 4 rfl rfl rfl rfl h (fun h => ?_) fun h => ?_
 refine gR 4 rfl <| qBhZ 9 8 rfl rfl rfl rfl h lf iK (fun h => ?_) fun h => ?_
 refine gR 4 rfl <| qBhZ 13 12 rfl rfl rfl rfl h lf iK (fun h => ?_) fun h => ?_
 refine gR 7 rfl ?_
 subst h
 exact go_end ab (rs := [.tmp 2]) rfl rfl rfl
 refine gR 7 rfl ?_
 subst h
 exact go_end ab (rs := [.tmp 2]) rfl rfl rfl
 refine gR 11 rfl ?_
 subst h
 exact go_end ab (rs := [.tmp 2]) rfl rfl rfl
 refine gR 15 rfl ?_
 subst h
 exact go_end ab (rs := [.tmp 2]) rfl rfl rfl
theorem lW (m : Nat) (p0 : List UInt8) (r0 : Bool) (h : ((p0 = [43]) → true = r0) ∧ ((p0 ≠ [43]) → ((p0 = [45]) → true = r0) ∧ ((p0 ≠ [45]) → ((p0 = [42]) → true = r0) ∧ ((p0 ≠ [42]) → ((p0 = [60]) → true = r0) ∧ ((p0 ≠ [60]) → ((p0 = [61, 61]) → true = r0) ∧ ((p0 ≠ [61, 61]) → false = r0)))))) : eW p0 r0 := by
 refine ⟨rfl, rfl, ?_⟩
 refine av 10 [] Tryz.func92 rfl rfl rfl (aY rfl) fun K hK => ?_
 refine gR 19 rfl <| qBeZ 4 5 rfl rfl rfl rfl h (fun h => ?_) fun h => ?_
 refine gR 12 rfl ?_
 subst h
 exact go_end ab (rs := [.tmp 2]) rfl rfl rfl
 refine gR 7 rfl <| qBeZ 4 6 rfl rfl rfl rfl h (fun h => ?_) fun h => ?_
 refine gR 12 rfl ?_
 subst h
 exact go_end ab (rs := [.tmp 2]) rfl rfl rfl
 refine gR 7 rfl <| qBeZ 4 7 rfl rfl rfl rfl h (fun h => ?_) fun h => ?_
 refine gR 12 rfl ?_
 subst h
 exact go_end ab (rs := [.tmp 2]) rfl rfl rfl
 refine gR 7 rfl <| qBeZ 4 8 rfl rfl rfl rfl h (fun h => ?_) fun h => ?_
 refine gR 12 rfl ?_
 subst h
 exact go_end ab (rs := [.tmp 2]) rfl rfl rfl
 refine gR 6 rfl <| qBeZ 4 9 rfl rfl rfl rfl h (fun h => ?_) fun h => ?_
 refine gR 9 rfl ?_
 subst h
 exact go_end ab (rs := [.tmp 2]) rfl rfl rfl
 refine gR 10 rfl ?_
 subst h
 exact go_end ab (rs := [.tmp 2]) rfl rfl rfl
def fj (m : Nat) (p0 : Int) (p1 : List UInt8) (a : Int) (b r0 : Bool) : Prop := ∀ (K : Ctx), aI K [] → qLG K Tryz.f78 (fun u _ => u = .bool r0) (cB (xG (ae Tryz.f78))) [.blk 0, .seq (xH (ae Tryz.f78))] 51 (mkF 51 0 [(1, .str p1), (5, .int .i64 a), (8, .int .i64 p0), (9, .bool b)]) ⟨0, []⟩
def ct (m : Nat) (p0 : Int) (p1 : List UInt8) (a : Int) (b r0 : Bool) : Prop := ∀ (K : Ctx), aI K [] → qLG K Tryz.f78 (fun u _ => u = .bool r0) (cB (xL (ae Tryz.f78))) [.blk 0, .seq (xH (ae Tryz.f78))] 51 (mkF 51 0 [(1, .str p1), (5, .int .i64 a), (8, .int .i64 p0), (14, .bool b)]) ⟨0, []⟩
theorem mG (m : Nat) (p0 : Int) (p1 : List UInt8) (r0 : Bool) (h : ∃ a, pk p1 a ∧ ((p0 = 1) → fj m p0 p1 a true r0) ∧ ((p0 ≠ 1) → fj m p0 p1 a (p0 == 3) r0)) : fI p0 p1 r0 := by
 refine ⟨rfl, rfl, ?_⟩
 refine av 51 [] Tryz.func78 rfl rfl rfl (aY rfl) fun K hK => ?_
 refine gR 8 rfl ?_
 obtain ⟨a, hs7, h⟩ := h
 refine gC0 hs7 (by kernel_rfl) rfl rfl .rfl rfl <| gR 17 rfl <| qBeZ 9 10 rfl rfl rfl rfl h (fun h => ?_) fun h => ?_
 exact gR 3 rfl <| gJ (h K hK) [] [] rfl hK pq4 trivial rfl
 exact gR 6 rfl <| gJ (h K hK) [] [] rfl hK pq4 trivial rfl
theorem mu (m : Nat) (p0 : Int) (p1 : List UInt8) (a : Int) (b r0 : Bool) (h : ((b = true) → (a == 2) = r0) ∧ ((b = false) → ((p0 = 2) → ct m p0 p1 a true r0) ∧ ((p0 ≠ 2) → ((p0 = 4) → ct m p0 p1 a true r0) ∧ ((p0 ≠ 4) → ((p0 = 12) → ct m p0 p1 a true r0) ∧ ((p0 ≠ 12) → ct m p0 p1 a (p0 == 20) r0))))) : fj (m + 1) p0 p1 a b r0 := by
 intro K hK
 refine qBi 9 rfl rfl rfl h (fun h => ?_) fun h => ?_
 refine gR 11 rfl ?_
 subst h
 exact go_end ab (rs := [.tmp 4]) rfl rfl rfl
 refine gR 8 rfl <| qBeZ 14 15 rfl rfl rfl rfl h (fun h => ?_) fun h => ?_
 exact gR 3 rfl <| gJ (h K hK) [] [] rfl hK pq4 trivial rfl
 refine gR 7 rfl <| qBeZ 14 16 rfl rfl rfl rfl h (fun h => ?_) fun h => ?_
 exact gR 3 rfl <| gJ (h K hK) [] [] rfl hK pq4 trivial rfl
 refine gR 7 rfl <| qBeZ 14 17 rfl rfl rfl rfl h (fun h => ?_) fun h => ?_
 exact gR 3 rfl <| gJ (h K hK) [] [] rfl hK pq4 trivial rfl
 exact gR 6 rfl <| gJ (h K hK) [] [] rfl hK pq4 trivial rfl
theorem ml (m : Nat) (p0 : Int) (p1 : List UInt8) (a : Int) (b r0 : Bool) (h : ((b = true) → (a == 1) = r0) ∧ ((b = false) → ((p0 = 9) → ((a = 2) → true = r0) ∧ ((a ≠ 2) → (a == 4) = r0)) ∧ ((p0 ≠ 9) → ((p0 = 16) → ((a = 1) → true = r0) ∧ ((a ≠ 1) → (a == 3) = r0)) ∧ ((p0 ≠ 16) → ((p0 = 10) → (a == 5) = r0) ∧ ((p0 ≠ 10) → ((p0 = 11) → (a == 6) = r0) ∧ ((p0 ≠ 11) → ((p0 = 21) → ∃ c, eW p1 c ∧ c = r0) ∧ ((p0 ≠ 21) → (p1 == []) = r0))))))) : ct (m + 1) p0 p1 a b r0 := by
 intro K hK
 refine qBi 14 rfl rfl rfl h (fun h => ?_) fun h => ?_
 refine gR 11 rfl ?_
 subst h
 exact go_end ab (rs := [.tmp 4]) rfl rfl rfl
 refine gR 7 rfl <| qBeZ 21 22 rfl rfl rfl rfl h (fun h => ?_) fun h => ?_
 refine gR 6 rfl <| qBeZ 25 24 rfl rfl rfl rfl h (fun h => ?_) fun h => ?_
 refine gR 9 rfl ?_
 subst h
 exact go_end ab (rs := [.tmp 4]) rfl rfl rfl
 refine gR 9 rfl ?_
 subst h
 exact go_end ab (rs := [.tmp 4]) rfl rfl rfl
 refine gR 7 rfl <| qBeZ 29 30 rfl rfl rfl rfl h (fun h => ?_) fun h => ?_
 refine gR 6 rfl <| qBeZ 33 32 rfl rfl rfl rfl h (fun h => ?_) fun h => ?_
 refine gR 9 rfl ?_
 subst h
 exact go_end ab (rs := [.tmp 4]) rfl rfl rfl
 refine gR 9 rfl ?_
 subst h
 exact go_end ab (rs := [.tmp 4]) rfl rfl rfl
 refine gR 7 rfl <| qBeZ 37 38 rfl rfl rfl rfl h (fun h => ?_) fun h => ?_
 refine gR 11 rfl ?_
 subst h
 exact go_end ab (rs := [.tmp 4]) rfl rfl rfl
 refine gR 7 rfl <| qBeZ 41 42 rfl rfl rfl rfl h (fun h => ?_) fun h => ?_
 refine gR 11 rfl ?_
 subst h
 exact go_end ab (rs := [.tmp 4]) rfl rfl rfl
 refine gR 7 rfl <| qBeZ 45 46 rfl rfl rfl rfl h (fun h => ?_) fun h => ?_
 refine gR 4 rfl ?_
 obtain ⟨c, hs8, h⟩ := h
 refine gC0 hs8 (by kernel_rfl) rfl rfl .rfl rfl <| gR 6 rfl ?_
 subst h
 exact go_end ab (rs := [.tmp 4]) rfl rfl rfl
 refine gR 12 rfl ?_
 subst h
 exact go_end ab (rs := [.tmp 4]) rfl rfl rfl
def fx (m : Nat) (p0 : Tree) (p1 p2 : Int) (a r0 : Bool) : Prop := ∀ (K : Ctx), aI K [] → qLG K Tryz.f79 (fun u _ => u = .bool r0) (cB (xC (xG (ae Tryz.f79)))) [.blk 0, .seq (xH (ae Tryz.f79))] 62 (mkF 62 0 [(1, .int .i64 p1), (2, .int .i64 p2), (12, .int .i64 p0.kind), (38, .bool a)]) ⟨0, []⟩
theorem pu (m : Nat) (p0 : Tree) (p1 p2 : Int) (r0 : Bool) (h : ((p0.kind = 1) → ((p2 = 2) → true = r0) ∧ ((p2 ≠ 2) → (p2 == 3) = r0)) ∧ ((p0.kind ≠ 1) → ((p0.kind = 2) → ((p1 = ((p0.kids.length : Int) - 1)) → ∃ a, di p2 a ∧ a = r0) ∧ ((p1 ≠ ((p0.kids.length : Int) - 1)) → ((p1 = ((p0.kids.length : Int) - 2)) → ∃ b, ep p2 b ∧ b = r0) ∧ ((p1 ≠ ((p0.kids.length : Int) - 2)) → (p2 == 4) = r0))) ∧ ((p0.kind ≠ 2) → ((p0.kind = 3) → fx m p0 p1 p2 true r0) ∧ ((p0.kind ≠ 3) → ((p0.kind = 4) → fx m p0 p1 p2 true r0) ∧ ((p0.kind ≠ 4) → fx m p0 p1 p2 (p0.kind == 8) r0))))) : jd p0 p1 p2 r0 := by
 refine ⟨rfl, rfl, ?_⟩
 refine av 62 [] Tryz.func79 rfl rfl rfl (aY rfl) fun K hK => ?_
 refine gR 3 rfl <| gFP 0 rfl rfl rfl rfl <| gR 8 rfl <| gV 10 (.int .i64 (p0.kids.length : Int)) rfl (bV (bq _)) rfl <| gLB 9 rfl (bq _) fun hl17 => gR 17 rfl <| gB 13 rfl rfl rfl ?_ ?_ <;> intro hd
 refine gT 14 rfl hd rfl ?_
 replace hd := (eq_of_beq hd)
 replace h := h.1 hd
 refine gR 6 rfl <| gB 17 rfl rfl rfl ?_ ?_ <;> intro hd
 refine gT 16 rfl hd rfl ?_
 replace hd := (eq_of_beq hd)
 replace h := h.1 hd
 refine gR 9 rfl ?_
 subst h
 exact go_end ab (rs := [.tmp 6]) rfl rfl rfl
 refine gF 16 rfl hd rfl ?_
 replace hd := (ne_of_beq_false hd)
 replace h := h.2 hd
 refine gR 9 rfl ?_
 subst h
 exact go_end ab (rs := [.tmp 6]) rfl rfl rfl
 refine gF 14 rfl hd rfl ?_
 replace hd := (ne_of_beq_false hd)
 replace h := h.2 hd
 refine gR 7 rfl <| gB 21 rfl rfl rfl ?_ ?_ <;> intro hd
 refine gT 22 rfl hd rfl ?_
 replace hd := (eq_of_beq hd)
 replace h := h.1 hd
 refine gR 12 rfl <| gV 26 (.int .i64 ((p0.kids.length : Int) - 1)) rfl (aG (by have := hl17; omega) rfl) rfl <| gR 4 rfl <| gB 24 rfl rfl rfl ?_ ?_ <;> intro hd
 refine gT 27 rfl hd rfl ?_
 replace hd := (eq_of_beq hd)
 replace h := h.1 hd
 refine gR 4 rfl ?_
 obtain ⟨a, hs18, h⟩ := h
 refine gC0 hs18 (by kernel_rfl) rfl rfl .rfl rfl <| gR 8 rfl ?_
 subst h
 exact go_end ab (rs := [.tmp 6]) rfl rfl rfl
 refine gF 27 rfl hd rfl ?_
 replace hd := (ne_of_beq_false hd)
 replace h := h.2 hd
 refine gR 5 rfl <| gV 32 (.int .i64 ((p0.kids.length : Int) - 2)) rfl (aG (by have := hl17; omega) rfl) rfl <| gR 4 rfl <| gB 30 rfl rfl rfl ?_ ?_ <;> intro hd
 refine gT 33 rfl hd rfl ?_
 replace hd := (eq_of_beq hd)
 replace h := h.1 hd
 refine gR 4 rfl ?_
 obtain ⟨b, hs19, h⟩ := h
 refine gC0 hs19 (by kernel_rfl) rfl rfl .rfl rfl <| gR 8 rfl ?_
 subst h
 exact go_end ab (rs := [.tmp 6]) rfl rfl rfl
 refine gF 33 rfl hd rfl ?_
 replace hd := (ne_of_beq_false hd)
 replace h := h.2 hd
 refine gR 14 rfl ?_
 subst h
 exact go_end ab (rs := [.tmp 6]) rfl rfl rfl
 refine gF 22 rfl hd rfl ?_
 replace hd := (ne_of_beq_false hd)
 replace h := h.2 hd
 refine gR 8 rfl <| gB 38 rfl rfl rfl ?_ ?_ <;> intro hd
 refine gT 39 rfl hd rfl ?_
 replace hd := (eq_of_beq hd)
 replace h := h.1 hd
 exact gR 3 rfl <| gJ (h K hK) [] [] rfl hK pq4 trivial rfl
 refine gF 39 rfl hd rfl ?_
 replace hd := (ne_of_beq_false hd)
 replace h := h.2 hd
 refine gR 7 rfl <| gB 38 rfl rfl rfl ?_ ?_ <;> intro hd
 refine gT 40 rfl hd rfl ?_
 replace hd := (eq_of_beq hd)
 replace h := h.1 hd
 exact gR 3 rfl <| gJ (h K hK) [] [] rfl hK pq4 trivial rfl
 refine gF 40 rfl hd rfl ?_
 replace hd := (ne_of_beq_false hd)
 replace h := h.2 hd
 exact gR 6 rfl <| gJ (h K hK) [] [] rfl hK pq4 trivial rfl
theorem pi (m : Nat) (p0 : Tree) (p1 p2 : Int) (b r0 : Bool) (h : ((b = true) → ∃ c, ep p2 c ∧ c = r0) ∧ ((b = false) → ((p0.kind = 16) → (p2 == 17) = r0) ∧ ((p0.kind ≠ 16) → ((p0.kind = 21) → ∃ a, ew p2 a ∧ ((a = true) → true = r0) ∧ ((a = false) → ((p1 = 0) → (p2 == 21) = r0) ∧ ((p1 ≠ 0) → false = r0))) ∧ ((p0.kind ≠ 21) → ∃ d, di p2 d ∧ d = r0)))) : fx (m + 1) p0 p1 p2 b r0 := by
 intro K hK
 refine qBi 38 rfl rfl rfl h (fun h => ?_) fun h => ?_
 refine gR 4 rfl ?_
 obtain ⟨c, hs20, h⟩ := h
 refine gC0 hs20 (by kernel_rfl) rfl rfl .rfl rfl <| gR 6 rfl ?_
 subst h
 exact go_end ab (rs := [.tmp 6]) rfl rfl rfl
 refine gR 7 rfl <| qBeZ 44 45 rfl rfl rfl rfl h (fun h => ?_) fun h => ?_
 refine gR 11 rfl ?_
 subst h
 exact go_end ab (rs := [.tmp 6]) rfl rfl rfl
 refine gR 7 rfl <| qBeZ 48 49 rfl rfl rfl rfl h (fun h => ?_) fun h => ?_
 refine gR 4 rfl ?_
 obtain ⟨a, hs21, h⟩ := h
 refine gC0 hs21 (by kernel_rfl) rfl rfl .rfl rfl <| gR 1 rfl <| qBiZ 52 51 rfl rfl rfl rfl h (fun h => ?_) fun h => ?_
 refine gR 13 rfl ?_
 subst h
 exact go_end ab (rs := [.tmp 6]) rfl rfl rfl
 refine gR 3 rfl <| qBeZ 55 54 rfl rfl rfl rfl h (fun h => ?_) fun h => ?_
 refine gR 10 rfl ?_
 subst h
 exact go_end ab (rs := [.tmp 6]) rfl rfl rfl
 refine gR 10 rfl ?_
 subst h
 exact go_end ab (rs := [.tmp 6]) rfl rfl rfl
 refine gR 7 rfl ?_
 obtain ⟨d, hs22, h⟩ := h
 refine gC0 hs22 (by kernel_rfl) rfl rfl .rfl rfl <| gR 4 rfl ?_
 subst h
 exact go_end ab (rs := [.tmp 6]) rfl rfl rfl
def dW (m : Nat) (p0 : Tree) (a : Nat) (r0 : Bool) : Prop := ∀ (K : Ctx) (j1 : Nat), aI K [] → m ≤ j1 → qLG K Tryz.f53 (fun u _ => u = .bool r0) (xI (ae Tryz.f53)) [.loop (xI (ae Tryz.f53)) j1, .blk 0, .seq (xH (ae Tryz.f53))] 45 (mkF 45 0 [(1, .box (ak p0) 0), (3, .int .i64 (a : Int))]) ⟨0, []⟩
theorem nF (m : Nat) (p0 : Tree) (r0 : Bool) (h : ∃ a, dy p0.kind (p0.kids.length : Int) a ∧ ((a < 0) → false = r0) ∧ ((¬ a < 0) → ∃ b, fI p0.kind p0.text b ∧ ((b = false) → false = r0) ∧ ((b = true) → dW m p0 0 r0))) : dg p0 r0 := by
 refine ⟨rfl, rfl, ?_⟩
 refine av 45 [] Tryz.func53 rfl rfl rfl (aY rfl) fun K hK => ?_
 refine gR 3 rfl <| gFP 0 rfl rfl rfl rfl <| gR 11 rfl <| gV 8 (.int .i64 (p0.kids.length : Int)) rfl (bV (bq _)) rfl <| gLB 7 rfl (bq _) fun hl13 => ?_
 obtain ⟨a, hs14, h⟩ := h
 refine gC0 hs14 (by kernel_rfl) rfl rfl .rfl rfl <| gR 2 rfl <| gB 11 rfl rfl rfl ?_ ?_ <;> intro hd
 refine gT 10 rfl hd rfl ?_
 replace hd := (of_decide_eq_true hd)
 replace h := h.1 hd
 refine gR 17 rfl ?_
 subst h
 exact go_end ab (rs := [.tmp 2]) rfl rfl rfl
 refine gF 10 rfl hd rfl ?_
 replace hd := (of_decide_eq_false hd)
 replace h := h.2 hd
 refine gR 4 rfl ?_
 obtain ⟨b, hs15, h⟩ := h
 refine gC0 hs15 (by kernel_rfl) rfl rfl .rfl rfl <| gR 4 rfl <| gB 18 rfl rfl rfl ?_ ?_ <;> intro hd
 replace hd := (eE hd)
 replace h := h.1 hd
 refine gR 8 rfl ?_
 subst h
 exact go_end ab (rs := [.tmp 2]) rfl rfl rfl
 replace hd := (eC hd)
 replace h := h.2 hd
 exact gR 10 rfl <| go_loop m <| gJ (h K _ hK (by omega)) [] [] rfl hK pq2 trivial rfl
theorem jf (m : Nat) (p0 : Tree) (a : Nat) (r0 : Bool) (h : ((a < p0.kids.length) → ∃ d, p0.kids[a]? = some d ∧ ∃ b, jd p0 (a : Int) d.kind b ∧ ((b = false) → false = r0) ∧ ((b = true) → ∃ e, p0.kids[a]? = some e ∧ ∃ c, dg e c ∧ ((c = false) → false = r0) ∧ ((c = true) → dW m p0 (a + 1) r0))) ∧ ((¬ a < p0.kids.length) → true = r0)) : dW (m + 1) p0 a r0 := by
 intro K j1 hK hj1
 obtain ⟨j1, rfl⟩ : ∃ j, j1 = j + 1 := ⟨j1 - 1, by omega⟩
 refine gR 7 rfl <| gV 22 (.int .i64 (p0.kids.length : Int)) rfl (bV (bq _)) rfl <| gLB 21 rfl (bq _) fun hl16 => gR 3 rfl <| gB 23 rfl rfl rfl ?_ ?_ <;> intro hd
 replace hd := (ia hd)
 replace h := h.1 hd
 refine gR 6 rfl <| gDs [] 19 19 rfl (by kernel_rfl) (by kernel_rfl) <| gDr [(0, 2), (1, 2), (2, 2), (3, 2), (4, 0)] (by kernel_rfl) rfl rfl ?_
 obtain ⟨d, hxt1_1, h⟩ := h
 refine fk 5 rfl (by kernel_rfl) (bw (aJ hxt1_1) ab rfl rfl rfl rfl) rfl rfl ?_
 refine gDr [(6, 0), (7, 0)] (by kernel_rfl) rfl rfl ?_
 obtain ⟨b, hs17, h⟩ := h
 refine bP 8 hs17 (by kernel_rfl) rfl (by kernel_rfl) rfl rfl .rfl rfl rfl ?_
 refine gDr [(9, 0), (10, 0)] (by kernel_rfl) rfl rfl <| gB 36 rfl rfl rfl ?_ ?_ <;> intro hd
 refine gT 35 rfl hd rfl ?_
 replace hd := (eE hd)
 replace h := h.1 hd
 refine gDr [(11, 2), (12, 2), (13, 0), (14, 0), (15, 0), (16, 0), (17, 0), (18, 0)] (by kernel_rfl) rfl rfl <| gDe (by kernel_rfl) <| gR 10 rfl <| go_xloopR <| gR 2 rfl ?_
 subst h
 exact go_end ab (rs := [.tmp 2]) rfl rfl rfl
 refine gF 35 rfl hd rfl ?_
 replace hd := (eC hd)
 replace h := h.2 hd
 refine gDr [(11, 2), (12, 2), (13, 0)] (by kernel_rfl) rfl rfl ?_
 obtain ⟨e, hxt1_3, h⟩ := h
 refine fk 14 rfl (by kernel_rfl) (bw (aJ hxt1_3) ab rfl rfl rfl rfl) rfl rfl ?_
 refine gDr [(15, 0)] (by kernel_rfl) rfl rfl ?_
 obtain ⟨c, hs18, h⟩ := h
 refine bP 16 hs18 (by kernel_rfl) rfl (by kernel_rfl) rfl rfl .rfl rfl rfl ?_
 refine gDr [(17, 0), (18, 0)] (by kernel_rfl) rfl rfl <| gDe (by kernel_rfl) <| gR 1 rfl <| gB 44 rfl rfl rfl ?_ ?_ <;> intro hd
 replace hd := (eE hd)
 replace h := h.1 hd
 refine gR 9 rfl <| go_xloopR <| gR 2 rfl ?_
 subst h
 exact go_end ab (rs := [.tmp 2]) rfl rfl rfl
 replace hd := (eC hd)
 replace h := h.2 hd
 exact gR 7 rfl <| gV 25 (.int .i64 ((a + 1 : Nat) : Int)) rfl (aG (by have := hl16; omega) (by omega)) rfl <| gR 2 rfl <| go_xloop <| gJ (h K _ hK (by omega)) [] [] rfl hK pq2 trivial rfl
 replace hd := (ib hd)
 replace h := h.2 hd
 refine gR 3 rfl <| go_xloopE <| gR 8 rfl ?_
 subst h
 exact go_end ab (rs := [.tmp 2]) rfl rfl rfl
end Go.Proofs.YtgpcdfbmbcognaaGreat
