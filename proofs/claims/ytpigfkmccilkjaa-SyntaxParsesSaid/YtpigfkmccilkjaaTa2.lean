/- Contracts of the functions that the law reaches, part 2. -/
import Derived.Test.YtpigfkmccilkjaaTa1
set_option linter.unusedVariables false
set_option linter.unusedSimpArgs false
namespace Go.Proofs.Ytpigfkmccilkjaa
open Go.RowKit
section
variable {P : Program} {T : Tab} {K : Ctx} {Q : Exit → Act → World → Prop} {s : List EI} {n : Nat} {F : Fm} {S S' : Nat → Prop} {w w' : World} {ρ ρ' : Nat → Option Value} {h h1 h1' h2 : Nat → Ob} {a : Act}
theorem xR (hr : HRel S w ρ h) (hi : Inv K S w ρ h) (hh1 : ∀ i, h1 i = h i ∨ h1 i = .gone) (hr' : HRel S' w' ρ' h1') (hi' : Inv ⟨w, S, fun b => ∃ id, own ρ id (h1 id) b, ρ⟩ S' w' ρ' h1')
  (hh2 : ∀ i, (h2 i = h1' i ∨ h2 i = .gone) ∨ (h2 i = h i ∧ h1 i = .gone ∧ h i ≠ .free)) :
  HRel S' w' ρ' h2 ∧ Inv K S' w' ρ' h2 ∧ Up S S' w w' ρ ρ' ∧ ∀ L, eP h L = true → (∀ id, id ∈ L → h1 id = .gone) → Ls ρ L w w' := by
 have h1own : ∀ id b, own ρ id (h1 id) b → own ρ id (h id) b := fun id b hb => by
  rcases hh1 id with e | e
  ·rw [e] at hb; exact hb
  ·rw [e] at hb; exact hb.elim
 have up : Up S S' w w' ρ ρ' := ⟨hi'.s0, fun b hb hlt => hi'.chg.block b hlt (fun ⟨id, ho⟩ => hr.sep id b (h1own id b ho) hb), hi'.pin⟩
 have frame : ∀ i b, h1 i = .gone → own ρ i (h i) b → ¬ ∃ id, own ρ id (h1 id) b := fun i b hg ho ⟨id, hid⟩ => by
  have e := hr.dis i id b ho (h1own id b hid)
  subst e
  rw [hg] at hid; exact hid.elim
 have cases2 : ∀ i b, own ρ' i (h2 i) b → own ρ' i (h1' i) b ∨ (h1 i = .gone ∧ own ρ i (h i) b) := fun i b hb => by
  rcases hh2 i with (e | e) | ⟨e, e1, e2⟩
  ·rw [e] at hb; exact .inl hb
  ·rw [e] at hb; exact hb.elim
  ·rw [e] at hb; exact .inr ⟨e1, vN hi'.pin (hr.ob i) hb⟩
 have far : ∀ i b, h1 i = .gone → own ρ i (h i) b → ¬ S' b := fun i b hg ho hS => by
  rcases hi'.s1 b hS with h3 | h3 | h3
  ·exact hr.sep i b ho h3
  ·exact frame i b hg ho h3
  ·have := fQ (hr.ob i) ho; simp only at h3; omega
 have apart : ∀ i j b, own ρ' i (h1' i) b → h1 j = .gone → own ρ j (h j) b → False := fun i j b ho hg hb => by
  rcases hi'.ow i b ho with h3 | h3
  ·exact frame j b hg hb h3
  ·have := fQ (hr.ob j) hb; simp only at h3; omega
 refine ⟨⟨fun i => ?_, fun i b hb => ?_, fun i j b hbi hbj => ?_, hr'.slt⟩, ⟨?_, fun b hb => hi'.s0 b (hi.s0 b hb), fun b hb => ?_, fun i b hb => ?_, fun id x hx => hi'.pin _ _ (hi.pin id x hx)⟩, up, fun L hl hg id hid x b hx hb => ?_⟩
 ·rcases hh2 i with (e | e) | ⟨e, e1, e2⟩
  ·rw [e]; exact hr'.ob i
  ·rw [e]; trivial
  ·rw [e]
   exact (hr.ob i).up up (fun hf => absurd hf e2) (fun b hb => hi'.chg.block b (fQ (hr.ob i) hb) (frame i b e1 hb))
 ·rcases cases2 i b hb with h3 | ⟨h3, h4⟩
  ·exact hr'.sep i b h3
  ·exact far i b h3 h4
 ·rcases cases2 i b hbi with h3 | ⟨h3, h4⟩ <;> rcases cases2 j b hbj with h5 | ⟨h5, h6⟩
  ·exact hr'.dis i j b h3 h5
  ·exact (apart i j b h3 h5 h6).elim
  ·exact (apart j i b h5 h3 h4).elim
  ·exact hr.dis i j b h4 h6
 ·refine hi.chg.trans hi'.chg ?_
  rintro b ⟨id, ho⟩
  exact hi.ow id b (h1own id b ho)
 ·rcases hi'.s1 b hb with h3 | ⟨id, h3⟩ | h3
  ·exact hi.s1 b h3
  ·exact .inr (hi.ow id b (h1own id b h3))
  ·exact .inr (.inr (Nat.le_trans hi.chg.size h3))
 ·rcases cases2 i b hb with h3 | ⟨h3, h4⟩
  ·rcases hi'.ow i b h3 with ⟨id, h5⟩ | h5
   ·exact hi.ow id b (h1own id b h5)
   ·exact .inr (Nat.le_trans hi.chg.size h5)
  ·exact hi.ow i b h4
 ·have ho := jS hr hl id hid x b hx hb
  exact hi'.chg.block b (fQ (hr.ob id) ho) (frame id b (hg id hid) ho)
def kW : Nat → List V → Fm
 | 0, _ => []
 | n + 1, [] => none :: kW n []
 | n + 1, v :: r => some v :: kW n r
theorem pz : ∀ (n : Nat) (vs : List V), (kW n vs).length = n
 | 0, _ => rfl
 | n + 1, [] => by simp [kW, pz n []]
 | n + 1, v :: r => by simp [kW, pz n r]
theorem pB : ∀ (n : Nat) (vs : List V) (i : Nat) (v : V), (kW n vs).get i = some v → vs[i]? = some v
 | 0, _, i, v, h => by simp [kW, Fm.get] at h
 | n + 1, [], 0, v, h => by simp [kW, Fm.get] at h
 | n + 1, [], i + 1, v, h => by
  have := pB n [] i v (by simpa [kW, Fm.get] using h)
  simp at this
 | n + 1, u :: r, 0, v, h => by simpa [kW, Fm.get] using h
 | n + 1, u :: r, i + 1, v, h => by
  have := pB n r i v (by simpa [kW, Fm.get] using h)
  simpa using this
theorem xQ {H : Hp} {fid : FuncId} {fn : Func} {c : Code} {vs : List V} {xs : List Value} {R : Ending → World → Prop} (hf : P.funcs[fid]? = some fn) (hb : fn.body = some c) (hl : Nat.ble vs.length fn.ntmps = true) (hr : HRel S w ρ H.get) (hi : Inv K S w ρ H.get) (hx : LRel S w ρ vs xs)
  (k : Go P K (bodyPost P fn R) (.code c) [] fn.ntmps (kW fn.ntmps vs) H) : Calls P fid xs.toArray w R := by
 refine calls_of_wp hf hb (k S w ρ _ hr hi ⟨?_, rfl, ?_, fun i v hv => ?_⟩)
 ·have h1 : vs.length ≤ fn.ntmps := Nat.le_of_ble_eq_true hl
  have h2 := hx.length
  simp; omega
 ·exact Nat.le_of_eq (pz _ _)
 ·have h1 := pB _ _ _ _ hv
  obtain ⟨x, h2, h3⟩ := hx.get h1
  refine ⟨x, ?_, h3⟩
  have hlt : i < xs.length := (List.getElem?_eq_some_iff.1 h2).1
  show (xs.toArray ++ Array.replicate (fn.ntmps - xs.toArray.size) undef)[i]? = some x
  rw [Array.getElem?_append_left (by simpa using hlt)]
  simpa using h2
def uS (T : Tab) (h : Nat → Ob) (F : Fm) : ResultVar → Option V
 | .tmp t => F.get t
 |.cell t ty => match T.ty ty with
  |some d => match F.get t with
   |some (.ptr id 0) => match h id with
    | .var _ cs => lS d cs 0
    | _ => none
   | some (.box cs 0) => lS d cs 0
   | _ => none
  | none => none
def pU (T : Tab) (h : Nat → Ob) (F : Fm) : List ResultVar → Option (List V)
 | [] => some []
 |x :: r => match uS T h F x with
  |some v => match pU T h F r with
   | some vs => some (v :: vs)
   | none => none
  | none => none
def ra : List V → V
 | [v] => v
 | vs => .tup vs
theorem sL {t : TypeId} {d : TD} (td : TdOk P t d) {b off : Nat} {cs : List V} {xs : List Value} {v : V} (hl : LRel S w ρ cs xs) (hc : ∀ j, j < xs.length → w.cell? ⟨b, off + j, none⟩ = xs[j]?) (hv : lS d cs 0 = some v) : ∃ y, (loadVar t ⟨b, off, none⟩).run P w = .ok y w ∧ VRel S w ρ v y := by
 have hlen := hl.length
 rcases mv td hv with ⟨h1, h2⟩ | ⟨h1, h2, rfl⟩
 ·obtain ⟨y, h3, h4⟩ := hl.get h2
  have h0 : 0 < xs.length := (List.getElem?_eq_some_iff.1 h3).1
  have := rx (P := P) (w := w) (p := ⟨b, off, none⟩) h1 (by have := hc 0 h0; rw [Nat.add_zero] at this; rw [this, h3])
  refine ⟨y, ?_, h4⟩
  simp only [Instr.loadAt, Instr.sureAddr] at this
  simpa using this
 ·have := rD (P := P) (w := w) (b := b) (o := off) (cs := xs.take d.size) h1 (by simp; omega) (fun j hj => by rw [hc j (by omega), List.getElem?_take, if_pos hj])
  refine ⟨_, ?_, by simp only [VRel]; exact ⟨xs.take d.size, rfl, by simpa using hl.take d.size⟩⟩
  simp only [Instr.loadAt, Instr.sureAddr] at this
  simpa using this
theorem xc (hT : TabOk P T) (hr : HRel S w ρ h) (hF : FRel S w ρ a n F) {x : ResultVar} {v : V} (hv : uS T h F x = some v) : ∃ y, (pC a x).run P w = .ok y w ∧ VRel S w ρ v y := by
 unfold uS at hv
 split at hv
 ·rename_i t
  obtain ⟨y, h1, h2⟩ := hF.get t v hv
  exact ⟨y, by simp [pC, Array.getD_eq_getD_getElem?, h1], h2⟩
 ·rename_i t ty
  split at hv
  ·rename_i d hd
   split at hv
   ·rename_i id hid
    split at hv
    ·rename_i ho
     obtain ⟨b, xs, g1, g2, g3⟩ := mf hr ho
     obtain ⟨y, h1, h2⟩ := hF.get t _ hid
     simp only [VRel] at h2
     obtain ⟨b', h3, rfl⟩ := h2
     rw [g1] at h3
     simp only [Option.some.injEq, Value.pointer.injEq, Addr.mk.injEq, and_true] at h3
     subst h3
     obtain ⟨z, k1, k2⟩ := sL (hT.ty _ _ hd) g3 (b := b) (off := 0) (fun j hj => by rw [Nat.zero_add, g2.cell]) hv
     exact ⟨z, by simp [pC, Array.getD_eq_getD_getElem?, h1, asAddr, k1], k2⟩
    ·cases hv
   ·rename_i cs hid
    obtain ⟨y, h1, h2⟩ := hF.get t _ hid
    simp only [VRel] at h2
    obtain ⟨b, off, xs, rfl, _, _, g3, g4⟩ := h2
    obtain ⟨z, k1, k2⟩ := sL (hT.ty _ _ hd) g3 (b := b) (off := off) g4 hv
    exact ⟨z, by simp [pC, Array.getD_eq_getD_getElem?, h1, asAddr, k1], k2.up up0⟩
   ·cases hv
  ·cases hv
theorem tN (hT : TabOk P T) (hr : HRel S w ρ h) (hF : FRel S w ρ a n F) : ∀ {l : List ResultVar} {vs : List V}, pU T h F l = some vs → ∃ ys, (l.mapM (pC a)).run P w = .ok ys w ∧ LRel S w ρ vs ys
 | [], vs, hv => by simp only [pU, Option.some.injEq] at hv; subst hv; exact ⟨[], by simp, by simp [LRel]⟩
 | x :: r, vs, hv => by
  simp only [pU] at hv
  split at hv
  ·rename_i v h1
   split at hv
   ·rename_i us h2
    simp only [Option.some.injEq] at hv; subst hv
    obtain ⟨y, g1, g2⟩ := xc hT hr hF h1
    obtain ⟨ys, g3, g4⟩ := tN hT hr hF h2
    exact ⟨y :: ys, by simp [List.mapM_cons, g1, g3], ⟨y, ys, rfl, g2, g4⟩⟩
   ·cases hv
  ·cases hv
theorem yl {vs : List V} {ys : List Value} (hl : LRel S w ρ vs ys) : VRel S w ρ (ra vs) (so ys) := by
 match vs, ys, hl with
 | [], ys, hl => simp only [LRel] at hl; subst hl; simp only [ra, so, VRel]; exact ⟨[], rfl, by simp [LRel]⟩
 | [v], ys, hl =>
  simp only [LRel] at hl
  obtain ⟨x, zs, rfl, h1, rfl⟩ := hl
  exact h1
 | v :: u :: r, ys, hl =>
  have hl' := hl
  simp only [LRel] at hl
  obtain ⟨x, zs, rfl, h1, y, zs', rfl, h2, h3⟩ := hl
  simp only [ra, so, VRel]
  exact ⟨_, rfl, hl'⟩
theorem ret_go (hT : TabOk P T) {fn : Func} {R : Ending → World → Prop} {rs : List ResultVar} {vs : List V} {e : Exit} (he : e = .ret ∨ e = .normal) (hrs : fn.results = rs.toArray) (hr : HRel S w ρ h) (hF : FRel S w ρ a n F) (hv : pU T h F rs = some vs) (hR : ∀ x, VRel S w ρ (ra vs) x → R (.returned x) w) : bodyPost P fn R e a w := by
 obtain ⟨ys, h0, h1⟩ := tN hT hr hF hv
 have hb : bodyPost P fn R .ret a w := by
  refine bodyPost_ret (v := so ys) ?_ hF.defers (hR _ (yl h1))
  have e : (Array.mapM (pC a) rs.toArray).run P w = .ok ys.toArray w := by rw [List.mapM_toArray]; simp [h0]
  unfold results
  rw [hrs]
  change ((Array.mapM (pC a) rs.toArray) >>= fun vs => pure (if h : vs.size = 1 then vs[0] else .tuple vs)).run P w = _
  simp only [Sem.run_bind, e, Result.andThen_ok, Sem.run_pure]
  match ys with
  | [] => rfl
  | [v] => rfl
  | v :: u :: r => simp [so]
 rcases he with rfl | rfl
 ·exact hb
 ·exact hb
end
section
variable {P : Program} {T : Tab} {K : Ctx} {Q : Exit → Act → World → Prop} {s : List EI} {n : Nat} {F : Fm} {H : Hp} {S : Nat → Prop} {w : World} {ρ : Nat → Option Value} {a : Act}
theorem PRel.up {S' : Nat → Prop} {w' : World} {ρ' : Nat → Option Value} (u : Up S S' w w' ρ ρ') : ∀ {vs : List (Nat × V)} {ys : List (Nat × Value)}, PRel S w ρ vs ys → PRel S' w' ρ' vs ys
 | [], ys, h => h
 | (i, v) :: r, ys, h => by
  simp only [PRel] at h ⊢
  obtain ⟨x, zs, h1, h2, h3⟩ := h
  exact ⟨x, zs, h1, h2.up u, PRel.up u h3⟩
variable {all : Array Oper} {L : List Nat} {m left i : Nat} {listed : Array Bool} {o : Oper}
variable {ps : List (Nat × Operand)} {vs : List (Nat × V)} {v : V}
theorem yK {j : Nat} {B Sx : World → Prop} {Q' : Exit → Act → World → Prop} (hrd : (match Region.ready .any all listed with | [x, y] => (Nat.beq x i && Nat.beq y j) || (Nat.beq x j && Nat.beq y i) | _ => false) = true)
  (h1 : wpOp P all Q' i (fun a' w' => B w' ∧ (Sx w' ∨ (listed.setIfInBounds i true).getD m false = true) ∧ wpB P all Q' B Sx m left (listed.setIfInBounds i true) a' w') a w)
  (h2 : wpOp P all Q' j (fun a' w' => B w' ∧ (Sx w' ∨ (listed.setIfInBounds j true).getD m false = true) ∧ wpB P all Q' B Sx m left (listed.setIfInBounds j true) a' w') a w) : wpB P all Q' B Sx m (left + 1) listed a w := by
 split at hrd
 ·rename_i x y hr
  refine ⟨fun h0 => (by rw [hr] at h0; cases h0), fun c hc => ?_⟩
  rw [hr] at hc
  simp only [Bool.or_eq_true, Bool.and_eq_true, Nat.beq_eq] at hrd
  simp only [List.mem_cons, List.not_mem_nil, or_false] at hc
  rcases hrd with ⟨rfl, rfl⟩ | ⟨rfl, rfl⟩
  ·rcases hc with rfl | rfl
   ·exact h1
   ·exact h2
  ·rcases hc with rfl | rfl
   ·exact h2
   ·exact h1
 ·cases hrd
end
section
variable {P : Program} {T : Tab} {K : Ctx} {Q : Exit → Act → World → Prop} {s : List EI} {n : Nat} {F : Fm} {H : Hp}
def qC (P : Program) (K : Ctx) (o : Oper) (L : List Nat) (ok : Bool) (n : Nat) (F : Fm) (H : Hp) (u : V) (H' : Hp) : Prop :=
  ∀ S w ρ a, HRel S w ρ H.get → Inv K S w ρ H.get → FRel S w ρ a n F → ∀ (Q' : Exit → Act → World → Prop) (K2 : Act → World → Prop),
    (∀ x S' w' ρ', HRel S' w' ρ' H'.get → Inv K S' w' ρ' H'.get → Up S S' w w' ρ ρ' → Agree S w w' → (Ls ρ L w w' ∨ ok = true) → VRel S' w' ρ' u x → K2 (a.put o.dst x) w') → o.wp P a w K2 Q'
theorem aD (hT : TabOk P T) {o : Oper} {L : List Nat} {ok : Bool} {v : Option V} {ed : ED} (hv : lM T H.get F H.nx o.op = some (v, ed)) (hc : ((eP H.get L && ed.clear L) || ok) = true) : qC P K o L ok n F H (v.getD (.tup [])) (H.app ed) := fun S w ρ a hr hi hF Q' K2 k => by
 obtain ⟨nx, w', ρ', h1, h2, h3⟩ := oO (ty := o.type) hT hr hF H.get_free hv
 have hr' := h2.hr
 have hi' := hi.eff h2
 rw [← Hp.get_app (mG hv)] at hr' hi'
 have hLs : Ls ρ L w w' ∨ ok = true := (rQ hc).imp (fun h => by
  simp only [Bool.and_eq_true] at h
  exact su hr h2 h.1 h.2) id
 have kk := fun x hx => k x S w' ρ' hr' hi' h2.up (mg hr h2) hLs hx
 obtain ⟨d, op, ty, ps, af, g⟩ := o
 unfold Oper.wp
 rw [h1 d ps af g]
 cases v with
 | none =>
  subst h3
  exact kk undef oe
 | some v =>
  obtain ⟨x, rfl, h4⟩ := h3
  exact kk x h4
theorem de {o : Oper} {L : List Nat} {ok : Bool} {fid : FuncId} {args : List Operand} {tys : Array TypeId} {vs : List V} {u : V} {H' : Hp} {L' : List Nat} (he : ek P fid = true) (ho : o.op = .call { callee := .value (.func fid), args := args.toArray, argTypes := tys }) (hv : gx F args = some vs) (hC : CallR P K fid vs H L' (fun u' H'' => u' = u ∧ H'' = H')) (hL : L' = L ∨ ok = true) : qC P K o L ok n F H u H' := fun S w ρ a hr hi hF Q' K2 k => by
 obtain ⟨xs, h1, h2⟩ := nZ hF hv
 have hcl := hC S w ρ xs hr hi h2
 obtain ⟨d, op, ty, ps, af, g⟩ := o
 simp only at ho
 subst ho
 have hx : (execOp a.eval ⟨d, .call { callee := .value (.func fid), args := args.toArray, argTypes := tys }, ty, ps, af, g⟩).run P w = .ok (.enter fid xs.toArray) w := by
  have e : args.toArray.map a.eval = xs.toArray := by rw [← hF.fr.vals h1]; simp
  simp only [execOp, resolve, e]
  simp [Act.eval, Deferred.ofValue, invoke, mh he]
 unfold Oper.wp
 rw [hx, Oper.upon_enter]
 refine hcl.mono fun e w1 hR => ?_
 obtain ⟨x, S', ρ', v, H'', rfl, ⟨rfl, rfl⟩, hr', hi', hu, hvr, hls⟩ := hR
 exact k x S' w1 ρ' hr' hi' hu (fun b hb => hu.blk b hb (hr.slt b hb)) (hL.imp (fun e => by subst e; exact hls) id) hvr
theorem aF {all : Array Oper} {L : List Nat} {m left i j : Nat} {listed : Array Bool} {oi oj : Oper} {ui uj : V} {Hi Hj : Hp} (hrd : (match Region.ready .any all listed with | [x, y] => (Nat.beq x i && Nat.beq y j) || (Nat.beq x j && Nat.beq y i) | _ => false) = true) (hi : all[i]? = some oi) (hj : all[j]? = some oj) (hwi : cr F all oi.guard = some true) (hwj : cr F all oj.guard = some true)
  (xi : qC P K oi L ((listed.setIfInBounds i true).getD m false) n F H ui Hi) (xj : qC P K oj L ((listed.setIfInBounds j true).getD m false) n F H uj Hj)
  (ki : Go P K Q (.drw all L m left (listed.setIfInBounds i true)) s n (F.seto oi.dst (some ui)) Hi) (kj : Go P K Q (.drw all L m left (listed.setIfInBounds j true)) s n (F.seto oj.dst (some uj)) Hj) : Go P K Q (.drw all L m (left + 1) listed) s n F H := fun S w ρ a hr hiv hF hs => by
 refine yK hrd ?_ ?_
 ·unfold wpOp
  simp only [hi]
  rw [if_pos (eJ hF hwi)]
  exact .inl (xi S w ρ a hr hiv hF _ _ fun x S' w' ρ' hr' hi' hu hA hL hv => oE hu hA hL (ki S' w' ρ' _ hr' hi' (gr (hF.up hu) oi.dst hv) hs))
 ·unfold wpOp
  simp only [hj]
  rw [if_pos (eJ hF hwj)]
  exact .inl (xj S w ρ a hr hiv hF _ _ fun x S' w' ρ' hr' hi' hu hA hL hv => oE hu hA hL (kj S' w' ρ' _ hr' hi' (gr (hF.up hu) oj.dst hv) hs))
end
def atN : List Nat → Nat → Option Nat
 | [], _ => none
 | x :: _, 0 => some x
 | _ :: r, i + 1 => atN r i
theorem ko : ∀ (l : List Nat) (i : Nat), atN l i = l[i]?
 | [], i => by simp [atN]
 | x :: r, 0 => by simp [atN]
 | x :: r, i + 1 => by simp [atN, ko r i]
abbrev uu : V := .raw (.agg #[])
mutual
def V.ren (σ : List Nat) : V → V
 |.ptr id o => match atN σ id with
  | some j => .ptr j o
  | none => uu
 |.el id sz i o => match atN σ id with
  | some j => .el j sz i o
  | none => uu
 |.sl id => match atN σ id with
  | some j => .sl j
  | none => uu
 |.np id => match atN σ id with
  | some j => .np j
  | none => .nilp
 | .agg cs => .agg (renL σ cs)
 | .tup cs => .tup (renL σ cs)
 | .clo fid cs => .clo fid (renL σ cs)
 | .int k n => .int k n
 | .bool b => .bool b
 | .str l => .str l
 | .nilp => .nilp
 | .nils => .nils
 | .raw x => .raw x
 | .box cs o => .box cs o
 | .row sz els => .row sz els
 | .lk els => .lk els
def renL (σ : List Nat) : List V → List V
 | [] => []
 | v :: r => v.ren σ :: renL σ r
end
def Ob.ren (σ : List Nat) : Ob → Ob
 | .var t cs => .var t (renL σ cs)
 | .row e sz els => .row e sz (renL σ els)
 | o => o
def fd (σ : List Nat) (ρ : Nat → Option Value) : Nat → Option Value := fun j => match atN σ j with
 | some i => ρ i
 | none => none
section
variable {S : Nat → Prop} {w : World} {ρ : Nat → Option Value} {σ : List Nat}
theorem se {x : Value} (h : VRel S w ρ uu x) : False := by simp only [VRel, Value.oneCell'] at h; exact absurd h.2 (by simp)
mutual
theorem VRel.ren : ∀ {v : V} {x : Value}, VRel S w ρ (v.ren σ) x → VRel S w (fd σ ρ) v x
 | .int _ _, x, h => by simp only [V.ren, VRel] at h ⊢; exact h
 | .bool _, x, h => by simp only [V.ren, VRel] at h ⊢; exact h
 | .str _, x, h => by simp only [V.ren, VRel] at h ⊢; exact h
 | .nilp, x, h => by simp only [V.ren, VRel] at h ⊢; exact h
 | .nils, x, h => by simp only [V.ren, VRel] at h ⊢; exact h
 | .raw _, x, h => by simp only [V.ren, VRel] at h ⊢; exact h
 | .box _ _, x, h => by simp only [V.ren, VRel] at h ⊢; exact h
 | .row _ _, x, h => by simp only [V.ren, VRel] at h ⊢; exact h
 | .lk _, x, h => by simp only [V.ren, VRel] at h ⊢; exact h
 | .ptr id o, x, h => by
  simp only [V.ren] at h
  split at h
  ·rename_i j hj
   simp only [VRel] at h ⊢
   obtain ⟨b, h1, h2⟩ := h
   exact ⟨b, by simp only [fd, hj]; exact h1, h2⟩
  ·exact (se h).elim
 | .el id sz i o, x, h => by
  simp only [V.ren] at h
  split at h
  ·rename_i j hj
   simp only [VRel] at h ⊢
   obtain ⟨b, n, c, h1, h2⟩ := h
   exact ⟨b, n, c, by simp only [fd, hj]; exact h1, h2⟩
  ·exact (se h).elim
 | .sl id, x, h => by
  simp only [V.ren] at h
  split at h
  ·rename_i j hj
   simp only [VRel] at h ⊢
   exact ⟨by simp only [fd, hj]; exact h.1, h.2⟩
  ·exact (se h).elim
 | .np id, x, h => by
  simp only [V.ren] at h
  split at h
  ·rename_i j hj
   simp only [VRel] at h ⊢
   exact h.imp_right fun ⟨b, h1, h2⟩ => ⟨b, by simp only [fd, hj]; exact h1, h2⟩
  ·simp only [VRel] at h ⊢
   exact .inl h
 | .agg cs, x, h => by
  simp only [V.ren, VRel] at h ⊢
  obtain ⟨xs, h1, h2⟩ := h
  exact ⟨xs, h1, LRel.ren h2⟩
 | .tup cs, x, h => by
  simp only [V.ren, VRel] at h ⊢
  obtain ⟨xs, h1, h2⟩ := h
  exact ⟨xs, h1, LRel.ren h2⟩
 | .clo fid cs, x, h => by
  simp only [V.ren, VRel] at h ⊢
  obtain ⟨xs, h1, h2⟩ := h
  exact ⟨xs, h1, LRel.ren h2⟩
theorem LRel.ren : ∀ {v : List V} {x : List Value}, LRel S w ρ (renL σ v) x → LRel S w (fd σ ρ) v x
 | [], x, h => by simp only [renL, LRel] at h ⊢; exact h
 | v :: r, x, h => by
  simp only [renL, LRel] at h ⊢
  obtain ⟨y, ys, h1, h2, h3⟩ := h
  exact ⟨y, ys, h1, VRel.ren h2, LRel.ren h3⟩
end
theorem po : ∀ (l : List V), (renL σ l).length = l.length
 | [] => by simp [renL]
 | v :: r => by simp [renL, po r]
theorem CRel.ren {sz : Nat} : ∀ {v : List V} {x : List Value}, CRel S w ρ sz (renL σ v) x → CRel S w (fd σ ρ) sz v x
 | [], x, h => by simp only [renL, CRel] at h ⊢; exact h
 | v :: r, x, h => by
  simp only [renL, CRel] at h ⊢
  obtain ⟨y, ys, h1, h2, h3, h4⟩ := h
  exact ⟨y, ys, h1, h2, VRel.ren h3, CRel.ren h4⟩
mutual
theorem VRel.bwd {ρ' : Nat → Option Value} (hσ : ∀ j x, ρ j = some x → ∃ i, atN σ j = some i ∧ ρ' i = some x) : ∀ {v : V} {x : Value}, VRel S w ρ v x → VRel S w ρ' (v.ren σ) x
 | .int _ _, x, h => by simp only [V.ren, VRel] at h ⊢; exact h
 | .bool _, x, h => by simp only [V.ren, VRel] at h ⊢; exact h
 | .str _, x, h => by simp only [V.ren, VRel] at h ⊢; exact h
 | .nilp, x, h => by simp only [V.ren, VRel] at h ⊢; exact h
 | .nils, x, h => by simp only [V.ren, VRel] at h ⊢; exact h
 | .raw _, x, h => by simp only [V.ren, VRel] at h ⊢; exact h
 | .box _ _, x, h => by simp only [V.ren, VRel] at h ⊢; exact h
 | .row _ _, x, h => by simp only [V.ren, VRel] at h ⊢; exact h
 | .lk _, x, h => by simp only [V.ren, VRel] at h ⊢; exact h
 | .ptr id o, x, h => by
  simp only [VRel] at h
  obtain ⟨b, h1, h2⟩ := h
  obtain ⟨i, h3, h4⟩ := hσ _ _ h1
  simp only [V.ren, h3, VRel]
  exact ⟨b, h4, h2⟩
 | .el id sz i o, x, h => by
  simp only [VRel] at h
  obtain ⟨b, n, c, h1, h2⟩ := h
  obtain ⟨i', h3, h4⟩ := hσ _ _ h1
  simp only [V.ren, h3, VRel]
  exact ⟨b, n, c, h4, h2⟩
 | .sl id, x, h => by
  simp only [VRel] at h
  obtain ⟨i, h3, h4⟩ := hσ _ _ h.1
  simp only [V.ren, h3, VRel]
  exact ⟨h4, h.2⟩
 | .np id, x, h => by
  simp only [VRel] at h
  rcases h with h | ⟨b, h1, h2⟩
  ·simp only [V.ren]
   split
   ·simp only [VRel]; exact .inl h
   ·simp only [VRel]; exact h
  ·obtain ⟨i, h3, h4⟩ := hσ _ _ h1
   simp only [V.ren, h3, VRel]
   exact .inr ⟨b, h4, h2⟩
 | .agg cs, x, h => by
  simp only [V.ren, VRel] at h ⊢
  obtain ⟨xs, h1, h2⟩ := h
  exact ⟨xs, h1, LRel.bwd hσ h2⟩
 | .tup cs, x, h => by
  simp only [V.ren, VRel] at h ⊢
  obtain ⟨xs, h1, h2⟩ := h
  exact ⟨xs, h1, LRel.bwd hσ h2⟩
 | .clo fid cs, x, h => by
  simp only [V.ren, VRel] at h ⊢
  obtain ⟨xs, h1, h2⟩ := h
  exact ⟨xs, h1, LRel.bwd hσ h2⟩
theorem LRel.bwd {ρ' : Nat → Option Value} (hσ : ∀ j x, ρ j = some x → ∃ i, atN σ j = some i ∧ ρ' i = some x) : ∀ {v : List V} {x : List Value}, LRel S w ρ v x → LRel S w ρ' (renL σ v) x
 | [], x, h => by simp only [renL, LRel] at h ⊢; exact h
 | v :: r, x, h => by
  simp only [renL, LRel] at h ⊢
  obtain ⟨y, ys, h1, h2, h3⟩ := h
  exact ⟨y, ys, h1, VRel.bwd hσ h2, LRel.bwd hσ h3⟩
end
theorem CRel.bwd {ρ' : Nat → Option Value} (hσ : ∀ j x, ρ j = some x → ∃ i, atN σ j = some i ∧ ρ' i = some x) {sz : Nat} : ∀ {v : List V} {x : List Value}, CRel S w ρ sz v x → CRel S w ρ' sz (renL σ v) x
 | [], x, h => by simp only [renL, CRel] at h ⊢; exact h
 | v :: r, x, h => by
  simp only [renL, CRel] at h ⊢
  obtain ⟨y, ys, h1, h2, h3, h4⟩ := h
  exact ⟨y, ys, h1, h2, VRel.bwd hσ h3, CRel.bwd hσ h4⟩
end
def bU (v u : V) : Prop := ∀ S w ρ x, VRel S w ρ v x → VRel S w ρ u x
theorem bU.rfl {v : V} : bU v v := fun _ _ _ _ h => h
theorem bU.np0 (i : Nat) : bU .nilp (.np i) := fun S w ρ x h => by simp only [VRel] at h ⊢; exact .inl h
theorem bU.nil (sz : Nat) : bU .nils (.row sz []) := fun S w ρ x h => by
 simp only [VRel] at h ⊢
 subst h
 exact ⟨none, 0, [], by simp, Nat.le_refl _, by decide, by simp [CRel], RowIn.none_⟩
def ak : List V → List V → Prop
 | [], us => us = []
 | v :: r, us => ∃ u q, us = u :: q ∧ bU v u ∧ ak r q
theorem ak.rel {S : Nat → Prop} {w : World} {ρ : Nat → Option Value} : ∀ {vs us : List V} {xs : List Value}, ak vs us → LRel S w ρ vs xs → LRel S w ρ us xs
 | [], us, xs, h, hl => by simp only [ak] at h; subst h; exact hl
 | v :: r, us, xs, h, hl => by
  simp only [ak] at h
  obtain ⟨u, q, rfl, h1, h2⟩ := h
  simp only [LRel] at hl ⊢
  obtain ⟨y, ys, rfl, h3, h4⟩ := hl
  exact ⟨y, ys, rfl, h1 _ _ _ _ h3, ak.rel h2 h4⟩
theorem ak.rfl : ∀ {vs : List V}, ak vs vs
 | [] => by simp [ak]
 | v :: r => ⟨v, r, by rfl, bU.rfl, ak.rfl⟩
theorem bU.agg {vs us : List V} (h : ak vs us) : bU (.agg vs) (.agg us) := fun S w ρ x hx => by
 simp only [VRel] at hx ⊢
 obtain ⟨xs, h1, h2⟩ := hx
 exact ⟨xs, h1, h.rel h2⟩
theorem ak.cons {v u : V} {r q : List V} (h : bU v u) (k : ak r q) : ak (v :: r) (u :: q) := ⟨u, q, by rfl, h, k⟩
theorem ak.nil : ak [] [] := by simp [ak]
def gK : Ob → Ob → Prop
 | _, .gone => True
 | .var t cs, .var t' cs' => t = t' ∧ ak cs cs'
 | .row e sz els, .row e' sz' els' => e = e' ∧ sz = sz' ∧ els = els'
 | .mp k e ks vs, .mp k' e' ks' vs' => k = k' ∧ e = e' ∧ ks = ks' ∧ vs = vs'
 | _, _ => False
def leF (σ : List Nat) : Fm → Fm → Prop
 | _, [] => True
 | [], none :: r' => leF σ [] r'
 | [], some _ :: _ => False
 | x :: r, none :: r' => leF σ r r'
 | x :: r, some u :: r' => (∃ v, x = some v ∧ bU v (u.ren σ)) ∧ leF σ r r'
def leH (σ : List Nat) (H : Hp) : List (Nat × Ob) → Prop
 | [] => True
 | (j, o) :: r => (∃ i, atN σ j = some i ∧ gK (H.get i) (o.ren σ)) ∧ leH σ H r
def dL : List Nat → Bool
 | [] => true
 | i :: r => !r.contains i && dL r
section
variable {P : Program} {T : Tab} {K : Ctx} {Q : Exit → Act → World → Prop} {s : List EI} {n : Nat} {F F' : Fm} {H H' : Hp} {σ : List Nat} {S : Nat → Prop} {w : World} {ρ : Nat → Option Value} {a : Act}
theorem oQ : ∀ {F F' : Fm}, leF σ F F' → ∀ i u, F'.get i = some u → ∃ v, F.get i = some v ∧ bU v (u.ren σ)
 | F, [], h, i, u, hu => by simp [Fm.get] at hu
 | [], none :: r', h, 0, u, hu => by simp [Fm.get] at hu
 | [], none :: r', h, i + 1, u, hu => by
  obtain ⟨v, h1, _⟩ := oQ (F := []) (F' := r') (by simpa [leF] using h) i u (by simpa [Fm.get] using hu)
  simp [Fm.get] at h1
 | [], some _ :: _, h, i, u, hu => by simp [leF] at h
 | x :: r, none :: r', h, 0, u, hu => by simp [Fm.get] at hu
 | x :: r, none :: r', h, i + 1, u, hu => by
  have := oQ (F := r) (F' := r') (by simpa [leF] using h) i u (by simpa [Fm.get] using hu)
  simpa [Fm.get] using this
 | x :: r, some u' :: r', h, 0, u, hu => by
  simp only [leF] at h
  simp only [Fm.get, Option.some.injEq] at hu
  subst hu
  obtain ⟨v, h1, h2⟩ := h.1
  exact ⟨v, by simp [Fm.get, h1], h2⟩
 | x :: r, some u' :: r', h, i + 1, u, hu => by
  simp only [leF] at h
  have := oQ h.2 i u (by simpa [Fm.get] using hu)
  simpa [Fm.get] using this
theorem xn (h : leF σ F F') (hl : F'.length ≤ n) (hF : FRel S w ρ a n F) : FRel S w (fd σ ρ) a n F' :=
 ⟨hF.size, hF.defers, hl, fun i u hu => by
  obtain ⟨v, h1, h2⟩ := oQ h i u hu
  obtain ⟨x, h3, h4⟩ := hF.get i v h1
  exact ⟨x, h3, (h2 _ _ _ _ h4).ren⟩⟩
theorem pJ : ∀ {l : List (Nat × Ob)}, leH σ H l → ∀ j, aM l j = .gone ∨ ∃ i, atN σ j = some i ∧ gK (H.get i) ((aM l j).ren σ)
 | [], _, j => .inl rfl
 | (k, o) :: r, h, j => by
  simp only [leH] at h
  simp only [aM]
  split
  ·rename_i hb
   have := Nat.eq_of_beq_eq_true hb
   subst this
   exact .inr h.1
  ·exact pJ h.2 j
theorem mH : ∀ {l : List Nat}, dL l = true → ∀ i j x, atN l i = some x → atN l j = some x → i = j
 | [], _, i, j, x, hi, hj => by simp [atN] at hi
 | y :: r, h, 0, 0, x, hi, hj => rfl
 | y :: r, h, 0, j + 1, x, hi, hj => by
  simp only [dL, Bool.and_eq_true, Bool.not_eq_true'] at h
  simp only [atN, Option.some.injEq] at hi hj
  subst hi
  rw [ko] at hj
  have := List.mem_of_getElem? hj
  simp [this] at h
 | y :: r, h, i + 1, 0, x, hi, hj => by
  simp only [dL, Bool.and_eq_true, Bool.not_eq_true'] at h
  simp only [atN, Option.some.injEq] at hi hj
  subst hj
  rw [ko] at hi
  have := List.mem_of_getElem? hi
  simp [this] at h
 | y :: r, h, i + 1, j + 1, x, hi, hj => by
  simp only [dL, Bool.and_eq_true] at h
  have := mH h.2 i j x (by simpa [atN] using hi) (by simpa [atN] using hj)
  omega
theorem wN {i j : Nat} {o o' : Ob} (hij : atN σ j = some i) (h : gK o (o'.ren σ)) (ho' : o' ≠ .gone) (hr : fG S w ρ i o) : fG S w (fd σ ρ) j o' ∧ ∀ b, own (fd σ ρ) j o' b → own ρ i o b := by
 have hρ : fd σ ρ j = ρ i := by simp only [fd, hij]
 cases o' with
 | gone => exact absurd rfl ho'
 | free => cases o <;> simp [Ob.ren, gK] at h
 | ext bs Φ => cases o <;> simp [Ob.ren, gK] at h
 | mp kt' et' ks' vs' =>
  cases o <;> simp only [Ob.ren, gK] at h
  rename_i kt et ks vs
  obtain ⟨rfl, rfl, rfl, rfl⟩ := h
  obtain ⟨b, es, ck, h1, h2, h3, h4⟩ := hr
  exact ⟨⟨b, es, ck, by rw [hρ]; exact h1, h2, h3, h4⟩, fun c hc => by simp only [own] at hc ⊢; rw [hρ] at hc; exact hc⟩
 | var t' cs' =>
  cases o <;> simp only [Ob.ren, gK] at h
  rename_i t cs
  obtain ⟨rfl, h⟩ := h
  obtain ⟨b, xs, h1, h2, h3⟩ := hr
  exact ⟨⟨b, xs, by rw [hρ]; exact h1, h2, (h.rel h3).ren⟩, fun c hc => by simp only [own] at hc ⊢; rw [hρ] at hc; exact hc⟩
 | row e' sz' els' =>
  cases o <;> simp only [Ob.ren, gK] at h
  rename_i e sz els
  obtain ⟨rfl, rfl, rfl⟩ := h
  obtain ⟨v, xs, h1, h2, h3⟩ := hr
  rw [po] at h2
  exact ⟨⟨v, xs, by rw [hρ]; exact h1, h2, h3.ren⟩, fun c hc => by
   obtain ⟨q, e1, e2⟩ := hc
   exact ⟨q, by rw [← hρ]; exact e1, e2⟩⟩
def aR (K : Ctx) (pv : List Nat) : Prop := ∀ id x, K.pin id = some x → id ∈ pv
def xZ (σ pv : List Nat) : Bool := pv.all fun i => match atN σ i with | some j => Nat.beq i j | none => false
theorem ta (hH : leH σ H H'.es) (hn : dL σ = true) (hlen : Nat.ble σ.length H'.nx = true) (hr : HRel S w ρ H.get) : HRel S w (fd σ ρ) H'.get ∧ ∀ j b, own (fd σ ρ) j (H'.get j) b → ∃ i, atN σ j = some i ∧ own ρ i (H.get i) b := by
 have key : ∀ j, fG S w (fd σ ρ) j (H'.get j) ∧ ∀ b, own (fd σ ρ) j (H'.get j) b → ∃ i, atN σ j = some i ∧ own ρ i (H.get i) b := fun j => by
  unfold Hp.get
  split
  ·rcases pJ hH j with e | ⟨i, h1, h2⟩
   ·rw [e]; exact ⟨trivial, fun b hb => hb.elim⟩
   ·by_cases hg : aM H'.es j = .gone
    ·rw [hg]; exact ⟨trivial, fun b hb => hb.elim⟩
    ·obtain ⟨h3, h4⟩ := wN h1 h2 hg (hr.ob i)
     exact ⟨h3, fun b hb => ⟨i, h1, h4 b hb⟩⟩
  ·rename_i hlt
   refine ⟨?_, fun b hb => hb.elim⟩
   show fd σ ρ j = none
   have hj : ¬ j < H'.nx := fun h => by rw [nlT h] at hlt; cases hlt
   have hl : σ.length ≤ H'.nx := Nat.le_of_ble_eq_true hlen
   simp only [fd, ko]
   rw [List.getElem?_eq_none (by omega)]
 refine ⟨⟨fun j => (key j).1, fun j b hb => ?_, fun i j b hbi hbj => ?_, hr.slt⟩, fun j => (key j).2⟩
 ·obtain ⟨i, _, h⟩ := (key j).2 b hb
  exact hr.sep i b h
 ·obtain ⟨i', h1, h2⟩ := (key i).2 b hbi
  obtain ⟨j', h3, h4⟩ := (key j).2 b hbj
  have := hr.dis i' j' b h2 h4
  subst this
  exact mH hn i j i' h1 h3
def EP.still : EP → Bool
 | .drw .. => false
 | _ => true
theorem go_sub {p : EP} (σ pv : List Nat) (hp : p.still = true) (hpin : aR K pv) (hF : leF σ F F') (hH : leH σ H H'.es) (hc : (dL σ && Nat.ble σ.length H'.nx && xZ σ pv && Nat.ble F'.length n) = true) (k : Go P K Q p s n F' H') : Go P K Q p s n F H := fun S w ρ a hr hi hf => by
 simp only [Bool.and_eq_true] at hc
 obtain ⟨⟨⟨h1, h2⟩, h3⟩, h4⟩ := hc
 obtain ⟨g1, g2⟩ := ta hH h1 h2 hr
 have hi' : Inv K S w (fd σ ρ) H'.get := ⟨hi.chg, hi.s0, hi.s1, fun j b hb => by obtain ⟨i, _, h⟩ := g2 j b hb; exact hi.ow i b h, fun id x hx => by
  have hm := List.all_eq_true.1 h3 id (hpin id x hx)
  simp only [fd]
  split at hm
  ·rename_i j hj
   have := Nat.eq_of_beq_eq_true hm
   subst this
   first | exact hi.pin id x hx | (rw [hj]; exact hi.pin id x hx)
  ·cases hm⟩
 have := k S w (fd σ ρ) a g1 hi' (xn hF (Nat.le_of_ble_eq_true h4) hf)
 cases p with
 | drw => cases hp
 | code c => exact this
 | ops all rest => exact this
 | ex e => exact this
def SP (K : Ctx) (Post : V → Hp → Prop) (e : Ending) (w' : World) : Prop :=
 ∃ x S' ρ' v H', e = .returned x ∧ Post v H' ∧ HRel S' w' ρ' H'.get ∧ Inv K S' w' ρ' H'.get ∧ VRel S' w' ρ' v x
def gE (PL : List Nat) (i : Nat) : Ob → Bool
 | .var _ _ => true
 | .ext _ _ => true
 | .mp _ _ _ _ => true
 | .row _ _ _ => PL.contains i
 | _ => false
def ng (PL : List Nat) (h : Nat → Ob) (ρ : Nat → Option Value) : Nat → Option Value := fun i => match gE PL i (h i) with
 | true => ρ i
 | false => none
def bW (PL : List Nat) (P : Program) (fid : FuncId) (vs : List V) (H0 : Hp) (Post : V → Hp → Prop) : Prop :=
 ∀ S w ρ xs, HRel S w ρ H0.get → LRel S w ρ vs xs → Calls P fid xs.toArray w (SP ⟨w, S, fun b => ∃ id, own ρ id (H0.get id) b, ng PL H0.get ρ⟩ Post)
abbrev Sum (P : Program) (fid : FuncId) (vs : List V) (H0 : Hp) (Post : V → Hp → Prop) : Prop := bW [] P fid vs H0 Post
theorem az {PL : List Nat} {fid : FuncId} {fn : Func} {c : Code} {vs : List V} {H0 : Hp} {Post : V → Hp → Prop} (N : Nat) (pv : List Nat) (hf : P.funcs[fid]? = some fn) (hb : fn.body = some c) (hN : fn.ntmps = N) (hl : Nat.ble vs.length N = true) (hpv : ∀ i, gE PL i (H0.get i) = true → i ∈ pv)
  (k : ∀ K, aR K pv → Go P K (bodyPost P fn (SP K Post)) (.code c) [] N (kW N vs) H0) : bW PL P fid vs H0 Post := fun S w ρ xs hr hx => by
 subst hN
 have hi : Inv ⟨w, S, fun b => ∃ id, own ρ id (H0.get id) b, ng PL H0.get ρ⟩ S w ρ H0.get := ⟨ChgP.refl _ _, fun _ h => h, fun _ h => .inl h, fun id b hb => .inl ⟨id, hb⟩, fun id x h => by
  simp only [ng] at h
  split at h
  ·exact h
  ·cases h⟩
 refine xQ hf hb hl hr hi hx (k _ fun id x h => hpv id ?_)
 simp only [ng] at h
 split at h
 ·assumption
 ·cases h
theorem go_end (hT : TabOk P T) {fn : Func} {Post : V → Hp → Prop} {rs : List ResultVar} {vs : List V} {e : Exit} (hrs : fn.results = rs.toArray) (hv : pU T H.get F rs = some vs) (hP : Post (ra vs) H) (he : e = .ret ∨ e = .normal := by first | exact .inl rfl | exact .inr rfl) : Go P K (bodyPost P fn (SP K Post)) (.ex e) [] n F H := fun S w ρ a hr hi hF =>
 ret_go hT he hrs hr hF hv fun x hx => ⟨x, S, ρ, _, H, rfl, hP, hr, hi, hx⟩
theorem Sum.mono {PL : List Nat} {fid : FuncId} {vs : List V} {H0 : Hp} {Post Post' : V → Hp → Prop} (h : bW PL P fid vs H0 Post) (hp : ∀ v H, Post v H → Post' v H) : bW PL P fid vs H0 Post' := fun S w ρ xs hr hx => (h S w ρ xs hr hx).mono fun e w' ⟨x, S', ρ', v, H', h1, h2, h3⟩ => ⟨x, S', ρ', v, H', h1, hp v H' h2, h3⟩
theorem Sum.sub {PL : List Nat} {fid : FuncId} {vs us : List V} {H0 : Hp} {Post : V → Hp → Prop} (h : bW PL P fid us H0 Post) (hs : ak vs us) : bW PL P fid vs H0 Post := fun S w ρ xs hr hx => h S w ρ xs hr (hs.rel hx)
end
def iT : List Nat → Nat → Option Nat
 | [], _ => none
 |x :: r, i => match Nat.beq x i with
  | true => some 0
  |false => match iT r i with
   | some j => some (j + 1)
   | none => none
theorem gi : ∀ {l : List Nat} {i j : Nat}, iT l i = some j → atN l j = some i
 | [], i, j, h => by cases h
 | x :: r, i, j, h => by
  simp only [iT] at h
  split at h
  ·rename_i hb
   have := Nat.eq_of_beq_eq_true hb
   injection h with h; subst h; subst this; rfl
  ·split at h
   ·rename_i j' hj
    injection h with h; subst h
    simpa [atN] using gi hj
   ·cases h
theorem rn : ∀ {l : List Nat} {i : Nat}, iT l i = none → ∀ j, atN l j ≠ some i
 | [], i, h, j => by simp [atN]
 | x :: r, i, h, 0 => by
  simp only [iT] at h
  split at h
  ·cases h
  ·rename_i hb
   simp only [atN, ne_eq, Option.some.injEq]
   exact Nat.ne_of_beq_eq_false hb
 | x :: r, i, h, j + 1 => by
  simp only [iT] at h
  split at h
  ·cases h
  ·split at h
   ·cases h
   ·rename_i hn
    simpa [atN] using rn hn j
theorem yj {l : List Nat} (hn : dL l = true) {i j : Nat} (h : atN l j = some i) : iT l i = some j := by
 cases hi : iT l i with
 | none => exact absurd h (rn hi j)
 | some k => rw [mH hn k j i (gi hi) h]
def sgN (PL : List Nat) (nx : Nat) (h0 : Nat → Ob) : Nat → List Nat → Nat → List Nat
 | 0, _, _ => []
 |m + 1, σ, j => match σ with
  | [] => (nx + j) :: sgN PL nx h0 m [] (j + 1)
  | i :: r => (match gE PL j (h0 j) with | true => i | false => nx + j) :: sgN PL nx h0 m r (j + 1)
theorem qZ (PL : List Nat) (nx : Nat) (h0 : Nat → Ob) : ∀ (m : Nat) (σ : List Nat) (j : Nat), (sgN PL nx h0 m σ j).length = m
 | 0, _, _ => rfl
 | m + 1, [], j => by simp [sgN, qZ PL nx h0 m]
 | m + 1, i :: r, j => by simp [sgN, qZ PL nx h0 m]
theorem sI (PL : List Nat) (nx : Nat) (h0 : Nat → Ob) : ∀ (m : Nat) (σ : List Nat) (j k : Nat), k < m → atN (sgN PL nx h0 m σ j) k = some (match atN σ k, gE PL (j + k) (h0 (j + k)) with | some i, true => i | _, _ => nx + (j + k))
 | 0, _, _, k, h => by omega
 | m + 1, [], j, 0, h => by simp [sgN, atN]
 | m + 1, [], j, k + 1, h => by
  have := sI PL nx h0 m [] (j + 1) k (by omega)
  simp only [sgN, atN] at this ⊢
  rw [this]
  simp only [show j + 1 + k = j + (k + 1) by omega]
 | m + 1, i :: r, j, 0, h => by
  simp only [sgN, atN, Nat.add_zero]
  cases gE PL j (h0 j) <;> rfl
 | m + 1, i :: r, j, k + 1, h => by
  have := sI PL nx h0 m r (j + 1) k (by omega)
  simp only [sgN, atN] at this ⊢
  rw [this]
  simp only [show j + 1 + k = j + (k + 1) by omega]
def oK (σ : List Nat) : List (Nat × Ob) → List (Nat × Ob)
 | [] => []
 |(j, o) :: r => match atN σ j with
  | some i => (i, o.ren σ) :: oK σ r
  | none => oK σ r
def mu (σ : List Nat) (nx : Nat) : List (Nat × Ob) → List (Nat × Ob)
 | [] => []
 |(j, o) :: r => match !σ.contains j && Nat.blt j nx with
  |true => match o with
   | .free => (j, .gone) :: mu σ nx r
   | o => (j, o) :: mu σ nx r
  | false => mu σ nx r
def js (PL : List Nat) (H : Hp) (σ : List Nat) (H0 H' : Hp) : Hp := ⟨H.nx + H'.nx, oK (sgN PL H.nx H0.get H'.nx σ 0) H'.es ++ mu σ H.nx H.es⟩
theorem rl {σ : List Nat} (hn : dL σ = true) {i : Nat} : ∀ {l : List (Nat × Ob)}, aM (oK σ l) i = match iT σ i with | some j => (aM l j).ren σ | none => .gone
 | [] => by simp only [oK, aM]; cases iT σ i <;> rfl
 | (k, o) :: r => by
  have ih := rl hn (i := i) (l := r)
  simp only [oK]
  split
  ·rename_i i' hi'
   simp only [aM]
   by_cases e : i' = i
   ·subst e
    rw [nbT, yj hn hi']
    simp only [nbT]
   ·rw [nbF e, ih]
    cases hj : iT σ i with
    | none => rfl
    | some j =>
     have hne : k ≠ j := fun e' => by subst e'; rw [gi hj] at hi'; injection hi' with h; exact e h.symm
     simp only [nbF hne]
  ·rename_i hk
   rw [ih]
   cases hj : iT σ i with
   | none => rfl
   | some j =>
    have hne : k ≠ j := fun e' => by subst e'; rw [gi hj] at hk; cases hk
    simp only [aM, nbF hne]
theorem rC {σ : List Nat} {nx i : Nat} : ∀ {l : List (Nat × Ob)}, aM (mu σ nx l) i = .gone ∨ (aM (mu σ nx l) i = aM l i ∧ σ.contains i = false ∧ i < nx ∧ aM l i ≠ .free)
 | [] => .inl rfl
 | (k, o) :: r => by
  have ih := rC (σ := σ) (nx := nx) (i := i) (l := r)
  simp only [mu]
  by_cases hk : k = i
  ·subst hk
   cases hc : (!σ.contains k && Nat.blt k nx)
   ·simp only
    -- none of the entries for k is kept
    left
    have key : ∀ (l : List (Nat × Ob)), aM (mu σ nx l) k = .gone := by
     intro l
     induction l with
     | nil => rfl
     | cons q t ih =>
      obtain ⟨m, o'⟩ := q
      simp only [mu]
      by_cases hm : m = k
      ·subst hm; rw [hc]; exact ih
      ·cases hc' : (!σ.contains m && Nat.blt m nx)
       ·exact ih
       ·cases o' <;> (simp only [aM, nbF hm]; exact ih)
    exact key r
   ·simp only [Bool.and_eq_true, Bool.not_eq_true'] at hc
    have hlt : k < nx := by simpa [Nat.blt_eq] using hc.2
    cases o with
    | free => left; simp only [aM, nbT]
    | gone => left; simp only [aM, nbT]
    | var t cs => right; simp only [aM, nbT]; exact ⟨trivial, hc.1, hlt, by simp⟩
    | row e sz els => right; simp only [aM, nbT]; exact ⟨trivial, hc.1, hlt, by simp⟩
    | ext bs Φ => right; simp only [aM, nbT]; exact ⟨trivial, hc.1, hlt, by simp⟩
    | mp kt et ks vs => right; simp only [aM, nbT]; exact ⟨trivial, hc.1, hlt, by simp⟩
  ·have e2 : aM ((k, o) :: r) i = aM r i := by simp only [aM, nbF hk]
   rw [e2]
   cases hc : (!σ.contains k && Nat.blt k nx)
   ·exact ih
   ·cases o <;> (simp only [aM, nbF hk]; exact ih)
theorem ov : ∀ {l : List Nat}, (∀ i j x, atN l i = some x → atN l j = some x → i = j) → dL l = true
 | [], _ => rfl
 | y :: r, h => by
  simp only [dL, Bool.and_eq_true, Bool.not_eq_true']
  refine ⟨?_, ov fun i j x hi hj => by have := h (i + 1) (j + 1) x (by simpa [atN] using hi) (by simpa [atN] using hj); omega⟩
  cases hc : r.contains y
  ·rfl
  ·exfalso
   have hm : y ∈ r := by simpa using hc
   obtain ⟨k, hk, e⟩ := List.getElem_of_mem hm
   have := h 0 (k + 1) y (by simp [atN]) (by simp only [atN, ko]; rw [List.getElem?_eq_getElem hk, e])
   omega
section
variable {P : Program} {K : Ctx} {H H0 : Hp} {σ : List Nat} {S : Nat → Prop} {w : World}
theorem zZ {ρ ρ' : Nat → Option Value} {i j : Nat} {o : Ob} (hσ : ∀ j x, ρ j = some x → ∃ i, atN σ j = some i ∧ ρ' i = some x) (hj : atN σ j = some i) (hnn : ρ j = none → ρ' i = none ∨ o ≠ .free) (h : fG S w ρ j o) : fG S w ρ' i (o.ren σ) ∧ ∀ b, own ρ' i (o.ren σ) b → own ρ j o b := by
 have hs : ∀ x, ρ j = some x → ρ' i = some x := fun x hx => by
  obtain ⟨i', h1, h2⟩ := hσ j x hx
  rw [hj] at h1; injection h1 with h1; subst h1; exact h2
 cases o with
 | free => exact ⟨(hnn h).resolve_right (by simp), fun b hb => hb⟩
 | gone => exact ⟨trivial, fun b hb => hb⟩
 | ext bs Φ => exact ⟨h, fun b hb => hb⟩
 | mp kt et ks vs =>
  obtain ⟨b, es, ck, h1, h2, h3⟩ := h
  refine ⟨⟨b, es, ck, hs _ h1, h2, h3⟩, fun c hc => ?_⟩
  simp only [Ob.ren, own] at hc ⊢
  rw [hs _ h1] at hc; rw [h1]; exact hc
 | var t cs =>
  obtain ⟨b, xs, h1, h2, h3⟩ := h
  refine ⟨⟨b, xs, hs _ h1, h2, h3.bwd hσ⟩, fun c hc => ?_⟩
  simp only [Ob.ren, own] at hc ⊢
  rw [hs _ h1] at hc; rw [h1]; exact hc
 | row e sz els =>
  obtain ⟨v, xs, h1, h2, h3⟩ := h
  refine ⟨⟨v, xs, hs _ h1, by rw [po]; exact h2, h3.bwd hσ⟩, fun c hc => ?_⟩
  obtain ⟨q, e1, e2⟩ := hc
  rw [hs _ h1] at e1
  cases e1
  exact ⟨v, h1, e2⟩
theorem pw {PL : List Nat} {fid : FuncId} {vs us : List V} {Post : V → Hp → Prop} (hS : bW PL P fid us H0 Post) (σ : List Nat) (hv : ak vs (renL σ us)) (hH : leH σ H H0.es) (hc : (dL σ && Nat.beq σ.length H0.nx && σ.all fun i => Nat.blt i H.nx) = true) (L : List Nat) (hL : (eP H.get L && L.all fun i => !σ.contains i) = true) :
  CallR P K fid vs H L (fun v' H'' => ∃ v H', Post v H' ∧ v' = v.ren (sgN PL H.nx H0.get H'.nx σ 0) ∧ H'' = js PL H σ H0 H') := fun S w ρ xs hr hi hx => by
 simp only [Bool.and_eq_true] at hc hL
 obtain ⟨⟨hc1, hc2⟩, hc3⟩ := hc
 have hlen : σ.length = H0.nx := by simpa using hc2
 have hσlt : ∀ j i, atN σ j = some i → i < H.nx := fun j i h => by
  rw [ko] at h
  have := List.all_eq_true.1 hc3 i (List.mem_of_getElem? h)
  simpa [Nat.blt_eq] using this
 obtain ⟨g1, g2⟩ := ta (H' := H0) hH hc1 (by simp [hlen]) hr
 refine (hS S w (fd σ ρ) xs g1 ((hv.rel hx).ren)).mono fun e w' hR => ?_
 obtain ⟨x, S', ρ1, v, H', rfl, hP, hr', hi', hvr⟩ := hR
 obtain ⟨τ, hτ⟩ : ∃ τ, τ = sgN PL H.nx H0.get H'.nx σ 0 := ⟨_, rfl⟩
 have hτlen : τ.length = H'.nx := by rw [hτ]; exact qZ _ _ _ _ _ _
 have hτat : ∀ j, j < H'.nx → atN τ j = some (match atN σ j, gE PL j (H0.get j) with | some i, true => i | _, _ => H.nx + j) := fun j hj => by
  rw [hτ, sI _ _ _ _ _ _ _ hj]; simp only [Nat.zero_add]
 have hτlt : ∀ j i, atN τ j = some i → j < H'.nx := fun j i h => by
  rw [ko] at h
  have := (List.getElem?_eq_some_iff.1 h).1
  omega
 have hτc : ∀ j i, atN τ j = some i → (atN σ j = some i ∧ gE PL j (H0.get j) = true) ∨ i = H.nx + j := fun j i h => by
  have hj := hτlt j i h
  rw [hτat j hj] at h
  simp only [Option.some.injEq] at h
  cases h1 : atN σ j with
  | none => rw [h1] at h; exact .inr h.symm
  | some i1 =>
   rw [h1] at h
   cases h2 : gE PL j (H0.get j)
   ·rw [h2] at h; exact .inr h.symm
   ·rw [h2] at h; simp only at h; subst h; exact .inl ⟨rfl, rfl⟩
 have hτbd : ∀ j i, atN τ j = some i → i < H.nx + H'.nx := fun j i h => by
  have hj := hτlt j i h
  rcases hτc j i h with ⟨h1, _⟩ | h1
  ·have := hσlt j i h1; omega
  ·omega
 have hτinj : dL τ = true := ov fun j k i h1 h2 => by
  rcases hτc j i h1 with ⟨a1, _⟩ | a1 <;> rcases hτc k i h2 with ⟨a2, _⟩ | a2
  ·exact mH hc1 j k i a1 a2
  ·have := hσlt j i a1; omega
  ·have := hσlt k i a2; omega
  ·omega
 have hfreeρ : ∀ i, H.nx ≤ i → ρ i = none := fun i hi' => by
  have := hr.ob i
  have e : H.get i = .free := by
   unfold Hp.get
   have : Nat.blt i H.nx = false := by cases hb : Nat.blt i H.nx; rfl; simp [Nat.blt_eq] at hb; omega
   rw [this]
  rw [e] at this; exact this
 have hfree1 : ∀ j, H'.nx ≤ j → ρ1 j = none := fun j hj => by
  have := hr'.ob j
  have e : H'.get j = .free := by
   unfold Hp.get
   have : Nat.blt j H'.nx = false := by cases hb : Nat.blt j H'.nx; rfl; simp [Nat.blt_eq] at hb; omega
   rw [this]
  rw [e] at this; exact this
 obtain ⟨ρ2, hρ2⟩ : ∃ ρ2 : Nat → Option Value, ρ2 = fun i => if i < H.nx then ρ i else ρ1 (i - H.nx) := ⟨_, rfl⟩
 have hup : ∀ i y, ρ i = some y → ρ2 i = some y := fun i y h => by
  by_cases hlt : i < H.nx
  ·rw [hρ2]; simp only [hlt, if_true]; exact h
  ·rw [hfreeρ i (by omega)] at h; cases h
 have hpin : ∀ j, gE PL j (H0.get j) = true → ∀ y, fd σ ρ j = some y → ρ1 j = some y := fun j hv y h => hi'.pin j y (by simp only [ng, hv]; exact h)
 have hnoext : ∀ j i, atN σ j = some i → ∀ bs Φ, H0.get j = .ext bs Φ → False := fun j i h1 bs Φ hy' => by
  have hl := pJ hH j
  have hlt : j < H0.nx := by
   rw [← hlen]
   rw [ko] at h1
   exact (List.getElem?_eq_some_iff.1 h1).1
  have e0 : H0.get j = aM H0.es j := by unfold Hp.get; rw [nlT hlt]
  rw [← e0, hy'] at hl
  rcases hl with hl | ⟨i', _, hl⟩
  ·cases hl
  ·cases ho : H.get i' <;> rw [ho] at hl <;> simp [Ob.ren, gK] at hl
 have hτρ : ∀ j y, ρ1 j = some y → ∃ i, atN τ j = some i ∧ ρ2 i = some y := fun j y h => by
  have hj : j < H'.nx := by
   rcases Nat.lt_or_ge j H'.nx with h1 | h1
   ·exact h1
   ·rw [hfree1 j h1] at h; cases h
  obtain ⟨i, hji⟩ : ∃ i, atN τ j = some i := ⟨_, hτat j hj⟩
  refine ⟨i, hji, ?_⟩
  rcases hτc j i hji with ⟨h1, h2⟩ | h1
  · -- a variable keeps its place
   have hob := g1.ob j
   have hsome : ∃ y', fd σ ρ j = some y' ∨ ∃ bs Φ, H0.get j = .ext bs Φ := by
    cases ho : H0.get j with
    | var t cs => rw [ho] at hob; obtain ⟨b, _, hb, _⟩ := hob; exact ⟨_, .inl hb⟩
    | row e sz els => rw [ho] at hob; obtain ⟨b, _, hb, _⟩ := hob; exact ⟨_, .inl hb⟩
    | ext bs Φ => exact ⟨.bool true, .inr ⟨bs, Φ, rfl⟩⟩
    | mp kt et ks vs => rw [ho] at hob; obtain ⟨b, _, _, hb, _⟩ := hob; exact ⟨_, .inl hb⟩
    | _ => rw [ho] at h2; cases h2
   obtain ⟨y', hy' | ⟨bs, Φ, hy'⟩⟩ := hsome
   ·have := hpin j h2 y' hy'
    rw [h] at this; injection this with this; subst this
    simp only [fd, h1] at hy'
    exact hup _ _ hy'
   ·exact (hnoext j i h1 bs Φ hy').elim
  ·subst h1
   rw [hρ2]
   simp only [show ¬ H.nx + j < H.nx by omega, if_false, Nat.add_sub_cancel_left]
   exact h
 -- the call's objects under the caller's numbers
 obtain ⟨h1', hh1'⟩ : ∃ h1' : Nat → Ob, h1' = fun i => match iT τ i with | some j => (H'.get j).ren τ | none => if i < H.nx + H'.nx then .gone else .free := ⟨_, rfl⟩
 obtain ⟨h1, hh1⟩ : ∃ h1 : Nat → Ob, h1 = fun i => match σ.contains i with | true => H.get i | false => .gone := ⟨_, rfl⟩
 have hin : ∀ i, h1 i = H.get i ∨ h1 i = .gone := fun i => by rw [hh1]; simp only []; cases σ.contains i <;> simp
 have hkey : ∀ i, fG S' w' ρ2 i (h1' i) ∧ ∀ b, own ρ2 i (h1' i) b → ∃ j, iT τ i = some j ∧ own ρ1 j (H'.get j) b := fun i => by
  rw [hh1']
  simp only []
  cases hj : iT τ i with
  | none =>
   simp only []
   split
   ·exact ⟨trivial, fun b hb => hb.elim⟩
   ·rename_i hlt
    refine ⟨?_, fun b hb => hb.elim⟩
    show ρ2 i = none
    rw [hρ2]
    simp only [show ¬ i < H.nx by omega, if_false]
    exact hfree1 _ (by omega)
  | some j =>
   have hat := gi hj
   obtain ⟨k1, k2⟩ := zZ hτρ hat (fun hn => by
    have hjl := hτlt j i hat
    by_cases hf : H'.get j = .free
    ·left
     rcases hτc j i hat with ⟨a1, a2⟩ | a1
     · -- a variable is not free
      have hob := g1.ob j
      exfalso
      cases ho : H0.get j with
      | var t cs =>
       rw [ho] at hob; obtain ⟨b, _, hb, _⟩ := hob
       have := hpin j a2 _ hb
       rw [hn] at this; cases this
      | row e sz els =>
       rw [ho] at hob; obtain ⟨b, _, hb, _⟩ := hob
       have := hpin j a2 _ hb
       rw [hn] at this; cases this
      | ext bs Φ => exact hnoext j i a1 bs Φ ho
      | mp kt et ks vs =>
       rw [ho] at hob; obtain ⟨b, _, _, hb, _⟩ := hob
       have := hpin j a2 _ hb
       rw [hn] at this; cases this
      | _ => rw [ho] at a2; cases a2
     ·subst a1
      rw [hρ2]
      simp only [show ¬ H.nx + j < H.nx by omega, if_false, Nat.add_sub_cancel_left]
      exact hn
    ·exact .inr hf) (hr'.ob j)
   exact ⟨k1, fun b hb => ⟨j, rfl, k2 b hb⟩⟩
 have hX : ∀ b, (∃ id, own (fd σ ρ) id (H0.get id) b) → ∃ id, own ρ id (h1 id) b := fun b ⟨id, hb⟩ => by
  obtain ⟨i, h2, h3⟩ := g2 id b hb
  refine ⟨i, ?_⟩
  have hm : σ.contains i = true := by
   rw [ko] at h2
   simpa using List.mem_of_getElem? h2
  rw [hh1]; simp only [hm]; exact h3
 have hrel1 : HRel S' w' ρ2 h1' := ⟨fun i => (hkey i).1, fun i b hb => by obtain ⟨j, _, h⟩ := (hkey i).2 b hb; exact hr'.sep j b h, fun i k b hbi hbk => by
  obtain ⟨j, e1, h1⟩ := (hkey i).2 b hbi
  obtain ⟨j', e2, h2⟩ := (hkey k).2 b hbk
  have := hr'.dis j j' b h1 h2
  subst this
  have a1 := gi e1
  have a2 := gi e2
  rw [a1] at a2; injection a2, hr'.slt⟩
 have hinv1 : Inv ⟨w, S, fun b => ∃ id, own ρ id (h1 id) b, ρ⟩ S' w' ρ2 h1' := ⟨hi'.chg.mono hX, hi'.s0, fun b hb => by
  rcases hi'.s1 b hb with h | h | h
  ·exact .inl h
  ·exact .inr (.inl (hX b h))
  ·exact .inr (.inr h), fun i b hb => by
  obtain ⟨j, _, h⟩ := (hkey i).2 b hb
  rcases hi'.ow j b h with h | h
  ·exact .inl (hX b h)
  ·exact .inr h, fun id y h => hup id y h⟩
 have hh2 : ∀ i, ((js PL H σ H0 H').get i = h1' i ∨ (js PL H σ H0 H').get i = .gone) ∨ ((js PL H σ H0 H').get i = H.get i ∧ h1 i = .gone ∧ H.get i ≠ .free) := fun i => by
  by_cases hlt : i < H.nx + H'.nx
  ·have e0 : (js PL H σ H0 H').get i = aM (oK τ H'.es ++ mu σ H.nx H.es) i := by
    unfold Hp.get js
    simp only [nlT hlt, hτ]
   rw [e0]
   rcases wD (oK τ H'.es) (mu σ H.nx H.es) i with e | ⟨_, e⟩
   ·rw [e, rl hτinj]
    cases hj : iT τ i with
    | none => exact .inl (.inr rfl)
    | some j =>
     left; left
     rw [hh1']
     simp only [hj]
     have hjl := hτlt j i (gi hj)
     unfold Hp.get
     rw [nlT hjl]
   ·rw [e]
    rcases rC (σ := σ) (nx := H.nx) (i := i) (l := H.es) with e1 | ⟨e1, e2, e3, e4⟩
    ·exact .inl (.inr e1)
    ·right
     have eH : H.get i = aM H.es i := by unfold Hp.get; rw [nlT e3]
     refine ⟨by rw [e1, eH], ?_, by rw [eH]; exact e4⟩
     rw [hh1]; simp only [e2]
  ·left; left
   have e0 : (js PL H σ H0 H').get i = .free := by
    unfold Hp.get js
    have : Nat.blt i (H.nx + H'.nx) = false := by cases hb : Nat.blt i (H.nx + H'.nx); rfl; simp [Nat.blt_eq] at hb; omega
    simp only [this]
   rw [e0, hh1']
   simp only []
   cases hj : iT τ i with
   | none => simp only [hlt, if_false]
   | some j => have := hτbd j i (gi hj); omega
 obtain ⟨m1, m2, m3, m4⟩ := xR (h2 := (js PL H σ H0 H').get) hr hi hin hrel1 hinv1 hh2
 refine ⟨x, S', ρ2, _, _, rfl, ⟨v, H', hP, rfl, rfl⟩, m1, m2, m3, by rw [← hτ]; exact hvr.bwd hτρ, m4 L hL.1 fun id hid => ?_⟩
 have := List.all_eq_true.1 hL.2 id hid
 simp only [Bool.not_eq_true'] at this
 rw [hh1]; simp only [this]
end
section
variable (T : Tab)
def opS (F : Fm) (H : Hp) (o : Oper) {α : Type} (c : Fm → Hp → Option α) : Option α :=
 match nT T H.get F o.op with
 | some v => F.puto o.dst (some v) fun F' => c F' H
 |none => match lM T H.get F H.nx o.op with
  |some (v, ed) => H.ap ed fun H' => match v with
   | some v => F.puto o.dst (some v) fun F' => c F' H'
   | none => F.puto o.dst (some (.tup [])) fun F' => c F' H'
  | none => none
def fu : Nat → EP → List EI → Fm → Hp → Option (EP × List EI × Fm × Hp)
 | 0, p, s, F, H => some (p, s, F, H)
 |k + 1, .code c, s, F, H => match c with
  | .seq x y => fu k (.code x) (.seq y :: s) F H
  | .block id c => fu k (.code c) (.blk id :: s) F H
  | .skip => fu k (.ex .normal) s F H
  | .ret => fu k (.ex .ret) s F H
  | .exit id => fu k (.ex (.exit id)) s F H
  |.cond c x y => match bd F c with
   | some (.bool true) => fu k (.code x) s F H
   | some (.bool false) => fu k (.code y) s F H
   | _ => none
  | .region _ ⟨l⟩ false => fu k (.ops ⟨l⟩ l) s F H
  | _ => none
 |k + 1, .ops all rest, s, F, H => match rest with
  | [] => fu k (.ex .normal) s F H
  |o :: r => match cr F all o.guard with
   | some true => opS T F H o fun F' H' => fu k (.ops all r) s F' H'
   | some false => F.puto o.dst (some (.tup [])) fun F' => fu k (.ops all r) s F' H
   | none => none
 |k + 1, .ex e, s, F, H => match s with
  | [] => none
  |.seq c :: s => match e with
   | .normal => fu k (.code c) s F H
   | .exit i => fu k (.ex (.exit i)) s F H
   | .ret => fu k (.ex .ret) s F H
   | _ => none
  |.blk id :: s => match e with
   | .normal => fu k (.ex .normal) s F H
   |.exit i => match Nat.beq i id with
    | true => fu k (.ex .normal) s F H
    | false => fu k (.ex (.exit i)) s F H
   | .ret => fu k (.ex .ret) s F H
   | _ => none
  | _ => none
 | k + 1, .drw .., _, _, _ => none
def li (all : Array Oper) (L : List Nat) : List (Nat × Nat) → Fm → Hp → Option (Fm × Hp)
 | [], F, H => some (F, H)
 |(i, f) :: r, F, H => match all[i]? with
  |some o => match cr F all o.guard with
   | some false => F.puto o.dst (some (.tup [])) fun F' => li all L r F' H
   |some true => match f with
    |2 => match nT T H.get F o.op with
     | some v => F.puto o.dst (some v) fun F' => li all L r F' H
     | none => none
    |3 => match qj F o.op with
     |some id => match L.contains id with
      |true => match lM T H.get F H.nx o.op with
       | some (some v, _) => F.puto o.dst (some v) fun F' => li all L r F' H
       | _ => none
      | false => none
     | none => none
    |f => match nT T H.get F o.op with
     | some v => F.puto o.dst (some v) fun F' => li all L r F' H
     |none => match lM T H.get F H.nx o.op with
      |some (v, ed) => match (eP H.get L && ed.clear L) || Nat.beq f 1 with
       |true => H.ap ed fun H' => match v with
        | some v => F.puto o.dst (some v) fun F' => li all L r F' H'
        | none => F.puto o.dst (some (.tup [])) fun F' => li all L r F' H'
       | false => none
      | none => none
   | none => none
  | none => none
end
def uC (all : Array Oper) (m : Nat) : List (Nat × Nat) → Array Bool → Bool
 | [], _ => true
 |(i, f) :: r, listed => (match f with
  | 2 => !Nat.beq i m && Region.free .any all listed i && (Region.ready .any all listed).contains i
  | 3 => !Nat.beq i m && Region.free .any all listed i && (Region.ready .any all listed).contains i && rS .any all m i && !listed.getD m false
  | 1 => (match Region.ready .any all listed with | [j] => Nat.beq i j | _ => false) && (listed.setIfInBounds i true).getD m false
  | _ => (match Region.ready .any all listed with | [j] => Nat.beq i j | _ => false)) && uC all m r (listed.setIfInBounds i true)
def wR : List (Nat × Nat) → Array Bool → Array Bool
 | [], l => l
 | (i, _) :: r, l => wR r (l.setIfInBounds i true)
section
variable {P : Program} {T : Tab} {K : Ctx} {Q : Exit → Act → World → Prop} {p p' : EP} {s s' : List EI} {n : Nat} {F F' F1 F2 : Fm} {H H' H1 : Hp}
theorem Ab (hT : TabOk P T) {all : Array Oper} {rest : List Oper} {o : Oper} {α : Type} {c : Fm → Hp → Option α} {x : α} (hw : cr F all o.guard = some true) (h : opS T F H o c = some x) : ∃ F' H', c F' H' = some x ∧ (Go P K Q (.ops all rest) s n F' H' → Go P K Q (.ops all (o :: rest)) s n F H) := by
 unfold opS at h
 split at h
 ·rename_i v hv
  rw [Fm.puto_eq] at h
  exact ⟨_, _, h, fun k => go_opP hT hw hv k⟩
 ·split at h
  ·rename_i v ed hv
   rw [Hp.ap_eq] at h
   cases v with
   | none =>
    simp only [Fm.puto_eq] at h
    exact ⟨_, _, h, fun k => go_opE hT hw hv k⟩
   | some v =>
    simp only [Fm.puto_eq] at h
    exact ⟨_, _, h, fun k => go_opE hT hw hv k⟩
  ·cases h
theorem dw (hT : TabOk P T) : ∀ (k : Nat) (p : EP) (s : List EI) (F : Fm) (H : Hp), fu T k p s F H = some (p', s', F', H') → Go P K Q p' s' n F' H' → Go P K Q p s n F H
 | 0, p, s, F, H, h, kk => by
  simp only [fu, Option.some.injEq, Prod.mk.injEq] at h
  obtain ⟨rfl, rfl, rfl, rfl⟩ := h
  exact kk
 | k + 1, .code c, s, F, H, h, kk => by
  unfold fu at h
  split at h
  ·exact Ap (dw hT k _ _ _ _ h kk)
  ·exact xu (dw hT k _ _ _ _ h kk)
  ·exact yp (dw hT k _ _ _ _ h kk)
  ·exact go_ret (dw hT k _ _ _ _ h kk)
  ·exact za (dw hT k _ _ _ _ h kk)
  ·split at h
   ·exact xe ‹_› (dw hT k _ _ _ _ h kk)
   ·exact wH ‹_› (dw hT k _ _ _ _ h kk)
   ·cases h
  ·exact go_region (dw hT k _ _ _ _ h kk)
  ·cases h
 | k + 1, .ops all rest, s, F, H, h, kk => by
  unfold fu at h
  split at h
  ·exact zh (dw hT k _ _ _ _ h kk)
  ·split at h
   ·obtain ⟨F1, H1, h1, h2⟩ := Ab (P := P) (K := K) (Q := Q) (s := s) (n := n) hT ‹_› h
    exact h2 (dw hT k _ _ _ _ h1 kk)
   ·rw [Fm.puto_eq] at h
    exact zX ‹_› (dw hT k _ _ _ _ h kk)
   ·cases h
 | k + 1, .ex e, s, F, H, h, kk => by
  unfold fu at h
  split at h
  ·cases h
  ·split at h
   ·exact yZ (dw hT k _ _ _ _ h kk)
   ·exact xl (dw hT k _ _ _ _ h kk)
   ·exact xg (dw hT k _ _ _ _ h kk)
   ·cases h
  ·split at h
   ·exact xb (dw hT k _ _ _ _ h kk)
   ·split at h
    ·exact wQ ‹_› (dw hT k _ _ _ _ h kk)
    ·exact wS ‹_› (dw hT k _ _ _ _ h kk)
   ·exact xr (dw hT k _ _ _ _ h kk)
   ·cases h
  ·cases h
 | k + 1, .drw .., s, F, H, h, kk => by simp [fu] at h
variable {all : Array Oper} {rest : List Oper} {o : Oper} {L : List Nat} {m fuel : Nat} {listed : Array Bool}
theorem rI {i : Nat} (h : (match Region.ready .any all listed with | [j] => Nat.beq i j | _ => false) = true) : Region.ready .any all listed = [i] := by
 split at h
 ·rename_i j hj
  rw [hj, Nat.eq_of_beq_eq_true h]
 ·cases h
theorem jE (hT : TabOk P T) : ∀ (is : List (Nat × Nat)) (fuel : Nat) (listed : Array Bool) (F : Fm) (H : Hp), uC all m is listed = true → li T all L is F H = some (F', H') → Go P K Q (.drw all L m fuel (wR is listed)) s n F' H' → Go P K Q (.drw all L m (fuel + is.length) listed) s n F H
 | [], fuel, listed, F, H, hc, hr, k => by
  simp only [li, Option.some.injEq, Prod.mk.injEq] at hr
  obtain ⟨rfl, rfl⟩ := hr
  exact k
 | (i, f) :: r, fuel, listed, F, H, hc, hr, k => by
  simp only [uC, Bool.and_eq_true] at hc
  obtain ⟨hc1, hc2⟩ := hc
  show Go P K Q (.drw all L m (fuel + r.length + 1) listed) s n F H
  unfold li at hr
  split at hr
  ·rename_i o ho
   split at hr
   ·rename_i hw
    rw [Fm.puto_eq] at hr
    have ih := jE hT r fuel _ _ _ hc2 hr k
    have single : (match Region.ready .any all listed with | [j] => Nat.beq i j | _ => false) = true → Go P K Q (.drw all L m (fuel + r.length + 1) listed) s n F H := fun hx => go_d1S (rI hx) ho hw ih
    split at hc1
    ·simp only [Bool.and_eq_true, Bool.not_eq_true'] at hc1
     exact xY hc1.1.1 ho hc1.1.2 hc1.2 hw ih
    ·simp only [Bool.and_eq_true, Bool.not_eq_true'] at hc1
     exact xY hc1.1.1.1.1 ho hc1.1.1.1.2 hc1.1.1.2 hw ih
    ·simp only [Bool.and_eq_true] at hc1
     exact single hc1.1
    ·exact single hc1
   ·rename_i hw
    split at hr
    ·split at hr
     ·rename_i v hv
      rw [Fm.puto_eq] at hr
      have ih := jE hT r fuel _ _ _ hc2 hr k
      simp only [Bool.and_eq_true, Bool.not_eq_true'] at hc1
      exact Ax hT hc1.1.1 ho hc1.1.2 hc1.2 hw hv ih
     ·cases hr
    ·split at hr
     ·rename_i id hid
      split at hr
      ·rename_i hL
       split at hr
       ·rename_i v ed hv
        rw [Fm.puto_eq] at hr
        have ih := jE hT r fuel _ _ _ hc2 hr k
        simp only [Bool.and_eq_true, Bool.not_eq_true'] at hc1
        exact AC hT hc1.1.1.1.1 hc1.1.2 hc1.2 ho hc1.1.1.1.2 hc1.1.1.2 hw hid hL hv ih
       ·cases hr
      ·cases hr
     ·cases hr
    ·rename_i h2 h3
     have hs : (match Region.ready .any all listed with | [j] => Nat.beq i j | _ => false) = true ∧ (Nat.beq f 1 = true → (listed.setIfInBounds i true).getD m false = true) := by
      split at hc1
      ·exact absurd rfl h2
      ·exact absurd rfl h3
      ·simp only [Bool.and_eq_true] at hc1
       exact ⟨hc1.1, fun _ => hc1.2⟩
      ·rename_i h1
       exact ⟨hc1, fun hb => absurd (Nat.eq_of_beq_eq_true hb) h1⟩
     have hrd := rI hs.1
     split at hr
     ·rename_i v hv
      rw [Fm.puto_eq] at hr
      have ih := jE hT r fuel _ _ _ hc2 hr k
      exact vw hrd ho hw (fun S w ρ a hr hF => pI hT hr hF hv) ih
     ·split at hr
      ·rename_i v ed hv
       split at hr
       ·rename_i hcl
        rw [Hp.ap_eq] at hr
        have hcl' : ((eP H.get L && ed.clear L) || (listed.setIfInBounds i true).getD m false) = true := by
         rcases rQ hcl with h | h
         ·rw [h]; rfl
         ·rw [hs.2 h]; simp
        cases v with
        | none =>
         simp only [Fm.puto_eq] at hr
         exact sg hrd ho hw (fun S w ρ a hr hF => oO hT hr hF H.get_free hv) (mG hv) hcl' (jE hT r fuel _ _ _ hc2 hr k)
        | some v =>
         simp only [Fm.puto_eq] at hr
         exact sg hrd ho hw (fun S w ρ a hr hF => oO hT hr hF H.get_free hv) (mG hv) hcl' (jE hT r fuel _ _ _ hc2 hr k)
       ·cases hr
      ·cases hr
   ·cases hr
  ·cases hr
theorem lW {d : Nat} {v v' : V} (hd : F.get d = some v) (hs : bU v v') (k : Go P K Q p s n (F.set d (some v')) H) : Go P K Q p s n F H := fun S w ρ a hr hi hF => by
 refine k S w ρ a hr hi ⟨hF.size, hF.defers, by have := hF.len; simpa using this, fun i u hu => ?_⟩
 rw [Fm.get_eq, List.getElem?_set] at hu
 split at hu
 ·rename_i e
  subst e
  split at hu
  ·simp only [Option.bind_some, id_eq, Option.some.injEq] at hu
   subst hu
   obtain ⟨x, h1, h2⟩ := hF.get d v hd
   exact ⟨x, h1, hs _ _ _ _ h2⟩
  ·cases hu
 ·exact hF.get i u (by rw [Fm.get_eq]; exact hu)
theorem gB {e : Bool} (d : Nat) (hd : F.get d = some (.bool e)) (h1 : F.put d (some (.bool true)) id = F1) (h2 : F.put d (some (.bool false)) id = F2) (kT : e = true → Go P K Q p s n F1 H) (kF : e = false → Go P K Q p s n F2 H) : Go P K Q p s n F H := by
 rw [Fm.put_eq] at h1 h2
 subst h1 h2
 cases he : e with
 | true => exact lW hd (by rw [he]; exact bU.rfl) (kT he)
 | false => exact lW hd (by rw [he]; exact bU.rfl) (kF he)
theorem gT {e : Bool} (d : Nat) (hd : F.get d = some (.bool e)) (he : e = true) (h1 : F.put d (some (.bool true)) id = F1) (k : Go P K Q p s n F1 H) : Go P K Q p s n F H := by
 rw [Fm.put_eq] at h1; subst h1
 exact lW hd (by rw [he]; exact bU.rfl) k
theorem gF {e : Bool} (d : Nat) (hd : F.get d = some (.bool e)) (he : e = false) (h1 : F.put d (some (.bool false)) id = F1) (k : Go P K Q p s n F1 H) : Go P K Q p s n F H := by
 rw [Fm.put_eq] at h1; subst h1
 exact lW hd (by rw [he]; exact bU.rfl) k
theorem gV {v : V} (d : Nat) (v' : V) (hd : F.get d = some v) (he : v = v') (h1 : F.put d (some v') id = F1) (k : Go P K Q p s n F1 H) : Go P K Q p s n F H := by
 rw [Fm.put_eq] at h1; subst h1
 exact lW hd (by rw [he]; exact bU.rfl) k
theorem cM {m l : Int} (h : -9223372036854775808 ≤ m ∧ m ≤ 9223372036854775807) (e : m = l) : V.int .i64 (IntKind.i64.wrap m) = .int .i64 l := by
 subst e
 rw [IntWalk.i64_in _ (by omega)]
def slT (T : Tab) (t : TypeId) : Option (TypeId × Nat) := match T.ty t with
 |some ⟨_, _, _, .sl e⟩ => match T.ty e with
  | some ⟨sz, _, _, _⟩ => some (e, sz)
  | none => none
 | _ => none
theorem nz (hT : TabOk P T) {t e : TypeId} {sz : Nat} (h : slT T t = some (e, sz)) : P.underlying t = some (.slice e) ∧ fz P e = some sz := by
 unfold slT at h
 split at h
 ·rename_i ht
  split at h
  ·rename_i he
   simp only [Option.some.injEq, Prod.mk.injEq] at h
   obtain ⟨rfl, rfl⟩ := h
   exact ⟨(hT.ty _ _ ht).sl rfl, (hT.ty _ _ he).size⟩
  ·cases h
 ·cases h
theorem yIR (hT : TabOk P T) {t e : TypeId} {x y : Operand} {sz i : Nat} {els : List V} {v : V} {ty : TypeId} (ht : slT T t = some (e, sz)) (hx : bd F x = some (.row sz els)) (hy : bd F y = some (.int .i64 (i : Int))) (hi : els[i]? = some v) : ∀ S w ρ a, HRel S w ρ H.get → FRel S w ρ a n F → Yld P S w ρ a ty (.indexAddr t x y) (.box v.cells 0) := fun S w ρ a hr hF =>
 p_idxR hF.fr (nz hT ht).1 (nz hT ht).2 (au hF hx) (au hF hy) hi
theorem yIO (hT : TabOk P T) {t e e' : TypeId} {x y : Operand} {id sz i : Nat} {els : List V} {ty : TypeId} (ht : slT T t = some (e, sz)) (hx : bd F x = some (.sl id)) (ho : H.get id = .row e' sz els) (hy : bd F y = some (.int .i64 (i : Int))) (hi : i < els.length) : ∀ S w ρ a, HRel S w ρ H.get → FRel S w ρ a n F → Yld P S w ρ a ty (.indexAddr t x y) (.el id sz i 0) := fun S w ρ a hr hF =>
 p_idxO hr ho hF.fr (nz hT ht).1 (nz hT ht).2 (au hF hx) (au hF hy) hi
theorem gY {v : V} (hy : ∀ S w ρ a, HRel S w ρ H.get → FRel S w ρ a n F → Yld P S w ρ a o.type o.op v) (hw : cr F all o.guard = some true) (h1 : F.puto o.dst (some v) id = F1) (k : Go P K Q (.ops all rest) s n F1 H) : Go P K Q (.ops all (o :: rest)) s n F H := by
 rw [Fm.puto_eq] at h1; subst h1
 exact go_opY hw hy k
mutual
def mapV (f : V → V) : V → V
 | .agg cs => .agg (mapVs f cs)
 | .tup cs => .tup (mapVs f cs)
 | .clo fid cs => .clo fid (mapVs f cs)
 | .sl j => f (.sl j)
 | .int k n => f (.int k n)
 | .bool b => f (.bool b)
 | .str l => f (.str l)
 | .nilp => f .nilp
 | .nils => f .nils
 | .raw x => f (.raw x)
 | .ptr i o => f (.ptr i o)
 | .el i sz j o => f (.el i sz j o)
 | .box cs o => f (.box cs o)
 | .row sz els => f (.row sz els)
 | .lk els => f (.lk els)
 | .np i => f (.np i)
def mapVs (f : V → V) : List V → List V
 | [] => []
 | v :: r => mapV f v :: mapVs f r
end
mutual
theorem VRel.mapV {S S' : Nat → Prop} {w : World} {ρ : Nat → Option Value} {f : V → V} (hf : ∀ v x, VRel S w ρ v x → VRel S' w ρ (f v) x) : ∀ {v : V} {x : Value}, VRel S w ρ v x → VRel S' w ρ (mapV f v) x
 | .int _ _, x, h => by simp only [Go.Proofs.Ytpigfkmccilkjaa.mapV]; exact hf _ _ h
 | .bool _, x, h => by simp only [Go.Proofs.Ytpigfkmccilkjaa.mapV]; exact hf _ _ h
 | .str _, x, h => by simp only [Go.Proofs.Ytpigfkmccilkjaa.mapV]; exact hf _ _ h
 | .nilp, x, h => by simp only [Go.Proofs.Ytpigfkmccilkjaa.mapV]; exact hf _ _ h
 | .nils, x, h => by simp only [Go.Proofs.Ytpigfkmccilkjaa.mapV]; exact hf _ _ h
 | .raw _, x, h => by simp only [Go.Proofs.Ytpigfkmccilkjaa.mapV]; exact hf _ _ h
 | .box _ _, x, h => by simp only [Go.Proofs.Ytpigfkmccilkjaa.mapV]; exact hf _ _ h
 | .row _ _, x, h => by simp only [Go.Proofs.Ytpigfkmccilkjaa.mapV]; exact hf _ _ h
 | .lk _, x, h => by simp only [Go.Proofs.Ytpigfkmccilkjaa.mapV]; exact hf _ _ h
 | .ptr _ _, x, h => by simp only [Go.Proofs.Ytpigfkmccilkjaa.mapV]; exact hf _ _ h
 | .el _ _ _ _, x, h => by simp only [Go.Proofs.Ytpigfkmccilkjaa.mapV]; exact hf _ _ h
 | .sl j, x, h => by simp only [Go.Proofs.Ytpigfkmccilkjaa.mapV]; exact hf _ _ h
 | .np j, x, h => by simp only [Go.Proofs.Ytpigfkmccilkjaa.mapV]; exact hf _ _ h
 | .agg cs, x, h => by
  simp only [Go.Proofs.Ytpigfkmccilkjaa.mapV, VRel] at h ⊢
  obtain ⟨xs, h1, h2⟩ := h
  exact ⟨xs, h1, LRel.mapV hf h2⟩
 | .tup cs, x, h => by
  simp only [Go.Proofs.Ytpigfkmccilkjaa.mapV, VRel] at h ⊢
  obtain ⟨xs, h1, h2⟩ := h
  exact ⟨xs, h1, LRel.mapV hf h2⟩
 | .clo fid cs, x, h => by
  simp only [Go.Proofs.Ytpigfkmccilkjaa.mapV, VRel] at h ⊢
  obtain ⟨xs, h1, h2⟩ := h
  exact ⟨xs, h1, LRel.mapV hf h2⟩
theorem LRel.mapV {S S' : Nat → Prop} {w : World} {ρ : Nat → Option Value} {f : V → V} (hf : ∀ v x, VRel S w ρ v x → VRel S' w ρ (f v) x) : ∀ {v : List V} {x : List Value}, LRel S w ρ v x → LRel S' w ρ (mapVs f v) x
 | [], x, h => by simp only [mapVs, LRel] at h ⊢; exact h
 | v :: r, x, h => by
  simp only [mapVs, LRel] at h ⊢
  obtain ⟨y, ys, h1, h2, h3⟩ := h
  exact ⟨y, ys, h1, VRel.mapV hf h2, LRel.mapV hf h3⟩
end
def kw (f : V → V) : Fm → Fm
 | [] => []
 | none :: r => none :: kw f r
 | some v :: r => some (mapV f v) :: kw f r
theorem pE {f : V → V} : ∀ (F : Fm) (i : Nat), (kw f F).get i = (F.get i).map (mapV f)
 | [], i => by simp [kw, Fm.get]
 | none :: r, 0 => by simp [kw, Fm.get]
 | some v :: r, 0 => by simp [kw, Fm.get]
 | none :: r, i + 1 => by simp [kw, Fm.get, pE r i]
 | some v :: r, i + 1 => by simp [kw, Fm.get, pE r i]
theorem pQ {f : V → V} : ∀ (F : Fm), (kw f F).length = F.length
 | [] => rfl
 | none :: r => by simp [kw, pQ r]
 | some v :: r => by simp [kw, pQ r]
def jU (f : V → V) (id : Nat) : List (Nat × Ob) → List (Nat × Ob)
 | [] => []
 |(j, o) :: r => match Nat.beq j id with
  | true => jU f id r
  |false => match o with
   | .var t cs => (j, .var t (mapVs f cs)) :: jU f id r
   | o => (j, o) :: jU f id r
theorem oA {f : V → V} {id i : Nat} : ∀ {l : List (Nat × Ob)}, aM (jU f id l) i = if i = id then .gone else match aM l i with | .var t cs => .var t (mapVs f cs) | o => o
 | [] => by simp [jU, aM]
 | (j, o) :: r => by
  have ih := oA (f := f) (id := id) (i := i) (l := r)
  simp only [jU]
  by_cases hj : j = id
  ·subst hj
   rw [nbT]
   simp only []
   rw [ih]
   by_cases hi : i = j
   ·simp [hi]
   ·rw [if_neg hi, if_neg hi]
    simp only [aM, nbF (Ne.symm hi)]
  ·rw [nbF hj]
   simp only []
   by_cases hi : j = i
   ·subst hi
    rw [if_neg hj]
    cases o <;> simp only [aM, nbT]
   ·have e2 : aM ((j, o) :: r) i = aM r i := by simp only [aM, nbF hi]
    rw [e2, ← ih]
    cases o <;> simp only [aM, nbF hi]
theorem go_frz {f : V → V} {id : Nat} (hid : H.get id ≠ .free) (hf : ∀ S w ρ, HRel S w ρ H.get → ∀ v x, VRel S w ρ v x → VRel (fun b => S b ∨ own ρ id (H.get id) b) w ρ (f v) x) (h1 : kw f F = F1) (h2 : (⟨H.nx, jU f id H.es⟩ : Hp) = H1) (k : Go P K Q p s n F1 H1) : Go P K Q p s n F H := fun S w ρ a hr hi hF => by
 subst h1 h2
 obtain ⟨g1, g2⟩ := ia (id := id) hr
 have hlt : id < H.nx := by
  rcases Nat.lt_or_ge id H.nx with h | h
  ·exact h
  ·exfalso; apply hid
   unfold Hp.get
   have : Nat.blt id H.nx = false := by cases hb : Nat.blt id H.nx; rfl; simp [Nat.blt_eq] at hb; omega
   rw [this]
 have hg : ∀ i, (⟨H.nx, jU f id H.es⟩ : Hp).get i = if i = id then .gone else match H.get i with | .var t cs => .var t (mapVs f cs) | o => o := fun i => by
  unfold Hp.get
  by_cases hi : i = id
  ·subst hi
   simp only [nlT hlt, if_true, oA]
  ·simp only [if_neg hi]
   cases hb : Nat.blt i H.nx
   ·rfl
   ·simp only [oA, if_neg hi]
 have hob : ∀ i, i ≠ id → own ρ i ((⟨H.nx, jU f id H.es⟩ : Hp).get i) = own ρ i (H.get i) := fun i hii => by
  rw [hg i, if_neg hii]
  cases H.get i <;> rfl
 have hhr : HRel (fun b => S b ∨ own ρ id (H.get id) b) w ρ (⟨H.nx, jU f id H.es⟩ : Hp).get := by
  have hne : ∀ i b, own ρ i ((⟨H.nx, jU f id H.es⟩ : Hp).get i) b → i ≠ id ∧ own ρ i (H.get i) b := fun i b hb => by
   by_cases hii : i = id
   ·subst hii; rw [hg i, if_pos rfl] at hb; exact hb.elim
   ·rw [hob i hii] at hb; exact ⟨hii, hb⟩
  refine ⟨fun i => ?_, fun i b hb => ?_, fun i j b hbi hbj => hr.dis i j b (hne i b hbi).2 (hne j b hbj).2, g1.slt⟩
  ·rw [hg i]
   by_cases hii : i = id
   ·rw [if_pos hii]; trivial
   ·rw [if_neg hii]
    have h0 := g1.ob i
    rw [dp _ _ hii] at h0
    have h1 := hr.ob i
    cases ho : H.get i with
    | var t cs =>
     rw [ho] at h1
     obtain ⟨b, xs, q1, q2, q3⟩ := h1
     exact ⟨b, xs, q1, q2, q3.mapV (hf S w ρ hr)⟩
    | _ => rw [ho] at h0; exact h0
  ·have := hne i b hb
   exact g1.sep i b (by rw [dp _ _ this.1]; exact this.2)
 have hii : Inv K (fun b => S b ∨ own ρ id (H.get id) b) w ρ (⟨H.nx, jU f id H.es⟩ : Hp).get := by
  have h0 := hi.frz hr id
  refine ⟨h0.chg, h0.s0, h0.s1, fun i b hb => ?_, h0.pin⟩
  by_cases hii : i = id
  ·subst hii; rw [hg i, if_pos rfl] at hb; exact hb.elim
  ·rw [hob i hii] at hb; exact hi.ow i b hb
 have := k _ w ρ a hhr hii ⟨hF.size, hF.defers, by rw [pQ]; exact hF.len, fun i u hu => by
  rw [pE] at hu
  obtain ⟨v, h3, h4⟩ := Option.map_eq_some_iff.1 hu
  obtain ⟨x, h5, h6⟩ := hF.get i v h3
  exact ⟨x, h5, by rw [← h4]; exact h6.mapV (hf S w ρ hr)⟩⟩
 cases p with
 | drw all L m left listed => exact fun hs => pS (nL (fun b hb => .inl hb) Agree.refl) (fun x _ h => h) _ _ _ _ (this hs)
 | code c => exact this
 | ops all rest => exact this
 | ex e => exact this
def fzR (id sz : Nat) (els : List V) : V → V
 |.sl j => match Nat.beq j id with
  | true => .row sz els
  | false => .sl j
 | v => v
def fzP (id : Nat) (cs : List V) : V → V
 |.ptr j o => match Nat.beq j id with
  | true => .box cs o
  | false => .ptr j o
 | v => v
theorem gFR {e : TypeId} {sz : Nat} {els : List V} (id : Nat) (ho : H.get id = .row e sz els) (hpu : pureL els = true) (h1 : kw (fzR id sz els) F = F1) (h2 : (⟨H.nx, jU (fzR id sz els) id H.es⟩ : Hp) = H1) (k : Go P K Q p s n F1 H1) : Go P K Q p s n F H :=
 go_frz (f := fzR id sz els) (by rw [ho]; simp) (fun S w ρ hr v x hx => by
  unfold fzR
  split
  ·split
   ·rename_i hb
    have := Nat.eq_of_beq_eq_true hb
    subst this
    exact pZ hr ho hpu hx
   ·exact hx.up (ia hr).2
  ·exact hx.up (ia hr).2) h1 h2 k
theorem gFP {t : TypeId} {cs : List V} (id : Nat) (ho : H.get id = .var t cs) (hpu : pureL cs = true) (h1 : kw (fzP id cs) F = F1) (h2 : (⟨H.nx, jU (fzP id cs) id H.es⟩ : Hp) = H1) (k : Go P K Q p s n F1 H1) : Go P K Q p s n F H :=
 go_frz (f := fzP id cs) (by rw [ho]; simp) (fun S w ρ hr v x hx => by
  unfold fzP
  split
  ·split
   ·rename_i hb
    have := Nat.eq_of_beq_eq_true hb
    subst this
    exact uF hr ho hpu hx
   ·exact hx.up (ia hr).2
  ·exact hx.up (ia hr).2) h1 h2 k
def mkF : Nat → Nat → List (Nat × V) → Fm
 | 0, _, _ => []
 | n + 1, i, [] => none :: mkF n (i + 1) []
 |n + 1, i, (j, v) :: r => match Nat.beq i j with
  | true => some v :: mkF n (i + 1) r
  | false => none :: mkF n (i + 1) ((j, v) :: r)
end
inductive Rs where
 | ok (e : Bool) (F : Fm) (H : Hp)
 | pt (p : EP) (s : List EI) (F : Fm) (H : Hp)
 | er (n m : Nat)
section
variable (T : Tab) (ih : EP → List EI → Fm → Hp → Rs)
end
set_option maxRecDepth 100000
def tyL : List (Nat × TD) := [
 (26, ⟨4, 72, .agg [.int .i64 0, .str [], .nils, .nils], .struct [(0, 1, true), (1, 1, true), (2, 1, true), (3, 1, true)]⟩),
 (9, ⟨1, 16, .str [], .str⟩),
 (3, ⟨1, 8, .int .i64 0, .sc⟩),
 (24, ⟨1, 24, .nils, .sl 26⟩),
 (23, ⟨1, 24, .nils, .sl 9⟩),
 (44, ⟨1, 8, .nilp, .sc⟩),
 (5, ⟨1, 1, .int .u8 0, .sc⟩),
 (41, ⟨3, 40, .agg [.int .i64 0, .str [], .str []], .struct [(0, 1, true), (1, 1, true), (2, 1, true)]⟩),
 (37, ⟨1, 8, .nilp, .sc⟩),
 (27, ⟨1, 8, .int .i64 0, .sc⟩),
 (34, ⟨1, 24, .nils, .sl 41⟩),
 (82, ⟨1, 8, .nilp, .sc⟩),
 (77, ⟨4, 32, .agg [.int .i64 0, .int .i64 0, .int .i64 0, .int .i64 0], .struct [(0, 1, true), (1, 1, true), (2, 1, true), (3, 1, true)]⟩),
 (46, ⟨5, 64, .agg [.nils, .int .i64 0, .str [], .int .i64 0, .int .i64 0], .struct [(0, 1, true), (1, 1, true), (2, 1, true), (3, 1, true), (4, 1, true)]⟩),
 (58, ⟨1, 8, .nilp, .sc⟩),
 (39, ⟨5, 56, .agg [.nils, .int .i64 0, .int .i64 0, .int .i64 0, .int .i64 0], .struct [(0, 1, true), (1, 1, true), (2, 1, true), (3, 1, true), (4, 1, true)]⟩),
 (68, ⟨3, 48, .agg [.nilp, .nils, .str []], .struct [(0, 2, false), (2, 1, true)]⟩),
 (66, ⟨2, 32, .agg [.nilp, .nils], .struct [(0, 1, true), (1, 1, true)]⟩),
 (88, ⟨3, 48, .agg [.str [], .str [], .str []], .arr 3 9⟩),
 (4, ⟨1, 1, .bool false, .bool⟩)]
def qk {α : Type} : List (Nat × α) → Nat → Option α
 | [], _ => none
 |(i, x) :: r, j => match Nat.beq i j with
  | true => some x
  | false => qk r j
def tyB (P : Program) : List (Nat × TD) → Bool
 | [] => true
 | (t, d) :: r => tdB P t d && tyB P r
theorem vv {P : Program} : ∀ {l : List (Nat × TD)}, tyB P l = true → ∀ t d, qk l t = some d → TdOk P t d
 | [], _, t, d, h => by cases h
 | (i, x) :: r, hb, t, d, h => by
  simp only [tyB, Bool.and_eq_true] at hb
  simp only [qk] at h
  split at h
  ·rename_i e
   have := Nat.eq_of_beq_eq_true e
   subst this
   injection h with h; subst h
   exact zj hb.1
  ·exact vv hb.2 t d h
theorem zq : ∀ t d, qk tyL t = some d → TdOk Try.prog t d := vv (by kernel_rfl)
open Go.RowKit Lx Sx
def ww : Tab := ⟨false, qk tyL, fun _ => none, fun _ _ => none, fun _ => false⟩
theorem aa : TabOk Try.prog ww := ⟨zq, (fun _ _ h => by cases h), (fun _ _ _ h => by cases h)⟩
mutual
def treeV : Tree → V
 | .node k s ls ks => .agg [.int .i64 k, .str s, .row 1 (ls.map .str), .row 4 (kidsV ks)]
def kidsV : List Tree → List V
 | [] => []
 | t :: r => treeV t :: kidsV r
end
abbrev ar (t : Tree) : List V := [.int .i64 t.kind, .str t.text, .row 1 (t.leads.map .str), .row 4 (kidsV t.kids)]
abbrev nV (t : Tree) : V := .agg (ar t)
theorem jG (t : Tree) : treeV t = nV t := by cases t; simp [treeV, Tree.kind, Tree.text, Tree.leads, Tree.kids]
theorem rj : ∀ (ks : List Tree), (kidsV ks).length = ks.length
 | [] => rfl
 | t :: r => by simp [kidsV, rj r]
theorem ae : ∀ {ks : List Tree} {i : Nat} {u : Tree}, ks[i]? = some u → (kidsV ks)[i]? = some (nV u)
 | [], i, u, h => by simp at h
 | t :: r, 0, u, h => by
  simp only [List.getElem?_cons_zero, Option.some.injEq] at h
  subst h
  simp [kidsV, jG]
 | t :: r, i + 1, u, h => by
  simp only [List.getElem?_cons_succ] at h
  simpa [kidsV] using ae h
theorem aC : ∀ (a b : List Tree), kidsV (a ++ b) = kidsV a ++ kidsV b
 | [], b => rfl
 | t :: r, b => by simp [kidsV, aC r b]
theorem vg (t : Tree) : (nV t).pure = true := rfl
theorem qy : ∀ (ks : List Tree), pureL (kidsV ks) = true
 | [] => rfl
 | t :: r => by simp only [kidsV, pureL, jG, vg, qy r]
def nd (P : Program) (fid : FuncId) (us : List V) (v : V) : Prop := pureL us = true ∧ v.pure = true ∧ Sum P fid us ⟨0, []⟩ (fun u _ => u = v)
theorem gG (i : Nat) : (⟨0, []⟩ : Hp).get i = .free := by
 unfold Hp.get
 have : Nat.blt i 0 = false := by cases i <;> rfl
 simp only [this]
theorem ya {P : Program} {K : Ctx} {H : Hp} {fid : FuncId} {vs us : List V} {v : V} (hS : nd P fid us v) (hs : ak vs us) (L : List Nat) (hL : eP H.get L = true) : CallR P K fid vs H L (fun v' H'' => v' = v ∧ H'' = H) := fun S w ρ xs hr hi hx => by
 obtain ⟨h1, h2, h3⟩ := hS
 have hr0 : HRel S w ρ0 (⟨0, []⟩ : Hp).get := ⟨fun i => by rw [gG]; rfl, fun i b hb => by rw [gG] at hb; exact hb.elim, fun i j b hb _ => by rw [gG] at hb; exact hb.elim, hr.slt⟩
 refine (h3 S w ρ0 xs hr0 ((hs.rel hx).pure h1)).mono fun e w' hR => ?_
 obtain ⟨x, S', ρ', u, H', rfl, rfl, hr', hi', hv⟩ := hR
 have hno : ∀ b, ¬ ∃ id, own ρ0 id ((⟨0, []⟩ : Hp).get id) b := fun b ⟨id, hb⟩ => by rw [gG] at hb; exact hb
 have hc : Chg [] w w' := ⟨hi'.chg.os, hi'.chg.tape, hi'.chg.output, hi'.chg.size, fun b hb _ => hi'.chg.block b hb (hno b)⟩
 have up : Up S S' w w' ρ ρ := ⟨hi'.s0, fun b hb hlt => hc.block b hlt (by simp), fun _ _ h => h⟩
 have hs1 : ∀ b, S' b → S b ∨ w.heap.size ≤ b := fun b hb => by
  rcases hi'.s1 b hb with h | h | h
  ·exact .inl h
  ·exact absurd h (hno b)
  ·exact .inr h
 refine ⟨x, S', ρ, u, H, rfl, ⟨rfl, rfl⟩, ⟨fun i => (hr.ob i).up up (fun hf => ?_) (fun b hb => hc.block b (fQ (hr.ob i) hb) (by simp)), fun i b hb => ?_, hr.dis, hr'.slt⟩, ⟨hi.chg.trans (ChgP.of hc) (fun b hb => by simp at hb), fun b hb => hi'.s0 b (hi.s0 b hb), fun b hb => ?_, hi.ow, hi.pin⟩, up, hv.pure h2, fun id hid y b hy hb => ?_⟩
 ·have := hr.ob i; rw [hf] at this; exact this
 ·intro hS
  rcases hs1 b hS with h | h
  ·exact hr.sep i b hb h
  ·have := fQ (hr.ob i) hb; omega
 ·rcases hs1 b hb with h | h
  ·exact hi.s1 b h
  ·exact .inr (.inr (Nat.le_trans hi.chg.size h))
 ·exact hc.block b (fQ (hr.ob id) (jS hr hL id hid y b hy hb)) (by simp)
theorem dY {α : Type} [BEq α] [LawfulBEq α] {a b : α} (h : (a != b) = false) : a = b := by simpa using h
section
variable {K : Ctx} {Q : Exit → Act → World → Prop} {p p' : EP} {s s' : List EI} {n : Nat} {F F' F1 F2 : Fm} {H H' H1 : Hp} {all : Array Oper} {rest : List Oper} {o : Oper}
theorem gR (k : Nat) (h : fu ww k p s F H = some (p', s', F', H')) (kk : Go Try.prog K Q p' s' n F' H') : Go Try.prog K Q p s n F H := dw aa k p s F H h kk
theorem gC {PL : List Nat} {fid : FuncId} {args : List Operand} {tys : Array TypeId} {vs us : List V} {H0 : Hp} {Post : V → Hp → Prop} {d : Option Tmp} {ty : TypeId} {ps : String} {af : Array Edge} {g : Option (Nat × Bool)} (hS : bW PL Try.prog fid us H0 Post) (σ : List Nat) (he : ek Try.prog fid = true) (hw : cr F all g = some true) (hv : gx F args = some vs) (hs : ak vs (renL σ us)) (hH : leH σ H H0.es) (hc : (dL σ && Nat.beq σ.length H0.nx && σ.all fun i => Nat.blt i H.nx) = true)
  (k : ∀ v H', Post v H' → Go Try.prog K Q (.ops all rest) s n (F.seto d (some (v.ren (sgN PL H.nx H0.get H'.nx σ 0)))) (js PL H σ H0 H')) : Go Try.prog K Q (.ops all (⟨d, .call { callee := .value (.func fid), args := args.toArray, argTypes := tys }, ty, ps, af, g⟩ :: rest)) s n F H :=
 go_opC (o := ⟨d, .call { callee := .value (.func fid), args := args.toArray, argTypes := tys }, ty, ps, af, g⟩) he rfl hw hv (pw hS σ hs hH hc [] (by simp [eP])) fun v' H'' ⟨v, H', hP, e1, e2⟩ => by subst e1 e2; exact k v H' hP
theorem gC0 {fid : FuncId} {args : List Operand} {tys : Array TypeId} {vs us : List V} {v : V} {d : Option Tmp} {ty : TypeId} {ps : String} {af : Array Edge} {g : Option (Nat × Bool)} (hS : nd Try.prog fid us v) (he : ek Try.prog fid = true) (hw : cr F all g = some true) (hv : gx F args = some vs) (hs : ak vs us) (h1 : F.puto d (some v) id = F1)
  (k : Go Try.prog K Q (.ops all rest) s n F1 H) : Go Try.prog K Q (.ops all (⟨d, .call { callee := .value (.func fid), args := args.toArray, argTypes := tys }, ty, ps, af, g⟩ :: rest)) s n F H := by
 rw [Fm.puto_eq] at h1; subst h1
 exact go_opC (o := ⟨d, .call { callee := .value (.func fid), args := args.toArray, argTypes := tys }, ty, ps, af, g⟩) he rfl hw hv (ya hS hs [] rfl) fun v' H'' ⟨e1, e2⟩ => by subst e1 e2; exact k
def slB (T : Tab) (t : TypeId) : Option (TypeId × Nat × Nat) := match T.ty t with
 |some ⟨_, _, _, .sl e⟩ => match T.ty e with
  |some ⟨sz, by_, _, _⟩ => match Nat.blt 0 sz && Nat.ble by_ 100000 with
   | true => some (e, sz, by_)
   | false => none
  | none => none
 | _ => none
theorem vn {P : Program} {T : Tab} (hT : TabOk P T) {t e : TypeId} {sz by_ : Nat} (h : slB T t = some (e, sz, by_)) : P.underlying t = some (.slice e) ∧ 0 < sz ∧ by_ ≤ 100000 ∧ ∃ z : Value, (P.info? e).map (fun i => (i.zero, i.size, i.bytes)) = some (some z, sz, by_) ∧ z.cells.size = sz := by
 unfold slB at h
 split at h
 ·rename_i ht
  split at h
  ·rename_i he
   split at h
   ·rename_i hb
    simp only [Option.some.injEq, Prod.mk.injEq] at h
    obtain ⟨rfl, rfl, rfl⟩ := h
    simp only [Bool.and_eq_true, Nat.blt_eq, Nat.ble_eq] at hb
    obtain ⟨z, h1, _, h3, _⟩ := (hT.ty _ _ he).info
    exact ⟨(hT.ty _ _ ht).sl rfl, hb.1, hb.2, z, h1, h3⟩
   ·cases h
  ·cases h
 ·cases h
theorem dAp {P : Program} {T : Tab} (hT : TabOk P T) {t e : TypeId} {x y : Operand} {sz by_ id : Nat} {els news : List V} {v : V} {ty : TypeId} (ht : slB T t = some (e, sz, by_)) (hx : bd F x = some (.sl id)) (ho : H.get id = .row e sz els) (hy : bd F y = some v) (hs : pm H.get sz v = some news) (hb : els.length + news.length ≤ 1000000000) :
  ∀ S w ρ a, HRel S w ρ H.get → FRel S w ρ a n F → Does P S w ρ H.get a ty (.call { callee := .builtin .append, args := #[x, y], argTypes := #[t, t] }) (some (.sl H.nx)) ((ED.repl id (.row e sz (els ++ news))).app H.get H.nx) (ED.repl id (.row e sz (els ++ news))).tch := fun S w ρ a hr hF => by
 obtain ⟨h1, h2, h3, z, h4, h5⟩ := vn hT ht
 obtain ⟨u, g1, g2⟩ := qT hr hF hy hs
 exact sy hr hF.fr H.get_free g1 g2 h1 h4 h5 h2 (au hF hx) ho (by simp only [maxLen]; omega) (Nat.le_trans (Nat.mul_le_mul hb h3) (by decide))
theorem Ba {P : Program} {T : Tab} (hT : TabOk P T) {t e : TypeId} {x y : Operand} {sz by_ : Nat} {news : List V} {v : V} {ty : TypeId} (ht : slB T t = some (e, sz, by_)) (hx : bd F x = some .nils) (hy : bd F y = some v) (hs : pm H.get sz v = some news) (hb : news.length ≤ 1000000000) :
  ∀ S w ρ a, HRel S w ρ H.get → FRel S w ρ a n F → Does P S w ρ H.get a ty (.call { callee := .builtin .append, args := #[x, y], argTypes := #[t, t] }) (some (.sl H.nx)) ((ED.new (.row e sz news)).app H.get H.nx) (ED.new (.row e sz news)).tch := fun S w ρ a hr hF => by
 obtain ⟨h1, h2, h3, z, h4, h5⟩ := vn hT ht
 obtain ⟨u, g1, g2⟩ := qT hr hF hy hs
 exact rB hr hF.fr H.get_free g1 g2 h1 h4 h5 h2 (au hF hx) (by simp only [maxLen]; omega) (Nat.le_trans (Nat.mul_le_mul hb h3) (by decide))
variable {L : List Nat} {m fuel c : Nat} {listed : Array Bool}
theorem gDs {id : Nat} {l : List Oper} (L : List Nat) (m sz : Nat) (hsz : l.length = sz) (hm : Try.prog.follows .mixedOrders = true) (hs : Region.noSelect l.toArray = true) (k : Go Try.prog K Q (.drw l.toArray L m sz (Array.replicate sz false)) s n F H) : Go Try.prog K Q (.code (.region id l.toArray true)) s n F H := yu L m sz hsz hm hs k
theorem gDr (is : List (Nat × Nat)) (hc : uC all m is listed = true) (hl : is.length = c) (hr : li ww all L is F H = some (F', H')) (k : Go Try.prog K Q (.drw all L m fuel (wR is listed)) s n F' H') : Go Try.prog K Q (.drw all L m (fuel + c) listed) s n F H := by
 subst hl; exact jE aa is fuel listed F H hc hr k
theorem gDe (hd : Region.ready .any all listed = []) (k : Go Try.prog K Q (.ex .normal) s n F H) : Go Try.prog K Q (.drw all L m fuel listed) s n F H := xM hd k
theorem sU {fid : FuncId} {args : List Operand} {tys : Array TypeId} {vs us : List V} {v : V} {d : Option Tmp} {ty : TypeId} {ps : String} {af : Array Edge} {g : Option (Nat × Bool)} (i : Nat) (hS : nd Try.prog fid us v) (he : ek Try.prog fid = true) (hi : all[i]? = some ⟨d, .call { callee := .value (.func fid), args := args.toArray, argTypes := tys }, ty, ps, af, g⟩) (hrd : Region.ready .any all listed = [i]) (hw : cr F all g = some true) (hv : gx F args = some vs) (hs : ak vs us) (hL : eP H.get L = true) (h1 : F.puto d (some v) id = F1)
  (k : Go Try.prog K Q (.drw all L m fuel (listed.setIfInBounds i true)) s n F1 H) : Go Try.prog K Q (.drw all L m (fuel + 1) listed) s n F H := by
 rw [Fm.puto_eq] at h1; subst h1
 exact go_d1C he hrd hi rfl hw hv (ya hS hs L hL) (.inl rfl) fun v' H'' ⟨e1, e2⟩ => by subst e1 e2; exact k
theorem gDC {PL : List Nat} {fid : FuncId} {args : List Operand} {tys : Array TypeId} {vs us : List V} {H0 : Hp} {Post : V → Hp → Prop} {d : Option Tmp} {ty : TypeId} {ps : String} {af : Array Edge} {g : Option (Nat × Bool)} (i : Nat) (hS : bW PL Try.prog fid us H0 Post) (σ : List Nat) (he : ek Try.prog fid = true) (hi : all[i]? = some ⟨d, .call { callee := .value (.func fid), args := args.toArray, argTypes := tys }, ty, ps, af, g⟩) (hrd : Region.ready .any all listed = [i]) (hw : cr F all g = some true) (hv : gx F args = some vs) (hs : ak vs (renL σ us)) (hH : leH σ H H0.es) (hc : (dL σ && Nat.beq σ.length H0.nx && σ.all fun i => Nat.blt i H.nx) = true) (hL : (eP H.get L && L.all fun i => !σ.contains i) = true)
  (k : ∀ v H', Post v H' → Go Try.prog K Q (.drw all L m fuel (listed.setIfInBounds i true)) s n (F.seto d (some (v.ren (sgN PL H.nx H0.get H'.nx σ 0)))) (js PL H σ H0 H')) : Go Try.prog K Q (.drw all L m (fuel + 1) listed) s n F H :=
 go_d1C he hrd hi rfl hw hv (pw hS σ hs hH hc L hL) (.inl rfl) fun v' H'' ⟨v, H', hP, e1, e2⟩ => by subst e1 e2; exact k v H' hP
end
open Lx Sx
set_option maxHeartbeats 4000000
theorem vf {s : PS} (h : (ab s).text ≠ [] ∨ (ab s).kind ≠ 0) : ∃ t r, s.toks = t :: r ∧ ab s = t := by
 cases hs : s.toks with
 | nil => simp [ab, hs, dK] at h
 | cons t r => exact ⟨t, r, rfl, by simp [ab, hs]⟩
theorem gp (s : PS) : (ac s).toks.length ≤ s.toks.length := by
 unfold ac
 split <;> simp_all
theorem pp {s : PS} {t : TokZ} {r : List TokZ} (h : s.toks = t :: r) : (ac s).toks.length < s.toks.length := by
 unfold ac
 rw [h]
 cases r <;> simp
theorem ep (e : Nat) (s : PS) : (aV e s).toks.length ≤ s.toks.length := by unfold aV; split <;> simp
theorem aw (x : List UInt8) (s : PS) : (ai x s).2.toks.length ≤ s.toks.length := by
 unfold ai
 split
 ·exact gp s
 ·exact ep 2 s
theorem bY (k o : Int) (s : PS) : (aL k o s).2.2.toks.length ≤ s.toks.length := by
 unfold aL
 split
 ·exact ep 2 s
 ·exact gp s
theorem kR {x : List UInt8} {s : PS} (hx : x ≠ []) (h : (ab s).text = x) : (ai x s).2.toks.length < s.toks.length := by
 obtain ⟨t, r, hs, hnx⟩ := vf (s := s) (.inl (by rw [h]; exact hx))
 unfold ai; rw [if_pos h]; exact pp hs
theorem kZ : ∀ (n : Nat) (s : PS), (gd n s).2.toks.length ≤ s.toks.length
 | 0, s => Nat.le_refl _
 | n + 1, s => by
  have ih := kZ n (ac s)
  have h1 := gp s
  have h2 := aw [93] (gd n (ac s)).2
  have h3 := bY 2 4 s
  rw [gd]
  split
  ·exact h1
  split
  ·exact h1
  split
  ·exact h1
  split
  ·simp only; omega
  ·exact h3
theorem ig (n : Nat) (s : PS) : (aQ n s).2.toks.length ≤ s.toks.length := by
 have h1 := bY 1 1 s
 have h2 := aw [58] (aL 1 1 s).2.2
 have h3 := kZ n (ai [58] (aL 1 1 s).2.2).2
 simp only [aQ]; omega
theorem nF {item : PS → Tree × PS} (h : ∀ s, (item s).2.toks.length ≤ s.toks.length) {most : Nat} {beg : TokZ → Bool} : ∀ (m : Nat) (cs : List (List UInt8)) (ks : List Tree) (s : PS), (commaF item most beg m cs ks s).2.2.toks.length ≤ s.toks.length
 | 0, _, _, s => Nat.le_refl _
 | m + 1, cs, ks, s => by
  rw [commaF]
  split
  ·have h1 := gp s
   have h2 := ep 3 (ac s)
   simp only
   refine Nat.le_trans (nF h m _ _ _) (Nat.le_trans (h _) ?_)
   split <;> omega
  ·exact Nat.le_refl _
theorem nD {item : PS → Tree × PS} (h : ∀ s, (item s).2.toks.length ≤ s.toks.length) {most : Nat} {beg : TokZ → Bool} (s : PS) : (cJ item most beg s).2.2.toks.length ≤ s.toks.length := by
 unfold cJ
 split
 ·exact Nat.le_refl _
 ·exact Nat.le_trans (nF h _ _ _ _) (h s)
theorem sO {U : PS → Tree × PS} (h : ∀ s, (U s).2.toks.length ≤ s.toks.length) : ∀ (m : Nat) (t : Tree) (s : PS), (ff U m t s).2.toks.length ≤ s.toks.length
 | 0, _, s => Nat.le_refl _
 | m + 1, t, s => by
  rw [ff]
  split
  ·exact Nat.le_trans (sO h m _ _) (Nat.le_trans (h _) (gp s))
  ·exact Nat.le_refl _
theorem jM {E : PS → Tree × PS} (h : ∀ s, (E s).2.toks.length ≤ s.toks.length) (s : PS) : (aP E s).2.toks.length ≤ s.toks.length := by
 have h1 := gp s
 have ha : ∀ s, (cy E s).2.toks.length ≤ s.toks.length := fun s => h s
 unfold aP
 simp only
 split
 ·unfold jb
  split
  ·exact h1
  ·simp only
   have h2 := aw [40] (ac s)
   have h3 := nD (most := 8) (beg := aA) ha (ai [40] (ac s)).2
   have h4 := aw [41] (cJ (cy E) 8 aA (ai [40] (ac s)).2).2.2
   omega
 split
 ·exact h1
 split
 ·exact h1
 split
 ·exact h1
 split
 ·simp only [mJ]
  have h2 := aw [91] s
  have h3 := h (ai [91] s).2
  have h4 := nF (most := 16) (beg := aA) h ((E (ai [91] s).2).2.toks.length + 1) [] [(E (ai [91] s).2).1] (E (ai [91] s).2).2
  have h5 := aw [93] (commaF E 16 aA ((E (ai [91] s).2).2.toks.length + 1) [] [(E (ai [91] s).2).1] (E (ai [91] s).2).2).2.2
  omega
 split
 ·simp only [qx]
  have h2 := h (ac s)
  have h3 := aw [41] (E (ac s)).2
  omega
 split
 ·exact h1
 split
 ·exact h1
 ·exact ep 2 s
theorem mI : ∀ (n : Nat) (s : PS), (eD n s).2.toks.length ≤ s.toks.length
 | 0, s => Nat.le_refl _
 | n + 1, s => by
  have h := mI n
  rw [eD]
  unfold gy
  have h1 := gp s
  split
  ·simp only [uy]
   have h2 := bY 1 1 (ac s)
   have h3 := aw [61] (aL 1 1 (ac s)).2.2
   have h4 := h (ai [61] (aL 1 1 (ac s)).2.2).2
   have h5 := aw wIn (eD n (ai [61] (aL 1 1 (ac s)).2.2).2).2
   have h6 := h (ai wIn (eD n (ai [61] (aL 1 1 (ac s)).2.2).2).2).2
   omega
  split
  ·simp only [ifF]
   have h2 := h (ac s)
   have h3 := aw dH (eD n (ac s)).2
   have h4 := h (ai dH (eD n (ac s)).2).2
   have h5 := aw ii (eD n (ai dH (eD n (ac s)).2).2).2
   have h6 := h (ai ii (eD n (ai dH (eD n (ac s)).2).2).2).2
   omega
  ·exact Nat.le_trans (sO (jM h) _ _ _) (jM h s)
theorem om {n : Nat} {s : PS} (h : (ab s).text = dQ) : (bI n s).2.toks.length < s.toks.length := by
 have h1 := kR (by decide) h
 simp only [bI]
 refine Nat.lt_of_le_of_lt ?_ h1
 refine Nat.le_trans (mI n _) (Nat.le_trans (aw _ _) (Nat.le_trans (kZ n _) (Nat.le_trans (aw _ _) (Nat.le_trans (aw _ _) (Nat.le_trans (nD (ig n) _) (Nat.le_trans (aw _ _) (bY _ _ _)))))))
theorem pX {n : Nat} {s : PS} (h : (ab s).text = cz) : (fh n s).2.toks.length < s.toks.length := by
 have h1 := kR (by decide) h
 simp only [fh]
 refine Nat.lt_of_le_of_lt ?_ h1
 exact Nat.le_trans (kZ n _) (Nat.le_trans (aw _ _) (bY _ _ _))
def aj (f : Func) : Code := match f.body with
 | some c => c
 | none => .skip
def cA : Code → Code
 | .seq x _ => x
 | c => c
def cB : Code → Code
 | .seq _ y => y
 | c => c
def cK : Code → Code
 | .block _ c => c
 | c => c
def cL : Code → Code
 | .loop c => c
 | c => c
def cT : Code → Code
 | .cond _ x _ => x
 | c => c
def cE : Code → Code
 | .cond _ _ y => y
 | c => c
theorem apM {α : Type} (f : α → V) (l : List α) (x : α) : List.map f l ++ [f x] = List.map f (l ++ [x]) := by simp
theorem qR (l : List Tree) : l.map nV = kidsV l := by
 induction l with
 | nil => rfl
 | cons t r ih => simp [kidsV, jG, ih]
theorem bv (x : Tree) : [nV x] = kidsV [x] := by simp [kidsV, jG]
theorem bH : ∀ (l : List Tree), kidsV l = l.map nV
 | [] => rfl
 | t :: r => by simp [kidsV, jG, bH r]
theorem mapget {α : Type} {f : α → V} {l : List α} {i : Nat} {x : α} (h : l[i]? = some x) : (List.map f l)[i]? = some (f x) := by simp [h]
theorem av (l : List Tree) : (kidsV l).length = l.length := rj l
theorem cQ {α : Type} (f : α → V) (l : List α) : (List.map f l).length = l.length := List.length_map ..
theorem bC {n : Nat} {m : Nat} (h : n = m) : V.int .i64 (n : Int) = .int .i64 (m : Int) := by rw [h]
theorem bp : ∀ (l : List Tree) (i : Nat) (x : Tree), (kidsV l).set i (nV x) = kidsV (l.set i x)
 | [], i, x => rfl
 | t :: r, 0, x => by simp [kidsV, jG]
 | t :: r, i + 1, x => by simp [kidsV, bp r i x]
theorem dv {α : Type} (f : α → V) (l : List α) (i : Nat) (x : α) : (List.map f l).set i (f x) = List.map f (l.set i x) := by simp
theorem AZ (l : List Tree) (i j : Nat) : ((kidsV l).drop i).take j = kidsV ((l.drop i).take j) := by simp [bH, List.map_drop, List.map_take]
theorem AW {α : Type} (f : α → V) (l : List α) (i j : Nat) : ((List.map f l).drop i).take j = List.map f ((l.drop i).take j) := by simp [List.map_drop, List.map_take]
theorem ah (σ : List Nat) : ∀ (l : List Tree), renL σ (kidsV l) = kidsV l
 | [] => rfl
 | t :: r => by simp only [kidsV, renL, ah σ r]; rw [jG]; rfl
theorem xP {α : Type} (σ : List Nat) (f : α → V) (hf : ∀ x, (f x).ren σ = f x) : ∀ (l : List α), renL σ (List.map f l) = List.map f l
 | [] => rfl
 | x :: r => by simp only [List.map_cons, renL, hf, xP σ f hf r]
theorem cm (l : List Tree) : pureL (kidsV l) = true := qy l
theorem ch {α : Type} (f : α → V) (hf : ∀ x, (f x).pure = true) : ∀ (l : List α), pureL (List.map f l) = true
 | [] => rfl
 | x :: r => by simp only [List.map_cons, pureL, hf, ch f hf r]
theorem iQ {e : Bool} (h : (!e) = true) : e = false := by simpa using h
theorem iO {e : Bool} (h : (!e) = false) : e = true := by simpa using h
theorem fB {α : Type} [BEq α] [LawfulBEq α] {a b : α} (h : (a != b) = true) : a ≠ b := by simpa using h
theorem nP {a b : Nat} (h : decide ((a : Int) < (b : Int)) = true) : a < b := by have := of_decide_eq_true h; omega
theorem og {a b : Nat} (h : decide ((a : Int) < (b : Int)) = false) : ¬ a < b := by have := of_decide_eq_false h; omega
theorem zL {a b : Nat} (h : ((a : Int) != (b : Int)) = true) : a ≠ b := by have := fB h; omega
theorem Aj {a b : Nat} (h : ((a : Int) != (b : Int)) = false) : a = b := by have := dY h; omega
theorem iF {n m : Int} (h : n = m) : V.int .i64 n = .int .i64 m := by rw [h]
abbrev InI (x : Int) : Prop := -9223372036854775808 ≤ x ∧ x ≤ 9223372036854775807
section
variable {P : Program} {T : Tab} {K : Ctx} {Q : Exit → Act → World → Prop} {p p' : EP} {s s' : List EI} {n : Nat} {F F' F1 F2 : Fm} {H H' H1 : Hp} {all : Array Oper} {rest : List Oper} {o : Oper} {L : List Nat} {m fuel : Nat} {listed : Array Bool}
theorem gS {v : V} (d : Nat) (v' : V) (hd : F.get d = some v) (hs : bU v v') (h1 : F.put d (some v') id = F1) (k : Go P K Q p s n F1 H) : Go P K Q p s n F H := by
 rw [Fm.put_eq] at h1; subst h1
 exact lW hd hs k
theorem wK {h : Nat → Ob} {id : Nat} {o : Ob} (ho : h id = o) : dx h id o = h := by
 funext i
 by_cases hi : i = id
 ·subst hi; rw [cj, ho]
 ·rw [dp _ _ hi]
theorem gHR {e : TypeId} {sz : Nat} {els : List V} (id : Nat) (els' : List V) (ho : H.get id = .row e sz els) (he : els = els') (h2 : H.ap (.set id (.row e sz els')) _root_.id = H1) (k : Go P K Q p s n F H1) : Go P K Q p s n F H := by
 subst he
 rw [Hp.ap_eq] at h2; subst h2
 have hg : (H.app (.set id (.row e sz els))).get = H.get := by
  rw [Hp.get_app (by exact ⟨by rw [ho]; simp, by rw [ho]; simp⟩)]
  exact wK ho
 intro S w ρ a hr hi hF
 exact k S w ρ a (by rw [id_eq, hg]; exact hr) (by rw [id_eq, hg]; exact hi) hF
theorem CRel.sub {S : Nat → Prop} {w : World} {ρ : Nat → Option Value} {sz : Nat} : ∀ {vs us : List V} {xs : List Value}, ak vs us → CRel S w ρ sz vs xs → CRel S w ρ sz us xs
 | [], us, xs, h, hl => by simp only [ak] at h; subst h; exact hl
 | v :: r, us, xs, h, hl => by
  simp only [ak] at h
  obtain ⟨u, q, rfl, h1, h2⟩ := h
  simp only [CRel] at hl ⊢
  obtain ⟨x, ys, rfl, h3, h4, h5⟩ := hl
  exact ⟨x, ys, rfl, h3, h1 _ _ _ _ h4, h5.sub h2⟩
theorem ak.len : ∀ {vs us : List V}, ak vs us → us.length = vs.length
 | [], us, h => by simp only [ak] at h; subst h; rfl
 | v :: r, us, h => by
  simp only [ak] at h
  obtain ⟨u, q, rfl, _, h2⟩ := h
  simp [h2.len]
def rR (PL : List Nat) : List (Nat × Ob) → List Nat → Bool
 | [], _ => true
 | (i, o) :: r, pv => (!gE PL i o || pv.contains i) && rR PL r pv
theorem sp {PL : List Nat} : ∀ {es : List (Nat × Ob)} {pv : List Nat}, rR PL es pv = true → ∀ i, gE PL i (aM es i) = true → i ∈ pv
 | [], pv, h, i, hi => by simp [aM, gE] at hi
 | (j, o) :: r, pv, h, i, hi => by
  simp only [rR, Bool.and_eq_true, Bool.or_eq_true, Bool.not_eq_true'] at h
  simp only [aM] at hi
  split at hi
  ·rename_i e
   have := Nat.eq_of_beq_eq_true e
   subst this
   rcases h.1 with h1 | h1
   ·rw [h1] at hi; cases hi
   ·simpa using h1
  ·exact sp h.2 i hi
theorem bg {PL : List Nat} {nx : Nat} {es : List (Nat × Ob)} {pv : List Nat} (h : rR PL es pv = true) : ∀ i, gE PL i ((⟨nx, es⟩ : Hp).get i) = true → i ∈ pv := fun i hi => by
 unfold Hp.get at hi
 split at hi
 ·exact sp h i hi
 ·simp [gE] at hi
def lj (ids : List Nat) : List (Nat × Ob) → List (Nat × Ob)
 | [] => []
 |(j, o) :: r => match ids.contains j with
  | true => lj ids r
  | false => (j, o) :: lj ids r
theorem qB {ids : List Nat} {i : Nat} : ∀ {l : List (Nat × Ob)}, aM (lj ids l) i = aM l i ∨ aM (lj ids l) i = .gone
 | [] => .inl rfl
 | (j, o) :: r => by
  have ih := qB (ids := ids) (i := i) (l := r)
  simp only [lj]
  split
  ·rename_i hc
   by_cases hj : j = i
   ·subst hj
    refine .inr ?_
    have : ∀ l : List (Nat × Ob), aM (lj ids l) j = .gone := fun l => by
     induction l with
     | nil => rfl
     | cons p q ihq =>
      obtain ⟨k, o'⟩ := p
      simp only [lj]
      split
      ·exact ihq
      ·rename_i hk
       have hne : k ≠ j := fun e => by subst e; rw [hc] at hk; cases hk
       simp only [aM, nbF hne]
       exact ihq
    exact this r
   ·simp only [aM, nbF hj]; exact ih
  ·simp only [aM]
   split
   ·exact .inl rfl
   ·exact ih
theorem go_endD {fn : Func} {Post : V → Hp → Prop} {rs : List ResultVar} {vs : List V} {e : Exit} (ids : List Nat) (hT : TabOk P T) (hrs : fn.results = rs.toArray) (hv : pU T H.get F rs = some vs) (hP : Post (ra vs) ⟨H.nx, lj ids H.es⟩) (he : e = .ret ∨ e = .normal := by first | exact .inl rfl | exact .inr rfl) : Go P K (bodyPost P fn (SP K Post)) (.ex e) [] n F H := fun S w ρ a hr hi hF => by
 have hh : ∀ i, (⟨H.nx, lj ids H.es⟩ : Hp).get i = H.get i ∨ (⟨H.nx, lj ids H.es⟩ : Hp).get i = .gone := fun i => by
  unfold Hp.get
  cases hb : Nat.blt i H.nx
  ·exact .inl rfl
  ·exact qB
 exact ret_go hT he hrs hr hF hv fun x hx => ⟨x, S, ρ, _, _, rfl, hP, hr.drop hh, hi.drop hh, hx⟩
theorem gJ (k : Go P K Q p s n F' H') (σ pv : List Nat) (hp : p.still = true) (hpin : aR K pv) (hF : leF σ F F') (hH : leH σ H H'.es) (hc : (dL σ && Nat.ble σ.length H'.nx && xZ σ pv && Nat.ble F'.length n) = true) : Go P K Q p s n F H := go_sub σ pv hp hpin hF hH hc k
theorem tP {S : Nat → Prop} {w : World} {ρ : Nat → Option Value} {h : Nat → Ob} {nid : Nat} (e : TypeId) (sz : Nat) (hr : HRel S w ρ h) (hf : h nid = .free) : Eff S w w ρ (eK ρ nid (.slice none 0 0)) h (dx h nid (.row e sz [])) (fun _ => False) :=
 eff_new hr hf (Chg.refl _ _) ⟨_, [], bE _ _ _, ⟨by simp, .inl ⟨rfl, rfl⟩⟩, by simp [CRel]⟩ (fun b hb => by
  obtain ⟨v, h1, h2⟩ := hb
  rw [bE] at h1
  cases h1; cases h2)
theorem gNS (d : Nat) (e : TypeId) (sz : Nat) (hp : p.still = true) (hd : F.get d = some .nils) (h1 : F.put d (some (.sl H.nx)) id = F1) (h2 : H.ap (.new (.row e sz [])) id = H1) (k : Go P K Q p s n F1 H1) : Go P K Q p s n F H := by
 rw [Fm.put_eq] at h1; rw [Hp.ap_eq] at h2; subst h1 h2
 intro S w ρ a hr hi hF
 have he := tP e sz hr H.get_free
 have hg : (H.app (.new (.row e sz []))).get = dx H.get H.nx (.row e sz []) := Hp.get_app trivial
 have := k S w (eK ρ H.nx (.slice none 0 0)) a (by rw [id_eq, hg]; exact he.hr) (by rw [id_eq, hg]; exact hi.eff he) (by
  have hu := hF.up he.up
  refine ⟨hu.size, hu.defers, by simpa using hu.len, fun i u hiu => ?_⟩
  rw [id_eq, Fm.get_eq, List.getElem?_set] at hiu
  split at hiu
  ·rename_i e1; subst e1
   split at hiu
   ·simp only [Option.bind_some, id_eq, Option.some.injEq] at hiu
    subst hiu
    obtain ⟨x, h3, h4⟩ := hF.get d _ hd
    simp only [VRel] at h4; subst h4
    exact ⟨_, h3, by simp only [VRel]; exact ⟨bE _ _ _, rfl⟩⟩
   ·cases hiu
  ·exact hu.get i u (by rw [Fm.get_eq]; exact hiu))
 cases p with
 | drw all L m left listed => cases hp
 | code c => exact this
 | ops all rest => exact this
 | ex e => exact this
theorem gNC {t : TypeId} {cs : List V} (id o : Nat) (e : TypeId) (sz : Nat) (hp : p.still = true) (ho : H.get id = .var t cs) (hc : cs[o]? = some .nils) (h2 : (H.ap (.new (.row e sz [])) fun H1 => H1.ap (.set id (.var t (cs.set o (.sl H.nx)))) _root_.id) = H1) (k : Go P K Q p s n F H1) : Go P K Q p s n F H := by
 rw [Hp.ap_eq, Hp.ap_eq] at h2; subst h2
 intro S w ρ a hr hi hF
 have he := tP e sz hr H.get_free
 have hg : (H.app (.new (.row e sz []))).get = dx H.get H.nx (.row e sz []) := Hp.get_app trivial
 have hne : id ≠ H.nx := fun e1 => by subst e1; rw [H.get_free] at ho; cases ho
 have hg1 : (H.app (.new (.row e sz []))).get id = .var t cs := by rw [hg, dp _ _ hne, ho]
 have hg2 : ((H.app (.new (.row e sz []))).app (.set id (.var t (cs.set o (.sl H.nx))))).get = dx (H.app (.new (.row e sz []))).get id (.var t (cs.set o (.sl H.nx))) := Hp.get_app (by exact ⟨by rw [hg1]; simp, by rw [hg1]; simp⟩)
 have h1 : HRel S w (eK ρ H.nx (.slice none 0 0)) (H.app (.new (.row e sz []))).get := by rw [hg]; exact he.hr
 have h2 : Inv K S w (eK ρ H.nx (.slice none 0 0)) (H.app (.new (.row e sz []))).get := by rw [hg]; exact hi.eff he
 have how : ∀ i b, own (eK ρ H.nx (.slice none 0 0)) i (dx (H.app (.new (.row e sz []))).get id (.var t (cs.set o (.sl H.nx))) i) b ↔ own (eK ρ H.nx (.slice none 0 0)) i ((H.app (.new (.row e sz []))).get i) b := fun i b => by
  by_cases hi : i = id
  ·subst hi; rw [cj, hg1]; rfl
  ·rw [dp _ _ hi]
 have := k S w (eK ρ H.nx (.slice none 0 0)) a (by
  rw [id_eq, hg2]
  refine ⟨fun i => ?_, fun i b hb => h1.sep i b ((how i b).1 hb), fun i j b q1 q2 => h1.dis i j b ((how i b).1 q1) ((how j b).1 q2), h1.slt⟩
  by_cases hii : i = id
  ·subst hii
   rw [cj]
   obtain ⟨b, xs, q1, q2, q3⟩ := mf h1 hg1
   obtain ⟨x, q4, q5⟩ := q3.get hc
   simp only [VRel] at q5; subst q5
   refine ⟨b, xs, q1, q2, ?_⟩
   have := q3.set (i := o) (v := .sl H.nx) (x := .slice none 0 0) (by simp only [VRel]; exact ⟨bE _ _ _, rfl⟩)
   have e2 : xs.set o (.slice none 0 0) = xs := by
    obtain ⟨hl, q6⟩ := List.getElem?_eq_some_iff.1 q4
    rw [← q6]; exact List.set_getElem_self ..
   rw [e2] at this; exact this
  ·rw [dp _ _ hii]; exact h1.ob i) (by
  rw [id_eq, hg2]
  exact ⟨h2.chg, h2.s0, h2.s1, fun i b hb => h2.ow i b ((how i b).1 hb), h2.pin⟩) (hF.up he.up)
 cases p with
 | drw all L m left listed => cases hp
 | code c => exact this
 | ops all rest => exact this
 | ex e => exact this
theorem gLB {sz : Nat} {els : List V} {N : Nat} (d : Nat) (hd : F.get d = some (.row sz els)) (hn : els.length = N) (k : N ≤ 9223372036854775807 → Go P K Q p s n F H) : Go P K Q p s n F H := fun S w ρ a hr hi hF => by
 obtain ⟨x, h1, h2⟩ := hF.get d _ hd
 simp only [VRel] at h2
 obtain ⟨A, c, xs, rfl, h3, h4, _⟩ := h2
 exact k (by simp only [maxLen] at h4; omega) S w ρ a hr hi hF
theorem gLO {e : TypeId} {sz : Nat} {els : List V} {N : Nat} (id : Nat) (ho : H.get id = .row e sz els) (hn : els.length = N) (k : N ≤ 9223372036854775807 → Go P K Q p s n F H) : Go P K Q p s n F H := fun S w ρ a hr hi hF => by
 obtain ⟨v, xs, h1, h2, h3⟩ := jv hr ho
 refine k ?_ S w ρ a hr hi hF
 rcases h2.2 with ⟨_, h⟩ | ⟨g, cap, cur, _, _, _, h4, h5, _⟩
 ·omega
 ·simp only [maxLen] at h5; omega
def pq (F : Fm) (y : Option Operand) (i : Nat) (dflt : Nat) : Prop := (y = none ∧ i = dflt) ∨ ∃ z, y = some z ∧ bd F z = some (.int .i64 (i : Int))
theorem Ah {i : Nat} : pq F none i i := .inl ⟨rfl, rfl⟩
theorem zr {z : Operand} {i d : Nat} (h : bd F z = some (.int .i64 (i : Int))) : pq F (some z) i d := .inr ⟨z, rfl, h⟩
theorem wb {S : Nat → Prop} {w : World} {ρ : Nat → Option Value} {a : Act} (hF : FRel S w ρ a n F) {y : Option Operand} {i d : Nat} (h : pq F y i d) : (y = none ∧ i = d) ∨ ∃ z, y = some z ∧ Opd S w ρ a z (.int .i64 (i : Int)) := h.imp _root_.id fun ⟨z, e, h⟩ => ⟨z, e, au hF h⟩
theorem ySR (hT : TabOk P T) {t e : TypeId} {x : Operand} {lo hi : Option Operand} {sz i j : Nat} {els els' : List V} {ty : TypeId} (ht : slT T t = some (e, sz)) (hx : bd F x = some (.row sz els)) (hlo : pq F lo i 0) (hhi : pq F hi j els.length) (hij : i ≤ j) (hj : j ≤ els.length) (he : (els.drop i).take (j - i) = els') : ∀ S w ρ a, HRel S w ρ H.get → FRel S w ρ a n F → Yld P S w ρ a ty (.slice t x lo hi none) (.row sz els') := fun S w ρ a hr hF => by
 subst he
 exact yc hF.fr (nz hT ht).1 (nz hT ht).2 (au hF hx) (wb hF hlo) (wb hF hhi) hij hj
theorem An {t e : TypeId} {x : Operand} {lo hi : Option Operand} {sz i j N : Nat} {els els' : List V} {ty : TypeId} (hn : els.length = N) (hT : TabOk P T) (ht : slT T t = some (e, sz)) (hx : bd F x = some (.row sz els)) (hlo : pq F lo i 0) (hhi : pq F hi j N) (hij : i ≤ j) (hj : j ≤ N) (he : (els.drop i).take (j - i) = els') : ∀ S w ρ a, HRel S w ρ H.get → FRel S w ρ a n F → Yld P S w ρ a ty (.slice t x lo hi none) (.row sz els') := by
 subst hn; exact ySR hT ht hx hlo hhi hij hj he
theorem xO {α : Type} (l : List α) (i : Nat) : (l.drop i).take (l.length - i) = l.drop i := by
 rw [List.take_of_length_le (by simp)]
theorem xf {α : Type} (l : List α) (j : Nat) : (l.drop 0).take (j - 0) = l.take j := by simp
theorem aY {t e : TypeId} {x y : Operand} {sz i : Nat} {els cs : List V} {v : V} {ty : TypeId} (hi : els[i]? = some v) (hT : TabOk P T) (ht : slT T t = some (e, sz)) (hx : bd F x = some (.row sz els)) (hy : bd F y = some (.int .i64 (i : Int))) (hc : v.cells = cs) : ∀ S w ρ a, HRel S w ρ H.get → FRel S w ρ a n F → Yld P S w ρ a ty (.indexAddr t x y) (.box cs 0) := by
 subst hc; exact yIR hT ht hx hy hi
theorem df {PL : List Nat} {fid : FuncId} {vs us : List V} {v : V} {H0 G : Hp} (hS : bW PL P fid us H0 (fun u G' => u = v ∧ G' = G)) (σ : List Nat) (hv : ak vs (renL σ us)) (hH : leH σ H H0.es) (hc : (dL σ && Nat.beq σ.length H0.nx && σ.all fun i => Nat.blt i H.nx) = true) (L : List Nat) (hL : (eP H.get L && L.all fun i => !σ.contains i) = true) :
  CallR P K fid vs H L (fun v' H'' => v' = v.ren (sgN PL H.nx H0.get G.nx σ 0) ∧ H'' = js PL H σ H0 G) := fun S w ρ xs hr hi hx =>
 (pw hS σ hv hH hc L hL S w ρ xs hr hi hx).mono fun e w' hh => by
  obtain ⟨x, S', ρ', v', H', h1, ⟨u, G', ⟨q1, q2⟩, e1, e2⟩, h3⟩ := hh
  subst q1 q2
  exact ⟨x, S', ρ', v', H', h1, ⟨e1, e2⟩, h3⟩
theorem ba {o : Oper} {L : List Nat} {ok : Bool} {v : Option V} (ed : ED) (hd : ∀ S w ρ a, HRel S w ρ H.get → FRel S w ρ a n F → Does P S w ρ H.get a o.type o.op v (ed.app H.get H.nx) ed.tch) (hl : ed.ok H.get) (hc : ((eP H.get L && ed.clear L) || ok) = true) : qC P K o L ok n F H (v.getD (.tup [])) (H.app ed) := fun S w ρ a hr hi hF Q' K2 k => by
 obtain ⟨nx, w', ρ', h1, h2, h3⟩ := hd S w ρ a hr hF
 have hr' := h2.hr
 have hi' := hi.eff h2
 rw [← Hp.get_app hl] at hr' hi'
 have hLs : Ls ρ L w w' ∨ ok = true := (rQ hc).imp (fun h => by
  simp only [Bool.and_eq_true] at h
  exact su hr h2 h.1 h.2) _root_.id
 have kk := fun x hx => k x S w' ρ' hr' hi' h2.up (mg hr h2) hLs hx
 obtain ⟨d, op, ty, ps, af, g⟩ := o
 unfold Oper.wp
 rw [h1 d ps af g]
 cases v with
 | none =>
  subst h3
  exact kk undef oe
 | some v =>
  obtain ⟨x, rfl, h4⟩ := h3
  exact kk x h4
theorem yM {f : Nat → Option Value} {a : Act} {w : World} {ty : TypeId} {t e : TypeId} {x y : Operand} {b o len sz r : Nat} {i : Int} {k : Nat} (h : Fr a n f) (ht : P.underlying t = some (.array len e)) (hz : (P.info? e).map (·.size) = some sz) (hx : aX f x = some (.pointer (some ⟨b, o, none⟩))) (hy : aX f y = some (.int .i64 i))
  (hk : i = (k : Int)) (hlt : k < len) (hr : o + k * sz = r) : Runs P a ty (.indexAddr t x y) w (.value (.pointer (some ⟨b, r, none⟩))) w := fun _ _ _ _ => by
 obtain ⟨inf, hi, hs⟩ := Option.map_eq_some_iff.1 hz
 have hso : (sizeOf e).run P w = .ok sz w := by simp [sizeOf, typeInfo, hi, hs]
 subst hk hr
 simp only [execOp, h.eval hx, h.eval hy]
 simp [Instr.indexAt, asIntOf, run_underlying ht, Instr.sureAddr, hso, hlt, la]
theorem LRel.sub {S : Nat → Prop} {w : World} {ρ : Nat → Option Value} {vs : List V} {xs : List Value} (h : LRel S w ρ vs xs) (i j : Nat) : LRel S w ρ ((vs.drop i).take j) ((xs.drop i).take j) := (h.drop i).take j
theorem yIA (hT : TabOk P T) {t e : TypeId} {x y : Operand} {len sz k o : Nat} {cs cs' : List V} {td tz : TD} {ty : TypeId} (ht : T.ty t = some tz) (hk : (match tz.kind with | .arr l e' => Nat.beq l len && Nat.beq e e' | _ => false) = true) (hte : T.ty e = some td) (hsz : td.size = sz) (hx : bd F x = some (.box cs o)) (hy : bd F y = some (.int .i64 (k : Int))) (hlt : k < len) (hc : (cs.drop (o + k * sz)).take sz = cs') (hl : o + k * sz + sz ≤ cs.length) :
  ∀ S w ρ a, HRel S w ρ H.get → FRel S w ρ a n F → Yld P S w ρ a ty (.indexAddr t x y) (.box cs' 0) := fun S w ρ a hr hF => by
 subst hc hsz
 obtain ⟨y0, h1, h2⟩ := au hF hx
 simp only [VRel] at h2
 obtain ⟨b, off, xs, rfl, hS, hb, hl2, hcell⟩ := h2
 have harr : P.underlying t = some (.array len e) := by
  split at hk
  ·rename_i l e' he'
   simp only [Bool.and_eq_true] at hk
   have h3 := Nat.eq_of_beq_eq_true hk.1
   have h4 := Nat.eq_of_beq_eq_true hk.2
   subst h3 h4
   exact (hT.ty _ _ ht).arr he'
  ·cases hk
 refine ⟨_, ?_, fun w' _ => yM hF.fr harr (hT.ty _ _ hte).size h1 (bR (au hF hy)) rfl hlt rfl⟩
 simp only [VRel]
 refine ⟨b, off + o + k * td.size, (xs.drop (o + k * td.size)).take td.size, by simp, hS, hb, hl2.sub _ _, fun j hj => ?_⟩
 have hxl := hl2.length
 simp only [List.length_take, List.length_drop] at hj
 rw [show off + o + k * td.size + j = off + (o + k * td.size + j) by omega, hcell _ (by omega), List.getElem?_take, if_pos (by omega), List.getElem?_drop]
theorem uk : ∀ {l : List (List UInt8)} {k : Nat} {s : List UInt8}, l[k]? = some s → ((l.map V.str).drop (0 + k * 1)).take 1 = [V.str s] ∧ 0 + k * 1 + 1 ≤ (l.map V.str).length ∧ k < l.length
 | [], k, s, h => by simp at h
 | x :: r, 0, s, h => by simp at h; subst h; simp
 | x :: r, k + 1, s, h => by
  have := uk (l := r) (k := k) (s := s) (by simpa using h)
  simp only [Nat.mul_one, Nat.zero_add, List.map_cons, List.drop_succ_cons, List.length_cons] at this ⊢
  exact ⟨this.1, by omega, by omega⟩
theorem gYd {v : V} (i : Nat) (hi : all[i]? = some o) (hc : (!Nat.beq i m && Region.free .any all listed i && (Region.ready .any all listed).contains i) = true) (hy : ∀ S w ρ a, HRel S w ρ H.get → FRel S w ρ a n F → Yld P S w ρ a o.type o.op v) (hw : cr F all o.guard = some true) (h1 : F.puto o.dst (some v) id = F1) (k : Go P K Q (.drw all L m fuel (listed.setIfInBounds i true)) s n F1 H) : Go P K Q (.drw all L m (fuel + 1) listed) s n F H := by
 rw [Fm.puto_eq] at h1; subst h1
 simp only [Bool.and_eq_true, Bool.not_eq_true'] at hc
 exact yg hc.1.1 hi hc.1.2 hc.2 hw hy k
theorem cu {v : V} (i : Nat) (hi : all[i]? = some o) (hrd : Region.ready .any all listed = [i]) (hy : ∀ S w ρ a, HRel S w ρ H.get → FRel S w ρ a n F → Yld P S w ρ a o.type o.op v) (hw : cr F all o.guard = some true) (h1 : F.puto o.dst (some v) id = F1) (k : Go P K Q (.drw all L m fuel (listed.setIfInBounds i true)) s n F1 H) : Go P K Q (.drw all L m (fuel + 1) listed) s n F H := by
 rw [Fm.puto_eq] at h1; subst h1
 exact vw hrd hi hw hy k
theorem gDo {v : Option V} (ed : ED) (hd : ∀ S w ρ a, HRel S w ρ H.get → FRel S w ρ a n F → Does P S w ρ H.get a o.type o.op v (ed.app H.get H.nx) ed.tch) (hl : ed.ok H.get) (hw : cr F all o.guard = some true) (h1 : F.puto o.dst (sP v) id = F1) (h2 : H.ap ed id = H1) (k : Go P K Q (.ops all rest) s n F1 H1) : Go P K Q (.ops all (o :: rest)) s n F H := by
 rw [Fm.puto_eq] at h1; rw [Hp.ap_eq] at h2; subst h1 h2
 exact go_opD hw hd hl k
theorem ax {v : Option V} (i : Nat) (ed : ED) (hi : all[i]? = some o) (hrd : Region.ready .any all listed = [i]) (hd : ∀ S w ρ a, HRel S w ρ H.get → FRel S w ρ a n F → Does P S w ρ H.get a o.type o.op v (ed.app H.get H.nx) ed.tch) (hl : ed.ok H.get) (hw : cr F all o.guard = some true) (hc : ((eP H.get L && ed.clear L) || (listed.setIfInBounds i true).getD m false) = true) (h1 : F.puto o.dst (sP v) id = F1) (h2 : H.ap ed id = H1) (k : Go P K Q (.drw all L m fuel (listed.setIfInBounds i true)) s n F1 H1) : Go P K Q (.drw all L m (fuel + 1) listed) s n F H := by
 rw [Fm.puto_eq] at h1; rw [Hp.ap_eq] at h2; subst h1 h2
 exact sg hrd hi hw hd hl hc k
theorem bu {t e : TypeId} {x y : Operand} {sz by_ id : Nat} {els news els' : List V} {v : V} {ty : TypeId} (hT : TabOk P T) (ht : slB T t = some (e, sz, by_)) (hx : bd F x = some (.sl id)) (ho : H.get id = .row e sz els) (hy : bd F y = some v) (hs : pm H.get sz v = some news) (he : els ++ news = els') (hb : els'.length ≤ 1000000000) :
  ∀ S w ρ a, HRel S w ρ H.get → FRel S w ρ a n F → Does P S w ρ H.get a ty (.call { callee := .builtin .append, args := #[x, y], argTypes := #[t, t] }) (some (.sl H.nx)) ((ED.repl id (.row e sz els')).app H.get H.nx) (ED.repl id (.row e sz els')).tch := by
 subst he
 exact dAp hT ht hx ho hy hs (by simpa using hb)
theorem ll {t e : TypeId} {x y : Operand} {sz by_ : Nat} {news els' : List V} {v : V} {ty : TypeId} (hT : TabOk P T) (ht : slB T t = some (e, sz, by_)) (hx : bd F x = some .nils) (hy : bd F y = some v) (hs : pm H.get sz v = some news) (he : news = els') (hb : els'.length ≤ 1000000000) :
  ∀ S w ρ a, HRel S w ρ H.get → FRel S w ρ a n F → Does P S w ρ H.get a ty (.call { callee := .builtin .append, args := #[x, y], argTypes := #[t, t] }) (some (.sl H.nx)) ((ED.new (.row e sz els')).app H.get H.nx) (ED.new (.row e sz els')).tch := by
 subst he
 exact Ba hT ht hx hy hs hb
theorem okR {e : TypeId} {sz : Nat} {els : List V} {id : Nat} {o' : Ob} (ho : H.get id = .row e sz els) : (ED.repl id o').ok H.get := by exact ⟨by rw [ho]; simp, by rw [ho]; simp⟩
theorem okS {e : TypeId} {sz : Nat} {els : List V} {id : Nat} {o' : Ob} (ho : H.get id = .row e sz els) : (ED.set id o').ok H.get := by exact ⟨by rw [ho]; simp, by rw [ho]; simp⟩
theorem dSe (hT : TabOk P T) {t e : TypeId} {x y : Operand} {id sz i o : Nat} {els els' : List V} {v0 v : V} {td : TD} {ty : TypeId} (ht : T.ty t = some td) (hx : bd F x = some (.el id sz i o)) (hy : bd F y = some v) (ho : H.get id = .row e sz els) (hi : els[i]? = some v0) (hc : (Nat.beq v.cells.length td.size && v.cells.all V.one && Nat.ble (o + td.size) v0.cells.length && (match v0 with | .agg _ => true | v0 => v0.one && v.one)) = true) (he : els.set i (v0.over o v.cells) = els') :
  ∀ S w ρ a, HRel S w ρ H.get → FRel S w ρ a n F → Does P S w ρ H.get a ty (.store t x y) none ((ED.set id (.row e sz els')).app H.get H.nx) (ED.set id (.row e sz els')).tch := fun S w ρ a hr hF => by
 subst he
 simp only [Bool.and_eq_true] at hc
 obtain ⟨⟨⟨h1, h2⟩, h3⟩, h4⟩ := hc
 exact pN hr hF.fr (au hF hx) (au hF hy) ho (hT.ty _ _ ht).size hi (Nat.eq_of_beq_eq_true h1) h2 (Nat.le_of_ble_eq_true h3) (by
  cases v0 with
  | agg cs => exact .inl ⟨cs, rfl⟩
  | _ => simp only [Bool.and_eq_true] at h4; exact .inr ⟨nK h4.1, nK h4.2⟩)
theorem dMk (hT : TabOk P T) {t e : TypeId} {x y : Operand} {m sz : Nat} {z0 : V} {td : TD} {tz : TD} {ty : TypeId} (ht : T.ty t = some tz) (hk : (match tz.kind with | .sl e' => Nat.beq e e' | _ => false) = true) (hte : T.ty e = some td) (hx : bd F x = some (.int .i64 (m : Int))) (hy : bd F y = some (.int .i64 (m : Int))) (hsz : td.size = sz) (hz0 : td.zero = z0) (hc : (Nat.blt 0 td.size && Nat.ble td.bytes 1000) = true) (hm : m ≤ 1000000000) :
  ∀ S w ρ a, HRel S w ρ H.get → FRel S w ρ a n F → Does P S w ρ H.get a ty (.makeSlice t x y) (some (.sl H.nx)) ((ED.new (.row e sz (List.replicate m z0))).app H.get H.nx) (ED.new (.row e sz (List.replicate m z0))).tch := fun S w ρ a hr hF => by
 subst hsz hz0
 simp only [Bool.and_eq_true, Nat.blt_eq] at hc
 obtain ⟨z, h1, h2, h3, h4⟩ := (hT.ty _ _ hte).info
 have hsl : P.underlying t = some (.slice e) := by
  split at hk
  ·rename_i e' he'
   have := Nat.eq_of_beq_eq_true hk
   subst this
   exact (hT.ty _ _ ht).sl he'
  ·cases hk
 have hb : td.bytes ≤ 1000 := Nat.le_of_ble_eq_true hc.2
 exact wh hr hF.fr H.get_free (au hF hx) (au hF hy) hsl h1 h3 hc.1 h4 h2 (Nat.le_trans (Nat.mul_le_mul hb hm) (by decide)) (by simp only [maxLen]; omega)
end
abbrev qS (f : FuncId) (a : List V) (r : V) : Prop := nd Try.prog f a r
abbrev qLG (K : Ctx) (fn : Func) (Q : V → Hp → Prop) (c : Code) (s : List EI) (n : Nat) (F : Fm) (H : Hp) : Prop := Go Try.prog K (bodyPost Try.prog fn (SP K Q)) (.code c) s n F H
section
variable {P : Program} {K : Ctx} {Q : Exit → Act → World → Prop} {p : EP} {s : List EI} {n : Nat} {F F1 F2 F3 F4 : Fm} {H : Hp}
theorem qBh {e : Bool} {A B C D : Prop} (d : Nat) (hd : F.get d = some (.bool e)) (h1 : F.put d (some (.bool true)) id = F1) (h2 : F.put d (some (.bool false)) id = F2) (h : (A → C) ∧ (B → D)) (a : e = true → A) (b : e = false → B) (kT : C → Go P K Q p s n F1 H) (kF : D → Go P K Q p s n F2 H) : Go P K Q p s n F H := gB d hd h1 h2 (fun z => kT (h.1 (a z))) (fun z => kF (h.2 (b z)))
theorem qBi {e : Bool} {C D : Prop} (d : Nat) (hd : F.get d = some (.bool e)) (h1 : F.put d (some (.bool true)) id = F1) (h2 : F.put d (some (.bool false)) id = F2) (h : (e = true → C) ∧ (e = false → D)) (kT : C → Go P K Q p s n F1 H) (kF : D → Go P K Q p s n F2 H) : Go P K Q p s n F H := qBh d hd h1 h2 h id id kT kF
theorem qBe {α : Type} [BEq α] [LawfulBEq α] {x y : α} {C D : Prop} (d : Nat) (hd : F.get d = some (.bool (x == y))) (h1 : F.put d (some (.bool true)) id = F1) (h2 : F.put d (some (.bool false)) id = F2) (h : (x = y → C) ∧ (x ≠ y → D)) (kT : C → Go P K Q p s n F1 H) (kF : D → Go P K Q p s n F2 H) : Go P K Q p s n F H := qBh d hd h1 h2 h eq_of_beq ne_of_beq_false kT kF
theorem qBd {x : Prop} [Decidable x] {C D : Prop} (d : Nat) (hd : F.get d = some (.bool (decide x))) (h1 : F.put d (some (.bool true)) id = F1) (h2 : F.put d (some (.bool false)) id = F2) (h : (x → C) ∧ (¬ x → D)) (kT : C → Go P K Q p s n F1 H) (kF : D → Go P K Q p s n F2 H) : Go P K Q p s n F H := qBh d hd h1 h2 h of_decide_eq_true of_decide_eq_false kT kF
theorem qBhZ {e : Bool} {A B C D : Prop} (d i : Nat) (hd : F.get d = some (.bool e)) (hi : Fm.get (F.set d none) i = some (.bool e)) (h1 : F.put d (some (.bool true)) (fun F => F.put i (some (.bool true)) id) = F3) (h2 : F.put d (some (.bool false)) (fun F => F.put i (some (.bool false)) id) = F4) (h : (A → C) ∧ (B → D)) (a : e = true → A) (b : e = false → B) (kT : C → Go P K Q p s n F3 H) (kF : D → Go P K Q p s n F4 H) : Go P K Q p s n F H := by
 rw [Fm.put_eq, Fm.put_eq] at h1 h2
 have w (v : V) : Fm.get (F.set d (some v)) i = some (.bool e) := by
  rw [Fm.get_eq, List.getElem?_set] at hi ⊢
  split at hi
  · split at hi <;> simp at hi
  · rename_i e; rw [if_neg e]; exact hi
 exact gB d hd (Fm.put_eq ..) (Fm.put_eq ..) (fun z => gT i (w _) z ((Fm.put_eq ..).trans h1) (kT (h.1 (a z)))) (fun z => gF i (w _) z ((Fm.put_eq ..).trans h2) (kF (h.2 (b z))))
theorem qBiZ {e : Bool} {C D : Prop} (d i : Nat) (hd : F.get d = some (.bool e)) (hi : Fm.get (F.set d none) i = some (.bool e)) (h1 : F.put d (some (.bool true)) (fun F => F.put i (some (.bool true)) id) = F3) (h2 : F.put d (some (.bool false)) (fun F => F.put i (some (.bool false)) id) = F4) (h : (e = true → C) ∧ (e = false → D)) (kT : C → Go P K Q p s n F3 H) (kF : D → Go P K Q p s n F4 H) : Go P K Q p s n F H := qBhZ d i hd hi h1 h2 h id id kT kF
theorem qBeZ {α : Type} [BEq α] [LawfulBEq α] {x y : α} {C D : Prop} (d i : Nat) (hd : F.get d = some (.bool (x == y))) (hi : Fm.get (F.set d none) i = some (.bool (x == y))) (h1 : F.put d (some (.bool true)) (fun F => F.put i (some (.bool true)) id) = F3) (h2 : F.put d (some (.bool false)) (fun F => F.put i (some (.bool false)) id) = F4) (h : (x = y → C) ∧ (x ≠ y → D)) (kT : C → Go P K Q p s n F3 H) (kF : D → Go P K Q p s n F4 H) : Go P K Q p s n F H := qBhZ d i hd hi h1 h2 h eq_of_beq ne_of_beq_false kT kF
theorem qBdZ {x : Prop} [Decidable x] {C D : Prop} (d i : Nat) (hd : F.get d = some (.bool (decide x))) (hi : Fm.get (F.set d none) i = some (.bool (decide x))) (h1 : F.put d (some (.bool true)) (fun F => F.put i (some (.bool true)) id) = F3) (h2 : F.put d (some (.bool false)) (fun F => F.put i (some (.bool false)) id) = F4) (h : (x → C) ∧ (¬ x → D)) (kT : C → Go P K Q p s n F3 H) (kF : D → Go P K Q p s n F4 H) : Go P K Q p s n F H := qBhZ d i hd hi h1 h2 h of_decide_eq_true of_decide_eq_false kT kF
end
section
variable {K : Ctx} {Q : Exit → Act → World → Prop} {s : List EI} {n : Nat} {F : Fm} {H H0 H1 : Hp} {all : Array Oper} {rest : List Oper} {L PL : List Nat} {m fuel : Nat} {listed : Array Bool} {fid : FuncId} {args : List Operand} {tys : Array TypeId} {vs us : List V} {v1 : V} {d : Option Tmp} {ty : TypeId} {ps : String} {af : Array Edge} {g : Option (Nat × Bool)}
theorem gCZ (hS : bW PL Try.prog fid us H0 (fun v H' => v = v1 ∧ H' = H1)) (σ : List Nat) (hH : leH σ H H0.es) (k : Go Try.prog K Q (.ops all rest) s n (F.seto d (some (v1.ren (sgN PL H.nx H0.get H1.nx σ 0)))) (js PL H σ H0 H1)) (he : ek Try.prog fid = true := by kernel_rfl) (hw : cr F all g = some true := by rfl) (hv : gx F args = some vs := by rfl) (hs : ak vs (renL σ us) := by exact .rfl) (hc : (dL σ && Nat.beq σ.length H0.nx && σ.all fun i => Nat.blt i H.nx) = true := by rfl) : Go Try.prog K Q (.ops all (⟨d, .call { callee := .value (.func fid), args := args.toArray, argTypes := tys }, ty, ps, af, g⟩ :: rest)) s n F H := gC hS σ he hw hv hs hH hc fun _ _ ⟨e1, e2⟩ => by subst e1 e2; exact k
theorem gCY (hS : bW PL Try.prog fid us H0 (fun v H' => v = v1 ∧ H' = H1)) (σ : List Nat) (k : Go Try.prog K Q (.ops all rest) s n (F.seto d (some (v1.ren (sgN PL H.nx H0.get H1.nx σ 0)))) (js PL H σ H0 H1)) (he : ek Try.prog fid = true := by kernel_rfl) (hw : cr F all g = some true := by rfl) (hv : gx F args = some vs := by rfl) (hs : ak vs (renL σ us) := by exact .rfl) (hH : leH σ H H0.es := by exact ⟨⟨_, rfl, ⟨rfl, ak.rfl⟩⟩, trivial⟩) (hc : (dL σ && Nat.beq σ.length H0.nx && σ.all fun i => Nat.blt i H.nx) = true := by rfl) : Go Try.prog K Q (.ops all (⟨d, .call { callee := .value (.func fid), args := args.toArray, argTypes := tys }, ty, ps, af, g⟩ :: rest)) s n F H := gCZ hS σ hH k he hw hv hs hc
theorem gDCZ (i : Nat) (hS : bW PL Try.prog fid us H0 (fun v H' => v = v1 ∧ H' = H1)) (σ : List Nat) (hi : all[i]? = some ⟨d, .call { callee := .value (.func fid), args := args.toArray, argTypes := tys }, ty, ps, af, g⟩) (hH : leH σ H H0.es) (k : Go Try.prog K Q (.drw all L m fuel (listed.setIfInBounds i true)) s n (F.seto d (some (v1.ren (sgN PL H.nx H0.get H1.nx σ 0)))) (js PL H σ H0 H1)) (he : ek Try.prog fid = true := by kernel_rfl) (hrd : Region.ready .any all listed = [i] := by kernel_rfl) (hw : cr F all g = some true := by rfl) (hv : gx F args = some vs := by rfl) (hs : ak vs (renL σ us) := by exact .rfl) (hc : (dL σ && Nat.beq σ.length H0.nx && σ.all fun i => Nat.blt i H.nx) = true := by kernel_rfl) (hL : (eP H.get L && L.all fun i => !σ.contains i) = true := by rfl) : Go Try.prog K Q (.drw all L m (fuel + 1) listed) s n F H := gDC i hS σ he hi hrd hw hv hs hH hc hL fun _ _ ⟨e1, e2⟩ => by subst e1 e2; exact k
theorem gDCY (i : Nat) (hS : bW PL Try.prog fid us H0 (fun v H' => v = v1 ∧ H' = H1)) (σ : List Nat) (hi : all[i]? = some ⟨d, .call { callee := .value (.func fid), args := args.toArray, argTypes := tys }, ty, ps, af, g⟩) (k : Go Try.prog K Q (.drw all L m fuel (listed.setIfInBounds i true)) s n (F.seto d (some (v1.ren (sgN PL H.nx H0.get H1.nx σ 0)))) (js PL H σ H0 H1)) (he : ek Try.prog fid = true := by kernel_rfl) (hrd : Region.ready .any all listed = [i] := by kernel_rfl) (hw : cr F all g = some true := by rfl) (hv : gx F args = some vs := by rfl) (hs : ak vs (renL σ us) := by exact .rfl) (hH : leH σ H H0.es := by exact ⟨⟨_, rfl, ⟨rfl, ak.rfl⟩⟩, trivial⟩) (hc : (dL σ && Nat.beq σ.length H0.nx && σ.all fun i => Nat.blt i H.nx) = true := by kernel_rfl) (hL : (eP H.get L && L.all fun i => !σ.contains i) = true := by rfl) : Go Try.prog K Q (.drw all L m (fuel + 1) listed) s n F H := gDCZ i hS σ hi hH k he hrd hw hv hs hc hL
end
theorem pqq {v : V} : ∃ u, some v = some u ∧ bU u v := ⟨v, rfl, bU.rfl⟩
theorem pq1 {a0 : V} : (∃ u, some a0 = some u ∧ bU u a0) ∧ True := ⟨pqq, trivial⟩
theorem pq2 {a0 a1 : V} : (∃ u, some a0 = some u ∧ bU u a0) ∧ (∃ u, some a1 = some u ∧ bU u a1) ∧ True := ⟨pqq, pqq, trivial⟩
theorem pq3 {a0 a1 a2 : V} : (∃ u, some a0 = some u ∧ bU u a0) ∧ (∃ u, some a1 = some u ∧ bU u a1) ∧ (∃ u, some a2 = some u ∧ bU u a2) ∧ True := ⟨pqq, pqq, pqq, trivial⟩
theorem pq4 {a0 a1 a2 a3 : V} : (∃ u, some a0 = some u ∧ bU u a0) ∧ (∃ u, some a1 = some u ∧ bU u a1) ∧ (∃ u, some a2 = some u ∧ bU u a2) ∧ (∃ u, some a3 = some u ∧ bU u a3) ∧ True := ⟨pqq, pqq, pqq, pqq, trivial⟩
theorem pq5 {a0 a1 a2 a3 a4 : V} : (∃ u, some a0 = some u ∧ bU u a0) ∧ (∃ u, some a1 = some u ∧ bU u a1) ∧ (∃ u, some a2 = some u ∧ bU u a2) ∧ (∃ u, some a3 = some u ∧ bU u a3) ∧ (∃ u, some a4 = some u ∧ bU u a4) ∧ True := ⟨pqq, pqq, pqq, pqq, pqq, trivial⟩
theorem pq6 {a0 a1 a2 a3 a4 a5 : V} : (∃ u, some a0 = some u ∧ bU u a0) ∧ (∃ u, some a1 = some u ∧ bU u a1) ∧ (∃ u, some a2 = some u ∧ bU u a2) ∧ (∃ u, some a3 = some u ∧ bU u a3) ∧ (∃ u, some a4 = some u ∧ bU u a4) ∧ (∃ u, some a5 = some u ∧ bU u a5) ∧ True := ⟨pqq, pqq, pqq, pqq, pqq, pqq, trivial⟩
theorem pq7 {a0 a1 a2 a3 a4 a5 a6 : V} : (∃ u, some a0 = some u ∧ bU u a0) ∧ (∃ u, some a1 = some u ∧ bU u a1) ∧ (∃ u, some a2 = some u ∧ bU u a2) ∧ (∃ u, some a3 = some u ∧ bU u a3) ∧ (∃ u, some a4 = some u ∧ bU u a4) ∧ (∃ u, some a5 = some u ∧ bU u a5) ∧ (∃ u, some a6 = some u ∧ bU u a6) ∧ True := ⟨pqq, pqq, pqq, pqq, pqq, pqq, pqq, trivial⟩
theorem pqo {H : Hp} {x : Option Nat} {i : Nat} {t : TypeId} {cs : List V} (h1 : x = some i) (h2 : H.get i = .var t cs) : ∃ i, x = some i ∧ gK (H.get i) (.var t cs) := ⟨i, h1, by rw [h2]; exact ⟨rfl, ak.rfl⟩⟩
theorem pqo1 {H : Hp} {x0 : Option Nat} {i0 : Nat} {t0 : TypeId} {c0 : List V} (h0 : x0 = some i0) (k0 : H.get i0 = .var t0 c0) : (∃ i, x0 = some i ∧ gK (H.get i) (.var t0 c0)) ∧ True := ⟨pqo h0 k0, trivial⟩
theorem pqo2 {H : Hp} {x0 : Option Nat} {i0 : Nat} {t0 : TypeId} {c0 : List V} (h0 : x0 = some i0) (k0 : H.get i0 = .var t0 c0) {x1 : Option Nat} {i1 : Nat} {t1 : TypeId} {c1 : List V} (h1 : x1 = some i1) (k1 : H.get i1 = .var t1 c1) : (∃ i, x0 = some i ∧ gK (H.get i) (.var t0 c0)) ∧ (∃ i, x1 = some i ∧ gK (H.get i) (.var t1 c1)) ∧ True := ⟨pqo h0 k0, pqo h1 k1, trivial⟩
theorem pqo3 {H : Hp} {x0 : Option Nat} {i0 : Nat} {t0 : TypeId} {c0 : List V} (h0 : x0 = some i0) (k0 : H.get i0 = .var t0 c0) {x1 : Option Nat} {i1 : Nat} {t1 : TypeId} {c1 : List V} (h1 : x1 = some i1) (k1 : H.get i1 = .var t1 c1) {x2 : Option Nat} {i2 : Nat} {t2 : TypeId} {c2 : List V} (h2 : x2 = some i2) (k2 : H.get i2 = .var t2 c2) : (∃ i, x0 = some i ∧ gK (H.get i) (.var t0 c0)) ∧ (∃ i, x1 = some i ∧ gK (H.get i) (.var t1 c1)) ∧ (∃ i, x2 = some i ∧ gK (H.get i) (.var t2 c2)) ∧ True := ⟨pqo h0 k0, pqo h1 k1, pqo h2 k2, trivial⟩
theorem pqo4 {H : Hp} {x0 : Option Nat} {i0 : Nat} {t0 : TypeId} {c0 : List V} (h0 : x0 = some i0) (k0 : H.get i0 = .var t0 c0) {x1 : Option Nat} {i1 : Nat} {t1 : TypeId} {c1 : List V} (h1 : x1 = some i1) (k1 : H.get i1 = .var t1 c1) {x2 : Option Nat} {i2 : Nat} {t2 : TypeId} {c2 : List V} (h2 : x2 = some i2) (k2 : H.get i2 = .var t2 c2) {x3 : Option Nat} {i3 : Nat} {t3 : TypeId} {c3 : List V} (h3 : x3 = some i3) (k3 : H.get i3 = .var t3 c3) : (∃ i, x0 = some i ∧ gK (H.get i) (.var t0 c0)) ∧ (∃ i, x1 = some i ∧ gK (H.get i) (.var t1 c1)) ∧ (∃ i, x2 = some i ∧ gK (H.get i) (.var t2 c2)) ∧ (∃ i, x3 = some i ∧ gK (H.get i) (.var t3 c3)) ∧ True := ⟨pqo h0 k0, pqo h1 k1, pqo h2 k2, pqo h3 k3, trivial⟩
abbrev xA (c : Code) : Code := cB (cB c)
abbrev xB (c : Code) : Code := cE (cB c)
abbrev xC (c : Code) : Code := xA (xA c)
abbrev xD (c : Code) : Code := xB (xB c)
abbrev xE (c : Code) : Code := cL (cK c)
abbrev xF (c : Code) : Code := xA (cB c)
abbrev xG (c : Code) : Code := xE (cA c)
abbrev xH (c : Code) : Code := cB (cA c)
abbrev xI (c : Code) : Code := cK (xA c)
abbrev xJ (c : Code) : Code := cT (cB c)
abbrev xK (c : Code) : Code := xD (xD c)
abbrev xL (c : Code) : Code := xE (xH c)
theorem zM {P : Program} {K : Ctx} {H : Hp} {fid : FuncId} {vs us : List V} {ik : IntKind} {n : Int} (hS : nd P fid us (.int ik n)) {id sz : Nat} {e : TypeId} {els : List V} (ho : H.get id = .row e sz els) (hp : pureL els = true)
  (hs : ∀ {S S1 : Nat → Prop} {w : World} {ρ : Nat → Option Value} {xs : List Value}, Up S S1 w w ρ ρ → (∀ x, VRel S w ρ (.sl id) x → VRel S1 w ρ (.row sz els) x) → LRel S w ρ vs xs → LRel S1 w ρ us xs) (L : List Nat) (hL : eP H.get L = true) : CallR P K fid vs H L (fun v' H'' => v' = .int ik n ∧ H'' = H) := fun S w ρ xs hr hi hx => by
 obtain ⟨h1, h2, h3⟩ := hS
 obtain ⟨f1, f2⟩ := ia (id := id) hr
 have hx1 := hs f2 (fun x hx => pZ hr ho hp hx) hx
 have hr0 : HRel (fun b => S b ∨ own ρ id (H.get id) b) w ρ0 (⟨0, []⟩ : Hp).get := ⟨fun i => by rw [gG]; rfl, fun i b hb => by rw [gG] at hb; exact hb.elim, fun i j b hb _ => by rw [gG] at hb; exact hb.elim, f1.slt⟩
 refine (h3 _ w ρ0 xs hr0 (hx1.pure h1)).mono fun e w' hR => ?_
 obtain ⟨x, S', ρ', u, H', rfl, rfl, hr', hi', hv⟩ := hR
 have hno : ∀ b, ¬ ∃ id, own ρ0 id ((⟨0, []⟩ : Hp).get id) b := fun b ⟨id, hb⟩ => by rw [gG] at hb; exact hb
 have hc : Chg [] w w' := ⟨hi'.chg.os, hi'.chg.tape, hi'.chg.output, hi'.chg.size, fun b hb _ => hi'.chg.block b hb (hno b)⟩
 have up : Up S S w w' ρ ρ := ⟨fun _ h => h, fun b hb hlt => hc.block b hlt (by simp), fun _ _ h => h⟩
 refine ⟨x, S, ρ, .int ik n, H, rfl, ⟨rfl, rfl⟩, ⟨fun i => (hr.ob i).up up (fun hf => ?_) (fun b hb => hc.block b (fQ (hr.ob i) hb) (by simp)), hr.sep, hr.dis, fun b hb => Nat.lt_of_lt_of_le (hr.slt b hb) hc.size⟩, ⟨hi.chg.trans (ChgP.of hc) (fun b hb => by simp at hb), hi.s0, hi.s1, hi.ow, hi.pin⟩, up, (by simpa only [VRel] using hv), fun id hid y b hy hb => ?_⟩
 ·have := hr.ob i; rw [hf] at this; exact this
 ·exact hc.block b (fQ (hr.ob id) (jS hr hL id hid y b hy hb)) (by simp)
section
variable {T : Tab} {K : Ctx} {Q : Exit → Act → World → Prop} {s : List EI} {n : Nat} {F F1 : Fm} {H : Hp} {all : Array Oper} {rest : List Oper}
theorem gCL {fid : FuncId} {args : List Operand} {tys : Array TypeId} {k : Int} {tx : List UInt8} {ks : V} {ik : IntKind} {m : Int} {d : Option Tmp} {ty : TypeId} {ps : String} {af : Array Edge} {g : Option (Nat × Bool)} {e : TypeId} {sz : Nat} {els : List V} (i0 : Nat) (hS : nd Try.prog fid [.agg [.int .i64 k, .str tx, .row sz els, ks]] (.int ik m)) (he : ek Try.prog fid = true) (hw : cr F all g = some true) (hv : gx F args = some [.agg [.int .i64 k, .str tx, .sl i0, ks]]) (ho : H.get i0 = .row e sz els) (hp : pureL els = true) (h1 : F.puto d (some (.int ik m)) id = F1)
  (kk : Go Try.prog K Q (.ops all rest) s n F1 H) : Go Try.prog K Q (.ops all (⟨d, .call { callee := .value (.func fid), args := args.toArray, argTypes := tys }, ty, ps, af, g⟩ :: rest)) s n F H := by
 rw [Fm.puto_eq] at h1; subst h1
 refine go_opC (o := ⟨d, .call { callee := .value (.func fid), args := args.toArray, argTypes := tys }, ty, ps, af, g⟩) he rfl hw hv (zM hS ho hp (fun up f h => ?_) [] rfl) fun v' H'' ⟨e1, e2⟩ => by subst e1 e2; exact kk
 rw [LRel] at h ⊢
 obtain ⟨x, ys, e0, h1, h2⟩ := h
 rw [VRel] at h1
 obtain ⟨xs, e1, h3⟩ := h1
 refine ⟨x, ys, e0, ?_, by simpa only [LRel] using h2⟩
 rw [VRel]
 refine ⟨xs, e1, ?_⟩
 rw [LRel] at h3 ⊢
 obtain ⟨x1, y1, a1, b1, h3⟩ := h3
 refine ⟨x1, y1, a1, by simpa only [VRel] using b1, ?_⟩
 rw [LRel] at h3 ⊢
 obtain ⟨x2, y2, a2, b2, h3⟩ := h3
 refine ⟨x2, y2, a2, by simpa only [VRel] using b2, ?_⟩
 rw [LRel] at h3 ⊢
 obtain ⟨x3, y3, a3, b3, h3⟩ := h3
 refine ⟨x3, y3, a3, f _ b3, ?_⟩
 rw [LRel] at h3 ⊢
 obtain ⟨x4, y4, a4, b4, h3⟩ := h3
 exact ⟨x4, y4, a4, b4.up up, by simpa only [LRel] using h3⟩
end
def tw (p0 : List UInt8) (r0 : Int) : Prop := qS 56 [.str p0] (.int .i64 r0)
def fJ (p0 p1 r0 : Int) : Prop := qS 9 [.int .i64 p0, .int .i64 p1] (.int .i64 r0)
def eO (p0 p1 p2 r0 : Int) : Prop := qS 19 [.int .i64 p0, .int .i64 p1, .int .i64 p2] (.int .i64 r0)
def iA (p0 : Int) (r0 : Bool) : Prop := qS 59 [.int .i64 p0] (.bool r0)
def dT (p0 : Int) (r0 : Bool) : Prop := qS 58 [.int .i64 p0] (.bool r0)
def kh (p0 : Int) (r0 : Bool) : Prop := qS 60 [.int .i64 p0] (.bool r0)
def gA (p0 : List UInt8) (r0 : Bool) : Prop := qS 57 [.str p0] (.bool r0)
def kf (p0 : Int) (p1 : List UInt8) (r0 : Bool) : Prop := qS 35 [.int .i64 p0, .str p1] (.bool r0)
def kM (p0 : Tree) (p1 : Int) (r0 : Bool) : Prop := qS 36 [.agg (ar p0), .int .i64 p1] (.bool r0)
def iM (p0 : Tree) (r0 : Bool) : Prop := qS 16 [.agg (ar p0)] (.bool r0)
def fW (p0 : List UInt8) (r0 : Bool) : Prop := qS 81 [.str p0] (.bool r0)
def aO (m : Nat) (p1 : Int) (a b c : Nat) (d r0 : Int) : Prop := ∀ (K : Ctx), aR K [] → qLG K Try.f9 (fun u _ => u = .int .i64 r0) (xC (aj Try.f9)) [] 69 (mkF 69 0 [(1, .int .i64 p1), (5, .int .i64 (a : Int)), (6, .int .i64 d), (7, .int .i64 (b : Int)), (8, .int .i64 (c : Int))]) ⟨0, []⟩
def iG (m : Nat) (p0 p1 : Int) (a : Bool) (r0 : Int) : Prop := ∀ (K : Ctx), aR K [] → qLG K Try.f9 (fun u _ => u = .int .i64 r0) (cB (xK (xB (cK (xH (xF (aj Try.f9))))))) [.blk 0, .seq (xC (aj Try.f9))] 69 (mkF 69 0 [(1, .int .i64 p1), (5, .int .i64 0), (6, .int .i64 0), (7, .int .i64 1), (8, .int .i64 0), (9, .int .i64 p0), (22, .bool a)]) ⟨0, []⟩
def iI (m : Nat) (p1 : Int) (a b c : Nat) (d r0 : Int) : Prop := ∀ (K : Ctx), aR K [] → qLG K Try.f9 (fun u _ => u = .int .i64 r0) (xC (cB (aj Try.f9))) [] 69 (mkF 69 0 [(1, .int .i64 p1), (5, .int .i64 (a : Int)), (6, .int .i64 d), (7, .int .i64 (b : Int)), (8, .int .i64 (c : Int))]) ⟨0, []⟩
theorem qa (m : Nat) (p0 p1 r0 : Int) (h : ((p0 = 1) → ∃ a, eO p1 0 3 a ∧ a = r0) ∧ ((p0 ≠ 1) → ((p0 = 2) → aO m p1 2 6 2 (-1) r0) ∧ ((p0 ≠ 2) → ((p0 = 16) → aO m p1 0 3 0 (-1) r0) ∧ ((p0 ≠ 16) → ((p0 = 18) → aO m p1 1 2 0 (-1) r0) ∧ ((p0 ≠ 18) → ((p0 = 3) → aO m p1 1 3 0 1 r0) ∧ ((p0 ≠ 3) → ((p0 = 4) → iG m p0 p1 true r0) ∧ ((p0 ≠ 4) → ((p0 = 8) → iG m p0 p1 true r0) ∧ ((p0 ≠ 8) → iG m p0 p1 (p0 == 22) r0)))))))) : fJ p0 p1 r0 := by
 refine ⟨rfl, rfl, ?_⟩
 refine az 69 [] Try.func9 rfl rfl rfl (bg rfl) fun K hK => ?_
 refine gR 30 rfl <| qBeZ 10 11 rfl rfl rfl rfl h (fun h => ?_) fun h => ?_
 refine gR 4 rfl ?_
 obtain ⟨a, hs17, h⟩ := h
 refine gC0 hs17 (by kernel_rfl) rfl rfl .rfl rfl <| gR 6 rfl ?_
 subst h
 exact go_end aa (rs := [.tmp 4]) rfl rfl rfl
 refine gR 7 rfl <| qBeZ 14 15 rfl rfl rfl rfl h (fun h => ?_) fun h => ?_
 exact gR 9 rfl <| gJ (h K hK) [] [] rfl hK pq5 trivial rfl
 refine gR 7 rfl <| qBeZ 16 17 rfl rfl rfl rfl h (fun h => ?_) fun h => ?_
 exact gR 9 rfl <| gJ (h K hK) [] [] rfl hK pq5 trivial rfl
 refine gR 7 rfl <| qBeZ 18 19 rfl rfl rfl rfl h (fun h => ?_) fun h => ?_
 exact gR 9 rfl <| gJ (h K hK) [] [] rfl hK pq5 trivial rfl
 refine gR 7 rfl <| qBeZ 20 21 rfl rfl rfl rfl h (fun h => ?_) fun h => ?_
 exact gR 8 rfl <| gJ (h K hK) [] [] rfl hK pq5 trivial rfl
 refine gR 8 rfl <| qBeZ 22 23 rfl rfl rfl rfl h (fun h => ?_) fun h => ?_
 exact gR 3 rfl <| gJ (h K hK) [] [] rfl hK pq7 trivial rfl
 refine gR 7 rfl <| qBeZ 22 24 rfl rfl rfl rfl h (fun h => ?_) fun h => ?_
 exact gR 3 rfl <| gJ (h K hK) [] [] rfl hK pq7 trivial rfl
 exact gR 6 rfl <| gJ (h K hK) [] [] rfl hK pq7 trivial rfl
theorem pO (m : Nat) (p1 : Int) (b c d : Nat) (a r0 : Int) (h : ((0 ≤ a) → ((a < p1) → (-1) = r0) ∧ ((¬ a < p1) → iI m p1 b c d a r0)) ∧ ((¬ 0 ≤ a) → iI m p1 b c d a r0)) : aO (m + 1) p1 b c d a r0 := by
 intro K hK
 refine gR 6 rfl <| qBdZ 47 46 rfl rfl rfl rfl h (fun h => ?_) fun h => ?_
 refine gR 6 rfl <| qBd 51 rfl rfl rfl h (fun h => ?_) fun h => ?_
 refine gR 8 rfl ?_
 subst h
 exact go_end aa (rs := [.tmp 4]) rfl rfl rfl
 exact gR 3 rfl <| gJ (h K hK) [] [] rfl hK pq5 trivial rfl
 exact gR 9 rfl <| gJ (h K hK) [] [] rfl hK pq5 trivial rfl
theorem pu (m : Nat) (p0 p1 : Int) (a : Bool) (r0 : Int) (h : ((a = true) → aO m p1 1 2 0 1 r0) ∧ ((a = false) → ((p0 = 17) → aO m p1 1 0 0 1 r0) ∧ ((p0 ≠ 17) → ((p0 = 19) → aO m p1 3 3 0 3 r0) ∧ ((p0 ≠ 19) → ((p0 = 20) → aO m p1 2 4 0 2 r0) ∧ ((p0 ≠ 20) → ((p0 = 21) → aO m p1 2 1 0 2 r0) ∧ ((p0 ≠ 21) → ((p0 = 5) → aO m p1 0 1 0 0 r0) ∧ ((p0 ≠ 5) → ((p0 = 6) → aO m p1 0 1 0 0 r0) ∧ ((p0 ≠ 6) → ((p0 = 7) → aO m p1 0 1 0 0 r0) ∧ ((p0 ≠ 7) → ((p0 = 9) → aO m p1 0 1 0 0 r0) ∧ ((p0 ≠ 9) → ((p0 = 10) → aO m p1 0 1 0 0 r0) ∧ ((p0 ≠ 10) → ((p0 = 11) → aO m p1 0 1 0 0 r0) ∧ ((p0 ≠ 11) → ((p0 = 12) → aO m p1 0 1 0 0 r0) ∧ ((p0 ≠ 12) → ((p0 = 13) → aO m p1 0 1 0 0 r0) ∧ ((p0 ≠ 13) → ((p0 = 14) → aO m p1 0 1 0 0 r0) ∧ ((p0 ≠ 14) → ((p0 = 15) → aO m p1 0 1 0 0 r0) ∧ ((p0 ≠ 15) → (-1) = r0)))))))))))))))) : iG (m + 1) p0 p1 a r0 := by
 intro K hK
 refine qBi 22 rfl rfl rfl h (fun h => ?_) fun h => ?_
 exact gR 8 rfl <| gJ (h K hK) [] [] rfl hK pq5 trivial rfl
 refine gR 7 rfl <| qBeZ 26 27 rfl rfl rfl rfl h (fun h => ?_) fun h => ?_
 exact gR 8 rfl <| gJ (h K hK) [] [] rfl hK pq5 trivial rfl
 refine gR 7 rfl <| qBeZ 28 29 rfl rfl rfl rfl h (fun h => ?_) fun h => ?_
 exact gR 8 rfl <| gJ (h K hK) [] [] rfl hK pq5 trivial rfl
 refine gR 7 rfl <| qBeZ 30 31 rfl rfl rfl rfl h (fun h => ?_) fun h => ?_
 exact gR 8 rfl <| gJ (h K hK) [] [] rfl hK pq5 trivial rfl
 refine gR 7 rfl <| qBeZ 32 33 rfl rfl rfl rfl h (fun h => ?_) fun h => ?_
 exact gR 8 rfl <| gJ (h K hK) [] [] rfl hK pq5 trivial rfl
 refine gR 8 rfl <| qBeZ 34 35 rfl rfl rfl rfl h (fun h => ?_) fun h => ?_
 exact gR 7 rfl <| gJ (h K hK) [] [] rfl hK pq5 trivial rfl
 refine gR 7 rfl <| qBeZ 34 36 rfl rfl rfl rfl h (fun h => ?_) fun h => ?_
 exact gR 7 rfl <| gJ (h K hK) [] [] rfl hK pq5 trivial rfl
 refine gR 7 rfl <| qBeZ 34 37 rfl rfl rfl rfl h (fun h => ?_) fun h => ?_
 exact gR 7 rfl <| gJ (h K hK) [] [] rfl hK pq5 trivial rfl
 refine gR 7 rfl <| qBeZ 34 38 rfl rfl rfl rfl h (fun h => ?_) fun h => ?_
 exact gR 7 rfl <| gJ (h K hK) [] [] rfl hK pq5 trivial rfl
 refine gR 7 rfl <| qBeZ 34 39 rfl rfl rfl rfl h (fun h => ?_) fun h => ?_
 exact gR 7 rfl <| gJ (h K hK) [] [] rfl hK pq5 trivial rfl
 refine gR 7 rfl <| qBeZ 34 40 rfl rfl rfl rfl h (fun h => ?_) fun h => ?_
 exact gR 7 rfl <| gJ (h K hK) [] [] rfl hK pq5 trivial rfl
 refine gR 7 rfl <| qBeZ 34 41 rfl rfl rfl rfl h (fun h => ?_) fun h => ?_
 exact gR 7 rfl <| gJ (h K hK) [] [] rfl hK pq5 trivial rfl
 refine gR 7 rfl <| qBeZ 34 42 rfl rfl rfl rfl h (fun h => ?_) fun h => ?_
 exact gR 7 rfl <| gJ (h K hK) [] [] rfl hK pq5 trivial rfl
 refine gR 7 rfl <| qBeZ 34 43 rfl rfl rfl rfl h (fun h => ?_) fun h => ?_
 exact gR 7 rfl <| gJ (h K hK) [] [] rfl hK pq5 trivial rfl
 refine gR 6 rfl <| qBeZ 34 44 rfl rfl rfl rfl h (fun h => ?_) fun h => ?_
 exact gR 4 rfl <| gJ (h K hK) [] [] rfl hK pq5 trivial rfl
 refine gR 9 rfl ?_
 subst h
 exact go_end aa (rs := [.tmp 4]) rfl rfl rfl
theorem pV (m : Nat) (p1 : Int) (c b a : Nat) (d r0 : Int) (h : ((d < 0) → (((a : Int) < p1) → InI (p1 - (a : Int)) ∧ InI ((p1 - (a : Int)) - 1) ∧ InI ((b : Int) + ((p1 - (a : Int)) - 1)) ∧ ∃ e, eO p1 (c : Int) ((b : Int) + ((p1 - (a : Int)) - 1)) e ∧ e = r0) ∧ ((¬ (a : Int) < p1) → ∃ f, eO p1 (c : Int) (b : Int) f ∧ f = r0)) ∧ ((¬ d < 0) → ∃ g, eO p1 (c : Int) (b : Int) g ∧ g = r0)) : iI (m + 1) p1 c b a d r0 := by
 intro K hK
 refine gR 6 rfl <| qBdZ 54 53 rfl rfl rfl rfl h (fun h => ?_) fun h => ?_
 refine gR 6 rfl <| qBd 58 rfl rfl rfl h (fun h => ?_) fun h => ?_
 refine gR 5 rfl ?_
 obtain ⟨hb, h⟩ := h
 refine gR 1 rfl <| gV 62 (.int .i64 (p1 - (a : Int))) rfl (cM hb rfl) rfl ?_
 obtain ⟨hb, h⟩ := h
 refine gR 1 rfl <| gV 63 (.int .i64 ((p1 - (a : Int)) - 1)) rfl (cM hb rfl) rfl ?_
 obtain ⟨hb, h⟩ := h
 refine gR 1 rfl <| gV 64 (.int .i64 ((b : Int) + ((p1 - (a : Int)) - 1))) rfl (cM hb rfl) rfl <| gR 8 rfl ?_
 obtain ⟨e, hs18, h⟩ := h
 refine gC0 hs18 (by kernel_rfl) rfl rfl .rfl rfl <| gR 4 rfl ?_
 subst h
 exact go_end aa (rs := [.tmp 4]) rfl rfl rfl
 refine gR 8 rfl ?_
 obtain ⟨f, hs19, h⟩ := h
 refine gC0 hs19 (by kernel_rfl) rfl rfl .rfl rfl <| gR 4 rfl ?_
 subst h
 exact go_end aa (rs := [.tmp 4]) rfl rfl rfl
 refine gR 14 rfl ?_
 obtain ⟨g, hs20, h⟩ := h
 refine gC0 hs20 (by kernel_rfl) rfl rfl .rfl rfl <| gR 4 rfl ?_
 subst h
 exact go_end aa (rs := [.tmp 4]) rfl rfl rfl
theorem pb (m : Nat) (p0 p1 p2 r0 : Int) (h : ((p0 < p1) → (-1) = r0) ∧ ((¬ p0 < p1) → p2 = r0)) : eO p0 p1 p2 r0 := by
 refine ⟨rfl, rfl, ?_⟩
 refine az 11 [] Try.func19 rfl rfl rfl (bg rfl) fun K hK => ?_
 refine gR 13 rfl <| qBd 9 rfl rfl rfl h (fun h => ?_) fun h => ?_
 refine gR 8 rfl ?_
 subst h
 exact go_end aa (rs := [.tmp 6]) rfl rfl rfl
 refine gR 10 rfl ?_
 subst h
 exact go_end aa (rs := [.tmp 6]) rfl rfl rfl
theorem pr (m : Nat) (p0 : Int) (r0 : Bool) (h : ((5 ≤ p0) → decide (p0 ≤ 9) = r0) ∧ ((¬ 5 ≤ p0) → false = r0)) : iA p0 r0 := by
 refine ⟨rfl, rfl, ?_⟩
 refine az 9 [] Try.func59 rfl rfl rfl (bg rfl) fun K hK => ?_
 refine gR 10 rfl <| qBdZ 5 4 rfl rfl rfl rfl h (fun h => ?_) fun h => ?_
 refine gR 7 rfl ?_
 subst h
 exact go_end aa (rs := [.tmp 2]) rfl rfl rfl
 refine gR 7 rfl ?_
 subst h
 exact go_end aa (rs := [.tmp 2]) rfl rfl rfl
theorem nc (m : Nat) (p0 : Int) (r0 : Bool) (h : ((10 ≤ p0) → ((p0 ≤ 22) → (p0 != 17) = r0) ∧ ((¬ p0 ≤ 22) → false = r0)) ∧ ((¬ 10 ≤ p0) → false = r0)) : dT p0 r0 := by
 refine ⟨rfl, rfl, ?_⟩
 refine az 13 [] Try.func58 rfl rfl rfl (bg rfl) fun K hK => ?_
 refine gR 10 rfl <| qBdZ 5 4 rfl rfl rfl rfl h (fun h => ?_) fun h => ?_
 refine gR 4 rfl <| qBdZ 9 8 rfl rfl rfl rfl h (fun h => ?_) fun h => ?_
 refine gR 7 rfl ?_
 subst h
 exact go_end aa (rs := [.tmp 2]) rfl rfl rfl
 refine gR 7 rfl ?_
 subst h
 exact go_end aa (rs := [.tmp 2]) rfl rfl rfl
 refine gR 11 rfl ?_
 subst h
 exact go_end aa (rs := [.tmp 2]) rfl rfl rfl
theorem pL (m : Nat) (p0 : Int) (r0 : Bool) (h : ∃ a, dT p0 a ∧ ((a = true) → ((p0 ≠ 19) → ((p0 ≠ 20) → (p0 != 21) = r0) ∧ ((p0 = 20) → false = r0)) ∧ ((p0 = 19) → false = r0)) ∧ ((a = false) → false = r0)) : kh p0 r0 := by
 refine ⟨rfl, rfl, ?_⟩
 refine az 17 [] Try.func60 rfl rfl rfl (bg rfl) fun K hK => ?_
 refine gR 8 rfl ?_
 obtain ⟨a, hs2, h⟩ := h
 refine gC0 hs2 (by kernel_rfl) rfl rfl .rfl rfl <| gR 1 rfl <| qBiZ 5 4 rfl rfl rfl rfl h (fun h => ?_) fun h => ?_
 refine gR 4 rfl <| qBhZ 9 8 rfl rfl rfl rfl h fB dY (fun h => ?_) fun h => ?_
 refine gR 4 rfl <| qBhZ 13 12 rfl rfl rfl rfl h fB dY (fun h => ?_) fun h => ?_
 refine gR 7 rfl ?_
 subst h
 exact go_end aa (rs := [.tmp 2]) rfl rfl rfl
 refine gR 7 rfl ?_
 subst h
 exact go_end aa (rs := [.tmp 2]) rfl rfl rfl
 refine gR 11 rfl ?_
 subst h
 exact go_end aa (rs := [.tmp 2]) rfl rfl rfl
 refine gR 15 rfl ?_
 subst h
 exact go_end aa (rs := [.tmp 2]) rfl rfl rfl
theorem oI (m : Nat) (p0 : List UInt8) (r0 : Bool) (h : ((p0 = [43]) → true = r0) ∧ ((p0 ≠ [43]) → ((p0 = [45]) → true = r0) ∧ ((p0 ≠ [45]) → ((p0 = [42]) → true = r0) ∧ ((p0 ≠ [42]) → ((p0 = [60]) → true = r0) ∧ ((p0 ≠ [60]) → ((p0 = [61, 61]) → true = r0) ∧ ((p0 ≠ [61, 61]) → false = r0)))))) : gA p0 r0 := by
 refine ⟨rfl, rfl, ?_⟩
 refine az 10 [] Try.func57 rfl rfl rfl (bg rfl) fun K hK => ?_
 refine gR 19 rfl <| qBeZ 4 5 rfl rfl rfl rfl h (fun h => ?_) fun h => ?_
 refine gR 12 rfl ?_
 subst h
 exact go_end aa (rs := [.tmp 2]) rfl rfl rfl
 refine gR 7 rfl <| qBeZ 4 6 rfl rfl rfl rfl h (fun h => ?_) fun h => ?_
 refine gR 12 rfl ?_
 subst h
 exact go_end aa (rs := [.tmp 2]) rfl rfl rfl
 refine gR 7 rfl <| qBeZ 4 7 rfl rfl rfl rfl h (fun h => ?_) fun h => ?_
 refine gR 12 rfl ?_
 subst h
 exact go_end aa (rs := [.tmp 2]) rfl rfl rfl
 refine gR 7 rfl <| qBeZ 4 8 rfl rfl rfl rfl h (fun h => ?_) fun h => ?_
 refine gR 12 rfl ?_
 subst h
 exact go_end aa (rs := [.tmp 2]) rfl rfl rfl
 refine gR 6 rfl <| qBeZ 4 9 rfl rfl rfl rfl h (fun h => ?_) fun h => ?_
 refine gR 9 rfl ?_
 subst h
 exact go_end aa (rs := [.tmp 2]) rfl rfl rfl
 refine gR 10 rfl ?_
 subst h
 exact go_end aa (rs := [.tmp 2]) rfl rfl rfl
def jD (m : Nat) (p0 : Int) (p1 : List UInt8) (a : Int) (b r0 : Bool) : Prop := ∀ (K : Ctx), aR K [] → qLG K Try.f35 (fun u _ => u = .bool r0) (cB (cK (xH (xA (aj Try.f35))))) [.blk 0, .seq (xF (aj Try.f35))] 51 (mkF 51 0 [(1, .str p1), (5, .int .i64 a), (8, .int .i64 p0), (9, .bool b)]) ⟨0, []⟩
def fX (m : Nat) (p0 : Int) (p1 : List UInt8) (a : Int) (b r0 : Bool) : Prop := ∀ (K : Ctx), aR K [] → qLG K Try.f35 (fun u _ => u = .bool r0) (cB (xB (cK (xH (xA (aj Try.f35)))))) [.blk 0, .seq (xF (aj Try.f35))] 51 (mkF 51 0 [(1, .str p1), (5, .int .i64 a), (8, .int .i64 p0), (14, .bool b)]) ⟨0, []⟩
theorem pM (m : Nat) (p0 : Int) (p1 : List UInt8) (r0 : Bool) (h : ∃ a, tw p1 a ∧ ((p0 = 1) → jD m p0 p1 a true r0) ∧ ((p0 ≠ 1) → jD m p0 p1 a (p0 == 3) r0)) : kf p0 p1 r0 := by
 refine ⟨rfl, rfl, ?_⟩
 refine az 51 [] Try.func35 rfl rfl rfl (bg rfl) fun K hK => ?_
 refine gR 8 rfl ?_
 obtain ⟨a, hs7, h⟩ := h
 refine gC0 hs7 (by kernel_rfl) rfl rfl .rfl rfl <| gR 17 rfl <| qBeZ 9 10 rfl rfl rfl rfl h (fun h => ?_) fun h => ?_
 exact gR 3 rfl <| gJ (h K hK) [] [] rfl hK pq4 trivial rfl
 exact gR 6 rfl <| gJ (h K hK) [] [] rfl hK pq4 trivial rfl
theorem oZ (m : Nat) (p0 : Int) (p1 : List UInt8) (a : Int) (b r0 : Bool) (h : ((b = true) → (a == 2) = r0) ∧ ((b = false) → ((p0 = 2) → fX m p0 p1 a true r0) ∧ ((p0 ≠ 2) → ((p0 = 4) → fX m p0 p1 a true r0) ∧ ((p0 ≠ 4) → ((p0 = 12) → fX m p0 p1 a true r0) ∧ ((p0 ≠ 12) → fX m p0 p1 a (p0 == 20) r0))))) : jD (m + 1) p0 p1 a b r0 := by
 intro K hK
 refine qBi 9 rfl rfl rfl h (fun h => ?_) fun h => ?_
 refine gR 11 rfl ?_
 subst h
 exact go_end aa (rs := [.tmp 4]) rfl rfl rfl
 refine gR 8 rfl <| qBeZ 14 15 rfl rfl rfl rfl h (fun h => ?_) fun h => ?_
 exact gR 3 rfl <| gJ (h K hK) [] [] rfl hK pq4 trivial rfl
 refine gR 7 rfl <| qBeZ 14 16 rfl rfl rfl rfl h (fun h => ?_) fun h => ?_
 exact gR 3 rfl <| gJ (h K hK) [] [] rfl hK pq4 trivial rfl
 refine gR 7 rfl <| qBeZ 14 17 rfl rfl rfl rfl h (fun h => ?_) fun h => ?_
 exact gR 3 rfl <| gJ (h K hK) [] [] rfl hK pq4 trivial rfl
 exact gR 6 rfl <| gJ (h K hK) [] [] rfl hK pq4 trivial rfl
theorem pa (m : Nat) (p0 : Int) (p1 : List UInt8) (a : Int) (b r0 : Bool) (h : ((b = true) → (a == 1) = r0) ∧ ((b = false) → ((p0 = 9) → ((a = 2) → true = r0) ∧ ((a ≠ 2) → (a == 4) = r0)) ∧ ((p0 ≠ 9) → ((p0 = 16) → ((a = 1) → true = r0) ∧ ((a ≠ 1) → (a == 3) = r0)) ∧ ((p0 ≠ 16) → ((p0 = 10) → (a == 5) = r0) ∧ ((p0 ≠ 10) → ((p0 = 11) → (a == 6) = r0) ∧ ((p0 ≠ 11) → ((p0 = 21) → ∃ c, gA p1 c ∧ c = r0) ∧ ((p0 ≠ 21) → (p1 == []) = r0))))))) : fX (m + 1) p0 p1 a b r0 := by
 intro K hK
 refine qBi 14 rfl rfl rfl h (fun h => ?_) fun h => ?_
 refine gR 11 rfl ?_
 subst h
 exact go_end aa (rs := [.tmp 4]) rfl rfl rfl
 refine gR 7 rfl <| qBeZ 21 22 rfl rfl rfl rfl h (fun h => ?_) fun h => ?_
 refine gR 6 rfl <| qBeZ 25 24 rfl rfl rfl rfl h (fun h => ?_) fun h => ?_
 refine gR 9 rfl ?_
 subst h
 exact go_end aa (rs := [.tmp 4]) rfl rfl rfl
 refine gR 9 rfl ?_
 subst h
 exact go_end aa (rs := [.tmp 4]) rfl rfl rfl
 refine gR 7 rfl <| qBeZ 29 30 rfl rfl rfl rfl h (fun h => ?_) fun h => ?_
 refine gR 6 rfl <| qBeZ 33 32 rfl rfl rfl rfl h (fun h => ?_) fun h => ?_
 refine gR 9 rfl ?_
 subst h
 exact go_end aa (rs := [.tmp 4]) rfl rfl rfl
 refine gR 9 rfl ?_
 subst h
 exact go_end aa (rs := [.tmp 4]) rfl rfl rfl
 refine gR 7 rfl <| qBeZ 37 38 rfl rfl rfl rfl h (fun h => ?_) fun h => ?_
 refine gR 11 rfl ?_
 subst h
 exact go_end aa (rs := [.tmp 4]) rfl rfl rfl
 refine gR 7 rfl <| qBeZ 41 42 rfl rfl rfl rfl h (fun h => ?_) fun h => ?_
 refine gR 11 rfl ?_
 subst h
 exact go_end aa (rs := [.tmp 4]) rfl rfl rfl
 refine gR 7 rfl <| qBeZ 45 46 rfl rfl rfl rfl h (fun h => ?_) fun h => ?_
 refine gR 4 rfl ?_
 obtain ⟨c, hs8, h⟩ := h
 refine gC0 hs8 (by kernel_rfl) rfl rfl .rfl rfl <| gR 6 rfl ?_
 subst h
 exact go_end aa (rs := [.tmp 4]) rfl rfl rfl
 refine gR 12 rfl ?_
 subst h
 exact go_end aa (rs := [.tmp 4]) rfl rfl rfl
def iK (m : Nat) (p0 : Tree) (p1 : Int) (a : Tree) (b r0 : Bool) : Prop := ∀ (K : Ctx), aR K [] → qLG K Try.f36 (fun u _ => u = .bool r0) (cB (xD (cK (xH (xA (aj Try.f36)))))) [.blk 0, .seq (xF (aj Try.f36))] 67 (mkF 67 0 [(1, .int .i64 p1), (5, .int .i64 a.kind), (13, .int .i64 p0.kind), (43, .bool b)]) ⟨0, []⟩
theorem qf (m : Nat) (p0 : Tree) (p1 : Int) (r0 : Bool) (h : ∃ b, p1 = ((b : Nat) : Int) ∧ ∃ a, p0.kids[b]? = some a ∧ ((p0.kind = 1) → ((a.kind = 2) → true = r0) ∧ ((a.kind ≠ 2) → (a.kind == 3) = r0)) ∧ ((p0.kind ≠ 1) → ((p0.kind = 2) → ((p1 = ((p0.kids.length : Int) - 1)) → ∃ c, dT a.kind c ∧ c = r0) ∧ ((p1 ≠ ((p0.kids.length : Int) - 1)) → ((p1 = ((p0.kids.length : Int) - 2)) → ∃ d, iA a.kind d ∧ d = r0) ∧ ((p1 ≠ ((p0.kids.length : Int) - 2)) → (a.kind == 4) = r0))) ∧ ((p0.kind ≠ 2) → ((p0.kind = 3) → iK m p0 p1 a true r0) ∧ ((p0.kind ≠ 3) → ((p0.kind = 4) → iK m p0 p1 a true r0) ∧ ((p0.kind ≠ 4) → iK m p0 p1 a (p0.kind == 8) r0))))) : kM p0 p1 r0 := by
 refine ⟨rfl, rfl, ?_⟩
 refine az 67 [] Try.func36 rfl rfl rfl (bg rfl) fun K hK => ?_
 refine gR 3 rfl <| gFP 0 rfl rfl rfl rfl <| gR 8 rfl ?_
 obtain ⟨b, e, h⟩ := h
 refine gV 8 (.int .i64 ((b : Nat) : Int)) rfl (iF e) rfl ?_
 obtain ⟨a, hxt0_2, h⟩ := h
 refine gY (aY (ae hxt0_2) aa rfl rfl rfl rfl) rfl rfl <| gR 19 rfl <| gB 14 rfl rfl rfl ?_ ?_ <;> intro hd
 refine gT 15 rfl hd rfl ?_
 replace hd := (eq_of_beq hd)
 replace h := h.1 hd
 refine gR 6 rfl <| gB 18 rfl rfl rfl ?_ ?_ <;> intro hd
 refine gT 17 rfl hd rfl ?_
 replace hd := (eq_of_beq hd)
 replace h := h.1 hd
 refine gR 9 rfl ?_
 subst h
 exact go_end aa (rs := [.tmp 4]) rfl rfl rfl
 refine gF 17 rfl hd rfl ?_
 replace hd := (ne_of_beq_false hd)
 replace h := h.2 hd
 refine gR 9 rfl ?_
 subst h
 exact go_end aa (rs := [.tmp 4]) rfl rfl rfl
 refine gF 15 rfl hd rfl ?_
 replace hd := (ne_of_beq_false hd)
 replace h := h.2 hd
 refine gR 7 rfl <| gB 22 rfl rfl rfl ?_ ?_ <;> intro hd
 refine gT 23 rfl hd rfl ?_
 replace hd := (eq_of_beq hd)
 replace h := h.1 hd
 refine gR 13 rfl <| gV 28 (.int .i64 (p0.kids.length : Int)) rfl (bC (av _)) rfl <| gLB 27 rfl (av _) fun hl17 => gR 1 rfl <| gV 29 (.int .i64 ((p0.kids.length : Int) - 1)) rfl (cM (by have := hl17; omega) rfl) rfl <| gR 4 rfl <| gB 25 rfl rfl rfl ?_ ?_ <;> intro hd
 refine gT 30 rfl hd rfl ?_
 replace hd := (eq_of_beq hd)
 replace h := h.1 hd
 refine gR 4 rfl ?_
 obtain ⟨c, hs18, h⟩ := h
 refine gC0 hs18 (by kernel_rfl) rfl rfl .rfl rfl <| gR 8 rfl ?_
 subst h
 exact go_end aa (rs := [.tmp 4]) rfl rfl rfl
 refine gF 30 rfl hd rfl ?_
 replace hd := (ne_of_beq_false hd)
 replace h := h.2 hd
 refine gR 6 rfl <| gV 36 (.int .i64 (p0.kids.length : Int)) rfl (bC (av _)) rfl <| gR 1 rfl <| gV 37 (.int .i64 ((p0.kids.length : Int) - 2)) rfl (cM (by have := hl17; omega) rfl) rfl <| gR 4 rfl <| gB 33 rfl rfl rfl ?_ ?_ <;> intro hd
 refine gT 38 rfl hd rfl ?_
 replace hd := (eq_of_beq hd)
 replace h := h.1 hd
 refine gR 4 rfl ?_
 obtain ⟨d, hs19, h⟩ := h
 refine gC0 hs19 (by kernel_rfl) rfl rfl .rfl rfl <| gR 8 rfl ?_
 subst h
 exact go_end aa (rs := [.tmp 4]) rfl rfl rfl
 refine gF 38 rfl hd rfl ?_
 replace hd := (ne_of_beq_false hd)
 replace h := h.2 hd
 refine gR 14 rfl ?_
 subst h
 exact go_end aa (rs := [.tmp 4]) rfl rfl rfl
 refine gF 23 rfl hd rfl ?_
 replace hd := (ne_of_beq_false hd)
 replace h := h.2 hd
 refine gR 8 rfl <| gB 43 rfl rfl rfl ?_ ?_ <;> intro hd
 refine gT 44 rfl hd rfl ?_
 replace hd := (eq_of_beq hd)
 replace h := h.1 hd
 exact gR 3 rfl <| gJ (h K hK) [] [] rfl hK pq4 trivial rfl
 refine gF 44 rfl hd rfl ?_
 replace hd := (ne_of_beq_false hd)
 replace h := h.2 hd
 refine gR 7 rfl <| gB 43 rfl rfl rfl ?_ ?_ <;> intro hd
 refine gT 45 rfl hd rfl ?_
 replace hd := (eq_of_beq hd)
 replace h := h.1 hd
 exact gR 3 rfl <| gJ (h K hK) [] [] rfl hK pq4 trivial rfl
 refine gF 45 rfl hd rfl ?_
 replace hd := (ne_of_beq_false hd)
 replace h := h.2 hd
 exact gR 6 rfl <| gJ (h K hK) [] [] rfl hK pq4 trivial rfl
theorem pG (m : Nat) (p0 : Tree) (p1 : Int) (a : Tree) (c r0 : Bool) (h : ((c = true) → ∃ d, iA a.kind d ∧ d = r0) ∧ ((c = false) → ((p0.kind = 16) → (a.kind == 17) = r0) ∧ ((p0.kind ≠ 16) → ((p0.kind = 21) → ∃ b, kh a.kind b ∧ ((b = true) → true = r0) ∧ ((b = false) → ((p1 = 0) → (a.kind == 21) = r0) ∧ ((p1 ≠ 0) → false = r0))) ∧ ((p0.kind ≠ 21) → ∃ e, dT a.kind e ∧ e = r0)))) : iK (m + 1) p0 p1 a c r0 := by
 intro K hK
 refine qBi 43 rfl rfl rfl h (fun h => ?_) fun h => ?_
 refine gR 4 rfl ?_
 obtain ⟨d, hs20, h⟩ := h
 refine gC0 hs20 (by kernel_rfl) rfl rfl .rfl rfl <| gR 6 rfl ?_
 subst h
 exact go_end aa (rs := [.tmp 4]) rfl rfl rfl
 refine gR 7 rfl <| qBeZ 49 50 rfl rfl rfl rfl h (fun h => ?_) fun h => ?_
 refine gR 11 rfl ?_
 subst h
 exact go_end aa (rs := [.tmp 4]) rfl rfl rfl
 refine gR 7 rfl <| qBeZ 53 54 rfl rfl rfl rfl h (fun h => ?_) fun h => ?_
 refine gR 4 rfl ?_
 obtain ⟨b, hs21, h⟩ := h
 refine gC0 hs21 (by kernel_rfl) rfl rfl .rfl rfl <| gR 1 rfl <| qBiZ 57 56 rfl rfl rfl rfl h (fun h => ?_) fun h => ?_
 refine gR 13 rfl ?_
 subst h
 exact go_end aa (rs := [.tmp 4]) rfl rfl rfl
 refine gR 3 rfl <| qBeZ 60 59 rfl rfl rfl rfl h (fun h => ?_) fun h => ?_
 refine gR 10 rfl ?_
 subst h
 exact go_end aa (rs := [.tmp 4]) rfl rfl rfl
 refine gR 10 rfl ?_
 subst h
 exact go_end aa (rs := [.tmp 4]) rfl rfl rfl
 refine gR 7 rfl ?_
 obtain ⟨e, hs22, h⟩ := h
 refine gC0 hs22 (by kernel_rfl) rfl rfl .rfl rfl <| gR 4 rfl ?_
 subst h
 exact go_end aa (rs := [.tmp 4]) rfl rfl rfl
def ic (m : Nat) (p0 : Tree) (a : Nat) (r0 : Bool) : Prop := ∀ (K : Ctx) (j1 : Nat), aR K [] → m ≤ j1 → qLG K Try.f16 (fun u _ => u = .bool r0) (xL (xA (aj Try.f16))) [.loop (xL (xA (aj Try.f16))) j1, .blk 0, .seq (xF (aj Try.f16))] 38 (mkF 38 0 [(1, .box (ar p0) 0), (21, .row 4 (kidsV p0.kids)), (22, .int .i64 (p0.kids.length : Int)), (23, .int .i64 (a : Int))]) ⟨0, []⟩
theorem pF (m : Nat) (p0 : Tree) (r0 : Bool) (h : ∃ a, fJ p0.kind (p0.kids.length : Int) a ∧ ((a < 0) → false = r0) ∧ ((¬ a < 0) → ∃ b, kf p0.kind p0.text b ∧ ((b = false) → false = r0) ∧ ((b = true) → ic m p0 0 r0))) : iM p0 r0 := by
 refine ⟨rfl, rfl, ?_⟩
 refine az 38 [] Try.func16 rfl rfl rfl (bg rfl) fun K hK => ?_
 refine gR 3 rfl <| gFP 0 rfl rfl rfl rfl <| gR 11 rfl <| gV 9 (.int .i64 (p0.kids.length : Int)) rfl (bC (av _)) rfl <| gLB 8 rfl (av _) fun hl11 => ?_
 obtain ⟨a, hs12, h⟩ := h
 refine gC0 hs12 (by kernel_rfl) rfl rfl .rfl rfl <| gR 2 rfl <| gB 12 rfl rfl rfl ?_ ?_ <;> intro hd
 refine gT 11 rfl hd rfl ?_
 replace hd := (of_decide_eq_true hd)
 replace h := h.1 hd
 refine gR 17 rfl ?_
 subst h
 exact go_end aa (rs := [.tmp 2]) rfl rfl rfl
 refine gF 11 rfl hd rfl ?_
 replace hd := (of_decide_eq_false hd)
 replace h := h.2 hd
 refine gR 4 rfl ?_
 obtain ⟨b, hs13, h⟩ := h
 refine gC0 hs13 (by kernel_rfl) rfl rfl .rfl rfl <| gR 4 rfl <| gB 19 rfl rfl rfl ?_ ?_ <;> intro hd
 replace hd := (iQ hd)
 replace h := h.1 hd
 refine gR 8 rfl ?_
 subst h
 exact go_end aa (rs := [.tmp 2]) rfl rfl rfl
 replace hd := (iO hd)
 replace h := h.2 hd
 exact gR 9 rfl <| gV 22 (.int .i64 (p0.kids.length : Int)) rfl (bC (av _)) rfl <| gR 4 rfl <| go_loop m <| gJ (h K _ hK (by omega)) [] [] rfl hK pq4 trivial rfl
theorem lQ (m : Nat) (p0 : Tree) (a : Nat) (r0 : Bool) (h : ((a < p0.kids.length) → ∃ d, p0.kids[a]? = some d ∧ ∃ b, kM p0 (a : Int) b ∧ ((b = false) → false = r0) ∧ ((b = true) → ∃ c, iM d c ∧ ((c = false) → false = r0) ∧ ((c = true) → a + 1 ≤ 9223372036854775807 ∧ ic m p0 (a + 1) r0))) ∧ ((¬ a < p0.kids.length) → true = r0)) : ic (m + 1) p0 a r0 := by
 intro K j1 hK hj1
 obtain ⟨j1, rfl⟩ : ∃ j, j1 = j + 1 := ⟨j1 - 1, by omega⟩
 refine gR 6 rfl <| gB 24 rfl rfl rfl ?_ ?_ <;> intro hd
 replace hd := (nP hd)
 replace h := h.1 hd
 refine gR 8 rfl ?_
 obtain ⟨d, hxt1_1, h⟩ := h
 refine gY (aY (ae hxt1_1) aa rfl rfl rfl rfl) rfl rfl <| gR 10 rfl ?_
 obtain ⟨b, hs14, h⟩ := h
 refine gC0 hs14 (by kernel_rfl) rfl rfl .rfl rfl <| gR 2 rfl <| gB 32 rfl rfl rfl ?_ ?_ <;> intro hd
 refine gT 31 rfl hd rfl ?_
 replace hd := (iQ hd)
 replace h := h.1 hd
 refine gR 15 rfl <| go_xloopR <| gR 2 rfl ?_
 subst h
 exact go_end aa (rs := [.tmp 2]) rfl rfl rfl
 refine gF 31 rfl hd rfl ?_
 replace hd := (iO hd)
 replace h := h.2 hd
 refine gR 1 rfl ?_
 obtain ⟨c, hs15, h⟩ := h
 refine gC0 hs15 (by kernel_rfl) rfl rfl .rfl rfl <| gR 4 rfl <| gB 36 rfl rfl rfl ?_ ?_ <;> intro hd
 replace hd := (iQ hd)
 replace h := h.1 hd
 refine gR 9 rfl <| go_xloopR <| gR 2 rfl ?_
 subst h
 exact go_end aa (rs := [.tmp 2]) rfl rfl rfl
 replace hd := (iO hd)
 replace h := h.2 hd
 refine gR 5 rfl ?_
 obtain ⟨hb, h⟩ := h
 exact gR 1 rfl <| gV 37 (.int .i64 ((a + 1 : Nat) : Int)) rfl (cM (by omega) (by omega)) rfl <| gR 2 rfl <| go_xloop <| gJ (h K _ hK (by omega)) [] [] rfl hK pq4 trivial rfl
 replace hd := (og hd)
 replace h := h.2 hd
 refine gR 3 rfl <| go_xloopE <| gR 8 rfl ?_
 subst h
 exact go_end aa (rs := [.tmp 2]) rfl rfl rfl
theorem lV (m : Nat) (p0 : List UInt8) (r0 : Bool) (h : ((p0 = [43]) → true = r0) ∧ ((p0 ≠ [43]) → ((p0 = [45]) → true = r0) ∧ ((p0 ≠ [45]) → ((p0 = [42]) → true = r0) ∧ ((p0 ≠ [42]) → ((p0 = [60]) → true = r0) ∧ ((p0 ≠ [60]) → ((p0 = [61, 61]) → true = r0) ∧ ((p0 ≠ [61, 61]) → false = r0)))))) : fW p0 r0 := by
 refine ⟨rfl, rfl, ?_⟩
 refine az 10 [] Try.func81 rfl rfl rfl (bg rfl) fun K hK => ?_
 refine gR 19 rfl <| qBeZ 4 5 rfl rfl rfl rfl h (fun h => ?_) fun h => ?_
 refine gR 12 rfl ?_
 subst h
 exact go_end aa (rs := [.tmp 2]) rfl rfl rfl
 refine gR 7 rfl <| qBeZ 4 6 rfl rfl rfl rfl h (fun h => ?_) fun h => ?_
 refine gR 12 rfl ?_
 subst h
 exact go_end aa (rs := [.tmp 2]) rfl rfl rfl
 refine gR 7 rfl <| qBeZ 4 7 rfl rfl rfl rfl h (fun h => ?_) fun h => ?_
 refine gR 12 rfl ?_
 subst h
 exact go_end aa (rs := [.tmp 2]) rfl rfl rfl
 refine gR 7 rfl <| qBeZ 4 8 rfl rfl rfl rfl h (fun h => ?_) fun h => ?_
 refine gR 12 rfl ?_
 subst h
 exact go_end aa (rs := [.tmp 2]) rfl rfl rfl
 refine gR 6 rfl <| qBeZ 4 9 rfl rfl rfl rfl h (fun h => ?_) fun h => ?_
 refine gR 9 rfl ?_
 subst h
 exact go_end aa (rs := [.tmp 2]) rfl rfl rfl
 refine gR 10 rfl ?_
 subst h
 exact go_end aa (rs := [.tmp 2]) rfl rfl rfl
structure GToken where
 Kind : Int
 Lead : (List UInt8)
 Text : (List UInt8)
abbrev GToken.c (x : GToken) : List V := [.int .i64 x.Kind, .str x.Lead, .str x.Text]
abbrev GToken.w (x : GToken) : V := .agg x.c
def qF (p0 : List UInt8) (r0 : List GToken) (r1 : List UInt8) (r2 r3 : Int) : Prop := qS 10 [.str p0] (.tup [.row 3 (List.map GToken.w r0), .str r1, .int .i64 r2, .int .i64 r3])
def lu (p0 : (List UInt8)) (r0 : (List GToken)) (r1 : (List UInt8)) (r2 : Int) (r3 : Int) : Prop := nd Try.prog 13 [.str p0] (.tup [.row 3 (List.map GToken.w r0), .str r1, .int .i64 r2, .int .i64 r3])
abbrev vC (a0 : List GToken) (a1 : Int) (a2 : Int) (a3 : Int) (a4 : Int) : Ob := .var 39 [.row 3 (List.map GToken.w a0), .int .i64 a1, .int .i64 a2, .int .i64 a3, .int .i64 a4]
abbrev vF (a0 : Int) (a1 : List UInt8) (a2 : List (List UInt8)) (a3 : List Tree) : Ob := .var 26 [.int .i64 a0, .str a1, .row 1 (List.map V.str a2), .row 4 (kidsV a3)]
abbrev vB (a0 : Int) (a1 : List UInt8) : Ob := .var 26 [.int .i64 a0, .str a1, .nils, .nils]
abbrev vG (a0 : Int) (a1 : List UInt8) : Ob := .var 26 [.int .i64 a0, .str a1, .sl 3, .nils]
theorem vI (σ : List Nat) (l) : renL σ (List.map V.str l) = List.map V.str l := xP σ V.str (fun _ => rfl) l
abbrev vK (n : Nat) : List (List UInt8) := List.replicate n []
abbrev vD (a0 : Int) (a1 : List UInt8) : Ob := .var 26 [.int .i64 a0, .str a1, .sl 3, .sl 4]
def bw (a : List GToken) (b g c j p1 : Int) (d : List GToken) (e i f k : Int) : Prop := bW [] Try.prog 26 [.ptr 0 0, .int .i64 p1] ⟨1, [(0, vC a b g c j)]⟩ (fun u G => u = .tup [] ∧ G = ⟨1, [(0, vC d e i f k)]⟩)
def aJ (a : List GToken) (b i d k : Int) (r0 : GToken) (e : List GToken) (f j g l : Int) : Prop := bW [] Try.prog 25 [.ptr 0 0] ⟨1, [(0, vC a b i d k)]⟩ (fun u G => u = .agg (GToken.c r0) ∧ G = ⟨2, [(0, vC e f j g l)]⟩)
def aI (a : List GToken) (b i d k : Int) (r0 : GToken) (e : List GToken) (f j g l : Int) : Prop := bW [] Try.prog 46 [.ptr 0 0] ⟨1, [(0, vC a b i d k)]⟩ (fun u G => u = .agg (GToken.c r0) ∧ G = ⟨2, [(0, vC e f j g l)]⟩)
def ay (a : List GToken) (b g c j : Int) (p1 r0 : List UInt8) (d : List GToken) (e i f k : Int) : Prop := bW [] Try.prog 23 [.ptr 0 0, .str p1] ⟨1, [(0, vC a b g c j)]⟩ (fun u G => u = .str r0 ∧ G = ⟨1, [(0, vC d e i f k)]⟩)
def cq (a : List GToken) (b g c j p1 p2 : Int) (r0 r1 : List UInt8) (d : List GToken) (e i f k : Int) : Prop := bW [] Try.prog 24 [.ptr 0 0, .int .i64 p1, .int .i64 p2] ⟨1, [(0, vC a b g c j)]⟩ (fun u G => u = .tup [.str r0, .str r1] ∧ G = ⟨1, [(0, vC d e i f k)]⟩)
def iH (p0 : GToken) (r0 : Bool) : Prop := qS 92 [.agg (GToken.c p0)] (.bool r0)
def di (a : List GToken) (b g c j : Int) (r0 : Tree) (d : List GToken) (e i f k : Int) : Prop := bW [] Try.prog 48 [.ptr 0 0] ⟨1, [(0, vC a b g c j)]⟩ (fun u G => u = .agg (ar r0) ∧ G = ⟨2, [(0, vC d e i f k)]⟩)
def dm (a : List GToken) (b g c j : Int) (r0 : Tree) (d : List GToken) (e i f k : Int) : Prop := bW [] Try.prog 47 [.ptr 0 0] ⟨1, [(0, vC a b g c j)]⟩ (fun u G => u = .agg (ar r0) ∧ G = ⟨2, [(0, vC d e i f k)]⟩)
def gZ (a : List GToken) (b g c j : Int) (r0 : Tree) (d : List GToken) (e i f k : Int) : Prop := bW [] Try.prog 28 [.ptr 0 0] ⟨1, [(0, vC a b g c j)]⟩ (fun u G => u = .agg (ar r0) ∧ G = ⟨2, [(0, vC d e i f k)]⟩)
def gN (p0 : Tree) (r0 : Int) : Prop := qS 12 [.agg (ar p0)] (.int .i64 r0)
theorem jJ (m : Nat) (k : List GToken) (a c b i p1 : Int) (d : List GToken) (e g f j : Int) (h : ((b = 0) → [] = d ∧ a = e ∧ c = g ∧ p1 = f ∧ a = j) ∧ ((b ≠ 0) → [] = d ∧ a = e ∧ c = g ∧ b = f ∧ i = j)) : bw k a c b i p1 d e g f j := by
 refine az 23 [0] Try.func26 rfl rfl rfl (bg rfl) fun K hK => ?_
 refine gR 10 rfl <| qBe 8 rfl rfl rfl h (fun h => ?_) fun h => ?_
 refine gR 23 rfl ?_
 obtain ⟨rfl, rfl, rfl, rfl, rfl⟩ := h
 exact go_sub (F' := (mkF 23 0 [])) (H' := ⟨1, [(0, vC [] a c p1 a)]⟩) [0] [0] rfl hK trivial ⟨⟨_, rfl, rfl, (.cons (.nil 3) (.cons .rfl (.cons .rfl (.cons .rfl (.cons .rfl .nil)))))⟩, trivial⟩ rfl <| go_endD [] aa (rs := []) rfl rfl ⟨rfl, rfl⟩
 refine gR 9 rfl ?_
 obtain ⟨rfl, rfl, rfl, rfl, rfl⟩ := h
 exact go_sub (F' := (mkF 23 0 [])) (H' := ⟨1, [(0, vC [] a c b i)]⟩) [0] [0] rfl hK trivial ⟨⟨_, rfl, rfl, (.cons (.nil 3) (.cons .rfl (.cons .rfl (.cons .rfl (.cons .rfl .nil)))))⟩, trivial⟩ rfl <| go_endD [] aa (rs := []) rfl rfl ⟨rfl, rfl⟩
theorem jR (m : Nat) (a : List GToken) (b d c j : Int) (r0 : GToken) (e : List GToken) (g k i n : Int) (h : (((a.length : Int) = 0) → (GToken.mk 0 [] []) = r0 ∧ a = e ∧ b = g ∧ d = k ∧ c = i ∧ j = n) ∧ (((a.length : Int) ≠ 0) → ∃ l, a[0]? = some l ∧ l = r0 ∧ a = e ∧ b = g ∧ d = k ∧ c = i ∧ j = n)) : aJ a b d c j r0 e g k i n := by
 refine az 16 [0] Try.func25 rfl rfl rfl (bg rfl) fun K hK => ?_
 refine gR 13 rfl <| gV 7 (.int .i64 (a.length : Int)) rfl (bC (cQ GToken.w _)) rfl <| gLB 6 rfl (cQ GToken.w _) fun hl2 => gR 3 rfl <| qBe 8 rfl rfl rfl h (fun h => ?_) fun h => ?_
 refine gR 9 rfl ?_
 obtain ⟨rfl, rfl, rfl, rfl, rfl, rfl⟩ := h
 exact go_sub (F' := (mkF 16 0 [(2, .ptr 1 0)])) (H' := ⟨2, [(1, .var 41 [.int .i64 ((GToken.mk 0 [] []).Kind), .str ((GToken.mk 0 [] []).Lead), .str ((GToken.mk 0 [] []).Text)]), (0, vC a b d c j)]⟩) [0, 1] [0] rfl hK pq1 (pqo2 rfl rfl rfl rfl) rfl <| go_endD [1] aa (rs := [.cell 2 41]) rfl rfl ⟨rfl, rfl⟩
 refine gR 9 rfl ?_
 obtain ⟨l, hxx0_1, h⟩ := h
 refine gY (aY (mapget (f := GToken.w) hxx0_1) aa rfl rfl rfl rfl) rfl rfl <| gR 5 rfl ?_
 obtain ⟨rfl, rfl, rfl, rfl, rfl, rfl⟩ := h
 exact go_sub (F' := (mkF 16 0 [(2, .ptr 1 0)])) (H' := ⟨2, [(1, .var 41 (GToken.c l)), (0, vC a b d c j)]⟩) [0, 1] [0] rfl hK pq1 (pqo2 rfl rfl rfl rfl) rfl <| go_endD [1] aa (rs := [.cell 2 41]) rfl rfl ⟨rfl, rfl⟩
theorem jH (m : Nat) (a : List GToken) (d g e i : Int) (r0 : GToken) (j : List GToken) (k o l p : Int) (h : ∃ b, a[0]? = some b ∧ 1 ≤ a.length ∧ (((((a.drop 1).length : Nat) : Int) = 0) → b = r0 ∧ (a.drop 1) = j ∧ g = k ∧ g = o ∧ e = l ∧ i = p) ∧ (((((a.drop 1).length : Nat) : Int) ≠ 0) → ∃ n, (a.drop 1)[0]? = some n ∧ b.Text.length + n.Lead.length ≤ 9223372036854775807 ∧ InI (d + ((b.Text.length + n.Lead.length : Nat) : Int)) ∧ b = r0 ∧ (a.drop 1) = j ∧ (d + ((b.Text.length + n.Lead.length : Nat) : Int)) = k ∧ g = o ∧ e = l ∧ i = p)) : aI a d g e i r0 j k o l p := by
 refine az 51 [0] Try.func46 rfl rfl rfl (bg rfl) fun K hK => ?_
 refine gR 11 rfl ?_
 obtain ⟨b, hxx0_1, h⟩ := h
 refine gY (aY (mapget (f := GToken.w) hxx0_1) aa rfl rfl rfl rfl) rfl rfl <| gR 12 rfl ?_
 obtain ⟨hb, h⟩ := h
 refine gY (An (cQ GToken.w a) aa rfl rfl (zr rfl) Ah hb (Nat.le_refl _) ((AW _ _ _ _).trans (congrArg _ (xO _ _)))) rfl rfl <| gR 13 rfl <| gV 22 (.int .i64 (((a.drop 1).length : Nat) : Int)) rfl (bC (cQ GToken.w _)) rfl <| gLB 21 rfl (cQ GToken.w _) fun hl2 => gR 3 rfl <| gB 23 rfl rfl rfl ?_ ?_ <;> intro hd
 replace hd := (eq_of_beq hd)
 replace h := h.1 hd
 refine gR 19 rfl ?_
 obtain ⟨rfl, rfl, rfl, rfl, rfl, rfl⟩ := h
 exact go_sub (F' := (mkF 51 0 [(2, .ptr 1 0)])) (H' := ⟨2, [(1, .var 41 (GToken.c b)), (0, vC (a.drop 1) g g e i)]⟩) [0, 1] [0] rfl hK pq1 (pqo2 rfl rfl rfl rfl) rfl <| go_endD [1] aa (rs := [.cell 2 41]) rfl rfl ⟨rfl, rfl⟩
 replace hd := (ne_of_beq_false hd)
 replace h := h.2 hd
 refine gR 1 rfl <| gDs [0, 2] 19 20 rfl (by kernel_rfl) (by kernel_rfl) <| gDr [(0, 2), (1, 2), (2, 2), (3, 3), (4, 2), (5, 3), (6, 2), (7, 0), (8, 0), (9, 0), (10, 0)] (by kernel_rfl) rfl rfl ?_
 obtain ⟨n, hxx0_2, h⟩ := h
 refine cu 11 rfl (by kernel_rfl) (aY (mapget (f := GToken.w) hxx0_2) aa rfl rfl rfl rfl) rfl rfl ?_
 refine gDr [(12, 0), (13, 0), (14, 0)] (by kernel_rfl) rfl rfl ?_
 obtain ⟨hb, h⟩ := h
 refine gDr [(15, 0)] (by kernel_rfl) rfl rfl <| gV 46 (.int .i64 ((b.Text.length + n.Lead.length : Nat) : Int)) rfl (cM (by omega) (by omega)) rfl ?_
 obtain ⟨hb, h⟩ := h
 refine gDr [(16, 0)] (by kernel_rfl) rfl rfl <| gV 47 (.int .i64 (d + ((b.Text.length + n.Lead.length : Nat) : Int))) rfl (cM hb rfl) rfl <| gDr [(17, 0), (18, 0), (19, 1)] (by kernel_rfl) rfl rfl <| gDe (by kernel_rfl) <| gR 1 rfl <| go_sub (F' := (mkF 51 0 [(2, .ptr 1 0), (3, .ptr 2 0)])) (H' := ⟨3, [(2, .var 41 (GToken.c b)), (1, .var 41 [.int .i64 0, .str [], .str []]), (0, vC (a.drop 1) (d + ((b.Text.length + n.Lead.length : Nat) : Int)) g e i)]⟩) [0, 1, 2] [0] rfl hK pq2 (pqo3 rfl rfl rfl rfl rfl rfl) rfl <| gR 7 rfl ?_
 obtain ⟨rfl, rfl, rfl, rfl, rfl, rfl⟩ := h
 exact go_sub (F' := (mkF 51 0 [(2, .ptr 1 0)])) (H' := ⟨2, [(1, .var 41 (GToken.c b)), (0, vC (a.drop 1) (d + ((b.Text.length + n.Lead.length : Nat) : Int)) g e i)]⟩) [0, 1] [0] rfl hK pq1 (pqo2 rfl rfl rfl rfl) rfl <| go_endD [1] aa (rs := [.cell 2 41]) rfl rfl ⟨rfl, rfl⟩
theorem jN (m : Nat) (d : List GToken) (e s f t : Int) (p1 r0 : List UInt8) (a : List GToken) (b g c i : Int) (h : ∃ v x y z α β, aJ d e s f t v x y z α β ∧ ((v.Text ≠ p1) → ∃ γ δ ε j k, bw x y z α β 2 γ δ ε j k ∧ [] = r0 ∧ γ = a ∧ δ = b ∧ ε = g ∧ j = c ∧ k = i) ∧ ((v.Text = p1) → ∃ l n o p q r, aI x y z α β l n o p q r ∧ l.Lead = r0 ∧ n = a ∧ o = b ∧ p = g ∧ q = c ∧ r = i)) : ay d e s f t p1 r0 a b g c i := by
 refine az 15 [0] Try.func23 rfl rfl rfl (bg rfl) fun K hK => ?_
 refine gR 9 rfl ?_
 obtain ⟨v, x, y, z, α, β, hs4, h⟩ := h
 refine gCY hs4 [0] ?_
 refine gR 5 rfl <| qBh 9 rfl rfl rfl h fB dY (fun h => ?_) fun h => ?_
 refine gR 4 rfl ?_
 obtain ⟨γ, δ, ε, j, k, hs5, h⟩ := h
 refine gCY hs5 [0] ?_
 refine gR 9 rfl ?_
 obtain ⟨rfl, rfl, rfl, rfl, rfl, rfl⟩ := h
 exact go_sub (F' := (mkF 15 0 [(4, .str [])])) (H' := ⟨1, [(0, vC γ δ ε j k)]⟩) [0] [0] rfl hK pq1 (pqo1 rfl rfl) rfl <| go_endD [] aa (rs := [.tmp 4]) rfl rfl ⟨rfl, rfl⟩
 refine gR 6 rfl ?_
 obtain ⟨l, n, o, p, q, r, hs6, h⟩ := h
 refine gCY hs6 [0] ?_
 refine gR 5 rfl ?_
 obtain ⟨rfl, rfl, rfl, rfl, rfl, rfl⟩ := h
 exact go_sub (F' := (mkF 15 0 [(4, .str l.Lead)])) (H' := ⟨1, [(0, vC n o p q r)]⟩) [0] [0] rfl hK pq1 (pqo1 rfl rfl) rfl <| go_endD [] aa (rs := [.tmp 4]) rfl rfl ⟨rfl, rfl⟩
theorem jP (m : Nat) (j : List GToken) (k ν l ξ p1 p2 : Int) (r0 r1 : List UInt8) (a : List GToken) (b d c e : Int) (h : ∃ i n o p q r, aJ j k ν l ξ i n o p q r ∧ ((i.Kind = 0) → ∃ ο π τ s t, bw n o p q r 2 ο π τ s t ∧ [] = r0 ∧ [] = r1 ∧ ο = a ∧ π = b ∧ τ = d ∧ s = c ∧ t = e) ∧ ((i.Kind ≠ 0) → ((i.Kind ≠ p1) → ((i.Kind ≠ p2) → ∃ v x y z α, bw n o p q r 2 v x y z α ∧ [] = r0 ∧ [] = r1 ∧ v = a ∧ x = b ∧ y = d ∧ z = c ∧ α = e) ∧ ((i.Kind = p2) → ∃ f β γ δ ε ζ, aI n o p q r f β γ δ ε ζ ∧ f.Text = r0 ∧ f.Lead = r1 ∧ β = a ∧ γ = b ∧ δ = d ∧ ε = c ∧ ζ = e)) ∧ ((i.Kind = p1) → ∃ g η θ ι κ μ, aI n o p q r g η θ ι κ μ ∧ g.Text = r0 ∧ g.Lead = r1 ∧ η = a ∧ θ = b ∧ ι = d ∧ κ = c ∧ μ = e))) : cq j k ν l ξ p1 p2 r0 r1 a b d c e := by
 refine az 33 [0] Try.func24 rfl rfl rfl (bg rfl) fun K hK => ?_
 refine gR 9 rfl ?_
 obtain ⟨i, n, o, p, q, r, hs6, h⟩ := h
 refine gCY hs6 [0] ?_
 refine gR 10 rfl <| qBeZ 15 14 rfl rfl rfl rfl h (fun h => ?_) fun h => ?_
 refine gR 15 rfl ?_
 obtain ⟨ο, π, τ, s, t, hs7, h⟩ := h
 refine gCY hs7 [0] ?_
 refine gR 10 rfl ?_
 obtain ⟨rfl, rfl, rfl, rfl, rfl, rfl, rfl⟩ := h
 exact go_sub (F' := (mkF 33 0 [(6, .str []), (7, .str [])])) (H' := ⟨1, [(0, vC ο π τ s t)]⟩) [0] [0] rfl hK pq2 (pqo1 rfl rfl) rfl <| go_endD [] aa (rs := [.tmp 6, .tmp 7]) rfl rfl ⟨rfl, rfl⟩
 refine gR 4 rfl <| qBhZ 19 18 rfl rfl rfl rfl h fB dY (fun h => ?_) fun h => ?_
 refine gR 7 rfl <| qBh 24 rfl rfl rfl h fB dY (fun h => ?_) fun h => ?_
 refine gR 4 rfl ?_
 obtain ⟨v, x, y, z, α, hs8, h⟩ := h
 refine gCY hs8 [0] ?_
 refine gR 10 rfl ?_
 obtain ⟨rfl, rfl, rfl, rfl, rfl, rfl, rfl⟩ := h
 exact go_sub (F' := (mkF 33 0 [(6, .str []), (7, .str [])])) (H' := ⟨1, [(0, vC v x y z α)]⟩) [0] [0] rfl hK pq2 (pqo1 rfl rfl) rfl <| go_endD [] aa (rs := [.tmp 6, .tmp 7]) rfl rfl ⟨rfl, rfl⟩
 refine gR 6 rfl ?_
 obtain ⟨f, β, γ, δ, ε, ζ, hs9, h⟩ := h
 refine gCY hs9 [0] ?_
 refine gR 5 rfl <| gDs [5] 5 6 rfl (by kernel_rfl) (by kernel_rfl) <| gDr [(0, 2), (1, 3), (2, 2), (3, 3), (4, 0), (5, 1)] (by kernel_rfl) rfl rfl <| gDe (by kernel_rfl) <| gR 2 rfl ?_
 obtain ⟨rfl, rfl, rfl, rfl, rfl, rfl, rfl⟩ := h
 exact go_sub (F' := (mkF 33 0 [(6, .str f.Text), (7, .str f.Lead)])) (H' := ⟨1, [(0, vC β γ δ ε ζ)]⟩) [0] [0] rfl hK pq2 (pqo1 rfl rfl) rfl <| go_endD [] aa (rs := [.tmp 6, .tmp 7]) rfl rfl ⟨rfl, rfl⟩
 refine gR 13 rfl ?_
 obtain ⟨g, η, θ, ι, κ, μ, hs10, h⟩ := h
 refine gCY hs10 [0] ?_
 refine gR 5 rfl <| gDs [5] 5 6 rfl (by kernel_rfl) (by kernel_rfl) <| gDr [(0, 2), (1, 3), (2, 2), (3, 3), (4, 0), (5, 1)] (by kernel_rfl) rfl rfl <| gDe (by kernel_rfl) <| gR 2 rfl ?_
 obtain ⟨rfl, rfl, rfl, rfl, rfl, rfl, rfl⟩ := h
 exact go_sub (F' := (mkF 33 0 [(6, .str g.Text), (7, .str g.Lead)])) (H' := ⟨1, [(0, vC η θ ι κ μ)]⟩) [0] [0] rfl hK pq2 (pqo1 rfl rfl) rfl <| go_endD [] aa (rs := [.tmp 6, .tmp 7]) rfl rfl ⟨rfl, rfl⟩
theorem pP (m : Nat) (p0 : GToken) (r0 : Bool) (h : ((p0.Kind = 5) → true = r0) ∧ ((p0.Kind ≠ 5) → ((p0.Kind = 6) → true = r0) ∧ ((p0.Kind ≠ 6) → ((p0.Kind = 1) → true = r0) ∧ ((p0.Kind ≠ 1) → ((p0.Kind = 3) → true = r0) ∧ ((p0.Kind ≠ 3) → ((p0.Text = [108, 101, 116]) → true = r0) ∧ ((p0.Text ≠ [108, 101, 116]) → ((p0.Text = [105, 102]) → true = r0) ∧ ((p0.Text ≠ [105, 102]) → ((p0.Text = [116, 114, 117, 101]) → true = r0) ∧ ((p0.Text ≠ [116, 114, 117, 101]) → ((p0.Text = [102, 97, 108, 115, 101]) → true = r0) ∧ ((p0.Text ≠ [102, 97, 108, 115, 101]) → ((p0.Text = [63]) → true = r0) ∧ ((p0.Text ≠ [63]) → ((p0.Text = [91]) → true = r0) ∧ ((p0.Text ≠ [91]) → ((p0.Text = [40]) → true = r0) ∧ ((p0.Text ≠ [40]) → false = r0)))))))))))) : iH p0 r0 := by
 refine ⟨rfl, rfl, ?_⟩
 refine az 20 [] Try.func92 rfl rfl rfl (bg rfl) fun K hK => ?_
 refine gR 3 rfl <| gFP 0 rfl rfl rfl rfl <| gR 18 rfl <| qBeZ 5 6 rfl rfl rfl rfl h (fun h => ?_) fun h => ?_
 refine gR 12 rfl ?_
 subst h
 exact go_end aa (rs := [.tmp 2]) rfl rfl rfl
 refine gR 7 rfl <| qBeZ 5 7 rfl rfl rfl rfl h (fun h => ?_) fun h => ?_
 refine gR 12 rfl ?_
 subst h
 exact go_end aa (rs := [.tmp 2]) rfl rfl rfl
 refine gR 7 rfl <| qBeZ 5 8 rfl rfl rfl rfl h (fun h => ?_) fun h => ?_
 refine gR 12 rfl ?_
 subst h
 exact go_end aa (rs := [.tmp 2]) rfl rfl rfl
 refine gR 6 rfl <| qBeZ 5 9 rfl rfl rfl rfl h (fun h => ?_) fun h => ?_
 refine gR 9 rfl ?_
 subst h
 exact go_end aa (rs := [.tmp 2]) rfl rfl rfl
 refine gR 19 rfl <| qBeZ 12 13 rfl rfl rfl rfl h (fun h => ?_) fun h => ?_
 refine gR 12 rfl ?_
 subst h
 exact go_end aa (rs := [.tmp 2]) rfl rfl rfl
 refine gR 7 rfl <| qBeZ 12 14 rfl rfl rfl rfl h (fun h => ?_) fun h => ?_
 refine gR 12 rfl ?_
 subst h
 exact go_end aa (rs := [.tmp 2]) rfl rfl rfl
 refine gR 7 rfl <| qBeZ 12 15 rfl rfl rfl rfl h (fun h => ?_) fun h => ?_
 refine gR 12 rfl ?_
 subst h
 exact go_end aa (rs := [.tmp 2]) rfl rfl rfl
 refine gR 7 rfl <| qBeZ 12 16 rfl rfl rfl rfl h (fun h => ?_) fun h => ?_
 refine gR 12 rfl ?_
 subst h
 exact go_end aa (rs := [.tmp 2]) rfl rfl rfl
 refine gR 7 rfl <| qBeZ 12 17 rfl rfl rfl rfl h (fun h => ?_) fun h => ?_
 refine gR 12 rfl ?_
 subst h
 exact go_end aa (rs := [.tmp 2]) rfl rfl rfl
 refine gR 7 rfl <| qBeZ 12 18 rfl rfl rfl rfl h (fun h => ?_) fun h => ?_
 refine gR 12 rfl ?_
 subst h
 exact go_end aa (rs := [.tmp 2]) rfl rfl rfl
 refine gR 6 rfl <| qBeZ 12 19 rfl rfl rfl rfl h (fun h => ?_) fun h => ?_
 refine gR 9 rfl ?_
 subst h
 exact go_end aa (rs := [.tmp 2]) rfl rfl rfl
 refine gR 10 rfl ?_
 subst h
 exact go_end aa (rs := [.tmp 2]) rfl rfl rfl
theorem ej (m : Nat) (x : List GToken) (y p0_size z p0_at_ : Int) (r0 : Tree) (b : List GToken) (c g d k : Int) (h : ∃ j l n o p q, aJ x y p0_size z p0_at_ j l n o p q ∧ ((j.Text = [73, 110, 116]) → ∃ α r0_8 n0_9 β γ δ, aI l n o p q α r0_8 n0_9 β γ δ ∧ (Tree.node 5 [] [α.Lead] []) = r0 ∧ r0_8 = b ∧ n0_9 = c ∧ β = g ∧ γ = d ∧ δ = k) ∧ ((j.Text ≠ [73, 110, 116]) → ((j.Text = [84, 101, 120, 116]) → ∃ r ε ζ η θ ι, aI l n o p q r ε ζ η θ ι ∧ (Tree.node 6 [] [r.Lead] []) = r0 ∧ ε = b ∧ ζ = c ∧ η = g ∧ θ = d ∧ ι = k) ∧ ((j.Text ≠ [84, 101, 120, 116]) → ((j.Text = [66, 111, 111, 108]) → ∃ s κ μ ν ξ ο, aI l n o p q s κ μ ν ξ ο ∧ (Tree.node 7 [] [s.Lead] []) = r0 ∧ κ = b ∧ μ = c ∧ ν = g ∧ ξ = d ∧ ο = k) ∧ ((j.Text ≠ [66, 111, 111, 108]) → ((j.Text = [91]) → 2 ≤ 1000000000 ∧ ∃ a π τ υ φ χ, aI l n o p q a π τ υ φ χ ∧ ∃ s0_31, (List.replicate 2 ([] : List UInt8))[0]? = some s0_31 ∧ ∃ e ψ ω n0_35 n0_36 n0_37, di π τ υ φ χ e ψ ω n0_35 n0_36 n0_37 ∧ ∃ i r0_39 n0_40 n0_41 n0_42 n0_43, ay ψ ω n0_35 n0_36 n0_37 [93] i r0_39 n0_40 n0_41 n0_42 n0_43 ∧ ∃ s0_44, ((List.replicate 2 ([] : List UInt8)).set 0 a.Lead)[1]? = some s0_44 ∧ (Tree.node 8 [] (((List.replicate 2 ([] : List UInt8)).set 0 a.Lead).set 1 i) [e]) = r0 ∧ r0_39 = b ∧ n0_40 = c ∧ n0_41 = g ∧ n0_42 = d ∧ n0_43 = k) ∧ ((j.Text ≠ [91]) → ∃ t v r0_47 n0_48 n0_49 n0_50 n0_51, cq l n o p q 2 4 t v r0_47 n0_48 n0_49 n0_50 n0_51 ∧ (Tree.node 9 t [v] []) = r0 ∧ r0_47 = b ∧ n0_48 = c ∧ n0_49 = g ∧ n0_50 = d ∧ n0_51 = k))))) : di x y p0_size z p0_at_ r0 b c g d k := by
 refine az 54 [0] Try.func48 rfl rfl rfl (bg rfl) fun K hK => ?_
 refine gR 14 rfl ?_
 obtain ⟨j, l, n, o, p, q, hs9, h⟩ := h
 refine gCY hs9 [0] ?_
 refine gR 10 rfl <| qBeZ 19 20 rfl rfl rfl rfl h (fun h => ?_) fun h => ?_
 refine gR 10 rfl ?_
 obtain ⟨α, r0_8, n0_9, β, γ, δ, hs10, h⟩ := h
 refine gCY hs10 [0] ?_
 refine gR 7 rfl <| gFR 6 rfl rfl rfl rfl ?_
 obtain ⟨rfl, rfl, rfl, rfl, rfl, rfl⟩ := h
 exact go_sub (F' := (mkF 54 0 [(2, .ptr 1 0)])) (H' := ⟨2, [(1, vF ((Tree.node 5 [] [α.Lead] []).kind) ((Tree.node 5 [] [α.Lead] []).text) ((Tree.node 5 [] [α.Lead] []).leads) ((Tree.node 5 [] [α.Lead] []).kids)), (0, vC r0_8 n0_9 β γ δ)]⟩) [0, 1] [0] rfl hK pq1 ⟨⟨_, rfl, rfl, (.cons .rfl (.cons .rfl (.cons .rfl (.cons (.nil 4) .nil))))⟩, (pqo1 rfl rfl)⟩ rfl <| go_endD [1] aa (rs := [.cell 2 26]) rfl rfl ⟨rfl, rfl⟩
 refine gR 7 rfl <| qBeZ 21 22 rfl rfl rfl rfl h (fun h => ?_) fun h => ?_
 refine gR 10 rfl ?_
 obtain ⟨r, ε, ζ, η, θ, ι, hs11, h⟩ := h
 refine gCY hs11 [0] ?_
 refine gR 7 rfl <| gFR 6 rfl rfl rfl rfl ?_
 obtain ⟨rfl, rfl, rfl, rfl, rfl, rfl⟩ := h
 exact go_sub (F' := (mkF 54 0 [(2, .ptr 1 0)])) (H' := ⟨2, [(1, vF ((Tree.node 6 [] [r.Lead] []).kind) ((Tree.node 6 [] [r.Lead] []).text) ((Tree.node 6 [] [r.Lead] []).leads) ((Tree.node 6 [] [r.Lead] []).kids)), (0, vC ε ζ η θ ι)]⟩) [0, 1] [0] rfl hK pq1 ⟨⟨_, rfl, rfl, (.cons .rfl (.cons .rfl (.cons .rfl (.cons (.nil 4) .nil))))⟩, (pqo1 rfl rfl)⟩ rfl <| go_endD [1] aa (rs := [.cell 2 26]) rfl rfl ⟨rfl, rfl⟩
 refine gR 7 rfl <| qBeZ 23 24 rfl rfl rfl rfl h (fun h => ?_) fun h => ?_
 refine gR 6 rfl <| go_sub (F' := (mkF 54 0 [(0, .ptr 0 0), (2, .ptr 1 0), (3, .int .i64 7)])) (H' := ⟨2, [(1, vB 0 []), (0, vC l n o p q)]⟩) [0, 1] [0] rfl hK pq3 (pqo2 rfl rfl rfl rfl) rfl <| gR 4 rfl ?_
 obtain ⟨s, κ, μ, ν, ξ, ο, hs12, h⟩ := h
 refine gCY hs12 [0] ?_
 refine gR 7 rfl <| gFR 4 rfl rfl rfl rfl ?_
 obtain ⟨rfl, rfl, rfl, rfl, rfl, rfl⟩ := h
 exact go_sub (F' := (mkF 54 0 [(2, .ptr 1 0)])) (H' := ⟨2, [(1, vF ((Tree.node 7 [] [s.Lead] []).kind) ((Tree.node 7 [] [s.Lead] []).text) ((Tree.node 7 [] [s.Lead] []).leads) ((Tree.node 7 [] [s.Lead] []).kids)), (0, vC κ μ ν ξ ο)]⟩) [0, 1] [0] rfl hK pq1 ⟨⟨_, rfl, rfl, (.cons .rfl (.cons .rfl (.cons .rfl (.cons (.nil 4) .nil))))⟩, (pqo1 rfl rfl)⟩ rfl <| go_endD [1] aa (rs := [.cell 2 26]) rfl rfl ⟨rfl, rfl⟩
 refine gR 1 rfl <| go_sub (F' := (mkF 54 0 [(0, .ptr 0 0), (2, .ptr 1 0), (9, .str j.Text)])) (H' := ⟨2, [(1, vB 0 []), (0, vC l n o p q)]⟩) [0, 1] [0] rfl hK pq3 (pqo2 rfl rfl rfl rfl) rfl <| gR 6 rfl <| qBeZ 25 26 rfl rfl rfl rfl h (fun h => ?_) fun h => ?_
 refine gR 3 rfl ?_
 obtain ⟨hb, h⟩ := h
 refine gDo (.new (.row 9 1 (List.replicate 2 (.str [])))) (dMk aa rfl rfl rfl rfl rfl rfl rfl (by kernel_rfl) hb) trivial rfl rfl rfl <| gHR 2 (List.map V.str (List.replicate 2 ([] : List UInt8))) rfl (by first | (simp only [bH, List.map_replicate]; done) | (simp only [bH, List.map_replicate]; rfl)) rfl <| gR 6 rfl <| go_sub (F' := (mkF 54 0 [(0, .ptr 0 0), (2, .ptr 1 0), (4, .ptr 2 0)])) (H' := ⟨4, [(3, .row 9 1 (List.map V.str (List.replicate 2 ([] : List UInt8)))), (2, vG 8 []), (1, vB 0 []), (0, vC l n o p q)]⟩) [0, 1, 3, 2] [0] rfl hK pq3 ⟨⟨_, rfl, rfl, rfl, (vI _ (List.replicate 2 ([] : List UInt8))).symm⟩, (pqo3 rfl rfl rfl rfl rfl rfl)⟩ rfl ?_
 refine gDs [2] 6 7 rfl (by kernel_rfl) (by kernel_rfl) ?_
 refine gDr [(0, 2), (1, 3), (2, 0)] (by kernel_rfl) rfl rfl ?_
 obtain ⟨a, π, τ, υ, φ, χ, hs13, h⟩ := h
 refine gDCY 3 hs13 [0] rfl ?_
 refine gDr [(4, 0)] (by kernel_rfl) rfl rfl ?_
 obtain ⟨s0_31, hxs0_31, h⟩ := h
 refine cu 5 rfl (by kernel_rfl) (yIO aa rfl rfl rfl rfl (by have := (mapget (f := V.str) hxs0_31); exact (List.getElem?_eq_some_iff.1 this).1)) rfl rfl ?_
 refine ax 6 (.set 3 (.row 9 1 (List.map V.str ((vK 2).set 0 a.Lead)))) rfl (by kernel_rfl) (dSe aa rfl rfl rfl rfl (mapget (f := V.str) hxs0_31) rfl (dv V.str (List.replicate 2 ([] : List UInt8)) 0 a.Lead)) (okS rfl) rfl (by kernel_rfl) rfl rfl ?_
 refine gDe (by kernel_rfl) <| gR 2 rfl <| go_sub (F' := (mkF 54 0 [(0, .ptr 0 0), (2, .ptr 1 0), (4, .ptr 2 0)])) (H' := ⟨4, [(3, .row 9 1 (List.map V.str ((vK 2).set 0 a.Lead))), (2, vG 8 []), (1, vB 0 []), (0, vC π τ υ φ χ)]⟩) [0, 1, 2, 3] [0] rfl hK pq3 ⟨⟨_, rfl, rfl, rfl, (vI _ ((vK 2).set 0 a.Lead)).symm⟩, (pqo3 rfl rfl rfl rfl rfl rfl)⟩ rfl <| gDs [2] 7 8 rfl (by kernel_rfl) (by kernel_rfl) <| gDr [(0, 2), (1, 3), (2, 0)] (by kernel_rfl) rfl rfl ?_
 obtain ⟨e, ψ, ω, n0_35, n0_36, n0_37, hs14, h⟩ := h
 refine gDCY 3 hs14 [0] rfl ?_
 refine gDr [(4, 0)] (by kernel_rfl) rfl rfl <| gHR 6 (kidsV [e]) rfl (bv e) rfl <| ax 5 (.new (.row 26 4 (kidsV [e]))) rfl (by kernel_rfl) (ll aa rfl rfl rfl rfl rfl (by first | decide | (simp; done) | (simp [av]; done))) trivial rfl (by kernel_rfl) rfl rfl <| gDr [(6, 0), (7, 1)] (by kernel_rfl) rfl rfl <| gDe (by kernel_rfl) <| gR 2 rfl <| go_sub (F' := (mkF 54 0 [(0, .ptr 0 0), (2, .ptr 1 0), (4, .ptr 2 0)])) (H' := ⟨5, [(4, .row 26 4 (kidsV [e])), (3, .row 9 1 (List.map V.str ((vK 2).set 0 a.Lead))), (2, vD 8 []), (1, vB 0 []), (0, vC ψ ω n0_35 n0_36 n0_37)]⟩) [0, 1, 2, 3, 7] [0] rfl hK pq3 ⟨⟨_, rfl, rfl, rfl, (ah _ [e]).symm⟩, ⟨_, rfl, rfl, rfl, (vI _ ((vK 2).set 0 a.Lead)).symm⟩, (pqo3 rfl rfl rfl rfl rfl rfl)⟩ rfl ?_
 refine gDs [2] 5 6 rfl (by kernel_rfl) (by kernel_rfl) ?_
 refine gDr [(0, 2), (1, 3), (2, 0)] (by kernel_rfl) rfl rfl ?_
 obtain ⟨i, r0_39, n0_40, n0_41, n0_42, n0_43, hs15, h⟩ := h
 refine gDCY 3 hs15 [0] rfl ?_
 obtain ⟨s0_44, hxs0_44, h⟩ := h
 refine cu 4 rfl (by kernel_rfl) (yIO aa rfl rfl rfl rfl (by have := (mapget (f := V.str) hxs0_44); exact (List.getElem?_eq_some_iff.1 this).1)) rfl rfl ?_
 refine ax 5 (.set 3 (.row 9 1 (List.map V.str (((vK 2).set 0 a.Lead).set 1 i)))) rfl (by kernel_rfl) (dSe aa rfl rfl rfl rfl (mapget (f := V.str) hxs0_44) rfl (dv V.str ((vK 2).set 0 a.Lead) 1 i)) (okS rfl) rfl (by kernel_rfl) rfl rfl ?_
 refine gDe (by kernel_rfl) <| gR 10 rfl <| gFR 3 rfl (ch _ (fun _ => rfl) _) rfl rfl <| gFR 4 rfl (cm _) rfl rfl ?_
 obtain ⟨rfl, rfl, rfl, rfl, rfl, rfl⟩ := h
 refine go_sub (F' := (mkF 54 0 [(2, .ptr 1 0)])) (H' := ⟨2, [(1, vF ((Tree.node 8 [] (((vK 2).set 0 a.Lead).set 1 i) [e]).kind) ((Tree.node 8 [] (((vK 2).set 0 a.Lead).set 1 i) [e]).text) ((Tree.node 8 [] (((vK 2).set 0 a.Lead).set 1 i) [e]).leads) ((Tree.node 8 [] (((vK 2).set 0 a.Lead).set 1 i) [e]).kids)), (0, vC r0_39 n0_40 n0_41 n0_42 n0_43)]⟩) [0, 1] [0] rfl hK pq1 (pqo2 rfl rfl rfl rfl) rfl ?_
 exact go_endD [1] aa (rs := [.cell 2 26]) rfl rfl ⟨rfl, rfl⟩
 refine gR 4 rfl ?_
 obtain ⟨t, v, r0_47, n0_48, n0_49, n0_50, n0_51, hs16, h⟩ := h
 refine gCY hs16 [0] ?_
 refine gR 19 rfl <| gFR 3 rfl rfl rfl rfl ?_
 obtain ⟨rfl, rfl, rfl, rfl, rfl, rfl⟩ := h
 exact go_sub (F' := (mkF 54 0 [(2, .ptr 1 0)])) (H' := ⟨2, [(1, vF ((Tree.node 9 t [v] []).kind) ((Tree.node 9 t [v] []).text) ((Tree.node 9 t [v] []).leads) ((Tree.node 9 t [v] []).kids)), (0, vC r0_47 n0_48 n0_49 n0_50 n0_51)]⟩) [0, 1] [0] rfl hK pq1 ⟨⟨_, rfl, rfl, (.cons .rfl (.cons .rfl (.cons .rfl (.cons (.nil 4) .nil))))⟩, (pqo1 rfl rfl)⟩ rfl <| go_endD [1] aa (rs := [.cell 2 26]) rfl rfl ⟨rfl, rfl⟩
theorem nb (m : Nat) (d : List GToken) (e j g o : Int) (r0 : Tree) (k : List GToken) (l β n γ : Int) (h : 2 ≤ 1000000000 ∧ ∃ i a δ ε ζ η θ, cq d e j g o 1 1 i a δ ε ζ η θ ∧ ∃ κ, (List.replicate 2 ([] : List UInt8))[0]? = some κ ∧ ∃ c p q r s t, ay δ ε ζ η θ [58] c p q r s t ∧ ∃ ι, ((List.replicate 2 ([] : List UInt8)).set 0 a)[1]? = some ι ∧ ∃ b v x y z α, di p q r s t b v x y z α ∧ (Tree.node 4 i (((List.replicate 2 ([] : List UInt8)).set 0 a).set 1 c) [b]) = r0 ∧ v = k ∧ x = l ∧ y = β ∧ z = n ∧ α = γ) : dm d e j g o r0 k l β n γ := by
 refine az 28 [0] Try.func47 rfl rfl rfl (bg rfl) fun K hK => ?_
 refine gR 7 rfl ?_
 obtain ⟨hb, h⟩ := h
 refine gDo (.new (.row 9 1 (List.replicate 2 (.str [])))) (dMk aa rfl rfl rfl rfl rfl rfl rfl (by kernel_rfl) hb) trivial rfl rfl rfl <| gHR 2 (List.map V.str (List.replicate 2 ([] : List UInt8))) rfl (by first | (simp only [bH, List.map_replicate]; done) | (simp only [bH, List.map_replicate]; rfl)) rfl <| gR 6 rfl <| go_sub (F' := (mkF 28 0 [(0, .ptr 0 0), (2, .ptr 1 0), (3, .ptr 2 0)])) (H' := ⟨4, [(3, .row 9 1 (List.map V.str (List.replicate 2 ([] : List UInt8)))), (2, vG 4 []), (1, vB 0 []), (0, vC d e j g o)]⟩) [0, 1, 3, 2] [0] rfl hK pq3 ⟨⟨_, rfl, rfl, rfl, (vI _ (List.replicate 2 ([] : List UInt8))).symm⟩, (pqo3 rfl rfl rfl rfl rfl rfl)⟩ rfl ?_
 refine gDs [2] 8 11 rfl (by kernel_rfl) (by kernel_rfl) ?_
 refine gDr [(0, 2), (1, 3), (2, 0)] (by kernel_rfl) rfl rfl ?_
 obtain ⟨i, a, δ, ε, ζ, η, θ, hs4, h⟩ := h
 refine gDCY 3 hs4 [0] rfl ?_
 refine gDr [(4, 0), (5, 2), (6, 2), (7, 0), (8, 1)] (by kernel_rfl) rfl rfl ?_
 obtain ⟨κ, hxs0_8, h⟩ := h
 refine cu 9 rfl (by kernel_rfl) (yIO aa rfl rfl rfl rfl (by have := (mapget (f := V.str) hxs0_8); exact (List.getElem?_eq_some_iff.1 this).1)) rfl rfl ?_
 refine ax 10 (.set 3 (.row 9 1 (List.map V.str ((vK 2).set 0 a)))) rfl (by kernel_rfl) (dSe aa rfl rfl rfl rfl (mapget (f := V.str) hxs0_8) rfl (dv V.str (List.replicate 2 ([] : List UInt8)) 0 a)) (okS rfl) rfl (by kernel_rfl) rfl rfl ?_
 refine gDe (by kernel_rfl) <| gR 1 rfl <| go_sub (F' := (mkF 28 0 [(0, .ptr 0 0), (2, .ptr 1 0), (3, .ptr 2 0)])) (H' := ⟨4, [(3, .row 9 1 (List.map V.str ((vK 2).set 0 a))), (2, vG 4 i), (1, vB 0 []), (0, vC δ ε ζ η θ)]⟩) [0, 1, 2, 3] [0] rfl hK pq3 ⟨⟨_, rfl, rfl, rfl, (vI _ ((vK 2).set 0 a)).symm⟩, (pqo3 rfl rfl rfl rfl rfl rfl)⟩ rfl <| gR 1 rfl <| gDs [2] 5 6 rfl (by kernel_rfl) (by kernel_rfl) <| gDr [(0, 2), (1, 3), (2, 0)] (by kernel_rfl) rfl rfl ?_
 obtain ⟨c, p, q, r, s, t, hs5, h⟩ := h
 refine gDCY 3 hs5 [0] rfl ?_
 obtain ⟨ι, hxs0_15, h⟩ := h
 refine cu 4 rfl (by kernel_rfl) (yIO aa rfl rfl rfl rfl (by have := (mapget (f := V.str) hxs0_15); exact (List.getElem?_eq_some_iff.1 this).1)) rfl rfl ?_
 refine ax 5 (.set 3 (.row 9 1 (List.map V.str (((vK 2).set 0 a).set 1 c)))) rfl (by kernel_rfl) (dSe aa rfl rfl rfl rfl (mapget (f := V.str) hxs0_15) rfl (dv V.str ((vK 2).set 0 a) 1 c)) (okS rfl) rfl (by kernel_rfl) rfl rfl ?_
 refine gDe (by kernel_rfl) <| gR 2 rfl <| go_sub (F' := (mkF 28 0 [(0, .ptr 0 0), (2, .ptr 1 0), (3, .ptr 2 0)])) (H' := ⟨4, [(3, .row 9 1 (List.map V.str (((vK 2).set 0 a).set 1 c))), (2, vG 4 i), (1, vB 0 []), (0, vC p q r s t)]⟩) [0, 1, 2, 3] [0] rfl hK pq3 ⟨⟨_, rfl, rfl, rfl, (vI _ (((vK 2).set 0 a).set 1 c)).symm⟩, (pqo3 rfl rfl rfl rfl rfl rfl)⟩ rfl <| gDs [2] 7 8 rfl (by kernel_rfl) (by kernel_rfl) <| gDr [(0, 2), (1, 3), (2, 0)] (by kernel_rfl) rfl rfl ?_
 obtain ⟨b, v, x, y, z, α, hs6, h⟩ := h
 refine gDCY 3 hs6 [0] rfl ?_
 refine gDr [(4, 0)] (by kernel_rfl) rfl rfl <| gHR 6 (kidsV [b]) rfl (bv b) rfl <| ax 5 (.new (.row 26 4 (kidsV [b]))) rfl (by kernel_rfl) (ll aa rfl rfl rfl rfl rfl (by first | decide | (simp; done) | (simp [av]; done))) trivial rfl (by kernel_rfl) rfl rfl <| gDr [(6, 0), (7, 1)] (by kernel_rfl) rfl rfl <| gDe (by kernel_rfl) <| gR 8 rfl <| gFR 3 rfl (ch _ (fun _ => rfl) _) rfl rfl <| gFR 7 rfl (cm _) rfl rfl ?_
 obtain ⟨rfl, rfl, rfl, rfl, rfl, rfl⟩ := h
 exact go_sub (F' := (mkF 28 0 [(2, .ptr 1 0)])) (H' := ⟨2, [(1, vF ((Tree.node 4 i (((vK 2).set 0 a).set 1 c) [b]).kind) ((Tree.node 4 i (((vK 2).set 0 a).set 1 c) [b]).text) ((Tree.node 4 i (((vK 2).set 0 a).set 1 c) [b]).leads) ((Tree.node 4 i (((vK 2).set 0 a).set 1 c) [b]).kids)), (0, vC v x y z α)]⟩) [0, 1] [0] rfl hK pq1 (pqo2 rfl rfl rfl rfl) rfl <| go_endD [1] aa (rs := [.cell 2 26]) rfl rfl ⟨rfl, rfl⟩
theorem na (m : Nat) (e : List GToken) (g k i p : Int) (r0 : Tree) (l : List GToken) (n θ o ι : Int) (h : 3 ≤ 1000000000 ∧ ∃ a κ μ ν ξ ο, ay e g k i p [116, 121, 112, 101] a κ μ ν ξ ο ∧ ∃ υ, (List.replicate 3 ([] : List UInt8))[0]? = some υ ∧ ∃ j b q r s t v, cq κ μ ν ξ ο 2 2 j b q r s t v ∧ ∃ π, ((List.replicate 3 ([] : List UInt8)).set 0 a)[1]? = some π ∧ ∃ c x y z α β, ay q r s t v [61] c x y z α β ∧ ∃ τ, (((List.replicate 3 ([] : List UInt8)).set 0 a).set 1 b)[2]? = some τ ∧ ∃ d γ δ ε ζ η, di x y z α β d γ δ ε ζ η ∧ (Tree.node 3 j ((((List.replicate 3 ([] : List UInt8)).set 0 a).set 1 b).set 2 c) [d]) = r0 ∧ γ = l ∧ δ = n ∧ ε = θ ∧ ζ = o ∧ η = ι) : gZ e g k i p r0 l n θ o ι := by
 refine az 33 [0] Try.func28 rfl rfl rfl (bg rfl) fun K hK => ?_
 refine gR 7 rfl ?_
 obtain ⟨hb, h⟩ := h
 refine gDo (.new (.row 9 1 (List.replicate 3 (.str [])))) (dMk aa rfl rfl rfl rfl rfl rfl rfl (by kernel_rfl) hb) trivial rfl rfl rfl <| gHR 2 (List.map V.str (List.replicate 3 ([] : List UInt8))) rfl (by first | (simp only [bH, List.map_replicate]; done) | (simp only [bH, List.map_replicate]; rfl)) rfl <| gR 6 rfl <| go_sub (F' := (mkF 33 0 [(0, .ptr 0 0), (2, .ptr 1 0), (3, .ptr 2 0)])) (H' := ⟨4, [(3, .row 9 1 (List.map V.str (List.replicate 3 ([] : List UInt8)))), (2, vG 3 []), (1, vB 0 []), (0, vC e g k i p)]⟩) [0, 1, 3, 2] [0] rfl hK pq3 ⟨⟨_, rfl, rfl, rfl, (vI _ (List.replicate 3 ([] : List UInt8))).symm⟩, (pqo3 rfl rfl rfl rfl rfl rfl)⟩ rfl ?_
 refine gDs [2] 5 6 rfl (by kernel_rfl) (by kernel_rfl) ?_
 refine gDr [(0, 2), (1, 3), (2, 0)] (by kernel_rfl) rfl rfl ?_
 obtain ⟨a, κ, μ, ν, ξ, ο, hs5, h⟩ := h
 refine gDCY 3 hs5 [0] rfl ?_
 obtain ⟨υ, hxs0_7, h⟩ := h
 refine cu 4 rfl (by kernel_rfl) (yIO aa rfl rfl rfl rfl (by have := (mapget (f := V.str) hxs0_7); exact (List.getElem?_eq_some_iff.1 this).1)) rfl rfl ?_
 refine ax 5 (.set 3 (.row 9 1 (List.map V.str ((vK 3).set 0 a)))) rfl (by kernel_rfl) (dSe aa rfl rfl rfl rfl (mapget (f := V.str) hxs0_7) rfl (dv V.str (List.replicate 3 ([] : List UInt8)) 0 a)) (okS rfl) rfl (by kernel_rfl) rfl rfl ?_
 refine gDe (by kernel_rfl) <| gR 2 rfl <| go_sub (F' := (mkF 33 0 [(0, .ptr 0 0), (2, .ptr 1 0), (3, .ptr 2 0)])) (H' := ⟨4, [(3, .row 9 1 (List.map V.str ((vK 3).set 0 a))), (2, vG 3 []), (1, vB 0 []), (0, vC κ μ ν ξ ο)]⟩) [0, 1, 2, 3] [0] rfl hK pq3 ⟨⟨_, rfl, rfl, rfl, (vI _ ((vK 3).set 0 a)).symm⟩, (pqo3 rfl rfl rfl rfl rfl rfl)⟩ rfl <| gDs [2] 8 11 rfl (by kernel_rfl) (by kernel_rfl) <| gDr [(0, 2), (1, 3), (2, 0)] (by kernel_rfl) rfl rfl ?_
 obtain ⟨j, b, q, r, s, t, v, hs6, h⟩ := h
 refine gDCY 3 hs6 [0] rfl ?_
 refine gDr [(4, 0), (5, 2), (6, 2), (7, 0), (8, 1)] (by kernel_rfl) rfl rfl ?_
 obtain ⟨π, hxs0_15, h⟩ := h
 refine cu 9 rfl (by kernel_rfl) (yIO aa rfl rfl rfl rfl (by have := (mapget (f := V.str) hxs0_15); exact (List.getElem?_eq_some_iff.1 this).1)) rfl rfl ?_
 refine ax 10 (.set 3 (.row 9 1 (List.map V.str (((vK 3).set 0 a).set 1 b)))) rfl (by kernel_rfl) (dSe aa rfl rfl rfl rfl (mapget (f := V.str) hxs0_15) rfl (dv V.str ((vK 3).set 0 a) 1 b)) (okS rfl) rfl (by kernel_rfl) rfl rfl ?_
 refine gDe (by kernel_rfl) <| gR 1 rfl <| go_sub (F' := (mkF 33 0 [(0, .ptr 0 0), (2, .ptr 1 0), (3, .ptr 2 0)])) (H' := ⟨4, [(3, .row 9 1 (List.map V.str (((vK 3).set 0 a).set 1 b))), (2, vG 3 j), (1, vB 0 []), (0, vC q r s t v)]⟩) [0, 1, 2, 3] [0] rfl hK pq3 ⟨⟨_, rfl, rfl, rfl, (vI _ (((vK 3).set 0 a).set 1 b)).symm⟩, (pqo3 rfl rfl rfl rfl rfl rfl)⟩ rfl <| gR 1 rfl <| gDs [2] 5 6 rfl (by kernel_rfl) (by kernel_rfl) <| gDr [(0, 2), (1, 3), (2, 0)] (by kernel_rfl) rfl rfl ?_
 obtain ⟨c, x, y, z, α, β, hs7, h⟩ := h
 refine gDCY 3 hs7 [0] rfl ?_
 obtain ⟨τ, hxs0_22, h⟩ := h
 refine cu 4 rfl (by kernel_rfl) (yIO aa rfl rfl rfl rfl (by have := (mapget (f := V.str) hxs0_22); exact (List.getElem?_eq_some_iff.1 this).1)) rfl rfl ?_
 refine ax 5 (.set 3 (.row 9 1 (List.map V.str ((((vK 3).set 0 a).set 1 b).set 2 c)))) rfl (by kernel_rfl) (dSe aa rfl rfl rfl rfl (mapget (f := V.str) hxs0_22) rfl (dv V.str (((vK 3).set 0 a).set 1 b) 2 c)) (okS rfl) rfl (by kernel_rfl) rfl rfl ?_
 refine gDe (by kernel_rfl) <| gR 2 rfl <| go_sub (F' := (mkF 33 0 [(0, .ptr 0 0), (2, .ptr 1 0), (3, .ptr 2 0)])) (H' := ⟨4, [(3, .row 9 1 (List.map V.str ((((vK 3).set 0 a).set 1 b).set 2 c))), (2, vG 3 j), (1, vB 0 []), (0, vC x y z α β)]⟩) [0, 1, 2, 3] [0] rfl hK pq3 ⟨⟨_, rfl, rfl, rfl, (vI _ ((((vK 3).set 0 a).set 1 b).set 2 c)).symm⟩, (pqo3 rfl rfl rfl rfl rfl rfl)⟩ rfl <| gDs [2] 7 8 rfl (by kernel_rfl) (by kernel_rfl) ?_
 refine gDr [(0, 2), (1, 3), (2, 0)] (by kernel_rfl) rfl rfl ?_
 obtain ⟨d, γ, δ, ε, ζ, η, hs8, h⟩ := h
 refine gDCY 3 hs8 [0] rfl ?_
 refine gDr [(4, 0)] (by kernel_rfl) rfl rfl <| gHR 6 (kidsV [d]) rfl (bv d) rfl <| ax 5 (.new (.row 26 4 (kidsV [d]))) rfl (by kernel_rfl) (ll aa rfl rfl rfl rfl rfl (by first | decide | (simp; done) | (simp [av]; done))) trivial rfl (by kernel_rfl) rfl rfl <| gDr [(6, 0), (7, 1)] (by kernel_rfl) rfl rfl <| gDe (by kernel_rfl) <| gR 8 rfl <| gFR 3 rfl (ch _ (fun _ => rfl) _) rfl rfl <| gFR 7 rfl (cm _) rfl rfl ?_
 obtain ⟨rfl, rfl, rfl, rfl, rfl, rfl⟩ := h
 refine go_sub (F' := (mkF 33 0 [(2, .ptr 1 0)])) (H' := ⟨2, [(1, vF ((Tree.node 3 j ((((vK 3).set 0 a).set 1 b).set 2 c) [d]).kind) ((Tree.node 3 j ((((vK 3).set 0 a).set 1 b).set 2 c) [d]).text) ((Tree.node 3 j ((((vK 3).set 0 a).set 1 b).set 2 c) [d]).leads) ((Tree.node 3 j ((((vK 3).set 0 a).set 1 b).set 2 c) [d]).kids)), (0, vC γ δ ε ζ η)]⟩) [0, 1] [0] rfl hK pq1 (pqo2 rfl rfl rfl rfl) rfl ?_
 exact go_endD [1] aa (rs := [.cell 2 26]) rfl rfl ⟨rfl, rfl⟩
def iR (m : Nat) (p0 : Tree) (a : Int) (b : Nat) (r0 : Int) : Prop := ∀ (K : Ctx) (j1 : Nat), aR K [] → m ≤ j1 → qLG K Try.f12 (fun u _ => u = .int .i64 r0) (xL (xA (aj Try.f12))) [.loop (xL (xA (aj Try.f12))) j1, .blk 0, .seq (xF (aj Try.f12))] 20 (mkF 20 0 [(3, .int .i64 a), (7, .row 4 (kidsV p0.kids)), (8, .int .i64 (p0.kids.length : Int)), (9, .int .i64 (b : Int))]) ⟨0, []⟩
theorem qG (m : Nat) (p0 : Tree) (r0 : Int) (h : iR m p0 0 0 r0) : gN p0 r0 := by
 refine ⟨rfl, rfl, ?_⟩
 refine az 20 [] Try.func12 rfl rfl rfl (bg rfl) fun K hK => ?_
 exact gR 3 rfl <| gFP 0 rfl rfl rfl rfl <| gR 14 rfl <| gV 8 (.int .i64 (p0.kids.length : Int)) rfl (bC (av _)) rfl <| gLB 7 rfl (av _) fun hl5 => gR 4 rfl <| go_loop m <| gJ (h K _ hK (by omega)) [] [] rfl hK pq4 trivial rfl
theorem pT (m : Nat) (p0 : Tree) (b : Int) (a : Nat) (r0 : Int) (h : ((a < p0.kids.length) → ∃ c, p0.kids[a]? = some c ∧ ∃ d, gN c d ∧ a + 1 ≤ 9223372036854775807 ∧ iR m p0 (max b d) (a + 1) r0) ∧ ((¬ a < p0.kids.length) → InI (b + 1) ∧ (b + 1) = r0)) : iR (m + 1) p0 b a r0 := by
 intro K j1 hK hj1
 obtain ⟨j1, rfl⟩ : ∃ j, j1 = j + 1 := ⟨j1 - 1, by omega⟩
 refine gR 6 rfl <| gB 10 rfl rfl rfl ?_ ?_ <;> intro hd
 replace hd := (nP hd)
 replace h := h.1 hd
 refine gR 7 rfl ?_
 obtain ⟨c, hxt1_1, h⟩ := h
 refine gY (aY (ae hxt1_1) aa rfl rfl rfl rfl) rfl rfl <| gR 8 rfl ?_
 obtain ⟨d, hs6, h⟩ := h
 refine gC0 hs6 (by kernel_rfl) rfl rfl .rfl rfl <| gR 6 rfl ?_
 obtain ⟨hb, h⟩ := h
 exact gR 1 rfl <| gV 17 (.int .i64 ((a + 1 : Nat) : Int)) rfl (cM (by omega) (by omega)) rfl <| gR 2 rfl <| go_xloop <| gJ (h K _ hK (by omega)) [] [] rfl hK pq4 trivial rfl
 replace hd := (og hd)
 replace h := h.2 hd
 refine gR 3 rfl <| go_xloopE <| gR 5 rfl ?_
 obtain ⟨hb, h⟩ := h
 refine gR 1 rfl <| gV 19 (.int .i64 (b + 1)) rfl (cM hb rfl) rfl <| gR 4 rfl ?_
 subst h
 exact go_end aa (rs := [.tmp 2]) rfl rfl rfl
end Go.Proofs.Ytpigfkmccilkjaa
