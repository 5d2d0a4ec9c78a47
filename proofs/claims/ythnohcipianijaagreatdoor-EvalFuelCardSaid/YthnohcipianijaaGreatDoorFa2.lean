/- Contracts of the functions that the law reaches, part 2. -/
import Derived.Test.YthnohcipianijaaGreatDoorFa1
set_option linter.unusedVariables false
set_option linter.unusedSimpArgs false
namespace Go.Proofs.YthnohcipianijaaGreatDoor
open Go.RowKit
section
variable {P : Program} {T : Tab} {K : Ctx} {Q : Exit → Act → World → Prop} {s : List EI} {n : Nat} {F : Fm} {S S' : Nat → Prop} {w w' : World} {ρ ρ' : Nat → Option Value} {h h1 h1' h2 : Nat → Ob} {a : Act}
theorem wh (hr : HRel S w ρ h) (hi : Inv K S w ρ h) (hh1 : ∀ i, h1 i = h i ∨ h1 i = .gone) (hr' : HRel S' w' ρ' h1') (hi' : Inv ⟨w, S, fun b => ∃ id, own ρ id (h1 id) b, ρ⟩ S' w' ρ' h1')
  (hh2 : ∀ i, (h2 i = h1' i ∨ h2 i = .gone) ∨ (h2 i = h i ∧ h1 i = .gone ∧ h i ≠ .free)) :
  HRel S' w' ρ' h2 ∧ Inv K S' w' ρ' h2 ∧ Up S S' w w' ρ ρ' ∧ ∀ L, cf h L = true → (∀ id, id ∈ L → h1 id = .gone) → Ls ρ L w w' := by
 have h1own : ∀ id b, own ρ id (h1 id) b → own ρ id (h id) b := fun id b hb => by
  rcases hh1 id with e | e
  ·rw [e] at hb; exact hb
  ·rw [e] at hb; exact hb.elim
 have up : Up S S' w w' ρ ρ' := ⟨hi'.s0, fun b hb hlt => hi'.chg.block b hlt (fun ⟨id, ho⟩ => hr.sep id b (h1own id b ho) hb), hi'.pin⟩
 have frame : ∀ i b, h1 i = .gone → own ρ i (h i) b → ¬ ∃ id, own ρ id (h1 id) b := fun i b hg ho ⟨id, hid⟩ => by
  have e := hr.dis i id b ho (h1own id b hid)
  subst e
  rw [hg] at hid; exact hid.elim
 have cases2 : ∀ i b, own ρ' i (h2 i) b → own ρ' i (h1' i) b ∨ (h1 i = .gone ∧ own ρ i (h i) b) := fun i b hb => by
  rcases hh2 i with (e | e) | ⟨e, e1, e2⟩
  ·rw [e] at hb; exact .inl hb
  ·rw [e] at hb; exact hb.elim
  ·rw [e] at hb; exact .inr ⟨e1, Ad hi'.pin (hr.ob i) hb⟩
 have far : ∀ i b, h1 i = .gone → own ρ i (h i) b → ¬ S' b := fun i b hg ho hS => by
  rcases hi'.s1 b hS with h3 | h3 | h3
  ·exact hr.sep i b ho h3
  ·exact frame i b hg ho h3
  ·have := eh (hr.ob i) ho; simp only at h3; omega
 have apart : ∀ i j b, own ρ' i (h1' i) b → h1 j = .gone → own ρ j (h j) b → False := fun i j b ho hg hb => by
  rcases hi'.ow i b ho with h3 | h3
  ·exact frame j b hg hb h3
  ·have := eh (hr.ob j) hb; simp only at h3; omega
 refine ⟨⟨fun i => ?_, fun i b hb => ?_, fun i j b hbi hbj => ?_, hr'.slt⟩, ⟨?_, fun b hb => hi'.s0 b (hi.s0 b hb), fun b hb => ?_, fun i b hb => ?_, fun id x hx => hi'.pin _ _ (hi.pin id x hx)⟩, up, fun L hl hg id hid x b hx hb => ?_⟩
 ·rcases hh2 i with (e | e) | ⟨e, e1, e2⟩
  ·rw [e]; exact hr'.ob i
  ·rw [e]; trivial
  ·rw [e]
   exact (hr.ob i).up up (fun hf => absurd hf e2) (fun b hb => hi'.chg.block b (eh (hr.ob i) hb) (frame i b e1 hb))
 ·rcases cases2 i b hb with h3 | ⟨h3, h4⟩
  ·exact hr'.sep i b h3
  ·exact far i b h3 h4
 ·rcases cases2 i b hbi with h3 | ⟨h3, h4⟩ <;> rcases cases2 j b hbj with h5 | ⟨h5, h6⟩
  ·exact hr'.dis i j b h3 h5
  ·exact (apart i j b h3 h5 h6).elim
  ·exact (apart j i b h5 h3 h4).elim
  ·exact hr.dis i j b h4 h6
 ·refine hi.chg.trans hi'.chg ?_
  rintro b ⟨id, ho⟩
  exact hi.ow id b (h1own id b ho)
 ·rcases hi'.s1 b hb with h3 | ⟨id, h3⟩ | h3
  ·exact hi.s1 b h3
  ·exact .inr (hi.ow id b (h1own id b h3))
  ·exact .inr (.inr (Nat.le_trans hi.chg.size h3))
 ·rcases cases2 i b hb with h3 | ⟨h3, h4⟩
  ·rcases hi'.ow i b h3 with ⟨id, h5⟩ | h5
   ·exact hi.ow id b (h1own id b h5)
   ·exact .inr (Nat.le_trans hi.chg.size h5)
  ·exact hi.ow i b h4
 ·have ho := kg hr hl id hid x b hx hb
  exact hi'.chg.block b (eh (hr.ob id) ho) (frame id b (hg id hid) ho)
def jV : Nat → List V → Fm
 | 0, _ => []
 | n + 1, [] => none :: jV n []
 | n + 1, v :: r => some v :: jV n r
theorem sA : ∀ (n : Nat) (vs : List V), (jV n vs).length = n
 | 0, _ => rfl
 | n + 1, [] => by simp [jV, sA n []]
 | n + 1, v :: r => by simp [jV, sA n r]
theorem sg : ∀ (n : Nat) (vs : List V) (i : Nat) (v : V), (jV n vs).get i = some v → vs[i]? = some v
 | 0, _, i, v, h => by simp [jV, Fm.get] at h
 | n + 1, [], 0, v, h => by simp [jV, Fm.get] at h
 | n + 1, [], i + 1, v, h => by
  have := sg n [] i v (by simpa [jV, Fm.get] using h)
  simp at this
 | n + 1, u :: r, 0, v, h => by simpa [jV, Fm.get] using h
 | n + 1, u :: r, i + 1, v, h => by
  have := sg n r i v (by simpa [jV, Fm.get] using h)
  simpa using this
theorem sb {H : Hp} {fid : FuncId} {fn : Func} {c : Code} {vs : List V} {xs : List Value} {R : Ending → World → Prop} (hf : P.funcs[fid]? = some fn) (hb : fn.body = some c) (hl : Nat.ble vs.length fn.ntmps = true) (hr : HRel S w ρ H.get) (hi : Inv K S w ρ H.get) (hx : LRel S w ρ vs xs)
  (k : Go P K (bodyPost P fn R) (.code c) [] fn.ntmps (jV fn.ntmps vs) H) : Calls P fid xs.toArray w R := by
 refine calls_of_wp hf hb (k S w ρ _ hr hi ⟨?_, rfl, ?_, fun i v hv => ?_⟩)
 ·have h1 : vs.length ≤ fn.ntmps := Nat.le_of_ble_eq_true hl
  have h2 := hx.length
  simp; omega
 ·exact Nat.le_of_eq (sA _ _)
 ·have h1 := sg _ _ _ _ hv
  obtain ⟨x, h2, h3⟩ := hx.get h1
  refine ⟨x, ?_, h3⟩
  have hlt : i < xs.length := (List.getElem?_eq_some_iff.1 h2).1
  show (xs.toArray ++ Array.replicate (fn.ntmps - xs.toArray.size) undef)[i]? = some x
  rw [Array.getElem?_append_left (by simpa using hlt)]
  simpa using h2
def zt (T : Tab) (h : Nat → Ob) (F : Fm) : ResultVar → Option V
 | .tmp t => F.get t
 |.cell t ty => match T.ty ty with
  |some d => match F.get t with
   |some (.ptr id 0) => match h id with
    | .var _ cs => mj d cs 0
    | _ => none
   | some (.box cs 0) => mj d cs 0
   | _ => none
  | none => none
def pq (T : Tab) (h : Nat → Ob) (F : Fm) : List ResultVar → Option (List V)
 | [] => some []
 |x :: r => match zt T h F x with
  |some v => match pq T h F r with
   | some vs => some (v :: vs)
   | none => none
  | none => none
def lT : List V → V
 | [v] => v
 | vs => .tup vs
theorem vl {t : TypeId} {d : TD} (td : TdOk P t d) {b off : Nat} {cs : List V} {xs : List Value} {v : V} (hl : LRel S w ρ cs xs) (hc : ∀ j, j < xs.length → w.cell? ⟨b, off + j, none⟩ = xs[j]?) (hv : mj d cs 0 = some v) : ∃ y, (loadVar t ⟨b, off, none⟩).run P w = .ok y w ∧ VRel S w ρ v y := by
 have hlen := hl.length
 rcases mb td hv with ⟨h1, h2⟩ | ⟨h1, h2, rfl⟩
 ·obtain ⟨y, h3, h4⟩ := hl.get h2
  have h0 : 0 < xs.length := (List.getElem?_eq_some_iff.1 h3).1
  have := uh (P := P) (w := w) (p := ⟨b, off, none⟩) h1 (by have := hc 0 h0; rw [Nat.add_zero] at this; rw [this, h3])
  refine ⟨y, ?_, h4⟩
  simp only [Instr.loadAt, Instr.sureAddr] at this
  simpa using this
 ·have := uo (P := P) (w := w) (b := b) (o := off) (cs := xs.take d.size) h1 (by simp; omega) (fun j hj => by rw [hc j (by omega), List.getElem?_take, if_pos hj])
  refine ⟨_, ?_, by simp only [VRel]; exact ⟨xs.take d.size, rfl, by simpa using hl.take d.size⟩⟩
  simp only [Instr.loadAt, Instr.sureAddr] at this
  simpa using this
theorem Ck (hT : TabOk P T) (hr : HRel S w ρ h) (hF : FRel S w ρ a n F) {x : ResultVar} {v : V} (hv : zt T h F x = some v) : ∃ y, (sm a x).run P w = .ok y w ∧ VRel S w ρ v y := by
 unfold zt at hv
 split at hv
 ·rename_i t
  obtain ⟨y, h1, h2⟩ := hF.get t v hv
  exact ⟨y, by simp [sm, Array.getD_eq_getD_getElem?, h1], h2⟩
 ·rename_i t ty
  split at hv
  ·rename_i d hd
   split at hv
   ·rename_i id hid
    split at hv
    ·rename_i ho
     obtain ⟨b, xs, g1, g2, g3⟩ := ni hr ho
     obtain ⟨y, h1, h2⟩ := hF.get t _ hid
     simp only [VRel] at h2
     obtain ⟨b', h3, rfl⟩ := h2
     rw [g1] at h3
     simp only [Option.some.injEq, Value.pointer.injEq, Addr.mk.injEq, and_true] at h3
     subst h3
     obtain ⟨z, k1, k2⟩ := vl (hT.ty _ _ hd) g3 (b := b) (off := 0) (fun j hj => by rw [Nat.zero_add, g2.cell]) hv
     exact ⟨z, by simp [sm, Array.getD_eq_getD_getElem?, h1, asAddr, k1], k2⟩
    ·cases hv
   ·rename_i cs hid
    obtain ⟨y, h1, h2⟩ := hF.get t _ hid
    simp only [VRel] at h2
    obtain ⟨b, off, xs, rfl, _, _, g3, g4⟩ := h2
    obtain ⟨z, k1, k2⟩ := vl (hT.ty _ _ hd) g3 (b := b) (off := off) g4 hv
    exact ⟨z, by simp [sm, Array.getD_eq_getD_getElem?, h1, asAddr, k1], k2.up up0⟩
   ·cases hv
  ·cases hv
theorem ye (hT : TabOk P T) (hr : HRel S w ρ h) (hF : FRel S w ρ a n F) : ∀ {l : List ResultVar} {vs : List V}, pq T h F l = some vs → ∃ ys, (l.mapM (sm a)).run P w = .ok ys w ∧ LRel S w ρ vs ys
 | [], vs, hv => by simp only [pq, Option.some.injEq] at hv; subst hv; exact ⟨[], by simp, by simp [LRel]⟩
 | x :: r, vs, hv => by
  simp only [pq] at hv
  split at hv
  ·rename_i v h1
   split at hv
   ·rename_i us h2
    simp only [Option.some.injEq] at hv; subst hv
    obtain ⟨y, g1, g2⟩ := Ck hT hr hF h1
    obtain ⟨ys, g3, g4⟩ := ye hT hr hF h2
    exact ⟨y :: ys, by simp [List.mapM_cons, g1, g3], ⟨y, ys, rfl, g2, g4⟩⟩
   ·cases hv
  ·cases hv
theorem xT {vs : List V} {ys : List Value} (hl : LRel S w ρ vs ys) : VRel S w ρ (lT vs) (qG ys) := by
 match vs, ys, hl with
 | [], ys, hl => simp only [LRel] at hl; subst hl; simp only [lT, qG, VRel]; exact ⟨[], rfl, by simp [LRel]⟩
 | [v], ys, hl =>
  simp only [LRel] at hl
  obtain ⟨x, zs, rfl, h1, rfl⟩ := hl
  exact h1
 | v :: u :: r, ys, hl =>
  have hl' := hl
  simp only [LRel] at hl
  obtain ⟨x, zs, rfl, h1, y, zs', rfl, h2, h3⟩ := hl
  simp only [lT, qG, VRel]
  exact ⟨_, rfl, hl'⟩
theorem ret_go (hT : TabOk P T) {fn : Func} {R : Ending → World → Prop} {rs : List ResultVar} {vs : List V} {e : Exit} (he : e = .ret ∨ e = .normal) (hrs : fn.results = rs.toArray) (hr : HRel S w ρ h) (hF : FRel S w ρ a n F) (hv : pq T h F rs = some vs) (hR : ∀ x, VRel S w ρ (lT vs) x → R (.returned x) w) : bodyPost P fn R e a w := by
 obtain ⟨ys, h0, h1⟩ := ye hT hr hF hv
 have hb : bodyPost P fn R .ret a w := by
  refine bodyPost_ret (v := qG ys) ?_ hF.defers (hR _ (xT h1))
  have e : (Array.mapM (sm a) rs.toArray).run P w = .ok ys.toArray w := by rw [List.mapM_toArray]; simp [h0]
  unfold results
  rw [hrs]
  change ((Array.mapM (sm a) rs.toArray) >>= fun vs => pure (if h : vs.size = 1 then vs[0] else .tuple vs)).run P w = _
  simp only [Sem.run_bind, e, Result.andThen_ok, Sem.run_pure]
  match ys with
  | [] => rfl
  | [v] => rfl
  | v :: u :: r => simp [qG]
 rcases he with rfl | rfl
 ·exact hb
 ·exact hb
end
end Go.Proofs.YthnohcipianijaaGreatDoor
namespace Go.Proofs.YthnohcipianijaaGreatDoor
open Go.RowKit
def yE (d : Nat) : Operand → Bool
 | .tmp t => !Nat.beq t d
 | _ => true
def oO (d : Option Tmp) (ps : List (Nat × Operand)) : Bool := match d with
 | some d => ps.all fun p => yE d p.2
 | none => true
def uY (d e : Option Tmp) : Bool := match d, e with
 | some d, some e => !Nat.beq d e
 | _, _ => true
section
variable {P : Program} {T : Tab} {K : Ctx} {Q : Exit → Act → World → Prop} {s : List EI} {n : Nat} {F : Fm} {H : Hp} {S : Nat → Prop} {w : World} {ρ : Nat → Option Value} {a : Act}
theorem DM {d : Nat} {x : Operand} {y : Value} (h : yE d x = true) : aF (fA (a.put (some d) y)) x = aF (fA a) x := by
 cases x with
 | tmp t =>
  have hne : t ≠ d := fun e => by subst e; simp [yE] at h
  simp only [aF, fA, Act.put, Array.getElem?_setIfInBounds]
  rw [if_neg (fun e => hne e.symm)]
 | _ => rfl
theorem AJ {d : Option Tmp} {y : Value} : ∀ {ps : List (Nat × Operand)}, oO d ps = true → dP (fA (a.put d y)) ps = dP (fA a) ps := by
 intro ps h
 cases d with
 | none => rfl
 | some d =>
  induction ps with
  | nil => rfl
  | cons p r ih =>
   obtain ⟨i, x⟩ := p
   simp only [oO, List.all_cons, Bool.and_eq_true] at h
   have ih' := ih (by simp only [oO]; exact h.2)
   simp only [dP, DM h.1, ih']
theorem PRel.up {S' : Nat → Prop} {w' : World} {ρ' : Nat → Option Value} (u : Up S S' w w' ρ ρ') : ∀ {vs : List (Nat × V)} {ys : List (Nat × Value)}, PRel S w ρ vs ys → PRel S' w' ρ' vs ys
 | [], ys, h => h
 | (i, v) :: r, ys, h => by
  simp only [PRel] at h ⊢
  obtain ⟨x, zs, h1, h2, h3⟩ := h
  exact ⟨x, zs, h1, h2.up u, PRel.up u h3⟩
theorem As {d e : Option Tmp} {v u : Option V} (h : uY d e = true) : (F.seto d v).seto e u = (F.seto e u).seto d v := by
 cases d with
 | none => rfl
 |some d => cases e with
  | none => rfl
  | some e =>
   have : d ≠ e := fun x => by subst x; simp [uY] at h
   simp only [Fm.seto]
   exact List.set_comm _ _ this
theorem AH {d : Option Tmp} {v : V} (hd : ∀ t, d = some t → F.get t = none) (hF : FRel S w ρ a n (F.seto d (some v))) : FRel S w ρ a n F := by
 cases d with
 | none => exact hF
 | some d =>
  refine ⟨hF.size, hF.defers, by have := hF.len; simpa [Fm.seto] using this, fun i u hu => hF.get i u ?_⟩
  have hne : d ≠ i := fun e => by subst e; rw [hd d rfl] at hu; cases hu
  rw [Fm.get_eq] at hu ⊢
  simp only [Fm.seto, List.getElem?_set, if_neg hne]
  exact hu
variable {all : Array Oper} {L : List Nat} {m left i : Nat} {listed : Array Bool} {o : Oper}
def GoP (P : Program) (K : Ctx) (Q : Exit → Act → World → Prop) (all : Array Oper) (L : List Nat) (m left : Nat) (listed : Array Bool) (s : List EI) (n : Nat) (F : Fm) (H : Hp) (i : Nat) (o : Oper) (ps : List (Nat × Operand)) (vs : List (Nat × V)) (v : V) : Prop :=
  ∀ S w ρ a, HRel S w ρ H.get → Inv K S w ρ H.get → Region.noSelect all = true →
    (FRel S w ρ a n F → (∃ ys, dP (fA a) ps = some ys ∧ PRel S w ρ vs ys) → wpB P all (NoPanic (cJ P Q s)) (Agree S w) (Ls ρ L w) m (left + 1) listed a w) ∧
    (FRel S w ρ a n (F.seto o.dst (some v)) → wpB P all (NoPanic (cJ P Q s)) (Agree S w) (Ls ρ L w) m left (listed.setIfInBounds i true) a w)
theorem AO {ps : List (Nat × Operand)} {vs : List (Nat × V)} {v : V} (hv : jA F ps = some vs) (k : GoP P K Q all L m left listed s n (F.seto o.dst none) H i o ps vs v) : Go P K Q (.drw all L m (left + 1) listed) s n F H := fun S w ρ a hr hi hF hs => by
 obtain ⟨ys, h1, h2⟩ := my hF hv
 refine (k S w ρ a hr hi hs).1 ?_ ⟨ys, h1, h2⟩
 refine ⟨hF.size, hF.defers, ?_, fun j u hu => ?_⟩
 ·cases hd : o.dst with
  | none => exact hF.len
  | some d => have := hF.len; simpa [Fm.seto] using this
 ·cases hd : o.dst with
  | none => rw [hd] at hu; exact hF.get j u hu
  | some d =>
   rw [hd, Fm.get_eq] at hu
   simp only [Fm.seto, List.getElem?_set] at hu
   split at hu
   ·split at hu <;> simp at hu
   ·exact hF.get j u (by rw [Fm.get_eq]; exact hu)
theorem tU {w' : World} {b : Nat} (hc : Chg [] w w') : Up S (fun c => S c ∨ c = b) w w' ρ ρ := ⟨fun _ h => .inl h, fun c _ hlt => hc.block c hlt (by simp), fun _ _ h => h⟩
theorem Ac {h : Nat → Ob} {w' : World} {b : Nat} (hr : HRel S w ρ h) (hc : Chg [] w w') (hb : b = w.heap.size) (hb' : b < w'.heap.size) : HRel (fun c => S c ∨ c = b) w' ρ h := by
 refine ⟨fun i => (hr.ob i).up (tU hc) (fun hf => ?_) (fun c hcc => hc.block c (eh (hr.ob i) hcc) (by simp)), fun i c hcc => ?_, hr.dis, fun c hcc => ?_⟩
 ·have := hr.ob i; rw [hf] at this; exact this
 ·rintro (h1 | h1)
  ·exact hr.sep i c hcc h1
  ·have := eh (hr.ob i) hcc; omega
 ·rcases hcc with h1 | h1
  ·exact Nat.lt_of_lt_of_le (hr.slt c h1) hc.size
  ·omega
theorem BS {h : Nat → Ob} {w' : World} {b : Nat} (hi : Inv K S w ρ h) (hc : Chg [] w w') (hb : b = w.heap.size) : Inv K (fun c => S c ∨ c = b) w' ρ h := by
 have h0 := hi.chg0 hc
 refine ⟨h0.chg, fun c hcc => .inl (hi.s0 c hcc), fun c hcc => ?_, hi.ow, hi.pin⟩
 rcases hcc with h1 | h1
 ·exact hi.s1 c h1
 ·have := hi.chg.size; exact .inr (.inr (by omega))
theorem wJ {h : Nat → Ob} {t e : TypeId} {ps : List (Nat × Operand)} {vs : List (Nat × V)} {ys : List (Nat × Value)} {d : TD} {k : Nat} {ty : TypeId} {els : List V} (hT : TabOk P T) (hr : HRel S w ρ h) (hi : Inv K S w ρ h) (fr : Fr a n (fA a)) (hps : dP (fA a) ps = some ys) (hpr : PRel S w ρ vs ys)
  {x1 x2 : Nat} {x3 : V} (ht : T.ty t = some ⟨x1, x2, x3, .sl e⟩) (he : T.ty e = some d) (hp : iz d.size 0 vs = some els) (hb : (Nat.beq els.length k && Nat.ble (k * d.size) 16777216 && Nat.ble k 16777216 && pureL els) = true) :
  ∃ x S' w', Runs P a ty (.buildSlice t k ps.toArray) w (.value x) w' ∧ HRel S' w' ρ h ∧ Inv K S' w' ρ h ∧ Up S S' w w' ρ ρ ∧ Chg [] w w' ∧ VRel S' w' ρ (.row d.size els) x := by
 simp only [Bool.and_eq_true, Nat.beq_eq] at hb
 obtain ⟨⟨⟨hl, hsm⟩, hm⟩, hpu⟩ := hb
 have hmm : k ≤ 16777216 := Nat.le_of_ble_eq_true hm
 obtain ⟨z, hz1, hz2⟩ := (hT.ty _ _ he).zeroT
 obtain ⟨h1, h2, h3⟩ := oo hpr hp
 have hidx : ps.map (·.1) = List.range k := by
  have : ps.map (·.1) = ys.map (·.1) := by rw [← fr.parts hps]; simp
  rw [this, h1, hl, List.range_eq_range']
 obtain ⟨w', b, g1, g2, g3, g4, g5⟩ := ud (P := P) (t := t) (m := k) fr hps ((hT.ty _ _ ht).sl rfl) (hT.ty _ _ he).size hz1 hidx h2 hsm rfl w ty
 have hlen := h3.length
 refine ⟨_, fun c => S c ∨ c = b, w', g1, Ac hr g3 g4 g5, BS hi g3 g4, tU g3, g3, ?_⟩
 simp only [VRel]
 refine ⟨some ⟨b, 0, none⟩, k, _, by rw [hl], by omega, by simp only [maxLen]; omega, (h3.up (tU g3)).pure hpu, hlen, fun _ => ⟨b, 0, rfl, .inr rfl, g5, fun j hj => by rw [Nat.zero_add, g2.cell]⟩⟩
def nF (T : Tab) (all : Array Oper) (i : Nat) (vs : List (Nat × V)) : Option (Oper × List (Nat × Operand) × V) := match all[i]? with
 |some ⟨dst, .buildSlice t k ⟨ps⟩, ty, pp, af, none⟩ => match T.ty t with
  |some ⟨_, _, _, .sl e⟩ => match T.ty e with
   |some d => match iz d.size 0 vs with
    |some els => match Nat.beq els.length k && Nat.ble (k * d.size) 16777216 && Nat.ble k 16777216 && pureL els with
     | true => eD d.size fun sz => some (⟨dst, .buildSlice t k ⟨ps⟩, ty, pp, af, none⟩, ps, .row sz els)
     | false => none
    | none => none
   | none => none
  | _ => none
 | _ => none
variable {ps : List (Nat × Operand)} {vs : List (Nat × V)} {v : V}
theorem uw (hT : TabOk P T) (hp : nF T all i vs = some (o, ps, v)) (hr : HRel S w ρ H.get) (hiv : Inv K S w ρ H.get) (hF : FRel S w ρ a n F) {ys : List (Nat × Value)} (hps : dP (fA a) ps = some ys) (hpr : PRel S w ρ vs ys) (hs : Region.noSelect all = true)
  (hl : (cf H.get L || (listed.setIfInBounds i true).getD m false) = true)
  (D : ∀ S w ρ a, HRel S w ρ H.get → Inv K S w ρ H.get → FRel S w ρ a n (F.seto o.dst (some v)) → wpB P all (NoPanic (cJ P Q s)) (Agree S w) (Ls ρ L w) m left (listed.setIfInBounds i true) a w) :
  wpOp P all (NoPanic (cJ P Q s)) i (fun a' w' => Agree S w w' ∧ (Ls ρ L w w' ∨ (listed.setIfInBounds i true).getD m false = true) ∧ wpB P all (NoPanic (cJ P Q s)) (Agree S w) (Ls ρ L w) m left (listed.setIfInBounds i true) a' w') a w := by
 unfold nF at hp
 split at hp
 ·rename_i dst t k ps' ty pp af hi
  split at hp
  ·rename_i e ht
   split at hp
   ·rename_i d he
    split at hp
    ·rename_i els hrp
     split at hp
     ·rename_i hb
      rw [cD] at hp
      simp only [Option.some.injEq, Prod.mk.injEq] at hp
      obtain ⟨rfl, rfl, rfl⟩ := hp
      obtain ⟨x, S', w', g1, g2, g3, g4, g5, g6⟩ := wJ (ty := ty) hT hr hiv hF.fr hps hpr ht he hrp hb
      unfold wpOp
      simp only [hi]
      rw [if_pos (bF hF (o := ⟨dst, .buildSlice t k ⟨ps'⟩, ty, pp, af, none⟩) rfl)]
      refine .inl ?_
      have hk := D S' w' ρ _ g2 g3 (bO (hF.up g4) dst g6)
      unfold Oper.wp
      rw [g1 dst pp af none]
      refine hV g4 (fun b hb => g5.block b (hr.slt b hb) (by simp)) ((rq hl).imp (fun hl id hid x b hx hb => ?_) id) hk
      exact g5.block b (eh (hr.ob id) (kg hr hl id hid x b hx hb)) (by simp)
     ·cases hp
    ·cases hp
   ·cases hp
  ·cases hp
 ·cases hp
theorem DT (hT : TabOk P T) (hp : nF T all i vs = some (o, ps, v)) (hrd : Region.ready .any all listed = [i]) (hl : (cf H.get L || (listed.setIfInBounds i true).getD m false) = true)
  (kk : Go P K Q (.drw all L m left (listed.setIfInBounds i true)) s n (F.seto o.dst (some v)) H) : GoP P K Q all L m left listed s n F H i o ps vs v := fun S w ρ a hr hiv hs => by
 refine ⟨fun hF ⟨ys, hps, hpr⟩ => lY (S := S) hrd (uw hT hp hr hiv hF hps hpr hs hl fun S w ρ a hr hiv hF => kk S w ρ a hr hiv hF hs), fun hF => kk S w ρ a hr hiv hF hs⟩
theorem xZ {j : Nat} {B Sx : World → Prop} {Q' : Exit → Act → World → Prop} (hrd : (match Region.ready .any all listed with | [x, y] => (Nat.beq x i && Nat.beq y j) || (Nat.beq x j && Nat.beq y i) | _ => false) = true)
  (h1 : wpOp P all Q' i (fun a' w' => B w' ∧ (Sx w' ∨ (listed.setIfInBounds i true).getD m false = true) ∧ wpB P all Q' B Sx m left (listed.setIfInBounds i true) a' w') a w)
  (h2 : wpOp P all Q' j (fun a' w' => B w' ∧ (Sx w' ∨ (listed.setIfInBounds j true).getD m false = true) ∧ wpB P all Q' B Sx m left (listed.setIfInBounds j true) a' w') a w) : wpB P all Q' B Sx m (left + 1) listed a w := by
 split at hrd
 ·rename_i x y hr
  refine ⟨fun h0 => (by rw [hr] at h0; cases h0), fun c hc => ?_⟩
  rw [hr] at hc
  simp only [Bool.or_eq_true, Bool.and_eq_true, Nat.beq_eq] at hrd
  simp only [List.mem_cons, List.not_mem_nil, or_false] at hc
  rcases hrd with ⟨rfl, rfl⟩ | ⟨rfl, rfl⟩
  ·rcases hc with rfl | rfl
   ·exact h1
   ·exact h2
  ·rcases hc with rfl | rfl
   ·exact h2
   ·exact h1
 ·cases hrd
theorem BW (hT : TabOk P T) (hp : nF T all i vs = some (o, ps, v)) {j : Nat} {oj : Oper} (hj : all[j]? = some oj) (hrd : (match Region.ready .any all listed with | [x, y] => (Nat.beq x i && Nat.beq y j) || (Nat.beq x j && Nat.beq y i) | _ => false) = true) (hrd1 : Region.ready .any all (listed.setIfInBounds i true) = [j])
  (hl : (cf H.get L || (listed.setIfInBounds i true).getD m false) = true) (hd : ∀ t, o.dst = some t → F.get t = none) (hne : uY o.dst oj.dst = true) (hpn : oO oj.dst ps = true) (hcomm : (listed.setIfInBounds i true).setIfInBounds j true = (listed.setIfInBounds j true).setIfInBounds i true)
  {Post : V → Hp → Prop}
  (hx : ∀ S w ρ a, HRel S w ρ H.get → Inv K S w ρ H.get → FRel S w ρ a n F → ∀ (K2 : Act → World → Prop), (∀ x S' w' ρ' u H', Post u H' → HRel S' w' ρ' H'.get → Inv K S' w' ρ' H'.get → Up S S' w w' ρ ρ' → Agree S w w' → (Ls ρ L w w' ∨ ((listed.setIfInBounds j true).getD m false = true ∧ ((listed.setIfInBounds j true).setIfInBounds i true).getD m false = true)) → VRel S' w' ρ' u x → K2 (a.put oj.dst x) w') → wpOp P all (NoPanic (cJ P Q s)) j K2 a w)
  (kk : ∀ u H', Post u H' → GoP P K Q all L m left (listed.setIfInBounds j true) s n (F.seto oj.dst (some u)) H' i o ps vs v) : GoP P K Q all L m (left + 1) listed s n F H i o ps vs v := fun S w ρ a hr hiv hs => by
 have D : ∀ S w ρ a, HRel S w ρ H.get → Inv K S w ρ H.get → FRel S w ρ a n (F.seto o.dst (some v)) → wpB P all (NoPanic (cJ P Q s)) (Agree S w) (Ls ρ L w) m (left + 1) (listed.setIfInBounds i true) a w := fun S w ρ a hr hiv hF => by
  refine lY (S := S) hrd1 ?_
  refine hx S w ρ a hr hiv (AH hd hF) _ fun x S' w' ρ' u H' hP hr' hi' hu hA hL hv => ?_
  rw [hcomm]
  refine hV hu hA (hL.imp id (·.2)) ((kk u H' hP S' w' ρ' _ hr' hi' hs).2 ?_)
  rw [← As hne]
  exact bO (hF.up hu) oj.dst hv
 refine ⟨fun hF ⟨ys, hps, hpr⟩ => ?_, D S w ρ a hr hiv⟩
 refine xZ hrd (uw hT hp hr hiv hF hps hpr hs hl D) ?_
 refine hx S w ρ a hr hiv hF _ fun x S' w' ρ' u H' hP hr' hi' hu hA hL hv => ?_
 refine hV hu hA (hL.imp id (·.1)) ((kk u H' hP S' w' ρ' _ hr' hi' hs).1 (bO (hF.up hu) oj.dst hv) ⟨ys, ?_, hpr.up hu⟩)
 rw [AJ hpn]; exact hps
end
section
variable {P : Program} {T : Tab} {K : Ctx} {Q : Exit → Act → World → Prop} {s : List EI} {n : Nat} {F : Fm} {H : Hp}
def jQ (P : Program) (K : Ctx) (o : Oper) (L : List Nat) (ok : Bool) (n : Nat) (F : Fm) (H : Hp) (u : V) (H' : Hp) : Prop :=
  ∀ S w ρ a, HRel S w ρ H.get → Inv K S w ρ H.get → FRel S w ρ a n F → ∀ (Q' : Exit → Act → World → Prop) (K2 : Act → World → Prop),
    (∀ x S' w' ρ', HRel S' w' ρ' H'.get → Inv K S' w' ρ' H'.get → Up S S' w w' ρ ρ' → Agree S w w' → (Ls ρ L w w' ∨ ok = true) → VRel S' w' ρ' u x → K2 (a.put o.dst x) w') → o.wp P a w K2 Q'
theorem zP (hT : TabOk P T) {o : Oper} {L : List Nat} {ok : Bool} {v : V} (hv : kI T H.get F o.op = some v) : jQ P K o L ok n F H v H := fun S w ρ a hr hi hF Q' K2 k => by
 obtain ⟨x, h1, h2⟩ := pu (ty := o.type) hT hr hF hv
 have := k x S w ρ hr hi Up.refl Agree.refl (.inl lW) h1
 obtain ⟨d, op, ty, ps, af, g⟩ := o
 unfold Oper.wp
 rw [h2 w Agree.refl d ps af g]
 exact this
theorem ay (hT : TabOk P T) {o : Oper} {L : List Nat} {ok : Bool} {v : Option V} {ed : ED} (hv : jZ T H.get F H.nx o.op = some (v, ed)) (hc : ((cf H.get L && ed.clear L) || ok) = true) : jQ P K o L ok n F H (v.getD (.tup [])) (H.app ed) := fun S w ρ a hr hi hF Q' K2 k => by
 obtain ⟨nx, w', ρ', h1, h2, h3⟩ := rh (ty := o.type) hT hr hF H.get_free hv
 have hr' := h2.hr
 have hi' := hi.eff h2
 rw [← Hp.get_app (nJ hv)] at hr' hi'
 have hLs : Ls ρ L w w' ∨ ok = true := (rq hc).imp (fun h => by
  simp only [Bool.and_eq_true] at h
  exact wm hr h2 h.1 h.2) id
 have kk := fun x hx => k x S w' ρ' hr' hi' h2.up (nm hr h2) hLs hx
 obtain ⟨d, op, ty, ps, af, g⟩ := o
 unfold Oper.wp
 rw [h1 d ps af g]
 cases v with
 | none =>
  subst h3
  exact kk undef pD
 | some v =>
  obtain ⟨x, rfl, h4⟩ := h3
  exact kk x h4
theorem bL {o : Oper} {L : List Nat} {ok : Bool} {fid : FuncId} {args : List Operand} {tys : Array TypeId} {vs : List V} {u : V} {H' : Hp} {L' : List Nat} (he : de P fid = true) (ho : o.op = .call { callee := .value (.func fid), args := args.toArray, argTypes := tys }) (hv : gl F args = some vs) (hC : CallR P K fid vs H L' (fun u' H'' => u' = u ∧ H'' = H')) (hL : L' = L ∨ ok = true) : jQ P K o L ok n F H u H' := fun S w ρ a hr hi hF Q' K2 k => by
 obtain ⟨xs, h1, h2⟩ := lJ hF hv
 have hcl := hC S w ρ xs hr hi h2
 obtain ⟨d, op, ty, ps, af, g⟩ := o
 simp only at ho
 subst ho
 have hx : (execOp a.eval ⟨d, .call { callee := .value (.func fid), args := args.toArray, argTypes := tys }, ty, ps, af, g⟩).run P w = .ok (.enter fid xs.toArray) w := by
  have e : args.toArray.map a.eval = xs.toArray := by rw [← hF.fr.vals h1]; simp
  simp only [execOp, resolve, e]
  simp [Act.eval, Deferred.ofValue, invoke, kG he]
 unfold Oper.wp
 rw [hx, Oper.upon_enter]
 refine hcl.mono fun e w1 hR => ?_
 obtain ⟨x, S', ρ', v, H'', rfl, ⟨rfl, rfl⟩, hr', hi', hu, hvr, hls⟩ := hR
 exact k x S' w1 ρ' hr' hi' hu (fun b hb => hu.blk b hb (hr.slt b hb)) (hL.imp (fun e => by subst e; exact hls) id) hvr
theorem be {all : Array Oper} {L : List Nat} {m left i j : Nat} {listed : Array Bool} {oi oj : Oper} {ui uj : V} {Hi Hj : Hp} (hrd : (match Region.ready .any all listed with | [x, y] => (Nat.beq x i && Nat.beq y j) || (Nat.beq x j && Nat.beq y i) | _ => false) = true) (hi : all[i]? = some oi) (hj : all[j]? = some oj) (hwi : bf F all oi.guard = some true) (hwj : bf F all oj.guard = some true)
  (xi : jQ P K oi L ((listed.setIfInBounds i true).getD m false) n F H ui Hi) (xj : jQ P K oj L ((listed.setIfInBounds j true).getD m false) n F H uj Hj)
  (ki : Go P K Q (.drw all L m left (listed.setIfInBounds i true)) s n (F.seto oi.dst (some ui)) Hi) (kj : Go P K Q (.drw all L m left (listed.setIfInBounds j true)) s n (F.seto oj.dst (some uj)) Hj) : Go P K Q (.drw all L m (left + 1) listed) s n F H := fun S w ρ a hr hiv hF hs => by
 refine xZ hrd ?_ ?_
 ·unfold wpOp
  simp only [hi]
  rw [if_pos (bF hF hwi)]
  exact .inl (xi S w ρ a hr hiv hF _ _ fun x S' w' ρ' hr' hi' hu hA hL hv => hV hu hA hL (ki S' w' ρ' _ hr' hi' (bO (hF.up hu) oi.dst hv) hs))
 ·unfold wpOp
  simp only [hj]
  rw [if_pos (bF hF hwj)]
  exact .inl (xj S w ρ a hr hiv hF _ _ fun x S' w' ρ' hr' hi' hu hA hL hv => hV hu hA hL (kj S' w' ρ' _ hr' hi' (bO (hF.up hu) oj.dst hv) hs))
end
end Go.Proofs.YthnohcipianijaaGreatDoor
namespace Go.Proofs.YthnohcipianijaaGreatDoor
open Go.RowKit
def atN : List Nat → Nat → Option Nat
 | [], _ => none
 | x :: _, 0 => some x
 | _ :: r, i + 1 => atN r i
theorem kB : ∀ (l : List Nat) (i : Nat), atN l i = l[i]?
 | [], i => by simp [atN]
 | x :: r, 0 => by simp [atN]
 | x :: r, i + 1 => by simp [atN, kB r i]
abbrev yS : V := .raw (.agg #[])
mutual
def V.ren (σ : List Nat) : V → V
 |.ptr id o => match atN σ id with
  | some j => .ptr j o
  | none => yS
 |.el id sz i o => match atN σ id with
  | some j => .el j sz i o
  | none => yS
 |.sl id => match atN σ id with
  | some j => .sl j
  | none => yS
 | .agg cs => .agg (renL σ cs)
 | .tup cs => .tup (renL σ cs)
 | .clo fid cs => .clo fid (renL σ cs)
 | .int k n => .int k n
 | .bool b => .bool b
 | .str l => .str l
 | .nilp => .nilp
 | .nils => .nils
 | .raw x => .raw x
 | .box cs o => .box cs o
 | .row sz els => .row sz els
 | .lk els => .lk els
def renL (σ : List Nat) : List V → List V
 | [] => []
 | v :: r => v.ren σ :: renL σ r
end
def Ob.ren (σ : List Nat) : Ob → Ob
 | .var t cs => .var t (renL σ cs)
 | .row e sz els => .row e sz (renL σ els)
 | o => o
def ec (σ : List Nat) (ρ : Nat → Option Value) : Nat → Option Value := fun j => match atN σ j with
 | some i => ρ i
 | none => none
section
variable {S : Nat → Prop} {w : World} {ρ : Nat → Option Value} {σ : List Nat}
theorem vq {x : Value} (h : VRel S w ρ yS x) : False := by simp only [VRel, Value.oneCell'] at h; exact absurd h.2 (by simp)
mutual
theorem VRel.ren : ∀ {v : V} {x : Value}, VRel S w ρ (v.ren σ) x → VRel S w (ec σ ρ) v x
 | .int _ _, x, h => by simp only [V.ren, VRel] at h ⊢; exact h
 | .bool _, x, h => by simp only [V.ren, VRel] at h ⊢; exact h
 | .str _, x, h => by simp only [V.ren, VRel] at h ⊢; exact h
 | .nilp, x, h => by simp only [V.ren, VRel] at h ⊢; exact h
 | .nils, x, h => by simp only [V.ren, VRel] at h ⊢; exact h
 | .raw _, x, h => by simp only [V.ren, VRel] at h ⊢; exact h
 | .box _ _, x, h => by simp only [V.ren, VRel] at h ⊢; exact h
 | .row _ _, x, h => by simp only [V.ren, VRel] at h ⊢; exact h
 | .lk _, x, h => by simp only [V.ren, VRel] at h ⊢; exact h
 | .ptr id o, x, h => by
  simp only [V.ren] at h
  split at h
  ·rename_i j hj
   simp only [VRel] at h ⊢
   obtain ⟨b, h1, h2⟩ := h
   exact ⟨b, by simp only [ec, hj]; exact h1, h2⟩
  ·exact (vq h).elim
 | .el id sz i o, x, h => by
  simp only [V.ren] at h
  split at h
  ·rename_i j hj
   simp only [VRel] at h ⊢
   obtain ⟨b, n, c, h1, h2⟩ := h
   exact ⟨b, n, c, by simp only [ec, hj]; exact h1, h2⟩
  ·exact (vq h).elim
 | .sl id, x, h => by
  simp only [V.ren] at h
  split at h
  ·rename_i j hj
   simp only [VRel] at h ⊢
   exact ⟨by simp only [ec, hj]; exact h.1, h.2⟩
  ·exact (vq h).elim
 | .agg cs, x, h => by
  simp only [V.ren, VRel] at h ⊢
  obtain ⟨xs, h1, h2⟩ := h
  exact ⟨xs, h1, LRel.ren h2⟩
 | .tup cs, x, h => by
  simp only [V.ren, VRel] at h ⊢
  obtain ⟨xs, h1, h2⟩ := h
  exact ⟨xs, h1, LRel.ren h2⟩
 | .clo fid cs, x, h => by
  simp only [V.ren, VRel] at h ⊢
  obtain ⟨xs, h1, h2⟩ := h
  exact ⟨xs, h1, LRel.ren h2⟩
theorem LRel.ren : ∀ {v : List V} {x : List Value}, LRel S w ρ (renL σ v) x → LRel S w (ec σ ρ) v x
 | [], x, h => by simp only [renL, LRel] at h ⊢; exact h
 | v :: r, x, h => by
  simp only [renL, LRel] at h ⊢
  obtain ⟨y, ys, h1, h2, h3⟩ := h
  exact ⟨y, ys, h1, VRel.ren h2, LRel.ren h3⟩
end
theorem sn : ∀ (l : List V), (renL σ l).length = l.length
 | [] => by simp [renL]
 | v :: r => by simp [renL, sn r]
theorem CRel.ren {sz : Nat} : ∀ {v : List V} {x : List Value}, CRel S w ρ sz (renL σ v) x → CRel S w (ec σ ρ) sz v x
 | [], x, h => by simp only [renL, CRel] at h ⊢; exact h
 | v :: r, x, h => by
  simp only [renL, CRel] at h ⊢
  obtain ⟨y, ys, h1, h2, h3, h4⟩ := h
  exact ⟨y, ys, h1, h2, VRel.ren h3, CRel.ren h4⟩
mutual
theorem VRel.bwd {ρ' : Nat → Option Value} (hσ : ∀ j x, ρ j = some x → ∃ i, atN σ j = some i ∧ ρ' i = some x) : ∀ {v : V} {x : Value}, VRel S w ρ v x → VRel S w ρ' (v.ren σ) x
 | .int _ _, x, h => by simp only [V.ren, VRel] at h ⊢; exact h
 | .bool _, x, h => by simp only [V.ren, VRel] at h ⊢; exact h
 | .str _, x, h => by simp only [V.ren, VRel] at h ⊢; exact h
 | .nilp, x, h => by simp only [V.ren, VRel] at h ⊢; exact h
 | .nils, x, h => by simp only [V.ren, VRel] at h ⊢; exact h
 | .raw _, x, h => by simp only [V.ren, VRel] at h ⊢; exact h
 | .box _ _, x, h => by simp only [V.ren, VRel] at h ⊢; exact h
 | .row _ _, x, h => by simp only [V.ren, VRel] at h ⊢; exact h
 | .lk _, x, h => by simp only [V.ren, VRel] at h ⊢; exact h
 | .ptr id o, x, h => by
  simp only [VRel] at h
  obtain ⟨b, h1, h2⟩ := h
  obtain ⟨i, h3, h4⟩ := hσ _ _ h1
  simp only [V.ren, h3, VRel]
  exact ⟨b, h4, h2⟩
 | .el id sz i o, x, h => by
  simp only [VRel] at h
  obtain ⟨b, n, c, h1, h2⟩ := h
  obtain ⟨i', h3, h4⟩ := hσ _ _ h1
  simp only [V.ren, h3, VRel]
  exact ⟨b, n, c, h4, h2⟩
 | .sl id, x, h => by
  simp only [VRel] at h
  obtain ⟨i, h3, h4⟩ := hσ _ _ h.1
  simp only [V.ren, h3, VRel]
  exact ⟨h4, h.2⟩
 | .agg cs, x, h => by
  simp only [V.ren, VRel] at h ⊢
  obtain ⟨xs, h1, h2⟩ := h
  exact ⟨xs, h1, LRel.bwd hσ h2⟩
 | .tup cs, x, h => by
  simp only [V.ren, VRel] at h ⊢
  obtain ⟨xs, h1, h2⟩ := h
  exact ⟨xs, h1, LRel.bwd hσ h2⟩
 | .clo fid cs, x, h => by
  simp only [V.ren, VRel] at h ⊢
  obtain ⟨xs, h1, h2⟩ := h
  exact ⟨xs, h1, LRel.bwd hσ h2⟩
theorem LRel.bwd {ρ' : Nat → Option Value} (hσ : ∀ j x, ρ j = some x → ∃ i, atN σ j = some i ∧ ρ' i = some x) : ∀ {v : List V} {x : List Value}, LRel S w ρ v x → LRel S w ρ' (renL σ v) x
 | [], x, h => by simp only [renL, LRel] at h ⊢; exact h
 | v :: r, x, h => by
  simp only [renL, LRel] at h ⊢
  obtain ⟨y, ys, h1, h2, h3⟩ := h
  exact ⟨y, ys, h1, VRel.bwd hσ h2, LRel.bwd hσ h3⟩
end
theorem CRel.bwd {ρ' : Nat → Option Value} (hσ : ∀ j x, ρ j = some x → ∃ i, atN σ j = some i ∧ ρ' i = some x) {sz : Nat} : ∀ {v : List V} {x : List Value}, CRel S w ρ sz v x → CRel S w ρ' sz (renL σ v) x
 | [], x, h => by simp only [renL, CRel] at h ⊢; exact h
 | v :: r, x, h => by
  simp only [renL, CRel] at h ⊢
  obtain ⟨y, ys, h1, h2, h3, h4⟩ := h
  exact ⟨y, ys, h1, h2, VRel.bwd hσ h3, CRel.bwd hσ h4⟩
end
def aw (v u : V) : Prop := ∀ S w ρ x, VRel S w ρ v x → VRel S w ρ u x
theorem aw.rfl {v : V} : aw v v := fun _ _ _ _ h => h
theorem aw.of_eq {v u : V} (h : v = u) : aw v u := h ▸ aw.rfl
theorem aw.nil (sz : Nat) : aw .nils (.row sz []) := fun S w ρ x h => by
 simp only [VRel] at h ⊢
 subst h
 exact ⟨none, 0, [], by simp, Nat.le_refl _, by decide, by simp [CRel], RowIn.none_⟩
def au : List V → List V → Prop
 | [], us => us = []
 | v :: r, us => ∃ u q, us = u :: q ∧ aw v u ∧ au r q
theorem au.rel {S : Nat → Prop} {w : World} {ρ : Nat → Option Value} : ∀ {vs us : List V} {xs : List Value}, au vs us → LRel S w ρ vs xs → LRel S w ρ us xs
 | [], us, xs, h, hl => by simp only [au] at h; subst h; exact hl
 | v :: r, us, xs, h, hl => by
  simp only [au] at h
  obtain ⟨u, q, rfl, h1, h2⟩ := h
  simp only [LRel] at hl ⊢
  obtain ⟨y, ys, rfl, h3, h4⟩ := hl
  exact ⟨y, ys, rfl, h1 _ _ _ _ h3, au.rel h2 h4⟩
theorem au.rfl : ∀ {vs : List V}, au vs vs
 | [] => by simp [au]
 | v :: r => ⟨v, r, by rfl, aw.rfl, au.rfl⟩
theorem aw.agg {vs us : List V} (h : au vs us) : aw (.agg vs) (.agg us) := fun S w ρ x hx => by
 simp only [VRel] at hx ⊢
 obtain ⟨xs, h1, h2⟩ := hx
 exact ⟨xs, h1, h.rel h2⟩
theorem au.cons {v u : V} {r q : List V} (h : aw v u) (k : au r q) : au (v :: r) (u :: q) := ⟨u, q, by rfl, h, k⟩
theorem au.nil : au [] [] := by simp [au]
def fp : Ob → Ob → Prop
 | _, .gone => True
 | .var t cs, .var t' cs' => t = t' ∧ au cs cs'
 | .row e sz els, .row e' sz' els' => e = e' ∧ sz = sz' ∧ els = els'
 | .mp k e ks vs, .mp k' e' ks' vs' => k = k' ∧ e = e' ∧ ks = ks' ∧ vs = vs'
 | _, _ => False
def leF (σ : List Nat) : Fm → Fm → Prop
 | _, [] => True
 | [], none :: r' => leF σ [] r'
 | [], some _ :: _ => False
 | x :: r, none :: r' => leF σ r r'
 | x :: r, some u :: r' => (∃ v, x = some v ∧ aw v (u.ren σ)) ∧ leF σ r r'
def leH (σ : List Nat) (H : Hp) : List (Nat × Ob) → Prop
 | [] => True
 | (j, o) :: r => (∃ i, atN σ j = some i ∧ fp (H.get i) (o.ren σ)) ∧ leH σ H r
def dp : List Nat → Bool
 | [] => true
 | i :: r => !r.contains i && dp r
section
variable {P : Program} {T : Tab} {K : Ctx} {Q : Exit → Act → World → Prop} {s : List EI} {n : Nat} {F F' : Fm} {H H' : Hp} {σ : List Nat} {S : Nat → Prop} {w : World} {ρ : Nat → Option Value} {a : Act}
theorem rn : ∀ {F F' : Fm}, leF σ F F' → ∀ i u, F'.get i = some u → ∃ v, F.get i = some v ∧ aw v (u.ren σ)
 | F, [], h, i, u, hu => by simp [Fm.get] at hu
 | [], none :: r', h, 0, u, hu => by simp [Fm.get] at hu
 | [], none :: r', h, i + 1, u, hu => by
  obtain ⟨v, h1, _⟩ := rn (F := []) (F' := r') (by simpa [leF] using h) i u (by simpa [Fm.get] using hu)
  simp [Fm.get] at h1
 | [], some _ :: _, h, i, u, hu => by simp [leF] at h
 | x :: r, none :: r', h, 0, u, hu => by simp [Fm.get] at hu
 | x :: r, none :: r', h, i + 1, u, hu => by
  have := rn (F := r) (F' := r') (by simpa [leF] using h) i u (by simpa [Fm.get] using hu)
  simpa [Fm.get] using this
 | x :: r, some u' :: r', h, 0, u, hu => by
  simp only [leF] at h
  simp only [Fm.get, Option.some.injEq] at hu
  subst hu
  obtain ⟨v, h1, h2⟩ := h.1
  exact ⟨v, by simp [Fm.get, h1], h2⟩
 | x :: r, some u' :: r', h, i + 1, u, hu => by
  simp only [leF] at h
  have := rn h.2 i u (by simpa [Fm.get] using hu)
  simpa [Fm.get] using this
theorem BX (h : leF σ F F') (hl : F'.length ≤ n) (hF : FRel S w ρ a n F) : FRel S w (ec σ ρ) a n F' :=
 ⟨hF.size, hF.defers, hl, fun i u hu => by
  obtain ⟨v, h1, h2⟩ := rn h i u hu
  obtain ⟨x, h3, h4⟩ := hF.get i v h1
  exact ⟨x, h3, (h2 _ _ _ _ h4).ren⟩⟩
theorem so : ∀ {l : List (Nat × Ob)}, leH σ H l → ∀ j, ar l j = .gone ∨ ∃ i, atN σ j = some i ∧ fp (H.get i) ((ar l j).ren σ)
 | [], _, j => .inl rfl
 | (k, o) :: r, h, j => by
  simp only [leH] at h
  simp only [ar]
  split
  ·rename_i hb
   have := Nat.eq_of_beq_eq_true hb
   subst this
   exact .inr h.1
  ·exact so h.2 j
theorem nU : ∀ {l : List Nat}, dp l = true → ∀ i j x, atN l i = some x → atN l j = some x → i = j
 | [], _, i, j, x, hi, hj => by simp [atN] at hi
 | y :: r, h, 0, 0, x, hi, hj => rfl
 | y :: r, h, 0, j + 1, x, hi, hj => by
  simp only [dp, Bool.and_eq_true, Bool.not_eq_true'] at h
  simp only [atN, Option.some.injEq] at hi hj
  subst hi
  rw [kB] at hj
  have := List.mem_of_getElem? hj
  simp [this] at h
 | y :: r, h, i + 1, 0, x, hi, hj => by
  simp only [dp, Bool.and_eq_true, Bool.not_eq_true'] at h
  simp only [atN, Option.some.injEq] at hi hj
  subst hj
  rw [kB] at hi
  have := List.mem_of_getElem? hi
  simp [this] at h
 | y :: r, h, i + 1, j + 1, x, hi, hj => by
  simp only [dp, Bool.and_eq_true] at h
  have := nU h.2 i j x (by simpa [atN] using hi) (by simpa [atN] using hj)
  omega
theorem Co {i j : Nat} {o o' : Ob} (hij : atN σ j = some i) (h : fp o (o'.ren σ)) (ho' : o' ≠ .gone) (hr : gp S w ρ i o) : gp S w (ec σ ρ) j o' ∧ ∀ b, own (ec σ ρ) j o' b → own ρ i o b := by
 have hρ : ec σ ρ j = ρ i := by simp only [ec, hij]
 cases o' with
 | gone => exact absurd rfl ho'
 | free => cases o <;> simp [Ob.ren, fp] at h
 | ext bs Φ => cases o <;> simp [Ob.ren, fp] at h
 | mp kt' et' ks' vs' =>
  cases o <;> simp only [Ob.ren, fp] at h
  rename_i kt et ks vs
  obtain ⟨rfl, rfl, rfl, rfl⟩ := h
  obtain ⟨b, es, ck, h1, h2, h3, h4⟩ := hr
  exact ⟨⟨b, es, ck, by rw [hρ]; exact h1, h2, h3, h4⟩, fun c hc => by simp only [own] at hc ⊢; rw [hρ] at hc; exact hc⟩
 | var t' cs' =>
  cases o <;> simp only [Ob.ren, fp] at h
  rename_i t cs
  obtain ⟨rfl, h⟩ := h
  obtain ⟨b, xs, h1, h2, h3⟩ := hr
  exact ⟨⟨b, xs, by rw [hρ]; exact h1, h2, (h.rel h3).ren⟩, fun c hc => by simp only [own] at hc ⊢; rw [hρ] at hc; exact hc⟩
 | row e' sz' els' =>
  cases o <;> simp only [Ob.ren, fp] at h
  rename_i e sz els
  obtain ⟨rfl, rfl, rfl⟩ := h
  obtain ⟨v, xs, h1, h2, h3⟩ := hr
  rw [sn] at h2
  exact ⟨⟨v, xs, by rw [hρ]; exact h1, h2, h3.ren⟩, fun c hc => by
   obtain ⟨q, e1, e2⟩ := hc
   exact ⟨q, by rw [← hρ]; exact e1, e2⟩⟩
def aq (K : Ctx) (pv : List Nat) : Prop := ∀ id x, K.pin id = some x → id ∈ pv
def yY (σ pv : List Nat) : Bool := pv.all fun i => match atN σ i with | some j => Nat.beq i j | none => false
theorem vY (hH : leH σ H H'.es) (hn : dp σ = true) (hlen : Nat.ble σ.length H'.nx = true) (hr : HRel S w ρ H.get) : HRel S w (ec σ ρ) H'.get ∧ ∀ j b, own (ec σ ρ) j (H'.get j) b → ∃ i, atN σ j = some i ∧ own ρ i (H.get i) b := by
 have key : ∀ j, gp S w (ec σ ρ) j (H'.get j) ∧ ∀ b, own (ec σ ρ) j (H'.get j) b → ∃ i, atN σ j = some i ∧ own ρ i (H.get i) b := fun j => by
  unfold Hp.get
  split
  ·rcases so hH j with e | ⟨i, h1, h2⟩
   ·rw [e]; exact ⟨trivial, fun b hb => hb.elim⟩
   ·by_cases hg : ar H'.es j = .gone
    ·rw [hg]; exact ⟨trivial, fun b hb => hb.elim⟩
    ·obtain ⟨h3, h4⟩ := Co h1 h2 hg (hr.ob i)
     exact ⟨h3, fun b hb => ⟨i, h1, h4 b hb⟩⟩
  ·rename_i hlt
   refine ⟨?_, fun b hb => hb.elim⟩
   show ec σ ρ j = none
   have hj : ¬ j < H'.nx := fun h => by rw [nlT h] at hlt; cases hlt
   have hl : σ.length ≤ H'.nx := Nat.le_of_ble_eq_true hlen
   simp only [ec, kB]
   rw [List.getElem?_eq_none (by omega)]
 refine ⟨⟨fun j => (key j).1, fun j b hb => ?_, fun i j b hbi hbj => ?_, hr.slt⟩, fun j => (key j).2⟩
 ·obtain ⟨i, _, h⟩ := (key j).2 b hb
  exact hr.sep i b h
 ·obtain ⟨i', h1, h2⟩ := (key i).2 b hbi
  obtain ⟨j', h3, h4⟩ := (key j).2 b hbj
  have := hr.dis i' j' b h2 h4
  subst this
  exact nU hn i j i' h1 h3
def EP.still : EP → Bool
 | .drw .. => false
 | _ => true
theorem go_sub {p : EP} (σ pv : List Nat) (hp : p.still = true) (hpin : aq K pv) (hF : leF σ F F') (hH : leH σ H H'.es) (hc : (dp σ && Nat.ble σ.length H'.nx && yY σ pv && Nat.ble F'.length n) = true) (k : Go P K Q p s n F' H') : Go P K Q p s n F H := fun S w ρ a hr hi hf => by
 simp only [Bool.and_eq_true] at hc
 obtain ⟨⟨⟨h1, h2⟩, h3⟩, h4⟩ := hc
 obtain ⟨g1, g2⟩ := vY hH h1 h2 hr
 have hi' : Inv K S w (ec σ ρ) H'.get := ⟨hi.chg, hi.s0, hi.s1, fun j b hb => by obtain ⟨i, _, h⟩ := g2 j b hb; exact hi.ow i b h, fun id x hx => by
  have hm := List.all_eq_true.1 h3 id (hpin id x hx)
  simp only [ec]
  split at hm
  ·rename_i j hj
   have := Nat.eq_of_beq_eq_true hm
   subst this
   first | exact hi.pin id x hx | (rw [hj]; exact hi.pin id x hx)
  ·cases hm⟩
 have := k S w (ec σ ρ) a g1 hi' (BX hF (Nat.le_of_ble_eq_true h4) hf)
 cases p with
 | drw => cases hp
 | code c => exact this
 | ops all rest => exact this
 | ex e => exact this
def SP (K : Ctx) (Post : V → Hp → Prop) (e : Ending) (w' : World) : Prop :=
 ∃ x S' ρ' v H', e = .returned x ∧ Post v H' ∧ HRel S' w' ρ' H'.get ∧ Inv K S' w' ρ' H'.get ∧ VRel S' w' ρ' v x
def iq (PL : List Nat) (i : Nat) : Ob → Bool
 | .var _ _ => true
 | .ext _ _ => true
 | .mp _ _ _ _ => true
 | .row _ _ _ => PL.contains i
 | _ => false
def sr (PL : List Nat) (h : Nat → Ob) (ρ : Nat → Option Value) : Nat → Option Value := fun i => match iq PL i (h i) with
 | true => ρ i
 | false => none
def cx (PL : List Nat) (P : Program) (fid : FuncId) (vs : List V) (H0 : Hp) (Post : V → Hp → Prop) : Prop :=
 ∀ S w ρ xs, HRel S w ρ H0.get → LRel S w ρ vs xs → Calls P fid xs.toArray w (SP ⟨w, S, fun b => ∃ id, own ρ id (H0.get id) b, sr PL H0.get ρ⟩ Post)
abbrev Sum (P : Program) (fid : FuncId) (vs : List V) (H0 : Hp) (Post : V → Hp → Prop) : Prop := cx [] P fid vs H0 Post
theorem ak {PL : List Nat} {fid : FuncId} {fn : Func} {c : Code} {vs : List V} {H0 : Hp} {Post : V → Hp → Prop} (N : Nat) (pv : List Nat) (hf : P.funcs[fid]? = some fn) (hb : fn.body = some c) (hN : fn.ntmps = N) (hl : Nat.ble vs.length N = true) (hpv : ∀ i, iq PL i (H0.get i) = true → i ∈ pv)
  (k : ∀ K, aq K pv → Go P K (bodyPost P fn (SP K Post)) (.code c) [] N (jV N vs) H0) : cx PL P fid vs H0 Post := fun S w ρ xs hr hx => by
 subst hN
 have hi : Inv ⟨w, S, fun b => ∃ id, own ρ id (H0.get id) b, sr PL H0.get ρ⟩ S w ρ H0.get := ⟨ChgP.refl _ _, fun _ h => h, fun _ h => .inl h, fun id b hb => .inl ⟨id, hb⟩, fun id x h => by
  simp only [sr] at h
  split at h
  ·exact h
  ·cases h⟩
 refine sb hf hb hl hr hi hx (k _ fun id x h => hpv id ?_)
 simp only [sr] at h
 split at h
 ·assumption
 ·cases h
theorem go_end (hT : TabOk P T) {fn : Func} {Post : V → Hp → Prop} {rs : List ResultVar} {vs : List V} {e : Exit} (hrs : fn.results = rs.toArray) (hv : pq T H.get F rs = some vs) (hP : Post (lT vs) H) (he : e = .ret ∨ e = .normal := by first | exact .inl rfl | exact .inr rfl) : Go P K (bodyPost P fn (SP K Post)) (.ex e) [] n F H := fun S w ρ a hr hi hF =>
 ret_go hT he hrs hr hF hv fun x hx => ⟨x, S, ρ, _, H, rfl, hP, hr, hi, hx⟩
theorem Sum.mono {PL : List Nat} {fid : FuncId} {vs : List V} {H0 : Hp} {Post Post' : V → Hp → Prop} (h : cx PL P fid vs H0 Post) (hp : ∀ v H, Post v H → Post' v H) : cx PL P fid vs H0 Post' := fun S w ρ xs hr hx => (h S w ρ xs hr hx).mono fun e w' ⟨x, S', ρ', v, H', h1, h2, h3⟩ => ⟨x, S', ρ', v, H', h1, hp v H' h2, h3⟩
theorem Sum.sub {PL : List Nat} {fid : FuncId} {vs us : List V} {H0 : Hp} {Post : V → Hp → Prop} (h : cx PL P fid us H0 Post) (hs : au vs us) : cx PL P fid vs H0 Post := fun S w ρ xs hr hx => h S w ρ xs hr (hs.rel hx)
end
end Go.Proofs.YthnohcipianijaaGreatDoor
namespace Go.Proofs.YthnohcipianijaaGreatDoor
open Go.RowKit
def iM : List Nat → Nat → Option Nat
 | [], _ => none
 |x :: r, i => match Nat.beq x i with
  | true => some 0
  |false => match iM r i with
   | some j => some (j + 1)
   | none => none
theorem fH : ∀ {l : List Nat} {i j : Nat}, iM l i = some j → atN l j = some i
 | [], i, j, h => by cases h
 | x :: r, i, j, h => by
  simp only [iM] at h
  split at h
  ·rename_i hb
   have := Nat.eq_of_beq_eq_true hb
   injection h with h; subst h; subst this; rfl
  ·split at h
   ·rename_i j' hj
    injection h with h; subst h
    simpa [atN] using fH hj
   ·cases h
theorem ux : ∀ {l : List Nat} {i : Nat}, iM l i = none → ∀ j, atN l j ≠ some i
 | [], i, h, j => by simp [atN]
 | x :: r, i, h, 0 => by
  simp only [iM] at h
  split at h
  ·cases h
  ·rename_i hb
   simp only [atN, ne_eq, Option.some.injEq]
   exact Nat.ne_of_beq_eq_false hb
 | x :: r, i, h, j + 1 => by
  simp only [iM] at h
  split at h
  ·cases h
  ·split at h
   ·cases h
   ·rename_i hn
    simpa [atN] using ux hn j
theorem Dr {l : List Nat} (hn : dp l = true) {i j : Nat} (h : atN l j = some i) : iM l i = some j := by
 cases hi : iM l i with
 | none => exact absurd h (ux hi j)
 | some k => rw [nU hn k j i (fH hi) h]
def sgN (PL : List Nat) (nx : Nat) (h0 : Nat → Ob) : Nat → List Nat → Nat → List Nat
 | 0, _, _ => []
 |m + 1, σ, j => match σ with
  | [] => (nx + j) :: sgN PL nx h0 m [] (j + 1)
  | i :: r => (match iq PL j (h0 j) with | true => i | false => nx + j) :: sgN PL nx h0 m r (j + 1)
theorem tR (PL : List Nat) (nx : Nat) (h0 : Nat → Ob) : ∀ (m : Nat) (σ : List Nat) (j : Nat), (sgN PL nx h0 m σ j).length = m
 | 0, _, _ => rfl
 | m + 1, [], j => by simp [sgN, tR PL nx h0 m]
 | m + 1, i :: r, j => by simp [sgN, tR PL nx h0 m]
theorem vQ (PL : List Nat) (nx : Nat) (h0 : Nat → Ob) : ∀ (m : Nat) (σ : List Nat) (j k : Nat), k < m → atN (sgN PL nx h0 m σ j) k = some (match atN σ k, iq PL (j + k) (h0 (j + k)) with | some i, true => i | _, _ => nx + (j + k))
 | 0, _, _, k, h => by omega
 | m + 1, [], j, 0, h => by simp [sgN, atN]
 | m + 1, [], j, k + 1, h => by
  have := vQ PL nx h0 m [] (j + 1) k (by omega)
  simp only [sgN, atN] at this ⊢
  rw [this]
  simp only [show j + 1 + k = j + (k + 1) by omega]
 | m + 1, i :: r, j, 0, h => by
  simp only [sgN, atN, Nat.add_zero]
  cases iq PL j (h0 j) <;> rfl
 | m + 1, i :: r, j, k + 1, h => by
  have := vQ PL nx h0 m r (j + 1) k (by omega)
  simp only [sgN, atN] at this ⊢
  rw [this]
  simp only [show j + 1 + k = j + (k + 1) by omega]
def qD (σ : List Nat) : List (Nat × Ob) → List (Nat × Ob)
 | [] => []
 |(j, o) :: r => match atN σ j with
  | some i => (i, o.ren σ) :: qD σ r
  | none => qD σ r
def mS (σ : List Nat) (nx : Nat) : List (Nat × Ob) → List (Nat × Ob)
 | [] => []
 |(j, o) :: r => match !σ.contains j && Nat.blt j nx with
  |true => match o with
   | .free => (j, .gone) :: mS σ nx r
   | o => (j, o) :: mS σ nx r
  | false => mS σ nx r
def lO (PL : List Nat) (H : Hp) (σ : List Nat) (H0 H' : Hp) : Hp := ⟨H.nx + H'.nx, qD (sgN PL H.nx H0.get H'.nx σ 0) H'.es ++ mS σ H.nx H.es⟩
theorem uq {σ : List Nat} (hn : dp σ = true) {i : Nat} : ∀ {l : List (Nat × Ob)}, ar (qD σ l) i = match iM σ i with | some j => (ar l j).ren σ | none => .gone
 | [] => by simp only [qD, ar]; cases iM σ i <;> rfl
 | (k, o) :: r => by
  have ih := uq hn (i := i) (l := r)
  simp only [qD]
  split
  ·rename_i i' hi'
   simp only [ar]
   by_cases e : i' = i
   ·subst e
    rw [nbT, Dr hn hi']
    simp only [nbT]
   ·rw [nbF e, ih]
    cases hj : iM σ i with
    | none => rfl
    | some j =>
     have hne : k ≠ j := fun e' => by subst e'; rw [fH hj] at hi'; injection hi' with h; exact e h.symm
     simp only [nbF hne]
  ·rename_i hk
   rw [ih]
   cases hj : iM σ i with
   | none => rfl
   | some j =>
    have hne : k ≠ j := fun e' => by subst e'; rw [fH hj] at hk; cases hk
    simp only [ar, nbF hne]
theorem uz {σ : List Nat} {nx i : Nat} : ∀ {l : List (Nat × Ob)}, ar (mS σ nx l) i = .gone ∨ (ar (mS σ nx l) i = ar l i ∧ σ.contains i = false ∧ i < nx ∧ ar l i ≠ .free)
 | [] => .inl rfl
 | (k, o) :: r => by
  have ih := uz (σ := σ) (nx := nx) (i := i) (l := r)
  simp only [mS]
  by_cases hk : k = i
  ·subst hk
   cases hc : (!σ.contains k && Nat.blt k nx)
   ·simp only
    -- none of the entries for k is kept
    left
    have key : ∀ (l : List (Nat × Ob)), ar (mS σ nx l) k = .gone := by
     intro l
     induction l with
     | nil => rfl
     | cons q t ih =>
      obtain ⟨m, o'⟩ := q
      simp only [mS]
      by_cases hm : m = k
      ·subst hm; rw [hc]; exact ih
      ·cases hc' : (!σ.contains m && Nat.blt m nx)
       ·exact ih
       ·cases o' <;> (simp only [ar, nbF hm]; exact ih)
    exact key r
   ·simp only [Bool.and_eq_true, Bool.not_eq_true'] at hc
    have hlt : k < nx := by simpa [Nat.blt_eq] using hc.2
    cases o with
    | free => left; simp only [ar, nbT]
    | gone => left; simp only [ar, nbT]
    | var t cs => right; simp only [ar, nbT]; exact ⟨trivial, hc.1, hlt, by simp⟩
    | row e sz els => right; simp only [ar, nbT]; exact ⟨trivial, hc.1, hlt, by simp⟩
    | ext bs Φ => right; simp only [ar, nbT]; exact ⟨trivial, hc.1, hlt, by simp⟩
    | mp kt et ks vs => right; simp only [ar, nbT]; exact ⟨trivial, hc.1, hlt, by simp⟩
  ·have e2 : ar ((k, o) :: r) i = ar r i := by simp only [ar, nbF hk]
   rw [e2]
   cases hc : (!σ.contains k && Nat.blt k nx)
   ·exact ih
   ·cases o <;> (simp only [ar, nbF hk]; exact ih)
theorem rg : ∀ {l : List Nat}, (∀ i j x, atN l i = some x → atN l j = some x → i = j) → dp l = true
 | [], _ => rfl
 | y :: r, h => by
  simp only [dp, Bool.and_eq_true, Bool.not_eq_true']
  refine ⟨?_, rg fun i j x hi hj => by have := h (i + 1) (j + 1) x (by simpa [atN] using hi) (by simpa [atN] using hj); omega⟩
  cases hc : r.contains y
  ·rfl
  ·exfalso
   have hm : y ∈ r := by simpa using hc
   obtain ⟨k, hk, e⟩ := List.getElem_of_mem hm
   have := h 0 (k + 1) y (by simp [atN]) (by simp only [atN, kB]; rw [List.getElem?_eq_getElem hk, e])
   omega
section
variable {P : Program} {K : Ctx} {H H0 : Hp} {σ : List Nat} {S : Nat → Prop} {w : World}
theorem FF {ρ ρ' : Nat → Option Value} {i j : Nat} {o : Ob} (hσ : ∀ j x, ρ j = some x → ∃ i, atN σ j = some i ∧ ρ' i = some x) (hj : atN σ j = some i) (hnn : ρ j = none → ρ' i = none ∨ o ≠ .free) (h : gp S w ρ j o) : gp S w ρ' i (o.ren σ) ∧ ∀ b, own ρ' i (o.ren σ) b → own ρ j o b := by
 have hs : ∀ x, ρ j = some x → ρ' i = some x := fun x hx => by
  obtain ⟨i', h1, h2⟩ := hσ j x hx
  rw [hj] at h1; injection h1 with h1; subst h1; exact h2
 cases o with
 | free => exact ⟨(hnn h).resolve_right (by simp), fun b hb => hb⟩
 | gone => exact ⟨trivial, fun b hb => hb⟩
 | ext bs Φ => exact ⟨h, fun b hb => hb⟩
 | mp kt et ks vs =>
  obtain ⟨b, es, ck, h1, h2, h3⟩ := h
  refine ⟨⟨b, es, ck, hs _ h1, h2, h3⟩, fun c hc => ?_⟩
  simp only [Ob.ren, own] at hc ⊢
  rw [hs _ h1] at hc; rw [h1]; exact hc
 | var t cs =>
  obtain ⟨b, xs, h1, h2, h3⟩ := h
  refine ⟨⟨b, xs, hs _ h1, h2, h3.bwd hσ⟩, fun c hc => ?_⟩
  simp only [Ob.ren, own] at hc ⊢
  rw [hs _ h1] at hc; rw [h1]; exact hc
 | row e sz els =>
  obtain ⟨v, xs, h1, h2, h3⟩ := h
  refine ⟨⟨v, xs, hs _ h1, by rw [sn]; exact h2, h3.bwd hσ⟩, fun c hc => ?_⟩
  obtain ⟨q, e1, e2⟩ := hc
  rw [hs _ h1] at e1
  cases e1
  exact ⟨v, h1, e2⟩
theorem pW {PL : List Nat} {fid : FuncId} {vs us : List V} {Post : V → Hp → Prop} (hS : cx PL P fid us H0 Post) (σ : List Nat) (hv : au vs (renL σ us)) (hH : leH σ H H0.es) (hc : (dp σ && Nat.beq σ.length H0.nx && σ.all fun i => Nat.blt i H.nx) = true) (L : List Nat) (hL : (cf H.get L && L.all fun i => !σ.contains i) = true) :
  CallR P K fid vs H L (fun v' H'' => ∃ v H', Post v H' ∧ v' = v.ren (sgN PL H.nx H0.get H'.nx σ 0) ∧ H'' = lO PL H σ H0 H') := fun S w ρ xs hr hi hx => by
 simp only [Bool.and_eq_true] at hc hL
 obtain ⟨⟨hc1, hc2⟩, hc3⟩ := hc
 have hlen : σ.length = H0.nx := by simpa using hc2
 have hσlt : ∀ j i, atN σ j = some i → i < H.nx := fun j i h => by
  rw [kB] at h
  have := List.all_eq_true.1 hc3 i (List.mem_of_getElem? h)
  simpa [Nat.blt_eq] using this
 obtain ⟨g1, g2⟩ := vY (H' := H0) hH hc1 (by simp [hlen]) hr
 refine (hS S w (ec σ ρ) xs g1 ((hv.rel hx).ren)).mono fun e w' hR => ?_
 obtain ⟨x, S', ρ1, v, H', rfl, hP, hr', hi', hvr⟩ := hR
 obtain ⟨τ, hτ⟩ : ∃ τ, τ = sgN PL H.nx H0.get H'.nx σ 0 := ⟨_, rfl⟩
 have hτlen : τ.length = H'.nx := by rw [hτ]; exact tR _ _ _ _ _ _
 have hτat : ∀ j, j < H'.nx → atN τ j = some (match atN σ j, iq PL j (H0.get j) with | some i, true => i | _, _ => H.nx + j) := fun j hj => by
  rw [hτ, vQ _ _ _ _ _ _ _ hj]; simp only [Nat.zero_add]
 have hτlt : ∀ j i, atN τ j = some i → j < H'.nx := fun j i h => by
  rw [kB] at h
  have := (List.getElem?_eq_some_iff.1 h).1
  omega
 have hτc : ∀ j i, atN τ j = some i → (atN σ j = some i ∧ iq PL j (H0.get j) = true) ∨ i = H.nx + j := fun j i h => by
  have hj := hτlt j i h
  rw [hτat j hj] at h
  simp only [Option.some.injEq] at h
  cases h1 : atN σ j with
  | none => rw [h1] at h; exact .inr h.symm
  | some i1 =>
   rw [h1] at h
   cases h2 : iq PL j (H0.get j)
   ·rw [h2] at h; exact .inr h.symm
   ·rw [h2] at h; simp only at h; subst h; exact .inl ⟨rfl, rfl⟩
 have hτbd : ∀ j i, atN τ j = some i → i < H.nx + H'.nx := fun j i h => by
  have hj := hτlt j i h
  rcases hτc j i h with ⟨h1, _⟩ | h1
  ·have := hσlt j i h1; omega
  ·omega
 have hτinj : dp τ = true := rg fun j k i h1 h2 => by
  rcases hτc j i h1 with ⟨a1, _⟩ | a1 <;> rcases hτc k i h2 with ⟨a2, _⟩ | a2
  ·exact nU hc1 j k i a1 a2
  ·have := hσlt j i a1; omega
  ·have := hσlt k i a2; omega
  ·omega
 have hfreeρ : ∀ i, H.nx ≤ i → ρ i = none := fun i hi' => by
  have := hr.ob i
  have e : H.get i = .free := by
   unfold Hp.get
   have : Nat.blt i H.nx = false := by cases hb : Nat.blt i H.nx; rfl; simp [Nat.blt_eq] at hb; omega
   rw [this]
  rw [e] at this; exact this
 have hfree1 : ∀ j, H'.nx ≤ j → ρ1 j = none := fun j hj => by
  have := hr'.ob j
  have e : H'.get j = .free := by
   unfold Hp.get
   have : Nat.blt j H'.nx = false := by cases hb : Nat.blt j H'.nx; rfl; simp [Nat.blt_eq] at hb; omega
   rw [this]
  rw [e] at this; exact this
 obtain ⟨ρ2, hρ2⟩ : ∃ ρ2 : Nat → Option Value, ρ2 = fun i => if i < H.nx then ρ i else ρ1 (i - H.nx) := ⟨_, rfl⟩
 have hup : ∀ i y, ρ i = some y → ρ2 i = some y := fun i y h => by
  by_cases hlt : i < H.nx
  ·rw [hρ2]; simp only [hlt, if_true]; exact h
  ·rw [hfreeρ i (by omega)] at h; cases h
 have hpin : ∀ j, iq PL j (H0.get j) = true → ∀ y, ec σ ρ j = some y → ρ1 j = some y := fun j hv y h => hi'.pin j y (by simp only [sr, hv]; exact h)
 have hnoext : ∀ j i, atN σ j = some i → ∀ bs Φ, H0.get j = .ext bs Φ → False := fun j i h1 bs Φ hy' => by
  have hl := so hH j
  have hlt : j < H0.nx := by
   rw [← hlen]
   rw [kB] at h1
   exact (List.getElem?_eq_some_iff.1 h1).1
  have e0 : H0.get j = ar H0.es j := by unfold Hp.get; rw [nlT hlt]
  rw [← e0, hy'] at hl
  rcases hl with hl | ⟨i', _, hl⟩
  ·cases hl
  ·cases ho : H.get i' <;> rw [ho] at hl <;> simp [Ob.ren, fp] at hl
 have hτρ : ∀ j y, ρ1 j = some y → ∃ i, atN τ j = some i ∧ ρ2 i = some y := fun j y h => by
  have hj : j < H'.nx := by
   rcases Nat.lt_or_ge j H'.nx with h1 | h1
   ·exact h1
   ·rw [hfree1 j h1] at h; cases h
  obtain ⟨i, hji⟩ : ∃ i, atN τ j = some i := ⟨_, hτat j hj⟩
  refine ⟨i, hji, ?_⟩
  rcases hτc j i hji with ⟨h1, h2⟩ | h1
  · -- a variable keeps its place
   have hob := g1.ob j
   have hsome : ∃ y', ec σ ρ j = some y' ∨ ∃ bs Φ, H0.get j = .ext bs Φ := by
    cases ho : H0.get j with
    | var t cs => rw [ho] at hob; obtain ⟨b, _, hb, _⟩ := hob; exact ⟨_, .inl hb⟩
    | row e sz els => rw [ho] at hob; obtain ⟨b, _, hb, _⟩ := hob; exact ⟨_, .inl hb⟩
    | ext bs Φ => exact ⟨.bool true, .inr ⟨bs, Φ, rfl⟩⟩
    | mp kt et ks vs => rw [ho] at hob; obtain ⟨b, _, _, hb, _⟩ := hob; exact ⟨_, .inl hb⟩
    | _ => rw [ho] at h2; cases h2
   obtain ⟨y', hy' | ⟨bs, Φ, hy'⟩⟩ := hsome
   ·have := hpin j h2 y' hy'
    rw [h] at this; injection this with this; subst this
    simp only [ec, h1] at hy'
    exact hup _ _ hy'
   ·exact (hnoext j i h1 bs Φ hy').elim
  ·subst h1
   rw [hρ2]
   simp only [show ¬ H.nx + j < H.nx by omega, if_false, Nat.add_sub_cancel_left]
   exact h
 -- the call's objects under the caller's numbers
 obtain ⟨h1', hh1'⟩ : ∃ h1' : Nat → Ob, h1' = fun i => match iM τ i with | some j => (H'.get j).ren τ | none => if i < H.nx + H'.nx then .gone else .free := ⟨_, rfl⟩
 obtain ⟨h1, hh1⟩ : ∃ h1 : Nat → Ob, h1 = fun i => match σ.contains i with | true => H.get i | false => .gone := ⟨_, rfl⟩
 have hin : ∀ i, h1 i = H.get i ∨ h1 i = .gone := fun i => by rw [hh1]; simp only []; cases σ.contains i <;> simp
 have hkey : ∀ i, gp S' w' ρ2 i (h1' i) ∧ ∀ b, own ρ2 i (h1' i) b → ∃ j, iM τ i = some j ∧ own ρ1 j (H'.get j) b := fun i => by
  rw [hh1']
  simp only []
  cases hj : iM τ i with
  | none =>
   simp only []
   split
   ·exact ⟨trivial, fun b hb => hb.elim⟩
   ·rename_i hlt
    refine ⟨?_, fun b hb => hb.elim⟩
    show ρ2 i = none
    rw [hρ2]
    simp only [show ¬ i < H.nx by omega, if_false]
    exact hfree1 _ (by omega)
  | some j =>
   have hat := fH hj
   obtain ⟨k1, k2⟩ := FF hτρ hat (fun hn => by
    have hjl := hτlt j i hat
    by_cases hf : H'.get j = .free
    ·left
     rcases hτc j i hat with ⟨a1, a2⟩ | a1
     · -- a variable is not free
      have hob := g1.ob j
      exfalso
      cases ho : H0.get j with
      | var t cs =>
       rw [ho] at hob; obtain ⟨b, _, hb, _⟩ := hob
       have := hpin j a2 _ hb
       rw [hn] at this; cases this
      | row e sz els =>
       rw [ho] at hob; obtain ⟨b, _, hb, _⟩ := hob
       have := hpin j a2 _ hb
       rw [hn] at this; cases this
      | ext bs Φ => exact hnoext j i a1 bs Φ ho
      | mp kt et ks vs =>
       rw [ho] at hob; obtain ⟨b, _, _, hb, _⟩ := hob
       have := hpin j a2 _ hb
       rw [hn] at this; cases this
      | _ => rw [ho] at a2; cases a2
     ·subst a1
      rw [hρ2]
      simp only [show ¬ H.nx + j < H.nx by omega, if_false, Nat.add_sub_cancel_left]
      exact hn
    ·exact .inr hf) (hr'.ob j)
   exact ⟨k1, fun b hb => ⟨j, rfl, k2 b hb⟩⟩
 have hX : ∀ b, (∃ id, own (ec σ ρ) id (H0.get id) b) → ∃ id, own ρ id (h1 id) b := fun b ⟨id, hb⟩ => by
  obtain ⟨i, h2, h3⟩ := g2 id b hb
  refine ⟨i, ?_⟩
  have hm : σ.contains i = true := by
   rw [kB] at h2
   simpa using List.mem_of_getElem? h2
  rw [hh1]; simp only [hm]; exact h3
 have hrel1 : HRel S' w' ρ2 h1' := ⟨fun i => (hkey i).1, fun i b hb => by obtain ⟨j, _, h⟩ := (hkey i).2 b hb; exact hr'.sep j b h, fun i k b hbi hbk => by
  obtain ⟨j, e1, h1⟩ := (hkey i).2 b hbi
  obtain ⟨j', e2, h2⟩ := (hkey k).2 b hbk
  have := hr'.dis j j' b h1 h2
  subst this
  have a1 := fH e1
  have a2 := fH e2
  rw [a1] at a2; injection a2, hr'.slt⟩
 have hinv1 : Inv ⟨w, S, fun b => ∃ id, own ρ id (h1 id) b, ρ⟩ S' w' ρ2 h1' := ⟨hi'.chg.mono hX, hi'.s0, fun b hb => by
  rcases hi'.s1 b hb with h | h | h
  ·exact .inl h
  ·exact .inr (.inl (hX b h))
  ·exact .inr (.inr h), fun i b hb => by
  obtain ⟨j, _, h⟩ := (hkey i).2 b hb
  rcases hi'.ow j b h with h | h
  ·exact .inl (hX b h)
  ·exact .inr h, fun id y h => hup id y h⟩
 have hh2 : ∀ i, ((lO PL H σ H0 H').get i = h1' i ∨ (lO PL H σ H0 H').get i = .gone) ∨ ((lO PL H σ H0 H').get i = H.get i ∧ h1 i = .gone ∧ H.get i ≠ .free) := fun i => by
  by_cases hlt : i < H.nx + H'.nx
  ·have e0 : (lO PL H σ H0 H').get i = ar (qD τ H'.es ++ mS σ H.nx H.es) i := by
    unfold Hp.get lO
    simp only [nlT hlt, hτ]
   rw [e0]
   rcases vM (qD τ H'.es) (mS σ H.nx H.es) i with e | ⟨_, e⟩
   ·rw [e, uq hτinj]
    cases hj : iM τ i with
    | none => exact .inl (.inr rfl)
    | some j =>
     left; left
     rw [hh1']
     simp only [hj]
     have hjl := hτlt j i (fH hj)
     unfold Hp.get
     rw [nlT hjl]
   ·rw [e]
    rcases uz (σ := σ) (nx := H.nx) (i := i) (l := H.es) with e1 | ⟨e1, e2, e3, e4⟩
    ·exact .inl (.inr e1)
    ·right
     have eH : H.get i = ar H.es i := by unfold Hp.get; rw [nlT e3]
     refine ⟨by rw [e1, eH], ?_, by rw [eH]; exact e4⟩
     rw [hh1]; simp only [e2]
  ·left; left
   have e0 : (lO PL H σ H0 H').get i = .free := by
    unfold Hp.get lO
    have : Nat.blt i (H.nx + H'.nx) = false := by cases hb : Nat.blt i (H.nx + H'.nx); rfl; simp [Nat.blt_eq] at hb; omega
    simp only [this]
   rw [e0, hh1']
   simp only []
   cases hj : iM τ i with
   | none => simp only [hlt, if_false]
   | some j => have := hτbd j i (fH hj); omega
 obtain ⟨m1, m2, m3, m4⟩ := wh (h2 := (lO PL H σ H0 H').get) hr hi hin hrel1 hinv1 hh2
 refine ⟨x, S', ρ2, _, _, rfl, ⟨v, H', hP, rfl, rfl⟩, m1, m2, m3, by rw [← hτ]; exact hvr.bwd hτρ, m4 L hL.1 fun id hid => ?_⟩
 have := List.all_eq_true.1 hL.2 id hid
 simp only [Bool.not_eq_true'] at this
 rw [hh1]; simp only [this]
end
end Go.Proofs.YthnohcipianijaaGreatDoor
namespace Go.Proofs.YthnohcipianijaaGreatDoor
open Go.RowKit
section
variable (T : Tab)
def opS (F : Fm) (H : Hp) (o : Oper) {α : Type} (c : Fm → Hp → Option α) : Option α :=
 match kI T H.get F o.op with
 | some v => F.puto o.dst (some v) fun F' => c F' H
 |none => match jZ T H.get F H.nx o.op with
  |some (v, ed) => H.ap ed fun H' => match v with
   | some v => F.puto o.dst (some v) fun F' => c F' H'
   | none => F.puto o.dst (some (.tup [])) fun F' => c F' H'
  | none => none
def eb : Nat → EP → List EI → Fm → Hp → Option (EP × List EI × Fm × Hp)
 | 0, p, s, F, H => some (p, s, F, H)
 |k + 1, .code c, s, F, H => match c with
  | .seq x y => eb k (.code x) (.seq y :: s) F H
  | .block id c => eb k (.code c) (.blk id :: s) F H
  | .skip => eb k (.ex .normal) s F H
  | .ret => eb k (.ex .ret) s F H
  | .exit id => eb k (.ex (.exit id)) s F H
  |.cond c x y => match aJ F c with
   | some (.bool true) => eb k (.code x) s F H
   | some (.bool false) => eb k (.code y) s F H
   | _ => none
  | .region _ ⟨l⟩ false => eb k (.ops ⟨l⟩ l) s F H
  | _ => none
 |k + 1, .ops all rest, s, F, H => match rest with
  | [] => eb k (.ex .normal) s F H
  |o :: r => match bf F all o.guard with
   | some true => opS T F H o fun F' H' => eb k (.ops all r) s F' H'
   | some false => F.puto o.dst (some (.tup [])) fun F' => eb k (.ops all r) s F' H
   | none => none
 |k + 1, .ex e, s, F, H => match s with
  | [] => none
  |.seq c :: s => match e with
   | .normal => eb k (.code c) s F H
   | .exit i => eb k (.ex (.exit i)) s F H
   | .ret => eb k (.ex .ret) s F H
   | _ => none
  |.blk id :: s => match e with
   | .normal => eb k (.ex .normal) s F H
   |.exit i => match Nat.beq i id with
    | true => eb k (.ex .normal) s F H
    | false => eb k (.ex (.exit i)) s F H
   | .ret => eb k (.ex .ret) s F H
   | _ => none
  | _ => none
 | k + 1, .drw .., _, _, _ => none
def mm (all : Array Oper) (L : List Nat) : List (Nat × Nat) → Fm → Hp → Option (Fm × Hp)
 | [], F, H => some (F, H)
 |(i, f) :: r, F, H => match all[i]? with
  |some o => match bf F all o.guard with
   | some false => F.puto o.dst (some (.tup [])) fun F' => mm all L r F' H
   |some true => match f with
    |2 => match kI T H.get F o.op with
     | some v => F.puto o.dst (some v) fun F' => mm all L r F' H
     | none => none
    |3 => match pf F o.op with
     |some id => match L.contains id with
      |true => match jZ T H.get F H.nx o.op with
       | some (some v, _) => F.puto o.dst (some v) fun F' => mm all L r F' H
       | _ => none
      | false => none
     | none => none
    |f => match kI T H.get F o.op with
     | some v => F.puto o.dst (some v) fun F' => mm all L r F' H
     |none => match jZ T H.get F H.nx o.op with
      |some (v, ed) => match (cf H.get L && ed.clear L) || Nat.beq f 1 with
       |true => H.ap ed fun H' => match v with
        | some v => F.puto o.dst (some v) fun F' => mm all L r F' H'
        | none => F.puto o.dst (some (.tup [])) fun F' => mm all L r F' H'
       | false => none
      | none => none
   | none => none
  | none => none
end
def yz (all : Array Oper) (m : Nat) : List (Nat × Nat) → Array Bool → Bool
 | [], _ => true
 |(i, f) :: r, listed => (match f with
  | 2 => !Nat.beq i m && Region.free .any all listed i && (Region.ready .any all listed).contains i
  | 3 => !Nat.beq i m && Region.free .any all listed i && (Region.ready .any all listed).contains i && ta .any all m i && !listed.getD m false
  | 1 => (match Region.ready .any all listed with | [j] => Nat.beq i j | _ => false) && (listed.setIfInBounds i true).getD m false
  | _ => (match Region.ready .any all listed with | [j] => Nat.beq i j | _ => false)) && yz all m r (listed.setIfInBounds i true)
def BN : List (Nat × Nat) → Array Bool → Array Bool
 | [], l => l
 | (i, _) :: r, l => BN r (l.setIfInBounds i true)
section
variable {P : Program} {T : Tab} {K : Ctx} {Q : Exit → Act → World → Prop} {p p' : EP} {s s' : List EI} {n : Nat} {F F' F1 F2 : Fm} {H H' H1 : Hp}
theorem EW (hT : TabOk P T) {all : Array Oper} {rest : List Oper} {o : Oper} {α : Type} {c : Fm → Hp → Option α} {x : α} (hw : bf F all o.guard = some true) (h : opS T F H o c = some x) : ∃ F' H', c F' H' = some x ∧ (Go P K Q (.ops all rest) s n F' H' → Go P K Q (.ops all (o :: rest)) s n F H) := by
 unfold opS at h
 split at h
 ·rename_i v hv
  rw [Fm.puto_eq] at h
  exact ⟨_, _, h, fun k => go_opP hT hw hv k⟩
 ·split at h
  ·rename_i v ed hv
   rw [Hp.ap_eq] at h
   cases v with
   | none =>
    simp only [Fm.puto_eq] at h
    exact ⟨_, _, h, fun k => go_opE hT hw hv k⟩
   | some v =>
    simp only [Fm.puto_eq] at h
    exact ⟨_, _, h, fun k => go_opE hT hw hv k⟩
  ·cases h
theorem cp (hT : TabOk P T) : ∀ (k : Nat) (p : EP) (s : List EI) (F : Fm) (H : Hp), eb T k p s F H = some (p', s', F', H') → Go P K Q p' s' n F' H' → Go P K Q p s n F H
 | 0, p, s, F, H, h, kk => by
  simp only [eb, Option.some.injEq, Prod.mk.injEq] at h
  obtain ⟨rfl, rfl, rfl, rfl⟩ := h
  exact kk
 | k + 1, .code c, s, F, H, h, kk => by
  unfold eb at h
  split at h
  ·exact zV (cp hT k _ _ _ _ h kk)
  ·exact vc (cp hT k _ _ _ _ h kk)
  ·exact xP (cp hT k _ _ _ _ h kk)
  ·exact go_ret (cp hT k _ _ _ _ h kk)
  ·exact xf (cp hT k _ _ _ _ h kk)
  ·split at h
   ·exact va ‹_› (cp hT k _ _ _ _ h kk)
   ·exact wb ‹_› (cp hT k _ _ _ _ h kk)
   ·cases h
  ·exact ua (cp hT k _ _ _ _ h kk)
  ·cases h
 | k + 1, .ops all rest, s, F, H, h, kk => by
  unfold eb at h
  split at h
  ·exact Ag (cp hT k _ _ _ _ h kk)
  ·split at h
   ·obtain ⟨F1, H1, h1, h2⟩ := EW (P := P) (K := K) (Q := Q) (s := s) (n := n) hT ‹_› h
    exact h2 (cp hT k _ _ _ _ h1 kk)
   ·rw [Fm.puto_eq] at h
    exact Af ‹_› (cp hT k _ _ _ _ h kk)
   ·cases h
 | k + 1, .ex e, s, F, H, h, kk => by
  unfold eb at h
  split at h
  ·cases h
  ·split at h
   ·exact xy (cp hT k _ _ _ _ h kk)
   ·exact ve (cp hT k _ _ _ _ h kk)
   ·exact wv (cp hT k _ _ _ _ h kk)
   ·cases h
  ·split at h
   ·exact wu (cp hT k _ _ _ _ h kk)
   ·split at h
    ·exact wf ‹_› (cp hT k _ _ _ _ h kk)
    ·exact vp ‹_› (cp hT k _ _ _ _ h kk)
   ·exact vn (cp hT k _ _ _ _ h kk)
   ·cases h
  ·cases h
 | k + 1, .drw .., s, F, H, h, kk => by simp [eb] at h
variable {all : Array Oper} {rest : List Oper} {o : Oper} {L : List Nat} {m fuel : Nat} {listed : Array Bool}
theorem tZ {i : Nat} (h : (match Region.ready .any all listed with | [j] => Nat.beq i j | _ => false) = true) : Region.ready .any all listed = [i] := by
 split at h
 ·rename_i j hj
  rw [hj, Nat.eq_of_beq_eq_true h]
 ·cases h
theorem jY (hT : TabOk P T) : ∀ (is : List (Nat × Nat)) (fuel : Nat) (listed : Array Bool) (F : Fm) (H : Hp), yz all m is listed = true → mm T all L is F H = some (F', H') → Go P K Q (.drw all L m fuel (BN is listed)) s n F' H' → Go P K Q (.drw all L m (fuel + is.length) listed) s n F H
 | [], fuel, listed, F, H, hc, hr, k => by
  simp only [mm, Option.some.injEq, Prod.mk.injEq] at hr
  obtain ⟨rfl, rfl⟩ := hr
  exact k
 | (i, f) :: r, fuel, listed, F, H, hc, hr, k => by
  simp only [yz, Bool.and_eq_true] at hc
  obtain ⟨hc1, hc2⟩ := hc
  show Go P K Q (.drw all L m (fuel + r.length + 1) listed) s n F H
  unfold mm at hr
  split at hr
  ·rename_i o ho
   split at hr
   ·rename_i hw
    rw [Fm.puto_eq] at hr
    have ih := jY hT r fuel _ _ _ hc2 hr k
    have single : (match Region.ready .any all listed with | [j] => Nat.beq i j | _ => false) = true → Go P K Q (.drw all L m (fuel + r.length + 1) listed) s n F H := fun hx => go_d1S (tZ hx) ho hw ih
    split at hc1
    ·simp only [Bool.and_eq_true, Bool.not_eq_true'] at hc1
     exact zA hc1.1.1 ho hc1.1.2 hc1.2 hw ih
    ·simp only [Bool.and_eq_true, Bool.not_eq_true'] at hc1
     exact zA hc1.1.1.1.1 ho hc1.1.1.1.2 hc1.1.1.2 hw ih
    ·simp only [Bool.and_eq_true] at hc1
     exact single hc1.1
    ·exact single hc1
   ·rename_i hw
    split at hr
    ·split at hr
     ·rename_i v hv
      rw [Fm.puto_eq] at hr
      have ih := jY hT r fuel _ _ _ hc2 hr k
      simp only [Bool.and_eq_true, Bool.not_eq_true'] at hc1
      exact CD hT hc1.1.1 ho hc1.1.2 hc1.2 hw hv ih
     ·cases hr
    ·split at hr
     ·rename_i id hid
      split at hr
      ·rename_i hL
       split at hr
       ·rename_i v ed hv
        rw [Fm.puto_eq] at hr
        have ih := jY hT r fuel _ _ _ hc2 hr k
        simp only [Bool.and_eq_true, Bool.not_eq_true'] at hc1
        exact CG hT hc1.1.1.1.1 hc1.1.2 hc1.2 ho hc1.1.1.1.2 hc1.1.1.2 hw hid hL hv ih
       ·cases hr
      ·cases hr
     ·cases hr
    ·rename_i h2 h3
     have hs : (match Region.ready .any all listed with | [j] => Nat.beq i j | _ => false) = true ∧ (Nat.beq f 1 = true → (listed.setIfInBounds i true).getD m false = true) := by
      split at hc1
      ·exact absurd rfl h2
      ·exact absurd rfl h3
      ·simp only [Bool.and_eq_true] at hc1
       exact ⟨hc1.1, fun _ => hc1.2⟩
      ·rename_i h1
       exact ⟨hc1, fun hb => absurd (Nat.eq_of_beq_eq_true hb) h1⟩
     have hrd := tZ hs.1
     split at hr
     ·rename_i v hv
      rw [Fm.puto_eq] at hr
      have ih := jY hT r fuel _ _ _ hc2 hr k
      exact AL hrd ho hw (fun S w ρ a hr hF => pu hT hr hF hv) ih
     ·split at hr
      ·rename_i v ed hv
       split at hr
       ·rename_i hcl
        rw [Hp.ap_eq] at hr
        have hcl' : ((cf H.get L && ed.clear L) || (listed.setIfInBounds i true).getD m false) = true := by
         rcases rq hcl with h | h
         ·rw [h]; rfl
         ·rw [hs.2 h]; simp
        cases v with
        | none =>
         simp only [Fm.puto_eq] at hr
         exact vO hrd ho hw (fun S w ρ a hr hF => rh hT hr hF H.get_free hv) (nJ hv) hcl' (jY hT r fuel _ _ _ hc2 hr k)
        | some v =>
         simp only [Fm.puto_eq] at hr
         exact vO hrd ho hw (fun S w ρ a hr hF => rh hT hr hF H.get_free hv) (nJ hv) hcl' (jY hT r fuel _ _ _ hc2 hr k)
       ·cases hr
      ·cases hr
   ·cases hr
  ·cases hr
theorem mQ {d : Nat} {v v' : V} (hd : F.get d = some v) (hs : aw v v') (k : Go P K Q p s n (F.set d (some v')) H) : Go P K Q p s n F H := fun S w ρ a hr hi hF => by
 refine k S w ρ a hr hi ⟨hF.size, hF.defers, by have := hF.len; simpa using this, fun i u hu => ?_⟩
 rw [Fm.get_eq, List.getElem?_set] at hu
 split at hu
 ·rename_i e
  subst e
  split at hu
  ·simp only [Option.bind_some, id_eq, Option.some.injEq] at hu
   subst hu
   obtain ⟨x, h1, h2⟩ := hF.get d v hd
   exact ⟨x, h1, hs _ _ _ _ h2⟩
  ·cases hu
 ·exact hF.get i u (by rw [Fm.get_eq]; exact hu)
theorem gB {e : Bool} (d : Nat) (hd : F.get d = some (.bool e)) (h1 : F.put d (some (.bool true)) id = F1) (h2 : F.put d (some (.bool false)) id = F2) (kT : e = true → Go P K Q p s n F1 H) (kF : e = false → Go P K Q p s n F2 H) : Go P K Q p s n F H := by
 rw [Fm.put_eq] at h1 h2
 subst h1 h2
 cases he : e with
 | true => exact mQ hd (by rw [he]; exact aw.rfl) (kT he)
 | false => exact mQ hd (by rw [he]; exact aw.rfl) (kF he)
theorem gT {e : Bool} (d : Nat) (hd : F.get d = some (.bool e)) (he : e = true) (h1 : F.put d (some (.bool true)) id = F1) (k : Go P K Q p s n F1 H) : Go P K Q p s n F H := by
 rw [Fm.put_eq] at h1; subst h1
 exact mQ hd (by rw [he]; exact aw.rfl) k
theorem gF {e : Bool} (d : Nat) (hd : F.get d = some (.bool e)) (he : e = false) (h1 : F.put d (some (.bool false)) id = F1) (k : Go P K Q p s n F1 H) : Go P K Q p s n F H := by
 rw [Fm.put_eq] at h1; subst h1
 exact mQ hd (by rw [he]; exact aw.rfl) k
theorem gV {v : V} (d : Nat) (v' : V) (hd : F.get d = some v) (he : v = v') (h1 : F.put d (some v') id = F1) (k : Go P K Q p s n F1 H) : Go P K Q p s n F H := by
 rw [Fm.put_eq] at h1; subst h1
 exact mQ hd (by rw [he]; exact aw.rfl) k
theorem ao {m l : Int} (h : -9223372036854775808 ≤ m ∧ m ≤ 9223372036854775807) (e : m = l) : V.int .i64 (IntKind.i64.wrap m) = .int .i64 l := by
 subst e
 rw [IntWalk.i64_in _ (by omega)]
def slT (T : Tab) (t : TypeId) : Option (TypeId × Nat) := match T.ty t with
 |some ⟨_, _, _, .sl e⟩ => match T.ty e with
  | some ⟨sz, _, _, _⟩ => some (e, sz)
  | none => none
 | _ => none
theorem lm (hT : TabOk P T) {t e : TypeId} {sz : Nat} (h : slT T t = some (e, sz)) : P.underlying t = some (.slice e) ∧ ew P e = some sz := by
 unfold slT at h
 split at h
 ·rename_i ht
  split at h
  ·rename_i he
   simp only [Option.some.injEq, Prod.mk.injEq] at h
   obtain ⟨rfl, rfl⟩ := h
   exact ⟨(hT.ty _ _ ht).sl rfl, (hT.ty _ _ he).size⟩
  ·cases h
 ·cases h
theorem yIR (hT : TabOk P T) {t e : TypeId} {x y : Operand} {sz i : Nat} {els : List V} {v : V} {ty : TypeId} (ht : slT T t = some (e, sz)) (hx : aJ F x = some (.row sz els)) (hy : aJ F y = some (.int .i64 (i : Int))) (hi : els[i]? = some v) : ∀ S w ρ a, HRel S w ρ H.get → FRel S w ρ a n F → Yld P S w ρ a ty (.indexAddr t x y) (.box v.cells 0) := fun S w ρ a hr hF =>
 p_idxR hF.fr (lm hT ht).1 (lm hT ht).2 (al hF hx) (al hF hy) hi
theorem yIO (hT : TabOk P T) {t e e' : TypeId} {x y : Operand} {id sz i : Nat} {els : List V} {ty : TypeId} (ht : slT T t = some (e, sz)) (hx : aJ F x = some (.sl id)) (ho : H.get id = .row e' sz els) (hy : aJ F y = some (.int .i64 (i : Int))) (hi : i < els.length) : ∀ S w ρ a, HRel S w ρ H.get → FRel S w ρ a n F → Yld P S w ρ a ty (.indexAddr t x y) (.el id sz i 0) := fun S w ρ a hr hF =>
 p_idxO hr ho hF.fr (lm hT ht).1 (lm hT ht).2 (al hF hx) (al hF hy) hi
theorem gY {v : V} (hy : ∀ S w ρ a, HRel S w ρ H.get → FRel S w ρ a n F → Yld P S w ρ a o.type o.op v) (hw : bf F all o.guard = some true) (h1 : F.puto o.dst (some v) id = F1) (k : Go P K Q (.ops all rest) s n F1 H) : Go P K Q (.ops all (o :: rest)) s n F H := by
 rw [Fm.puto_eq] at h1; subst h1
 exact go_opY hw hy k
mutual
def mapV (f : V → V) : V → V
 | .agg cs => .agg (mapVs f cs)
 | .tup cs => .tup (mapVs f cs)
 | .clo fid cs => .clo fid (mapVs f cs)
 | .sl j => f (.sl j)
 | .int k n => f (.int k n)
 | .bool b => f (.bool b)
 | .str l => f (.str l)
 | .nilp => f .nilp
 | .nils => f .nils
 | .raw x => f (.raw x)
 | .ptr i o => f (.ptr i o)
 | .el i sz j o => f (.el i sz j o)
 | .box cs o => f (.box cs o)
 | .row sz els => f (.row sz els)
 | .lk els => f (.lk els)
def mapVs (f : V → V) : List V → List V
 | [] => []
 | v :: r => mapV f v :: mapVs f r
end
mutual
theorem VRel.mapV {S S' : Nat → Prop} {w : World} {ρ : Nat → Option Value} {f : V → V} (hf : ∀ v x, VRel S w ρ v x → VRel S' w ρ (f v) x) : ∀ {v : V} {x : Value}, VRel S w ρ v x → VRel S' w ρ (mapV f v) x
 | .int _ _, x, h => by simp only [Go.Proofs.YthnohcipianijaaGreatDoor.mapV]; exact hf _ _ h
 | .bool _, x, h => by simp only [Go.Proofs.YthnohcipianijaaGreatDoor.mapV]; exact hf _ _ h
 | .str _, x, h => by simp only [Go.Proofs.YthnohcipianijaaGreatDoor.mapV]; exact hf _ _ h
 | .nilp, x, h => by simp only [Go.Proofs.YthnohcipianijaaGreatDoor.mapV]; exact hf _ _ h
 | .nils, x, h => by simp only [Go.Proofs.YthnohcipianijaaGreatDoor.mapV]; exact hf _ _ h
 | .raw _, x, h => by simp only [Go.Proofs.YthnohcipianijaaGreatDoor.mapV]; exact hf _ _ h
 | .box _ _, x, h => by simp only [Go.Proofs.YthnohcipianijaaGreatDoor.mapV]; exact hf _ _ h
 | .row _ _, x, h => by simp only [Go.Proofs.YthnohcipianijaaGreatDoor.mapV]; exact hf _ _ h
 | .lk _, x, h => by simp only [Go.Proofs.YthnohcipianijaaGreatDoor.mapV]; exact hf _ _ h
 | .ptr _ _, x, h => by simp only [Go.Proofs.YthnohcipianijaaGreatDoor.mapV]; exact hf _ _ h
 | .el _ _ _ _, x, h => by simp only [Go.Proofs.YthnohcipianijaaGreatDoor.mapV]; exact hf _ _ h
 | .sl j, x, h => by simp only [Go.Proofs.YthnohcipianijaaGreatDoor.mapV]; exact hf _ _ h
 | .agg cs, x, h => by
  simp only [Go.Proofs.YthnohcipianijaaGreatDoor.mapV, VRel] at h ⊢
  obtain ⟨xs, h1, h2⟩ := h
  exact ⟨xs, h1, LRel.mapV hf h2⟩
 | .tup cs, x, h => by
  simp only [Go.Proofs.YthnohcipianijaaGreatDoor.mapV, VRel] at h ⊢
  obtain ⟨xs, h1, h2⟩ := h
  exact ⟨xs, h1, LRel.mapV hf h2⟩
 | .clo fid cs, x, h => by
  simp only [Go.Proofs.YthnohcipianijaaGreatDoor.mapV, VRel] at h ⊢
  obtain ⟨xs, h1, h2⟩ := h
  exact ⟨xs, h1, LRel.mapV hf h2⟩
theorem LRel.mapV {S S' : Nat → Prop} {w : World} {ρ : Nat → Option Value} {f : V → V} (hf : ∀ v x, VRel S w ρ v x → VRel S' w ρ (f v) x) : ∀ {v : List V} {x : List Value}, LRel S w ρ v x → LRel S' w ρ (mapVs f v) x
 | [], x, h => by simp only [mapVs, LRel] at h ⊢; exact h
 | v :: r, x, h => by
  simp only [mapVs, LRel] at h ⊢
  obtain ⟨y, ys, h1, h2, h3⟩ := h
  exact ⟨y, ys, h1, VRel.mapV hf h2, LRel.mapV hf h3⟩
end
def ly (f : V → V) : Fm → Fm
 | [] => []
 | none :: r => none :: ly f r
 | some v :: r => some (mapV f v) :: ly f r
theorem rX {f : V → V} : ∀ (F : Fm) (i : Nat), (ly f F).get i = (F.get i).map (mapV f)
 | [], i => by simp [ly, Fm.get]
 | none :: r, 0 => by simp [ly, Fm.get]
 | some v :: r, 0 => by simp [ly, Fm.get]
 | none :: r, i + 1 => by simp [ly, Fm.get, rX r i]
 | some v :: r, i + 1 => by simp [ly, Fm.get, rX r i]
theorem rZ {f : V → V} : ∀ (F : Fm), (ly f F).length = F.length
 | [] => rfl
 | none :: r => by simp [ly, rZ r]
 | some v :: r => by simp [ly, rZ r]
def kY (f : V → V) (id : Nat) : List (Nat × Ob) → List (Nat × Ob)
 | [] => []
 |(j, o) :: r => match Nat.beq j id with
  | true => kY f id r
  |false => match o with
   | .var t cs => (j, .var t (mapVs f cs)) :: kY f id r
   | o => (j, o) :: kY f id r
theorem qC {f : V → V} {id i : Nat} : ∀ {l : List (Nat × Ob)}, ar (kY f id l) i = if i = id then .gone else match ar l i with | .var t cs => .var t (mapVs f cs) | o => o
 | [] => by simp [kY, ar]
 | (j, o) :: r => by
  have ih := qC (f := f) (id := id) (i := i) (l := r)
  simp only [kY]
  by_cases hj : j = id
  ·subst hj
   rw [nbT]
   simp only []
   rw [ih]
   by_cases hi : i = j
   ·simp [hi]
   ·rw [if_neg hi, if_neg hi]
    simp only [ar, nbF (Ne.symm hi)]
  ·rw [nbF hj]
   simp only []
   by_cases hi : j = i
   ·subst hi
    rw [if_neg hj]
    cases o <;> simp only [ar, nbT]
   ·have e2 : ar ((j, o) :: r) i = ar r i := by simp only [ar, nbF hi]
    rw [e2, ← ih]
    cases o <;> simp only [ar, nbF hi]
theorem go_frz {f : V → V} {id : Nat} (hid : H.get id ≠ .free) (hf : ∀ S w ρ, HRel S w ρ H.get → ∀ v x, VRel S w ρ v x → VRel (fun b => S b ∨ own ρ id (H.get id) b) w ρ (f v) x) (h1 : ly f F = F1) (h2 : (⟨H.nx, kY f id H.es⟩ : Hp) = H1) (k : Go P K Q p s n F1 H1) : Go P K Q p s n F H := fun S w ρ a hr hi hF => by
 subst h1 h2
 obtain ⟨g1, g2⟩ := fN (id := id) hr
 have hlt : id < H.nx := by
  rcases Nat.lt_or_ge id H.nx with h | h
  ·exact h
  ·exfalso; apply hid
   unfold Hp.get
   have : Nat.blt id H.nx = false := by cases hb : Nat.blt id H.nx; rfl; simp [Nat.blt_eq] at hb; omega
   rw [this]
 have hg : ∀ i, (⟨H.nx, kY f id H.es⟩ : Hp).get i = if i = id then .gone else match H.get i with | .var t cs => .var t (mapVs f cs) | o => o := fun i => by
  unfold Hp.get
  by_cases hi : i = id
  ·subst hi
   simp only [nlT hlt, if_true, qC]
  ·simp only [if_neg hi]
   cases hb : Nat.blt i H.nx
   ·rfl
   ·simp only [qC, if_neg hi]
 have hob : ∀ i, i ≠ id → own ρ i ((⟨H.nx, kY f id H.es⟩ : Hp).get i) = own ρ i (H.get i) := fun i hii => by
  rw [hg i, if_neg hii]
  cases H.get i <;> rfl
 have hhr : HRel (fun b => S b ∨ own ρ id (H.get id) b) w ρ (⟨H.nx, kY f id H.es⟩ : Hp).get := by
  have hne : ∀ i b, own ρ i ((⟨H.nx, kY f id H.es⟩ : Hp).get i) b → i ≠ id ∧ own ρ i (H.get i) b := fun i b hb => by
   by_cases hii : i = id
   ·subst hii; rw [hg i, if_pos rfl] at hb; exact hb.elim
   ·rw [hob i hii] at hb; exact ⟨hii, hb⟩
  refine ⟨fun i => ?_, fun i b hb => ?_, fun i j b hbi hbj => hr.dis i j b (hne i b hbi).2 (hne j b hbj).2, g1.slt⟩
  ·rw [hg i]
   by_cases hii : i = id
   ·rw [if_pos hii]; trivial
   ·rw [if_neg hii]
    have h0 := g1.ob i
    rw [bP _ _ hii] at h0
    have h1 := hr.ob i
    cases ho : H.get i with
    | var t cs =>
     rw [ho] at h1
     obtain ⟨b, xs, q1, q2, q3⟩ := h1
     exact ⟨b, xs, q1, q2, q3.mapV (hf S w ρ hr)⟩
    | _ => rw [ho] at h0; exact h0
  ·have := hne i b hb
   exact g1.sep i b (by rw [bP _ _ this.1]; exact this.2)
 have hii : Inv K (fun b => S b ∨ own ρ id (H.get id) b) w ρ (⟨H.nx, kY f id H.es⟩ : Hp).get := by
  have h0 := hi.frz hr id
  refine ⟨h0.chg, h0.s0, h0.s1, fun i b hb => ?_, h0.pin⟩
  by_cases hii : i = id
  ·subst hii; rw [hg i, if_pos rfl] at hb; exact hb.elim
  ·rw [hob i hii] at hb; exact hi.ow i b hb
 have := k _ w ρ a hhr hii ⟨hF.size, hF.defers, by rw [rZ]; exact hF.len, fun i u hu => by
  rw [rX] at hu
  obtain ⟨v, h3, h4⟩ := Option.map_eq_some_iff.1 hu
  obtain ⟨x, h5, h6⟩ := hF.get i v h3
  exact ⟨x, h5, by rw [← h4]; exact h6.mapV (hf S w ρ hr)⟩⟩
 cases p with
 | drw all L m left listed => exact fun hs => sw (qh (fun b hb => .inl hb) Agree.refl) (fun x _ h => h) _ _ _ _ (this hs)
 | code c => exact this
 | ops all rest => exact this
 | ex e => exact this
def fzR (id sz : Nat) (els : List V) : V → V
 |.sl j => match Nat.beq j id with
  | true => .row sz els
  | false => .sl j
 | v => v
def fzP (id : Nat) (cs : List V) : V → V
 |.ptr j o => match Nat.beq j id with
  | true => .box cs o
  | false => .ptr j o
 | v => v
theorem gFR {e : TypeId} {sz : Nat} {els : List V} (id : Nat) (ho : H.get id = .row e sz els) (hpu : pureL els = true) (h1 : ly (fzR id sz els) F = F1) (h2 : (⟨H.nx, kY (fzR id sz els) id H.es⟩ : Hp) = H1) (k : Go P K Q p s n F1 H1) : Go P K Q p s n F H :=
 go_frz (f := fzR id sz els) (by rw [ho]; simp) (fun S w ρ hr v x hx => by
  unfold fzR
  split
  ·split
   ·rename_i hb
    have := Nat.eq_of_beq_eq_true hb
    subst this
    exact sO hr ho hpu hx
   ·exact hx.up (fN hr).2
  ·exact hx.up (fN hr).2) h1 h2 k
theorem gFP {t : TypeId} {cs : List V} (id : Nat) (ho : H.get id = .var t cs) (hpu : pureL cs = true) (h1 : ly (fzP id cs) F = F1) (h2 : (⟨H.nx, kY (fzP id cs) id H.es⟩ : Hp) = H1) (k : Go P K Q p s n F1 H1) : Go P K Q p s n F H :=
 go_frz (f := fzP id cs) (by rw [ho]; simp) (fun S w ρ hr v x hx => by
  unfold fzP
  split
  ·split
   ·rename_i hb
    have := Nat.eq_of_beq_eq_true hb
    subst this
    exact yy hr ho hpu hx
   ·exact hx.up (fN hr).2
  ·exact hx.up (fN hr).2) h1 h2 k
def mkF : Nat → Nat → List (Nat × V) → Fm
 | 0, _, _ => []
 | n + 1, i, [] => none :: mkF n (i + 1) []
 |n + 1, i, (j, v) :: r => match Nat.beq i j with
  | true => some v :: mkF n (i + 1) r
  | false => none :: mkF n (i + 1) ((j, v) :: r)
end
end Go.Proofs.YthnohcipianijaaGreatDoor
namespace Go.Proofs.YthnohcipianijaaGreatDoor
open Go.RowKit
mutual
def vEq : V → V → Bool
 |.int k n, v => match v with
  | .int k' n' => kEq k k' && iEq n n'
  | _ => false
 |.bool b, v => match v with
  | .bool c => b == c
  | _ => false
 |.str l, v => match v with
  | .str l' => lEq l l'
  | _ => false
 |.nilp, v => match v with
  | .nilp => true
  | _ => false
 |.nils, v => match v with
  | .nils => true
  | _ => false
 |.ptr i o, v => match v with
  | .ptr j p => Nat.beq i j && Nat.beq o p
  | _ => false
 |.el i z k o, v => match v with
  | .el i' z' k' o' => Nat.beq i i' && Nat.beq z z' && Nat.beq k k' && Nat.beq o o'
  | _ => false
 |.sl i, v => match v with
  | .sl j => Nat.beq i j
  | _ => false
 |.row z cs, v => match v with
  | .row z' cs' => Nat.beq z z' && vEqL cs cs'
  | _ => false
 |.agg cs, v => match v with
  | .agg cs' => vEqL cs cs'
  | _ => false
 |.tup cs, v => match v with
  | .tup cs' => vEqL cs cs'
  | _ => false
 | .raw _, _ => false
 | .box _ _, _ => false
 | .clo _ _, _ => false
 | .lk _, _ => false
def vEqL : List V → List V → Bool
 |[], vs => match vs with
  | [] => true
  | _ :: _ => false
 |v :: r, vs => match vs with
  | u :: q => vEq v u && vEqL r q
  | [] => false
end
mutual
theorem vEq_eq : ∀ {v u : V}, vEq v u = true → v = u
 | .int k n, u, h => by
  unfold vEq at h
  split at h
  ·rename_i k' n'
   simp only [Bool.and_eq_true, qK, beq_iff_eq] at h
   obtain ⟨h1, h2⟩ := h
   have : k = k' := by
    unfold kEq at h1
    split at h1 <;> first | rfl | cases h1
   rw [this, h2]
  ·cases h
 | .bool b, u, h => by
  unfold vEq at h
  split at h
  ·rw [beq_iff_eq] at h; rw [h]
  ·cases h
 | .str l, u, h => by
  unfold vEq at h
  split at h
  ·rw [oF, beq_iff_eq] at h; rw [h]
  ·cases h
 | .nilp, u, h => by
  unfold vEq at h
  split at h
  ·rfl
  ·cases h
 | .nils, u, h => by
  unfold vEq at h
  split at h
  ·rfl
  ·cases h
 | .ptr i o, u, h => by
  unfold vEq at h
  split at h
  ·simp only [Bool.and_eq_true, Nat.beq_eq] at h
   obtain ⟨rfl, rfl⟩ := h; rfl
  ·cases h
 | .el i z k o, u, h => by
  unfold vEq at h
  split at h
  ·simp only [Bool.and_eq_true, Nat.beq_eq] at h
   obtain ⟨⟨⟨rfl, rfl⟩, rfl⟩, rfl⟩ := h; rfl
  ·cases h
 | .sl i, u, h => by
  unfold vEq at h
  split at h
  ·rw [Nat.beq_eq] at h; rw [h]
  ·cases h
 | .row z cs, u, h => by
  unfold vEq at h
  split at h
  ·simp only [Bool.and_eq_true, Nat.beq_eq] at h
   obtain ⟨rfl, h2⟩ := h
   rw [vEqL_eq h2]
  ·cases h
 | .agg cs, u, h => by
  unfold vEq at h
  split at h
  ·rw [vEqL_eq h]
  ·cases h
 | .tup cs, u, h => by
  unfold vEq at h
  split at h
  ·rw [vEqL_eq h]
  ·cases h
 | .raw _, u, h => by unfold vEq at h; cases h
 | .box _ _, u, h => by unfold vEq at h; cases h
 | .clo _ _, u, h => by unfold vEq at h; cases h
 | .lk _, u, h => by unfold vEq at h; cases h
theorem vEqL_eq : ∀ {v u : List V}, vEqL v u = true → v = u
 | [], u, h => by
  unfold vEqL at h
  split at h
  ·rfl
  ·cases h
 | v :: r, u, h => by
  unfold vEqL at h
  split at h
  ·simp only [Bool.and_eq_true] at h
   rw [vEq_eq h.1, vEqL_eq h.2]
  ·cases h
end
def fmB (σ : List Nat) : Fm → Fm → Bool
 |[], F' => match F' with
  | [] => true
  | _ :: _ => false
 |x :: r, F' => match F' with
  | [] => false
  |y :: r' => (match y with
   | none => true
   |some u => match x with
    | some v => vEq v (u.ren σ)
    | none => false) && fmB σ r r'
theorem AB {σ : List Nat} : ∀ {F F' : Fm}, fmB σ F F' = true → leF σ F F' ∧ F.length = F'.length
 | [], F', h => by
  unfold fmB at h
  split at h
  ·simp [leF]
  ·cases h
 | x :: r, F', h => by
  unfold fmB at h
  split at h
  ·cases h
  ·rename_i y r'
   simp only [Bool.and_eq_true] at h
   obtain ⟨h1, h2⟩ := h
   obtain ⟨g1, g2⟩ := AB h2
   refine ⟨?_, by simp [g2]⟩
   cases y with
   | none => simp only [leF]; exact g1
   | some u =>
    simp only at h1
    split at h1
    ·rename_i v
     simp only [leF]
     exact ⟨⟨v, rfl, aw.of_eq (vEq_eq h1)⟩, g1⟩
    ·cases h1
theorem au.of_eq {v u : List V} (h : v = u) : au v u := h ▸ au.rfl
def obB (o : Ob) : Ob → Bool
 | .gone => true
 |.var t cs => match o with
  | .var t' cs' => Nat.beq t' t && vEqL cs' cs
  | _ => false
 |.row e z els => match o with
  | .row e' z' els' => Nat.beq e' e && Nat.beq z' z && vEqL els' els
  | _ => false
 | _ => false
theorem EX {o o' : Ob} (h : obB o o' = true) : fp o o' := by
 unfold obB at h
 split at h
 ·cases o <;> simp [fp]
 ·split at h
  ·simp only [Bool.and_eq_true, Nat.beq_eq] at h
   obtain ⟨rfl, h2⟩ := h
   exact ⟨rfl, au.of_eq (vEqL_eq h2)⟩
  ·cases h
 ·split at h
  ·simp only [Bool.and_eq_true, Nat.beq_eq] at h
   obtain ⟨⟨rfl, rfl⟩, h2⟩ := h
   exact ⟨rfl, rfl, vEqL_eq h2⟩
  ·cases h
 ·cases h
def hpB (σ : List Nat) (H : Hp) : List (Nat × Ob) → Bool
 | [] => true
 |(j, o) :: r => (match atN σ j with
  | some i => obB (H.get i) (o.ren σ)
  | none => false) && hpB σ H r
theorem Aj {σ : List Nat} {H : Hp} : ∀ {l : List (Nat × Ob)}, hpB σ H l = true → leH σ H l
 | [], _ => by simp [leH]
 | (j, o) :: r, h => by
  simp only [hpB, Bool.and_eq_true] at h
  obtain ⟨h1, h2⟩ := h
  simp only [leH]
  refine ⟨?_, Aj h2⟩
  split at h1
  ·rename_i i hi
   exact ⟨i, hi, EX h1⟩
  ·cases h1
def Gk (k i : Nat) : Nat := match Nat.beq i k with
 | true => k + 1
 |false => match Nat.beq i (k + 1) with
  | true => k
  | false => i
def CB (k : Nat) : Nat → List Nat → List Nat
 | 0, acc => acc
 | n + 1, acc => eD (Gk k n) fun x => CB k n (x :: acc)
def vm (k : Nat) (F : Fm) (H : Hp) (F' : Fm) (H' : Hp) : Bool :=
 listK (CB k H'.nx []) fun σ => fmB σ F F' && hpB σ H H'.es && (dp σ && Nat.ble σ.length H'.nx && yY σ (List.range k))
theorem go_alike {P : Program} {K : Ctx} {Q : Exit → Act → World → Prop} {s : List EI} {n : Nat} {F F' : Fm} {H H' : Hp} {e : Exit} {k : Nat} (h : vm k F H F' H' = true) (hp : ∀ id x, K.pin id = some x → id < k) (c : Go P K Q (.ex e) s n F' H') : Go P K Q (.ex e) s n F H := fun S w ρ a hr hi hf => by
 unfold vm at h
 rw [bZ] at h
 simp only [Bool.and_eq_true] at h
 obtain ⟨⟨h1, h2⟩, ⟨h3, h4⟩, h5⟩ := h
 obtain ⟨g1, g2⟩ := AB h1
 refine go_sub _ (List.range k) rfl (fun id x h => List.mem_range.2 (hp id x h)) g1 (Aj h2) ?_ c S w ρ a hr hi hf
 simp only [Bool.and_eq_true]
 exact ⟨⟨⟨h3, h4⟩, h5⟩, by rw [← g2]; exact Nat.ble_eq_true_of_le hf.len⟩
end Go.Proofs.YthnohcipianijaaGreatDoor
namespace Go.Proofs.YthnohcipianijaaGreatDoor
open Go.RowKit
inductive Rs where
 | ok (e : Bool) (F : Fm) (H : Hp)
 | pt (p : EP) (s : List EI) (F : Fm) (H : Hp)
 | er (n m : Nat)
def Ep : V → List Nat → List Nat
 | .ptr id _, acc => id :: acc
 | .el id _ _ _, acc => id :: acc
 | .sl id, acc => id :: acc
 | _, acc => acc
def BG : List V → List Nat → List Nat
 | [], acc => acc
 | v :: r, acc => BG r (Ep v acc)
def DX : V → List Nat → List Nat
 | .agg cs, acc => BG cs acc
 | v, acc => Ep v acc
def qe : List V → List Nat → List Nat
 | [], acc => acc
 | .tup vs :: r, acc => qe r (vs.foldl (fun acc v => DX v acc) acc)
 | v :: r, acc => qe r (DX v acc)
def gQ (i : Nat) : List Nat → Bool
 | [] => false
 |j :: r => match Nat.beq i j with
  | true => true
  | false => gQ i r
def mu (H : Hp) : Nat → List Nat → List Nat → List Nat
 | 0, _, acc => acc
 | _ + 1, [], acc => acc
 |n + 1, id :: r, acc => match gQ id acc with
  | true => mu H n r acc
  |false => match H.get id with
   | .var _ cs => mu H n (BG cs r) (id :: acc)
   | _ => mu H n r (id :: acc)
def ru {α : Type} (R : List Nat) : List (Nat × Ob) → (List (Nat × Ob) → α) → α
 | [], c => c []
 |(i, o) :: r, c => match gQ i R with
  | true => ru R r fun r' => c ((i, o) :: r')
  | false => ru R r c
def qb {α : Type} (nx : Nat) (R : List Nat) : List (Nat × Ob) → (List (Nat × Ob) → α) → α
 | [], c => c []
 |(i, o) :: r, c => match !gQ i R && Nat.blt i nx with
  |true => match o with
   | .free => qb nx R r fun r' => c ((i, .gone) :: r')
   | o => qb nx R r fun r' => c ((i, o) :: r')
  | false => qb nx R r c
def yW {α : Type} (lo : Nat) (H : Hp) (v : V) (c : V → Hp → α) : α := match v with
 |.sl id => match Nat.ble lo id with
  |true => match H.get id with
   |.row _ sz els => match pureL els with
    | true => tF id H.es fun es => c (.row sz els) ⟨H.nx, es⟩
    | false => c v H
   | _ => c v H
  | false => c v H
 | _ => c v H
def zu {α : Type} (lo : Nat) (H : Hp) : List V → (List V → Hp → α) → α
 | [], c => c [] H
 | v :: r, c => yW lo H v fun v' H' => zu lo H' r fun r' H'' => c (v' :: r') H''
def BL {α : Type} (lo : Nat) (H : Hp) (v : V) (c : V → Hp → α) : α := match v with
 | .agg cs => zu lo H cs fun cs H' => c (.agg cs) H'
 | v => yW lo H v c
def vw {α : Type} (lo : Nat) (H : Hp) : List V → (List V → Hp → α) → α
 | [], c => c [] H
 | v :: r, c => BL lo H v fun v' H' => vw lo H' r fun r' H'' => c (v' :: r') H''
def AY (H : Hp) : List Nat → Bool
 | [] => false
 |i :: r => match H.get i with
  | .row _ _ _ => true
  | _ => AY H r
def Dy (o : Oper) : Bool := match o.op with
 | .store .. => true
 | _ => false
def ES (o : Oper) : Bool := match o.op with
 | .alloc .. => false
 | .box .. => false
 | .store .. => false
 | .buildSlice .. => false
 | .makeSlice .. => false
 | .call ⟨.builtin .len, _, _⟩ => true
 | .call ⟨.builtin .max, _, _⟩ => true
 | .call .. => false
 | _ => true
def yh : Nat → List Oper → Nat
 | i, [] => i
 |i, o :: r => match Dy o with
  | true => i
  | false => yh (i + 1) r
def qP (T : Tab) (H : Hp) (all : Array Oper) : List Oper → Fm → List Nat → List Nat → List Nat
 | [], _, rd, cl => rd.filter fun i => !gQ i cl
 |o :: r, F, rd, cl => match bf F all o.guard with
  | some false => F.puto o.dst (some (.tup [])) fun F' => qP T H all r F' rd cl
  |_ => match kI T H.get F o.op with
   | some v => F.puto o.dst (some v) fun F' => qP T H all r F' rd cl
   |none => match pf F o.op with
    |some id => match jZ T H.get F H.nx o.op with
     | some (v, _) => F.puto o.dst v fun F' => qP T H all r F' (match gQ id rd with | true => rd | false => id :: rd) cl
     | none => F.puto o.dst none fun F' => qP T H all r F' rd cl
    |none => match o.op with
     |.call ⟨.value (.func _), ⟨args⟩, _⟩ => match gl F args with
      | some vs => F.puto o.dst none fun F' => qP T H all r F' rd (mu H 40 (qe vs []) cl)
      | none => F.puto o.dst none fun F' => qP T H all r F' rd cl
     | _ => F.puto o.dst none fun F' => qP T H all r F' rd cl
def sL (F : Fm) (all : Array Oper) (L : List Nat) (m : Nat) (listed : Array Bool) : List Nat → Option Nat
 | [] => none
 |i :: r => match all[i]? with
  |some o => match Nat.beq i m with
   | true => sL F all L m listed r
   |false => match ES o with
    |true => match Region.free .any all listed i with
     | true => some i
     | false => sL F all L m listed r
    | false => sL F all L m listed r
  | none => none
section
variable (T : Tab) (ih : EP → List EI → Fm → Hp → Rs)
def yi (keep : Bool) (vs : List V) (fn : Func) (b : Code) (H : Hp) (L : List Nat) (ok : Bool) (c : V → Hp → Rs) : Rs :=
 match mu H 40 (qe vs []) [] with
 |R => match (cf H.get L && L.all fun i => !gQ i R) || ok with
  |true => ru R H.es fun es1 => match ih (.code b) [] (jV fn.ntmps vs) ⟨H.nx, es1⟩ with
   |.ok _ F1 H1 => match pq T H1.get F1 fn.results.toList with
    |some rs => match Nat.ble H.nx H1.nx with
     |true => match keep || AY H R with
      | true => qb H.nx R H.es fun es2 => c (lT rs) ⟨H1.nx, H1.es ++ es2⟩
      |false => vw H.nx H1 rs fun rs H2 => match mu H2 60 (qe rs R) [] with
       | R2 => ru R2 H2.es fun es3 => qb H.nx R H.es fun es2 => c (lT rs) ⟨H2.nx, es3 ++ es2⟩
     | false => .er 1 0
    | none => .er 2 0
   | .er n m => .er n m
   | .pt .. => .er 3 0
  | false => .er 4 0
def pK (F : Fm) (H : Hp) (L : List Nat) (ok : Bool) (o : Oper) (c : Option V → Hp → Rs) : Rs :=
 match kI T H.get F o.op with
 | some v => c (some v) H
 |none => match eD H.nx fun nid => jZ T H.get F nid o.op with
  |some (v, ed) => match (cf H.get L && ed.clear L) || ok with
   |true => H.ap ed fun H' => match v with
    | some v => c (some v) H'
    | none => c (some (.tup [])) H'
   | false => .er 5 0
  |none => match o.op with
   |.call ⟨.value (.func fid), ⟨args⟩, _⟩ => match gl F args with
    |some vs => match T.nat fid vs with
     | some v => c (some v) H
     |none => match T.fn fid with
      |some fn => match fn.body with
       |some b => match Nat.ble vs.length fn.ntmps with
        | true => yi T ih (T.keep fid) vs fn b H L ok fun v H' => c (some v) H'
        | false => .er 6 fid
       | none => .er 7 fid
      | none => .er 8 fid
    | none => .er 9 fid
   | _ => .er (10000 + o.type) (match o.dst with | some d => d | none => 999)
def vZ (l : List Nat) (j : Nat) : Bool := match l with
 | [x] => Nat.beq x j
 | _ => false
def yF (x y i : Nat) : Nat := match Nat.beq x i with
 | true => y
 |false => match Nat.beq y i with
  | true => x
  | false => i
def uT (all : Array Oper) (L : List Nat) (m i : Nat) (o : Oper) (ps : List (Nat × Operand)) (v : V) (s : List EI) : Nat → Array Bool → Fm → Hp → Rs
 |left, listed, F, H => match cf H.get L || (listed.setIfInBounds i true).getD m false with
  |true => match Region.ready .any all listed with
   |[x] => match Nat.beq x i with
    | true => F.puto o.dst (some v) fun F' => ih (.drw all L m left (listed.setIfInBounds i true)) s F' H
    | false => .er 41 i
   |[x, y] => match left with
    | 0 => .er 42 i
    |left + 1 => eD (yF x y i) fun j => match Nat.beq j i with
     | true => .er 43 i
     |false => match all[j]? with
      |some oj => match vZ (Region.ready .any all (listed.setIfInBounds i true)) j && uY o.dst oj.dst && oO oj.dst ps && (match o.dst with | some t => (F.get t).isNone | none => true) with
       |true => match bf F all oj.guard with
        | some true => pK T ih F H L ((listed.setIfInBounds j true).getD m false && ((listed.setIfInBounds j true).setIfInBounds i true).getD m false) oj fun u H' => F.puto oj.dst u fun F' => uT all L m i o ps v s left (listed.setIfInBounds j true) F' H'
        | _ => .er 44 i
       | false => .er 45 i
      | none => .er 46 i
   | _ => .er 47 i
  | false => .er 48 i
def oD (T : Tab) (F : Fm) (all : Array Oper) : List Nat → Option (Nat × Oper × List (Nat × Operand) × V)
 | [] => none
 |i :: r => match all[i]? with
  |some ⟨_, .buildSlice _ _ ⟨ps⟩, _, _, _, none⟩ => match jA F ps with
   |some vs => match nF T all i vs with
    | some (o, ps', v) => some (i, o, ps', v)
    | none => oD T F all r
   | none => oD T F all r
  | _ => oD T F all r
def Bt (all : Array Oper) (L : List Nat) (m left i j : Nat) (listed : Array Bool) (s : List EI) (F : Fm) (H : Hp) : Rs := match all[i]? with
 |some oi => match all[j]? with
  |some oj => match bf F all oi.guard with
   |some true => match bf F all oj.guard with
    |some true => pK T ih F H L ((listed.setIfInBounds i true).getD m false) oi fun ui Hi => F.puto oi.dst ui fun Fi => match ih (.drw all L m left (listed.setIfInBounds i true)) [] Fi Hi with
     |.ok false F1 H1 => pK T ih F H L ((listed.setIfInBounds j true).getD m false) oj fun uj Hj => F.puto oj.dst uj fun Fj => match ih (.drw all L m left (listed.setIfInBounds j true)) [] Fj Hj with
      |.ok false F2 H2 => match vm H.nx F2 H2 F1 H1 with
       | true => ih (.ex .normal) s F1 H1
       | false => .er 51 i
      | .er a b => .er a b
      | _ => .er 52 i
     | .er a b => .er a b
     | _ => .er 53 i
    | _ => .er 54 i
   | _ => .er 55 i
  | none => .er 56 i
 | none => .er 57 i
def yq (c : Code) (s : List EI) (F : Fm) (H : Hp) : Rs := match c with
 | .seq x y => ih (.code x) (.seq y :: s) F H
 | .block id c => ih (.code c) (.blk id :: s) F H
 | .skip => ih (.ex .normal) s F H
 | .ret => ih (.ex .ret) s F H
 | .exit id => ih (.ex (.exit id)) s F H
 | .scope c => ih (.code c) (.scp :: s) F H
 | .label _ => ih (.ex .normal) s F H
 | .loop c => ih (.code c) (.loop c 1000000 :: s) F H
 |.cond c x y => match aJ F c with
  | some (.bool true) => ih (.code x) s F H
  | some (.bool false) => ih (.code y) s F H
  | _ => .er 11 0
 | .region _ ⟨l⟩ false => ih (.ops ⟨l⟩ l) s F H
 |.region _ ⟨l⟩ true => match Region.noSelect ⟨l⟩ with
  | true => listK (qP T H ⟨l⟩ l F [] []) fun L => eD (yh 0 l) fun m => eD l.length fun n => ih (.drw ⟨l⟩ L m n (Array.replicate n false)) s F H
  | false => .er 13 0
 | _ => .er 14 0
def vz (all : Array Oper) (rest : List Oper) (s : List EI) (F : Fm) (H : Hp) : Rs := match rest with
 | [] => ih (.ex .normal) s F H
 |o :: r => match bf F all o.guard with
  | some false => F.puto o.dst (some (.tup [])) fun F' => ih (.ops all r) s F' H
  | some true => pK T ih F H [] true o fun v H' => F.puto o.dst v fun F' => ih (.ops all r) s F' H'
  | none => .er 15 0
def yG (e : Exit) (s : List EI) (F : Fm) (H : Hp) : Rs := match s with
 |[] => match e with
  | .normal => .ok false F H
  | .ret => .ok true F H
  | _ => .er 16 0
 |.seq c :: s => match e with
  | .normal => ih (.code c) s F H
  | .exit i => ih (.ex (.exit i)) s F H
  | .ret => ih (.ex .ret) s F H
  | _ => .er 17 0
 |.loop c j :: s => match e with
  |.normal => match j with
   | 0 => .er 18 0
   | j + 1 => ih (.code c) (.loop c j :: s) F H
  | .exit i => ih (.ex (.exit i)) s F H
  | .ret => ih (.ex .ret) s F H
  | _ => .er 19 0
 |.scp :: s => match e with
  | .normal => ih (.ex .normal) s F H
  | .exit i => ih (.ex (.exit i)) s F H
  | .ret => ih (.ex .ret) s F H
  | _ => .er 20 0
 |.blk id :: s => match e with
  | .normal => ih (.ex .normal) s F H
  |.exit i => match Nat.beq i id with
   | true => ih (.ex .normal) s F H
   | false => ih (.ex (.exit i)) s F H
  | .ret => ih (.ex .ret) s F H
  | _ => .er 21 0
def yV (all : Array Oper) (L : List Nat) (m left : Nat) (listed : Array Bool) (s : List EI) (F : Fm) (H : Hp) : Rs := match Region.ready .any all listed with
 | [] => ih (.ex .normal) s F H
 |i :: R => match left with
  | 0 => .er 22 0
  |left + 1 => match R with
   |[] => match all[i]? with
    |some o => match bf F all o.guard with
     | some false => F.puto o.dst (some (.tup [])) fun F' => ih (.drw all L m left (listed.setIfInBounds i true)) s F' H
     | some true => pK T ih F H L ((listed.setIfInBounds i true).getD m false) o fun v H' => F.puto o.dst v fun F' => ih (.drw all L m left (listed.setIfInBounds i true)) s F' H'
     | none => .er (6000 + all.size) i
    | none => .er 24 0
   |_ => match sL F all L m listed (i :: R) with
    |some i => match all[i]? with
     |some o => match (Region.ready .any all listed).contains i && Region.free .any all listed i && !Nat.beq i m with
      |true => match bf F all o.guard with
       | some false => F.puto o.dst (some (.tup [])) fun F' => ih (.drw all L m left (listed.setIfInBounds i true)) s F' H
       |some true => match kI T H.get F o.op with
        | some v => F.puto o.dst (some v) fun F' => ih (.drw all L m left (listed.setIfInBounds i true)) s F' H
        |none => match pf F o.op with
         |some id => match L.contains id && ta .any all m i && !listed.getD m false with
          |true => match jZ T H.get F H.nx o.op with
           | some (some v, _) => F.puto o.dst (some v) fun F' => ih (.drw all L m left (listed.setIfInBounds i true)) s F' H
           | _ => .er (4000 + all.size) i
          | false => .er (2000 + all.size) i
         | none => .er (3000 + all.size) i
       | none => .er (5000 + all.size) i
      | false => .er 29 i
     | none => .er 30 i
    |none => match oD T F all (i :: R) with
     | some (i, o, ps, v) => F.puto o.dst none fun F' => uT T ih all L m i o ps v s left listed F' H
     |none => match R with
      | [j] => Bt T ih all L m left i j listed s F H
      | _ => .er (1000 + all.size) i
def step (p : EP) (s : List EI) (F : Fm) (H : Hp) : Rs := match p with
 | .code c => yq T ih c s F H
 | .ops all rest => vz T ih all rest s F H
 | .ex e => yG ih e s F H
 | .drw all L m left listed => yV T ih all L m left listed s F H
end
def run (T : Tab) : Nat → EP → List EI → Fm → Hp → Rs
 | 0, p, s, F, H => .pt p s F H
 | k + 1, p, s, F, H => step T (run T k) p s F H
end Go.Proofs.YthnohcipianijaaGreatDoor
namespace Go.Proofs.YthnohcipianijaaGreatDoor
open Go.RowKit
set_option maxRecDepth 100000
def tyL : List (Nat × TD) := [
 (3, ⟨1, 8, .int .i64 0, .sc⟩),
 (35, ⟨4, 72, .agg [.int .i64 0, .str [], .nils, .nils], .struct [(0, 1, true), (1, 1, true), (2, 1, true), (3, 1, true)]⟩),
 (31, ⟨1, 24, .nils, .sl 35⟩),
 (24, ⟨4, 56, .agg [.int .i64 0, .int .i64 0, .str [], .nils], .struct [(0, 1, true), (1, 1, true), (2, 1, true), (3, 1, true)]⟩),
 (9, ⟨1, 16, .str [], .str⟩),
 (33, ⟨1, 24, .nils, .sl 9⟩),
 (102, ⟨2, 16, .agg [.int .i64 0, .int .i64 0], .struct [(0, 1, true), (1, 1, true)]⟩),
 (22, ⟨1, 24, .nils, .sl 24⟩),
 (149, ⟨1, 24, .nils, .sl 152⟩),
 (5, ⟨1, 1, .int .u8 0, .sc⟩),
 (86, ⟨1, 8, .nilp, .sc⟩),
 (29, ⟨1, 24, .nils, .sl 3⟩),
 (2, ⟨1, 8, .int .i64 0, .sc⟩),
 (90, ⟨3, 40, .agg [.int .i64 0, .str [], .str []], .struct [(0, 1, true), (1, 1, true), (2, 1, true)]⟩),
 (55, ⟨1, 8, .nilp, .sc⟩),
 (36, ⟨1, 8, .int .i64 0, .sc⟩),
 (92, ⟨1, 8, .nilp, .sc⟩),
 (218, ⟨4, 32, .agg [.int .i64 0, .int .i64 0, .int .i64 0, .int .i64 0], .struct [(0, 1, true), (1, 1, true), (2, 1, true), (3, 1, true)]⟩),
 (52, ⟨1, 24, .nils, .sl 98⟩),
 (152, ⟨2, 32, .agg [.str [], .str []], .struct [(0, 1, true), (1, 1, true)]⟩),
 (67, ⟨1, 24, .nils, .sl 71⟩),
 (71, ⟨6, 72, .agg [.int .i64 0, .int .i64 0, .int .i64 0, .bool false, .str [], .nils], .struct [(0, 1, true), (1, 1, true), (2, 1, true), (3, 1, true), (4, 1, true), (5, 1, true)]⟩),
 (98, ⟨3, 40, .agg [.int .i64 0, .nils, .int .i64 0], .struct [(0, 2, false), (2, 1, true)]⟩),
 (104, ⟨11, 168, .agg [.nils, .nils, .raw (.map none), .raw (.map none), .int .i64 0, .nils, .nils, .int .i64 0, .nils, .int .i64 0, .int .i64 0], .struct [(0, 1, true), (1, 1, true), (2, 1, true), (3, 1, true), (4, 1, true), (5, 1, true), (6, 1, true), (7, 2, false), (9, 2, false)]⟩),
 (117, ⟨5, 56, .agg [.int .i64 0, .nils, .int .i64 0, .int .i64 0, .bool false], .struct [(0, 2, false), (2, 1, true), (3, 1, true), (4, 1, true)]⟩),
 (83, ⟨1, 24, .nils, .sl 90⟩),
 (180, ⟨2, 16, .agg [.int .i64 0, .int .i64 0], .struct [(0, 1, true), (1, 1, true)]⟩),
 (88, ⟨5, 56, .agg [.nils, .int .i64 0, .int .i64 0, .int .i64 0, .int .i64 0], .struct [(0, 1, true), (1, 1, true), (2, 1, true), (3, 1, true), (4, 1, true)]⟩),
 (64, ⟨1, 24, .nils, .sl 117⟩),
 (174, ⟨1, 8, .nilp, .sc⟩),
 (136, ⟨3, 40, .agg [.nils, .int .i64 0, .int .i64 0], .struct [(0, 1, true), (1, 2, false)]⟩),
 (66, ⟨1, 8, .nilp, .sc⟩),
 (76, ⟨1, 8, .nilp, .sc⟩),
 (114, ⟨4, 80, .agg [.nils, .int .i64 0, .nils, .nils], .struct [(0, 1, true), (1, 1, true), (2, 1, true), (3, 1, true)]⟩),
 (118, ⟨1, 8, .nilp, .sc⟩),
 (4, ⟨1, 1, .bool false, .bool⟩),
 (79, ⟨1, 8, .nilp, .sc⟩),
 (122, ⟨1, 8, .nilp, .sc⟩),
 (96, ⟨2, 32, .agg [.int .i64 0, .nils], .struct [(0, 1, true), (1, 1, true)]⟩),
 (237, ⟨4, 32, .agg [.int .i64 0, .int .i64 0, .int .i64 0, .int .i64 0], .arr 2 102⟩),
 (134, ⟨1, 24, .nils, .sl 102⟩),
 (69, ⟨3, 40, .agg [.nils, .int .i64 0, .int .i64 0], .struct [(0, 1, true), (1, 1, true), (2, 1, true)]⟩),
 (81, ⟨3, 40, .agg [.nils, .int .i64 0, .int .i64 0], .struct [(0, 1, true), (1, 1, true), (2, 1, true)]⟩),
 (108, ⟨2, 32, .agg [.nils, .int .i64 0], .struct [(0, 1, true), (1, 1, true)]⟩),
 (120, ⟨6, 80, .agg [.str [], .int .i64 0, .int .i64 0, .str [], .nils, .nilp], .struct [(0, 1, true), (1, 4, false), (5, 1, true)]⟩),
 (124, ⟨6, 80, .agg [.str [], .int .i64 0, .int .i64 0, .str [], .nils, .nilp], .struct [(0, 1, true), (1, 4, false), (5, 1, true)]⟩),
 (176, ⟨4, 40, .agg [.str [], .int .i64 0, .int .i64 0, .nilp], .struct [(0, 1, true), (1, 2, false), (3, 1, true)]⟩),
 (50, ⟨20, 280, .agg [.int .i64 0, .int .i64 0, .str [], .nils, .int .i64 0, .int .i64 0, .str [], .nils, .int .i64 0, .int .i64 0, .str [], .nils, .int .i64 0, .int .i64 0, .str [], .nils, .int .i64 0, .int .i64 0, .str [], .nils], .arr 5 24⟩),
 (204, ⟨2, 24, .agg [.int .i64 0, .str []], .struct [(0, 1, true), (1, 1, true)]⟩),
 (49, ⟨5, 80, .agg [.str [], .str [], .str [], .str [], .str []], .arr 5 9⟩),
 (212, ⟨1, 8, .int .u64 0, .sc⟩),
 (100, ⟨1, 8, .raw (.map none), .sc⟩),
 (139, ⟨2, 16, .agg [.int .i64 0, .int .i64 0], .struct [(0, 1, true), (1, 1, true)]⟩),
 (73, ⟨1, 8, .nilp, .sc⟩),
 (109, ⟨3, 48, .agg [.str [], .str [], .str []], .arr 3 9⟩),
 (210, ⟨1, 24, .nils, .sl 29⟩),
 (99, ⟨1, 8, .raw (.map none), .sc⟩),
 (156, ⟨1, 8, .nilp, .sc⟩)]
def mg {α : Type} : List (Nat × α) → Nat → Option α
 | [], _ => none
 |(i, x) :: r, j => match Nat.beq i j with
  | true => some x
  | false => mg r j
def tyB (P : Program) : List (Nat × TD) → Bool
 | [] => true
 | (t, d) :: r => tdB P t d && tyB P r
theorem Bd {P : Program} : ∀ {l : List (Nat × TD)}, tyB P l = true → ∀ t d, mg l t = some d → TdOk P t d
 | [], _, t, d, h => by cases h
 | (i, x) :: r, hb, t, d, h => by
  simp only [tyB, Bool.and_eq_true] at hb
  simp only [mg] at h
  split at h
  ·rename_i e
   have := Nat.eq_of_beq_eq_true e
   subst this
   injection h with h; subst h
   exact Fo hb.1
  ·exact Bd hb.2 t d h
theorem zN : ∀ t d, mg tyL t = some d → TdOk Tryz.prog t d := Bd (by kernel_rfl)
noncomputable def fnL : List (Nat × Func) := [(27, Tryz.f27), (49, Tryz.f49), (50, Tryz.f50), (51, Tryz.f51), (72, Tryz.f72), (73, Tryz.f73), (74, Tryz.f74), (75, Tryz.f75), (76, Tryz.f76), (77, Tryz.f77), (78, Tryz.f78), (79, Tryz.f79), (80, Tryz.f80), (116, Tryz.f116), (117, Tryz.f117), (118, Tryz.f118), (119, Tryz.f119), (120, Tryz.f120), (122, Tryz.f122), (123, Tryz.f123), (124, Tryz.f124), (125, Tryz.f125), (159, Tryz.f159), (160, Tryz.f160), (161, Tryz.f161), (162, Tryz.f162), (144, Tryz.f144), (164, Tryz.f164), (186, Tryz.f186), (187, Tryz.f187), (209, Tryz.f209), (210, Tryz.f210)]
def fnB (P : Program) : List (Nat × Func) → Prop
 | [] => True
 | (i, f) :: r => (P.funcs[i]? = some f ∧ de P i = true) ∧ fnB P r
theorem AC {P : Program} : ∀ {l : List (Nat × Func)}, fnB P l → ∀ i f, mg l i = some f → P.funcs[i]? = some f ∧ de P i = true
 | [], _, i, f, h => by cases h
 | (j, x) :: r, hb, i, f, h => by
  simp only [mg] at h
  split at h
  ·rename_i e
   have := Nat.eq_of_beq_eq_true e
   subst this
   injection h with h; subst h
   exact hb.1
  ·exact AC hb.2 i f h
theorem Fd : ∀ i f, mg fnL i = some f → Tryz.prog.funcs[i]? = some f ∧ de Tryz.prog i = true := AC ⟨⟨Tryz.func27, by kernel_rfl⟩, ⟨Tryz.func49, by kernel_rfl⟩, ⟨Tryz.func50, by kernel_rfl⟩, ⟨Tryz.func51, by kernel_rfl⟩, ⟨Tryz.func72, by kernel_rfl⟩, ⟨Tryz.func73, by kernel_rfl⟩, ⟨Tryz.func74, by kernel_rfl⟩, ⟨Tryz.func75, by kernel_rfl⟩, ⟨Tryz.func76, by kernel_rfl⟩, ⟨Tryz.func77, by kernel_rfl⟩, ⟨Tryz.func78, by kernel_rfl⟩, ⟨Tryz.func79, by kernel_rfl⟩, ⟨Tryz.func80, by kernel_rfl⟩, ⟨Tryz.func116, by kernel_rfl⟩, ⟨Tryz.func117, by kernel_rfl⟩, ⟨Tryz.func118, by kernel_rfl⟩, ⟨Tryz.func119, by kernel_rfl⟩, ⟨Tryz.func120, by kernel_rfl⟩, ⟨Tryz.func122, by kernel_rfl⟩, ⟨Tryz.func123, by kernel_rfl⟩, ⟨Tryz.func124, by kernel_rfl⟩, ⟨Tryz.func125, by kernel_rfl⟩, ⟨Tryz.func159, by kernel_rfl⟩, ⟨Tryz.func160, by kernel_rfl⟩, ⟨Tryz.func161, by kernel_rfl⟩, ⟨Tryz.func162, by kernel_rfl⟩, ⟨Tryz.func144, by kernel_rfl⟩, ⟨Tryz.func164, by kernel_rfl⟩, ⟨Tryz.func186, by kernel_rfl⟩, ⟨Tryz.func187, by kernel_rfl⟩, ⟨Tryz.func209, by kernel_rfl⟩, ⟨Tryz.func210, by kernel_rfl⟩, trivial⟩
end Go.Proofs.YthnohcipianijaaGreatDoor
namespace Go.Proofs.YthnohcipianijaaGreatDoor
open Go.RowKit Lx Sx
def BZ : Tab := ⟨false, mg tyL, fun _ => none, fun _ _ => none, fun _ => false⟩
theorem ac : TabOk Tryz.prog BZ := ⟨zN, (fun _ _ h => by cases h), (fun _ _ _ h => by cases h)⟩
mutual
def treeV : Tree → V
 | .node k s ls ks => .agg [.int .i64 k, .str s, .row 1 (ls.map .str), .row 4 (kidsV ks)]
def kidsV : List Tree → List V
 | [] => []
 | t :: r => treeV t :: kidsV r
end
abbrev an (t : Tree) : List V := [.int .i64 t.kind, .str t.text, .row 1 (t.leads.map .str), .row 4 (kidsV t.kids)]
abbrev pk (t : Tree) : V := .agg (an t)
theorem iy (t : Tree) : treeV t = pk t := by cases t; simp [treeV, Tree.kind, Tree.text, Tree.leads, Tree.kids]
theorem mw : ∀ (ks : List Tree), (kidsV ks).length = ks.length
 | [] => rfl
 | t :: r => by simp [kidsV, mw r]
theorem av : ∀ {ks : List Tree} {i : Nat} {u : Tree}, ks[i]? = some u → (kidsV ks)[i]? = some (pk u)
 | [], i, u, h => by simp at h
 | t :: r, 0, u, h => by
  simp only [List.getElem?_cons_zero, Option.some.injEq] at h
  subst h
  simp [kidsV, iy]
 | t :: r, i + 1, u, h => by
  simp only [List.getElem?_cons_succ] at h
  simpa [kidsV] using av h
theorem eN : ∀ (a b : List Tree), kidsV (a ++ b) = kidsV a ++ kidsV b
 | [], b => rfl
 | t :: r, b => by simp [kidsV, eN r b]
theorem yJ (t : Tree) : (pk t).pure = true := rfl
theorem sQ : ∀ (ks : List Tree), pureL (kidsV ks) = true
 | [] => rfl
 | t :: r => by simp only [kidsV, pureL, iy, yJ, sQ r]
def om (P : Program) (fid : FuncId) (us : List V) (v : V) : Prop := pureL us = true ∧ v.pure = true ∧ Sum P fid us ⟨0, []⟩ (fun u _ => u = v)
theorem uX (i : Nat) : (⟨0, []⟩ : Hp).get i = .free := by
 unfold Hp.get
 have : Nat.blt i 0 = false := by cases i <;> rfl
 simp only [this]
theorem gk {P : Program} {K : Ctx} {H : Hp} {fid : FuncId} {vs us : List V} {v : V} (hS : om P fid us v) (hs : au vs us) (L : List Nat) (hL : cf H.get L = true) : CallR P K fid vs H L (fun v' H'' => v' = v ∧ H'' = H) := fun S w ρ xs hr hi hx => by
 obtain ⟨h1, h2, h3⟩ := hS
 have hr0 : HRel S w ρ0 (⟨0, []⟩ : Hp).get := ⟨fun i => by rw [uX]; rfl, fun i b hb => by rw [uX] at hb; exact hb.elim, fun i j b hb _ => by rw [uX] at hb; exact hb.elim, hr.slt⟩
 refine (h3 S w ρ0 xs hr0 ((hs.rel hx).pure h1)).mono fun e w' hR => ?_
 obtain ⟨x, S', ρ', u, H', rfl, rfl, hr', hi', hv⟩ := hR
 have hno : ∀ b, ¬ ∃ id, own ρ0 id ((⟨0, []⟩ : Hp).get id) b := fun b ⟨id, hb⟩ => by rw [uX] at hb; exact hb
 have hc : Chg [] w w' := ⟨hi'.chg.os, hi'.chg.tape, hi'.chg.output, hi'.chg.size, fun b hb _ => hi'.chg.block b hb (hno b)⟩
 have up : Up S S' w w' ρ ρ := ⟨hi'.s0, fun b hb hlt => hc.block b hlt (by simp), fun _ _ h => h⟩
 have hs1 : ∀ b, S' b → S b ∨ w.heap.size ≤ b := fun b hb => by
  rcases hi'.s1 b hb with h | h | h
  ·exact .inl h
  ·exact absurd h (hno b)
  ·exact .inr h
 refine ⟨x, S', ρ, u, H, rfl, ⟨rfl, rfl⟩, ⟨fun i => (hr.ob i).up up (fun hf => ?_) (fun b hb => hc.block b (eh (hr.ob i) hb) (by simp)), fun i b hb => ?_, hr.dis, hr'.slt⟩, ⟨hi.chg.trans (ChgP.of hc) (fun b hb => by simp at hb), fun b hb => hi'.s0 b (hi.s0 b hb), fun b hb => ?_, hi.ow, hi.pin⟩, up, hv.pure h2, fun id hid y b hy hb => ?_⟩
 ·have := hr.ob i; rw [hf] at this; exact this
 ·intro hS
  rcases hs1 b hS with h | h
  ·exact hr.sep i b hb h
  ·have := eh (hr.ob i) hb; omega
 ·rcases hs1 b hb with h | h
  ·exact hi.s1 b h
  ·exact .inr (.inr (Nat.le_trans hi.chg.size h))
 ·exact hc.block b (eh (hr.ob id) (kg hr hL id hid y b hy hb)) (by simp)
theorem bN {α : Type} [BEq α] [LawfulBEq α] {a b : α} (h : (a != b) = false) : a = b := by simpa using h
section
variable {K : Ctx} {Q : Exit → Act → World → Prop} {p p' : EP} {s s' : List EI} {n : Nat} {F F' F1 F2 : Fm} {H H' H1 : Hp} {all : Array Oper} {rest : List Oper} {o : Oper}
theorem gR (k : Nat) (h : eb BZ k p s F H = some (p', s', F', H')) (kk : Go Tryz.prog K Q p' s' n F' H') : Go Tryz.prog K Q p s n F H := cp ac k p s F H h kk
theorem gC {PL : List Nat} {fid : FuncId} {args : List Operand} {tys : Array TypeId} {vs us : List V} {H0 : Hp} {Post : V → Hp → Prop} {d : Option Tmp} {ty : TypeId} {ps : String} {af : Array Edge} {g : Option (Nat × Bool)} (hS : cx PL Tryz.prog fid us H0 Post) (σ : List Nat) (he : de Tryz.prog fid = true) (hw : bf F all g = some true) (hv : gl F args = some vs) (hs : au vs (renL σ us)) (hH : leH σ H H0.es) (hc : (dp σ && Nat.beq σ.length H0.nx && σ.all fun i => Nat.blt i H.nx) = true)
  (k : ∀ v H', Post v H' → Go Tryz.prog K Q (.ops all rest) s n (F.seto d (some (v.ren (sgN PL H.nx H0.get H'.nx σ 0)))) (lO PL H σ H0 H')) : Go Tryz.prog K Q (.ops all (⟨d, .call { callee := .value (.func fid), args := args.toArray, argTypes := tys }, ty, ps, af, g⟩ :: rest)) s n F H :=
 go_opC (o := ⟨d, .call { callee := .value (.func fid), args := args.toArray, argTypes := tys }, ty, ps, af, g⟩) he rfl hw hv (pW hS σ hs hH hc [] (by simp [cf])) fun v' H'' ⟨v, H', hP, e1, e2⟩ => by subst e1 e2; exact k v H' hP
theorem gC0 {fid : FuncId} {args : List Operand} {tys : Array TypeId} {vs us : List V} {v : V} {d : Option Tmp} {ty : TypeId} {ps : String} {af : Array Edge} {g : Option (Nat × Bool)} (hS : om Tryz.prog fid us v) (he : de Tryz.prog fid = true) (hw : bf F all g = some true) (hv : gl F args = some vs) (hs : au vs us) (h1 : F.puto d (some v) id = F1)
  (k : Go Tryz.prog K Q (.ops all rest) s n F1 H) : Go Tryz.prog K Q (.ops all (⟨d, .call { callee := .value (.func fid), args := args.toArray, argTypes := tys }, ty, ps, af, g⟩ :: rest)) s n F H := by
 rw [Fm.puto_eq] at h1; subst h1
 exact go_opC (o := ⟨d, .call { callee := .value (.func fid), args := args.toArray, argTypes := tys }, ty, ps, af, g⟩) he rfl hw hv (gk hS hs [] rfl) fun v' H'' ⟨e1, e2⟩ => by subst e1 e2; exact k
def slB (T : Tab) (t : TypeId) : Option (TypeId × Nat × Nat) := match T.ty t with
 |some ⟨_, _, _, .sl e⟩ => match T.ty e with
  |some ⟨sz, by_, _, _⟩ => match Nat.blt 0 sz && Nat.ble by_ 100000 with
   | true => some (e, sz, by_)
   | false => none
  | none => none
 | _ => none
theorem Ev {P : Program} {T : Tab} (hT : TabOk P T) {t e : TypeId} {sz by_ : Nat} (h : slB T t = some (e, sz, by_)) : P.underlying t = some (.slice e) ∧ 0 < sz ∧ by_ ≤ 100000 ∧ ∃ z : Value, (P.info? e).map (fun i => (i.zero, i.size, i.bytes)) = some (some z, sz, by_) ∧ z.cells.size = sz := by
 unfold slB at h
 split at h
 ·rename_i ht
  split at h
  ·rename_i he
   split at h
   ·rename_i hb
    simp only [Option.some.injEq, Prod.mk.injEq] at h
    obtain ⟨rfl, rfl, rfl⟩ := h
    simp only [Bool.and_eq_true, Nat.blt_eq, Nat.ble_eq] at hb
    obtain ⟨z, h1, _, h3, _⟩ := (hT.ty _ _ he).info
    exact ⟨(hT.ty _ _ ht).sl rfl, hb.1, hb.2, z, h1, h3⟩
   ·cases h
  ·cases h
 ·cases h
theorem dAp {P : Program} {T : Tab} (hT : TabOk P T) {t e : TypeId} {x y : Operand} {sz by_ id : Nat} {els news : List V} {v : V} {ty : TypeId} (ht : slB T t = some (e, sz, by_)) (hx : aJ F x = some (.sl id)) (ho : H.get id = .row e sz els) (hy : aJ F y = some v) (hs : wB H.get sz v = some news) (hb : els.length + news.length ≤ 1000000000) :
  ∀ S w ρ a, HRel S w ρ H.get → FRel S w ρ a n F → Does P S w ρ H.get a ty (.call { callee := .builtin .append, args := #[x, y], argTypes := #[t, t] }) (some (.sl H.nx)) ((ED.repl id (.row e sz (els ++ news))).app H.get H.nx) (ED.repl id (.row e sz (els ++ news))).tch := fun S w ρ a hr hF => by
 obtain ⟨h1, h2, h3, z, h4, h5⟩ := Ev hT ht
 obtain ⟨u, g1, g2⟩ := xX hr hF hy hs
 exact vN hr hF.fr H.get_free g1 g2 h1 h4 h5 h2 (al hF hx) ho (by simp only [maxLen]; omega) (Nat.le_trans (Nat.mul_le_mul hb h3) (by decide))
variable {L : List Nat} {m fuel c : Nat} {listed : Array Bool}
theorem gDs {id : Nat} {l : List Oper} (L : List Nat) (m sz : Nat) (hsz : l.length = sz) (hm : Tryz.prog.follows .mixedOrders = true) (hs : Region.noSelect l.toArray = true) (k : Go Tryz.prog K Q (.drw l.toArray L m sz (Array.replicate sz false)) s n F H) : Go Tryz.prog K Q (.code (.region id l.toArray true)) s n F H := yb L m sz hsz hm hs k
theorem gDr (is : List (Nat × Nat)) (hc : yz all m is listed = true) (hl : is.length = c) (hr : mm BZ all L is F H = some (F', H')) (k : Go Tryz.prog K Q (.drw all L m fuel (BN is listed)) s n F' H') : Go Tryz.prog K Q (.drw all L m (fuel + c) listed) s n F H := by
 subst hl; exact jY ac is fuel listed F H hc hr k
theorem gDe (hd : Region.ready .any all listed = []) (k : Go Tryz.prog K Q (.ex .normal) s n F H) : Go Tryz.prog K Q (.drw all L m fuel listed) s n F H := vA hd k
theorem aN {fid : FuncId} {args : List Operand} {tys : Array TypeId} {vs us : List V} {v : V} {d : Option Tmp} {ty : TypeId} {ps : String} {af : Array Edge} {g : Option (Nat × Bool)} (i : Nat) (hS : om Tryz.prog fid us v) (he : de Tryz.prog fid = true) (hi : all[i]? = some ⟨d, .call { callee := .value (.func fid), args := args.toArray, argTypes := tys }, ty, ps, af, g⟩) (hrd : Region.ready .any all listed = [i]) (hw : bf F all g = some true) (hv : gl F args = some vs) (hs : au vs us) (hL : cf H.get L = true) (h1 : F.puto d (some v) id = F1)
  (k : Go Tryz.prog K Q (.drw all L m fuel (listed.setIfInBounds i true)) s n F1 H) : Go Tryz.prog K Q (.drw all L m (fuel + 1) listed) s n F H := by
 rw [Fm.puto_eq] at h1; subst h1
 exact go_d1C he hrd hi rfl hw hv (gk hS hs L hL) (.inl rfl) fun v' H'' ⟨e1, e2⟩ => by subst e1 e2; exact k
theorem gDC {PL : List Nat} {fid : FuncId} {args : List Operand} {tys : Array TypeId} {vs us : List V} {H0 : Hp} {Post : V → Hp → Prop} {d : Option Tmp} {ty : TypeId} {ps : String} {af : Array Edge} {g : Option (Nat × Bool)} (i : Nat) (hS : cx PL Tryz.prog fid us H0 Post) (σ : List Nat) (he : de Tryz.prog fid = true) (hi : all[i]? = some ⟨d, .call { callee := .value (.func fid), args := args.toArray, argTypes := tys }, ty, ps, af, g⟩) (hrd : Region.ready .any all listed = [i]) (hw : bf F all g = some true) (hv : gl F args = some vs) (hs : au vs (renL σ us)) (hH : leH σ H H0.es) (hc : (dp σ && Nat.beq σ.length H0.nx && σ.all fun i => Nat.blt i H.nx) = true) (hL : (cf H.get L && L.all fun i => !σ.contains i) = true)
  (k : ∀ v H', Post v H' → Go Tryz.prog K Q (.drw all L m fuel (listed.setIfInBounds i true)) s n (F.seto d (some (v.ren (sgN PL H.nx H0.get H'.nx σ 0)))) (lO PL H σ H0 H')) : Go Tryz.prog K Q (.drw all L m (fuel + 1) listed) s n F H :=
 go_d1C he hrd hi rfl hw hv (pW hS σ hs hH hc L hL) (.inl rfl) fun v' H'' ⟨v, H', hP, e1, e2⟩ => by subst e1 e2; exact k v H' hP
end
end Go.Proofs.YthnohcipianijaaGreatDoor
namespace Go.Proofs.YthnohcipianijaaGreatDoor
open Go.RowKit Lx Sx
def ae (f : Func) : Code := match f.body with
 | some c => c
 | none => .skip
def cA : Code → Code
 | .seq x _ => x
 | c => c
def cB : Code → Code
 | .seq _ y => y
 | c => c
def cK : Code → Code
 | .block _ c => c
 | c => c
def cL : Code → Code
 | .loop c => c
 | c => c
def cT : Code → Code
 | .cond _ x _ => x
 | c => c
def cE : Code → Code
 | .cond _ _ y => y
 | c => c
theorem apM {α : Type} (f : α → V) (l : List α) (x : α) : List.map f l ++ [f x] = List.map f (l ++ [x]) := by simp
theorem tO (l : List Tree) : l.map pk = kidsV l := by
 induction l with
 | nil => rfl
 | cons t r ih => simp [kidsV, iy, ih]
theorem cI (x : Tree) : [pk x] = kidsV [x] := by simp [kidsV, iy]
theorem rc : ∀ (l : List Tree), kidsV l = l.map pk
 | [] => rfl
 | t :: r => by simp [kidsV, iy, rc r]
theorem mapget {α : Type} {f : α → V} {l : List α} {i : Nat} {x : α} (h : l[i]? = some x) : (List.map f l)[i]? = some (f x) := by simp [h]
theorem aI (l : List Tree) : (kidsV l).length = l.length := mw l
theorem aY {α : Type} (f : α → V) (l : List α) : (List.map f l).length = l.length := List.length_map ..
theorem aO {n : Nat} {m : Nat} (h : n = m) : V.int .i64 (n : Int) = .int .i64 (m : Int) := by rw [h]
theorem BJ : ∀ (l : List Tree) (i : Nat) (x : Tree), (kidsV l).set i (pk x) = kidsV (l.set i x)
 | [], i, x => rfl
 | t :: r, 0, x => by simp [kidsV, iy]
 | t :: r, i + 1, x => by simp [kidsV, BJ r i x]
theorem nd {α : Type} (f : α → V) (l : List α) (i : Nat) (x : α) : (List.map f l).set i (f x) = List.map f (l.set i x) := by simp
theorem Gh {α : Type} (f : α → V) (l : List α) (i : Nat) : (List.map f l).take i = List.map f (l.take i) := by simp
theorem GI {α : Type} (f : α → V) (l : List α) (i j : Nat) : ((List.map f l).drop i).take j = List.map f ((l.drop i).take j) := by simp [List.map_drop, List.map_take]
theorem eR (σ : List Nat) : ∀ (l : List Tree), renL σ (kidsV l) = kidsV l
 | [] => rfl
 | t :: r => by simp only [kidsV, renL, eR σ r]; rw [iy]; rfl
theorem am {α : Type} (σ : List Nat) (f : α → V) (hf : ∀ x, (f x).ren σ = f x) : ∀ (l : List α), renL σ (List.map f l) = List.map f l
 | [] => rfl
 | x :: r => by simp only [List.map_cons, renL, hf, am σ f hf r]
theorem aU (l : List Tree) : pureL (kidsV l) = true := sQ l
theorem gW {α : Type} (f : α → V) (hf : ∀ x, (f x).pure = true) : ∀ (l : List α), pureL (List.map f l) = true
 | [] => rfl
 | x :: r => by simp only [List.map_cons, pureL, hf, gW f hf r]
theorem cr {e : Bool} (h : (!e) = true) : e = false := by simpa using h
theorem ct {e : Bool} (h : (!e) = false) : e = true := by simpa using h
theorem cz {α : Type} [BEq α] [LawfulBEq α] {a b : α} (h : (a != b) = true) : a ≠ b := by simpa using h
theorem ch {a b : Nat} (h : decide ((a : Int) < (b : Int)) = true) : a < b := by have := of_decide_eq_true h; omega
theorem cg {a b : Nat} (h : decide ((a : Int) < (b : Int)) = false) : ¬ a < b := by have := of_decide_eq_false h; omega
theorem Ei {a b : Nat} (h : ((a : Int) != (b : Int)) = true) : a ≠ b := by have := cz h; omega
theorem FC {a b : Nat} (h : ((a : Int) != (b : Int)) = false) : a = b := by have := bN h; omega
theorem cO {n m : Int} (h : n = m) : V.int .i64 n = .int .i64 m := by rw [h]
abbrev InI (x : Int) : Prop := -9223372036854775808 ≤ x ∧ x ≤ 9223372036854775807
section
variable {P : Program} {T : Tab} {K : Ctx} {Q : Exit → Act → World → Prop} {p p' : EP} {s s' : List EI} {n : Nat} {F F' F1 F2 : Fm} {H H' H1 : Hp} {all : Array Oper} {rest : List Oper} {o : Oper} {L : List Nat} {m fuel : Nat} {listed : Array Bool}
theorem gS {v : V} (d : Nat) (v' : V) (hd : F.get d = some v) (hs : aw v v') (h1 : F.put d (some v') id = F1) (k : Go P K Q p s n F1 H) : Go P K Q p s n F H := by
 rw [Fm.put_eq] at h1; subst h1
 exact mQ hd hs k
theorem Cd {h : Nat → Ob} {id : Nat} {o : Ob} (ho : h id = o) : bV h id o = h := by
 funext i
 by_cases hi : i = id
 ·subst hi; rw [bj, ho]
 ·rw [bP _ _ hi]
theorem gHR {e : TypeId} {sz : Nat} {els : List V} (id : Nat) (els' : List V) (ho : H.get id = .row e sz els) (he : els = els') (h2 : H.ap (.set id (.row e sz els')) _root_.id = H1) (k : Go P K Q p s n F H1) : Go P K Q p s n F H := by
 subst he
 rw [Hp.ap_eq] at h2; subst h2
 have hg : (H.app (.set id (.row e sz els))).get = H.get := by
  rw [Hp.get_app (by exact ⟨by rw [ho]; simp, by rw [ho]; simp⟩)]
  exact Cd ho
 intro S w ρ a hr hi hF
 exact k S w ρ a (by rw [id_eq, hg]; exact hr) (by rw [id_eq, hg]; exact hi) hF
theorem CRel.sub {S : Nat → Prop} {w : World} {ρ : Nat → Option Value} {sz : Nat} : ∀ {vs us : List V} {xs : List Value}, au vs us → CRel S w ρ sz vs xs → CRel S w ρ sz us xs
 | [], us, xs, h, hl => by simp only [au] at h; subst h; exact hl
 | v :: r, us, xs, h, hl => by
  simp only [au] at h
  obtain ⟨u, q, rfl, h1, h2⟩ := h
  simp only [CRel] at hl ⊢
  obtain ⟨x, ys, rfl, h3, h4, h5⟩ := hl
  exact ⟨x, ys, rfl, h3, h1 _ _ _ _ h4, h5.sub h2⟩
theorem au.len : ∀ {vs us : List V}, au vs us → us.length = vs.length
 | [], us, h => by simp only [au] at h; subst h; rfl
 | v :: r, us, h => by
  simp only [au] at h
  obtain ⟨u, q, rfl, _, h2⟩ := h
  simp [h2.len]
theorem au.rep {a b : V} (h : aw a b) : ∀ n, au (List.replicate n a) (List.replicate n b)
 | 0 => au.nil
 | n + 1 => au.cons h (au.rep h n)
theorem gHW {e : TypeId} {sz : Nat} {els : List V} (id : Nat) (els' : List V) (hp : p.still = true) (ho : H.get id = .row e sz els) (he : au els els') (h2 : H.ap (.set id (.row e sz els')) _root_.id = H1) (k : Go P K Q p s n F H1) : Go P K Q p s n F H := by
 rw [Hp.ap_eq] at h2; subst h2
 have hg : (H.app (.set id (.row e sz els'))).get = bV H.get id (.row e sz els') := Hp.get_app (by exact ⟨by rw [ho]; simp, by rw [ho]; simp⟩)
 intro S w ρ a hr hi hF
 have how : ∀ i b, own ρ i (bV H.get id (.row e sz els') i) b ↔ own ρ i (H.get i) b := fun i b => by
  by_cases hi : i = id
  ·subst hi; rw [bj, ho]; rfl
  ·rw [bP _ _ hi]
 refine k S w ρ a ?_ ?_ hF
 ·rw [id_eq, hg]
  refine ⟨fun i => ?_, fun i b hb => hr.sep i b ((how i b).1 hb), fun i j b h1 h2 => hr.dis i j b ((how i b).1 h1) ((how j b).1 h2), hr.slt⟩
  by_cases hii : i = id
  ·subst hii
   rw [bj]
   obtain ⟨v, xs, h1, h2, h3⟩ := hW hr ho
   exact ⟨v, xs, h1, by rw [he.len]; exact h2, h3.sub he⟩
  ·rw [bP _ _ hii]; exact hr.ob i
 ·rw [id_eq, hg]
  exact ⟨hi.chg, hi.s0, hi.s1, fun i b hb => hi.ow i b ((how i b).1 hb), hi.pin⟩
def uW (PL : List Nat) : List (Nat × Ob) → List Nat → Bool
 | [], _ => true
 | (i, o) :: r, pv => (!iq PL i o || pv.contains i) && uW PL r pv
theorem vd {PL : List Nat} : ∀ {es : List (Nat × Ob)} {pv : List Nat}, uW PL es pv = true → ∀ i, iq PL i (ar es i) = true → i ∈ pv
 | [], pv, h, i, hi => by simp [ar, iq] at hi
 | (j, o) :: r, pv, h, i, hi => by
  simp only [uW, Bool.and_eq_true, Bool.or_eq_true, Bool.not_eq_true'] at h
  simp only [ar] at hi
  split at hi
  ·rename_i e
   have := Nat.eq_of_beq_eq_true e
   subst this
   rcases h.1 with h1 | h1
   ·rw [h1] at hi; cases hi
   ·simpa using h1
  ·exact vd h.2 i hi
theorem az {PL : List Nat} {nx : Nat} {es : List (Nat × Ob)} {pv : List Nat} (h : uW PL es pv = true) : ∀ i, iq PL i ((⟨nx, es⟩ : Hp).get i) = true → i ∈ pv := fun i hi => by
 unfold Hp.get at hi
 split at hi
 ·exact vd h i hi
 ·simp [iq] at hi
def mh (ids : List Nat) : List (Nat × Ob) → List (Nat × Ob)
 | [] => []
 |(j, o) :: r => match ids.contains j with
  | true => mh ids r
  | false => (j, o) :: mh ids r
theorem sD {ids : List Nat} {i : Nat} : ∀ {l : List (Nat × Ob)}, ar (mh ids l) i = ar l i ∨ ar (mh ids l) i = .gone
 | [] => .inl rfl
 | (j, o) :: r => by
  have ih := sD (ids := ids) (i := i) (l := r)
  simp only [mh]
  split
  ·rename_i hc
   by_cases hj : j = i
   ·subst hj
    refine .inr ?_
    have : ∀ l : List (Nat × Ob), ar (mh ids l) j = .gone := fun l => by
     induction l with
     | nil => rfl
     | cons p q ihq =>
      obtain ⟨k, o'⟩ := p
      simp only [mh]
      split
      ·exact ihq
      ·rename_i hk
       have hne : k ≠ j := fun e => by subst e; rw [hc] at hk; cases hk
       simp only [ar, nbF hne]
       exact ihq
    exact this r
   ·simp only [ar, nbF hj]; exact ih
  ·simp only [ar]
   split
   ·exact .inl rfl
   ·exact ih
theorem go_endD {fn : Func} {Post : V → Hp → Prop} {rs : List ResultVar} {vs : List V} {e : Exit} (ids : List Nat) (hT : TabOk P T) (hrs : fn.results = rs.toArray) (hv : pq T H.get F rs = some vs) (hP : Post (lT vs) ⟨H.nx, mh ids H.es⟩) (he : e = .ret ∨ e = .normal := by first | exact .inl rfl | exact .inr rfl) : Go P K (bodyPost P fn (SP K Post)) (.ex e) [] n F H := fun S w ρ a hr hi hF => by
 have hh : ∀ i, (⟨H.nx, mh ids H.es⟩ : Hp).get i = H.get i ∨ (⟨H.nx, mh ids H.es⟩ : Hp).get i = .gone := fun i => by
  unfold Hp.get
  cases hb : Nat.blt i H.nx
  ·exact .inl rfl
  ·exact sD
 exact ret_go hT he hrs hr hF hv fun x hx => ⟨x, S, ρ, _, _, rfl, hP, hr.drop hh, hi.drop hh, hx⟩
theorem gJ (k : Go P K Q p s n F' H') (σ pv : List Nat) (hp : p.still = true) (hpin : aq K pv) (hF : leF σ F F') (hH : leH σ H H'.es) (hc : (dp σ && Nat.ble σ.length H'.nx && yY σ pv && Nat.ble F'.length n) = true) : Go P K Q p s n F H := go_sub σ pv hp hpin hF hH hc k
theorem tw {S : Nat → Prop} {w : World} {ρ : Nat → Option Value} {h : Nat → Ob} {nid : Nat} (e : TypeId) (sz : Nat) (hr : HRel S w ρ h) (hf : h nid = .free) : Eff S w w ρ (dl ρ nid (.slice none 0 0)) h (bV h nid (.row e sz [])) (fun _ => False) :=
 eff_new hr hf (Chg.refl _ _) ⟨_, [], aZ _ _ _, ⟨by simp, .inl ⟨rfl, rfl⟩⟩, by simp [CRel]⟩ (fun b hb => by
  obtain ⟨v, h1, h2⟩ := hb
  rw [aZ] at h1
  cases h1; cases h2)
theorem gNS (d : Nat) (e : TypeId) (sz : Nat) (hp : p.still = true) (hd : F.get d = some .nils) (h1 : F.put d (some (.sl H.nx)) id = F1) (h2 : H.ap (.new (.row e sz [])) id = H1) (k : Go P K Q p s n F1 H1) : Go P K Q p s n F H := by
 rw [Fm.put_eq] at h1; rw [Hp.ap_eq] at h2; subst h1 h2
 intro S w ρ a hr hi hF
 have he := tw e sz hr H.get_free
 have hg : (H.app (.new (.row e sz []))).get = bV H.get H.nx (.row e sz []) := Hp.get_app trivial
 have := k S w (dl ρ H.nx (.slice none 0 0)) a (by rw [id_eq, hg]; exact he.hr) (by rw [id_eq, hg]; exact hi.eff he) (by
  have hu := hF.up he.up
  refine ⟨hu.size, hu.defers, by simpa using hu.len, fun i u hiu => ?_⟩
  rw [id_eq, Fm.get_eq, List.getElem?_set] at hiu
  split at hiu
  ·rename_i e1; subst e1
   split at hiu
   ·simp only [Option.bind_some, id_eq, Option.some.injEq] at hiu
    subst hiu
    obtain ⟨x, h3, h4⟩ := hF.get d _ hd
    simp only [VRel] at h4; subst h4
    exact ⟨_, h3, by simp only [VRel]; exact ⟨aZ _ _ _, rfl⟩⟩
   ·cases hiu
  ·exact hu.get i u (by rw [Fm.get_eq]; exact hiu))
 cases p with
 | drw all L m left listed => cases hp
 | code c => exact this
 | ops all rest => exact this
 | ex e => exact this
theorem gNC {t : TypeId} {cs : List V} (id o : Nat) (e : TypeId) (sz : Nat) (hp : p.still = true) (ho : H.get id = .var t cs) (hc : cs[o]? = some .nils) (h2 : (H.ap (.new (.row e sz [])) fun H1 => H1.ap (.set id (.var t (cs.set o (.sl H.nx)))) _root_.id) = H1) (k : Go P K Q p s n F H1) : Go P K Q p s n F H := by
 rw [Hp.ap_eq, Hp.ap_eq] at h2; subst h2
 intro S w ρ a hr hi hF
 have he := tw e sz hr H.get_free
 have hg : (H.app (.new (.row e sz []))).get = bV H.get H.nx (.row e sz []) := Hp.get_app trivial
 have hne : id ≠ H.nx := fun e1 => by subst e1; rw [H.get_free] at ho; cases ho
 have hg1 : (H.app (.new (.row e sz []))).get id = .var t cs := by rw [hg, bP _ _ hne, ho]
 have hg2 : ((H.app (.new (.row e sz []))).app (.set id (.var t (cs.set o (.sl H.nx))))).get = bV (H.app (.new (.row e sz []))).get id (.var t (cs.set o (.sl H.nx))) := Hp.get_app (by exact ⟨by rw [hg1]; simp, by rw [hg1]; simp⟩)
 have h1 : HRel S w (dl ρ H.nx (.slice none 0 0)) (H.app (.new (.row e sz []))).get := by rw [hg]; exact he.hr
 have h2 : Inv K S w (dl ρ H.nx (.slice none 0 0)) (H.app (.new (.row e sz []))).get := by rw [hg]; exact hi.eff he
 have how : ∀ i b, own (dl ρ H.nx (.slice none 0 0)) i (bV (H.app (.new (.row e sz []))).get id (.var t (cs.set o (.sl H.nx))) i) b ↔ own (dl ρ H.nx (.slice none 0 0)) i ((H.app (.new (.row e sz []))).get i) b := fun i b => by
  by_cases hi : i = id
  ·subst hi; rw [bj, hg1]; rfl
  ·rw [bP _ _ hi]
 have := k S w (dl ρ H.nx (.slice none 0 0)) a (by
  rw [id_eq, hg2]
  refine ⟨fun i => ?_, fun i b hb => h1.sep i b ((how i b).1 hb), fun i j b q1 q2 => h1.dis i j b ((how i b).1 q1) ((how j b).1 q2), h1.slt⟩
  by_cases hii : i = id
  ·subst hii
   rw [bj]
   obtain ⟨b, xs, q1, q2, q3⟩ := ni h1 hg1
   obtain ⟨x, q4, q5⟩ := q3.get hc
   simp only [VRel] at q5; subst q5
   refine ⟨b, xs, q1, q2, ?_⟩
   have := q3.set (i := o) (v := .sl H.nx) (x := .slice none 0 0) (by simp only [VRel]; exact ⟨aZ _ _ _, rfl⟩)
   have e2 : xs.set o (.slice none 0 0) = xs := by
    obtain ⟨hl, q6⟩ := List.getElem?_eq_some_iff.1 q4
    rw [← q6]; exact List.set_getElem_self ..
   rw [e2] at this; exact this
  ·rw [bP _ _ hii]; exact h1.ob i) (by
  rw [id_eq, hg2]
  exact ⟨h2.chg, h2.s0, h2.s1, fun i b hb => h2.ow i b ((how i b).1 hb), h2.pin⟩) (hF.up he.up)
 cases p with
 | drw all L m left listed => cases hp
 | code c => exact this
 | ops all rest => exact this
 | ex e => exact this
theorem gLB {sz : Nat} {els : List V} {N : Nat} (d : Nat) (hd : F.get d = some (.row sz els)) (hn : els.length = N) (k : N ≤ 9223372036854775807 → Go P K Q p s n F H) : Go P K Q p s n F H := fun S w ρ a hr hi hF => by
 obtain ⟨x, h1, h2⟩ := hF.get d _ hd
 simp only [VRel] at h2
 obtain ⟨A, c, xs, rfl, h3, h4, _⟩ := h2
 exact k (by simp only [maxLen] at h4; omega) S w ρ a hr hi hF
theorem gLO {e : TypeId} {sz : Nat} {els : List V} {N : Nat} (id : Nat) (ho : H.get id = .row e sz els) (hn : els.length = N) (k : N ≤ 9223372036854775807 → Go P K Q p s n F H) : Go P K Q p s n F H := fun S w ρ a hr hi hF => by
 obtain ⟨v, xs, h1, h2, h3⟩ := hW hr ho
 refine k ?_ S w ρ a hr hi hF
 rcases h2.2 with ⟨_, h⟩ | ⟨g, cap, cur, _, _, _, h4, h5, _⟩
 ·omega
 ·simp only [maxLen] at h5; omega
theorem GT (hT : TabOk P T) {t : TypeId} (ht : (match T.ty t with | some ⟨_, _, _, .str⟩ => true | _ => false) = true) : P.underlying t = some .string := by
 split at ht
 ·rename_i h; exact (hT.ty _ _ h).str rfl
 ·cases ht
def po (F : Fm) (y : Option Operand) (i : Nat) (dflt : Nat) : Prop := (y = none ∧ i = dflt) ∨ ∃ z, y = some z ∧ aJ F z = some (.int .i64 (i : Int))
theorem vE {i : Nat} : po F none i i := .inl ⟨rfl, rfl⟩
theorem se {z : Operand} {i d : Nat} (h : aJ F z = some (.int .i64 (i : Int))) : po F (some z) i d := .inr ⟨z, rfl, h⟩
theorem tl {S : Nat → Prop} {w : World} {ρ : Nat → Option Value} {a : Act} (hF : FRel S w ρ a n F) {y : Option Operand} {i d : Nat} (h : po F y i d) : (y = none ∧ i = d) ∨ ∃ z, y = some z ∧ Opd S w ρ a z (.int .i64 (i : Int)) := h.imp _root_.id fun ⟨z, e, h⟩ => ⟨z, e, al hF h⟩
theorem ySS (hT : TabOk P T) {t : TypeId} {x : Operand} {lo hi : Option Operand} {l r : List UInt8} {i j : Nat} {ty : TypeId} (ht : (match T.ty t with | some ⟨_, _, _, .str⟩ => true | _ => false) = true) (hx : aJ F x = some (.str l)) (hlo : po F lo i 0) (hhi : po F hi j l.length) (hij : i ≤ j) (hj : j ≤ l.length) (he : (l.drop i).take (j - i) = r) : ∀ S w ρ a, HRel S w ρ H.get → FRel S w ρ a n F → Yld P S w ρ a ty (.slice t x lo hi none) (.str r) := fun S w ρ a hr hF => by
 subst he
 exact CA hF.fr (GT hT ht) (al hF hx) (tl hF hlo) (tl hF hhi) hij hj
theorem ySR (hT : TabOk P T) {t e : TypeId} {x : Operand} {lo hi : Option Operand} {sz i j : Nat} {els els' : List V} {ty : TypeId} (ht : slT T t = some (e, sz)) (hx : aJ F x = some (.row sz els)) (hlo : po F lo i 0) (hhi : po F hi j els.length) (hij : i ≤ j) (hj : j ≤ els.length) (he : (els.drop i).take (j - i) = els') : ∀ S w ρ a, HRel S w ρ H.get → FRel S w ρ a n F → Yld P S w ρ a ty (.slice t x lo hi none) (.row sz els') := fun S w ρ a hr hF => by
 subst he
 exact CI hF.fr (lm hT ht).1 (lm hT ht).2 (al hF hx) (tl hF hlo) (tl hF hhi) hij hj
theorem Bo {t e : TypeId} {x : Operand} {lo hi : Option Operand} {sz i j N : Nat} {els els' : List V} {ty : TypeId} (hn : els.length = N) (hT : TabOk P T) (ht : slT T t = some (e, sz)) (hx : aJ F x = some (.row sz els)) (hlo : po F lo i 0) (hhi : po F hi j N) (hij : i ≤ j) (hj : j ≤ N) (he : (els.drop i).take (j - i) = els') : ∀ S w ρ a, HRel S w ρ H.get → FRel S w ρ a n F → Yld P S w ρ a ty (.slice t x lo hi none) (.row sz els') := by
 subst hn; exact ySR hT ht hx hlo hhi hij hj he
theorem vV {α : Type} (l : List α) (i : Nat) : (l.drop i).take (l.length - i) = l.drop i := by
 rw [List.take_of_length_le (by simp)]
theorem sq {α : Type} (l : List α) (j : Nat) : (l.drop 0).take (j - 0) = l.take j := by simp
theorem aG {t e : TypeId} {x y : Operand} {sz i : Nat} {els cs : List V} {v : V} {ty : TypeId} (hi : els[i]? = some v) (hT : TabOk P T) (ht : slT T t = some (e, sz)) (hx : aJ F x = some (.row sz els)) (hy : aJ F y = some (.int .i64 (i : Int))) (hc : v.cells = cs) : ∀ S w ρ a, HRel S w ρ H.get → FRel S w ρ a n F → Yld P S w ρ a ty (.indexAddr t x y) (.box cs 0) := by
 subst hc; exact yIR hT ht hx hy hi
theorem CQ {f : Nat → Option Value} {a : Act} {w : World} {ty t u : TypeId} {x y : Operand} {m l : Int} (h : Fr a n f) (hx : aF f x = some (.int .i64 m)) (hy : aF f y = some (.int .i64 l)) (hl : l ≠ 0) : Runs P a ty (.binOp .rem t x y u) w (.value (.int .i64 (Int.tmod m l))) w := fun _ _ _ _ => by
 simp only [execOp, h.eval hx, h.eval hy]; simp [go_sem, eqGuard, Op.intDiv, hl]
theorem De {f : Nat → Option Value} {a : Act} {w : World} {ty t u : TypeId} {x y : Operand} {m l : List UInt8} (h : Fr a n f) (hx : aF f x = some (.string ⟨m.toArray⟩)) (hy : aF f y = some (.string ⟨l.toArray⟩)) (hb : m.length + l.length ≤ 9223372036854775807) : Runs P a ty (.binOp .add t x y u) w (.value (.string ⟨(m ++ l).toArray⟩)) w := fun _ _ _ _ => by
 simp only [execOp, h.eval hx, h.eval hy]; simp [go_sem, eqGuard, show ¬ 9223372036854775807 < m.length + l.length by omega]; rfl
theorem sP {w : World} (d : Nat) {t e : TypeId} (A : Option Addr) (k c : Nat) (ht : P.underlying t = some (.slice e)) : (Op.equalIn (d + 1) t (.slice A k c) (.slice none 0 0)).run P w = .ok A.isNone w := by
 cases A <;> simp [Op.equalIn, run_underlying ht]
theorem uL {w : World} {t e : TypeId} (A : Option Addr) (k c : Nat) (ht : P.underlying t = some (.slice e)) : (Op.equal t (.slice A k c) (.slice none 0 0)).run P w = .ok A.isNone w := sP 9999 A k c ht
theorem Ee {f : Nat → Option Value} {a : Act} {w : World} {ty t u e : TypeId} {x : Operand} {A : Option Addr} {k c : Nat} (h : Fr a n f) (ht : P.underlying t = some (.slice e)) (hx : aF f x = some (.slice A k c)) : Runs P a ty (.binOp .eql t x (.const (.slice none 0 0)) u) w (.value (.bool A.isNone)) w := fun _ _ _ _ => by
 have hb : (binOp .eql t (.slice A k c) (.slice none 0 0)).run P w = .ok (.bool A.isNone) w := by simp only [binOp]; simp [uL A k c ht]
 simp only [execOp, h.eval hx]; simp [go_sem, eqGuard, hb]
def Bl (h : Nat → Ob) : V → Bool
 | .row _ _ => true
 | .sl i => match h i with | .row _ _ _ => true | _ => false
 | .nils => true
 | _ => false
def Bm (h : Nat → Ob) : V → Nat
 | .row _ els => els.length
 | .sl i => match h i with | .row _ _ els => els.length | _ => 0
 | _ => 0
theorem Dp {S : Nat → Prop} {w : World} {ρ : Nat → Option Value} {h : Nat → Ob} {v : V} {x : Value} (hr : HRel S w ρ h) (hs : Bl h v = true) (hx : VRel S w ρ v x) : ∃ A k c, x = .slice A k c ∧ (A.isNone = true → Bm h v = 0) := by
 unfold Bl at hs
 split at hs
 ·simp only [VRel] at hx
  obtain ⟨A, c, xs, rfl, _, _, _, h6⟩ := hx
  refine ⟨_, _, _, rfl, fun hA => ?_⟩
  refine Nat.eq_zero_of_not_pos fun h0 => ?_
  obtain ⟨b, off, rfl, _⟩ := h6.2 h0
  cases hA
 ·split at hs
  ·rename_i ho
   obtain ⟨v, xs, h1, h2, _⟩ := hW hr ho
   simp only [VRel] at hx
   rw [h1] at hx
   obtain ⟨e, _⟩ := hx
   injection e with e; subst e
   rcases h2.2 with ⟨rfl, h3⟩ | ⟨_, _, _, rfl, _⟩
   ·exact ⟨_, _, _, rfl, fun _ => by simp only [Bm, ho]; exact h3⟩
   ·exact ⟨_, _, _, rfl, fun hA => by cases hA⟩
  ·cases hs
 ·simp only [VRel] at hx; subst hx; exact ⟨_, _, _, rfl, fun _ => rfl⟩
 ·cases hs
theorem Gj {t u ty e : TypeId} {sz N : Nat} {x : Operand} {v : V} {d : Option Tmp} {ps : String} {af : Array Edge} {g : Option (Nat × Bool)} (hT : TabOk P T) (hw : bf F all g = some true) (ht : slT T t = some (e, sz)) (hx : aJ F x = some v) (hv : Bl H.get v = true) (hN : Bm H.get v = N) (k : ∀ b : Bool, (b = true → N = 0) → Go P K Q (.ops all rest) s n (F.seto d (some (.bool b))) H) : Go P K Q (.ops all (⟨d, .binOp .eql t x (.const (.slice none 0 0)) u, ty, ps, af, g⟩ :: rest)) s n F H := fun S w ρ a hr hi hF => by
 show wpList P all (cJ P Q s) (⟨d, .binOp .eql t x (.const (.slice none 0 0)) u, ty, ps, af, g⟩ :: rest) a w
 unfold wpList
 rw [if_pos (bF hF hw)]
 refine .inl ?_
 obtain ⟨y, h1, h2⟩ := al hF hx
 obtain ⟨A, kk, c, rfl, hl⟩ := Dp hr hv h2
 have := Ee (P := P) (w := w) (ty := ty) (u := u) hF.fr (lm hT ht).1 h1
 unfold Oper.wp
 rw [this d ps af g]
 exact k A.isNone (fun hb => by subst hN; exact hl (by simpa using hb)) S w ρ _ hr hi (bO hF d (by simp only [VRel]))
theorem GS {t u ty : TypeId} {x y : Operand} {m l : Int} (hx : aJ F x = some (.int .i64 m)) (hy : aJ F y = some (.int .i64 l)) (hl : l ≠ 0) : ∀ S w ρ a, HRel S w ρ H.get → FRel S w ρ a n F → Yld P S w ρ a ty (.binOp .rem t x y u) (.int .i64 (Int.tmod m l)) := fun S w ρ a hr hF => ⟨_, by simp only [VRel], fun w' _ => CQ hF.fr (aX (al hF hx)) (aX (al hF hy)) hl⟩
theorem oy {t u ty : TypeId} {x y : Operand} {m l : List UInt8} (hx : aJ F x = some (.str m)) (hy : aJ F y = some (.str l)) (hb : m.length + l.length ≤ 9223372036854775807) : ∀ S w ρ a, HRel S w ρ H.get → FRel S w ρ a n F → Yld P S w ρ a ty (.binOp .add t x y u) (.str (m ++ l)) := fun S w ρ a hr hF => ⟨_, by simp only [VRel], fun w' _ => De hF.fr (gz (al hF hx)) (gz (al hF hy)) hb⟩
theorem ra {PL : List Nat} {fid : FuncId} {vs us : List V} {v : V} {H0 G : Hp} (hS : cx PL P fid us H0 (fun u G' => u = v ∧ G' = G)) (σ : List Nat) (hv : au vs (renL σ us)) (hH : leH σ H H0.es) (hc : (dp σ && Nat.beq σ.length H0.nx && σ.all fun i => Nat.blt i H.nx) = true) (L : List Nat) (hL : (cf H.get L && L.all fun i => !σ.contains i) = true) :
  CallR P K fid vs H L (fun v' H'' => v' = v.ren (sgN PL H.nx H0.get G.nx σ 0) ∧ H'' = lO PL H σ H0 G) := fun S w ρ xs hr hi hx =>
 (pW hS σ hv hH hc L hL S w ρ xs hr hi hx).mono fun e w' hh => by
  obtain ⟨x, S', ρ', v', H', h1, ⟨u, G', ⟨q1, q2⟩, e1, e2⟩, h3⟩ := hh
  subst q1 q2
  exact ⟨x, S', ρ', v', H', h1, ⟨e1, e2⟩, h3⟩
theorem ur {o : Oper} {L : List Nat} {ok : Bool} {v : Option V} (ed : ED) (hd : ∀ S w ρ a, HRel S w ρ H.get → FRel S w ρ a n F → Does P S w ρ H.get a o.type o.op v (ed.app H.get H.nx) ed.tch) (hl : ed.ok H.get) (hc : ((cf H.get L && ed.clear L) || ok) = true) : jQ P K o L ok n F H (v.getD (.tup [])) (H.app ed) := fun S w ρ a hr hi hF Q' K2 k => by
 obtain ⟨nx, w', ρ', h1, h2, h3⟩ := hd S w ρ a hr hF
 have hr' := h2.hr
 have hi' := hi.eff h2
 rw [← Hp.get_app hl] at hr' hi'
 have hLs : Ls ρ L w w' ∨ ok = true := (rq hc).imp (fun h => by
  simp only [Bool.and_eq_true] at h
  exact wm hr h2 h.1 h.2) _root_.id
 have kk := fun x hx => k x S w' ρ' hr' hi' h2.up (nm hr h2) hLs hx
 obtain ⟨d, op, ty, ps, af, g⟩ := o
 unfold Oper.wp
 rw [h1 d ps af g]
 cases v with
 | none =>
  subst h3
  exact kk undef pD
 | some v =>
  obtain ⟨x, rfl, h4⟩ := h3
  exact kk x h4
theorem LRel.sub {S : Nat → Prop} {w : World} {ρ : Nat → Option Value} {vs : List V} {xs : List Value} (h : LRel S w ρ vs xs) (i j : Nat) : LRel S w ρ ((vs.drop i).take j) ((xs.drop i).take j) := (h.drop i).take j
theorem AP {fid : FuncId} {vs : List V} {L : List Nat} {Post : V → Hp → Prop} (i : Nat) (e : TypeId) (sz : Nat) (hv : vs[i]? = some .nils) (k : CallR P K fid (vs.set i (.sl H.nx)) (H.app (.new (.row e sz []))) L Post) : CallR P K fid vs H L Post := fun S w ρ xs hr hi hx => by
 have he := tw e sz hr H.get_free
 have hg : (H.app (.new (.row e sz []))).get = bV H.get H.nx (.row e sz []) := Hp.get_app trivial
 have hx' : LRel S w (dl ρ H.nx (.slice none 0 0)) (vs.set i (.sl H.nx)) xs := by
  obtain ⟨x, h1, h2⟩ := hx.get hv
  simp only [VRel] at h2; subst h2
  have := (hx.up he.up).set (i := i) (v := .sl H.nx) (x := .slice none 0 0) (by simp only [VRel]; exact ⟨aZ _ _ _, rfl⟩)
  have e2 : xs.set i (.slice none 0 0) = xs := by
   obtain ⟨hl, q6⟩ := List.getElem?_eq_some_iff.1 h1
   rw [← q6]; exact List.set_getElem_self ..
  rw [e2] at this; exact this
 refine (k S w (dl ρ H.nx (.slice none 0 0)) xs (by rw [hg]; exact he.hr) (by rw [hg]; exact hi.eff he) hx').mono fun e w' hh => ?_
 obtain ⟨x, S', ρ', v, H', h1, h2, h3, h4, h5, h6, h7⟩ := hh
 exact ⟨x, S', ρ', v, H', h1, h2, h3, h4, ⟨h5.s, h5.blk, fun i y h => h5.r i y (he.up.r i y h)⟩, h6, fun id hid y b hy hb => h7 id hid y b (he.up.r _ _ hy) hb⟩
theorem yMF {fid : FuncId} {caps : List Operand} {vs : List V} {ty : TypeId} (hv : gl F caps = some vs) : ∀ S w ρ a, HRel S w ρ H.get → FRel S w ρ a n F → Yld P S w ρ a ty (.makeFunc (.func fid) #[] caps.toArray) (.clo fid vs) := fun S w ρ a hr hF => by
 obtain ⟨xs, h1, h2⟩ := lJ hF hv
 refine ⟨.func (.func fid) #[] xs.toArray, by simp only [VRel]; exact ⟨xs, rfl, h2⟩, fun w' _ => fun _ _ _ _ => ?_⟩
 have e : caps.toArray.map a.eval = xs.toArray := by rw [← hF.fr.vals h1]; simp
 simp only [execOp, e]
 simp [Instr.makeFunc]
theorem GV {fid : FuncId} {t : Tmp} {args : List Operand} {tys : Array TypeId} {vs caps us : List V} {v : V} {d : Option Tmp} {ty : TypeId} {ps : String} {af : Array Edge} {g : Option (Nat × Bool)} (hS : om P fid us v) (he : de P fid = true) (hw : bf F all g = some true) (hf : aJ F (.tmp t) = some (.clo fid caps)) (hv : gl F args = some vs) (hs : au (vs ++ caps) us) (h1 : F.puto d (some v) id = F1)
  (k : Go P K Q (.ops all rest) s n F1 H) : Go P K Q (.ops all (⟨d, .call { callee := .value (.tmp t), args := args.toArray, argTypes := tys }, ty, ps, af, g⟩ :: rest)) s n F H := fun S w ρ a hr hi hF => by
 rw [Fm.puto_eq] at h1; subst h1
 show wpList P all (cJ P Q s) (⟨d, .call { callee := .value (.tmp t), args := args.toArray, argTypes := tys }, ty, ps, af, g⟩ :: rest) a w
 unfold wpList
 rw [if_pos (bF hF hw)]
 refine .inl ?_
 obtain ⟨xs, h1, h2⟩ := lJ hF hv
 obtain ⟨y, h3, h4⟩ := al hF hf
 simp only [VRel] at h4
 obtain ⟨ys, rfl, h5⟩ := h4
 have hc := gk (K := K) (H := H) hS hs [] rfl S w ρ (xs ++ ys) hr hi (h2.append h5)
 have hx : (execOp a.eval ⟨d, .call { callee := .value (.tmp t), args := args.toArray, argTypes := tys }, ty, ps, af, g⟩).run P w = .ok (.enter fid (xs ++ ys).toArray) w := by
  have e : args.toArray.map a.eval = xs.toArray := by rw [← hF.fr.vals h1]; simp
  have e2 : a.eval (.tmp t) = .func (.func fid) #[] ys.toArray := hF.fr.eval h3
  simp only [execOp, resolve, e, e2]
  simp [Deferred.ofValue, invoke, kG he]
 unfold Oper.wp
 rw [hx, Oper.upon_enter]
 refine hc.mono fun e w1 hR => ?_
 obtain ⟨x, S', ρ', v', H', rfl, ⟨rfl, rfl⟩, hr', hi', hu, hvr, _⟩ := hR
 exact k S' w1 ρ' _ hr' hi' (bO (hF.up hu) d hvr)
theorem gYd {v : V} (i : Nat) (hi : all[i]? = some o) (hc : (!Nat.beq i m && Region.free .any all listed i && (Region.ready .any all listed).contains i) = true) (hy : ∀ S w ρ a, HRel S w ρ H.get → FRel S w ρ a n F → Yld P S w ρ a o.type o.op v) (hw : bf F all o.guard = some true) (h1 : F.puto o.dst (some v) id = F1) (k : Go P K Q (.drw all L m fuel (listed.setIfInBounds i true)) s n F1 H) : Go P K Q (.drw all L m (fuel + 1) listed) s n F H := by
 rw [Fm.puto_eq] at h1; subst h1
 simp only [Bool.and_eq_true, Bool.not_eq_true'] at hc
 exact CK hc.1.1 hi hc.1.2 hc.2 hw hy k
theorem ev {v : V} (i : Nat) (hi : all[i]? = some o) (hrd : Region.ready .any all listed = [i]) (hy : ∀ S w ρ a, HRel S w ρ H.get → FRel S w ρ a n F → Yld P S w ρ a o.type o.op v) (hw : bf F all o.guard = some true) (h1 : F.puto o.dst (some v) id = F1) (k : Go P K Q (.drw all L m fuel (listed.setIfInBounds i true)) s n F1 H) : Go P K Q (.drw all L m (fuel + 1) listed) s n F H := by
 rw [Fm.puto_eq] at h1; subst h1
 exact AL hrd hi hw hy k
theorem gDo {v : Option V} (ed : ED) (hd : ∀ S w ρ a, HRel S w ρ H.get → FRel S w ρ a n F → Does P S w ρ H.get a o.type o.op v (ed.app H.get H.nx) ed.tch) (hl : ed.ok H.get) (hw : bf F all o.guard = some true) (h1 : F.puto o.dst (vy v) id = F1) (h2 : H.ap ed id = H1) (k : Go P K Q (.ops all rest) s n F1 H1) : Go P K Q (.ops all (o :: rest)) s n F H := by
 rw [Fm.puto_eq] at h1; rw [Hp.ap_eq] at h2; subst h1 h2
 exact go_opD hw hd hl k
theorem bW {v : Option V} (i : Nat) (ed : ED) (hi : all[i]? = some o) (hrd : Region.ready .any all listed = [i]) (hd : ∀ S w ρ a, HRel S w ρ H.get → FRel S w ρ a n F → Does P S w ρ H.get a o.type o.op v (ed.app H.get H.nx) ed.tch) (hl : ed.ok H.get) (hw : bf F all o.guard = some true) (hc : ((cf H.get L && ed.clear L) || (listed.setIfInBounds i true).getD m false) = true) (h1 : F.puto o.dst (vy v) id = F1) (h2 : H.ap ed id = H1) (k : Go P K Q (.drw all L m fuel (listed.setIfInBounds i true)) s n F1 H1) : Go P K Q (.drw all L m (fuel + 1) listed) s n F H := by
 rw [Fm.puto_eq] at h1; rw [Hp.ap_eq] at h2; subst h1 h2
 exact vO hrd hi hw hd hl hc k
theorem bu {t e : TypeId} {x y : Operand} {sz by_ id : Nat} {els news els' : List V} {v : V} {ty : TypeId} (hT : TabOk P T) (ht : slB T t = some (e, sz, by_)) (hx : aJ F x = some (.sl id)) (ho : H.get id = .row e sz els) (hy : aJ F y = some v) (hs : wB H.get sz v = some news) (he : els ++ news = els') (hb : els'.length ≤ 1000000000) :
  ∀ S w ρ a, HRel S w ρ H.get → FRel S w ρ a n F → Does P S w ρ H.get a ty (.call { callee := .builtin .append, args := #[x, y], argTypes := #[t, t] }) (some (.sl H.nx)) ((ED.repl id (.row e sz els')).app H.get H.nx) (ED.repl id (.row e sz els')).tch := by
 subst he
 exact dAp hT ht hx ho hy hs (by simpa using hb)
theorem okR {e : TypeId} {sz : Nat} {els : List V} {id : Nat} {o' : Ob} (ho : H.get id = .row e sz els) : (ED.repl id o').ok H.get := by exact ⟨by rw [ho]; simp, by rw [ho]; simp⟩
theorem okS {e : TypeId} {sz : Nat} {els : List V} {id : Nat} {o' : Ob} (ho : H.get id = .row e sz els) : (ED.set id o').ok H.get := by exact ⟨by rw [ho]; simp, by rw [ho]; simp⟩
theorem dTr (hT : TabOk P T) {t e : TypeId} {x y : Operand} {sz id k : Nat} {els els' : List V} {ty : TypeId} (ht : slT T t = some (e, sz)) (hx : aJ F x = some (.sl id)) (ho : H.get id = .row e sz els) (hy : aJ F y = some (.int .i64 (k : Int))) (hk : k ≤ els.length) (he : els.take k = els') :
  ∀ S w ρ a, HRel S w ρ H.get → FRel S w ρ a n F → Does P S w ρ H.get a ty (.slice t x none (some y) none) (some (.sl H.nx)) ((ED.repl id (.row e sz els')).app H.get H.nx) (ED.repl id (.row e sz els')).tch := fun S w ρ a hr hF => by
 subst he
 exact xQ hr hF.fr H.get_free (al hF hx) (al hF hy) ho (lm hT ht).1 (lm hT ht).2 hk
theorem dLe (hT : TabOk P T) {t e : TypeId} {x : Operand} {id sz i o : Nat} {els : List V} {v0 v : V} {td : TD} {ty : TypeId} (ht : T.ty t = some td) (hx : aJ F x = some (.el id sz i o)) (ho : H.get id = .row e sz els) (hi : els[i]? = some v0) (hv : mj td v0.cells o = some v) :
  ∀ S w ρ a, HRel S w ρ H.get → FRel S w ρ a n F → Does P S w ρ H.get a ty (.load t x) (some v) (ED.nop.app H.get H.nx) ED.nop.tch := fun S w ρ a hr hF => by
 rcases mb (hT.ty _ _ ht) hv with ⟨h1, h2⟩ | ⟨h1, h2, rfl⟩
 ·exact xw hr hF.fr (al hF hx) ho h1 hi h2
 ·exact uZ hr hF.fr (al hF hx) ho h1 hi h2
theorem dSe (hT : TabOk P T) {t e : TypeId} {x y : Operand} {id sz i o : Nat} {els els' : List V} {v0 v : V} {td : TD} {ty : TypeId} (ht : T.ty t = some td) (hx : aJ F x = some (.el id sz i o)) (hy : aJ F y = some v) (ho : H.get id = .row e sz els) (hi : els[i]? = some v0) (hc : (Nat.beq v.cells.length td.size && v.cells.all V.one && Nat.ble (o + td.size) v0.cells.length && (match v0 with | .agg _ => true | v0 => v0.one && v.one)) = true) (he : els.set i (v0.over o v.cells) = els') :
  ∀ S w ρ a, HRel S w ρ H.get → FRel S w ρ a n F → Does P S w ρ H.get a ty (.store t x y) none ((ED.set id (.row e sz els')).app H.get H.nx) (ED.set id (.row e sz els')).tch := fun S w ρ a hr hF => by
 subst he
 simp only [Bool.and_eq_true] at hc
 obtain ⟨⟨⟨h1, h2⟩, h3⟩, h4⟩ := hc
 exact sa hr hF.fr (al hF hx) (al hF hy) ho (hT.ty _ _ ht).size hi (Nat.eq_of_beq_eq_true h1) h2 (Nat.le_of_ble_eq_true h3) (by
  cases v0 with
  | agg cs => exact .inl ⟨cs, rfl⟩
  | _ => simp only [Bool.and_eq_true] at h4; exact .inr ⟨pn h4.1, pn h4.2⟩)
theorem dMk (hT : TabOk P T) {t e : TypeId} {x y : Operand} {m sz : Nat} {z0 : V} {td : TD} {tz : TD} {ty : TypeId} (ht : T.ty t = some tz) (hk : (match tz.kind with | .sl e' => Nat.beq e e' | _ => false) = true) (hte : T.ty e = some td) (hx : aJ F x = some (.int .i64 (m : Int))) (hy : aJ F y = some (.int .i64 (m : Int))) (hsz : td.size = sz) (hz0 : td.zero = z0) (hc : (Nat.blt 0 td.size && Nat.ble td.bytes 1000) = true) (hm : m ≤ 1000000000) :
  ∀ S w ρ a, HRel S w ρ H.get → FRel S w ρ a n F → Does P S w ρ H.get a ty (.makeSlice t x y) (some (.sl H.nx)) ((ED.new (.row e sz (List.replicate m z0))).app H.get H.nx) (ED.new (.row e sz (List.replicate m z0))).tch := fun S w ρ a hr hF => by
 subst hsz hz0
 simp only [Bool.and_eq_true, Nat.blt_eq] at hc
 obtain ⟨z, h1, h2, h3, h4⟩ := (hT.ty _ _ hte).info
 have hsl : P.underlying t = some (.slice e) := by
  split at hk
  ·rename_i e' he'
   have := Nat.eq_of_beq_eq_true hk
   subst this
   exact (hT.ty _ _ ht).sl he'
  ·cases hk
 have hb : td.bytes ≤ 1000 := Nat.le_of_ble_eq_true hc.2
 exact zD hr hF.fr H.get_free (al hF hx) (al hF hy) hsl h1 h3 hc.1 h4 h2 (Nat.le_trans (Nat.mul_le_mul hb hm) (by decide)) (by simp only [maxLen]; omega)
theorem gCn {PL : List Nat} {fid : FuncId} {args : List Operand} {tys : Array TypeId} {vs us : List V} {H0 : Hp} {Post : V → Hp → Prop} {d : Option Tmp} {ty : TypeId} {ps : String} {af : Array Edge} {g : Option (Nat × Bool)} (i : Nat) (e : TypeId) (sz : Nat) (hS : cx PL P fid us H0 Post) (σ : List Nat) (he : de P fid = true) (hw : bf F all g = some true) (hv : gl F args = some vs) (hvi : vs[i]? = some .nils) (h2 : H.ap (.new (.row e sz [])) id = H1) (hs : au (vs.set i (.sl H.nx)) (renL σ us)) (hH : leH σ H1 H0.es) (hc : (dp σ && Nat.beq σ.length H0.nx && σ.all fun i => Nat.blt i H1.nx) = true)
  (k : ∀ v H', Post v H' → Go P K Q (.ops all rest) s n (F.seto d (some (v.ren (sgN PL H1.nx H0.get H'.nx σ 0)))) (lO PL H1 σ H0 H')) : Go P K Q (.ops all (⟨d, .call { callee := .value (.func fid), args := args.toArray, argTypes := tys }, ty, ps, af, g⟩ :: rest)) s n F H := by
 rw [Hp.ap_eq] at h2; subst h2
 exact go_opC (o := ⟨d, .call { callee := .value (.func fid), args := args.toArray, argTypes := tys }, ty, ps, af, g⟩) he rfl hw hv (AP i e sz hvi (pW hS σ hs hH hc [] (by simp [cf]))) fun v' H'' ⟨v, H', hP, e1, e2⟩ => by subst e1 e2; exact k v H' hP
end
abbrev qS (f : FuncId) (a : List V) (r : V) : Prop := om Tryz.prog f a r
abbrev qLG (K : Ctx) (fn : Func) (Q : V → Hp → Prop) (c : Code) (s : List EI) (n : Nat) (F : Fm) (H : Hp) : Prop := Go Tryz.prog K (bodyPost Tryz.prog fn (SP K Q)) (.code c) s n F H
section
variable {P : Program} {K : Ctx} {Q : Exit → Act → World → Prop} {p : EP} {s : List EI} {n : Nat} {F F1 F2 F3 F4 : Fm} {H : Hp}
theorem qBh {e : Bool} {A B C D : Prop} (d : Nat) (hd : F.get d = some (.bool e)) (h1 : F.put d (some (.bool true)) id = F1) (h2 : F.put d (some (.bool false)) id = F2) (h : (A → C) ∧ (B → D)) (a : e = true → A) (b : e = false → B) (kT : C → Go P K Q p s n F1 H) (kF : D → Go P K Q p s n F2 H) : Go P K Q p s n F H := gB d hd h1 h2 (fun z => kT (h.1 (a z))) (fun z => kF (h.2 (b z)))
theorem qBi {e : Bool} {C D : Prop} (d : Nat) (hd : F.get d = some (.bool e)) (h1 : F.put d (some (.bool true)) id = F1) (h2 : F.put d (some (.bool false)) id = F2) (h : (e = true → C) ∧ (e = false → D)) (kT : C → Go P K Q p s n F1 H) (kF : D → Go P K Q p s n F2 H) : Go P K Q p s n F H := qBh d hd h1 h2 h id id kT kF
theorem qBe {α : Type} [BEq α] [LawfulBEq α] {x y : α} {C D : Prop} (d : Nat) (hd : F.get d = some (.bool (x == y))) (h1 : F.put d (some (.bool true)) id = F1) (h2 : F.put d (some (.bool false)) id = F2) (h : (x = y → C) ∧ (x ≠ y → D)) (kT : C → Go P K Q p s n F1 H) (kF : D → Go P K Q p s n F2 H) : Go P K Q p s n F H := qBh d hd h1 h2 h eq_of_beq ne_of_beq_false kT kF
theorem qBd {x : Prop} [Decidable x] {C D : Prop} (d : Nat) (hd : F.get d = some (.bool (decide x))) (h1 : F.put d (some (.bool true)) id = F1) (h2 : F.put d (some (.bool false)) id = F2) (h : (x → C) ∧ (¬ x → D)) (kT : C → Go P K Q p s n F1 H) (kF : D → Go P K Q p s n F2 H) : Go P K Q p s n F H := qBh d hd h1 h2 h of_decide_eq_true of_decide_eq_false kT kF
theorem qBhZ {e : Bool} {A B C D : Prop} (d i : Nat) (hd : F.get d = some (.bool e)) (hi : Fm.get (F.set d none) i = some (.bool e)) (h1 : F.put d (some (.bool true)) (fun F => F.put i (some (.bool true)) id) = F3) (h2 : F.put d (some (.bool false)) (fun F => F.put i (some (.bool false)) id) = F4) (h : (A → C) ∧ (B → D)) (a : e = true → A) (b : e = false → B) (kT : C → Go P K Q p s n F3 H) (kF : D → Go P K Q p s n F4 H) : Go P K Q p s n F H := by
 rw [Fm.put_eq, Fm.put_eq] at h1 h2
 have w (v : V) : Fm.get (F.set d (some v)) i = some (.bool e) := by
  rw [Fm.get_eq, List.getElem?_set] at hi ⊢
  split at hi
  · split at hi <;> simp at hi
  · rename_i e; rw [if_neg e]; exact hi
 exact gB d hd (Fm.put_eq ..) (Fm.put_eq ..) (fun z => gT i (w _) z ((Fm.put_eq ..).trans h1) (kT (h.1 (a z)))) (fun z => gF i (w _) z ((Fm.put_eq ..).trans h2) (kF (h.2 (b z))))
theorem qBiZ {e : Bool} {C D : Prop} (d i : Nat) (hd : F.get d = some (.bool e)) (hi : Fm.get (F.set d none) i = some (.bool e)) (h1 : F.put d (some (.bool true)) (fun F => F.put i (some (.bool true)) id) = F3) (h2 : F.put d (some (.bool false)) (fun F => F.put i (some (.bool false)) id) = F4) (h : (e = true → C) ∧ (e = false → D)) (kT : C → Go P K Q p s n F3 H) (kF : D → Go P K Q p s n F4 H) : Go P K Q p s n F H := qBhZ d i hd hi h1 h2 h id id kT kF
theorem qBeZ {α : Type} [BEq α] [LawfulBEq α] {x y : α} {C D : Prop} (d i : Nat) (hd : F.get d = some (.bool (x == y))) (hi : Fm.get (F.set d none) i = some (.bool (x == y))) (h1 : F.put d (some (.bool true)) (fun F => F.put i (some (.bool true)) id) = F3) (h2 : F.put d (some (.bool false)) (fun F => F.put i (some (.bool false)) id) = F4) (h : (x = y → C) ∧ (x ≠ y → D)) (kT : C → Go P K Q p s n F3 H) (kF : D → Go P K Q p s n F4 H) : Go P K Q p s n F H := qBhZ d i hd hi h1 h2 h eq_of_beq ne_of_beq_false kT kF
theorem qBdZ {x : Prop} [Decidable x] {C D : Prop} (d i : Nat) (hd : F.get d = some (.bool (decide x))) (hi : Fm.get (F.set d none) i = some (.bool (decide x))) (h1 : F.put d (some (.bool true)) (fun F => F.put i (some (.bool true)) id) = F3) (h2 : F.put d (some (.bool false)) (fun F => F.put i (some (.bool false)) id) = F4) (h : (x → C) ∧ (¬ x → D)) (kT : C → Go P K Q p s n F3 H) (kF : D → Go P K Q p s n F4 H) : Go P K Q p s n F H := qBhZ d i hd hi h1 h2 h of_decide_eq_true of_decide_eq_false kT kF
end
theorem pqq {v : V} : ∃ u, some v = some u ∧ aw u v := ⟨v, rfl, aw.rfl⟩
theorem pq1 {a0 : V} : (∃ u, some a0 = some u ∧ aw u a0) ∧ True := ⟨pqq, trivial⟩
theorem pq2 {a0 a1 : V} : (∃ u, some a0 = some u ∧ aw u a0) ∧ (∃ u, some a1 = some u ∧ aw u a1) ∧ True := ⟨pqq, pqq, trivial⟩
theorem pq3 {a0 a1 a2 : V} : (∃ u, some a0 = some u ∧ aw u a0) ∧ (∃ u, some a1 = some u ∧ aw u a1) ∧ (∃ u, some a2 = some u ∧ aw u a2) ∧ True := ⟨pqq, pqq, pqq, trivial⟩
theorem pq4 {a0 a1 a2 a3 : V} : (∃ u, some a0 = some u ∧ aw u a0) ∧ (∃ u, some a1 = some u ∧ aw u a1) ∧ (∃ u, some a2 = some u ∧ aw u a2) ∧ (∃ u, some a3 = some u ∧ aw u a3) ∧ True := ⟨pqq, pqq, pqq, pqq, trivial⟩
theorem pq5 {a0 a1 a2 a3 a4 : V} : (∃ u, some a0 = some u ∧ aw u a0) ∧ (∃ u, some a1 = some u ∧ aw u a1) ∧ (∃ u, some a2 = some u ∧ aw u a2) ∧ (∃ u, some a3 = some u ∧ aw u a3) ∧ (∃ u, some a4 = some u ∧ aw u a4) ∧ True := ⟨pqq, pqq, pqq, pqq, pqq, trivial⟩
theorem pq6 {a0 a1 a2 a3 a4 a5 : V} : (∃ u, some a0 = some u ∧ aw u a0) ∧ (∃ u, some a1 = some u ∧ aw u a1) ∧ (∃ u, some a2 = some u ∧ aw u a2) ∧ (∃ u, some a3 = some u ∧ aw u a3) ∧ (∃ u, some a4 = some u ∧ aw u a4) ∧ (∃ u, some a5 = some u ∧ aw u a5) ∧ True := ⟨pqq, pqq, pqq, pqq, pqq, pqq, trivial⟩
theorem pq7 {a0 a1 a2 a3 a4 a5 a6 : V} : (∃ u, some a0 = some u ∧ aw u a0) ∧ (∃ u, some a1 = some u ∧ aw u a1) ∧ (∃ u, some a2 = some u ∧ aw u a2) ∧ (∃ u, some a3 = some u ∧ aw u a3) ∧ (∃ u, some a4 = some u ∧ aw u a4) ∧ (∃ u, some a5 = some u ∧ aw u a5) ∧ (∃ u, some a6 = some u ∧ aw u a6) ∧ True := ⟨pqq, pqq, pqq, pqq, pqq, pqq, pqq, trivial⟩
theorem pq8 {a0 a1 a2 a3 a4 a5 a6 a7 : V} : (∃ u, some a0 = some u ∧ aw u a0) ∧ (∃ u, some a1 = some u ∧ aw u a1) ∧ (∃ u, some a2 = some u ∧ aw u a2) ∧ (∃ u, some a3 = some u ∧ aw u a3) ∧ (∃ u, some a4 = some u ∧ aw u a4) ∧ (∃ u, some a5 = some u ∧ aw u a5) ∧ (∃ u, some a6 = some u ∧ aw u a6) ∧ (∃ u, some a7 = some u ∧ aw u a7) ∧ True := ⟨pqq, pqq, pqq, pqq, pqq, pqq, pqq, pqq, trivial⟩
theorem pq9 {a0 a1 a2 a3 a4 a5 a6 a7 a8 : V} : (∃ u, some a0 = some u ∧ aw u a0) ∧ (∃ u, some a1 = some u ∧ aw u a1) ∧ (∃ u, some a2 = some u ∧ aw u a2) ∧ (∃ u, some a3 = some u ∧ aw u a3) ∧ (∃ u, some a4 = some u ∧ aw u a4) ∧ (∃ u, some a5 = some u ∧ aw u a5) ∧ (∃ u, some a6 = some u ∧ aw u a6) ∧ (∃ u, some a7 = some u ∧ aw u a7) ∧ (∃ u, some a8 = some u ∧ aw u a8) ∧ True := ⟨pqq, pqq, pqq, pqq, pqq, pqq, pqq, pqq, pqq, trivial⟩
theorem pq10 {a0 a1 a2 a3 a4 a5 a6 a7 a8 a9 : V} : (∃ u, some a0 = some u ∧ aw u a0) ∧ (∃ u, some a1 = some u ∧ aw u a1) ∧ (∃ u, some a2 = some u ∧ aw u a2) ∧ (∃ u, some a3 = some u ∧ aw u a3) ∧ (∃ u, some a4 = some u ∧ aw u a4) ∧ (∃ u, some a5 = some u ∧ aw u a5) ∧ (∃ u, some a6 = some u ∧ aw u a6) ∧ (∃ u, some a7 = some u ∧ aw u a7) ∧ (∃ u, some a8 = some u ∧ aw u a8) ∧ (∃ u, some a9 = some u ∧ aw u a9) ∧ True := ⟨pqq, pqq, pqq, pqq, pqq, pqq, pqq, pqq, pqq, pqq, trivial⟩
theorem pq11 {a0 a1 a2 a3 a4 a5 a6 a7 a8 a9 a10 : V} : (∃ u, some a0 = some u ∧ aw u a0) ∧ (∃ u, some a1 = some u ∧ aw u a1) ∧ (∃ u, some a2 = some u ∧ aw u a2) ∧ (∃ u, some a3 = some u ∧ aw u a3) ∧ (∃ u, some a4 = some u ∧ aw u a4) ∧ (∃ u, some a5 = some u ∧ aw u a5) ∧ (∃ u, some a6 = some u ∧ aw u a6) ∧ (∃ u, some a7 = some u ∧ aw u a7) ∧ (∃ u, some a8 = some u ∧ aw u a8) ∧ (∃ u, some a9 = some u ∧ aw u a9) ∧ (∃ u, some a10 = some u ∧ aw u a10) ∧ True := ⟨pqq, pqq, pqq, pqq, pqq, pqq, pqq, pqq, pqq, pqq, pqq, trivial⟩
theorem pq12 {a0 a1 a2 a3 a4 a5 a6 a7 a8 a9 a10 a11 : V} : (∃ u, some a0 = some u ∧ aw u a0) ∧ (∃ u, some a1 = some u ∧ aw u a1) ∧ (∃ u, some a2 = some u ∧ aw u a2) ∧ (∃ u, some a3 = some u ∧ aw u a3) ∧ (∃ u, some a4 = some u ∧ aw u a4) ∧ (∃ u, some a5 = some u ∧ aw u a5) ∧ (∃ u, some a6 = some u ∧ aw u a6) ∧ (∃ u, some a7 = some u ∧ aw u a7) ∧ (∃ u, some a8 = some u ∧ aw u a8) ∧ (∃ u, some a9 = some u ∧ aw u a9) ∧ (∃ u, some a10 = some u ∧ aw u a10) ∧ (∃ u, some a11 = some u ∧ aw u a11) ∧ True := ⟨pqq, pqq, pqq, pqq, pqq, pqq, pqq, pqq, pqq, pqq, pqq, pqq, trivial⟩
theorem pqo {H : Hp} {x : Option Nat} {i : Nat} {t : TypeId} {cs : List V} (h1 : x = some i) (h2 : H.get i = .var t cs) : ∃ i, x = some i ∧ fp (H.get i) (.var t cs) := ⟨i, h1, by rw [h2]; exact ⟨rfl, au.rfl⟩⟩
theorem pqo1 {H : Hp} {x0 : Option Nat} {i0 : Nat} {t0 : TypeId} {c0 : List V} (h0 : x0 = some i0) (k0 : H.get i0 = .var t0 c0) : (∃ i, x0 = some i ∧ fp (H.get i) (.var t0 c0)) ∧ True := ⟨pqo h0 k0, trivial⟩
theorem pqo2 {H : Hp} {x0 : Option Nat} {i0 : Nat} {t0 : TypeId} {c0 : List V} (h0 : x0 = some i0) (k0 : H.get i0 = .var t0 c0) {x1 : Option Nat} {i1 : Nat} {t1 : TypeId} {c1 : List V} (h1 : x1 = some i1) (k1 : H.get i1 = .var t1 c1) : (∃ i, x0 = some i ∧ fp (H.get i) (.var t0 c0)) ∧ (∃ i, x1 = some i ∧ fp (H.get i) (.var t1 c1)) ∧ True := ⟨pqo h0 k0, pqo h1 k1, trivial⟩
theorem pqo3 {H : Hp} {x0 : Option Nat} {i0 : Nat} {t0 : TypeId} {c0 : List V} (h0 : x0 = some i0) (k0 : H.get i0 = .var t0 c0) {x1 : Option Nat} {i1 : Nat} {t1 : TypeId} {c1 : List V} (h1 : x1 = some i1) (k1 : H.get i1 = .var t1 c1) {x2 : Option Nat} {i2 : Nat} {t2 : TypeId} {c2 : List V} (h2 : x2 = some i2) (k2 : H.get i2 = .var t2 c2) : (∃ i, x0 = some i ∧ fp (H.get i) (.var t0 c0)) ∧ (∃ i, x1 = some i ∧ fp (H.get i) (.var t1 c1)) ∧ (∃ i, x2 = some i ∧ fp (H.get i) (.var t2 c2)) ∧ True := ⟨pqo h0 k0, pqo h1 k1, pqo h2 k2, trivial⟩
theorem pqo4 {H : Hp} {x0 : Option Nat} {i0 : Nat} {t0 : TypeId} {c0 : List V} (h0 : x0 = some i0) (k0 : H.get i0 = .var t0 c0) {x1 : Option Nat} {i1 : Nat} {t1 : TypeId} {c1 : List V} (h1 : x1 = some i1) (k1 : H.get i1 = .var t1 c1) {x2 : Option Nat} {i2 : Nat} {t2 : TypeId} {c2 : List V} (h2 : x2 = some i2) (k2 : H.get i2 = .var t2 c2) {x3 : Option Nat} {i3 : Nat} {t3 : TypeId} {c3 : List V} (h3 : x3 = some i3) (k3 : H.get i3 = .var t3 c3) : (∃ i, x0 = some i ∧ fp (H.get i) (.var t0 c0)) ∧ (∃ i, x1 = some i ∧ fp (H.get i) (.var t1 c1)) ∧ (∃ i, x2 = some i ∧ fp (H.get i) (.var t2 c2)) ∧ (∃ i, x3 = some i ∧ fp (H.get i) (.var t3 c3)) ∧ True := ⟨pqo h0 k0, pqo h1 k1, pqo h2 k2, pqo h3 k3, trivial⟩
abbrev xA (c : Code) : Code := cB (cB c)
abbrev xB (c : Code) : Code := cE (cB c)
abbrev xC (c : Code) : Code := xB (xB c)
abbrev xD (c : Code) : Code := cK (cB c)
abbrev xE (c : Code) : Code := xD (cA c)
abbrev xF (c : Code) : Code := xE (xA c)
abbrev xG (c : Code) : Code := xC (xC c)
abbrev xH (c : Code) : Code := xA (cB c)
abbrev xI (c : Code) : Code := cL (xF c)
abbrev xJ (c : Code) : Code := xA (xA c)
abbrev xK (c : Code) : Code := xB (xF c)
abbrev xL (c : Code) : Code := xG (xG c)
abbrev xM (c : Code) : Code := cT (cB c)
abbrev xN (c : Code) : Code := xE (cB c)
end Go.Proofs.YthnohcipianijaaGreatDoor
namespace Go.Proofs.YthnohcipianijaaGreatDoor
open Go.RowKit Lx Sx
section
variable {P : Program} {T : Tab} {K : Ctx} {Q : Exit → Act → World → Prop} {p : EP} {s : List EI} {n : Nat} {F F1 : Fm} {H H1 : Hp} {α β : Type} [DecidableEq α] {enc : α → V} {kt : TypeId}
theorem lkN : aw .nilp (.lk []) := fun S w ρ x h => by simp only [VRel, KRel] at h ⊢; exact h
theorem Es : aw (.lk []) .nilp := fun S w ρ x h => by simp only [VRel, KRel] at h ⊢; exact h
theorem lkC {cs : List V} {r : List (List V)} {l : List V} (hl : l = cs ++ [.lk r]) : aw (.box l 0) (.lk (cs :: r)) := fun S w ρ x h => by
 subst hl
 simp only [VRel, KRel] at h ⊢
 obtain ⟨b, off, xs, rfl, h2, h3, h4, h5⟩ := h
 have hlen := h4.length
 rw [List.length_append, List.length_singleton] at hlen
 obtain ⟨ys, y, rfl⟩ : ∃ ys y, xs = ys ++ [y] := by
  rcases List.eq_nil_or_concat xs with e | ⟨ys, y, e⟩
  ·rw [e] at hlen; simp at hlen
  ·exact ⟨ys, y, by rw [e]; simp⟩
 have hy : ys.length = cs.length := by simpa using hlen
 have g1 := LRel.take (w := w) (S := S) (ρ := ρ0) cs.length h4
 have g2 := LRel.drop (w := w) (S := S) (ρ := ρ0) cs.length h4
 rw [List.take_append_of_le_length (Nat.le_refl _), List.take_length, List.take_append_of_le_length (by omega), ← hy, List.take_length] at g1
 rw [List.drop_append_of_le_length (Nat.le_refl _), List.drop_length, List.nil_append, List.drop_append_of_le_length (by omega), ← hy, List.drop_length, List.nil_append] at g2
 simp only [LRel] at g2
 obtain ⟨z, zs, e, hz, hzs⟩ := g2
 simp only [List.cons.injEq] at e
 obtain ⟨rfl, _⟩ := e
 refine ⟨b, off, ys, y, by simp, h2, h3, g1, by simpa only [VRel] using hz, hz.one rfl, fun j hj => h5 j (by simpa using hj)⟩
theorem Eo {cs : List V} {r : List (List V)} {l : List V} (hl : l = cs ++ [.lk r]) : aw (.lk (cs :: r)) (.box l 0) := fun S w ρ x h => by
 subst hl
 simp only [VRel, KRel] at h ⊢
 obtain ⟨b, off, xs, y, rfl, h2, h3, h4, h5, _, h7⟩ := h
 exact ⟨b, off, xs ++ [y], by simp, h2, h3, h4.append ⟨y, [], rfl, by simp only [VRel]; exact h5, rfl⟩, fun j hj => h7 j (by simpa using hj)⟩
theorem vP {w : World} {t e : TypeId} {neg : Bool} {x : Operand} {a : Act} {u ty : TypeId} {q : Option Addr} {f : Nat → Option Value} (hf : Fr a n f) (ht : P.underlying t = some (.pointer e)) (hx : aF f x = some (.pointer q)) : Runs P a ty (.binOp (if neg then .neq else .eql) t x (.const (.pointer none)) u) w (.value (.bool (if neg then q.isSome else q.isNone))) w := fun _ _ _ _ => by
 have hp : P.pointee t = e := by simp [Program.pointee, ht]
 have hu : P.underlying t = some (.pointer (P.pointee t)) := by rw [hp]; exact ht
 have he : (Op.equal t (.pointer q) (.pointer none)).run P w = .ok q.isNone w := run_equal_pointer_nil w t q hu
 have hc : a.eval (.const (.pointer none)) = .pointer none := rfl
 simp only [execOp, hf.eval hx, hc]
 cases neg
 ·have : (binOp .eql t (.pointer q) (.pointer none)).run P w = .ok (.bool q.isNone) w := by simp only [binOp]; simp [he]
  simp [eqGuard, this]
 ·have : (binOp .neq t (.pointer q) (.pointer none)).run P w = .ok (.bool !q.isNone) w := by simp only [binOp]; simp [he]
  cases q <;> simp_all [eqGuard]
section
variable {t e u ty : TypeId} {x : Operand}
theorem GF (ht : P.underlying t = some (.pointer e)) (hx : aJ F x = some .nilp) : ∀ S w ρ a, HRel S w ρ H.get → FRel S w ρ a n F → Yld P S w ρ a ty (.binOp .neq t x (.const (.pointer none)) u) (.bool false) := fun S w ρ a hr hF => by
 obtain ⟨y, h1, h2⟩ := al hF hx
 simp only [VRel] at h2; subst h2
 exact ⟨.bool false, by simp only [VRel], fun w' _ => by have := vP (P := P) (w := w') (neg := true) (u := u) (ty := ty) hF.fr ht h1; simpa using this⟩
theorem Ha {cs : List V} {o : Nat} (ht : P.underlying t = some (.pointer e)) (hx : aJ F x = some (.box cs o)) : ∀ S w ρ a, HRel S w ρ H.get → FRel S w ρ a n F → Yld P S w ρ a ty (.binOp .neq t x (.const (.pointer none)) u) (.bool true) := fun S w ρ a hr hF => by
 obtain ⟨y, h1, h2⟩ := al hF hx
 simp only [VRel] at h2
 obtain ⟨b, off, xs, rfl, _⟩ := h2
 exact ⟨.bool true, by simp only [VRel], fun w' _ => by have := vP (P := P) (w := w') (neg := true) (u := u) (ty := ty) hF.fr ht h1; simpa using this⟩
end
end
end Go.Proofs.YthnohcipianijaaGreatDoor
namespace Go.Proofs.YthnohcipianijaaGreatDoor
open Go.RowKit Lx Sx
section
variable {P : Program} {n : Nat} {F : Fm} {H : Hp}
theorem Dh {f : Nat → Option Value} {a : Act} {w : World} {ty t u : TypeId} {x y : Operand} {m l : Int} (h : Fr a n f) (hx : aF f x = some (.int .i64 m)) (hy : aF f y = some (.int .i64 l)) : Runs P a ty (.binOp .mul t x y u) w (.value (.int .i64 (IntKind.i64.wrap (m * l)))) w := fun _ _ _ _ => by
 simp only [execOp, h.eval hx, h.eval hy]; simp [go_sem, eqGuard]
theorem DV {f : Nat → Option Value} {a : Act} {w : World} {ty t u : TypeId} {x y : Operand} {m l : Int} (h : Fr a n f) (hx : aF f x = some (.int .i64 m)) (hy : aF f y = some (.int .i64 l)) : Runs P a ty (.call { callee := .builtin .min, args := #[x, y], argTypes := #[t, u] }) w (.value (.int .i64 (min m l))) w := fun _ _ _ _ => by
 simp only [execOp, resolve, List.map_toArray, List.map_cons, List.map_nil, h.eval hx, h.eval hy]
 simp [go_sem, invoke, builtin]
 try (split <;> omega)
theorem EV {t u ty : TypeId} {x y : Operand} {m l q : Int} (hx : aJ F x = some (.int .i64 m)) (hy : aJ F y = some (.int .i64 l)) (hq : min m l = q) : ∀ S w ρ a, HRel S w ρ H.get → FRel S w ρ a n F → Yld P S w ρ a ty (.call ⟨.builtin .min, ⟨[x, y]⟩, ⟨[t, u]⟩⟩) (.int .i64 q) := fun S w ρ a hr hF => hq ▸ ⟨_, by simp only [VRel], fun w' _ => DV hF.fr (aX (al hF hx)) (aX (al hF hy))⟩
theorem FX {t u ty : TypeId} {x y : Operand} {m l : Int} (hx : aJ F x = some (.int .i64 m)) (hy : aJ F y = some (.int .i64 l)) : ∀ S w ρ a, HRel S w ρ H.get → FRel S w ρ a n F → Yld P S w ρ a ty (.binOp .mul t x y u) (.int .i64 (IntKind.i64.wrap (m * l))) := fun S w ρ a hr hF => ⟨_, by simp only [VRel], fun w' _ => Dh hF.fr (aX (al hF hx)) (aX (al hF hy))⟩
end
section
variable {P : Program} {T : Tab} {K : Ctx} {Q : Exit → Act → World → Prop} {s : List EI} {n : Nat} {F : Fm} {H : Hp}
theorem tm {all : Array Oper} {L : List Nat} {m left i j l : Nat} {listed : Array Bool} {oi oj ol : Oper} {ui uj ul : V} {Hi Hj Hl : Hp} (hrd : (match Region.ready .any all listed with | [x, y, z] => Nat.beq x i && Nat.beq y j && Nat.beq z l | _ => false) = true) (hi : all[i]? = some oi) (hj : all[j]? = some oj) (hl : all[l]? = some ol) (hwi : bf F all oi.guard = some true) (hwj : bf F all oj.guard = some true) (hwl : bf F all ol.guard = some true)
  (xi : jQ P K oi L ((listed.setIfInBounds i true).getD m false) n F H ui Hi) (xj : jQ P K oj L ((listed.setIfInBounds j true).getD m false) n F H uj Hj) (xl : jQ P K ol L ((listed.setIfInBounds l true).getD m false) n F H ul Hl)
  (ki : Go P K Q (.drw all L m left (listed.setIfInBounds i true)) s n (F.seto oi.dst (some ui)) Hi) (kj : Go P K Q (.drw all L m left (listed.setIfInBounds j true)) s n (F.seto oj.dst (some uj)) Hj) (kl : Go P K Q (.drw all L m left (listed.setIfInBounds l true)) s n (F.seto ol.dst (some ul)) Hl) : Go P K Q (.drw all L m (left + 1) listed) s n F H := fun S w ρ a hr hiv hF hs => by
 split at hrd
 ·rename_i x y z hre
  simp only [Bool.and_eq_true, Nat.beq_eq] at hrd
  obtain ⟨⟨rfl, rfl⟩, rfl⟩ := hrd
  refine ⟨fun h0 => (by rw [hre] at h0; cases h0), fun c hc => ?_⟩
  rw [hre] at hc
  simp only [List.mem_cons, List.not_mem_nil, or_false] at hc
  rcases hc with rfl | rfl | rfl
  ·unfold wpOp
   simp only [hi]
   rw [if_pos (bF hF hwi)]
   exact .inl (xi S w ρ a hr hiv hF _ _ fun x S' w' ρ' hr' hi' hu hA hL hv => hV hu hA hL (ki S' w' ρ' _ hr' hi' (bO (hF.up hu) oi.dst hv) hs))
  ·unfold wpOp
   simp only [hj]
   rw [if_pos (bF hF hwj)]
   exact .inl (xj S w ρ a hr hiv hF _ _ fun x S' w' ρ' hr' hi' hu hA hL hv => hV hu hA hL (kj S' w' ρ' _ hr' hi' (bO (hF.up hu) oj.dst hv) hs))
  ·unfold wpOp
   simp only [hl]
   rw [if_pos (bF hF hwl)]
   exact .inl (xl S w ρ a hr hiv hF _ _ fun x S' w' ρ' hr' hi' hu hA hL hv => hV hu hA hL (kl S' w' ρ' _ hr' hi' (bO (hF.up hu) ol.dst hv) hs))
 ·cases hrd
end
section
variable {P : Program} {K : Ctx} {Q : Exit → Act → World → Prop} {p : EP} {s : List EI} {n : Nat} {F : Fm} {H H1 : Hp}
theorem gHX {e : TypeId} {sz : Nat} {els : List V} (id : Nat) (els' : List V) (ho : H.get id = .row e sz els) (he : au els els') (h2 : H.ap (.set id (.row e sz els')) _root_.id = H1) (k : Go P K Q p s n F H1) : Go P K Q p s n F H := by
 rw [Hp.ap_eq] at h2; subst h2
 have hg : (H.app (.set id (.row e sz els'))).get = bV H.get id (.row e sz els') := Hp.get_app (by exact ⟨by rw [ho]; simp, by rw [ho]; simp⟩)
 intro S w ρ a hr hi hF
 have how : ∀ i b, own ρ i (bV H.get id (.row e sz els') i) b ↔ own ρ i (H.get i) b := fun i b => by
  by_cases hi : i = id
  ·subst hi; rw [bj, ho]; rfl
  ·rw [bP _ _ hi]
 refine k S w ρ a ?_ ?_ hF
 ·rw [id_eq, hg]
  refine ⟨fun i => ?_, fun i b hb => hr.sep i b ((how i b).1 hb), fun i j b h1 h2 => hr.dis i j b ((how i b).1 h1) ((how j b).1 h2), hr.slt⟩
  by_cases hii : i = id
  ·subst hii
   rw [bj]
   obtain ⟨v, xs, h1, h2, h3⟩ := hW hr ho
   exact ⟨v, xs, h1, by rw [he.len]; exact h2, h3.sub he⟩
  ·rw [bP _ _ hii]; exact hr.ob i
 ·rw [id_eq, hg]
  exact ⟨hi.chg, hi.s0, hi.s1, fun i b hb => hi.ow i b ((how i b).1 hb), hi.pin⟩
end
end Go.Proofs.YthnohcipianijaaGreatDoor
namespace Go.Proofs.YthnohcipianijaaGreatDoor
open Go.RowKit Lx Sx
set_option maxRecDepth 100000
set_option maxHeartbeats 4000000
structure GDatum where
 Kind : Int
 N : Int
 S : (List UInt8)
 L : (List GDatum)
mutual
def GDatum.v : GDatum → V
 | .mk a0 a1 a2 a3 => .agg [.int .i64 a0, .int .i64 a1, .str a2, .row 4 (GDatum.vs a3)]
def GDatum.vs : List GDatum → List V
 | [] => []
 | t :: r => GDatum.v t :: GDatum.vs r
end
abbrev GDatum.c (x : GDatum) : List V := [.int .i64 x.Kind, .int .i64 x.N, .str x.S, .row 4 (GDatum.vs x.L)]
abbrev GDatum.w (x : GDatum) : V := .agg x.c
theorem GDatum.v_eq (x : GDatum) : x.v = x.w := by cases x; simp [GDatum.v]
theorem GDatum.vs_map : ∀ l : List GDatum, GDatum.vs l = l.map GDatum.w
 | [] => by simp [GDatum.vs]
 | t :: r => by simp [GDatum.vs, GDatum.v_eq, GDatum.vs_map r]
theorem GDatum.vlen (l : List GDatum) : (GDatum.vs l).length = l.length := by rw [GDatum.vs_map, List.length_map]
theorem GDatum.vget {l : List GDatum} {i : Nat} {u : GDatum} (h : l[i]? = some u) : (GDatum.vs l)[i]? = some u.w := by rw [GDatum.vs_map, List.getElem?_map, h]; rfl
theorem GDatum.vapp (a b : List GDatum) : GDatum.vs (a ++ b) = GDatum.vs a ++ GDatum.vs b := by simp [GDatum.vs_map]
theorem GDatum.vset (l : List GDatum) (i : Nat) (x : GDatum) : (GDatum.vs l).set i x.w = GDatum.vs (l.set i x) := by rw [GDatum.vs_map, GDatum.vs_map, List.map_set]
theorem GDatum.vsub (l : List GDatum) (i j : Nat) : ((GDatum.vs l).drop i).take j = GDatum.vs ((l.drop i).take j) := by rw [GDatum.vs_map, GDatum.vs_map, List.map_take, List.map_drop]
theorem GDatum.vren (σ : List Nat) (l : List GDatum) : renL σ (GDatum.vs l) = GDatum.vs l := by rw [GDatum.vs_map]; exact am σ GDatum.w (fun _ => rfl) l
theorem GDatum.vpure (l : List GDatum) : pureL (GDatum.vs l) = true := by rw [GDatum.vs_map]; exact gW GDatum.w (fun _ => rfl) l
theorem GDatum.vone (x : GDatum) : [x.w] = GDatum.vs [x] := by rw [GDatum.vs_map]; rfl
def lw (p0 : GDatum) (p1 r0 : Int) : Prop := qS 37 [.agg (GDatum.c p0), .int .i64 p1] (.int .i64 r0)
def jM (p0 : GDatum) (r0 : Int) : Prop := qS 16 [.agg (GDatum.c p0)] (.int .i64 r0)
def jL (p0 : GDatum) (r0 : Bool) : Prop := qS 35 [.agg (GDatum.c p0)] (.bool r0)
def kK (p0 : GDatum) (r0 : Bool) : Prop := qS 14 [.agg (GDatum.c p0)] (.bool r0)
def dN (p0 p1 : GDatum) (r0 : Bool) : Prop := qS 18 [.agg (GDatum.c p0), .agg (GDatum.c p1)] (.bool r0)
def jK (p0 r0 : GDatum) : Prop := qS 46 [.agg (GDatum.c p0)] (.agg (GDatum.c r0))
def fc (p0 : GDatum) (p1 r0 : Int) : Prop := qS 34 [.agg (GDatum.c p0), .int .i64 p1] (.int .i64 r0)
def eW (p0 : GDatum) (r0 : Bool) : Prop := qS 12 [.agg (GDatum.c p0)] (.bool r0)
def dm (p0 : Int) (r0 : GDatum) : Prop := qS 28 [.int .i64 p0] (.agg (GDatum.c r0))
def jO (m : Nat) (p0 : GDatum) (p1 a : Int) (b : Nat) (r0 : Int) : Prop := ∀ (K : Ctx) (j1 : Nat), aq K [] → m ≤ j1 → qLG K Tryz.f37 (fun u _ => u = .int .i64 r0) (xI (xA (ae Tryz.f37))) [.loop (xI (xA (ae Tryz.f37))) j1, .blk 0, .seq (xA (xH (ae Tryz.f37)))] 40 (mkF 40 0 [(1, .int .i64 p1), (5, .int .i64 a), (22, .row 4 (GDatum.vs p0.L)), (23, .int .i64 (p0.L.length : Int)), (24, .int .i64 (b : Int))]) ⟨0, []⟩
theorem uP (m : Nat) (p0 : GDatum) (p1 r0 : Int) (h : InI (p1 - 1) ∧ (((p1 - 1) ≤ (p0.S.length : Int)) → p1 = r0) ∧ ((¬ (p1 - 1) ≤ (p0.S.length : Int)) → 1 + p0.S.length ≤ 9223372036854775807 ∧ jO m p0 p1 ((1 + p0.S.length : Nat) : Int) 0 r0)) : lw p0 p1 r0 := by
 refine ⟨rfl, rfl, ?_⟩
 refine ak 40 [] Tryz.func37 rfl rfl rfl (az rfl) fun K hK => ?_
 refine gR 3 rfl <| gFP 0 rfl rfl rfl rfl <| gR 16 rfl ?_
 obtain ⟨hb, h⟩ := h
 refine gR 1 rfl <| gV 13 (.int .i64 (p1 - 1)) rfl (ao hb rfl) rfl <| gR 3 rfl <| gB 14 rfl rfl rfl ?_ ?_ <;> intro hd
 replace hd := (of_decide_eq_true hd)
 replace h := h.1 hd
 refine gR 9 rfl ?_
 subst h
 exact go_end ac (rs := [.tmp 4]) rfl rfl rfl
 replace hd := (of_decide_eq_false hd)
 replace h := h.2 hd
 refine gR 9 rfl ?_
 obtain ⟨hb, h⟩ := h
 exact gR 1 rfl <| gV 20 (.int .i64 ((1 + p0.S.length : Nat) : Int)) rfl (ao (by omega) (by omega)) rfl <| gR 9 rfl <| gV 23 (.int .i64 (p0.L.length : Int)) rfl (aO (GDatum.vlen _)) rfl <| gLB 22 rfl (GDatum.vlen _) fun hl5 => gR 4 rfl <| go_loop m <| gJ (h K _ hK (by omega)) [] [] rfl hK pq5 trivial rfl
theorem pd (m : Nat) (p0 : GDatum) (p1 a : Int) (b : Nat) (r0 : Int) (h : ((b < p0.L.length) → ∃ d, p0.L[b]? = some d ∧ ((p1 ≤ a) → a = r0) ∧ ((¬ p1 ≤ a) → InI (p1 - a) ∧ ∃ c, lw d (p1 - a) c ∧ InI (a + c) ∧ b + 1 ≤ 9223372036854775807 ∧ jO m p0 p1 (a + c) (b + 1) r0)) ∧ ((¬ b < p0.L.length) → a = r0)) : jO (m + 1) p0 p1 a b r0 := by
 intro K j1 hK hj1
 obtain ⟨j1, rfl⟩ : ∃ j, j1 = j + 1 := ⟨j1 - 1, by omega⟩
 refine gR 6 rfl <| gB 25 rfl rfl rfl ?_ ?_ <;> intro hd
 replace hd := (ch hd)
 replace h := h.1 hd
 refine gR 7 rfl ?_
 obtain ⟨d, hxx1_1, h⟩ := h
 refine gY (aG (GDatum.vget hxx1_1) ac rfl rfl rfl rfl) rfl rfl <| gR 13 rfl <| gB 30 rfl rfl rfl ?_ ?_ <;> intro hd
 replace hd := (of_decide_eq_true hd)
 replace h := h.1 hd
 refine gR 5 rfl <| go_xloopE <| gR 9 rfl ?_
 subst h
 exact go_end ac (rs := [.tmp 4]) rfl rfl rfl
 replace hd := (of_decide_eq_false hd)
 replace h := h.2 hd
 refine gR 8 rfl ?_
 obtain ⟨hb, h⟩ := h
 refine gR 1 rfl <| gV 35 (.int .i64 (p1 - a)) rfl (ao hb rfl) rfl ?_
 obtain ⟨c, hs6, h⟩ := h
 refine gC0 hs6 (by kernel_rfl) rfl rfl .rfl rfl ?_
 obtain ⟨hb, h⟩ := h
 refine gR 1 rfl <| gV 37 (.int .i64 (a + c)) rfl (ao hb rfl) rfl <| gR 5 rfl ?_
 obtain ⟨hb, h⟩ := h
 exact gR 1 rfl <| gV 38 (.int .i64 ((b + 1 : Nat) : Int)) rfl (ao (by omega) (by omega)) rfl <| gR 2 rfl <| go_xloop <| gJ (h K _ hK (by omega)) [] [] rfl hK pq5 trivial rfl
 replace hd := (cg hd)
 replace h := h.2 hd
 refine gR 3 rfl <| go_xloopE <| gR 9 rfl ?_
 subst h
 exact go_end ac (rs := [.tmp 4]) rfl rfl rfl
theorem tK (m : Nat) (p0 : GDatum) (r0 : Int) (h : ∃ a, lw p0 4097 a ∧ a = r0) : jM p0 r0 := by
 refine ⟨rfl, rfl, ?_⟩
 refine ak 5 [] Tryz.func16 rfl rfl rfl (az rfl) fun K hK => ?_
 refine gR 3 rfl <| gFP 0 rfl rfl rfl rfl <| gR 6 rfl ?_
 obtain ⟨a, hs2, h⟩ := h
 refine gC0 hs2 (by kernel_rfl) rfl rfl .rfl rfl <| gR 4 rfl ?_
 subst h
 exact go_end ac (rs := [.tmp 2]) rfl rfl rfl
def iR (m : Nat) (p0 : GDatum) (a : Nat) (r0 : Bool) : Prop := ∀ (K : Ctx) (j1 : Nat), aq K [] → m ≤ j1 → qLG K Tryz.f35 (fun u _ => u = .bool r0) (cL (xE (xM (xC (xB (xN (ae Tryz.f35))))))) [.loop (cL (xE (xM (xC (xB (xN (ae Tryz.f35))))))) j1, .blk 1, .seq (cB (xM (xC (xB (xN (ae Tryz.f35)))))), .blk 0, .seq (xA (ae Tryz.f35))] 71 (mkF 71 0 [(1, .box (GDatum.c p0) 0), (53, .row 4 (GDatum.vs p0.L)), (54, .int .i64 (p0.L.length : Int)), (55, .int .i64 (a : Int))]) ⟨0, []⟩
theorem tC (m : Nat) (p0 : GDatum) (r0 : Bool) (h : ((p0.Kind = 1) → ((p0.S = []) → ((p0.L.length : Int) == 0) = r0) ∧ ((p0.S ≠ []) → false = r0)) ∧ ((p0.Kind ≠ 1) → ((p0.Kind = 2) → ((p0.N = 0) → ((p0.L.length : Int) == 0) = r0) ∧ ((p0.N ≠ 0) → false = r0)) ∧ ((p0.Kind ≠ 2) → ((p0.Kind = 3) → ((p0.S = []) → (((p0.L.length : Int) = 0) → ((p0.N = 0) → true = r0) ∧ ((p0.N ≠ 0) → (p0.N == 1) = r0)) ∧ (((p0.L.length : Int) ≠ 0) → false = r0)) ∧ ((p0.S ≠ []) → false = r0)) ∧ ((p0.Kind ≠ 3) → ((p0.Kind = 4) → iR m p0 0 r0) ∧ ((p0.Kind ≠ 4) → false = r0))))) : jL p0 r0 := by
 refine ⟨rfl, rfl, ?_⟩
 refine ak 71 [] Tryz.func35 rfl rfl rfl (az rfl) fun K hK => ?_
 refine gR 3 rfl <| gFP 0 rfl rfl rfl rfl <| gR 17 rfl <| gB 7 rfl rfl rfl ?_ ?_ <;> intro hd
 refine gT 8 rfl hd rfl ?_
 replace hd := (eq_of_beq hd)
 replace h := h.1 hd
 refine gR 7 rfl <| gB 12 rfl rfl rfl ?_ ?_ <;> intro hd
 refine gT 11 rfl hd rfl ?_
 replace hd := (eq_of_beq hd)
 replace h := h.1 hd
 refine gR 3 rfl <| gV 15 (.int .i64 (p0.L.length : Int)) rfl (aO (GDatum.vlen _)) rfl <| gLB 14 rfl (GDatum.vlen _) fun hl11 => gR 8 rfl ?_
 subst h
 exact go_end ac (rs := [.tmp 2]) rfl rfl rfl
 refine gF 11 rfl hd rfl ?_
 replace hd := (ne_of_beq_false hd)
 replace h := h.2 hd
 refine gR 11 rfl ?_
 subst h
 exact go_end ac (rs := [.tmp 2]) rfl rfl rfl
 refine gF 8 rfl hd rfl ?_
 replace hd := (ne_of_beq_false hd)
 replace h := h.2 hd
 refine gR 7 rfl <| gB 18 rfl rfl rfl ?_ ?_ <;> intro hd
 refine gT 19 rfl hd rfl ?_
 replace hd := (eq_of_beq hd)
 replace h := h.1 hd
 refine gR 7 rfl <| gB 23 rfl rfl rfl ?_ ?_ <;> intro hd
 refine gT 22 rfl hd rfl ?_
 replace hd := (eq_of_beq hd)
 replace h := h.1 hd
 refine gR 3 rfl <| gV 26 (.int .i64 (p0.L.length : Int)) rfl (aO (GDatum.vlen _)) rfl <| gLB 25 rfl (GDatum.vlen _) fun hl12 => gR 8 rfl ?_
 subst h
 exact go_end ac (rs := [.tmp 2]) rfl rfl rfl
 refine gF 22 rfl hd rfl ?_
 replace hd := (ne_of_beq_false hd)
 replace h := h.2 hd
 refine gR 11 rfl ?_
 subst h
 exact go_end ac (rs := [.tmp 2]) rfl rfl rfl
 refine gF 19 rfl hd rfl ?_
 replace hd := (ne_of_beq_false hd)
 replace h := h.2 hd
 refine gR 7 rfl <| gB 29 rfl rfl rfl ?_ ?_ <;> intro hd
 refine gT 30 rfl hd rfl ?_
 replace hd := (eq_of_beq hd)
 replace h := h.1 hd
 refine gR 7 rfl <| gB 34 rfl rfl rfl ?_ ?_ <;> intro hd
 refine gT 33 rfl hd rfl ?_
 replace hd := (eq_of_beq hd)
 replace h := h.1 hd
 refine gR 3 rfl <| gV 37 (.int .i64 (p0.L.length : Int)) rfl (aO (GDatum.vlen _)) rfl <| gLB 36 rfl (GDatum.vlen _) fun hl13 => gR 3 rfl <| gB 40 rfl rfl rfl ?_ ?_ <;> intro hd
 refine gT 39 rfl hd rfl ?_
 replace hd := (eq_of_beq hd)
 replace h := h.1 hd
 refine gR 4 rfl <| gB 44 rfl rfl rfl ?_ ?_ <;> intro hd
 refine gT 43 rfl hd rfl ?_
 replace hd := (eq_of_beq hd)
 replace h := h.1 hd
 refine gR 11 rfl ?_
 subst h
 exact go_end ac (rs := [.tmp 2]) rfl rfl rfl
 refine gF 43 rfl hd rfl ?_
 replace hd := (ne_of_beq_false hd)
 replace h := h.2 hd
 refine gR 11 rfl ?_
 subst h
 exact go_end ac (rs := [.tmp 2]) rfl rfl rfl
 refine gF 39 rfl hd rfl ?_
 replace hd := (ne_of_beq_false hd)
 replace h := h.2 hd
 refine gR 15 rfl ?_
 subst h
 exact go_end ac (rs := [.tmp 2]) rfl rfl rfl
 refine gF 33 rfl hd rfl ?_
 replace hd := (ne_of_beq_false hd)
 replace h := h.2 hd
 refine gR 21 rfl ?_
 subst h
 exact go_end ac (rs := [.tmp 2]) rfl rfl rfl
 refine gF 30 rfl hd rfl ?_
 replace hd := (ne_of_beq_false hd)
 replace h := h.2 hd
 refine gR 7 rfl <| gB 50 rfl rfl rfl ?_ ?_ <;> intro hd
 refine gT 51 rfl hd rfl ?_
 replace hd := (eq_of_beq hd)
 replace h := h.1 hd
 exact gR 7 rfl <| gV 54 (.int .i64 (p0.L.length : Int)) rfl (aO (GDatum.vlen _)) rfl <| gLB 53 rfl (GDatum.vlen _) fun hl14 => gR 4 rfl <| go_loop m <| gJ (h K _ hK (by omega)) [] [] rfl hK pq4 trivial rfl
 refine gF 51 rfl hd rfl ?_
 replace hd := (ne_of_beq_false hd)
 replace h := h.2 hd
 refine gR 10 rfl ?_
 subst h
 exact go_end ac (rs := [.tmp 2]) rfl rfl rfl
theorem nI (m : Nat) (p0 : GDatum) (a : Nat) (r0 : Bool) (h : ((a < p0.L.length) → ∃ c, p0.L[a]? = some c ∧ ∃ b, jL c b ∧ ((b = false) → false = r0) ∧ ((b = true) → a + 1 ≤ 9223372036854775807 ∧ iR m p0 (a + 1) r0)) ∧ ((¬ a < p0.L.length) → ((p0.S = []) → (p0.N == 0) = r0) ∧ ((p0.S ≠ []) → false = r0))) : iR (m + 1) p0 a r0 := by
 intro K j1 hK hj1
 obtain ⟨j1, rfl⟩ : ∃ j, j1 = j + 1 := ⟨j1 - 1, by omega⟩
 refine gR 6 rfl <| gB 56 rfl rfl rfl ?_ ?_ <;> intro hd
 replace hd := (ch hd)
 replace h := h.1 hd
 refine gR 7 rfl ?_
 obtain ⟨c, hxx1_1, h⟩ := h
 refine gY (aG (GDatum.vget hxx1_1) ac rfl rfl rfl rfl) rfl rfl <| gR 8 rfl ?_
 obtain ⟨b, hs15, h⟩ := h
 refine gC0 hs15 (by kernel_rfl) rfl rfl .rfl rfl <| gR 3 rfl <| gB 61 rfl rfl rfl ?_ ?_ <;> intro hd
 replace hd := (cr hd)
 replace h := h.1 hd
 refine gR 9 rfl <| go_xloopR <| gR 4 rfl ?_
 subst h
 exact go_end ac (rs := [.tmp 2]) rfl rfl rfl
 replace hd := (ct hd)
 replace h := h.2 hd
 refine gR 5 rfl ?_
 obtain ⟨hb, h⟩ := h
 exact gR 1 rfl <| gV 62 (.int .i64 ((a + 1 : Nat) : Int)) rfl (ao (by omega) (by omega)) rfl <| gR 2 rfl <| go_xloop <| gJ (h K _ hK (by omega)) [] [] rfl hK pq4 trivial rfl
 replace hd := (cg hd)
 replace h := h.2 hd
 refine gR 3 rfl <| go_xloopE <| gR 8 rfl <| gB 66 rfl rfl rfl ?_ ?_ <;> intro hd
 refine gT 65 rfl hd rfl ?_
 replace hd := (eq_of_beq hd)
 replace h := h.1 hd
 refine gR 10 rfl ?_
 subst h
 exact go_end ac (rs := [.tmp 2]) rfl rfl rfl
 refine gF 65 rfl hd rfl ?_
 replace hd := (ne_of_beq_false hd)
 replace h := h.2 hd
 refine gR 10 rfl ?_
 subst h
 exact go_end ac (rs := [.tmp 2]) rfl rfl rfl
theorem uN (m : Nat) (p0 : GDatum) (r0 : Bool) (h : ∃ a, jM p0 a ∧ ((a ≤ 4096) → ∃ b, jL p0 b ∧ b = r0) ∧ ((¬ a ≤ 4096) → false = r0)) : kK p0 r0 := by
 refine ⟨rfl, rfl, ?_⟩
 refine ak 10 [] Tryz.func14 rfl rfl rfl (az rfl) fun K hK => ?_
 refine gR 3 rfl <| gFP 0 rfl rfl rfl rfl <| gR 6 rfl ?_
 obtain ⟨a, hs3, h⟩ := h
 refine gC0 hs3 (by kernel_rfl) rfl rfl .rfl rfl <| gR 2 rfl <| qBdZ 6 5 rfl rfl rfl rfl h (fun h => ?_) fun h => ?_
 refine gR 1 rfl ?_
 obtain ⟨b, hs4, h⟩ := h
 refine gC0 hs4 (by kernel_rfl) rfl rfl .rfl rfl <| gR 5 rfl ?_
 subst h
 exact go_end ac (rs := [.tmp 2]) rfl rfl rfl
 refine gR 7 rfl ?_
 subst h
 exact go_end ac (rs := [.tmp 2]) rfl rfl rfl
def lh (m : Nat) (p0 p1 : GDatum) (a : Nat) (r0 : Bool) : Prop := ∀ (K : Ctx) (j1 : Nat), aq K [] → m ≤ j1 → qLG K Tryz.f18 (fun u _ => u = .bool r0) (xI (ae Tryz.f18)) [.loop (xI (ae Tryz.f18)) j1, .blk 0, .seq (xH (ae Tryz.f18))] 53 (mkF 53 0 [(2, .box (GDatum.c p0) 0), (3, .box (GDatum.c p1) 0), (36, .int .i64 (p0.L.length : Int)), (37, .int .i64 (a : Int))]) ⟨0, []⟩
theorem wt (m : Nat) (p0 p1 : GDatum) (r0 : Bool) (h : ((p0.Kind ≠ p1.Kind) → false = r0) ∧ ((p0.Kind = p1.Kind) → ((p0.N ≠ p1.N) → false = r0) ∧ ((p0.N = p1.N) → ((p0.S ≠ p1.S) → false = r0) ∧ ((p0.S = p1.S) → ((p0.L.length ≠ p1.L.length) → false = r0) ∧ ((p0.L.length = p1.L.length) → lh m p0 p1 0 r0))))) : dN p0 p1 r0 := by
 refine ⟨rfl, rfl, ?_⟩
 refine ak 53 [] Tryz.func18 rfl rfl rfl (az rfl) fun K hK => ?_
 refine gR 3 rfl <| gFP 0 rfl rfl rfl rfl <| gR 1 rfl <| gFP 1 rfl rfl rfl rfl <| gR 12 rfl <| gB 11 rfl rfl rfl ?_ ?_ <;> intro hd
 refine gT 10 rfl hd rfl ?_
 replace hd := (cz hd)
 replace h := h.1 hd
 refine gR 32 rfl ?_
 subst h
 exact go_end ac (rs := [.tmp 4]) rfl rfl rfl
 refine gF 10 rfl hd rfl ?_
 replace hd := (bN hd)
 replace h := h.2 hd
 refine gR 7 rfl <| gB 18 rfl rfl rfl ?_ ?_ <;> intro hd
 refine gT 17 rfl hd rfl ?_
 replace hd := (cz hd)
 replace h := h.1 hd
 refine gR 25 rfl ?_
 subst h
 exact go_end ac (rs := [.tmp 4]) rfl rfl rfl
 refine gF 17 rfl hd rfl ?_
 replace hd := (bN hd)
 replace h := h.2 hd
 refine gR 7 rfl <| gB 25 rfl rfl rfl ?_ ?_ <;> intro hd
 refine gT 24 rfl hd rfl ?_
 replace hd := (cz hd)
 replace h := h.1 hd
 refine gR 18 rfl ?_
 subst h
 exact go_end ac (rs := [.tmp 4]) rfl rfl rfl
 refine gF 24 rfl hd rfl ?_
 replace hd := (bN hd)
 replace h := h.2 hd
 refine gR 3 rfl <| gV 28 (.int .i64 (p0.L.length : Int)) rfl (aO (GDatum.vlen _)) rfl <| gLB 27 rfl (GDatum.vlen _) fun hl7 => gR 3 rfl <| gV 31 (.int .i64 (p1.L.length : Int)) rfl (aO (GDatum.vlen _)) rfl <| gLB 30 rfl (GDatum.vlen _) fun hl8 => gR 4 rfl <| gB 33 rfl rfl rfl ?_ ?_ <;> intro hd
 replace hd := (Ei hd)
 replace h := h.1 hd
 refine gR 8 rfl ?_
 subst h
 exact go_end ac (rs := [.tmp 4]) rfl rfl rfl
 replace hd := (FC hd)
 replace h := h.2 hd
 exact gR 9 rfl <| gV 36 (.int .i64 (p0.L.length : Int)) rfl (aO (GDatum.vlen _)) rfl <| gR 4 rfl <| go_loop m <| gJ (h K _ hK (by omega)) [] [] rfl hK pq4 trivial rfl
theorem qm (m : Nat) (p0 p1 : GDatum) (a : Nat) (r0 : Bool) (h : ((a < p0.L.length) → ∃ c, p0.L[a]? = some c ∧ ∃ d, p1.L[a]? = some d ∧ ∃ b, dN c d b ∧ ((b = false) → false = r0) ∧ ((b = true) → a + 1 ≤ 9223372036854775807 ∧ lh m p0 p1 (a + 1) r0)) ∧ ((¬ a < p0.L.length) → true = r0)) : lh (m + 1) p0 p1 a r0 := by
 intro K j1 hK hj1
 obtain ⟨j1, rfl⟩ : ∃ j, j1 = j + 1 := ⟨j1 - 1, by omega⟩
 refine gR 6 rfl <| gB 38 rfl rfl rfl ?_ ?_ <;> intro hd
 replace hd := (ch hd)
 replace h := h.1 hd
 refine gR 12 rfl <| gDs [] 12 12 rfl (by kernel_rfl) (by kernel_rfl) <| gDr [(0, 2), (1, 2), (2, 2)] (by kernel_rfl) rfl rfl ?_
 obtain ⟨c, hxx1_1, h⟩ := h
 refine gYd 3 rfl (by kernel_rfl) (aG (GDatum.vget hxx1_1) ac rfl rfl rfl rfl) rfl rfl <| gDr [(4, 2), (5, 2), (6, 2), (7, 0)] (by kernel_rfl) rfl rfl ?_
 obtain ⟨d, hxx1_2, h⟩ := h
 refine ev 8 rfl (by kernel_rfl) (aG (GDatum.vget hxx1_2) ac rfl rfl rfl rfl) rfl rfl ?_
 refine gDr [(9, 0)] (by kernel_rfl) rfl rfl ?_
 obtain ⟨b, hs9, h⟩ := h
 refine aN 10 hs9 (by kernel_rfl) rfl (by kernel_rfl) rfl rfl .rfl rfl rfl ?_
 refine gDr [(11, 0)] (by kernel_rfl) rfl rfl <| gDe (by kernel_rfl) <| gR 1 rfl <| gB 51 rfl rfl rfl ?_ ?_ <;> intro hd
 replace hd := (cr hd)
 replace h := h.1 hd
 refine gR 9 rfl <| go_xloopR <| gR 2 rfl ?_
 subst h
 exact go_end ac (rs := [.tmp 4]) rfl rfl rfl
 replace hd := (ct hd)
 replace h := h.2 hd
 refine gR 5 rfl ?_
 obtain ⟨hb, h⟩ := h
 exact gR 1 rfl <| gV 52 (.int .i64 ((a + 1 : Nat) : Int)) rfl (ao (by omega) (by omega)) rfl <| gR 2 rfl <| go_xloop <| gJ (h K _ hK (by omega)) [] [] rfl hK pq4 trivial rfl
 replace hd := (cg hd)
 replace h := h.2 hd
 refine gR 3 rfl <| go_xloopE <| gR 8 rfl ?_
 subst h
 exact go_end ac (rs := [.tmp 4]) rfl rfl rfl
def iP (m : Nat) (p0 : GDatum) (a : List GDatum) (b : Nat) (r0 : GDatum) : Prop := ∀ (K : Ctx) (j1 : Nat), aq K [] → m ≤ j1 → qLG K Tryz.f46 (fun u _ => u = .agg (GDatum.c r0)) (xI (ae Tryz.f46)) [.loop (xI (ae Tryz.f46)) j1, .blk 0, .seq (xH (ae Tryz.f46))] 22 (mkF 22 0 [(1, .ptr 0 0), (2, .ptr 1 0), (3, .sl 2), (7, .row 4 (GDatum.vs p0.L)), (8, .int .i64 (p0.L.length : Int)), (9, .int .i64 (b : Int))]) ⟨3, [(2, .row 24 4 (GDatum.vs a)), (1, .var 24 [.int .i64 0, .int .i64 0, .str [], .nils]), (0, .var 24 (GDatum.c p0))]⟩
theorem tV (m : Nat) (p0 r0 : GDatum) (h : iP m p0 ([] : List GDatum) 0 r0) : jK p0 r0 := by
 refine ⟨rfl, rfl, ?_⟩
 refine ak 22 [] Tryz.func46 rfl rfl rfl (az rfl) fun K hK => ?_
 exact gR 17 rfl <| gV 8 (.int .i64 (p0.L.length : Int)) rfl (aO (GDatum.vlen _)) rfl <| gLB 7 rfl (GDatum.vlen _) fun hl5 => gR 4 rfl <| go_loop m <| gNS 3 24 4 rfl rfl rfl rfl <| gJ (h K _ hK (by omega)) [0, 1, 2] [] rfl hK pq6 ⟨⟨_, rfl, rfl, rfl, rfl⟩, (pqo2 rfl rfl rfl rfl)⟩ rfl
theorem nV (m : Nat) (p0 : GDatum) (a : List GDatum) (c : Nat) (r0 : GDatum) (h : ((c < p0.L.length) → ∃ d, p0.L[c]? = some d ∧ ∃ b, jK d b ∧ (a ++ [b]).length ≤ 1000000000 ∧ c + 1 ≤ 9223372036854775807 ∧ iP m p0 (a ++ [b]) (c + 1) r0) ∧ ((¬ c < p0.L.length) → (GDatum.mk p0.Kind p0.N p0.S a) = r0)) : iP (m + 1) p0 a c r0 := by
 intro K j1 hK hj1
 obtain ⟨j1, rfl⟩ : ∃ j, j1 = j + 1 := ⟨j1 - 1, by omega⟩
 refine gR 6 rfl <| gB 10 rfl rfl rfl ?_ ?_ <;> intro hd
 replace hd := (ch hd)
 replace h := h.1 hd
 refine gR 7 rfl ?_
 obtain ⟨d, hxx1_1, h⟩ := h
 refine gY (aG (GDatum.vget hxx1_1) ac rfl rfl rfl rfl) rfl rfl <| gR 8 rfl ?_
 obtain ⟨b, hs6, h⟩ := h
 refine gC0 hs6 (by kernel_rfl) rfl rfl .rfl rfl <| gR 1 rfl <| gHR 4 (GDatum.vs [b]) rfl (GDatum.vone b) rfl ?_
 obtain ⟨hb, h⟩ := h
 refine gDo (.repl 2 (.row 24 4 (GDatum.vs (a ++ [b])))) (bu ac rfl rfl rfl rfl rfl (GDatum.vapp a [b]).symm (by rw [GDatum.vlen]; exact hb)) (okR rfl) rfl rfl rfl <| gR 5 rfl ?_
 obtain ⟨hb, h⟩ := h
 exact gR 1 rfl <| gV 18 (.int .i64 ((c + 1 : Nat) : Int)) rfl (ao (by omega) (by omega)) rfl <| gR 2 rfl <| go_xloop <| gJ (h K _ hK (by omega)) [0, 1, 5] [] rfl hK pq6 ⟨⟨_, rfl, rfl, rfl, (GDatum.vren _ (a ++ [b])).symm⟩, (pqo2 rfl rfl rfl rfl)⟩ rfl
 replace hd := (cg hd)
 replace h := h.2 hd
 refine gR 3 rfl <| go_xloopE <| gR 16 rfl <| gFR 2 rfl (GDatum.vpure _) rfl rfl ?_
 subst h
 exact go_sub (F' := (mkF 22 0 [(2, .ptr 0 0)])) (H' := ⟨1, [(0, .var 24 (GDatum.c (GDatum.mk p0.Kind p0.N p0.S a)))]⟩) [1] [] rfl hK pq1 (pqo1 rfl rfl) rfl <| go_end ac (rs := [.cell 2 24]) rfl rfl rfl
def ek (m : Nat) (p0 : GDatum) (p1 a : Int) (b : Nat) (r0 : Int) : Prop := ∀ (K : Ctx) (j1 : Nat), aq K [] → m ≤ j1 → qLG K Tryz.f34 (fun u _ => u = .int .i64 r0) (xI (ae Tryz.f34)) [.loop (xI (ae Tryz.f34)) j1, .blk 0, .seq (xH (ae Tryz.f34))] 31 (mkF 31 0 [(1, .int .i64 p1), (2, .box (GDatum.c p0) 0), (5, .int .i64 a), (6, .int .i64 (b : Int))]) ⟨0, []⟩
theorem pX (m : Nat) (p0 : GDatum) (p1 r0 : Int) (h : ek m p0 p1 1 0 r0) : fc p0 p1 r0 := by
 refine ⟨rfl, rfl, ?_⟩
 refine ak 31 [] Tryz.func34 rfl rfl rfl (az rfl) fun K hK => ?_
 exact gR 3 rfl <| gFP 0 rfl rfl rfl rfl <| gR 15 rfl <| go_loop m <| gJ (h K _ hK (by omega)) [] [] rfl hK pq4 trivial rfl
theorem kp (m : Nat) (p0 : GDatum) (p1 a : Int) (b : Nat) (r0 : Int) (h : ((b < p0.L.length) → ((a < p1) → ∃ d, p0.L[b]? = some d ∧ InI (p1 - a) ∧ ∃ c, fc d (p1 - a) c ∧ InI (a + c) ∧ ek m p0 p1 (a + c) (b + 1) r0) ∧ ((¬ a < p1) → a = r0)) ∧ ((¬ b < p0.L.length) → a = r0)) : ek (m + 1) p0 p1 a b r0 := by
 intro K j1 hK hj1
 obtain ⟨j1, rfl⟩ : ∃ j, j1 = j + 1 := ⟨j1 - 1, by omega⟩
 refine gR 7 rfl <| gV 10 (.int .i64 (p0.L.length : Int)) rfl (aO (GDatum.vlen _)) rfl <| gLB 9 rfl (GDatum.vlen _) fun hl5 => gR 2 rfl <| gB 12 rfl rfl rfl ?_ ?_ <;> intro hd
 refine gT 11 rfl hd rfl ?_
 replace hd := (ch hd)
 replace h := h.1 hd
 refine gR 6 rfl <| gB 16 rfl rfl rfl ?_ ?_ <;> intro hd
 replace hd := (of_decide_eq_true hd)
 replace h := h.1 hd
 refine gR 10 rfl ?_
 obtain ⟨d, hxx1_1, h⟩ := h
 refine gY (aG (GDatum.vget hxx1_1) ac rfl rfl rfl rfl) rfl rfl <| gR 3 rfl ?_
 obtain ⟨hb, h⟩ := h
 refine gR 1 rfl <| gV 27 (.int .i64 (p1 - a)) rfl (ao hb rfl) rfl ?_
 obtain ⟨c, hs6, h⟩ := h
 refine gC0 hs6 (by kernel_rfl) rfl rfl .rfl rfl ?_
 obtain ⟨hb, h⟩ := h
 exact gR 1 rfl <| gV 29 (.int .i64 (a + c)) rfl (ao hb rfl) rfl <| gR 7 rfl <| gV 18 (.int .i64 ((b + 1 : Nat) : Int)) rfl (ao (by have := hl5; omega) (by omega)) rfl <| gR 2 rfl <| go_xloop <| gJ (h K _ hK (by omega)) [] [] rfl hK pq4 trivial rfl
 replace hd := (of_decide_eq_false hd)
 replace h := h.2 hd
 refine gR 3 rfl <| go_xloopE <| gR 9 rfl ?_
 subst h
 exact go_end ac (rs := [.tmp 4]) rfl rfl rfl
 refine gF 11 rfl hd rfl ?_
 replace hd := (cg hd)
 replace h := h.2 hd
 refine gR 9 rfl <| go_xloopE <| gR 9 rfl ?_
 subst h
 exact go_end ac (rs := [.tmp 4]) rfl rfl rfl
theorem pJ (m : Nat) (p0 : GDatum) (r0 : Bool) (h : ∃ a, fc p0 3000 a ∧ decide (a < 3000) = r0) : eW p0 r0 := by
 refine ⟨rfl, rfl, ?_⟩
 refine ak 6 [] Tryz.func12 rfl rfl rfl (az rfl) fun K hK => ?_
 refine gR 3 rfl <| gFP 0 rfl rfl rfl rfl <| gR 6 rfl ?_
 obtain ⟨a, hs2, h⟩ := h
 refine gC0 hs2 (by kernel_rfl) rfl rfl .rfl rfl <| gR 5 rfl ?_
 subst h
 exact go_end ac (rs := [.tmp 2]) rfl rfl rfl
theorem oX (m : Nat) (p0 : Int) (r0 : GDatum) (h : (GDatum.mk 1 p0 [] []) = r0) : dm p0 r0 := by
 refine ⟨rfl, rfl, ?_⟩
 refine ak 5 [] Tryz.func28 rfl rfl rfl (az rfl) fun K hK => ?_
 refine gR 13 rfl ?_
 subst h
 exact go_sub (F' := (mkF 5 0 [(2, .ptr 0 0)])) (H' := ⟨1, [(0, .var 24 [.int .i64 ((GDatum.mk 1 p0 [] []).Kind), .int .i64 ((GDatum.mk 1 p0 [] []).N), .str ((GDatum.mk 1 p0 [] []).S), .row 4 (GDatum.vs ((GDatum.mk 1 p0 [] []).L))])]⟩) [0] [] rfl hK pq1 ⟨⟨_, rfl, rfl, (.cons .rfl (.cons .rfl (.cons .rfl (.cons (.nil 4) .nil))))⟩, trivial⟩ rfl <| go_end ac (rs := [.cell 2 24]) rfl rfl rfl
end Go.Proofs.YthnohcipianijaaGreatDoor
namespace Go.Proofs.YthnohcipianijaaGreatDoor
open Go.RowKit Lx Sx
set_option maxRecDepth 100000
set_option maxHeartbeats 4000000
def jU (p0 r0 : List Int) : Prop := cx [0] Tryz.prog 101 [.sl 0] ⟨1, [(0, .row 3 1 (List.map (V.int .i64) p0))]⟩ (fun u G => u = .row 1 (List.map (V.int .i64) r0) ∧ G = ⟨1, [(0, .row 3 1 (List.map (V.int .i64) p0))]⟩)
theorem rG (m : Nat) (p0 r0 : List Int) (h : ∀ (a : Bool), (a = true → p0.length = 0) → ((a = true) → [] = r0) ∧ ((a = false) → p0.length ≤ 1000000000 ∧ p0 = r0)) : jU p0 r0 := by
 refine ak 8 [0] Tryz.func101 rfl rfl rfl (az rfl) fun K hK => ?_
 refine gR 9 rfl <| Gj (N := p0.length) ac rfl rfl rfl rfl (aY (V.int .i64) p0) fun a hb => ?_
 replace h := h a hb
 refine gR 2 rfl <| qBi 4 rfl rfl rfl h (fun h => ?_) fun h => ?_
 refine gR 8 rfl ?_
 subst h
 exact go_sub (F' := (mkF 8 0 [(2, .row 1 (List.map (V.int .i64) []))])) (H' := ⟨1, [(0, .row 3 1 (List.map (V.int .i64) p0))]⟩) [0] [0] rfl hK ⟨⟨_, rfl, (.nil 1)⟩, trivial⟩ ⟨⟨_, rfl, rfl, rfl, (am _ (V.int .i64) (fun _ => rfl) p0).symm⟩, trivial⟩ rfl <| go_endD [] ac (rs := [.tmp 2]) rfl rfl ⟨rfl, rfl⟩
 refine gR 7 rfl ?_
 obtain ⟨hb, h⟩ := h
 refine gDo (.repl 1 (.row 3 1 (List.map (V.int .i64) p0))) (bu ac rfl rfl rfl rfl rfl (List.nil_append _) (by rw [aY]; exact hb)) (okR rfl) rfl rfl rfl <| gR 4 rfl <| gFR 2 rfl (gW _ (fun _ => rfl) _) rfl rfl ?_
 subst h
 exact go_sub (F' := (mkF 8 0 [(2, .row 1 (List.map (V.int .i64) p0))])) (H' := ⟨1, [(0, .row 3 1 (List.map (V.int .i64) p0))]⟩) [0] [0] rfl hK pq1 ⟨⟨_, rfl, rfl, rfl, (am _ (V.int .i64) (fun _ => rfl) p0).symm⟩, trivial⟩ rfl <| go_endD [] ac (rs := [.tmp 2]) rfl rfl ⟨rfl, rfl⟩
end Go.Proofs.YthnohcipianijaaGreatDoor
namespace Go.Proofs.YthnohcipianijaaGreatDoor
open Go.RowKit Lx Sx
set_option maxRecDepth 100000
set_option maxHeartbeats 4000000
def wE (p0 : List UInt8) (r0 : Int) : Prop := qS 143 [.str p0] (.int .i64 r0)
def qr (p0 : List UInt8) (r0 : Int) : Prop := qS 140 [.str p0] (.int .i64 r0)
def lX (p0 p1 r0 : Int) : Prop := qS 97 [.int .i64 p0, .int .i64 p1] (.int .i64 r0)
def dK (p0 p1 p2 r0 : Int) : Prop := qS 142 [.int .i64 p0, .int .i64 p1, .int .i64 p2] (.int .i64 r0)
def iw (p0 : Int) (r0 : Bool) : Prop := qS 146 [.int .i64 p0] (.bool r0)
def cW (p0 : Int) (r0 : Bool) : Prop := qS 145 [.int .i64 p0] (.bool r0)
def kH (p0 : Int) (r0 : Bool) : Prop := qS 147 [.int .i64 p0] (.bool r0)
def jl (p0 : List UInt8) (r0 : Bool) : Prop := qS 144 [.str p0] (.bool r0)
def li (p0 : Int) (p1 : List UInt8) (r0 : Bool) : Prop := qS 98 [.int .i64 p0, .str p1] (.bool r0)
def lR (p0 : Tree) (p1 : Int) (r0 : Bool) : Prop := qS 99 [.agg (an p0), .int .i64 p1] (.bool r0)
def fQ (p0 : Tree) (r0 : Bool) : Prop := qS 66 [.agg (an p0)] (.bool r0)
def dF (p0 p1 r0 : Int) : Prop := qS 108 [.int .i64 p0, .int .i64 p1] (.int .i64 r0)
def bK (p0 p1 p2 r0 : Int) : Prop := qS 153 [.int .i64 p0, .int .i64 p1, .int .i64 p2] (.int .i64 r0)
def eE (p0 : Int) (r0 : Bool) : Prop := qS 156 [.int .i64 p0] (.bool r0)
def dk (p0 : Int) (r0 : Bool) : Prop := qS 155 [.int .i64 p0] (.bool r0)
def ej (p0 : Int) (r0 : Bool) : Prop := qS 157 [.int .i64 p0] (.bool r0)
def eU (p0 : List UInt8) (r0 : Bool) : Prop := qS 154 [.str p0] (.bool r0)
def gh (p0 : Int) (p1 : List UInt8) (r0 : Bool) : Prop := qS 109 [.int .i64 p0, .str p1] (.bool r0)
def jj (p0 : Tree) (p1 p2 : Int) (r0 : Bool) : Prop := qS 110 [.agg (an p0), .int .i64 p1, .int .i64 p2] (.bool r0)
def dn (p0 : Tree) (r0 : Bool) : Prop := qS 70 [.agg (an p0)] (.bool r0)
def aD (m : Nat) (p1 : Int) (a b c : Nat) (d r0 : Int) : Prop := ∀ (K : Ctx), aq K [] → qLG K Tryz.f97 (fun u _ => u = .int .i64 r0) (xJ (ae Tryz.f97)) [] 69 (mkF 69 0 [(1, .int .i64 p1), (5, .int .i64 (a : Int)), (6, .int .i64 d), (7, .int .i64 (b : Int)), (8, .int .i64 (c : Int))]) ⟨0, []⟩
def iv (m : Nat) (p0 p1 : Int) (a : Bool) (r0 : Int) : Prop := ∀ (K : Ctx), aq K [] → qLG K Tryz.f97 (fun u _ => u = .int .i64 r0) (cB (xG (xK (cB (ae Tryz.f97))))) [.blk 0, .seq (xJ (ae Tryz.f97))] 69 (mkF 69 0 [(1, .int .i64 p1), (5, .int .i64 0), (6, .int .i64 0), (7, .int .i64 1), (8, .int .i64 0), (9, .int .i64 p0), (22, .bool a)]) ⟨0, []⟩
def ip (m : Nat) (p1 : Int) (a b c : Nat) (d r0 : Int) : Prop := ∀ (K : Ctx), aq K [] → qLG K Tryz.f97 (fun u _ => u = .int .i64 r0) (xA (xH (ae Tryz.f97))) [] 69 (mkF 69 0 [(1, .int .i64 p1), (5, .int .i64 (a : Int)), (6, .int .i64 d), (7, .int .i64 (b : Int)), (8, .int .i64 (c : Int))]) ⟨0, []⟩
theorem sX (m : Nat) (p0 p1 r0 : Int) (h : ((p0 = 1) → ∃ a, dK p1 0 3 a ∧ a = r0) ∧ ((p0 ≠ 1) → ((p0 = 2) → aD m p1 2 6 2 (-1) r0) ∧ ((p0 ≠ 2) → ((p0 = 16) → aD m p1 0 3 0 (-1) r0) ∧ ((p0 ≠ 16) → ((p0 = 18) → aD m p1 1 2 0 (-1) r0) ∧ ((p0 ≠ 18) → ((p0 = 3) → aD m p1 1 3 0 1 r0) ∧ ((p0 ≠ 3) → ((p0 = 4) → iv m p0 p1 true r0) ∧ ((p0 ≠ 4) → ((p0 = 8) → iv m p0 p1 true r0) ∧ ((p0 ≠ 8) → iv m p0 p1 (p0 == 22) r0)))))))) : lX p0 p1 r0 := by
 refine ⟨rfl, rfl, ?_⟩
 refine ak 69 [] Tryz.func97 rfl rfl rfl (az rfl) fun K hK => ?_
 refine gR 30 rfl <| qBeZ 10 11 rfl rfl rfl rfl h (fun h => ?_) fun h => ?_
 refine gR 4 rfl ?_
 obtain ⟨a, hs17, h⟩ := h
 refine gC0 hs17 (by kernel_rfl) rfl rfl .rfl rfl <| gR 6 rfl ?_
 subst h
 exact go_end ac (rs := [.tmp 4]) rfl rfl rfl
 refine gR 7 rfl <| qBeZ 14 15 rfl rfl rfl rfl h (fun h => ?_) fun h => ?_
 exact gR 9 rfl <| gJ (h K hK) [] [] rfl hK pq5 trivial rfl
 refine gR 7 rfl <| qBeZ 16 17 rfl rfl rfl rfl h (fun h => ?_) fun h => ?_
 exact gR 9 rfl <| gJ (h K hK) [] [] rfl hK pq5 trivial rfl
 refine gR 7 rfl <| qBeZ 18 19 rfl rfl rfl rfl h (fun h => ?_) fun h => ?_
 exact gR 9 rfl <| gJ (h K hK) [] [] rfl hK pq5 trivial rfl
 refine gR 7 rfl <| qBeZ 20 21 rfl rfl rfl rfl h (fun h => ?_) fun h => ?_
 exact gR 8 rfl <| gJ (h K hK) [] [] rfl hK pq5 trivial rfl
 refine gR 8 rfl <| qBeZ 22 23 rfl rfl rfl rfl h (fun h => ?_) fun h => ?_
 exact gR 3 rfl <| gJ (h K hK) [] [] rfl hK pq7 trivial rfl
 refine gR 7 rfl <| qBeZ 22 24 rfl rfl rfl rfl h (fun h => ?_) fun h => ?_
 exact gR 3 rfl <| gJ (h K hK) [] [] rfl hK pq7 trivial rfl
 exact gR 6 rfl <| gJ (h K hK) [] [] rfl hK pq7 trivial rfl
theorem rU (m : Nat) (p1 : Int) (b c d : Nat) (a r0 : Int) (h : ((0 ≤ a) → ((a < p1) → (-1) = r0) ∧ ((¬ a < p1) → ip m p1 b c d a r0)) ∧ ((¬ 0 ≤ a) → ip m p1 b c d a r0)) : aD (m + 1) p1 b c d a r0 := by
 intro K hK
 refine gR 6 rfl <| qBdZ 47 46 rfl rfl rfl rfl h (fun h => ?_) fun h => ?_
 refine gR 6 rfl <| qBd 51 rfl rfl rfl h (fun h => ?_) fun h => ?_
 refine gR 8 rfl ?_
 subst h
 exact go_end ac (rs := [.tmp 4]) rfl rfl rfl
 exact gR 3 rfl <| gJ (h K hK) [] [] rfl hK pq5 trivial rfl
 exact gR 9 rfl <| gJ (h K hK) [] [] rfl hK pq5 trivial rfl
theorem rW (m : Nat) (p0 p1 : Int) (a : Bool) (r0 : Int) (h : ((a = true) → aD m p1 1 2 0 1 r0) ∧ ((a = false) → ((p0 = 17) → aD m p1 1 0 0 1 r0) ∧ ((p0 ≠ 17) → ((p0 = 19) → aD m p1 3 3 0 3 r0) ∧ ((p0 ≠ 19) → ((p0 = 20) → aD m p1 2 4 0 2 r0) ∧ ((p0 ≠ 20) → ((p0 = 21) → aD m p1 2 1 0 2 r0) ∧ ((p0 ≠ 21) → ((p0 = 5) → aD m p1 0 1 0 0 r0) ∧ ((p0 ≠ 5) → ((p0 = 6) → aD m p1 0 1 0 0 r0) ∧ ((p0 ≠ 6) → ((p0 = 7) → aD m p1 0 1 0 0 r0) ∧ ((p0 ≠ 7) → ((p0 = 9) → aD m p1 0 1 0 0 r0) ∧ ((p0 ≠ 9) → ((p0 = 10) → aD m p1 0 1 0 0 r0) ∧ ((p0 ≠ 10) → ((p0 = 11) → aD m p1 0 1 0 0 r0) ∧ ((p0 ≠ 11) → ((p0 = 12) → aD m p1 0 1 0 0 r0) ∧ ((p0 ≠ 12) → ((p0 = 13) → aD m p1 0 1 0 0 r0) ∧ ((p0 ≠ 13) → ((p0 = 14) → aD m p1 0 1 0 0 r0) ∧ ((p0 ≠ 14) → ((p0 = 15) → aD m p1 0 1 0 0 r0) ∧ ((p0 ≠ 15) → (-1) = r0)))))))))))))))) : iv (m + 1) p0 p1 a r0 := by
 intro K hK
 refine qBi 22 rfl rfl rfl h (fun h => ?_) fun h => ?_
 exact gR 8 rfl <| gJ (h K hK) [] [] rfl hK pq5 trivial rfl
 refine gR 7 rfl <| qBeZ 26 27 rfl rfl rfl rfl h (fun h => ?_) fun h => ?_
 exact gR 8 rfl <| gJ (h K hK) [] [] rfl hK pq5 trivial rfl
 refine gR 7 rfl <| qBeZ 28 29 rfl rfl rfl rfl h (fun h => ?_) fun h => ?_
 exact gR 8 rfl <| gJ (h K hK) [] [] rfl hK pq5 trivial rfl
 refine gR 7 rfl <| qBeZ 30 31 rfl rfl rfl rfl h (fun h => ?_) fun h => ?_
 exact gR 8 rfl <| gJ (h K hK) [] [] rfl hK pq5 trivial rfl
 refine gR 7 rfl <| qBeZ 32 33 rfl rfl rfl rfl h (fun h => ?_) fun h => ?_
 exact gR 8 rfl <| gJ (h K hK) [] [] rfl hK pq5 trivial rfl
 refine gR 8 rfl <| qBeZ 34 35 rfl rfl rfl rfl h (fun h => ?_) fun h => ?_
 exact gR 7 rfl <| gJ (h K hK) [] [] rfl hK pq5 trivial rfl
 refine gR 7 rfl <| qBeZ 34 36 rfl rfl rfl rfl h (fun h => ?_) fun h => ?_
 exact gR 7 rfl <| gJ (h K hK) [] [] rfl hK pq5 trivial rfl
 refine gR 7 rfl <| qBeZ 34 37 rfl rfl rfl rfl h (fun h => ?_) fun h => ?_
 exact gR 7 rfl <| gJ (h K hK) [] [] rfl hK pq5 trivial rfl
 refine gR 7 rfl <| qBeZ 34 38 rfl rfl rfl rfl h (fun h => ?_) fun h => ?_
 exact gR 7 rfl <| gJ (h K hK) [] [] rfl hK pq5 trivial rfl
 refine gR 7 rfl <| qBeZ 34 39 rfl rfl rfl rfl h (fun h => ?_) fun h => ?_
 exact gR 7 rfl <| gJ (h K hK) [] [] rfl hK pq5 trivial rfl
 refine gR 7 rfl <| qBeZ 34 40 rfl rfl rfl rfl h (fun h => ?_) fun h => ?_
 exact gR 7 rfl <| gJ (h K hK) [] [] rfl hK pq5 trivial rfl
 refine gR 7 rfl <| qBeZ 34 41 rfl rfl rfl rfl h (fun h => ?_) fun h => ?_
 exact gR 7 rfl <| gJ (h K hK) [] [] rfl hK pq5 trivial rfl
 refine gR 7 rfl <| qBeZ 34 42 rfl rfl rfl rfl h (fun h => ?_) fun h => ?_
 exact gR 7 rfl <| gJ (h K hK) [] [] rfl hK pq5 trivial rfl
 refine gR 7 rfl <| qBeZ 34 43 rfl rfl rfl rfl h (fun h => ?_) fun h => ?_
 exact gR 7 rfl <| gJ (h K hK) [] [] rfl hK pq5 trivial rfl
 refine gR 6 rfl <| qBeZ 34 44 rfl rfl rfl rfl h (fun h => ?_) fun h => ?_
 exact gR 4 rfl <| gJ (h K hK) [] [] rfl hK pq5 trivial rfl
 refine gR 9 rfl ?_
 subst h
 exact go_end ac (rs := [.tmp 4]) rfl rfl rfl
theorem sh (m : Nat) (p1 : Int) (c b a : Nat) (d r0 : Int) (h : ((d < 0) → (((a : Int) < p1) → InI (p1 - (a : Int)) ∧ InI ((p1 - (a : Int)) - 1) ∧ InI ((b : Int) + ((p1 - (a : Int)) - 1)) ∧ ∃ e, dK p1 (c : Int) ((b : Int) + ((p1 - (a : Int)) - 1)) e ∧ e = r0) ∧ ((¬ (a : Int) < p1) → ∃ f, dK p1 (c : Int) (b : Int) f ∧ f = r0)) ∧ ((¬ d < 0) → ∃ g, dK p1 (c : Int) (b : Int) g ∧ g = r0)) : ip (m + 1) p1 c b a d r0 := by
 intro K hK
 refine gR 6 rfl <| qBdZ 54 53 rfl rfl rfl rfl h (fun h => ?_) fun h => ?_
 refine gR 6 rfl <| qBd 58 rfl rfl rfl h (fun h => ?_) fun h => ?_
 refine gR 5 rfl ?_
 obtain ⟨hb, h⟩ := h
 refine gR 1 rfl <| gV 62 (.int .i64 (p1 - (a : Int))) rfl (ao hb rfl) rfl ?_
 obtain ⟨hb, h⟩ := h
 refine gR 1 rfl <| gV 63 (.int .i64 ((p1 - (a : Int)) - 1)) rfl (ao hb rfl) rfl ?_
 obtain ⟨hb, h⟩ := h
 refine gR 1 rfl <| gV 64 (.int .i64 ((b : Int) + ((p1 - (a : Int)) - 1))) rfl (ao hb rfl) rfl <| gR 8 rfl ?_
 obtain ⟨e, hs18, h⟩ := h
 refine gC0 hs18 (by kernel_rfl) rfl rfl .rfl rfl <| gR 4 rfl ?_
 subst h
 exact go_end ac (rs := [.tmp 4]) rfl rfl rfl
 refine gR 8 rfl ?_
 obtain ⟨f, hs19, h⟩ := h
 refine gC0 hs19 (by kernel_rfl) rfl rfl .rfl rfl <| gR 4 rfl ?_
 subst h
 exact go_end ac (rs := [.tmp 4]) rfl rfl rfl
 refine gR 14 rfl ?_
 obtain ⟨g, hs20, h⟩ := h
 refine gC0 hs20 (by kernel_rfl) rfl rfl .rfl rfl <| gR 4 rfl ?_
 subst h
 exact go_end ac (rs := [.tmp 4]) rfl rfl rfl
theorem rC (m : Nat) (p0 p1 p2 r0 : Int) (h : ((p0 < p1) → (-1) = r0) ∧ ((¬ p0 < p1) → p2 = r0)) : dK p0 p1 p2 r0 := by
 refine ⟨rfl, rfl, ?_⟩
 refine ak 11 [] Tryz.func142 rfl rfl rfl (az rfl) fun K hK => ?_
 refine gR 13 rfl <| qBd 9 rfl rfl rfl h (fun h => ?_) fun h => ?_
 refine gR 8 rfl ?_
 subst h
 exact go_end ac (rs := [.tmp 6]) rfl rfl rfl
 refine gR 10 rfl ?_
 subst h
 exact go_end ac (rs := [.tmp 6]) rfl rfl rfl
theorem si (m : Nat) (p0 : Int) (r0 : Bool) (h : ((5 ≤ p0) → decide (p0 ≤ 9) = r0) ∧ ((¬ 5 ≤ p0) → false = r0)) : iw p0 r0 := by
 refine ⟨rfl, rfl, ?_⟩
 refine ak 9 [] Tryz.func146 rfl rfl rfl (az rfl) fun K hK => ?_
 refine gR 10 rfl <| qBdZ 5 4 rfl rfl rfl rfl h (fun h => ?_) fun h => ?_
 refine gR 7 rfl ?_
 subst h
 exact go_end ac (rs := [.tmp 2]) rfl rfl rfl
 refine gR 7 rfl ?_
 subst h
 exact go_end ac (rs := [.tmp 2]) rfl rfl rfl
theorem nY (m : Nat) (p0 : Int) (r0 : Bool) (h : ((10 ≤ p0) → ((p0 ≤ 22) → (p0 != 17) = r0) ∧ ((¬ p0 ≤ 22) → false = r0)) ∧ ((¬ 10 ≤ p0) → false = r0)) : cW p0 r0 := by
 refine ⟨rfl, rfl, ?_⟩
 refine ak 13 [] Tryz.func145 rfl rfl rfl (az rfl) fun K hK => ?_
 refine gR 10 rfl <| qBdZ 5 4 rfl rfl rfl rfl h (fun h => ?_) fun h => ?_
 refine gR 4 rfl <| qBdZ 9 8 rfl rfl rfl rfl h (fun h => ?_) fun h => ?_
 refine gR 7 rfl ?_
 subst h
 exact go_end ac (rs := [.tmp 2]) rfl rfl rfl
 refine gR 7 rfl ?_
 subst h
 exact go_end ac (rs := [.tmp 2]) rfl rfl rfl
 refine gR 11 rfl ?_
 subst h
 exact go_end ac (rs := [.tmp 2]) rfl rfl rfl
theorem sp (m : Nat) (p0 : Int) (r0 : Bool) (h : ∃ a, cW p0 a ∧ ((a = true) → ((p0 ≠ 19) → ((p0 ≠ 20) → (p0 != 21) = r0) ∧ ((p0 = 20) → false = r0)) ∧ ((p0 = 19) → false = r0)) ∧ ((a = false) → false = r0)) : kH p0 r0 := by
 refine ⟨rfl, rfl, ?_⟩
 refine ak 17 [] Tryz.func147 rfl rfl rfl (az rfl) fun K hK => ?_
 refine gR 8 rfl ?_
 obtain ⟨a, hs2, h⟩ := h
 refine gC0 hs2 (by kernel_rfl) rfl rfl .rfl rfl <| gR 1 rfl <| qBiZ 5 4 rfl rfl rfl rfl h (fun h => ?_) fun h => ?_
 refine gR 4 rfl <| qBhZ 9 8 rfl rfl rfl rfl h cz bN (fun h => ?_) fun h => ?_
 refine gR 4 rfl <| qBhZ 13 12 rfl rfl rfl rfl h cz bN (fun h => ?_) fun h => ?_
 refine gR 7 rfl ?_
 subst h
 exact go_end ac (rs := [.tmp 2]) rfl rfl rfl
 refine gR 7 rfl ?_
 subst h
 exact go_end ac (rs := [.tmp 2]) rfl rfl rfl
 refine gR 11 rfl ?_
 subst h
 exact go_end ac (rs := [.tmp 2]) rfl rfl rfl
 refine gR 15 rfl ?_
 subst h
 exact go_end ac (rs := [.tmp 2]) rfl rfl rfl
theorem qY (m : Nat) (p0 : List UInt8) (r0 : Bool) (h : ((p0 = [43]) → true = r0) ∧ ((p0 ≠ [43]) → ((p0 = [45]) → true = r0) ∧ ((p0 ≠ [45]) → ((p0 = [42]) → true = r0) ∧ ((p0 ≠ [42]) → ((p0 = [60]) → true = r0) ∧ ((p0 ≠ [60]) → ((p0 = [61, 61]) → true = r0) ∧ ((p0 ≠ [61, 61]) → false = r0)))))) : jl p0 r0 := by
 refine ⟨rfl, rfl, ?_⟩
 refine ak 10 [] Tryz.func144 rfl rfl rfl (az rfl) fun K hK => ?_
 refine gR 19 rfl <| qBeZ 4 5 rfl rfl rfl rfl h (fun h => ?_) fun h => ?_
 refine gR 12 rfl ?_
 subst h
 exact go_end ac (rs := [.tmp 2]) rfl rfl rfl
 refine gR 7 rfl <| qBeZ 4 6 rfl rfl rfl rfl h (fun h => ?_) fun h => ?_
 refine gR 12 rfl ?_
 subst h
 exact go_end ac (rs := [.tmp 2]) rfl rfl rfl
 refine gR 7 rfl <| qBeZ 4 7 rfl rfl rfl rfl h (fun h => ?_) fun h => ?_
 refine gR 12 rfl ?_
 subst h
 exact go_end ac (rs := [.tmp 2]) rfl rfl rfl
 refine gR 7 rfl <| qBeZ 4 8 rfl rfl rfl rfl h (fun h => ?_) fun h => ?_
 refine gR 12 rfl ?_
 subst h
 exact go_end ac (rs := [.tmp 2]) rfl rfl rfl
 refine gR 6 rfl <| qBeZ 4 9 rfl rfl rfl rfl h (fun h => ?_) fun h => ?_
 refine gR 9 rfl ?_
 subst h
 exact go_end ac (rs := [.tmp 2]) rfl rfl rfl
 refine gR 10 rfl ?_
 subst h
 exact go_end ac (rs := [.tmp 2]) rfl rfl rfl
def jS (m : Nat) (p0 : Int) (p1 : List UInt8) (a : Int) (b r0 : Bool) : Prop := ∀ (K : Ctx), aq K [] → qLG K Tryz.f98 (fun u _ => u = .bool r0) (cB (xF (ae Tryz.f98))) [.blk 0, .seq (xH (ae Tryz.f98))] 51 (mkF 51 0 [(1, .str p1), (5, .int .i64 a), (8, .int .i64 p0), (9, .bool b)]) ⟨0, []⟩
def eQ (m : Nat) (p0 : Int) (p1 : List UInt8) (a : Int) (b r0 : Bool) : Prop := ∀ (K : Ctx), aq K [] → qLG K Tryz.f98 (fun u _ => u = .bool r0) (cB (xK (ae Tryz.f98))) [.blk 0, .seq (xH (ae Tryz.f98))] 51 (mkF 51 0 [(1, .str p1), (5, .int .i64 a), (8, .int .i64 p0), (14, .bool b)]) ⟨0, []⟩
theorem sv (m : Nat) (p0 : Int) (p1 : List UInt8) (r0 : Bool) (h : ∃ a, wE p1 a ∧ ((p0 = 1) → jS m p0 p1 a true r0) ∧ ((p0 ≠ 1) → jS m p0 p1 a (p0 == 3) r0)) : li p0 p1 r0 := by
 refine ⟨rfl, rfl, ?_⟩
 refine ak 51 [] Tryz.func98 rfl rfl rfl (az rfl) fun K hK => ?_
 refine gR 8 rfl ?_
 obtain ⟨a, hs7, h⟩ := h
 refine gC0 hs7 (by kernel_rfl) rfl rfl .rfl rfl <| gR 17 rfl <| qBeZ 9 10 rfl rfl rfl rfl h (fun h => ?_) fun h => ?_
 exact gR 3 rfl <| gJ (h K hK) [] [] rfl hK pq4 trivial rfl
 exact gR 6 rfl <| gJ (h K hK) [] [] rfl hK pq4 trivial rfl
theorem rD (m : Nat) (p0 : Int) (p1 : List UInt8) (a : Int) (b r0 : Bool) (h : ((b = true) → (a == 2) = r0) ∧ ((b = false) → ((p0 = 2) → eQ m p0 p1 a true r0) ∧ ((p0 ≠ 2) → ((p0 = 4) → eQ m p0 p1 a true r0) ∧ ((p0 ≠ 4) → ((p0 = 12) → eQ m p0 p1 a true r0) ∧ ((p0 ≠ 12) → eQ m p0 p1 a (p0 == 20) r0))))) : jS (m + 1) p0 p1 a b r0 := by
 intro K hK
 refine qBi 9 rfl rfl rfl h (fun h => ?_) fun h => ?_
 refine gR 11 rfl ?_
 subst h
 exact go_end ac (rs := [.tmp 4]) rfl rfl rfl
 refine gR 8 rfl <| qBeZ 14 15 rfl rfl rfl rfl h (fun h => ?_) fun h => ?_
 exact gR 3 rfl <| gJ (h K hK) [] [] rfl hK pq4 trivial rfl
 refine gR 7 rfl <| qBeZ 14 16 rfl rfl rfl rfl h (fun h => ?_) fun h => ?_
 exact gR 3 rfl <| gJ (h K hK) [] [] rfl hK pq4 trivial rfl
 refine gR 7 rfl <| qBeZ 14 17 rfl rfl rfl rfl h (fun h => ?_) fun h => ?_
 exact gR 3 rfl <| gJ (h K hK) [] [] rfl hK pq4 trivial rfl
 exact gR 6 rfl <| gJ (h K hK) [] [] rfl hK pq4 trivial rfl
theorem rF (m : Nat) (p0 : Int) (p1 : List UInt8) (a : Int) (b r0 : Bool) (h : ((b = true) → (a == 1) = r0) ∧ ((b = false) → ((p0 = 9) → ((a = 2) → true = r0) ∧ ((a ≠ 2) → (a == 4) = r0)) ∧ ((p0 ≠ 9) → ((p0 = 16) → ((a = 1) → true = r0) ∧ ((a ≠ 1) → (a == 3) = r0)) ∧ ((p0 ≠ 16) → ((p0 = 10) → (a == 5) = r0) ∧ ((p0 ≠ 10) → ((p0 = 11) → (a == 6) = r0) ∧ ((p0 ≠ 11) → ((p0 = 21) → ∃ c, jl p1 c ∧ c = r0) ∧ ((p0 ≠ 21) → (p1 == []) = r0))))))) : eQ (m + 1) p0 p1 a b r0 := by
 intro K hK
 refine qBi 14 rfl rfl rfl h (fun h => ?_) fun h => ?_
 refine gR 11 rfl ?_
 subst h
 exact go_end ac (rs := [.tmp 4]) rfl rfl rfl
 refine gR 7 rfl <| qBeZ 21 22 rfl rfl rfl rfl h (fun h => ?_) fun h => ?_
 refine gR 6 rfl <| qBeZ 25 24 rfl rfl rfl rfl h (fun h => ?_) fun h => ?_
 refine gR 9 rfl ?_
 subst h
 exact go_end ac (rs := [.tmp 4]) rfl rfl rfl
 refine gR 9 rfl ?_
 subst h
 exact go_end ac (rs := [.tmp 4]) rfl rfl rfl
 refine gR 7 rfl <| qBeZ 29 30 rfl rfl rfl rfl h (fun h => ?_) fun h => ?_
 refine gR 6 rfl <| qBeZ 33 32 rfl rfl rfl rfl h (fun h => ?_) fun h => ?_
 refine gR 9 rfl ?_
 subst h
 exact go_end ac (rs := [.tmp 4]) rfl rfl rfl
 refine gR 9 rfl ?_
 subst h
 exact go_end ac (rs := [.tmp 4]) rfl rfl rfl
 refine gR 7 rfl <| qBeZ 37 38 rfl rfl rfl rfl h (fun h => ?_) fun h => ?_
 refine gR 11 rfl ?_
 subst h
 exact go_end ac (rs := [.tmp 4]) rfl rfl rfl
 refine gR 7 rfl <| qBeZ 41 42 rfl rfl rfl rfl h (fun h => ?_) fun h => ?_
 refine gR 11 rfl ?_
 subst h
 exact go_end ac (rs := [.tmp 4]) rfl rfl rfl
 refine gR 7 rfl <| qBeZ 45 46 rfl rfl rfl rfl h (fun h => ?_) fun h => ?_
 refine gR 4 rfl ?_
 obtain ⟨c, hs8, h⟩ := h
 refine gC0 hs8 (by kernel_rfl) rfl rfl .rfl rfl <| gR 6 rfl ?_
 subst h
 exact go_end ac (rs := [.tmp 4]) rfl rfl rfl
 refine gR 12 rfl ?_
 subst h
 exact go_end ac (rs := [.tmp 4]) rfl rfl rfl
def ir (m : Nat) (p0 : Tree) (p1 : Int) (a : Tree) (b r0 : Bool) : Prop := ∀ (K : Ctx), aq K [] → qLG K Tryz.f99 (fun u _ => u = .bool r0) (cB (xC (xF (ae Tryz.f99)))) [.blk 0, .seq (xH (ae Tryz.f99))] 67 (mkF 67 0 [(1, .int .i64 p1), (5, .int .i64 a.kind), (13, .int .i64 p0.kind), (43, .bool b)]) ⟨0, []⟩
theorem sW (m : Nat) (p0 : Tree) (p1 : Int) (r0 : Bool) (h : ∃ b, p1 = ((b : Nat) : Int) ∧ ∃ a, p0.kids[b]? = some a ∧ ((p0.kind = 1) → ((a.kind = 2) → true = r0) ∧ ((a.kind ≠ 2) → (a.kind == 3) = r0)) ∧ ((p0.kind ≠ 1) → ((p0.kind = 2) → ((p1 = ((p0.kids.length : Int) - 1)) → ∃ c, cW a.kind c ∧ c = r0) ∧ ((p1 ≠ ((p0.kids.length : Int) - 1)) → ((p1 = ((p0.kids.length : Int) - 2)) → ∃ d, iw a.kind d ∧ d = r0) ∧ ((p1 ≠ ((p0.kids.length : Int) - 2)) → (a.kind == 4) = r0))) ∧ ((p0.kind ≠ 2) → ((p0.kind = 3) → ir m p0 p1 a true r0) ∧ ((p0.kind ≠ 3) → ((p0.kind = 4) → ir m p0 p1 a true r0) ∧ ((p0.kind ≠ 4) → ir m p0 p1 a (p0.kind == 8) r0))))) : lR p0 p1 r0 := by
 refine ⟨rfl, rfl, ?_⟩
 refine ak 67 [] Tryz.func99 rfl rfl rfl (az rfl) fun K hK => ?_
 refine gR 3 rfl <| gFP 0 rfl rfl rfl rfl <| gR 8 rfl ?_
 obtain ⟨b, e, h⟩ := h
 refine gV 8 (.int .i64 ((b : Nat) : Int)) rfl (cO e) rfl ?_
 obtain ⟨a, hxt0_2, h⟩ := h
 refine gY (aG (av hxt0_2) ac rfl rfl rfl rfl) rfl rfl <| gR 19 rfl <| gB 14 rfl rfl rfl ?_ ?_ <;> intro hd
 refine gT 15 rfl hd rfl ?_
 replace hd := (eq_of_beq hd)
 replace h := h.1 hd
 refine gR 6 rfl <| gB 18 rfl rfl rfl ?_ ?_ <;> intro hd
 refine gT 17 rfl hd rfl ?_
 replace hd := (eq_of_beq hd)
 replace h := h.1 hd
 refine gR 9 rfl ?_
 subst h
 exact go_end ac (rs := [.tmp 4]) rfl rfl rfl
 refine gF 17 rfl hd rfl ?_
 replace hd := (ne_of_beq_false hd)
 replace h := h.2 hd
 refine gR 9 rfl ?_
 subst h
 exact go_end ac (rs := [.tmp 4]) rfl rfl rfl
 refine gF 15 rfl hd rfl ?_
 replace hd := (ne_of_beq_false hd)
 replace h := h.2 hd
 refine gR 7 rfl <| gB 22 rfl rfl rfl ?_ ?_ <;> intro hd
 refine gT 23 rfl hd rfl ?_
 replace hd := (eq_of_beq hd)
 replace h := h.1 hd
 refine gR 13 rfl <| gV 28 (.int .i64 (p0.kids.length : Int)) rfl (aO (aI _)) rfl <| gLB 27 rfl (aI _) fun hl17 => gR 1 rfl <| gV 29 (.int .i64 ((p0.kids.length : Int) - 1)) rfl (ao (by have := hl17; omega) rfl) rfl <| gR 4 rfl <| gB 25 rfl rfl rfl ?_ ?_ <;> intro hd
 refine gT 30 rfl hd rfl ?_
 replace hd := (eq_of_beq hd)
 replace h := h.1 hd
 refine gR 4 rfl ?_
 obtain ⟨c, hs18, h⟩ := h
 refine gC0 hs18 (by kernel_rfl) rfl rfl .rfl rfl <| gR 8 rfl ?_
 subst h
 exact go_end ac (rs := [.tmp 4]) rfl rfl rfl
 refine gF 30 rfl hd rfl ?_
 replace hd := (ne_of_beq_false hd)
 replace h := h.2 hd
 refine gR 6 rfl <| gV 36 (.int .i64 (p0.kids.length : Int)) rfl (aO (aI _)) rfl <| gR 1 rfl <| gV 37 (.int .i64 ((p0.kids.length : Int) - 2)) rfl (ao (by have := hl17; omega) rfl) rfl <| gR 4 rfl <| gB 33 rfl rfl rfl ?_ ?_ <;> intro hd
 refine gT 38 rfl hd rfl ?_
 replace hd := (eq_of_beq hd)
 replace h := h.1 hd
 refine gR 4 rfl ?_
 obtain ⟨d, hs19, h⟩ := h
 refine gC0 hs19 (by kernel_rfl) rfl rfl .rfl rfl <| gR 8 rfl ?_
 subst h
 exact go_end ac (rs := [.tmp 4]) rfl rfl rfl
 refine gF 38 rfl hd rfl ?_
 replace hd := (ne_of_beq_false hd)
 replace h := h.2 hd
 refine gR 14 rfl ?_
 subst h
 exact go_end ac (rs := [.tmp 4]) rfl rfl rfl
 refine gF 23 rfl hd rfl ?_
 replace hd := (ne_of_beq_false hd)
 replace h := h.2 hd
 refine gR 8 rfl <| gB 43 rfl rfl rfl ?_ ?_ <;> intro hd
 refine gT 44 rfl hd rfl ?_
 replace hd := (eq_of_beq hd)
 replace h := h.1 hd
 exact gR 3 rfl <| gJ (h K hK) [] [] rfl hK pq4 trivial rfl
 refine gF 44 rfl hd rfl ?_
 replace hd := (ne_of_beq_false hd)
 replace h := h.2 hd
 refine gR 7 rfl <| gB 43 rfl rfl rfl ?_ ?_ <;> intro hd
 refine gT 45 rfl hd rfl ?_
 replace hd := (eq_of_beq hd)
 replace h := h.1 hd
 exact gR 3 rfl <| gJ (h K hK) [] [] rfl hK pq4 trivial rfl
 refine gF 45 rfl hd rfl ?_
 replace hd := (ne_of_beq_false hd)
 replace h := h.2 hd
 exact gR 6 rfl <| gJ (h K hK) [] [] rfl hK pq4 trivial rfl
theorem sk (m : Nat) (p0 : Tree) (p1 : Int) (a : Tree) (c r0 : Bool) (h : ((c = true) → ∃ d, iw a.kind d ∧ d = r0) ∧ ((c = false) → ((p0.kind = 16) → (a.kind == 17) = r0) ∧ ((p0.kind ≠ 16) → ((p0.kind = 21) → ∃ b, kH a.kind b ∧ ((b = true) → true = r0) ∧ ((b = false) → ((p1 = 0) → (a.kind == 21) = r0) ∧ ((p1 ≠ 0) → false = r0))) ∧ ((p0.kind ≠ 21) → ∃ e, cW a.kind e ∧ e = r0)))) : ir (m + 1) p0 p1 a c r0 := by
 intro K hK
 refine qBi 43 rfl rfl rfl h (fun h => ?_) fun h => ?_
 refine gR 4 rfl ?_
 obtain ⟨d, hs20, h⟩ := h
 refine gC0 hs20 (by kernel_rfl) rfl rfl .rfl rfl <| gR 6 rfl ?_
 subst h
 exact go_end ac (rs := [.tmp 4]) rfl rfl rfl
 refine gR 7 rfl <| qBeZ 49 50 rfl rfl rfl rfl h (fun h => ?_) fun h => ?_
 refine gR 11 rfl ?_
 subst h
 exact go_end ac (rs := [.tmp 4]) rfl rfl rfl
 refine gR 7 rfl <| qBeZ 53 54 rfl rfl rfl rfl h (fun h => ?_) fun h => ?_
 refine gR 4 rfl ?_
 obtain ⟨b, hs21, h⟩ := h
 refine gC0 hs21 (by kernel_rfl) rfl rfl .rfl rfl <| gR 1 rfl <| qBiZ 57 56 rfl rfl rfl rfl h (fun h => ?_) fun h => ?_
 refine gR 13 rfl ?_
 subst h
 exact go_end ac (rs := [.tmp 4]) rfl rfl rfl
 refine gR 3 rfl <| qBeZ 60 59 rfl rfl rfl rfl h (fun h => ?_) fun h => ?_
 refine gR 10 rfl ?_
 subst h
 exact go_end ac (rs := [.tmp 4]) rfl rfl rfl
 refine gR 10 rfl ?_
 subst h
 exact go_end ac (rs := [.tmp 4]) rfl rfl rfl
 refine gR 7 rfl ?_
 obtain ⟨e, hs22, h⟩ := h
 refine gC0 hs22 (by kernel_rfl) rfl rfl .rfl rfl <| gR 4 rfl ?_
 subst h
 exact go_end ac (rs := [.tmp 4]) rfl rfl rfl
def gU (m : Nat) (p0 : Tree) (a : Nat) (r0 : Bool) : Prop := ∀ (K : Ctx) (j1 : Nat), aq K [] → m ≤ j1 → qLG K Tryz.f66 (fun u _ => u = .bool r0) (xI (ae Tryz.f66)) [.loop (xI (ae Tryz.f66)) j1, .blk 0, .seq (xH (ae Tryz.f66))] 38 (mkF 38 0 [(1, .box (an p0) 0), (21, .row 4 (kidsV p0.kids)), (22, .int .i64 (p0.kids.length : Int)), (23, .int .i64 (a : Int))]) ⟨0, []⟩
theorem su (m : Nat) (p0 : Tree) (r0 : Bool) (h : ∃ a, lX p0.kind (p0.kids.length : Int) a ∧ ((a < 0) → false = r0) ∧ ((¬ a < 0) → ∃ b, li p0.kind p0.text b ∧ ((b = false) → false = r0) ∧ ((b = true) → gU m p0 0 r0))) : fQ p0 r0 := by
 refine ⟨rfl, rfl, ?_⟩
 refine ak 38 [] Tryz.func66 rfl rfl rfl (az rfl) fun K hK => ?_
 refine gR 3 rfl <| gFP 0 rfl rfl rfl rfl <| gR 11 rfl <| gV 9 (.int .i64 (p0.kids.length : Int)) rfl (aO (aI _)) rfl <| gLB 8 rfl (aI _) fun hl11 => ?_
 obtain ⟨a, hs12, h⟩ := h
 refine gC0 hs12 (by kernel_rfl) rfl rfl .rfl rfl <| gR 2 rfl <| gB 12 rfl rfl rfl ?_ ?_ <;> intro hd
 refine gT 11 rfl hd rfl ?_
 replace hd := (of_decide_eq_true hd)
 replace h := h.1 hd
 refine gR 17 rfl ?_
 subst h
 exact go_end ac (rs := [.tmp 2]) rfl rfl rfl
 refine gF 11 rfl hd rfl ?_
 replace hd := (of_decide_eq_false hd)
 replace h := h.2 hd
 refine gR 4 rfl ?_
 obtain ⟨b, hs13, h⟩ := h
 refine gC0 hs13 (by kernel_rfl) rfl rfl .rfl rfl <| gR 4 rfl <| gB 19 rfl rfl rfl ?_ ?_ <;> intro hd
 replace hd := (cr hd)
 replace h := h.1 hd
 refine gR 8 rfl ?_
 subst h
 exact go_end ac (rs := [.tmp 2]) rfl rfl rfl
 replace hd := (ct hd)
 replace h := h.2 hd
 exact gR 9 rfl <| gV 22 (.int .i64 (p0.kids.length : Int)) rfl (aO (aI _)) rfl <| gR 4 rfl <| go_loop m <| gJ (h K _ hK (by omega)) [] [] rfl hK pq4 trivial rfl
theorem mI (m : Nat) (p0 : Tree) (a : Nat) (r0 : Bool) (h : ((a < p0.kids.length) → ∃ d, p0.kids[a]? = some d ∧ ∃ b, lR p0 (a : Int) b ∧ ((b = false) → false = r0) ∧ ((b = true) → ∃ c, fQ d c ∧ ((c = false) → false = r0) ∧ ((c = true) → a + 1 ≤ 9223372036854775807 ∧ gU m p0 (a + 1) r0))) ∧ ((¬ a < p0.kids.length) → true = r0)) : gU (m + 1) p0 a r0 := by
 intro K j1 hK hj1
 obtain ⟨j1, rfl⟩ : ∃ j, j1 = j + 1 := ⟨j1 - 1, by omega⟩
 refine gR 6 rfl <| gB 24 rfl rfl rfl ?_ ?_ <;> intro hd
 replace hd := (ch hd)
 replace h := h.1 hd
 refine gR 8 rfl ?_
 obtain ⟨d, hxt1_1, h⟩ := h
 refine gY (aG (av hxt1_1) ac rfl rfl rfl rfl) rfl rfl <| gR 10 rfl ?_
 obtain ⟨b, hs14, h⟩ := h
 refine gC0 hs14 (by kernel_rfl) rfl rfl .rfl rfl <| gR 2 rfl <| gB 32 rfl rfl rfl ?_ ?_ <;> intro hd
 refine gT 31 rfl hd rfl ?_
 replace hd := (cr hd)
 replace h := h.1 hd
 refine gR 15 rfl <| go_xloopR <| gR 2 rfl ?_
 subst h
 exact go_end ac (rs := [.tmp 2]) rfl rfl rfl
 refine gF 31 rfl hd rfl ?_
 replace hd := (ct hd)
 replace h := h.2 hd
 refine gR 1 rfl ?_
 obtain ⟨c, hs15, h⟩ := h
 refine gC0 hs15 (by kernel_rfl) rfl rfl .rfl rfl <| gR 4 rfl <| gB 36 rfl rfl rfl ?_ ?_ <;> intro hd
 replace hd := (cr hd)
 replace h := h.1 hd
 refine gR 9 rfl <| go_xloopR <| gR 2 rfl ?_
 subst h
 exact go_end ac (rs := [.tmp 2]) rfl rfl rfl
 replace hd := (ct hd)
 replace h := h.2 hd
 refine gR 5 rfl ?_
 obtain ⟨hb, h⟩ := h
 exact gR 1 rfl <| gV 37 (.int .i64 ((a + 1 : Nat) : Int)) rfl (ao (by omega) (by omega)) rfl <| gR 2 rfl <| go_xloop <| gJ (h K _ hK (by omega)) [] [] rfl hK pq4 trivial rfl
 replace hd := (cg hd)
 replace h := h.2 hd
 refine gR 3 rfl <| go_xloopE <| gR 8 rfl ?_
 subst h
 exact go_end ac (rs := [.tmp 2]) rfl rfl rfl
def eu (m : Nat) (p0 p1 : Int) (a : Bool) (r0 : Int) : Prop := ∀ (K : Ctx), aq K [] → qLG K Tryz.f108 (fun u _ => u = .int .i64 r0) (cB (xC (xB (xN (ae Tryz.f108))))) [.blk 0, .seq (xA (ae Tryz.f108))] 71 (mkF 71 0 [(1, .int .i64 p1), (5, .int .i64 p0), (22, .bool a)]) ⟨0, []⟩
def ba (m : Nat) (p0 p1 : Int) (a : Bool) (r0 : Int) : Prop := ∀ (K : Ctx), aq K [] → qLG K Tryz.f108 (fun u _ => u = .int .i64 r0) (cB (xG (xN (ae Tryz.f108)))) [.blk 0, .seq (xA (ae Tryz.f108))] 71 (mkF 71 0 [(1, .int .i64 p1), (5, .int .i64 p0), (28, .bool a)]) ⟨0, []⟩
theorem pG (m : Nat) (p0 p1 r0 : Int) (h : ((p0 = 1) → ((0 ≤ p1) → 3 = r0) ∧ ((¬ 0 ≤ p1) → (-1) = r0)) ∧ ((p0 ≠ 1) → ((p0 = 2) → ((2 ≤ p1) → InI (p1 - 3) ∧ InI (6 + (max 0 (p1 - 3))) ∧ (6 + (max 0 (p1 - 3))) = r0) ∧ ((¬ 2 ≤ p1) → (-1) = r0)) ∧ ((p0 ≠ 2) → ((p0 = 3) → ∃ a, bK p1 1 3 a ∧ a = r0) ∧ ((p0 ≠ 3) → ((p0 = 4) → eu m p0 p1 true r0) ∧ ((p0 ≠ 4) → ((p0 = 8) → eu m p0 p1 true r0) ∧ ((p0 ≠ 8) → eu m p0 p1 (p0 == 22) r0)))))) : dF p0 p1 r0 := by
 refine ⟨rfl, rfl, ?_⟩
 refine ak 71 [] Tryz.func108 rfl rfl rfl (az rfl) fun K hK => ?_
 refine gR 18 rfl <| qBeZ 6 7 rfl rfl rfl rfl h (fun h => ?_) fun h => ?_
 refine gR 7 rfl <| qBd 9 rfl rfl rfl h (fun h => ?_) fun h => ?_
 refine gR 9 rfl ?_
 subst h
 exact go_end ac (rs := [.tmp 4]) rfl rfl rfl
 refine gR 10 rfl ?_
 subst h
 exact go_end ac (rs := [.tmp 4]) rfl rfl rfl
 refine gR 7 rfl <| qBeZ 10 11 rfl rfl rfl rfl h (fun h => ?_) fun h => ?_
 refine gR 7 rfl <| qBd 13 rfl rfl rfl h (fun h => ?_) fun h => ?_
 refine gR 4 rfl ?_
 obtain ⟨hb, h⟩ := h
 refine gR 1 rfl <| gV 15 (.int .i64 (p1 - 3)) rfl (ao hb rfl) rfl <| gR 1 rfl ?_
 obtain ⟨hb, h⟩ := h
 refine gR 1 rfl <| gV 17 (.int .i64 (6 + (max 0 (p1 - 3)))) rfl (ao hb rfl) rfl <| gR 6 rfl ?_
 subst h
 exact go_end ac (rs := [.tmp 4]) rfl rfl rfl
 refine gR 10 rfl ?_
 subst h
 exact go_end ac (rs := [.tmp 4]) rfl rfl rfl
 refine gR 7 rfl <| qBeZ 18 19 rfl rfl rfl rfl h (fun h => ?_) fun h => ?_
 refine gR 4 rfl ?_
 obtain ⟨a, hs20, h⟩ := h
 refine gC0 hs20 (by kernel_rfl) rfl rfl .rfl rfl <| gR 6 rfl ?_
 subst h
 exact go_end ac (rs := [.tmp 4]) rfl rfl rfl
 refine gR 8 rfl <| qBeZ 22 23 rfl rfl rfl rfl h (fun h => ?_) fun h => ?_
 exact gR 3 rfl <| gJ (h K hK) [] [] rfl hK pq3 trivial rfl
 refine gR 7 rfl <| qBeZ 22 24 rfl rfl rfl rfl h (fun h => ?_) fun h => ?_
 exact gR 3 rfl <| gJ (h K hK) [] [] rfl hK pq3 trivial rfl
 exact gR 6 rfl <| gJ (h K hK) [] [] rfl hK pq3 trivial rfl
theorem oY (m : Nat) (p0 p1 : Int) (a : Bool) (r0 : Int) (h : ((a = true) → ∃ b, bK p1 1 2 b ∧ b = r0) ∧ ((a = false) → ((p0 = 5) → ba m p0 p1 true r0) ∧ ((p0 ≠ 5) → ((p0 = 6) → ba m p0 p1 true r0) ∧ ((p0 ≠ 6) → ((p0 = 7) → ba m p0 p1 true r0) ∧ ((p0 ≠ 7) → ((p0 = 9) → ba m p0 p1 true r0) ∧ ((p0 ≠ 9) → ((p0 = 10) → ba m p0 p1 true r0) ∧ ((p0 ≠ 10) → ((p0 = 11) → ba m p0 p1 true r0) ∧ ((p0 ≠ 11) → ((p0 = 12) → ba m p0 p1 true r0) ∧ ((p0 ≠ 12) → ((p0 = 13) → ba m p0 p1 true r0) ∧ ((p0 ≠ 13) → ((p0 = 14) → ba m p0 p1 true r0) ∧ ((p0 ≠ 14) → ba m p0 p1 (p0 == 15) r0))))))))))) : eu (m + 1) p0 p1 a r0 := by
 intro K hK
 refine qBi 22 rfl rfl rfl h (fun h => ?_) fun h => ?_
 refine gR 4 rfl ?_
 obtain ⟨b, hs21, h⟩ := h
 refine gC0 hs21 (by kernel_rfl) rfl rfl .rfl rfl <| gR 6 rfl ?_
 subst h
 exact go_end ac (rs := [.tmp 4]) rfl rfl rfl
 refine gR 8 rfl <| qBeZ 28 29 rfl rfl rfl rfl h (fun h => ?_) fun h => ?_
 exact gR 3 rfl <| gJ (h K hK) [] [] rfl hK pq3 trivial rfl
 refine gR 7 rfl <| qBeZ 28 30 rfl rfl rfl rfl h (fun h => ?_) fun h => ?_
 exact gR 3 rfl <| gJ (h K hK) [] [] rfl hK pq3 trivial rfl
 refine gR 7 rfl <| qBeZ 28 31 rfl rfl rfl rfl h (fun h => ?_) fun h => ?_
 exact gR 3 rfl <| gJ (h K hK) [] [] rfl hK pq3 trivial rfl
 refine gR 7 rfl <| qBeZ 28 32 rfl rfl rfl rfl h (fun h => ?_) fun h => ?_
 exact gR 3 rfl <| gJ (h K hK) [] [] rfl hK pq3 trivial rfl
 refine gR 7 rfl <| qBeZ 28 33 rfl rfl rfl rfl h (fun h => ?_) fun h => ?_
 exact gR 3 rfl <| gJ (h K hK) [] [] rfl hK pq3 trivial rfl
 refine gR 7 rfl <| qBeZ 28 34 rfl rfl rfl rfl h (fun h => ?_) fun h => ?_
 exact gR 3 rfl <| gJ (h K hK) [] [] rfl hK pq3 trivial rfl
 refine gR 7 rfl <| qBeZ 28 35 rfl rfl rfl rfl h (fun h => ?_) fun h => ?_
 exact gR 3 rfl <| gJ (h K hK) [] [] rfl hK pq3 trivial rfl
 refine gR 7 rfl <| qBeZ 28 36 rfl rfl rfl rfl h (fun h => ?_) fun h => ?_
 exact gR 3 rfl <| gJ (h K hK) [] [] rfl hK pq3 trivial rfl
 refine gR 7 rfl <| qBeZ 28 37 rfl rfl rfl rfl h (fun h => ?_) fun h => ?_
 exact gR 3 rfl <| gJ (h K hK) [] [] rfl hK pq3 trivial rfl
 exact gR 6 rfl <| gJ (h K hK) [] [] rfl hK pq3 trivial rfl
theorem ph (m : Nat) (p0 p1 : Int) (a : Bool) (r0 : Int) (h : ((a = true) → ∃ b, bK p1 0 1 b ∧ b = r0) ∧ ((a = false) → ((p0 = 16) → ((0 ≤ p1) → InI (p1 - 1) ∧ InI (3 + (max 0 (p1 - 1))) ∧ (3 + (max 0 (p1 - 1))) = r0) ∧ ((¬ 0 ≤ p1) → (-1) = r0)) ∧ ((p0 ≠ 16) → ((p0 = 17) → ∃ c, bK p1 1 0 c ∧ c = r0) ∧ ((p0 ≠ 17) → ((p0 = 18) → ((1 ≤ p1) → InI (1 + p1) ∧ (1 + p1) = r0) ∧ ((¬ 1 ≤ p1) → (-1) = r0)) ∧ ((p0 ≠ 18) → ((p0 = 19) → ∃ d, bK p1 3 3 d ∧ d = r0) ∧ ((p0 ≠ 19) → ((p0 = 20) → ∃ e, bK p1 2 4 e ∧ e = r0) ∧ ((p0 ≠ 20) → ((p0 = 21) → ∃ f, bK p1 2 1 f ∧ f = r0) ∧ ((p0 ≠ 21) → (-1) = r0)))))))) : ba (m + 1) p0 p1 a r0 := by
 intro K hK
 refine qBi 28 rfl rfl rfl h (fun h => ?_) fun h => ?_
 refine gR 4 rfl ?_
 obtain ⟨b, hs22, h⟩ := h
 refine gC0 hs22 (by kernel_rfl) rfl rfl .rfl rfl <| gR 6 rfl ?_
 subst h
 exact go_end ac (rs := [.tmp 4]) rfl rfl rfl
 refine gR 7 rfl <| qBeZ 41 42 rfl rfl rfl rfl h (fun h => ?_) fun h => ?_
 refine gR 7 rfl <| qBd 44 rfl rfl rfl h (fun h => ?_) fun h => ?_
 refine gR 4 rfl ?_
 obtain ⟨hb, h⟩ := h
 refine gR 1 rfl <| gV 46 (.int .i64 (p1 - 1)) rfl (ao hb rfl) rfl <| gR 1 rfl ?_
 obtain ⟨hb, h⟩ := h
 refine gR 1 rfl <| gV 48 (.int .i64 (3 + (max 0 (p1 - 1)))) rfl (ao hb rfl) rfl <| gR 6 rfl ?_
 subst h
 exact go_end ac (rs := [.tmp 4]) rfl rfl rfl
 refine gR 10 rfl ?_
 subst h
 exact go_end ac (rs := [.tmp 4]) rfl rfl rfl
 refine gR 7 rfl <| qBeZ 49 50 rfl rfl rfl rfl h (fun h => ?_) fun h => ?_
 refine gR 4 rfl ?_
 obtain ⟨c, hs23, h⟩ := h
 refine gC0 hs23 (by kernel_rfl) rfl rfl .rfl rfl <| gR 6 rfl ?_
 subst h
 exact go_end ac (rs := [.tmp 4]) rfl rfl rfl
 refine gR 7 rfl <| qBeZ 53 54 rfl rfl rfl rfl h (fun h => ?_) fun h => ?_
 refine gR 7 rfl <| qBd 56 rfl rfl rfl h (fun h => ?_) fun h => ?_
 refine gR 4 rfl ?_
 obtain ⟨hb, h⟩ := h
 refine gR 1 rfl <| gV 58 (.int .i64 (1 + p1)) rfl (ao hb rfl) rfl <| gR 6 rfl ?_
 subst h
 exact go_end ac (rs := [.tmp 4]) rfl rfl rfl
 refine gR 10 rfl ?_
 subst h
 exact go_end ac (rs := [.tmp 4]) rfl rfl rfl
 refine gR 7 rfl <| qBeZ 59 60 rfl rfl rfl rfl h (fun h => ?_) fun h => ?_
 refine gR 4 rfl ?_
 obtain ⟨d, hs24, h⟩ := h
 refine gC0 hs24 (by kernel_rfl) rfl rfl .rfl rfl <| gR 6 rfl ?_
 subst h
 exact go_end ac (rs := [.tmp 4]) rfl rfl rfl
 refine gR 7 rfl <| qBeZ 63 64 rfl rfl rfl rfl h (fun h => ?_) fun h => ?_
 refine gR 4 rfl ?_
 obtain ⟨e, hs25, h⟩ := h
 refine gC0 hs25 (by kernel_rfl) rfl rfl .rfl rfl <| gR 6 rfl ?_
 subst h
 exact go_end ac (rs := [.tmp 4]) rfl rfl rfl
 refine gR 7 rfl <| qBeZ 67 68 rfl rfl rfl rfl h (fun h => ?_) fun h => ?_
 refine gR 4 rfl ?_
 obtain ⟨f, hs26, h⟩ := h
 refine gC0 hs26 (by kernel_rfl) rfl rfl .rfl rfl <| gR 6 rfl ?_
 subst h
 exact go_end ac (rs := [.tmp 4]) rfl rfl rfl
 refine gR 10 rfl ?_
 subst h
 exact go_end ac (rs := [.tmp 4]) rfl rfl rfl
theorem qo (m : Nat) (p0 p1 p2 r0 : Int) (h : ((p0 = p1) → p2 = r0) ∧ ((p0 ≠ p1) → (-1) = r0)) : bK p0 p1 p2 r0 := by
 refine ⟨rfl, rfl, ?_⟩
 refine ak 11 [] Tryz.func153 rfl rfl rfl (az rfl) fun K hK => ?_
 refine gR 13 rfl <| qBe 9 rfl rfl rfl h (fun h => ?_) fun h => ?_
 refine gR 9 rfl ?_
 subst h
 exact go_end ac (rs := [.tmp 6]) rfl rfl rfl
 refine gR 9 rfl ?_
 subst h
 exact go_end ac (rs := [.tmp 6]) rfl rfl rfl
theorem oE (m : Nat) (p0 : Int) (r0 : Bool) (h : ((5 ≤ p0) → decide (p0 ≤ 9) = r0) ∧ ((¬ 5 ≤ p0) → false = r0)) : eE p0 r0 := by
 refine ⟨rfl, rfl, ?_⟩
 refine ak 9 [] Tryz.func156 rfl rfl rfl (az rfl) fun K hK => ?_
 refine gR 10 rfl <| qBdZ 5 4 rfl rfl rfl rfl h (fun h => ?_) fun h => ?_
 refine gR 7 rfl ?_
 subst h
 exact go_end ac (rs := [.tmp 2]) rfl rfl rfl
 refine gR 7 rfl ?_
 subst h
 exact go_end ac (rs := [.tmp 2]) rfl rfl rfl
theorem pc (m : Nat) (p0 : Int) (r0 : Bool) (h : ((10 ≤ p0) → ((p0 ≤ 22) → (p0 != 17) = r0) ∧ ((¬ p0 ≤ 22) → false = r0)) ∧ ((¬ 10 ≤ p0) → false = r0)) : dk p0 r0 := by
 refine ⟨rfl, rfl, ?_⟩
 refine ak 13 [] Tryz.func155 rfl rfl rfl (az rfl) fun K hK => ?_
 refine gR 10 rfl <| qBdZ 5 4 rfl rfl rfl rfl h (fun h => ?_) fun h => ?_
 refine gR 4 rfl <| qBdZ 9 8 rfl rfl rfl rfl h (fun h => ?_) fun h => ?_
 refine gR 7 rfl ?_
 subst h
 exact go_end ac (rs := [.tmp 2]) rfl rfl rfl
 refine gR 7 rfl ?_
 subst h
 exact go_end ac (rs := [.tmp 2]) rfl rfl rfl
 refine gR 11 rfl ?_
 subst h
 exact go_end ac (rs := [.tmp 2]) rfl rfl rfl
theorem oI (m : Nat) (p0 : Int) (r0 : Bool) (h : ∃ a, dk p0 a ∧ ((a = true) → ((p0 ≠ 19) → ((p0 ≠ 20) → (p0 != 21) = r0) ∧ ((p0 = 20) → false = r0)) ∧ ((p0 = 19) → false = r0)) ∧ ((a = false) → false = r0)) : ej p0 r0 := by
 refine ⟨rfl, rfl, ?_⟩
 refine ak 17 [] Tryz.func157 rfl rfl rfl (az rfl) fun K hK => ?_
 refine gR 8 rfl ?_
 obtain ⟨a, hs2, h⟩ := h
 refine gC0 hs2 (by kernel_rfl) rfl rfl .rfl rfl <| gR 1 rfl <| qBiZ 5 4 rfl rfl rfl rfl h (fun h => ?_) fun h => ?_
 refine gR 4 rfl <| qBhZ 9 8 rfl rfl rfl rfl h cz bN (fun h => ?_) fun h => ?_
 refine gR 4 rfl <| qBhZ 13 12 rfl rfl rfl rfl h cz bN (fun h => ?_) fun h => ?_
 refine gR 7 rfl ?_
 subst h
 exact go_end ac (rs := [.tmp 2]) rfl rfl rfl
 refine gR 7 rfl ?_
 subst h
 exact go_end ac (rs := [.tmp 2]) rfl rfl rfl
 refine gR 11 rfl ?_
 subst h
 exact go_end ac (rs := [.tmp 2]) rfl rfl rfl
 refine gR 15 rfl ?_
 subst h
 exact go_end ac (rs := [.tmp 2]) rfl rfl rfl
theorem mK (m : Nat) (p0 : List UInt8) (r0 : Bool) (h : ((p0 = [43]) → true = r0) ∧ ((p0 ≠ [43]) → ((p0 = [45]) → true = r0) ∧ ((p0 ≠ [45]) → ((p0 = [42]) → true = r0) ∧ ((p0 ≠ [42]) → ((p0 = [60]) → true = r0) ∧ ((p0 ≠ [60]) → ((p0 = [61, 61]) → true = r0) ∧ ((p0 ≠ [61, 61]) → false = r0)))))) : eU p0 r0 := by
 refine ⟨rfl, rfl, ?_⟩
 refine ak 10 [] Tryz.func154 rfl rfl rfl (az rfl) fun K hK => ?_
 refine gR 19 rfl <| qBeZ 4 5 rfl rfl rfl rfl h (fun h => ?_) fun h => ?_
 refine gR 12 rfl ?_
 subst h
 exact go_end ac (rs := [.tmp 2]) rfl rfl rfl
 refine gR 7 rfl <| qBeZ 4 6 rfl rfl rfl rfl h (fun h => ?_) fun h => ?_
 refine gR 12 rfl ?_
 subst h
 exact go_end ac (rs := [.tmp 2]) rfl rfl rfl
 refine gR 7 rfl <| qBeZ 4 7 rfl rfl rfl rfl h (fun h => ?_) fun h => ?_
 refine gR 12 rfl ?_
 subst h
 exact go_end ac (rs := [.tmp 2]) rfl rfl rfl
 refine gR 7 rfl <| qBeZ 4 8 rfl rfl rfl rfl h (fun h => ?_) fun h => ?_
 refine gR 12 rfl ?_
 subst h
 exact go_end ac (rs := [.tmp 2]) rfl rfl rfl
 refine gR 6 rfl <| qBeZ 4 9 rfl rfl rfl rfl h (fun h => ?_) fun h => ?_
 refine gR 9 rfl ?_
 subst h
 exact go_end ac (rs := [.tmp 2]) rfl rfl rfl
 refine gR 10 rfl ?_
 subst h
 exact go_end ac (rs := [.tmp 2]) rfl rfl rfl
def fj (m : Nat) (p0 : Int) (p1 : List UInt8) (a : Int) (b r0 : Bool) : Prop := ∀ (K : Ctx), aq K [] → qLG K Tryz.f109 (fun u _ => u = .bool r0) (cB (xF (ae Tryz.f109))) [.blk 0, .seq (xH (ae Tryz.f109))] 51 (mkF 51 0 [(1, .str p1), (5, .int .i64 a), (8, .int .i64 p0), (9, .bool b)]) ⟨0, []⟩
def cu (m : Nat) (p0 : Int) (p1 : List UInt8) (a : Int) (b r0 : Bool) : Prop := ∀ (K : Ctx), aq K [] → qLG K Tryz.f109 (fun u _ => u = .bool r0) (cB (xK (ae Tryz.f109))) [.blk 0, .seq (xH (ae Tryz.f109))] 51 (mkF 51 0 [(1, .str p1), (5, .int .i64 a), (8, .int .i64 p0), (14, .bool b)]) ⟨0, []⟩
theorem nA (m : Nat) (p0 : Int) (p1 : List UInt8) (r0 : Bool) (h : ∃ a, qr p1 a ∧ ((p0 = 1) → fj m p0 p1 a true r0) ∧ ((p0 ≠ 1) → fj m p0 p1 a (p0 == 3) r0)) : gh p0 p1 r0 := by
 refine ⟨rfl, rfl, ?_⟩
 refine ak 51 [] Tryz.func109 rfl rfl rfl (az rfl) fun K hK => ?_
 refine gR 8 rfl ?_
 obtain ⟨a, hs7, h⟩ := h
 refine gC0 hs7 (by kernel_rfl) rfl rfl .rfl rfl <| gR 17 rfl <| qBeZ 9 10 rfl rfl rfl rfl h (fun h => ?_) fun h => ?_
 exact gR 3 rfl <| gJ (h K hK) [] [] rfl hK pq4 trivial rfl
 exact gR 6 rfl <| gJ (h K hK) [] [] rfl hK pq4 trivial rfl
theorem nk (m : Nat) (p0 : Int) (p1 : List UInt8) (a : Int) (b r0 : Bool) (h : ((b = true) → (a == 2) = r0) ∧ ((b = false) → ((p0 = 2) → cu m p0 p1 a true r0) ∧ ((p0 ≠ 2) → ((p0 = 4) → cu m p0 p1 a true r0) ∧ ((p0 ≠ 4) → ((p0 = 12) → cu m p0 p1 a true r0) ∧ ((p0 ≠ 12) → cu m p0 p1 a (p0 == 20) r0))))) : fj (m + 1) p0 p1 a b r0 := by
 intro K hK
 refine qBi 9 rfl rfl rfl h (fun h => ?_) fun h => ?_
 refine gR 11 rfl ?_
 subst h
 exact go_end ac (rs := [.tmp 4]) rfl rfl rfl
 refine gR 8 rfl <| qBeZ 14 15 rfl rfl rfl rfl h (fun h => ?_) fun h => ?_
 exact gR 3 rfl <| gJ (h K hK) [] [] rfl hK pq4 trivial rfl
 refine gR 7 rfl <| qBeZ 14 16 rfl rfl rfl rfl h (fun h => ?_) fun h => ?_
 exact gR 3 rfl <| gJ (h K hK) [] [] rfl hK pq4 trivial rfl
 refine gR 7 rfl <| qBeZ 14 17 rfl rfl rfl rfl h (fun h => ?_) fun h => ?_
 exact gR 3 rfl <| gJ (h K hK) [] [] rfl hK pq4 trivial rfl
 exact gR 6 rfl <| gJ (h K hK) [] [] rfl hK pq4 trivial rfl
theorem nf (m : Nat) (p0 : Int) (p1 : List UInt8) (a : Int) (b r0 : Bool) (h : ((b = true) → (a == 1) = r0) ∧ ((b = false) → ((p0 = 9) → ((a = 2) → true = r0) ∧ ((a ≠ 2) → (a == 4) = r0)) ∧ ((p0 ≠ 9) → ((p0 = 16) → ((a = 1) → true = r0) ∧ ((a ≠ 1) → (a == 3) = r0)) ∧ ((p0 ≠ 16) → ((p0 = 10) → (a == 5) = r0) ∧ ((p0 ≠ 10) → ((p0 = 11) → (a == 6) = r0) ∧ ((p0 ≠ 11) → ((p0 = 21) → ∃ c, eU p1 c ∧ c = r0) ∧ ((p0 ≠ 21) → (p1 == []) = r0))))))) : cu (m + 1) p0 p1 a b r0 := by
 intro K hK
 refine qBi 14 rfl rfl rfl h (fun h => ?_) fun h => ?_
 refine gR 11 rfl ?_
 subst h
 exact go_end ac (rs := [.tmp 4]) rfl rfl rfl
 refine gR 7 rfl <| qBeZ 21 22 rfl rfl rfl rfl h (fun h => ?_) fun h => ?_
 refine gR 6 rfl <| qBeZ 25 24 rfl rfl rfl rfl h (fun h => ?_) fun h => ?_
 refine gR 9 rfl ?_
 subst h
 exact go_end ac (rs := [.tmp 4]) rfl rfl rfl
 refine gR 9 rfl ?_
 subst h
 exact go_end ac (rs := [.tmp 4]) rfl rfl rfl
 refine gR 7 rfl <| qBeZ 29 30 rfl rfl rfl rfl h (fun h => ?_) fun h => ?_
 refine gR 6 rfl <| qBeZ 33 32 rfl rfl rfl rfl h (fun h => ?_) fun h => ?_
 refine gR 9 rfl ?_
 subst h
 exact go_end ac (rs := [.tmp 4]) rfl rfl rfl
 refine gR 9 rfl ?_
 subst h
 exact go_end ac (rs := [.tmp 4]) rfl rfl rfl
 refine gR 7 rfl <| qBeZ 37 38 rfl rfl rfl rfl h (fun h => ?_) fun h => ?_
 refine gR 11 rfl ?_
 subst h
 exact go_end ac (rs := [.tmp 4]) rfl rfl rfl
 refine gR 7 rfl <| qBeZ 41 42 rfl rfl rfl rfl h (fun h => ?_) fun h => ?_
 refine gR 11 rfl ?_
 subst h
 exact go_end ac (rs := [.tmp 4]) rfl rfl rfl
 refine gR 7 rfl <| qBeZ 45 46 rfl rfl rfl rfl h (fun h => ?_) fun h => ?_
 refine gR 4 rfl ?_
 obtain ⟨c, hs8, h⟩ := h
 refine gC0 hs8 (by kernel_rfl) rfl rfl .rfl rfl <| gR 6 rfl ?_
 subst h
 exact go_end ac (rs := [.tmp 4]) rfl rfl rfl
 refine gR 12 rfl ?_
 subst h
 exact go_end ac (rs := [.tmp 4]) rfl rfl rfl
def fD (m : Nat) (p0 : Tree) (p1 p2 : Int) (a r0 : Bool) : Prop := ∀ (K : Ctx), aq K [] → qLG K Tryz.f110 (fun u _ => u = .bool r0) (cB (xC (xF (ae Tryz.f110)))) [.blk 0, .seq (xH (ae Tryz.f110))] 62 (mkF 62 0 [(1, .int .i64 p1), (2, .int .i64 p2), (12, .int .i64 p0.kind), (38, .bool a)]) ⟨0, []⟩
theorem qR (m : Nat) (p0 : Tree) (p1 p2 : Int) (r0 : Bool) (h : ((p0.kind = 1) → ((p2 = 2) → true = r0) ∧ ((p2 ≠ 2) → (p2 == 3) = r0)) ∧ ((p0.kind ≠ 1) → ((p0.kind = 2) → ((p1 = ((p0.kids.length : Int) - 1)) → ∃ a, dk p2 a ∧ a = r0) ∧ ((p1 ≠ ((p0.kids.length : Int) - 1)) → ((p1 = ((p0.kids.length : Int) - 2)) → ∃ b, eE p2 b ∧ b = r0) ∧ ((p1 ≠ ((p0.kids.length : Int) - 2)) → (p2 == 4) = r0))) ∧ ((p0.kind ≠ 2) → ((p0.kind = 3) → fD m p0 p1 p2 true r0) ∧ ((p0.kind ≠ 3) → ((p0.kind = 4) → fD m p0 p1 p2 true r0) ∧ ((p0.kind ≠ 4) → fD m p0 p1 p2 (p0.kind == 8) r0))))) : jj p0 p1 p2 r0 := by
 refine ⟨rfl, rfl, ?_⟩
 refine ak 62 [] Tryz.func110 rfl rfl rfl (az rfl) fun K hK => ?_
 refine gR 3 rfl <| gFP 0 rfl rfl rfl rfl <| gR 8 rfl <| gV 10 (.int .i64 (p0.kids.length : Int)) rfl (aO (aI _)) rfl <| gLB 9 rfl (aI _) fun hl17 => gR 17 rfl <| gB 13 rfl rfl rfl ?_ ?_ <;> intro hd
 refine gT 14 rfl hd rfl ?_
 replace hd := (eq_of_beq hd)
 replace h := h.1 hd
 refine gR 6 rfl <| gB 17 rfl rfl rfl ?_ ?_ <;> intro hd
 refine gT 16 rfl hd rfl ?_
 replace hd := (eq_of_beq hd)
 replace h := h.1 hd
 refine gR 9 rfl ?_
 subst h
 exact go_end ac (rs := [.tmp 6]) rfl rfl rfl
 refine gF 16 rfl hd rfl ?_
 replace hd := (ne_of_beq_false hd)
 replace h := h.2 hd
 refine gR 9 rfl ?_
 subst h
 exact go_end ac (rs := [.tmp 6]) rfl rfl rfl
 refine gF 14 rfl hd rfl ?_
 replace hd := (ne_of_beq_false hd)
 replace h := h.2 hd
 refine gR 7 rfl <| gB 21 rfl rfl rfl ?_ ?_ <;> intro hd
 refine gT 22 rfl hd rfl ?_
 replace hd := (eq_of_beq hd)
 replace h := h.1 hd
 refine gR 12 rfl <| gV 26 (.int .i64 ((p0.kids.length : Int) - 1)) rfl (ao (by have := hl17; omega) rfl) rfl <| gR 4 rfl <| gB 24 rfl rfl rfl ?_ ?_ <;> intro hd
 refine gT 27 rfl hd rfl ?_
 replace hd := (eq_of_beq hd)
 replace h := h.1 hd
 refine gR 4 rfl ?_
 obtain ⟨a, hs18, h⟩ := h
 refine gC0 hs18 (by kernel_rfl) rfl rfl .rfl rfl <| gR 8 rfl ?_
 subst h
 exact go_end ac (rs := [.tmp 6]) rfl rfl rfl
 refine gF 27 rfl hd rfl ?_
 replace hd := (ne_of_beq_false hd)
 replace h := h.2 hd
 refine gR 5 rfl <| gV 32 (.int .i64 ((p0.kids.length : Int) - 2)) rfl (ao (by have := hl17; omega) rfl) rfl <| gR 4 rfl <| gB 30 rfl rfl rfl ?_ ?_ <;> intro hd
 refine gT 33 rfl hd rfl ?_
 replace hd := (eq_of_beq hd)
 replace h := h.1 hd
 refine gR 4 rfl ?_
 obtain ⟨b, hs19, h⟩ := h
 refine gC0 hs19 (by kernel_rfl) rfl rfl .rfl rfl <| gR 8 rfl ?_
 subst h
 exact go_end ac (rs := [.tmp 6]) rfl rfl rfl
 refine gF 33 rfl hd rfl ?_
 replace hd := (ne_of_beq_false hd)
 replace h := h.2 hd
 refine gR 14 rfl ?_
 subst h
 exact go_end ac (rs := [.tmp 6]) rfl rfl rfl
 refine gF 22 rfl hd rfl ?_
 replace hd := (ne_of_beq_false hd)
 replace h := h.2 hd
 refine gR 8 rfl <| gB 38 rfl rfl rfl ?_ ?_ <;> intro hd
 refine gT 39 rfl hd rfl ?_
 replace hd := (eq_of_beq hd)
 replace h := h.1 hd
 exact gR 3 rfl <| gJ (h K hK) [] [] rfl hK pq4 trivial rfl
 refine gF 39 rfl hd rfl ?_
 replace hd := (ne_of_beq_false hd)
 replace h := h.2 hd
 refine gR 7 rfl <| gB 38 rfl rfl rfl ?_ ?_ <;> intro hd
 refine gT 40 rfl hd rfl ?_
 replace hd := (eq_of_beq hd)
 replace h := h.1 hd
 exact gR 3 rfl <| gJ (h K hK) [] [] rfl hK pq4 trivial rfl
 refine gF 40 rfl hd rfl ?_
 replace hd := (ne_of_beq_false hd)
 replace h := h.2 hd
 exact gR 6 rfl <| gJ (h K hK) [] [] rfl hK pq4 trivial rfl
theorem qp (m : Nat) (p0 : Tree) (p1 p2 : Int) (b r0 : Bool) (h : ((b = true) → ∃ c, eE p2 c ∧ c = r0) ∧ ((b = false) → ((p0.kind = 16) → (p2 == 17) = r0) ∧ ((p0.kind ≠ 16) → ((p0.kind = 21) → ∃ a, ej p2 a ∧ ((a = true) → true = r0) ∧ ((a = false) → ((p1 = 0) → (p2 == 21) = r0) ∧ ((p1 ≠ 0) → false = r0))) ∧ ((p0.kind ≠ 21) → ∃ d, dk p2 d ∧ d = r0)))) : fD (m + 1) p0 p1 p2 b r0 := by
 intro K hK
 refine qBi 38 rfl rfl rfl h (fun h => ?_) fun h => ?_
 refine gR 4 rfl ?_
 obtain ⟨c, hs20, h⟩ := h
 refine gC0 hs20 (by kernel_rfl) rfl rfl .rfl rfl <| gR 6 rfl ?_
 subst h
 exact go_end ac (rs := [.tmp 6]) rfl rfl rfl
 refine gR 7 rfl <| qBeZ 44 45 rfl rfl rfl rfl h (fun h => ?_) fun h => ?_
 refine gR 11 rfl ?_
 subst h
 exact go_end ac (rs := [.tmp 6]) rfl rfl rfl
 refine gR 7 rfl <| qBeZ 48 49 rfl rfl rfl rfl h (fun h => ?_) fun h => ?_
 refine gR 4 rfl ?_
 obtain ⟨a, hs21, h⟩ := h
 refine gC0 hs21 (by kernel_rfl) rfl rfl .rfl rfl <| gR 1 rfl <| qBiZ 52 51 rfl rfl rfl rfl h (fun h => ?_) fun h => ?_
 refine gR 13 rfl ?_
 subst h
 exact go_end ac (rs := [.tmp 6]) rfl rfl rfl
 refine gR 3 rfl <| qBeZ 55 54 rfl rfl rfl rfl h (fun h => ?_) fun h => ?_
 refine gR 10 rfl ?_
 subst h
 exact go_end ac (rs := [.tmp 6]) rfl rfl rfl
 refine gR 10 rfl ?_
 subst h
 exact go_end ac (rs := [.tmp 6]) rfl rfl rfl
 refine gR 7 rfl ?_
 obtain ⟨d, hs22, h⟩ := h
 refine gC0 hs22 (by kernel_rfl) rfl rfl .rfl rfl <| gR 4 rfl ?_
 subst h
 exact go_end ac (rs := [.tmp 6]) rfl rfl rfl
def dW (m : Nat) (p0 : Tree) (a : Nat) (r0 : Bool) : Prop := ∀ (K : Ctx) (j1 : Nat), aq K [] → m ≤ j1 → qLG K Tryz.f70 (fun u _ => u = .bool r0) (xI (ae Tryz.f70)) [.loop (xI (ae Tryz.f70)) j1, .blk 0, .seq (xH (ae Tryz.f70))] 45 (mkF 45 0 [(1, .box (an p0) 0), (3, .int .i64 (a : Int))]) ⟨0, []⟩
theorem pe (m : Nat) (p0 : Tree) (r0 : Bool) (h : ∃ a, dF p0.kind (p0.kids.length : Int) a ∧ ((a < 0) → false = r0) ∧ ((¬ a < 0) → ∃ b, gh p0.kind p0.text b ∧ ((b = false) → false = r0) ∧ ((b = true) → dW m p0 0 r0))) : dn p0 r0 := by
 refine ⟨rfl, rfl, ?_⟩
 refine ak 45 [] Tryz.func70 rfl rfl rfl (az rfl) fun K hK => ?_
 refine gR 3 rfl <| gFP 0 rfl rfl rfl rfl <| gR 11 rfl <| gV 8 (.int .i64 (p0.kids.length : Int)) rfl (aO (aI _)) rfl <| gLB 7 rfl (aI _) fun hl13 => ?_
 obtain ⟨a, hs14, h⟩ := h
 refine gC0 hs14 (by kernel_rfl) rfl rfl .rfl rfl <| gR 2 rfl <| gB 11 rfl rfl rfl ?_ ?_ <;> intro hd
 refine gT 10 rfl hd rfl ?_
 replace hd := (of_decide_eq_true hd)
 replace h := h.1 hd
 refine gR 17 rfl ?_
 subst h
 exact go_end ac (rs := [.tmp 2]) rfl rfl rfl
 refine gF 10 rfl hd rfl ?_
 replace hd := (of_decide_eq_false hd)
 replace h := h.2 hd
 refine gR 4 rfl ?_
 obtain ⟨b, hs15, h⟩ := h
 refine gC0 hs15 (by kernel_rfl) rfl rfl .rfl rfl <| gR 4 rfl <| gB 18 rfl rfl rfl ?_ ?_ <;> intro hd
 replace hd := (cr hd)
 replace h := h.1 hd
 refine gR 8 rfl ?_
 subst h
 exact go_end ac (rs := [.tmp 2]) rfl rfl rfl
 replace hd := (ct hd)
 replace h := h.2 hd
 exact gR 10 rfl <| go_loop m <| gJ (h K _ hK (by omega)) [] [] rfl hK pq2 trivial rfl
theorem jq (m : Nat) (p0 : Tree) (a : Nat) (r0 : Bool) (h : ((a < p0.kids.length) → ∃ d, p0.kids[a]? = some d ∧ ∃ b, jj p0 (a : Int) d.kind b ∧ ((b = false) → false = r0) ∧ ((b = true) → ∃ e, p0.kids[a]? = some e ∧ ∃ c, dn e c ∧ ((c = false) → false = r0) ∧ ((c = true) → dW m p0 (a + 1) r0))) ∧ ((¬ a < p0.kids.length) → true = r0)) : dW (m + 1) p0 a r0 := by
 intro K j1 hK hj1
 obtain ⟨j1, rfl⟩ : ∃ j, j1 = j + 1 := ⟨j1 - 1, by omega⟩
 refine gR 7 rfl <| gV 22 (.int .i64 (p0.kids.length : Int)) rfl (aO (aI _)) rfl <| gLB 21 rfl (aI _) fun hl16 => gR 3 rfl <| gB 23 rfl rfl rfl ?_ ?_ <;> intro hd
 replace hd := (ch hd)
 replace h := h.1 hd
 refine gR 6 rfl <| gDs [] 19 19 rfl (by kernel_rfl) (by kernel_rfl) <| gDr [(0, 2), (1, 2), (2, 2), (3, 2), (4, 0)] (by kernel_rfl) rfl rfl ?_
 obtain ⟨d, hxt1_1, h⟩ := h
 refine ev 5 rfl (by kernel_rfl) (aG (av hxt1_1) ac rfl rfl rfl rfl) rfl rfl ?_
 refine gDr [(6, 0), (7, 0)] (by kernel_rfl) rfl rfl ?_
 obtain ⟨b, hs17, h⟩ := h
 refine aN 8 hs17 (by kernel_rfl) rfl (by kernel_rfl) rfl rfl .rfl rfl rfl ?_
 refine gDr [(9, 0), (10, 0)] (by kernel_rfl) rfl rfl <| gB 36 rfl rfl rfl ?_ ?_ <;> intro hd
 refine gT 35 rfl hd rfl ?_
 replace hd := (cr hd)
 replace h := h.1 hd
 refine gDr [(11, 2), (12, 2), (13, 0), (14, 0), (15, 0), (16, 0), (17, 0), (18, 0)] (by kernel_rfl) rfl rfl <| gDe (by kernel_rfl) <| gR 10 rfl <| go_xloopR <| gR 2 rfl ?_
 subst h
 exact go_end ac (rs := [.tmp 2]) rfl rfl rfl
 refine gF 35 rfl hd rfl ?_
 replace hd := (ct hd)
 replace h := h.2 hd
 refine gDr [(11, 2), (12, 2), (13, 0)] (by kernel_rfl) rfl rfl ?_
 obtain ⟨e, hxt1_3, h⟩ := h
 refine ev 14 rfl (by kernel_rfl) (aG (av hxt1_3) ac rfl rfl rfl rfl) rfl rfl ?_
 refine gDr [(15, 0)] (by kernel_rfl) rfl rfl ?_
 obtain ⟨c, hs18, h⟩ := h
 refine aN 16 hs18 (by kernel_rfl) rfl (by kernel_rfl) rfl rfl .rfl rfl rfl ?_
 refine gDr [(17, 0), (18, 0)] (by kernel_rfl) rfl rfl <| gDe (by kernel_rfl) <| gR 1 rfl <| gB 44 rfl rfl rfl ?_ ?_ <;> intro hd
 replace hd := (cr hd)
 replace h := h.1 hd
 refine gR 9 rfl <| go_xloopR <| gR 2 rfl ?_
 subst h
 exact go_end ac (rs := [.tmp 2]) rfl rfl rfl
 replace hd := (ct hd)
 replace h := h.2 hd
 exact gR 7 rfl <| gV 25 (.int .i64 ((a + 1 : Nat) : Int)) rfl (ao (by have := hl16; omega) (by omega)) rfl <| gR 2 rfl <| go_xloop <| gJ (h K _ hK (by omega)) [] [] rfl hK pq2 trivial rfl
 replace hd := (cg hd)
 replace h := h.2 hd
 refine gR 3 rfl <| go_xloopE <| gR 8 rfl ?_
 subst h
 exact go_end ac (rs := [.tmp 2]) rfl rfl rfl
end Go.Proofs.YthnohcipianijaaGreatDoor
