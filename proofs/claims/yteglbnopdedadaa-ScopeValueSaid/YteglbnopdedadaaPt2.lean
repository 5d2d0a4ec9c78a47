/- Contracts of the functions that the law reaches, part 2. -/
import Derived.Test.YteglbnopdedadaaPt1
set_option linter.unusedVariables false
set_option linter.unusedSimpArgs false
namespace Go.Proofs.Yteglbnopdedadaa
open Go.RowKit
section
variable {P : Program} {T : Tab} {K : Ctx} {Q : Exit → Act → World → Prop} {s : List EI} {n : Nat} {F : Fm} {S S' : Nat → Prop} {w w' : World} {ρ ρ' : Nat → Option Value} {h h1 h1' h2 : Nat → Ob} {a : Act}
theorem m9 (hr : HRel S w ρ h) (hi : Inv K S w ρ h) (hh1 : ∀ i, h1 i = h i ∨ h1 i = .gone) (hr' : HRel S' w' ρ' h1') (hi' : Inv ⟨w, S, fun b => ∃ id, own ρ id (h1 id) b, ρ⟩ S' w' ρ' h1')
    (hh2 : ∀ i, (h2 i = h1' i ∨ h2 i = .gone) ∨ (h2 i = h i ∧ h1 i = .gone ∧ h i ≠ .free)) :
    HRel S' w' ρ' h2 ∧ Inv K S' w' ρ' h2 ∧ Up S S' w w' ρ ρ' ∧ ∀ L, bt h L = true → (∀ id, id ∈ L → h1 id = .gone) → Ls ρ L w w' := by
  have h1own : ∀ id b, own ρ id (h1 id) b → own ρ id (h id) b := fun id b hb => by
    rcases hh1 id with e | e
    · rw [e] at hb; exact hb
    · rw [e] at hb; exact hb.elim
  have up : Up S S' w w' ρ ρ' := ⟨hi'.s0, fun b hb hlt => hi'.chg.block b hlt (fun ⟨id, ho⟩ => hr.sep id b (h1own id b ho) hb), hi'.pin⟩
  have frame : ∀ i b, h1 i = .gone → own ρ i (h i) b → ¬ ∃ id, own ρ id (h1 id) b := fun i b hg ho ⟨id, hid⟩ => by
    have e := hr.dis i id b ho (h1own id b hid)
    subst e
    rw [hg] at hid; exact hid.elim
  have cases2 : ∀ i b, own ρ' i (h2 i) b → own ρ' i (h1' i) b ∨ (h1 i = .gone ∧ own ρ i (h i) b) := fun i b hb => by
    rcases hh2 i with (e | e) | ⟨e, e1, e2⟩
    · rw [e] at hb; exact .inl hb
    · rw [e] at hb; exact hb.elim
    · rw [e] at hb; exact .inr ⟨e1, qw hi'.pin (hr.ob i) hb⟩
  have far : ∀ i b, h1 i = .gone → own ρ i (h i) b → ¬ S' b := fun i b hg ho hS => by
    rcases hi'.s1 b hS with h3 | h3 | h3
    · exact hr.sep i b ho h3
    · exact frame i b hg ho h3
    · have := cw (hr.ob i) ho; simp only at h3; omega
  have apart : ∀ i j b, own ρ' i (h1' i) b → h1 j = .gone → own ρ j (h j) b → False := fun i j b ho hg hb => by
    rcases hi'.ow i b ho with h3 | h3
    · exact frame j b hg hb h3
    · have := cw (hr.ob j) hb; simp only at h3; omega
  refine ⟨⟨fun i => ?_, fun i b hb => ?_, fun i j b hbi hbj => ?_, hr'.slt⟩, ⟨?_, fun b hb => hi'.s0 b (hi.s0 b hb), fun b hb => ?_, fun i b hb => ?_, fun id x hx => hi'.pin _ _ (hi.pin id x hx)⟩, up, fun L hl hg id hid x b hx hb => ?_⟩
  · rcases hh2 i with (e | e) | ⟨e, e1, e2⟩
    · rw [e]; exact hr'.ob i
    · rw [e]; trivial
    · rw [e]
      exact (hr.ob i).up up (fun hf => absurd hf e2) (fun b hb => hi'.chg.block b (cw (hr.ob i) hb) (frame i b e1 hb))
  · rcases cases2 i b hb with h3 | ⟨h3, h4⟩
    · exact hr'.sep i b h3
    · exact far i b h3 h4
  · rcases cases2 i b hbi with h3 | ⟨h3, h4⟩ <;> rcases cases2 j b hbj with h5 | ⟨h5, h6⟩
    · exact hr'.dis i j b h3 h5
    · exact (apart i j b h3 h5 h6).elim
    · exact (apart j i b h5 h3 h4).elim
    · exact hr.dis i j b h4 h6
  · refine hi.chg.trans hi'.chg ?_
    rintro b ⟨id, ho⟩
    exact hi.ow id b (h1own id b ho)
  · rcases hi'.s1 b hb with h3 | ⟨id, h3⟩ | h3
    · exact hi.s1 b h3
    · exact .inr (hi.ow id b (h1own id b h3))
    · exact .inr (.inr (Nat.le_trans hi.chg.size h3))
  · rcases cases2 i b hb with h3 | ⟨h3, h4⟩
    · rcases hi'.ow i b h3 with ⟨id, h5⟩ | h5
      · exact hi.ow id b (h1own id b h5)
      · exact .inr (Nat.le_trans hi.chg.size h5)
    · exact hi.ow i b h4
  · have ho := fj hr hl id hid x b hx hb
    exact hi'.chg.block b (cw (hr.ob id) ho) (frame id b (hg id hid) ho)
def fb : Nat → List V → Fm
  | 0, _ => []
  | n + 1, [] => none :: fb n []
  | n + 1, v :: r => some v :: fb n r
theorem ku : ∀ (n : Nat) (vs : List V), (fb n vs).length = n
  | 0, _ => rfl
  | n + 1, [] => by simp [fb, ku n []]
  | n + 1, v :: r => by simp [fb, ku n r]
theorem kA : ∀ (n : Nat) (vs : List V) (i : Nat) (v : V), (fb n vs).get i = some v → vs[i]? = some v
  | 0, _, i, v, h => by simp [fb, Fm.get] at h
  | n + 1, [], 0, v, h => by simp [fb, Fm.get] at h
  | n + 1, [], i + 1, v, h => by
    have := kA n [] i v (by simpa [fb, Fm.get] using h)
    simp at this
  | n + 1, u :: r, 0, v, h => by simpa [fb, Fm.get] using h
  | n + 1, u :: r, i + 1, v, h => by
    have := kA n r i v (by simpa [fb, Fm.get] using h)
    simpa using this
theorem kC {H : Hp} {fid : FuncId} {fn : Func} {c : Code} {vs : List V} {xs : List Value} {R : Ending → World → Prop} (hf : P.funcs[fid]? = some fn) (hb : fn.body = some c) (hl : Nat.ble vs.length fn.ntmps = true) (hr : HRel S w ρ H.get) (hi : Inv K S w ρ H.get) (hx : LRel S w ρ vs xs)
    (k : Go P K (bodyPost P fn R) (.code c) [] fn.ntmps (fb fn.ntmps vs) H) : Calls P fid xs.toArray w R := by
  refine calls_of_wp hf hb (k S w ρ _ hr hi ⟨?_, rfl, ?_, fun i v hv => ?_⟩)
  · have h1 : vs.length ≤ fn.ntmps := Nat.le_of_ble_eq_true hl
    have h2 := hx.length
    simp; omega
  · exact Nat.le_of_eq (ku _ _)
  · have h1 := kA _ _ _ _ hv
    obtain ⟨x, h2, h3⟩ := hx.get h1
    refine ⟨x, ?_, h3⟩
    have hlt : i < xs.length := (List.getElem?_eq_some_iff.1 h2).1
    show (xs.toArray ++ Array.replicate (fn.ntmps - xs.toArray.size) undef)[i]? = some x
    rw [Array.getElem?_append_left (by simpa using hlt)]
    simpa using h2
def pj (T : Tab) (h : Nat → Ob) (F : Fm) : ResultVar → Option V
  | .tmp t => F.get t
  | .cell t ty => match T.ty ty with
    | some d => match F.get t with
      | some (.ptr id 0) => match h id with
        | .var _ cs => gc d cs 0
        | _ => none
      | some (.box cs 0) => gc d cs 0
      | _ => none
    | none => none
def jb (T : Tab) (h : Nat → Ob) (F : Fm) : List ResultVar → Option (List V)
  | [] => some []
  | x :: r => match pj T h F x with
    | some v => match jb T h F r with
      | some vs => some (v :: vs)
      | none => none
    | none => none
def fX : List V → V
  | [v] => v
  | vs => .tup vs
theorem nG {t : TypeId} {d : TD} (td : TdOk P t d) {b off : Nat} {cs : List V} {xs : List Value} {v : V} (hl : LRel S w ρ cs xs) (hc : ∀ j, j < xs.length → w.cell? ⟨b, off + j, none⟩ = xs[j]?) (hv : gc d cs 0 = some v) : ∃ y, (loadVar t ⟨b, off, none⟩).run P w = .ok y w ∧ VRel S w ρ v y := by
  have hlen := hl.length
  rcases fW td hv with ⟨h1, h2⟩ | ⟨h1, h2, rfl⟩
  · obtain ⟨y, h3, h4⟩ := hl.get h2
    have h0 : 0 < xs.length := (List.getElem?_eq_some_iff.1 h3).1
    have := mn (P := P) (w := w) (p := ⟨b, off, none⟩) h1 (by have := hc 0 h0; rw [Nat.add_zero] at this; rw [this, h3])
    refine ⟨y, ?_, h4⟩
    simp only [Instr.loadAt, Instr.sureAddr] at this
    simpa using this
  · have := lT (P := P) (w := w) (b := b) (o := off) (cs := xs.take d.size) h1 (by simp; omega) (fun j hj => by rw [hc j (by omega), List.getElem?_take, if_pos hj])
    refine ⟨_, ?_, by simp only [VRel]; exact ⟨xs.take d.size, rfl, by simpa using hl.take d.size⟩⟩
    simp only [Instr.loadAt, Instr.sureAddr] at this
    simpa using this
theorem rh (hT : TabOk P T) (hr : HRel S w ρ h) (hF : FRel S w ρ a n F) {x : ResultVar} {v : V} (hv : pj T h F x = some v) : ∃ y, (kx a x).run P w = .ok y w ∧ VRel S w ρ v y := by
  unfold pj at hv
  split at hv
  · rename_i t
    obtain ⟨y, h1, h2⟩ := hF.get t v hv
    exact ⟨y, by simp [kx, Array.getD_eq_getD_getElem?, h1], h2⟩
  · rename_i t ty
    split at hv
    · rename_i d hd
      split at hv
      · rename_i id hid
        split at hv
        · rename_i ho
          obtain ⟨b, xs, g1, g2, g3⟩ := gL hr ho
          obtain ⟨y, h1, h2⟩ := hF.get t _ hid
          simp only [VRel] at h2
          obtain ⟨b', h3, rfl⟩ := h2
          rw [g1] at h3
          simp only [Option.some.injEq, Value.pointer.injEq, Addr.mk.injEq, and_true] at h3
          subst h3
          obtain ⟨z, k1, k2⟩ := nG (hT.ty _ _ hd) g3 (b := b) (off := 0) (fun j hj => by rw [Nat.zero_add, g2.cell]) hv
          exact ⟨z, by simp [kx, Array.getD_eq_getD_getElem?, h1, asAddr, k1], k2⟩
        · cases hv
      · rename_i cs hid
        obtain ⟨y, h1, h2⟩ := hF.get t _ hid
        simp only [VRel] at h2
        obtain ⟨b, off, xs, rfl, _, _, g3, g4⟩ := h2
        obtain ⟨z, k1, k2⟩ := nG (hT.ty _ _ hd) g3 (b := b) (off := off) g4 hv
        exact ⟨z, by simp [kx, Array.getD_eq_getD_getElem?, h1, asAddr, k1], k2.up up0⟩
      · cases hv
    · cases hv
theorem oN (hT : TabOk P T) (hr : HRel S w ρ h) (hF : FRel S w ρ a n F) : ∀ {l : List ResultVar} {vs : List V}, jb T h F l = some vs → ∃ ys, (l.mapM (kx a)).run P w = .ok ys w ∧ LRel S w ρ vs ys
  | [], vs, hv => by simp only [jb, Option.some.injEq] at hv; subst hv; exact ⟨[], by simp, by simp [LRel]⟩
  | x :: r, vs, hv => by
    simp only [jb] at hv
    split at hv
    · rename_i v h1
      split at hv
      · rename_i us h2
        simp only [Option.some.injEq] at hv; subst hv
        obtain ⟨y, g1, g2⟩ := rh hT hr hF h1
        obtain ⟨ys, g3, g4⟩ := oN hT hr hF h2
        exact ⟨y :: ys, by simp [List.mapM_cons, g1, g3], ⟨y, ys, rfl, g2, g4⟩⟩
      · cases hv
    · cases hv
theorem om {vs : List V} {ys : List Value} (hl : LRel S w ρ vs ys) : VRel S w ρ (fX vs) (jN ys) := by
  match vs, ys, hl with
  | [], ys, hl => simp only [LRel] at hl; subst hl; simp only [fX, jN, VRel]; exact ⟨[], rfl, by simp [LRel]⟩
  | [v], ys, hl =>
    simp only [LRel] at hl
    obtain ⟨x, zs, rfl, h1, rfl⟩ := hl
    exact h1
  | v :: u :: r, ys, hl =>
    have hl' := hl
    simp only [LRel] at hl
    obtain ⟨x, zs, rfl, h1, y, zs', rfl, h2, h3⟩ := hl
    simp only [fX, jN, VRel]
    exact ⟨_, rfl, hl'⟩
theorem ret_go (hT : TabOk P T) {fn : Func} {R : Ending → World → Prop} {rs : List ResultVar} {vs : List V} {e : Exit} (he : e = .ret ∨ e = .normal) (hrs : fn.results = rs.toArray) (hr : HRel S w ρ h) (hF : FRel S w ρ a n F) (hv : jb T h F rs = some vs) (hR : ∀ x, VRel S w ρ (fX vs) x → R (.returned x) w) : bodyPost P fn R e a w := by
  obtain ⟨ys, h0, h1⟩ := oN hT hr hF hv
  have hb : bodyPost P fn R .ret a w := by
    refine bodyPost_ret (v := jN ys) ?_ hF.defers (hR _ (om h1))
    have e : (Array.mapM (kx a) rs.toArray).run P w = .ok ys.toArray w := by rw [List.mapM_toArray]; simp [h0]
    unfold results
    rw [hrs]
    change ((Array.mapM (kx a) rs.toArray) >>= fun vs => pure (if h : vs.size = 1 then vs[0] else .tuple vs)).run P w = _
    simp only [Sem.run_bind, e, Result.andThen_ok, Sem.run_pure]
    match ys with
    | [] => rfl
    | [v] => rfl
    | v :: u :: r => simp [jN]
  rcases he with rfl | rfl
  · exact hb
  · exact hb
end
end Go.Proofs.Yteglbnopdedadaa
namespace Go.Proofs.Yteglbnopdedadaa
open Go.RowKit
def pu (d : Nat) : Operand → Bool
  | .tmp t => !Nat.beq t d
  | _ => true
def iO (d : Option Tmp) (ps : List (Nat × Operand)) : Bool := match d with
  | some d => ps.all fun p => pu d p.2
  | none => true
def mE (d e : Option Tmp) : Bool := match d, e with
  | some d, some e => !Nat.beq d e
  | _, _ => true
section
variable {P : Program} {T : Tab} {K : Ctx} {Q : Exit → Act → World → Prop} {s : List EI} {n : Nat} {F : Fm} {H : Hp} {S : Nat → Prop} {w : World} {ρ : Nat → Option Value} {a : Act}
theorem tl {d : Nat} {x : Operand} {y : Value} (h : pu d x = true) : ao (fA (a.put (some d) y)) x = ao (fA a) x := by
  cases x with
  | tmp t =>
    have hne : t ≠ d := fun e => by subst e; simp [pu] at h
    simp only [ao, fA, Act.put, Array.getElem?_setIfInBounds]
    rw [if_neg (fun e => hne e.symm)]
  | _ => rfl
theorem ra {d : Option Tmp} {y : Value} : ∀ {ps : List (Nat × Operand)}, iO d ps = true → cc (fA (a.put d y)) ps = cc (fA a) ps := by
  intro ps h
  cases d with
  | none => rfl
  | some d =>
    induction ps with
    | nil => rfl
    | cons p r ih =>
      obtain ⟨i, x⟩ := p
      simp only [iO, List.all_cons, Bool.and_eq_true] at h
      have ih' := ih (by simp only [iO]; exact h.2)
      simp only [cc, tl h.1, ih']
theorem PRel.up {S' : Nat → Prop} {w' : World} {ρ' : Nat → Option Value} (u : Up S S' w w' ρ ρ') : ∀ {vs : List (Nat × V)} {ys : List (Nat × Value)}, PRel S w ρ vs ys → PRel S' w' ρ' vs ys
  | [], ys, h => h
  | (i, v) :: r, ys, h => by
    simp only [PRel] at h ⊢
    obtain ⟨x, zs, h1, h2, h3⟩ := h
    exact ⟨x, zs, h1, h2.up u, PRel.up u h3⟩
theorem qe {d e : Option Tmp} {v u : Option V} (h : mE d e = true) : (F.seto d v).seto e u = (F.seto e u).seto d v := by
  cases d with
  | none => rfl
  | some d => cases e with
    | none => rfl
    | some e =>
      have : d ≠ e := fun x => by subst x; simp [mE] at h
      simp only [Fm.seto]
      exact List.set_comm _ _ this
theorem qV {d : Option Tmp} {v : V} (hd : ∀ t, d = some t → F.get t = none) (hF : FRel S w ρ a n (F.seto d (some v))) : FRel S w ρ a n F := by
  cases d with
  | none => exact hF
  | some d =>
    refine ⟨hF.size, hF.defers, by have := hF.len; simpa [Fm.seto] using this, fun i u hu => hF.get i u ?_⟩
    have hne : d ≠ i := fun e => by subst e; rw [hd d rfl] at hu; cases hu
    rw [Fm.get_eq] at hu ⊢
    simp only [Fm.seto, List.getElem?_set, if_neg hne]
    exact hu
variable {all : Array Oper} {L : List Nat} {m left i : Nat} {listed : Array Bool} {o : Oper}
def GoP (P : Program) (K : Ctx) (Q : Exit → Act → World → Prop) (all : Array Oper) (L : List Nat) (m left : Nat) (listed : Array Bool) (s : List EI) (n : Nat) (F : Fm) (H : Hp) (i : Nat) (o : Oper) (ps : List (Nat × Operand)) (vs : List (Nat × V)) (v : V) : Prop :=
  ∀ S w ρ a, HRel S w ρ H.get → Inv K S w ρ H.get → Region.noSelect all = true →
    (FRel S w ρ a n F → (∃ ys, cc (fA a) ps = some ys ∧ PRel S w ρ vs ys) → wpB P all (NoPanic (bB P Q s)) (Agree S w) (Ls ρ L w) m (left + 1) listed a w) ∧
    (FRel S w ρ a n (F.seto o.dst (some v)) → wpB P all (NoPanic (bB P Q s)) (Agree S w) (Ls ρ L w) m left (listed.setIfInBounds i true) a w)
theorem qF {ps : List (Nat × Operand)} {vs : List (Nat × V)} {v : V} (hv : eS F ps = some vs) (k : GoP P K Q all L m left listed s n (F.seto o.dst none) H i o ps vs v) : Go P K Q (.drw all L m (left + 1) listed) s n F H := fun S w ρ a hr hi hF hs => by
  obtain ⟨ys, h1, h2⟩ := gj hF hv
  refine (k S w ρ a hr hi hs).1 ?_ ⟨ys, h1, h2⟩
  refine ⟨hF.size, hF.defers, ?_, fun j u hu => ?_⟩
  · cases hd : o.dst with
    | none => exact hF.len
    | some d => have := hF.len; simpa [Fm.seto] using this
  · cases hd : o.dst with
    | none => rw [hd] at hu; exact hF.get j u hu
    | some d =>
      rw [hd, Fm.get_eq] at hu
      simp only [Fm.seto, List.getElem?_set] at hu
      split at hu
      · split at hu <;> simp at hu
      · exact hF.get j u (by rw [Fm.get_eq]; exact hu)
theorem lS {w' : World} {b : Nat} (hc : Chg [] w w') : Up S (fun c => S c ∨ c = b) w w' ρ ρ := ⟨fun _ h => .inl h, fun c _ hlt => hc.block c hlt (by simp), fun _ _ h => h⟩
theorem qS {h : Nat → Ob} {w' : World} {b : Nat} (hr : HRel S w ρ h) (hc : Chg [] w w') (hb : b = w.heap.size) (hb' : b < w'.heap.size) : HRel (fun c => S c ∨ c = b) w' ρ h := by
  refine ⟨fun i => (hr.ob i).up (lS hc) (fun hf => ?_) (fun c hcc => hc.block c (cw (hr.ob i) hcc) (by simp)), fun i c hcc => ?_, hr.dis, fun c hcc => ?_⟩
  · have := hr.ob i; rw [hf] at this; exact this
  · rintro (h1 | h1)
    · exact hr.sep i c hcc h1
    · have := cw (hr.ob i) hcc; omega
  · rcases hcc with h1 | h1
    · exact Nat.lt_of_lt_of_le (hr.slt c h1) hc.size
    · omega
theorem r9 {h : Nat → Ob} {w' : World} {b : Nat} (hi : Inv K S w ρ h) (hc : Chg [] w w') (hb : b = w.heap.size) : Inv K (fun c => S c ∨ c = b) w' ρ h := by
  have h0 := hi.chg0 hc
  refine ⟨h0.chg, fun c hcc => .inl (hi.s0 c hcc), fun c hcc => ?_, hi.ow, hi.pin⟩
  rcases hcc with h1 | h1
  · exact hi.s1 c h1
  · have := hi.chg.size; exact .inr (.inr (by omega))
theorem n7 {h : Nat → Ob} {t e : TypeId} {ps : List (Nat × Operand)} {vs : List (Nat × V)} {ys : List (Nat × Value)} {d : TD} {k : Nat} {ty : TypeId} {els : List V} (hT : TabOk P T) (hr : HRel S w ρ h) (hi : Inv K S w ρ h) (fr : Fr a n (fA a)) (hps : cc (fA a) ps = some ys) (hpr : PRel S w ρ vs ys)
    {x1 x2 : Nat} {x3 : V} (ht : T.ty t = some ⟨x1, x2, x3, .sl e⟩) (he : T.ty e = some d) (hp : eh d.size 0 vs = some els) (hb : (Nat.beq els.length k && Nat.ble (k * d.size) 16777216 && Nat.ble k 16777216 && pureL els) = true) :
    ∃ x S' w', Runs P a ty (.buildSlice t k ps.toArray) w (.value x) w' ∧ HRel S' w' ρ h ∧ Inv K S' w' ρ h ∧ Up S S' w w' ρ ρ ∧ Chg [] w w' ∧ VRel S' w' ρ (.row d.size els) x := by
  simp only [Bool.and_eq_true, Nat.beq_eq] at hb
  obtain ⟨⟨⟨hl, hsm⟩, hm⟩, hpu⟩ := hb
  have hmm : k ≤ 16777216 := Nat.le_of_ble_eq_true hm
  obtain ⟨z, hz1, hz2⟩ := (hT.ty _ _ he).zeroT
  obtain ⟨h1, h2, h3⟩ := iw hpr hp
  have hidx : ps.map (·.1) = List.range k := by
    have : ps.map (·.1) = ys.map (·.1) := by rw [← fr.parts hps]; simp
    rw [this, h1, hl, List.range_eq_range']
  obtain ⟨w', b, g1, g2, g3, g4, g5⟩ := ml (P := P) (t := t) (m := k) fr hps ((hT.ty _ _ ht).sl rfl) (hT.ty _ _ he).size hz1 hidx h2 hsm rfl w ty
  have hlen := h3.length
  refine ⟨_, fun c => S c ∨ c = b, w', g1, qS hr g3 g4 g5, r9 hi g3 g4, lS g3, g3, ?_⟩
  simp only [VRel]
  refine ⟨some ⟨b, 0, none⟩, k, _, by rw [hl], by omega, by simp only [maxLen]; omega, (h3.up (lS g3)).pure hpu, hlen, fun _ => ⟨b, 0, rfl, .inr rfl, g5, fun j hj => by rw [Nat.zero_add, g2.cell]⟩⟩
def ir (T : Tab) (all : Array Oper) (i : Nat) (vs : List (Nat × V)) : Option (Oper × List (Nat × Operand) × V) := match all[i]? with
  | some ⟨dst, .buildSlice t k ⟨ps⟩, ty, pp, af, none⟩ => match T.ty t with
    | some ⟨_, _, _, .sl e⟩ => match T.ty e with
      | some d => match eh d.size 0 vs with
        | some els => match Nat.beq els.length k && Nat.ble (k * d.size) 16777216 && Nat.ble k 16777216 && pureL els with
          | true => cx d.size fun sz => some (⟨dst, .buildSlice t k ⟨ps⟩, ty, pp, af, none⟩, ps, .row sz els)
          | false => none
        | none => none
      | none => none
    | _ => none
  | _ => none
variable {ps : List (Nat × Operand)} {vs : List (Nat × V)} {v : V}
theorem l6 (hT : TabOk P T) (hp : ir T all i vs = some (o, ps, v)) (hr : HRel S w ρ H.get) (hiv : Inv K S w ρ H.get) (hF : FRel S w ρ a n F) {ys : List (Nat × Value)} (hps : cc (fA a) ps = some ys) (hpr : PRel S w ρ vs ys) (hs : Region.noSelect all = true)
    (hl : (bt H.get L || (listed.setIfInBounds i true).getD m false) = true)
    (D : ∀ S w ρ a, HRel S w ρ H.get → Inv K S w ρ H.get → FRel S w ρ a n (F.seto o.dst (some v)) → wpB P all (NoPanic (bB P Q s)) (Agree S w) (Ls ρ L w) m left (listed.setIfInBounds i true) a w) :
    wpOp P all (NoPanic (bB P Q s)) i (fun a' w' => Agree S w w' ∧ (Ls ρ L w w' ∨ (listed.setIfInBounds i true).getD m false = true) ∧ wpB P all (NoPanic (bB P Q s)) (Agree S w) (Ls ρ L w) m left (listed.setIfInBounds i true) a' w') a w := by
  unfold ir at hp
  split at hp
  · rename_i dst t k ps' ty pp af hi
    split at hp
    · rename_i e ht
      split at hp
      · rename_i d he
        split at hp
        · rename_i els hrp
          split at hp
          · rename_i hb
            rw [bx] at hp
            simp only [Option.some.injEq, Prod.mk.injEq] at hp
            obtain ⟨rfl, rfl, rfl⟩ := hp
            obtain ⟨x, S', w', g1, g2, g3, g4, g5, g6⟩ := n7 (ty := ty) hT hr hiv hF.fr hps hpr ht he hrp hb
            unfold wpOp
            simp only [hi]
            rw [if_pos (be hF (o := ⟨dst, .buildSlice t k ⟨ps'⟩, ty, pp, af, none⟩) rfl)]
            refine .inl ?_
            have hk := D S' w' ρ _ g2 g3 (bw (hF.up g4) dst g6)
            unfold Oper.wp
            rw [g1 dst pp af none]
            refine fB g4 (fun b hb => g5.block b (hr.slt b hb) (by simp)) ((j0 hl).imp (fun hl id hid x b hx hb => ?_) id) hk
            exact g5.block b (cw (hr.ob id) (fj hr hl id hid x b hx hb)) (by simp)
          · cases hp
        · cases hp
      · cases hp
    · cases hp
  · cases hp
theorem sO (hT : TabOk P T) (hp : ir T all i vs = some (o, ps, v)) (hrd : Region.ready .any all listed = [i]) (hl : (bt H.get L || (listed.setIfInBounds i true).getD m false) = true)
    (kk : Go P K Q (.drw all L m left (listed.setIfInBounds i true)) s n (F.seto o.dst (some v)) H) : GoP P K Q all L m left listed s n F H i o ps vs v := fun S w ρ a hr hiv hs => by
  refine ⟨fun hF ⟨ys, hps, hpr⟩ => fZ (S := S) hrd (l6 hT hp hr hiv hF hps hpr hs hl fun S w ρ a hr hiv hF => kk S w ρ a hr hiv hF hs), fun hF => kk S w ρ a hr hiv hF hs⟩
theorem oR {j : Nat} {B Sx : World → Prop} {Q' : Exit → Act → World → Prop} (hrd : (match Region.ready .any all listed with | [x, y] => (Nat.beq x i && Nat.beq y j) || (Nat.beq x j && Nat.beq y i) | _ => false) = true)
    (h1 : wpOp P all Q' i (fun a' w' => B w' ∧ (Sx w' ∨ (listed.setIfInBounds i true).getD m false = true) ∧ wpB P all Q' B Sx m left (listed.setIfInBounds i true) a' w') a w)
    (h2 : wpOp P all Q' j (fun a' w' => B w' ∧ (Sx w' ∨ (listed.setIfInBounds j true).getD m false = true) ∧ wpB P all Q' B Sx m left (listed.setIfInBounds j true) a' w') a w) : wpB P all Q' B Sx m (left + 1) listed a w := by
  split at hrd
  · rename_i x y hr
    refine ⟨fun h0 => (by rw [hr] at h0; cases h0), fun c hc => ?_⟩
    rw [hr] at hc
    simp only [Bool.or_eq_true, Bool.and_eq_true, Nat.beq_eq] at hrd
    simp only [List.mem_cons, List.not_mem_nil, or_false] at hc
    rcases hrd with ⟨rfl, rfl⟩ | ⟨rfl, rfl⟩
    · rcases hc with rfl | rfl
      · exact h1
      · exact h2
    · rcases hc with rfl | rfl
      · exact h2
      · exact h1
  · cases hrd
theorem rF (hT : TabOk P T) (hp : ir T all i vs = some (o, ps, v)) {j : Nat} {oj : Oper} (hj : all[j]? = some oj) (hrd : (match Region.ready .any all listed with | [x, y] => (Nat.beq x i && Nat.beq y j) || (Nat.beq x j && Nat.beq y i) | _ => false) = true) (hrd1 : Region.ready .any all (listed.setIfInBounds i true) = [j])
    (hl : (bt H.get L || (listed.setIfInBounds i true).getD m false) = true) (hd : ∀ t, o.dst = some t → F.get t = none) (hne : mE o.dst oj.dst = true) (hpn : iO oj.dst ps = true) (hcomm : (listed.setIfInBounds i true).setIfInBounds j true = (listed.setIfInBounds j true).setIfInBounds i true)
    {Post : V → Hp → Prop}
    (hx : ∀ S w ρ a, HRel S w ρ H.get → Inv K S w ρ H.get → FRel S w ρ a n F → ∀ (K2 : Act → World → Prop), (∀ x S' w' ρ' u H', Post u H' → HRel S' w' ρ' H'.get → Inv K S' w' ρ' H'.get → Up S S' w w' ρ ρ' → Agree S w w' → (Ls ρ L w w' ∨ ((listed.setIfInBounds j true).getD m false = true ∧ ((listed.setIfInBounds j true).setIfInBounds i true).getD m false = true)) → VRel S' w' ρ' u x → K2 (a.put oj.dst x) w') → wpOp P all (NoPanic (bB P Q s)) j K2 a w)
    (kk : ∀ u H', Post u H' → GoP P K Q all L m left (listed.setIfInBounds j true) s n (F.seto oj.dst (some u)) H' i o ps vs v) : GoP P K Q all L m (left + 1) listed s n F H i o ps vs v := fun S w ρ a hr hiv hs => by
  have D : ∀ S w ρ a, HRel S w ρ H.get → Inv K S w ρ H.get → FRel S w ρ a n (F.seto o.dst (some v)) → wpB P all (NoPanic (bB P Q s)) (Agree S w) (Ls ρ L w) m (left + 1) (listed.setIfInBounds i true) a w := fun S w ρ a hr hiv hF => by
    refine fZ (S := S) hrd1 ?_
    refine hx S w ρ a hr hiv (qV hd hF) _ fun x S' w' ρ' u H' hP hr' hi' hu hA hL hv => ?_
    rw [hcomm]
    refine fB hu hA (hL.imp id (·.2)) ((kk u H' hP S' w' ρ' _ hr' hi' hs).2 ?_)
    rw [← qe hne]
    exact bw (hF.up hu) oj.dst hv
  refine ⟨fun hF ⟨ys, hps, hpr⟩ => ?_, D S w ρ a hr hiv⟩
  refine oR hrd (l6 hT hp hr hiv hF hps hpr hs hl D) ?_
  refine hx S w ρ a hr hiv hF _ fun x S' w' ρ' u H' hP hr' hi' hu hA hL hv => ?_
  refine fB hu hA (hL.imp id (·.1)) ((kk u H' hP S' w' ρ' _ hr' hi' hs).1 (bw (hF.up hu) oj.dst hv) ⟨ys, ?_, hpr.up hu⟩)
  rw [ra hpn]; exact hps
end
section
variable {P : Program} {T : Tab} {K : Ctx} {Q : Exit → Act → World → Prop} {s : List EI} {n : Nat} {F : Fm} {H : Hp}
def gu (P : Program) (K : Ctx) (o : Oper) (L : List Nat) (ok : Bool) (n : Nat) (F : Fm) (H : Hp) (u : V) (H' : Hp) : Prop :=
  ∀ S w ρ a, HRel S w ρ H.get → Inv K S w ρ H.get → FRel S w ρ a n F → ∀ (Q' : Exit → Act → World → Prop) (K2 : Act → World → Prop),
    (∀ x S' w' ρ', HRel S' w' ρ' H'.get → Inv K S' w' ρ' H'.get → Up S S' w w' ρ ρ' → Agree S w w' → (Ls ρ L w w' ∨ ok = true) → VRel S' w' ρ' u x → K2 (a.put o.dst x) w') → o.wp P a w K2 Q'
theorem qZ (hT : TabOk P T) {o : Oper} {L : List Nat} {ok : Bool} {v : V} (hv : fF T H.get F o.op = some v) : gu P K o L ok n F H v H := fun S w ρ a hr hi hF Q' K2 k => by
  obtain ⟨x, h1, h2⟩ := i7 (ty := o.type) hT hr hF hv
  have := k x S w ρ hr hi Up.refl Agree.refl (.inl fV) h1
  obtain ⟨d, op, ty, ps, af, g⟩ := o
  unfold Oper.wp
  rw [h2 w Agree.refl d ps af g]
  exact this
theorem et (hT : TabOk P T) {o : Oper} {L : List Nat} {ok : Bool} {v : Option V} {ed : ED} (hv : fa T H.get F H.nx o.op = some (v, ed)) (hc : ((bt H.get L && ed.clear L) || ok) = true) : gu P K o L ok n F H (v.getD (.tup [])) (H.app ed) := fun S w ρ a hr hi hF Q' K2 k => by
  obtain ⟨nx, w', ρ', h1, h2, h3⟩ := jZ (ty := o.type) hT hr hF H.get_free hv
  have hr' := h2.hr
  have hi' := hi.eff h2
  rw [← Hp.get_app (ie hv)] at hr' hi'
  have hLs : Ls ρ L w w' ∨ ok = true := (j0 hc).imp (fun h => by
    simp only [Bool.and_eq_true] at h
    exact nS hr h2 h.1 h.2) id
  have kk := fun x hx => k x S w' ρ' hr' hi' h2.up (gO hr h2) hLs hx
  obtain ⟨d, op, ty, ps, af, g⟩ := o
  unfold Oper.wp
  rw [h1 d ps af g]
  cases v with
  | none =>
    subst h3
    exact kk undef i3
  | some v =>
    obtain ⟨x, rfl, h4⟩ := h3
    exact kk x h4
theorem fg {o : Oper} {L : List Nat} {ok : Bool} {fid : FuncId} {args : List Operand} {tys : Array TypeId} {vs : List V} {u : V} {H' : Hp} {L' : List Nat} (he : bQ P fid = true) (ho : o.op = .call { callee := .value (.func fid), args := args.toArray, argTypes := tys }) (hv : d7 F args = some vs) (hC : CallR P K fid vs H L' (fun u' H'' => u' = u ∧ H'' = H')) (hL : L' = L ∨ ok = true) : gu P K o L ok n F H u H' := fun S w ρ a hr hi hF Q' K2 k => by
  obtain ⟨xs, h1, h2⟩ := jd hF hv
  have hcl := hC S w ρ xs hr hi h2
  obtain ⟨d, op, ty, ps, af, g⟩ := o
  simp only at ho
  subst ho
  have hx : (execOp a.eval ⟨d, .call { callee := .value (.func fid), args := args.toArray, argTypes := tys }, ty, ps, af, g⟩).run P w = .ok (.enter fid xs.toArray) w := by
    have e : args.toArray.map a.eval = xs.toArray := by rw [← hF.fr.vals h1]; simp
    simp only [execOp, resolve, e]
    simp [Act.eval, Deferred.ofValue, invoke, gI he]
  unfold Oper.wp
  rw [hx, Oper.upon_enter]
  refine hcl.mono fun e w1 hR => ?_
  obtain ⟨x, S', ρ', v, H'', rfl, ⟨rfl, rfl⟩, hr', hi', hu, hvr, hls⟩ := hR
  exact k x S' w1 ρ' hr' hi' hu (fun b hb => hu.blk b hb (hr.slt b hb)) (hL.imp (fun e => by subst e; exact hls) id) hvr
theorem fc {all : Array Oper} {L : List Nat} {m left i j : Nat} {listed : Array Bool} {oi oj : Oper} {ui uj : V} {Hi Hj : Hp} (hrd : (match Region.ready .any all listed with | [x, y] => (Nat.beq x i && Nat.beq y j) || (Nat.beq x j && Nat.beq y i) | _ => false) = true) (hi : all[i]? = some oi) (hj : all[j]? = some oj) (hwi : aJ F all oi.guard = some true) (hwj : aJ F all oj.guard = some true)
    (xi : gu P K oi L ((listed.setIfInBounds i true).getD m false) n F H ui Hi) (xj : gu P K oj L ((listed.setIfInBounds j true).getD m false) n F H uj Hj)
    (ki : Go P K Q (.drw all L m left (listed.setIfInBounds i true)) s n (F.seto oi.dst (some ui)) Hi) (kj : Go P K Q (.drw all L m left (listed.setIfInBounds j true)) s n (F.seto oj.dst (some uj)) Hj) : Go P K Q (.drw all L m (left + 1) listed) s n F H := fun S w ρ a hr hiv hF hs => by
  refine oR hrd ?_ ?_
  · unfold wpOp
    simp only [hi]
    rw [if_pos (be hF hwi)]
    exact .inl (xi S w ρ a hr hiv hF _ _ fun x S' w' ρ' hr' hi' hu hA hL hv => fB hu hA hL (ki S' w' ρ' _ hr' hi' (bw (hF.up hu) oi.dst hv) hs))
  · unfold wpOp
    simp only [hj]
    rw [if_pos (be hF hwj)]
    exact .inl (xj S w ρ a hr hiv hF _ _ fun x S' w' ρ' hr' hi' hu hA hL hv => fB hu hA hL (kj S' w' ρ' _ hr' hi' (bw (hF.up hu) oj.dst hv) hs))
end
end Go.Proofs.Yteglbnopdedadaa
namespace Go.Proofs.Yteglbnopdedadaa
open Go.RowKit
def atN : List Nat → Nat → Option Nat
  | [], _ => none
  | x :: _, 0 => some x
  | _ :: r, i + 1 => atN r i
theorem fv : ∀ (l : List Nat) (i : Nat), atN l i = l[i]?
  | [], i => by simp [atN]
  | x :: r, 0 => by simp [atN]
  | x :: r, i + 1 => by simp [atN, fv r i]
abbrev pm : V := .raw (.agg #[])
mutual
def V.ren (σ : List Nat) : V → V
  | .ptr id o => match atN σ id with
    | some j => .ptr j o
    | none => pm
  | .el id sz i o => match atN σ id with
    | some j => .el j sz i o
    | none => pm
  | .sl id => match atN σ id with
    | some j => .sl j
    | none => pm
  | .agg cs => .agg (renL σ cs)
  | .tup cs => .tup (renL σ cs)
  | .clo fid cs => .clo fid (renL σ cs)
  | .int k n => .int k n
  | .bool b => .bool b
  | .str l => .str l
  | .nilp => .nilp
  | .nils => .nils
  | .raw x => .raw x
  | .box cs o => .box cs o
  | .row sz els => .row sz els
def renL (σ : List Nat) : List V → List V
  | [] => []
  | v :: r => v.ren σ :: renL σ r
end
def Ob.ren (σ : List Nat) : Ob → Ob
  | .var t cs => .var t (renL σ cs)
  | .row e sz els => .row e sz (renL σ els)
  | o => o
def cp (σ : List Nat) (ρ : Nat → Option Value) : Nat → Option Value := fun j => match atN σ j with
  | some i => ρ i
  | none => none
section
variable {S : Nat → Prop} {w : World} {ρ : Nat → Option Value} {σ : List Nat}
theorem nF {x : Value} (h : VRel S w ρ pm x) : False := by simp only [VRel, Value.oneCell'] at h; exact absurd h.2 (by simp)
mutual
theorem VRel.ren : ∀ {v : V} {x : Value}, VRel S w ρ (v.ren σ) x → VRel S w (cp σ ρ) v x
  | .int _ _, x, h => by simp only [V.ren, VRel] at h ⊢; exact h
  | .bool _, x, h => by simp only [V.ren, VRel] at h ⊢; exact h
  | .str _, x, h => by simp only [V.ren, VRel] at h ⊢; exact h
  | .nilp, x, h => by simp only [V.ren, VRel] at h ⊢; exact h
  | .nils, x, h => by simp only [V.ren, VRel] at h ⊢; exact h
  | .raw _, x, h => by simp only [V.ren, VRel] at h ⊢; exact h
  | .box _ _, x, h => by simp only [V.ren, VRel] at h ⊢; exact h
  | .row _ _, x, h => by simp only [V.ren, VRel] at h ⊢; exact h
  | .ptr id o, x, h => by
    simp only [V.ren] at h
    split at h
    · rename_i j hj
      simp only [VRel] at h ⊢
      obtain ⟨b, h1, h2⟩ := h
      exact ⟨b, by simp only [cp, hj]; exact h1, h2⟩
    · exact (nF h).elim
  | .el id sz i o, x, h => by
    simp only [V.ren] at h
    split at h
    · rename_i j hj
      simp only [VRel] at h ⊢
      obtain ⟨b, n, c, h1, h2⟩ := h
      exact ⟨b, n, c, by simp only [cp, hj]; exact h1, h2⟩
    · exact (nF h).elim
  | .sl id, x, h => by
    simp only [V.ren] at h
    split at h
    · rename_i j hj
      simp only [VRel] at h ⊢
      exact ⟨by simp only [cp, hj]; exact h.1, h.2⟩
    · exact (nF h).elim
  | .agg cs, x, h => by
    simp only [V.ren, VRel] at h ⊢
    obtain ⟨xs, h1, h2⟩ := h
    exact ⟨xs, h1, LRel.ren h2⟩
  | .tup cs, x, h => by
    simp only [V.ren, VRel] at h ⊢
    obtain ⟨xs, h1, h2⟩ := h
    exact ⟨xs, h1, LRel.ren h2⟩
  | .clo fid cs, x, h => by
    simp only [V.ren, VRel] at h ⊢
    obtain ⟨xs, h1, h2⟩ := h
    exact ⟨xs, h1, LRel.ren h2⟩
theorem LRel.ren : ∀ {v : List V} {x : List Value}, LRel S w ρ (renL σ v) x → LRel S w (cp σ ρ) v x
  | [], x, h => by simp only [renL, LRel] at h ⊢; exact h
  | v :: r, x, h => by
    simp only [renL, LRel] at h ⊢
    obtain ⟨y, ys, h1, h2, h3⟩ := h
    exact ⟨y, ys, h1, VRel.ren h2, LRel.ren h3⟩
end
theorem kI : ∀ (l : List V), (renL σ l).length = l.length
  | [] => by simp [renL]
  | v :: r => by simp [renL, kI r]
theorem CRel.ren {sz : Nat} : ∀ {v : List V} {x : List Value}, CRel S w ρ sz (renL σ v) x → CRel S w (cp σ ρ) sz v x
  | [], x, h => by simp only [renL, CRel] at h ⊢; exact h
  | v :: r, x, h => by
    simp only [renL, CRel] at h ⊢
    obtain ⟨y, ys, h1, h2, h3, h4⟩ := h
    exact ⟨y, ys, h1, h2, VRel.ren h3, CRel.ren h4⟩
mutual
theorem VRel.bwd {ρ' : Nat → Option Value} (hσ : ∀ j x, ρ j = some x → ∃ i, atN σ j = some i ∧ ρ' i = some x) : ∀ {v : V} {x : Value}, VRel S w ρ v x → VRel S w ρ' (v.ren σ) x
  | .int _ _, x, h => by simp only [V.ren, VRel] at h ⊢; exact h
  | .bool _, x, h => by simp only [V.ren, VRel] at h ⊢; exact h
  | .str _, x, h => by simp only [V.ren, VRel] at h ⊢; exact h
  | .nilp, x, h => by simp only [V.ren, VRel] at h ⊢; exact h
  | .nils, x, h => by simp only [V.ren, VRel] at h ⊢; exact h
  | .raw _, x, h => by simp only [V.ren, VRel] at h ⊢; exact h
  | .box _ _, x, h => by simp only [V.ren, VRel] at h ⊢; exact h
  | .row _ _, x, h => by simp only [V.ren, VRel] at h ⊢; exact h
  | .ptr id o, x, h => by
    simp only [VRel] at h
    obtain ⟨b, h1, h2⟩ := h
    obtain ⟨i, h3, h4⟩ := hσ _ _ h1
    simp only [V.ren, h3, VRel]
    exact ⟨b, h4, h2⟩
  | .el id sz i o, x, h => by
    simp only [VRel] at h
    obtain ⟨b, n, c, h1, h2⟩ := h
    obtain ⟨i', h3, h4⟩ := hσ _ _ h1
    simp only [V.ren, h3, VRel]
    exact ⟨b, n, c, h4, h2⟩
  | .sl id, x, h => by
    simp only [VRel] at h
    obtain ⟨i, h3, h4⟩ := hσ _ _ h.1
    simp only [V.ren, h3, VRel]
    exact ⟨h4, h.2⟩
  | .agg cs, x, h => by
    simp only [V.ren, VRel] at h ⊢
    obtain ⟨xs, h1, h2⟩ := h
    exact ⟨xs, h1, LRel.bwd hσ h2⟩
  | .tup cs, x, h => by
    simp only [V.ren, VRel] at h ⊢
    obtain ⟨xs, h1, h2⟩ := h
    exact ⟨xs, h1, LRel.bwd hσ h2⟩
  | .clo fid cs, x, h => by
    simp only [V.ren, VRel] at h ⊢
    obtain ⟨xs, h1, h2⟩ := h
    exact ⟨xs, h1, LRel.bwd hσ h2⟩
theorem LRel.bwd {ρ' : Nat → Option Value} (hσ : ∀ j x, ρ j = some x → ∃ i, atN σ j = some i ∧ ρ' i = some x) : ∀ {v : List V} {x : List Value}, LRel S w ρ v x → LRel S w ρ' (renL σ v) x
  | [], x, h => by simp only [renL, LRel] at h ⊢; exact h
  | v :: r, x, h => by
    simp only [renL, LRel] at h ⊢
    obtain ⟨y, ys, h1, h2, h3⟩ := h
    exact ⟨y, ys, h1, VRel.bwd hσ h2, LRel.bwd hσ h3⟩
end
theorem CRel.bwd {ρ' : Nat → Option Value} (hσ : ∀ j x, ρ j = some x → ∃ i, atN σ j = some i ∧ ρ' i = some x) {sz : Nat} : ∀ {v : List V} {x : List Value}, CRel S w ρ sz v x → CRel S w ρ' sz (renL σ v) x
  | [], x, h => by simp only [renL, CRel] at h ⊢; exact h
  | v :: r, x, h => by
    simp only [renL, CRel] at h ⊢
    obtain ⟨y, ys, h1, h2, h3, h4⟩ := h
    exact ⟨y, ys, h1, h2, VRel.bwd hσ h3, CRel.bwd hσ h4⟩
end
def cY (v u : V) : Prop := ∀ S w ρ x, VRel S w ρ v x → VRel S w ρ u x
theorem cY.rfl {v : V} : cY v v := fun _ _ _ _ h => h
theorem cY.of_eq {v u : V} (h : v = u) : cY v u := h ▸ cY.rfl
theorem cY.nil (sz : Nat) : cY .nils (.row sz []) := fun S w ρ x h => by
  simp only [VRel] at h ⊢
  subst h
  exact ⟨none, 0, [], by simp, Nat.le_refl _, by decide, by simp [CRel], RowIn.none_⟩
def aq : List V → List V → Prop
  | [], us => us = []
  | v :: r, us => ∃ u q, us = u :: q ∧ cY v u ∧ aq r q
theorem aq.rel {S : Nat → Prop} {w : World} {ρ : Nat → Option Value} : ∀ {vs us : List V} {xs : List Value}, aq vs us → LRel S w ρ vs xs → LRel S w ρ us xs
  | [], us, xs, h, hl => by simp only [aq] at h; subst h; exact hl
  | v :: r, us, xs, h, hl => by
    simp only [aq] at h
    obtain ⟨u, q, rfl, h1, h2⟩ := h
    simp only [LRel] at hl ⊢
    obtain ⟨y, ys, rfl, h3, h4⟩ := hl
    exact ⟨y, ys, rfl, h1 _ _ _ _ h3, aq.rel h2 h4⟩
theorem aq.rfl : ∀ {vs : List V}, aq vs vs
  | [] => by simp [aq]
  | v :: r => ⟨v, r, by rfl, cY.rfl, aq.rfl⟩
theorem cY.agg {vs us : List V} (h : aq vs us) : cY (.agg vs) (.agg us) := fun S w ρ x hx => by
  simp only [VRel] at hx ⊢
  obtain ⟨xs, h1, h2⟩ := hx
  exact ⟨xs, h1, h.rel h2⟩
theorem aq.cons {v u : V} {r q : List V} (h : cY v u) (k : aq r q) : aq (v :: r) (u :: q) := ⟨u, q, by rfl, h, k⟩
theorem aq.nil : aq [] [] := by simp [aq]
def iE : Ob → Ob → Prop
  | _, .gone => True
  | .var t cs, .var t' cs' => t = t' ∧ aq cs cs'
  | .row e sz els, .row e' sz' els' => e = e' ∧ sz = sz' ∧ els = els'
  | _, _ => False
def leF (σ : List Nat) : Fm → Fm → Prop
  | _, [] => True
  | [], none :: r' => leF σ [] r'
  | [], some _ :: _ => False
  | x :: r, none :: r' => leF σ r r'
  | x :: r, some u :: r' => (∃ v, x = some v ∧ cY v (u.ren σ)) ∧ leF σ r r'
def leH (σ : List Nat) (H : Hp) : List (Nat × Ob) → Prop
  | [] => True
  | (j, o) :: r => (∃ i, atN σ j = some i ∧ iE (H.get i) (o.ren σ)) ∧ leH σ H r
def bV : List Nat → Bool
  | [] => true
  | i :: r => !r.contains i && bV r
section
variable {P : Program} {T : Tab} {K : Ctx} {Q : Exit → Act → World → Prop} {s : List EI} {n : Nat} {F F' : Fm} {H H' : Hp} {σ : List Nat} {S : Nat → Prop} {w : World} {ρ : Nat → Option Value} {a : Act}
theorem j8 : ∀ {F F' : Fm}, leF σ F F' → ∀ i u, F'.get i = some u → ∃ v, F.get i = some v ∧ cY v (u.ren σ)
  | F, [], h, i, u, hu => by simp [Fm.get] at hu
  | [], none :: r', h, 0, u, hu => by simp [Fm.get] at hu
  | [], none :: r', h, i + 1, u, hu => by
    obtain ⟨v, h1, _⟩ := j8 (F := []) (F' := r') (by simpa [leF] using h) i u (by simpa [Fm.get] using hu)
    simp [Fm.get] at h1
  | [], some _ :: _, h, i, u, hu => by simp [leF] at h
  | x :: r, none :: r', h, 0, u, hu => by simp [Fm.get] at hu
  | x :: r, none :: r', h, i + 1, u, hu => by
    have := j8 (F := r) (F' := r') (by simpa [leF] using h) i u (by simpa [Fm.get] using hu)
    simpa [Fm.get] using this
  | x :: r, some u' :: r', h, 0, u, hu => by
    simp only [leF] at h
    simp only [Fm.get, Option.some.injEq] at hu
    subst hu
    obtain ⟨v, h1, h2⟩ := h.1
    exact ⟨v, by simp [Fm.get, h1], h2⟩
  | x :: r, some u' :: r', h, i + 1, u, hu => by
    simp only [leF] at h
    have := j8 h.2 i u (by simpa [Fm.get] using hu)
    simpa [Fm.get] using this
theorem rU (h : leF σ F F') (hl : F'.length ≤ n) (hF : FRel S w ρ a n F) : FRel S w (cp σ ρ) a n F' :=
  ⟨hF.size, hF.defers, hl, fun i u hu => by
    obtain ⟨v, h1, h2⟩ := j8 h i u hu
    obtain ⟨x, h3, h4⟩ := hF.get i v h1
    exact ⟨x, h3, (h2 _ _ _ _ h4).ren⟩⟩
theorem kz : ∀ {l : List (Nat × Ob)}, leH σ H l → ∀ j, ai l j = .gone ∨ ∃ i, atN σ j = some i ∧ iE (H.get i) ((ai l j).ren σ)
  | [], _, j => .inl rfl
  | (k, o) :: r, h, j => by
    simp only [leH] at h
    simp only [ai]
    split
    · rename_i hb
      have := Nat.eq_of_beq_eq_true hb
      subst this
      exact .inr h.1
    · exact kz h.2 j
theorem hU : ∀ {l : List Nat}, bV l = true → ∀ i j x, atN l i = some x → atN l j = some x → i = j
  | [], _, i, j, x, hi, hj => by simp [atN] at hi
  | y :: r, h, 0, 0, x, hi, hj => rfl
  | y :: r, h, 0, j + 1, x, hi, hj => by
    simp only [bV, Bool.and_eq_true, Bool.not_eq_true'] at h
    simp only [atN, Option.some.injEq] at hi hj
    subst hi
    rw [fv] at hj
    have := List.mem_of_getElem? hj
    simp [this] at h
  | y :: r, h, i + 1, 0, x, hi, hj => by
    simp only [bV, Bool.and_eq_true, Bool.not_eq_true'] at h
    simp only [atN, Option.some.injEq] at hi hj
    subst hj
    rw [fv] at hi
    have := List.mem_of_getElem? hi
    simp [this] at h
  | y :: r, h, i + 1, j + 1, x, hi, hj => by
    simp only [bV, Bool.and_eq_true] at h
    have := hU h.2 i j x (by simpa [atN] using hi) (by simpa [atN] using hj)
    omega
theorem rR {i j : Nat} {o o' : Ob} (hij : atN σ j = some i) (h : iE o (o'.ren σ)) (ho' : o' ≠ .gone) (hr : dt S w ρ i o) : dt S w (cp σ ρ) j o' ∧ ∀ b, own (cp σ ρ) j o' b → own ρ i o b := by
  have hρ : cp σ ρ j = ρ i := by simp only [cp, hij]
  cases o' with
  | gone => exact absurd rfl ho'
  | free => cases o <;> simp [Ob.ren, iE] at h
  | ext bs Φ => cases o <;> simp [Ob.ren, iE] at h
  | var t' cs' =>
    cases o <;> simp only [Ob.ren, iE] at h
    rename_i t cs
    obtain ⟨rfl, h⟩ := h
    obtain ⟨b, xs, h1, h2, h3⟩ := hr
    exact ⟨⟨b, xs, by rw [hρ]; exact h1, h2, (h.rel h3).ren⟩, fun c hc => by simp only [own] at hc ⊢; rw [hρ] at hc; exact hc⟩
  | row e' sz' els' =>
    cases o <;> simp only [Ob.ren, iE] at h
    rename_i e sz els
    obtain ⟨rfl, rfl, rfl⟩ := h
    obtain ⟨v, xs, h1, h2, h3⟩ := hr
    rw [kI] at h2
    exact ⟨⟨v, xs, by rw [hρ]; exact h1, h2, h3.ren⟩, fun c hc => by
      obtain ⟨q, e1, e2⟩ := hc
      exact ⟨q, by rw [← hρ]; exact e1, e2⟩⟩
def aQ (K : Ctx) (pv : List Nat) : Prop := ∀ id x, K.pin id = some x → id ∈ pv
def pP (σ pv : List Nat) : Bool := pv.all fun i => match atN σ i with | some j => Nat.beq i j | none => false
theorem nq (hH : leH σ H H'.es) (hn : bV σ = true) (hlen : Nat.ble σ.length H'.nx = true) (hr : HRel S w ρ H.get) : HRel S w (cp σ ρ) H'.get ∧ ∀ j b, own (cp σ ρ) j (H'.get j) b → ∃ i, atN σ j = some i ∧ own ρ i (H.get i) b := by
  have key : ∀ j, dt S w (cp σ ρ) j (H'.get j) ∧ ∀ b, own (cp σ ρ) j (H'.get j) b → ∃ i, atN σ j = some i ∧ own ρ i (H.get i) b := fun j => by
    unfold Hp.get
    split
    · rcases kz hH j with e | ⟨i, h1, h2⟩
      · rw [e]; exact ⟨trivial, fun b hb => hb.elim⟩
      · by_cases hg : ai H'.es j = .gone
        · rw [hg]; exact ⟨trivial, fun b hb => hb.elim⟩
        · obtain ⟨h3, h4⟩ := rR h1 h2 hg (hr.ob i)
          exact ⟨h3, fun b hb => ⟨i, h1, h4 b hb⟩⟩
    · rename_i hlt
      refine ⟨?_, fun b hb => hb.elim⟩
      show cp σ ρ j = none
      have hj : ¬ j < H'.nx := fun h => by rw [nlT h] at hlt; cases hlt
      have hl : σ.length ≤ H'.nx := Nat.le_of_ble_eq_true hlen
      simp only [cp, fv]
      rw [List.getElem?_eq_none (by omega)]
  refine ⟨⟨fun j => (key j).1, fun j b hb => ?_, fun i j b hbi hbj => ?_, hr.slt⟩, fun j => (key j).2⟩
  · obtain ⟨i, _, h⟩ := (key j).2 b hb
    exact hr.sep i b h
  · obtain ⟨i', h1, h2⟩ := (key i).2 b hbi
    obtain ⟨j', h3, h4⟩ := (key j).2 b hbj
    have := hr.dis i' j' b h2 h4
    subst this
    exact hU hn i j i' h1 h3
def EP.still : EP → Bool
  | .drw .. => false
  | _ => true
theorem ab {p : EP} (σ pv : List Nat) (hp : p.still = true) (hpin : aQ K pv) (hF : leF σ F F') (hH : leH σ H H'.es) (hc : (bV σ && Nat.ble σ.length H'.nx && pP σ pv && Nat.ble F'.length n) = true) (k : Go P K Q p s n F' H') : Go P K Q p s n F H := fun S w ρ a hr hi hf => by
  simp only [Bool.and_eq_true] at hc
  obtain ⟨⟨⟨h1, h2⟩, h3⟩, h4⟩ := hc
  obtain ⟨g1, g2⟩ := nq hH h1 h2 hr
  have hi' : Inv K S w (cp σ ρ) H'.get := ⟨hi.chg, hi.s0, hi.s1, fun j b hb => by obtain ⟨i, _, h⟩ := g2 j b hb; exact hi.ow i b h, fun id x hx => by
    have hm := List.all_eq_true.1 h3 id (hpin id x hx)
    simp only [cp]
    split at hm
    · rename_i j hj
      have := Nat.eq_of_beq_eq_true hm
      subst this
      first | exact hi.pin id x hx | (rw [hj]; exact hi.pin id x hx)
    · cases hm⟩
  have := k S w (cp σ ρ) a g1 hi' (rU hF (Nat.le_of_ble_eq_true h4) hf)
  cases p with
  | drw => cases hp
  | code c => exact this
  | ops all rest => exact this
  | ex e => exact this
def SP (K : Ctx) (Post : V → Hp → Prop) (e : Ending) (w' : World) : Prop :=
  ∃ x S' ρ' v H', e = .returned x ∧ Post v H' ∧ HRel S' w' ρ' H'.get ∧ Inv K S' w' ρ' H'.get ∧ VRel S' w' ρ' v x
def d5 (PL : List Nat) (i : Nat) : Ob → Bool
  | .var _ _ => true
  | .ext _ _ => true
  | .row _ _ _ => PL.contains i
  | _ => false
def i6 (PL : List Nat) (h : Nat → Ob) (ρ : Nat → Option Value) : Nat → Option Value := fun i => match d5 PL i (h i) with
  | true => ρ i
  | false => none
def dU (PL : List Nat) (P : Program) (fid : FuncId) (vs : List V) (H0 : Hp) (Post : V → Hp → Prop) : Prop :=
  ∀ S w ρ xs, HRel S w ρ H0.get → LRel S w ρ vs xs → Calls P fid xs.toArray w (SP ⟨w, S, fun b => ∃ id, own ρ id (H0.get id) b, i6 PL H0.get ρ⟩ Post)
abbrev Sum (P : Program) (fid : FuncId) (vs : List V) (H0 : Hp) (Post : V → Hp → Prop) : Prop := dU [] P fid vs H0 Post
theorem aj {PL : List Nat} {fid : FuncId} {fn : Func} {c : Code} {vs : List V} {H0 : Hp} {Post : V → Hp → Prop} (N : Nat) (pv : List Nat) (hf : P.funcs[fid]? = some fn) (hb : fn.body = some c) (hN : fn.ntmps = N) (hl : Nat.ble vs.length N = true) (hpv : ∀ i, d5 PL i (H0.get i) = true → i ∈ pv)
    (k : ∀ K, aQ K pv → Go P K (bodyPost P fn (SP K Post)) (.code c) [] N (fb N vs) H0) : dU PL P fid vs H0 Post := fun S w ρ xs hr hx => by
  subst hN
  have hi : Inv ⟨w, S, fun b => ∃ id, own ρ id (H0.get id) b, i6 PL H0.get ρ⟩ S w ρ H0.get := ⟨ChgP.refl _ _, fun _ h => h, fun _ h => .inl h, fun id b hb => .inl ⟨id, hb⟩, fun id x h => by
    simp only [i6] at h
    split at h
    · exact h
    · cases h⟩
  refine kC hf hb hl hr hi hx (k _ fun id x h => hpv id ?_)
  simp only [i6] at h
  split at h
  · assumption
  · cases h
theorem ac (hT : TabOk P T) {fn : Func} {Post : V → Hp → Prop} {rs : List ResultVar} {vs : List V} {e : Exit} (hrs : fn.results = rs.toArray) (hv : jb T H.get F rs = some vs) (hP : Post (fX vs) H) (he : e = .ret ∨ e = .normal := by first | exact .inl rfl | exact .inr rfl) : Go P K (bodyPost P fn (SP K Post)) (.ex e) [] n F H := fun S w ρ a hr hi hF =>
  ret_go hT he hrs hr hF hv fun x hx => ⟨x, S, ρ, _, H, rfl, hP, hr, hi, hx⟩
theorem Sum.mono {PL : List Nat} {fid : FuncId} {vs : List V} {H0 : Hp} {Post Post' : V → Hp → Prop} (h : dU PL P fid vs H0 Post) (hp : ∀ v H, Post v H → Post' v H) : dU PL P fid vs H0 Post' := fun S w ρ xs hr hx => (h S w ρ xs hr hx).mono fun e w' ⟨x, S', ρ', v, H', h1, h2, h3⟩ => ⟨x, S', ρ', v, H', h1, hp v H' h2, h3⟩
theorem Sum.sub {PL : List Nat} {fid : FuncId} {vs us : List V} {H0 : Hp} {Post : V → Hp → Prop} (h : dU PL P fid us H0 Post) (hs : aq vs us) : dU PL P fid vs H0 Post := fun S w ρ xs hr hx => h S w ρ xs hr (hs.rel hx)
end
end Go.Proofs.Yteglbnopdedadaa
namespace Go.Proofs.Yteglbnopdedadaa
open Go.RowKit
def ej : List Nat → Nat → Option Nat
  | [], _ => none
  | x :: r, i => match Nat.beq x i with
    | true => some 0
    | false => match ej r i with
      | some j => some (j + 1)
      | none => none
theorem dc : ∀ {l : List Nat} {i j : Nat}, ej l i = some j → atN l j = some i
  | [], i, j, h => by cases h
  | x :: r, i, j, h => by
    simp only [ej] at h
    split at h
    · rename_i hb
      have := Nat.eq_of_beq_eq_true hb
      injection h with h; subst h; subst this; rfl
    · split at h
      · rename_i j' hj
        injection h with h; subst h
        simpa [atN] using dc hj
      · cases h
theorem mr : ∀ {l : List Nat} {i : Nat}, ej l i = none → ∀ j, atN l j ≠ some i
  | [], i, h, j => by simp [atN]
  | x :: r, i, h, 0 => by
    simp only [ej] at h
    split at h
    · cases h
    · rename_i hb
      simp only [atN, ne_eq, Option.some.injEq]
      exact Nat.ne_of_beq_eq_false hb
  | x :: r, i, h, j + 1 => by
    simp only [ej] at h
    split at h
    · cases h
    · split at h
      · cases h
      · rename_i hn
        simpa [atN] using mr hn j
theorem sx {l : List Nat} (hn : bV l = true) {i j : Nat} (h : atN l j = some i) : ej l i = some j := by
  cases hi : ej l i with
  | none => exact absurd h (mr hi j)
  | some k => rw [hU hn k j i (dc hi) h]
def sgN (PL : List Nat) (nx : Nat) (h0 : Nat → Ob) : Nat → List Nat → Nat → List Nat
  | 0, _, _ => []
  | m + 1, σ, j => match σ with
    | [] => (nx + j) :: sgN PL nx h0 m [] (j + 1)
    | i :: r => (match d5 PL j (h0 j) with | true => i | false => nx + j) :: sgN PL nx h0 m r (j + 1)
theorem lI (PL : List Nat) (nx : Nat) (h0 : Nat → Ob) : ∀ (m : Nat) (σ : List Nat) (j : Nat), (sgN PL nx h0 m σ j).length = m
  | 0, _, _ => rfl
  | m + 1, [], j => by simp [sgN, lI PL nx h0 m]
  | m + 1, i :: r, j => by simp [sgN, lI PL nx h0 m]
theorem np (PL : List Nat) (nx : Nat) (h0 : Nat → Ob) : ∀ (m : Nat) (σ : List Nat) (j k : Nat), k < m → atN (sgN PL nx h0 m σ j) k = some (match atN σ k, d5 PL (j + k) (h0 (j + k)) with | some i, true => i | _, _ => nx + (j + k))
  | 0, _, _, k, h => by omega
  | m + 1, [], j, 0, h => by simp [sgN, atN]
  | m + 1, [], j, k + 1, h => by
    have := np PL nx h0 m [] (j + 1) k (by omega)
    simp only [sgN, atN] at this ⊢
    rw [this]
    simp only [show j + 1 + k = j + (k + 1) by omega]
  | m + 1, i :: r, j, 0, h => by
    simp only [sgN, atN, Nat.add_zero]
    cases d5 PL j (h0 j) <;> rfl
  | m + 1, i :: r, j, k + 1, h => by
    have := np PL nx h0 m r (j + 1) k (by omega)
    simp only [sgN, atN] at this ⊢
    rw [this]
    simp only [show j + 1 + k = j + (k + 1) by omega]
def jM (σ : List Nat) : List (Nat × Ob) → List (Nat × Ob)
  | [] => []
  | (j, o) :: r => match atN σ j with
    | some i => (i, o.ren σ) :: jM σ r
    | none => jM σ r
def g7 (σ : List Nat) (nx : Nat) : List (Nat × Ob) → List (Nat × Ob)
  | [] => []
  | (j, o) :: r => match !σ.contains j && Nat.blt j nx with
    | true => match o with
      | .free => (j, .gone) :: g7 σ nx r
      | o => (j, o) :: g7 σ nx r
    | false => g7 σ nx r
def gp (PL : List Nat) (H : Hp) (σ : List Nat) (H0 H' : Hp) : Hp := ⟨H.nx + H'.nx, jM (sgN PL H.nx H0.get H'.nx σ 0) H'.es ++ g7 σ H.nx H.es⟩
theorem mh {σ : List Nat} (hn : bV σ = true) {i : Nat} : ∀ {l : List (Nat × Ob)}, ai (jM σ l) i = match ej σ i with | some j => (ai l j).ren σ | none => .gone
  | [] => by simp only [jM, ai]; cases ej σ i <;> rfl
  | (k, o) :: r => by
    have ih := mh hn (i := i) (l := r)
    simp only [jM]
    split
    · rename_i i' hi'
      simp only [ai]
      by_cases e : i' = i
      · subst e
        rw [nbT, sx hn hi']
        simp only [nbT]
      · rw [nbF e, ih]
        cases hj : ej σ i with
        | none => rfl
        | some j =>
          have hne : k ≠ j := fun e' => by subst e'; rw [dc hj] at hi'; injection hi' with h; exact e h.symm
          simp only [nbF hne]
    · rename_i hk
      rw [ih]
      cases hj : ej σ i with
      | none => rfl
      | some j =>
        have hne : k ≠ j := fun e' => by subst e'; rw [dc hj] at hk; cases hk
        simp only [ai, nbF hne]
theorem mb {σ : List Nat} {nx i : Nat} : ∀ {l : List (Nat × Ob)}, ai (g7 σ nx l) i = .gone ∨ (ai (g7 σ nx l) i = ai l i ∧ σ.contains i = false ∧ i < nx ∧ ai l i ≠ .free)
  | [] => .inl rfl
  | (k, o) :: r => by
    have ih := mb (σ := σ) (nx := nx) (i := i) (l := r)
    simp only [g7]
    by_cases hk : k = i
    · subst hk
      cases hc : (!σ.contains k && Nat.blt k nx)
      · simp only
        -- none of the entries for k is kept
        left
        have key : ∀ (l : List (Nat × Ob)), ai (g7 σ nx l) k = .gone := by
          intro l
          induction l with
          | nil => rfl
          | cons q t ih =>
            obtain ⟨m, o'⟩ := q
            simp only [g7]
            by_cases hm : m = k
            · subst hm; rw [hc]; exact ih
            · cases hc' : (!σ.contains m && Nat.blt m nx)
              · exact ih
              · cases o' <;> (simp only [ai, nbF hm]; exact ih)
        exact key r
      · simp only [Bool.and_eq_true, Bool.not_eq_true'] at hc
        have hlt : k < nx := by simpa [Nat.blt_eq] using hc.2
        cases o with
        | free => left; simp only [ai, nbT]
        | gone => left; simp only [ai, nbT]
        | var t cs => right; simp only [ai, nbT]; exact ⟨trivial, hc.1, hlt, by simp⟩
        | row e sz els => right; simp only [ai, nbT]; exact ⟨trivial, hc.1, hlt, by simp⟩
        | ext bs Φ => right; simp only [ai, nbT]; exact ⟨trivial, hc.1, hlt, by simp⟩
    · have e2 : ai ((k, o) :: r) i = ai r i := by simp only [ai, nbF hk]
      rw [e2]
      cases hc : (!σ.contains k && Nat.blt k nx)
      · exact ih
      · cases o <;> (simp only [ai, nbF hk]; exact ih)
theorem jG : ∀ {l : List Nat}, (∀ i j x, atN l i = some x → atN l j = some x → i = j) → bV l = true
  | [], _ => rfl
  | y :: r, h => by
    simp only [bV, Bool.and_eq_true, Bool.not_eq_true']
    refine ⟨?_, jG fun i j x hi hj => by have := h (i + 1) (j + 1) x (by simpa [atN] using hi) (by simpa [atN] using hj); omega⟩
    cases hc : r.contains y
    · rfl
    · exfalso
      have hm : y ∈ r := by simpa using hc
      obtain ⟨k, hk, e⟩ := List.getElem_of_mem hm
      have := h 0 (k + 1) y (by simp [atN]) (by simp only [atN, fv]; rw [List.getElem?_eq_getElem hk, e])
      omega
section
variable {P : Program} {K : Ctx} {H H0 : Hp} {σ : List Nat} {S : Nat → Prop} {w : World}
theorem ur {ρ ρ' : Nat → Option Value} {i j : Nat} {o : Ob} (hσ : ∀ j x, ρ j = some x → ∃ i, atN σ j = some i ∧ ρ' i = some x) (hj : atN σ j = some i) (hnn : ρ j = none → ρ' i = none ∨ o ≠ .free) (h : dt S w ρ j o) : dt S w ρ' i (o.ren σ) ∧ ∀ b, own ρ' i (o.ren σ) b → own ρ j o b := by
  have hs : ∀ x, ρ j = some x → ρ' i = some x := fun x hx => by
    obtain ⟨i', h1, h2⟩ := hσ j x hx
    rw [hj] at h1; injection h1 with h1; subst h1; exact h2
  cases o with
  | free => exact ⟨(hnn h).resolve_right (by simp), fun b hb => hb⟩
  | gone => exact ⟨trivial, fun b hb => hb⟩
  | ext bs Φ => exact ⟨h, fun b hb => hb⟩
  | var t cs =>
    obtain ⟨b, xs, h1, h2, h3⟩ := h
    refine ⟨⟨b, xs, hs _ h1, h2, h3.bwd hσ⟩, fun c hc => ?_⟩
    simp only [Ob.ren, own] at hc ⊢
    rw [hs _ h1] at hc; rw [h1]; exact hc
  | row e sz els =>
    obtain ⟨v, xs, h1, h2, h3⟩ := h
    refine ⟨⟨v, xs, hs _ h1, by rw [kI]; exact h2, h3.bwd hσ⟩, fun c hc => ?_⟩
    obtain ⟨q, e1, e2⟩ := hc
    rw [hs _ h1] at e1
    cases e1
    exact ⟨v, h1, e2⟩
theorem kJ {PL : List Nat} {fid : FuncId} {vs us : List V} {Post : V → Hp → Prop} (hS : dU PL P fid us H0 Post) (σ : List Nat) (hv : aq vs (renL σ us)) (hH : leH σ H H0.es) (hc : (bV σ && Nat.beq σ.length H0.nx && σ.all fun i => Nat.blt i H.nx) = true) (L : List Nat) (hL : (bt H.get L && L.all fun i => !σ.contains i) = true) :
    CallR P K fid vs H L (fun v' H'' => ∃ v H', Post v H' ∧ v' = v.ren (sgN PL H.nx H0.get H'.nx σ 0) ∧ H'' = gp PL H σ H0 H') := fun S w ρ xs hr hi hx => by
  simp only [Bool.and_eq_true] at hc hL
  obtain ⟨⟨hc1, hc2⟩, hc3⟩ := hc
  have hlen : σ.length = H0.nx := by simpa using hc2
  have hσlt : ∀ j i, atN σ j = some i → i < H.nx := fun j i h => by
    rw [fv] at h
    have := List.all_eq_true.1 hc3 i (List.mem_of_getElem? h)
    simpa [Nat.blt_eq] using this
  obtain ⟨g1, g2⟩ := nq (H' := H0) hH hc1 (by simp [hlen]) hr
  refine (hS S w (cp σ ρ) xs g1 ((hv.rel hx).ren)).mono fun e w' hR => ?_
  obtain ⟨x, S', ρ1, v, H', rfl, hP, hr', hi', hvr⟩ := hR
  obtain ⟨τ, hτ⟩ : ∃ τ, τ = sgN PL H.nx H0.get H'.nx σ 0 := ⟨_, rfl⟩
  have hτlen : τ.length = H'.nx := by rw [hτ]; exact lI _ _ _ _ _ _
  have hτat : ∀ j, j < H'.nx → atN τ j = some (match atN σ j, d5 PL j (H0.get j) with | some i, true => i | _, _ => H.nx + j) := fun j hj => by
    rw [hτ, np _ _ _ _ _ _ _ hj]; simp only [Nat.zero_add]
  have hτlt : ∀ j i, atN τ j = some i → j < H'.nx := fun j i h => by
    rw [fv] at h
    have := (List.getElem?_eq_some_iff.1 h).1
    omega
  have hτc : ∀ j i, atN τ j = some i → (atN σ j = some i ∧ d5 PL j (H0.get j) = true) ∨ i = H.nx + j := fun j i h => by
    have hj := hτlt j i h
    rw [hτat j hj] at h
    simp only [Option.some.injEq] at h
    cases h1 : atN σ j with
    | none => rw [h1] at h; exact .inr h.symm
    | some i1 =>
      rw [h1] at h
      cases h2 : d5 PL j (H0.get j)
      · rw [h2] at h; exact .inr h.symm
      · rw [h2] at h; simp only at h; subst h; exact .inl ⟨rfl, rfl⟩
  have hτbd : ∀ j i, atN τ j = some i → i < H.nx + H'.nx := fun j i h => by
    have hj := hτlt j i h
    rcases hτc j i h with ⟨h1, _⟩ | h1
    · have := hσlt j i h1; omega
    · omega
  have hτinj : bV τ = true := jG fun j k i h1 h2 => by
    rcases hτc j i h1 with ⟨a1, _⟩ | a1 <;> rcases hτc k i h2 with ⟨a2, _⟩ | a2
    · exact hU hc1 j k i a1 a2
    · have := hσlt j i a1; omega
    · have := hσlt k i a2; omega
    · omega
  have hfreeρ : ∀ i, H.nx ≤ i → ρ i = none := fun i hi' => by
    have := hr.ob i
    have e : H.get i = .free := by
      unfold Hp.get
      have : Nat.blt i H.nx = false := by cases hb : Nat.blt i H.nx; rfl; simp [Nat.blt_eq] at hb; omega
      rw [this]
    rw [e] at this; exact this
  have hfree1 : ∀ j, H'.nx ≤ j → ρ1 j = none := fun j hj => by
    have := hr'.ob j
    have e : H'.get j = .free := by
      unfold Hp.get
      have : Nat.blt j H'.nx = false := by cases hb : Nat.blt j H'.nx; rfl; simp [Nat.blt_eq] at hb; omega
      rw [this]
    rw [e] at this; exact this
  obtain ⟨ρ2, hρ2⟩ : ∃ ρ2 : Nat → Option Value, ρ2 = fun i => if i < H.nx then ρ i else ρ1 (i - H.nx) := ⟨_, rfl⟩
  have hup : ∀ i y, ρ i = some y → ρ2 i = some y := fun i y h => by
    by_cases hlt : i < H.nx
    · rw [hρ2]; simp only [hlt, if_true]; exact h
    · rw [hfreeρ i (by omega)] at h; cases h
  have hpin : ∀ j, d5 PL j (H0.get j) = true → ∀ y, cp σ ρ j = some y → ρ1 j = some y := fun j hv y h => hi'.pin j y (by simp only [i6, hv]; exact h)
  have hnoext : ∀ j i, atN σ j = some i → ∀ bs Φ, H0.get j = .ext bs Φ → False := fun j i h1 bs Φ hy' => by
    have hl := kz hH j
    have hlt : j < H0.nx := by
      rw [← hlen]
      rw [fv] at h1
      exact (List.getElem?_eq_some_iff.1 h1).1
    have e0 : H0.get j = ai H0.es j := by unfold Hp.get; rw [nlT hlt]
    rw [← e0, hy'] at hl
    rcases hl with hl | ⟨i', _, hl⟩
    · cases hl
    · cases ho : H.get i' <;> rw [ho] at hl <;> simp [Ob.ren, iE] at hl
  have hτρ : ∀ j y, ρ1 j = some y → ∃ i, atN τ j = some i ∧ ρ2 i = some y := fun j y h => by
    have hj : j < H'.nx := by
      rcases Nat.lt_or_ge j H'.nx with h1 | h1
      · exact h1
      · rw [hfree1 j h1] at h; cases h
    obtain ⟨i, hji⟩ : ∃ i, atN τ j = some i := ⟨_, hτat j hj⟩
    refine ⟨i, hji, ?_⟩
    rcases hτc j i hji with ⟨h1, h2⟩ | h1
    · -- a variable keeps its place
      have hob := g1.ob j
      have hsome : ∃ y', cp σ ρ j = some y' ∨ ∃ bs Φ, H0.get j = .ext bs Φ := by
        cases ho : H0.get j with
        | var t cs => rw [ho] at hob; obtain ⟨b, _, hb, _⟩ := hob; exact ⟨_, .inl hb⟩
        | row e sz els => rw [ho] at hob; obtain ⟨b, _, hb, _⟩ := hob; exact ⟨_, .inl hb⟩
        | ext bs Φ => exact ⟨.bool true, .inr ⟨bs, Φ, rfl⟩⟩
        | _ => rw [ho] at h2; cases h2
      obtain ⟨y', hy' | ⟨bs, Φ, hy'⟩⟩ := hsome
      · have := hpin j h2 y' hy'
        rw [h] at this; injection this with this; subst this
        simp only [cp, h1] at hy'
        exact hup _ _ hy'
      · exact (hnoext j i h1 bs Φ hy').elim
    · subst h1
      rw [hρ2]
      simp only [show ¬ H.nx + j < H.nx by omega, if_false, Nat.add_sub_cancel_left]
      exact h
  -- the call's objects under the caller's numbers
  obtain ⟨h1', hh1'⟩ : ∃ h1' : Nat → Ob, h1' = fun i => match ej τ i with | some j => (H'.get j).ren τ | none => if i < H.nx + H'.nx then .gone else .free := ⟨_, rfl⟩
  obtain ⟨h1, hh1⟩ : ∃ h1 : Nat → Ob, h1 = fun i => match σ.contains i with | true => H.get i | false => .gone := ⟨_, rfl⟩
  have hin : ∀ i, h1 i = H.get i ∨ h1 i = .gone := fun i => by rw [hh1]; simp only []; cases σ.contains i <;> simp
  have hkey : ∀ i, dt S' w' ρ2 i (h1' i) ∧ ∀ b, own ρ2 i (h1' i) b → ∃ j, ej τ i = some j ∧ own ρ1 j (H'.get j) b := fun i => by
    rw [hh1']
    simp only []
    cases hj : ej τ i with
    | none =>
      simp only []
      split
      · exact ⟨trivial, fun b hb => hb.elim⟩
      · rename_i hlt
        refine ⟨?_, fun b hb => hb.elim⟩
        show ρ2 i = none
        rw [hρ2]
        simp only [show ¬ i < H.nx by omega, if_false]
        exact hfree1 _ (by omega)
    | some j =>
      have hat := dc hj
      obtain ⟨k1, k2⟩ := ur hτρ hat (fun hn => by
        have hjl := hτlt j i hat
        by_cases hf : H'.get j = .free
        · left
          rcases hτc j i hat with ⟨a1, a2⟩ | a1
          · -- a variable is not free
            have hob := g1.ob j
            exfalso
            cases ho : H0.get j with
            | var t cs =>
              rw [ho] at hob; obtain ⟨b, _, hb, _⟩ := hob
              have := hpin j a2 _ hb
              rw [hn] at this; cases this
            | row e sz els =>
              rw [ho] at hob; obtain ⟨b, _, hb, _⟩ := hob
              have := hpin j a2 _ hb
              rw [hn] at this; cases this
            | ext bs Φ => exact hnoext j i a1 bs Φ ho
            | _ => rw [ho] at a2; cases a2
          · subst a1
            rw [hρ2]
            simp only [show ¬ H.nx + j < H.nx by omega, if_false, Nat.add_sub_cancel_left]
            exact hn
        · exact .inr hf) (hr'.ob j)
      exact ⟨k1, fun b hb => ⟨j, rfl, k2 b hb⟩⟩
  have hX : ∀ b, (∃ id, own (cp σ ρ) id (H0.get id) b) → ∃ id, own ρ id (h1 id) b := fun b ⟨id, hb⟩ => by
    obtain ⟨i, h2, h3⟩ := g2 id b hb
    refine ⟨i, ?_⟩
    have hm : σ.contains i = true := by
      rw [fv] at h2
      simpa using List.mem_of_getElem? h2
    rw [hh1]; simp only [hm]; exact h3
  have hrel1 : HRel S' w' ρ2 h1' := ⟨fun i => (hkey i).1, fun i b hb => by obtain ⟨j, _, h⟩ := (hkey i).2 b hb; exact hr'.sep j b h, fun i k b hbi hbk => by
    obtain ⟨j, e1, h1⟩ := (hkey i).2 b hbi
    obtain ⟨j', e2, h2⟩ := (hkey k).2 b hbk
    have := hr'.dis j j' b h1 h2
    subst this
    have a1 := dc e1
    have a2 := dc e2
    rw [a1] at a2; injection a2, hr'.slt⟩
  have hinv1 : Inv ⟨w, S, fun b => ∃ id, own ρ id (h1 id) b, ρ⟩ S' w' ρ2 h1' := ⟨hi'.chg.mono hX, hi'.s0, fun b hb => by
    rcases hi'.s1 b hb with h | h | h
    · exact .inl h
    · exact .inr (.inl (hX b h))
    · exact .inr (.inr h), fun i b hb => by
    obtain ⟨j, _, h⟩ := (hkey i).2 b hb
    rcases hi'.ow j b h with h | h
    · exact .inl (hX b h)
    · exact .inr h, fun id y h => hup id y h⟩
  have hh2 : ∀ i, ((gp PL H σ H0 H').get i = h1' i ∨ (gp PL H σ H0 H').get i = .gone) ∨ ((gp PL H σ H0 H').get i = H.get i ∧ h1 i = .gone ∧ H.get i ≠ .free) := fun i => by
    by_cases hlt : i < H.nx + H'.nx
    · have e0 : (gp PL H σ H0 H').get i = ai (jM τ H'.es ++ g7 σ H.nx H.es) i := by
        unfold Hp.get gp
        simp only [nlT hlt, hτ]
      rw [e0]
      rcases nO (jM τ H'.es) (g7 σ H.nx H.es) i with e | ⟨_, e⟩
      · rw [e, mh hτinj]
        cases hj : ej τ i with
        | none => exact .inl (.inr rfl)
        | some j =>
          left; left
          rw [hh1']
          simp only [hj]
          have hjl := hτlt j i (dc hj)
          unfold Hp.get
          rw [nlT hjl]
      · rw [e]
        rcases mb (σ := σ) (nx := H.nx) (i := i) (l := H.es) with e1 | ⟨e1, e2, e3, e4⟩
        · exact .inl (.inr e1)
        · right
          have eH : H.get i = ai H.es i := by unfold Hp.get; rw [nlT e3]
          refine ⟨by rw [e1, eH], ?_, by rw [eH]; exact e4⟩
          rw [hh1]; simp only [e2]
    · left; left
      have e0 : (gp PL H σ H0 H').get i = .free := by
        unfold Hp.get gp
        have : Nat.blt i (H.nx + H'.nx) = false := by cases hb : Nat.blt i (H.nx + H'.nx); rfl; simp [Nat.blt_eq] at hb; omega
        simp only [this]
      rw [e0, hh1']
      simp only []
      cases hj : ej τ i with
      | none => simp only [hlt, if_false]
      | some j => have := hτbd j i (dc hj); omega
  obtain ⟨m1, m2, m3, m4⟩ := m9 (h2 := (gp PL H σ H0 H').get) hr hi hin hrel1 hinv1 hh2
  refine ⟨x, S', ρ2, _, _, rfl, ⟨v, H', hP, rfl, rfl⟩, m1, m2, m3, by rw [← hτ]; exact hvr.bwd hτρ, m4 L hL.1 fun id hid => ?_⟩
  have := List.all_eq_true.1 hL.2 id hid
  simp only [Bool.not_eq_true'] at this
  rw [hh1]; simp only [this]
end
end Go.Proofs.Yteglbnopdedadaa
namespace Go.Proofs.Yteglbnopdedadaa
open Go.RowKit
section
variable (T : Tab)
def opS (F : Fm) (H : Hp) (o : Oper) {α : Type} (c : Fm → Hp → Option α) : Option α :=
  match fF T H.get F o.op with
  | some v => F.puto o.dst (some v) fun F' => c F' H
  | none => match fa T H.get F H.nx o.op with
    | some (v, ed) => H.ap ed fun H' => match v with
      | some v => F.puto o.dst (some v) fun F' => c F' H'
      | none => F.puto o.dst (some (.tup [])) fun F' => c F' H'
    | none => none
def cr : Nat → EP → List EI → Fm → Hp → Option (EP × List EI × Fm × Hp)
  | 0, p, s, F, H => some (p, s, F, H)
  | k + 1, .code c, s, F, H => match c with
    | .seq x y => cr k (.code x) (.seq y :: s) F H
    | .block id c => cr k (.code c) (.blk id :: s) F H
    | .skip => cr k (.ex .normal) s F H
    | .ret => cr k (.ex .ret) s F H
    | .exit id => cr k (.ex (.exit id)) s F H
    | .cond c x y => match au F c with
      | some (.bool true) => cr k (.code x) s F H
      | some (.bool false) => cr k (.code y) s F H
      | _ => none
    | .region _ ⟨l⟩ false => cr k (.ops ⟨l⟩ l) s F H
    | _ => none
  | k + 1, .ops all rest, s, F, H => match rest with
    | [] => cr k (.ex .normal) s F H
    | o :: r => match aJ F all o.guard with
      | some true => opS T F H o fun F' H' => cr k (.ops all r) s F' H'
      | some false => F.puto o.dst (some (.tup [])) fun F' => cr k (.ops all r) s F' H
      | none => none
  | k + 1, .ex e, s, F, H => match s with
    | [] => none
    | .seq c :: s => match e with
      | .normal => cr k (.code c) s F H
      | .exit i => cr k (.ex (.exit i)) s F H
      | .ret => cr k (.ex .ret) s F H
      | _ => none
    | .blk id :: s => match e with
      | .normal => cr k (.ex .normal) s F H
      | .exit i => match Nat.beq i id with
        | true => cr k (.ex .normal) s F H
        | false => cr k (.ex (.exit i)) s F H
      | .ret => cr k (.ex .ret) s F H
      | _ => none
    | _ => none
  | k + 1, .drw .., _, _, _ => none
def gg (all : Array Oper) (L : List Nat) : List (Nat × Nat) → Fm → Hp → Option (Fm × Hp)
  | [], F, H => some (F, H)
  | (i, f) :: r, F, H => match all[i]? with
    | some o => match aJ F all o.guard with
      | some false => F.puto o.dst (some (.tup [])) fun F' => gg all L r F' H
      | some true => match f with
        | 2 => match fF T H.get F o.op with
          | some v => F.puto o.dst (some v) fun F' => gg all L r F' H
          | none => none
        | 3 => match iL F o.op with
          | some id => match L.contains id with
            | true => match fa T H.get F H.nx o.op with
              | some (some v, _) => F.puto o.dst (some v) fun F' => gg all L r F' H
              | _ => none
            | false => none
          | none => none
        | f => match fF T H.get F o.op with
          | some v => F.puto o.dst (some v) fun F' => gg all L r F' H
          | none => match fa T H.get F H.nx o.op with
            | some (v, ed) => match (bt H.get L && ed.clear L) || Nat.beq f 1 with
              | true => H.ap ed fun H' => match v with
                | some v => F.puto o.dst (some v) fun F' => gg all L r F' H'
                | none => F.puto o.dst (some (.tup [])) fun F' => gg all L r F' H'
              | false => none
            | none => none
      | none => none
    | none => none
end
def pz (all : Array Oper) (m : Nat) : List (Nat × Nat) → Array Bool → Bool
  | [], _ => true
  | (i, f) :: r, listed => (match f with
    | 2 => !Nat.beq i m && Region.free .any all listed i && (Region.ready .any all listed).contains i
    | 3 => !Nat.beq i m && Region.free .any all listed i && (Region.ready .any all listed).contains i && kY .any all m i && !listed.getD m false
    | 1 => (match Region.ready .any all listed with | [j] => Nat.beq i j | _ => false) && (listed.setIfInBounds i true).getD m false
    | _ => (match Region.ready .any all listed with | [j] => Nat.beq i j | _ => false)) && pz all m r (listed.setIfInBounds i true)
def sf : List (Nat × Nat) → Array Bool → Array Bool
  | [], l => l
  | (i, _) :: r, l => sf r (l.setIfInBounds i true)
section
variable {P : Program} {T : Tab} {K : Ctx} {Q : Exit → Act → World → Prop} {p p' : EP} {s s' : List EI} {n : Nat} {F F' F1 F2 : Fm} {H H' H1 : Hp}
theorem ub (hT : TabOk P T) {all : Array Oper} {rest : List Oper} {o : Oper} {α : Type} {c : Fm → Hp → Option α} {x : α} (hw : aJ F all o.guard = some true) (h : opS T F H o c = some x) : ∃ F' H', c F' H' = some x ∧ (Go P K Q (.ops all rest) s n F' H' → Go P K Q (.ops all (o :: rest)) s n F H) := by
  unfold opS at h
  split at h
  · rename_i v hv
    rw [Fm.puto_eq] at h
    exact ⟨_, _, h, fun k => go_opP hT hw hv k⟩
  · split at h
    · rename_i v ed hv
      rw [Hp.ap_eq] at h
      cases v with
      | none =>
        simp only [Fm.puto_eq] at h
        exact ⟨_, _, h, fun k => go_opE hT hw hv k⟩
      | some v =>
        simp only [Fm.puto_eq] at h
        exact ⟨_, _, h, fun k => go_opE hT hw hv k⟩
    · cases h
theorem bp (hT : TabOk P T) : ∀ (k : Nat) (p : EP) (s : List EI) (F : Fm) (H : Hp), cr T k p s F H = some (p', s', F', H') → Go P K Q p' s' n F' H' → Go P K Q p s n F H
  | 0, p, s, F, H, h, kk => by
    simp only [cr, Option.some.injEq, Prod.mk.injEq] at h
    obtain ⟨rfl, rfl, rfl, rfl⟩ := h
    exact kk
  | k + 1, .code c, s, F, H, h, kk => by
    unfold cr at h
    split at h
    · exact qN (bp hT k _ _ _ _ h kk)
    · exact nW (bp hT k _ _ _ _ h kk)
    · exact oJ (bp hT k _ _ _ _ h kk)
    · exact go_ret (bp hT k _ _ _ _ h kk)
    · exact oy (bp hT k _ _ _ _ h kk)
    · split at h
      · exact ny ‹_› (bp hT k _ _ _ _ h kk)
      · exact nt ‹_› (bp hT k _ _ _ _ h kk)
      · cases h
    · exact mp (bp hT k _ _ _ _ h kk)
    · cases h
  | k + 1, .ops all rest, s, F, H, h, kk => by
    unfold cr at h
    split at h
    · exact qM (bp hT k _ _ _ _ h kk)
    · split at h
      · obtain ⟨F1, H1, h1, h2⟩ := ub (P := P) (K := K) (Q := Q) (s := s) (n := n) hT ‹_› h
        exact h2 (bp hT k _ _ _ _ h1 kk)
      · rw [Fm.puto_eq] at h
        exact qa ‹_› (bp hT k _ _ _ _ h kk)
      · cases h
  | k + 1, .ex e, s, F, H, h, kk => by
    unfold cr at h
    split at h
    · cases h
    · split at h
      · exact oF (bp hT k _ _ _ _ h kk)
      · exact nv (bp hT k _ _ _ _ h kk)
      · exact m5 (bp hT k _ _ _ _ h kk)
      · cases h
    · split at h
      · exact mY (bp hT k _ _ _ _ h kk)
      · split at h
        · exact nC ‹_› (bp hT k _ _ _ _ h kk)
        · exact nc ‹_› (bp hT k _ _ _ _ h kk)
      · exact mT (bp hT k _ _ _ _ h kk)
      · cases h
    · cases h
  | k + 1, .drw .., s, F, H, h, kk => by simp [cr] at h
variable {all : Array Oper} {rest : List Oper} {o : Oper} {L : List Nat} {m fuel : Nat} {listed : Array Bool}
theorem lX {i : Nat} (h : (match Region.ready .any all listed with | [j] => Nat.beq i j | _ => false) = true) : Region.ready .any all listed = [i] := by
  split at h
  · rename_i j hj
    rw [hj, Nat.eq_of_beq_eq_true h]
  · cases h
theorem e8 (hT : TabOk P T) : ∀ (is : List (Nat × Nat)) (fuel : Nat) (listed : Array Bool) (F : Fm) (H : Hp), pz all m is listed = true → gg T all L is F H = some (F', H') → Go P K Q (.drw all L m fuel (sf is listed)) s n F' H' → Go P K Q (.drw all L m (fuel + is.length) listed) s n F H
  | [], fuel, listed, F, H, hc, hr, k => by
    simp only [gg, Option.some.injEq, Prod.mk.injEq] at hr
    obtain ⟨rfl, rfl⟩ := hr
    exact k
  | (i, f) :: r, fuel, listed, F, H, hc, hr, k => by
    simp only [pz, Bool.and_eq_true] at hc
    obtain ⟨hc1, hc2⟩ := hc
    show Go P K Q (.drw all L m (fuel + r.length + 1) listed) s n F H
    unfold gg at hr
    split at hr
    · rename_i o ho
      split at hr
      · rename_i hw
        rw [Fm.puto_eq] at hr
        have ih := e8 hT r fuel _ _ _ hc2 hr k
        have single : (match Region.ready .any all listed with | [j] => Nat.beq i j | _ => false) = true → Go P K Q (.drw all L m (fuel + r.length + 1) listed) s n F H := fun hx => go_d1S (lX hx) ho hw ih
        split at hc1
        · simp only [Bool.and_eq_true, Bool.not_eq_true'] at hc1
          exact pK hc1.1.1 ho hc1.1.2 hc1.2 hw ih
        · simp only [Bool.and_eq_true, Bool.not_eq_true'] at hc1
          exact pK hc1.1.1.1.1 ho hc1.1.1.1.2 hc1.1.1.2 hw ih
        · simp only [Bool.and_eq_true] at hc1
          exact single hc1.1
        · exact single hc1
      · rename_i hw
        split at hr
        · split at hr
          · rename_i v hv
            rw [Fm.puto_eq] at hr
            have ih := e8 hT r fuel _ _ _ hc2 hr k
            simp only [Bool.and_eq_true, Bool.not_eq_true'] at hc1
            exact ss hT hc1.1.1 ho hc1.1.2 hc1.2 hw hv ih
          · cases hr
        · split at hr
          · rename_i id hid
            split at hr
            · rename_i hL
              split at hr
              · rename_i v ed hv
                rw [Fm.puto_eq] at hr
                have ih := e8 hT r fuel _ _ _ hc2 hr k
                simp only [Bool.and_eq_true, Bool.not_eq_true'] at hc1
                exact sr hT hc1.1.1.1.1 hc1.1.2 hc1.2 ho hc1.1.1.1.2 hc1.1.1.2 hw hid hL hv ih
              · cases hr
            · cases hr
          · cases hr
        · rename_i h2 h3
          have hs : (match Region.ready .any all listed with | [j] => Nat.beq i j | _ => false) = true ∧ (Nat.beq f 1 = true → (listed.setIfInBounds i true).getD m false = true) := by
            split at hc1
            · exact absurd rfl h2
            · exact absurd rfl h3
            · simp only [Bool.and_eq_true] at hc1
              exact ⟨hc1.1, fun _ => hc1.2⟩
            · rename_i h1
              exact ⟨hc1, fun hb => absurd (Nat.eq_of_beq_eq_true hb) h1⟩
          have hrd := lX hs.1
          split at hr
          · rename_i v hv
            rw [Fm.puto_eq] at hr
            have ih := e8 hT r fuel _ _ _ hc2 hr k
            exact qm hrd ho hw (fun S w ρ a hr hF => i7 hT hr hF hv) ih
          · split at hr
            · rename_i v ed hv
              split at hr
              · rename_i hcl
                rw [Hp.ap_eq] at hr
                have hcl' : ((bt H.get L && ed.clear L) || (listed.setIfInBounds i true).getD m false) = true := by
                  rcases j0 hcl with h | h
                  · rw [h]; rfl
                  · rw [hs.2 h]; simp
                cases v with
                | none =>
                  simp only [Fm.puto_eq] at hr
                  exact nN hrd ho hw (fun S w ρ a hr hF => jZ hT hr hF H.get_free hv) (ie hv) hcl' (e8 hT r fuel _ _ _ hc2 hr k)
                | some v =>
                  simp only [Fm.puto_eq] at hr
                  exact nN hrd ho hw (fun S w ρ a hr hF => jZ hT hr hF H.get_free hv) (ie hv) hcl' (e8 hT r fuel _ _ _ hc2 hr k)
              · cases hr
            · cases hr
      · cases hr
    · cases hr
theorem gA {d : Nat} {v v' : V} (hd : F.get d = some v) (hs : cY v v') (k : Go P K Q p s n (F.set d (some v')) H) : Go P K Q p s n F H := fun S w ρ a hr hi hF => by
  refine k S w ρ a hr hi ⟨hF.size, hF.defers, by have := hF.len; simpa using this, fun i u hu => ?_⟩
  rw [Fm.get_eq, List.getElem?_set] at hu
  split at hu
  · rename_i e
    subst e
    split at hu
    · simp only [Option.bind_some, id_eq, Option.some.injEq] at hu
      subst hu
      obtain ⟨x, h1, h2⟩ := hF.get d v hd
      exact ⟨x, h1, hs _ _ _ _ h2⟩
    · cases hu
  · exact hF.get i u (by rw [Fm.get_eq]; exact hu)
theorem gB {e : Bool} (d : Nat) (hd : F.get d = some (.bool e)) (h1 : F.put d (some (.bool true)) id = F1) (h2 : F.put d (some (.bool false)) id = F2) (kT : e = true → Go P K Q p s n F1 H) (kF : e = false → Go P K Q p s n F2 H) : Go P K Q p s n F H := by
  rw [Fm.put_eq] at h1 h2
  subst h1 h2
  cases he : e with
  | true => exact gA hd (by rw [he]; exact cY.rfl) (kT he)
  | false => exact gA hd (by rw [he]; exact cY.rfl) (kF he)
theorem gT {e : Bool} (d : Nat) (hd : F.get d = some (.bool e)) (he : e = true) (h1 : F.put d (some (.bool true)) id = F1) (k : Go P K Q p s n F1 H) : Go P K Q p s n F H := by
  rw [Fm.put_eq] at h1; subst h1
  exact gA hd (by rw [he]; exact cY.rfl) k
theorem gF {e : Bool} (d : Nat) (hd : F.get d = some (.bool e)) (he : e = false) (h1 : F.put d (some (.bool false)) id = F1) (k : Go P K Q p s n F1 H) : Go P K Q p s n F H := by
  rw [Fm.put_eq] at h1; subst h1
  exact gA hd (by rw [he]; exact cY.rfl) k
theorem gV {v : V} (d : Nat) (v' : V) (hd : F.get d = some v) (he : v = v') (h1 : F.put d (some v') id = F1) (k : Go P K Q p s n F1 H) : Go P K Q p s n F H := by
  rw [Fm.put_eq] at h1; subst h1
  exact gA hd (by rw [he]; exact cY.rfl) k
theorem ar {m l : Int} (h : -9223372036854775808 ≤ m ∧ m ≤ 9223372036854775807) (e : m = l) : V.int .i64 (IntKind.i64.wrap m) = .int .i64 l := by
  subst e
  rw [IntWalk.i64_in _ (by omega)]
def slT (T : Tab) (t : TypeId) : Option (TypeId × Nat) := match T.ty t with
  | some ⟨_, _, _, .sl e⟩ => match T.ty e with
    | some ⟨sz, _, _, _⟩ => some (e, sz)
    | none => none
  | _ => none
theorem fz (hT : TabOk P T) {t e : TypeId} {sz : Nat} (h : slT T t = some (e, sz)) : P.underlying t = some (.slice e) ∧ cF P e = some sz := by
  unfold slT at h
  split at h
  · rename_i ht
    split at h
    · rename_i he
      simp only [Option.some.injEq, Prod.mk.injEq] at h
      obtain ⟨rfl, rfl⟩ := h
      exact ⟨(hT.ty _ _ ht).sl rfl, (hT.ty _ _ he).size⟩
    · cases h
  · cases h
theorem yIR (hT : TabOk P T) {t e : TypeId} {x y : Operand} {sz i : Nat} {els : List V} {v : V} {ty : TypeId} (ht : slT T t = some (e, sz)) (hx : au F x = some (.row sz els)) (hy : au F y = some (.int .i64 (i : Int))) (hi : els[i]? = some v) : ∀ S w ρ a, HRel S w ρ H.get → FRel S w ρ a n F → Yld P S w ρ a ty (.indexAddr t x y) (.box v.cells 0) := fun S w ρ a hr hF =>
  p_idxR hF.fr (fz hT ht).1 (fz hT ht).2 (ae hF hx) (ae hF hy) hi
theorem yIO (hT : TabOk P T) {t e e' : TypeId} {x y : Operand} {id sz i : Nat} {els : List V} {ty : TypeId} (ht : slT T t = some (e, sz)) (hx : au F x = some (.sl id)) (ho : H.get id = .row e' sz els) (hy : au F y = some (.int .i64 (i : Int))) (hi : i < els.length) : ∀ S w ρ a, HRel S w ρ H.get → FRel S w ρ a n F → Yld P S w ρ a ty (.indexAddr t x y) (.el id sz i 0) := fun S w ρ a hr hF =>
  p_idxO hr ho hF.fr (fz hT ht).1 (fz hT ht).2 (ae hF hx) (ae hF hy) hi
theorem gY {v : V} (hy : ∀ S w ρ a, HRel S w ρ H.get → FRel S w ρ a n F → Yld P S w ρ a o.type o.op v) (hw : aJ F all o.guard = some true) (h1 : F.puto o.dst (some v) id = F1) (k : Go P K Q (.ops all rest) s n F1 H) : Go P K Q (.ops all (o :: rest)) s n F H := by
  rw [Fm.puto_eq] at h1; subst h1
  exact go_opY hw hy k
mutual
def mapV (f : V → V) : V → V
  | .agg cs => .agg (mapVs f cs)
  | .tup cs => .tup (mapVs f cs)
  | .clo fid cs => .clo fid (mapVs f cs)
  | .sl j => f (.sl j)
  | .int k n => f (.int k n)
  | .bool b => f (.bool b)
  | .str l => f (.str l)
  | .nilp => f .nilp
  | .nils => f .nils
  | .raw x => f (.raw x)
  | .ptr i o => f (.ptr i o)
  | .el i sz j o => f (.el i sz j o)
  | .box cs o => f (.box cs o)
  | .row sz els => f (.row sz els)
def mapVs (f : V → V) : List V → List V
  | [] => []
  | v :: r => mapV f v :: mapVs f r
end
mutual
theorem VRel.mapV {S S' : Nat → Prop} {w : World} {ρ : Nat → Option Value} {f : V → V} (hf : ∀ v x, VRel S w ρ v x → VRel S' w ρ (f v) x) : ∀ {v : V} {x : Value}, VRel S w ρ v x → VRel S' w ρ (mapV f v) x
  | .int _ _, x, h => by simp only [Go.Proofs.Yteglbnopdedadaa.mapV]; exact hf _ _ h
  | .bool _, x, h => by simp only [Go.Proofs.Yteglbnopdedadaa.mapV]; exact hf _ _ h
  | .str _, x, h => by simp only [Go.Proofs.Yteglbnopdedadaa.mapV]; exact hf _ _ h
  | .nilp, x, h => by simp only [Go.Proofs.Yteglbnopdedadaa.mapV]; exact hf _ _ h
  | .nils, x, h => by simp only [Go.Proofs.Yteglbnopdedadaa.mapV]; exact hf _ _ h
  | .raw _, x, h => by simp only [Go.Proofs.Yteglbnopdedadaa.mapV]; exact hf _ _ h
  | .box _ _, x, h => by simp only [Go.Proofs.Yteglbnopdedadaa.mapV]; exact hf _ _ h
  | .row _ _, x, h => by simp only [Go.Proofs.Yteglbnopdedadaa.mapV]; exact hf _ _ h
  | .ptr _ _, x, h => by simp only [Go.Proofs.Yteglbnopdedadaa.mapV]; exact hf _ _ h
  | .el _ _ _ _, x, h => by simp only [Go.Proofs.Yteglbnopdedadaa.mapV]; exact hf _ _ h
  | .sl j, x, h => by simp only [Go.Proofs.Yteglbnopdedadaa.mapV]; exact hf _ _ h
  | .agg cs, x, h => by
    simp only [Go.Proofs.Yteglbnopdedadaa.mapV, VRel] at h ⊢
    obtain ⟨xs, h1, h2⟩ := h
    exact ⟨xs, h1, LRel.mapV hf h2⟩
  | .tup cs, x, h => by
    simp only [Go.Proofs.Yteglbnopdedadaa.mapV, VRel] at h ⊢
    obtain ⟨xs, h1, h2⟩ := h
    exact ⟨xs, h1, LRel.mapV hf h2⟩
  | .clo fid cs, x, h => by
    simp only [Go.Proofs.Yteglbnopdedadaa.mapV, VRel] at h ⊢
    obtain ⟨xs, h1, h2⟩ := h
    exact ⟨xs, h1, LRel.mapV hf h2⟩
theorem LRel.mapV {S S' : Nat → Prop} {w : World} {ρ : Nat → Option Value} {f : V → V} (hf : ∀ v x, VRel S w ρ v x → VRel S' w ρ (f v) x) : ∀ {v : List V} {x : List Value}, LRel S w ρ v x → LRel S' w ρ (mapVs f v) x
  | [], x, h => by simp only [mapVs, LRel] at h ⊢; exact h
  | v :: r, x, h => by
    simp only [mapVs, LRel] at h ⊢
    obtain ⟨y, ys, h1, h2, h3⟩ := h
    exact ⟨y, ys, h1, VRel.mapV hf h2, LRel.mapV hf h3⟩
end
def fq (f : V → V) : Fm → Fm
  | [] => []
  | none :: r => none :: fq f r
  | some v :: r => some (mapV f v) :: fq f r
theorem ko {f : V → V} : ∀ (F : Fm) (i : Nat), (fq f F).get i = (F.get i).map (mapV f)
  | [], i => by simp [fq, Fm.get]
  | none :: r, 0 => by simp [fq, Fm.get]
  | some v :: r, 0 => by simp [fq, Fm.get]
  | none :: r, i + 1 => by simp [fq, Fm.get, ko r i]
  | some v :: r, i + 1 => by simp [fq, Fm.get, ko r i]
theorem ky {f : V → V} : ∀ (F : Fm), (fq f F).length = F.length
  | [] => rfl
  | none :: r => by simp [fq, ky r]
  | some v :: r => by simp [fq, ky r]
def fK (f : V → V) (id : Nat) : List (Nat × Ob) → List (Nat × Ob)
  | [] => []
  | (j, o) :: r => match Nat.beq j id with
    | true => fK f id r
    | false => match o with
      | .var t cs => (j, .var t (mapVs f cs)) :: fK f id r
      | o => (j, o) :: fK f id r
theorem jF {f : V → V} {id i : Nat} : ∀ {l : List (Nat × Ob)}, ai (fK f id l) i = if i = id then .gone else match ai l i with | .var t cs => .var t (mapVs f cs) | o => o
  | [] => by simp [fK, ai]
  | (j, o) :: r => by
    have ih := jF (f := f) (id := id) (i := i) (l := r)
    simp only [fK]
    by_cases hj : j = id
    · subst hj
      rw [nbT]
      simp only []
      rw [ih]
      by_cases hi : i = j
      · simp [hi]
      · rw [if_neg hi, if_neg hi]
        simp only [ai, nbF (Ne.symm hi)]
    · rw [nbF hj]
      simp only []
      by_cases hi : j = i
      · subst hi
        rw [if_neg hj]
        cases o <;> simp only [ai, nbT]
      · have e2 : ai ((j, o) :: r) i = ai r i := by simp only [ai, nbF hi]
        rw [e2, ← ih]
        cases o <;> simp only [ai, nbF hi]
theorem go_frz {f : V → V} {id : Nat} (hid : H.get id ≠ .free) (hf : ∀ S w ρ, HRel S w ρ H.get → ∀ v x, VRel S w ρ v x → VRel (fun b => S b ∨ own ρ id (H.get id) b) w ρ (f v) x) (h1 : fq f F = F1) (h2 : (⟨H.nx, fK f id H.es⟩ : Hp) = H1) (k : Go P K Q p s n F1 H1) : Go P K Q p s n F H := fun S w ρ a hr hi hF => by
  subst h1 h2
  obtain ⟨g1, g2⟩ := di (id := id) hr
  have hlt : id < H.nx := by
    rcases Nat.lt_or_ge id H.nx with h | h
    · exact h
    · exfalso; apply hid
      unfold Hp.get
      have : Nat.blt id H.nx = false := by cases hb : Nat.blt id H.nx; rfl; simp [Nat.blt_eq] at hb; omega
      rw [this]
  have hg : ∀ i, (⟨H.nx, fK f id H.es⟩ : Hp).get i = if i = id then .gone else match H.get i with | .var t cs => .var t (mapVs f cs) | o => o := fun i => by
    unfold Hp.get
    by_cases hi : i = id
    · subst hi
      simp only [nlT hlt, if_true, jF]
    · simp only [if_neg hi]
      cases hb : Nat.blt i H.nx
      · rfl
      · simp only [jF, if_neg hi]
  have hob : ∀ i, i ≠ id → own ρ i ((⟨H.nx, fK f id H.es⟩ : Hp).get i) = own ρ i (H.get i) := fun i hii => by
    rw [hg i, if_neg hii]
    cases H.get i <;> rfl
  have hhr : HRel (fun b => S b ∨ own ρ id (H.get id) b) w ρ (⟨H.nx, fK f id H.es⟩ : Hp).get := by
    have hne : ∀ i b, own ρ i ((⟨H.nx, fK f id H.es⟩ : Hp).get i) b → i ≠ id ∧ own ρ i (H.get i) b := fun i b hb => by
      by_cases hii : i = id
      · subst hii; rw [hg i, if_pos rfl] at hb; exact hb.elim
      · rw [hob i hii] at hb; exact ⟨hii, hb⟩
    refine ⟨fun i => ?_, fun i b hb => ?_, fun i j b hbi hbj => hr.dis i j b (hne i b hbi).2 (hne j b hbj).2, g1.slt⟩
    · rw [hg i]
      by_cases hii : i = id
      · rw [if_pos hii]; trivial
      · rw [if_neg hii]
        have h0 := g1.ob i
        rw [bu _ _ hii] at h0
        have h1 := hr.ob i
        cases ho : H.get i with
        | var t cs =>
          rw [ho] at h1
          obtain ⟨b, xs, q1, q2, q3⟩ := h1
          exact ⟨b, xs, q1, q2, q3.mapV (hf S w ρ hr)⟩
        | _ => rw [ho] at h0; exact h0
    · have := hne i b hb
      exact g1.sep i b (by rw [bu _ _ this.1]; exact this.2)
  have hii : Inv K (fun b => S b ∨ own ρ id (H.get id) b) w ρ (⟨H.nx, fK f id H.es⟩ : Hp).get := by
    have h0 := hi.frz hr id
    refine ⟨h0.chg, h0.s0, h0.s1, fun i b hb => ?_, h0.pin⟩
    by_cases hii : i = id
    · subst hii; rw [hg i, if_pos rfl] at hb; exact hb.elim
    · rw [hob i hii] at hb; exact hi.ow i b hb
  have := k _ w ρ a hhr hii ⟨hF.size, hF.defers, by rw [ky]; exact hF.len, fun i u hu => by
    rw [ko] at hu
    obtain ⟨v, h3, h4⟩ := Option.map_eq_some_iff.1 hu
    obtain ⟨x, h5, h6⟩ := hF.get i v h3
    exact ⟨x, h5, by rw [← h4]; exact h6.mapV (hf S w ρ hr)⟩⟩
  cases p with
  | drw all L m left listed => exact fun hs => kQ (jl (fun b hb => .inl hb) Agree.refl) (fun x _ h => h) _ _ _ _ (this hs)
  | code c => exact this
  | ops all rest => exact this
  | ex e => exact this
def fzR (id sz : Nat) (els : List V) : V → V
  | .sl j => match Nat.beq j id with
    | true => .row sz els
    | false => .sl j
  | v => v
def fzP (id : Nat) (cs : List V) : V → V
  | .ptr j o => match Nat.beq j id with
    | true => .box cs o
    | false => .ptr j o
  | v => v
theorem gFR {e : TypeId} {sz : Nat} {els : List V} (id : Nat) (ho : H.get id = .row e sz els) (hpu : pureL els = true) (h1 : fq (fzR id sz els) F = F1) (h2 : (⟨H.nx, fK (fzR id sz els) id H.es⟩ : Hp) = H1) (k : Go P K Q p s n F1 H1) : Go P K Q p s n F H :=
  go_frz (f := fzR id sz els) (by rw [ho]; simp) (fun S w ρ hr v x hx => by
    unfold fzR
    split
    · split
      · rename_i hb
        have := Nat.eq_of_beq_eq_true hb
        subst this
        exact la hr ho hpu hx
      · exact hx.up (di hr).2
    · exact hx.up (di hr).2) h1 h2 k
theorem gFP {t : TypeId} {cs : List V} (id : Nat) (ho : H.get id = .var t cs) (hpu : pureL cs = true) (h1 : fq (fzP id cs) F = F1) (h2 : (⟨H.nx, fK (fzP id cs) id H.es⟩ : Hp) = H1) (k : Go P K Q p s n F1 H1) : Go P K Q p s n F H :=
  go_frz (f := fzP id cs) (by rw [ho]; simp) (fun S w ρ hr v x hx => by
    unfold fzP
    split
    · split
      · rename_i hb
        have := Nat.eq_of_beq_eq_true hb
        subst this
        exact o4 hr ho hpu hx
      · exact hx.up (di hr).2
    · exact hx.up (di hr).2) h1 h2 k
def mkF : Nat → Nat → List (Nat × V) → Fm
  | 0, _, _ => []
  | n + 1, i, [] => none :: mkF n (i + 1) []
  | n + 1, i, (j, v) :: r => match Nat.beq i j with
    | true => some v :: mkF n (i + 1) r
    | false => none :: mkF n (i + 1) ((j, v) :: r)
end
end Go.Proofs.Yteglbnopdedadaa
namespace Go.Proofs.Yteglbnopdedadaa
open Go.RowKit
mutual
def vEq : V → V → Bool
  | .int k n, v => match v with
    | .int k' n' => kEq k k' && iEq n n'
    | _ => false
  | .bool b, v => match v with
    | .bool c => b == c
    | _ => false
  | .str l, v => match v with
    | .str l' => lEq l l'
    | _ => false
  | .nilp, v => match v with
    | .nilp => true
    | _ => false
  | .nils, v => match v with
    | .nils => true
    | _ => false
  | .ptr i o, v => match v with
    | .ptr j p => Nat.beq i j && Nat.beq o p
    | _ => false
  | .el i z k o, v => match v with
    | .el i' z' k' o' => Nat.beq i i' && Nat.beq z z' && Nat.beq k k' && Nat.beq o o'
    | _ => false
  | .sl i, v => match v with
    | .sl j => Nat.beq i j
    | _ => false
  | .row z cs, v => match v with
    | .row z' cs' => Nat.beq z z' && vEqL cs cs'
    | _ => false
  | .agg cs, v => match v with
    | .agg cs' => vEqL cs cs'
    | _ => false
  | .tup cs, v => match v with
    | .tup cs' => vEqL cs cs'
    | _ => false
  | .raw _, _ => false
  | .box _ _, _ => false
  | .clo _ _, _ => false
def vEqL : List V → List V → Bool
  | [], vs => match vs with
    | [] => true
    | _ :: _ => false
  | v :: r, vs => match vs with
    | u :: q => vEq v u && vEqL r q
    | [] => false
end
mutual
theorem vEq_eq : ∀ {v u : V}, vEq v u = true → v = u
  | .int k n, u, h => by
    unfold vEq at h
    split at h
    · rename_i k' n'
      simp only [Bool.and_eq_true, jH, beq_iff_eq] at h
      obtain ⟨h1, h2⟩ := h
      have : k = k' := by
        unfold kEq at h1
        split at h1 <;> first | rfl | cases h1
      rw [this, h2]
    · cases h
  | .bool b, u, h => by
    unfold vEq at h
    split at h
    · rw [beq_iff_eq] at h; rw [h]
    · cases h
  | .str l, u, h => by
    unfold vEq at h
    split at h
    · rw [iH, beq_iff_eq] at h; rw [h]
    · cases h
  | .nilp, u, h => by
    unfold vEq at h
    split at h
    · rfl
    · cases h
  | .nils, u, h => by
    unfold vEq at h
    split at h
    · rfl
    · cases h
  | .ptr i o, u, h => by
    unfold vEq at h
    split at h
    · simp only [Bool.and_eq_true, Nat.beq_eq] at h
      obtain ⟨rfl, rfl⟩ := h; rfl
    · cases h
  | .el i z k o, u, h => by
    unfold vEq at h
    split at h
    · simp only [Bool.and_eq_true, Nat.beq_eq] at h
      obtain ⟨⟨⟨rfl, rfl⟩, rfl⟩, rfl⟩ := h; rfl
    · cases h
  | .sl i, u, h => by
    unfold vEq at h
    split at h
    · rw [Nat.beq_eq] at h; rw [h]
    · cases h
  | .row z cs, u, h => by
    unfold vEq at h
    split at h
    · simp only [Bool.and_eq_true, Nat.beq_eq] at h
      obtain ⟨rfl, h2⟩ := h
      rw [vEqL_eq h2]
    · cases h
  | .agg cs, u, h => by
    unfold vEq at h
    split at h
    · rw [vEqL_eq h]
    · cases h
  | .tup cs, u, h => by
    unfold vEq at h
    split at h
    · rw [vEqL_eq h]
    · cases h
  | .raw _, u, h => by unfold vEq at h; cases h
  | .box _ _, u, h => by unfold vEq at h; cases h
  | .clo _ _, u, h => by unfold vEq at h; cases h
theorem vEqL_eq : ∀ {v u : List V}, vEqL v u = true → v = u
  | [], u, h => by
    unfold vEqL at h
    split at h
    · rfl
    · cases h
  | v :: r, u, h => by
    unfold vEqL at h
    split at h
    · simp only [Bool.and_eq_true] at h
      rw [vEq_eq h.1, vEqL_eq h.2]
    · cases h
end
def fmB (σ : List Nat) : Fm → Fm → Bool
  | [], F' => match F' with
    | [] => true
    | _ :: _ => false
  | x :: r, F' => match F' with
    | [] => false
    | y :: r' => (match y with
      | none => true
      | some u => match x with
        | some v => vEq v (u.ren σ)
        | none => false) && fmB σ r r'
theorem qA {σ : List Nat} : ∀ {F F' : Fm}, fmB σ F F' = true → leF σ F F' ∧ F.length = F'.length
  | [], F', h => by
    unfold fmB at h
    split at h
    · simp [leF]
    · cases h
  | x :: r, F', h => by
    unfold fmB at h
    split at h
    · cases h
    · rename_i y r'
      simp only [Bool.and_eq_true] at h
      obtain ⟨h1, h2⟩ := h
      obtain ⟨g1, g2⟩ := qA h2
      refine ⟨?_, by simp [g2]⟩
      cases y with
      | none => simp only [leF]; exact g1
      | some u =>
        simp only at h1
        split at h1
        · rename_i v
          simp only [leF]
          exact ⟨⟨v, rfl, cY.of_eq (vEq_eq h1)⟩, g1⟩
        · cases h1
theorem aq.of_eq {v u : List V} (h : v = u) : aq v u := h ▸ aq.rfl
def obB (o : Ob) : Ob → Bool
  | .gone => true
  | .var t cs => match o with
    | .var t' cs' => Nat.beq t' t && vEqL cs' cs
    | _ => false
  | .row e z els => match o with
    | .row e' z' els' => Nat.beq e' e && Nat.beq z' z && vEqL els' els
    | _ => false
  | _ => false
theorem uF {o o' : Ob} (h : obB o o' = true) : iE o o' := by
  unfold obB at h
  split at h
  · cases o <;> simp [iE]
  · split at h
    · simp only [Bool.and_eq_true, Nat.beq_eq] at h
      obtain ⟨rfl, h2⟩ := h
      exact ⟨rfl, aq.of_eq (vEqL_eq h2)⟩
    · cases h
  · split at h
    · simp only [Bool.and_eq_true, Nat.beq_eq] at h
      obtain ⟨⟨rfl, rfl⟩, h2⟩ := h
      exact ⟨rfl, rfl, vEqL_eq h2⟩
    · cases h
  · cases h
def hpB (σ : List Nat) (H : Hp) : List (Nat × Ob) → Bool
  | [] => true
  | (j, o) :: r => (match atN σ j with
    | some i => obB (H.get i) (o.ren σ)
    | none => false) && hpB σ H r
theorem qf {σ : List Nat} {H : Hp} : ∀ {l : List (Nat × Ob)}, hpB σ H l = true → leH σ H l
  | [], _ => by simp [leH]
  | (j, o) :: r, h => by
    simp only [hpB, Bool.and_eq_true] at h
    obtain ⟨h1, h2⟩ := h
    simp only [leH]
    refine ⟨?_, qf h2⟩
    split at h1
    · rename_i i hi
      exact ⟨i, hi, uF h1⟩
    · cases h1
def vh (k i : Nat) : Nat := match Nat.beq i k with
  | true => k + 1
  | false => match Nat.beq i (k + 1) with
    | true => k
    | false => i
def sq (k : Nat) : Nat → List Nat → List Nat
  | 0, acc => acc
  | n + 1, acc => cx (vh k n) fun x => sq k n (x :: acc)
def nR (k : Nat) (F : Fm) (H : Hp) (F' : Fm) (H' : Hp) : Bool :=
  listK (sq k H'.nx []) fun σ => fmB σ F F' && hpB σ H H'.es && (bV σ && Nat.ble σ.length H'.nx && pP σ (List.range k))
theorem go_alike {P : Program} {K : Ctx} {Q : Exit → Act → World → Prop} {s : List EI} {n : Nat} {F F' : Fm} {H H' : Hp} {e : Exit} {k : Nat} (h : nR k F H F' H' = true) (hp : ∀ id x, K.pin id = some x → id < k) (c : Go P K Q (.ex e) s n F' H') : Go P K Q (.ex e) s n F H := fun S w ρ a hr hi hf => by
  unfold nR at h
  rw [bg] at h
  simp only [Bool.and_eq_true] at h
  obtain ⟨⟨h1, h2⟩, ⟨h3, h4⟩, h5⟩ := h
  obtain ⟨g1, g2⟩ := qA h1
  refine ab _ (List.range k) rfl (fun id x h => List.mem_range.2 (hp id x h)) g1 (qf h2) ?_ c S w ρ a hr hi hf
  simp only [Bool.and_eq_true]
  exact ⟨⟨⟨h3, h4⟩, h5⟩, by rw [← g2]; exact Nat.ble_eq_true_of_le hf.len⟩
end Go.Proofs.Yteglbnopdedadaa
namespace Go.Proofs.Yteglbnopdedadaa
open Go.RowKit
inductive Rs where
  | ok (e : Bool) (F : Fm) (H : Hp)
  | pt (p : EP) (s : List EI) (F : Fm) (H : Hp)
  | er (n m : Nat)
def tF : V → List Nat → List Nat
  | .ptr id _, acc => id :: acc
  | .el id _ _ _, acc => id :: acc
  | .sl id, acc => id :: acc
  | _, acc => acc
def rS : List V → List Nat → List Nat
  | [], acc => acc
  | v :: r, acc => rS r (tF v acc)
def tr : V → List Nat → List Nat
  | .agg cs, acc => rS cs acc
  | v, acc => tF v acc
def jh : List V → List Nat → List Nat
  | [], acc => acc
  | .tup vs :: r, acc => jh r (vs.foldl (fun acc v => tr v acc) acc)
  | v :: r, acc => jh r (tr v acc)
def dG (i : Nat) : List Nat → Bool
  | [] => false
  | j :: r => match Nat.beq i j with
    | true => true
    | false => dG i r
def gl (H : Hp) : Nat → List Nat → List Nat → List Nat
  | 0, _, acc => acc
  | _ + 1, [], acc => acc
  | n + 1, id :: r, acc => match dG id acc with
    | true => gl H n r acc
    | false => match H.get id with
      | .var _ cs => gl H n (rS cs r) (id :: acc)
      | _ => gl H n r (id :: acc)
def j4 {α : Type} (R : List Nat) : List (Nat × Ob) → (List (Nat × Ob) → α) → α
  | [], c => c []
  | (i, o) :: r, c => match dG i R with
    | true => j4 R r fun r' => c ((i, o) :: r')
    | false => j4 R r c
def jn {α : Type} (nx : Nat) (R : List Nat) : List (Nat × Ob) → (List (Nat × Ob) → α) → α
  | [], c => c []
  | (i, o) :: r, c => match !dG i R && Nat.blt i nx with
    | true => match o with
      | .free => jn nx R r fun r' => c ((i, .gone) :: r')
      | o => jn nx R r fun r' => c ((i, o) :: r')
    | false => jn nx R r c
def pO {α : Type} (lo : Nat) (H : Hp) (v : V) (c : V → Hp → α) : α := match v with
  | .sl id => match Nat.ble lo id with
    | true => match H.get id with
      | .row _ sz els => match pureL els with
        | true => lF id H.es fun es => c (.row sz els) ⟨H.nx, es⟩
        | false => c v H
      | _ => c v H
    | false => c v H
  | _ => c v H
def o8 {α : Type} (lo : Nat) (H : Hp) : List V → (List V → Hp → α) → α
  | [], c => c [] H
  | v :: r, c => pO lo H v fun v' H' => o8 lo H' r fun r' H'' => c (v' :: r') H''
def rB {α : Type} (lo : Nat) (H : Hp) (v : V) (c : V → Hp → α) : α := match v with
  | .agg cs => o8 lo H cs fun cs H' => c (.agg cs) H'
  | v => pO lo H v c
def nK {α : Type} (lo : Nat) (H : Hp) : List V → (List V → Hp → α) → α
  | [], c => c [] H
  | v :: r, c => rB lo H v fun v' H' => nK lo H' r fun r' H'' => c (v' :: r') H''
def qb (H : Hp) : List Nat → Bool
  | [] => false
  | i :: r => match H.get i with
    | .row _ _ _ => true
    | _ => qb H r
def te (o : Oper) : Bool := match o.op with
  | .store .. => true
  | _ => false
def tR (o : Oper) : Bool := match o.op with
  | .alloc .. => false
  | .box .. => false
  | .store .. => false
  | .buildSlice .. => false
  | .makeSlice .. => false
  | .call ⟨.builtin .len, _, _⟩ => true
  | .call ⟨.builtin .max, _, _⟩ => true
  | .call .. => false
  | _ => true
def oz : Nat → List Oper → Nat
  | i, [] => i
  | i, o :: r => match te o with
    | true => i
    | false => oz (i + 1) r
def jE (T : Tab) (H : Hp) (all : Array Oper) : List Oper → Fm → List Nat → List Nat → List Nat
  | [], _, rd, cl => rd.filter fun i => !dG i cl
  | o :: r, F, rd, cl => match aJ F all o.guard with
    | some false => F.puto o.dst (some (.tup [])) fun F' => jE T H all r F' rd cl
    | _ => match fF T H.get F o.op with
      | some v => F.puto o.dst (some v) fun F' => jE T H all r F' rd cl
      | none => match iL F o.op with
        | some id => match fa T H.get F H.nx o.op with
          | some (v, _) => F.puto o.dst v fun F' => jE T H all r F' (match dG id rd with | true => rd | false => id :: rd) cl
          | none => F.puto o.dst none fun F' => jE T H all r F' rd cl
        | none => match o.op with
          | .call ⟨.value (.func _), ⟨args⟩, _⟩ => match d7 F args with
            | some vs => F.puto o.dst none fun F' => jE T H all r F' rd (gl H 40 (jh vs []) cl)
            | none => F.puto o.dst none fun F' => jE T H all r F' rd cl
          | _ => F.puto o.dst none fun F' => jE T H all r F' rd cl
def lh (F : Fm) (all : Array Oper) (L : List Nat) (m : Nat) (listed : Array Bool) : List Nat → Option Nat
  | [] => none
  | i :: r => match all[i]? with
    | some o => match Nat.beq i m with
      | true => lh F all L m listed r
      | false => match tR o with
        | true => match Region.free .any all listed i with
          | true => some i
          | false => lh F all L m listed r
        | false => lh F all L m listed r
    | none => none
section
variable (T : Tab) (ih : EP → List EI → Fm → Hp → Rs)
def pr (keep : Bool) (vs : List V) (fn : Func) (b : Code) (H : Hp) (L : List Nat) (ok : Bool) (c : V → Hp → Rs) : Rs :=
  match gl H 40 (jh vs []) [] with
  | R => match (bt H.get L && L.all fun i => !dG i R) || ok with
    | true => j4 R H.es fun es1 => match ih (.code b) [] (fb fn.ntmps vs) ⟨H.nx, es1⟩ with
      | .ok _ F1 H1 => match jb T H1.get F1 fn.results.toList with
        | some rs => match Nat.ble H.nx H1.nx with
          | true => match keep || qb H R with
            | true => jn H.nx R H.es fun es2 => c (fX rs) ⟨H1.nx, H1.es ++ es2⟩
            | false => nK H.nx H1 rs fun rs H2 => match gl H2 60 (jh rs R) [] with
              | R2 => j4 R2 H2.es fun es3 => jn H.nx R H.es fun es2 => c (fX rs) ⟨H2.nx, es3 ++ es2⟩
          | false => .er 1 0
        | none => .er 2 0
      | .er n m => .er n m
      | .pt .. => .er 3 0
    | false => .er 4 0
def jm (F : Fm) (H : Hp) (L : List Nat) (ok : Bool) (o : Oper) (c : Option V → Hp → Rs) : Rs :=
  match fF T H.get F o.op with
  | some v => c (some v) H
  | none => match cx H.nx fun nid => fa T H.get F nid o.op with
    | some (v, ed) => match (bt H.get L && ed.clear L) || ok with
      | true => H.ap ed fun H' => match v with
        | some v => c (some v) H'
        | none => c (some (.tup [])) H'
      | false => .er 5 0
    | none => match o.op with
      | .call ⟨.value (.func fid), ⟨args⟩, _⟩ => match d7 F args with
        | some vs => match T.nat fid vs with
          | some v => c (some v) H
          | none => match T.fn fid with
            | some fn => match fn.body with
              | some b => match Nat.ble vs.length fn.ntmps with
                | true => pr T ih (T.keep fid) vs fn b H L ok fun v H' => c (some v) H'
                | false => .er 6 fid
              | none => .er 7 fid
            | none => .er 8 fid
        | none => .er 9 fid
      | _ => .er (10000 + o.type) (match o.dst with | some d => d | none => 999)
def mO (l : List Nat) (j : Nat) : Bool := match l with
  | [x] => Nat.beq x j
  | _ => false
def pG (x y i : Nat) : Nat := match Nat.beq x i with
  | true => y
  | false => match Nat.beq y i with
    | true => x
    | false => i
def mB (all : Array Oper) (L : List Nat) (m i : Nat) (o : Oper) (ps : List (Nat × Operand)) (v : V) (s : List EI) : Nat → Array Bool → Fm → Hp → Rs
  | left, listed, F, H => match bt H.get L || (listed.setIfInBounds i true).getD m false with
    | true => match Region.ready .any all listed with
      | [x] => match Nat.beq x i with
        | true => F.puto o.dst (some v) fun F' => ih (.drw all L m left (listed.setIfInBounds i true)) s F' H
        | false => .er 41 i
      | [x, y] => match left with
        | 0 => .er 42 i
        | left + 1 => cx (pG x y i) fun j => match Nat.beq j i with
          | true => .er 43 i
          | false => match all[j]? with
            | some oj => match mO (Region.ready .any all (listed.setIfInBounds i true)) j && mE o.dst oj.dst && iO oj.dst ps && (match o.dst with | some t => (F.get t).isNone | none => true) with
              | true => match aJ F all oj.guard with
                | some true => jm T ih F H L ((listed.setIfInBounds j true).getD m false && ((listed.setIfInBounds j true).setIfInBounds i true).getD m false) oj fun u H' => F.puto oj.dst u fun F' => mB all L m i o ps v s left (listed.setIfInBounds j true) F' H'
                | _ => .er 44 i
              | false => .er 45 i
            | none => .er 46 i
      | _ => .er 47 i
    | false => .er 48 i
def iV (T : Tab) (F : Fm) (all : Array Oper) : List Nat → Option (Nat × Oper × List (Nat × Operand) × V)
  | [] => none
  | i :: r => match all[i]? with
    | some ⟨_, .buildSlice _ _ ⟨ps⟩, _, _, _, none⟩ => match eS F ps with
      | some vs => match ir T all i vs with
        | some (o, ps', v) => some (i, o, ps', v)
        | none => iV T F all r
      | none => iV T F all r
    | _ => iV T F all r
def rn (all : Array Oper) (L : List Nat) (m left i j : Nat) (listed : Array Bool) (s : List EI) (F : Fm) (H : Hp) : Rs := match all[i]? with
  | some oi => match all[j]? with
    | some oj => match aJ F all oi.guard with
      | some true => match aJ F all oj.guard with
        | some true => jm T ih F H L ((listed.setIfInBounds i true).getD m false) oi fun ui Hi => F.puto oi.dst ui fun Fi => match ih (.drw all L m left (listed.setIfInBounds i true)) [] Fi Hi with
          | .ok false F1 H1 => jm T ih F H L ((listed.setIfInBounds j true).getD m false) oj fun uj Hj => F.puto oj.dst uj fun Fj => match ih (.drw all L m left (listed.setIfInBounds j true)) [] Fj Hj with
            | .ok false F2 H2 => match nR H.nx F2 H2 F1 H1 with
              | true => ih (.ex .normal) s F1 H1
              | false => .er 51 i
            | .er a b => .er a b
            | _ => .er 52 i
          | .er a b => .er a b
          | _ => .er 53 i
        | _ => .er 54 i
      | _ => .er 55 i
    | none => .er 56 i
  | none => .er 57 i
def pX (c : Code) (s : List EI) (F : Fm) (H : Hp) : Rs := match c with
  | .seq x y => ih (.code x) (.seq y :: s) F H
  | .block id c => ih (.code c) (.blk id :: s) F H
  | .skip => ih (.ex .normal) s F H
  | .ret => ih (.ex .ret) s F H
  | .exit id => ih (.ex (.exit id)) s F H
  | .scope c => ih (.code c) (.scp :: s) F H
  | .label _ => ih (.ex .normal) s F H
  | .loop c => ih (.code c) (.loop c 1000000 :: s) F H
  | .cond c x y => match au F c with
    | some (.bool true) => ih (.code x) s F H
    | some (.bool false) => ih (.code y) s F H
    | _ => .er 11 0
  | .region _ ⟨l⟩ false => ih (.ops ⟨l⟩ l) s F H
  | .region _ ⟨l⟩ true => match Region.noSelect ⟨l⟩ with
    | true => listK (jE T H ⟨l⟩ l F [] []) fun L => cx (oz 0 l) fun m => cx l.length fun n => ih (.drw ⟨l⟩ L m n (Array.replicate n false)) s F H
    | false => .er 13 0
  | _ => .er 14 0
def ng (all : Array Oper) (rest : List Oper) (s : List EI) (F : Fm) (H : Hp) : Rs := match rest with
  | [] => ih (.ex .normal) s F H
  | o :: r => match aJ F all o.guard with
    | some false => F.puto o.dst (some (.tup [])) fun F' => ih (.ops all r) s F' H
    | some true => jm T ih F H [] true o fun v H' => F.puto o.dst v fun F' => ih (.ops all r) s F' H'
    | none => .er 15 0
def pb (e : Exit) (s : List EI) (F : Fm) (H : Hp) : Rs := match s with
  | [] => match e with
    | .normal => .ok false F H
    | .ret => .ok true F H
    | _ => .er 16 0
  | .seq c :: s => match e with
    | .normal => ih (.code c) s F H
    | .exit i => ih (.ex (.exit i)) s F H
    | .ret => ih (.ex .ret) s F H
    | _ => .er 17 0
  | .loop c j :: s => match e with
    | .normal => match j with
      | 0 => .er 18 0
      | j + 1 => ih (.code c) (.loop c j :: s) F H
    | .exit i => ih (.ex (.exit i)) s F H
    | .ret => ih (.ex .ret) s F H
    | _ => .er 19 0
  | .scp :: s => match e with
    | .normal => ih (.ex .normal) s F H
    | .exit i => ih (.ex (.exit i)) s F H
    | .ret => ih (.ex .ret) s F H
    | _ => .er 20 0
  | .blk id :: s => match e with
    | .normal => ih (.ex .normal) s F H
    | .exit i => match Nat.beq i id with
      | true => ih (.ex .normal) s F H
      | false => ih (.ex (.exit i)) s F H
    | .ret => ih (.ex .ret) s F H
    | _ => .er 21 0
def pw (all : Array Oper) (L : List Nat) (m left : Nat) (listed : Array Bool) (s : List EI) (F : Fm) (H : Hp) : Rs := match Region.ready .any all listed with
  | [] => ih (.ex .normal) s F H
  | i :: R => match left with
    | 0 => .er 22 0
    | left + 1 => match R with
      | [] => match all[i]? with
        | some o => match aJ F all o.guard with
          | some false => F.puto o.dst (some (.tup [])) fun F' => ih (.drw all L m left (listed.setIfInBounds i true)) s F' H
          | some true => jm T ih F H L ((listed.setIfInBounds i true).getD m false) o fun v H' => F.puto o.dst v fun F' => ih (.drw all L m left (listed.setIfInBounds i true)) s F' H'
          | none => .er (6000 + all.size) i
        | none => .er 24 0
      | _ => match lh F all L m listed (i :: R) with
        | some i => match all[i]? with
          | some o => match (Region.ready .any all listed).contains i && Region.free .any all listed i && !Nat.beq i m with
            | true => match aJ F all o.guard with
              | some false => F.puto o.dst (some (.tup [])) fun F' => ih (.drw all L m left (listed.setIfInBounds i true)) s F' H
              | some true => match fF T H.get F o.op with
                | some v => F.puto o.dst (some v) fun F' => ih (.drw all L m left (listed.setIfInBounds i true)) s F' H
                | none => match iL F o.op with
                  | some id => match L.contains id && kY .any all m i && !listed.getD m false with
                    | true => match fa T H.get F H.nx o.op with
                      | some (some v, _) => F.puto o.dst (some v) fun F' => ih (.drw all L m left (listed.setIfInBounds i true)) s F' H
                      | _ => .er (4000 + all.size) i
                    | false => .er (2000 + all.size) i
                  | none => .er (3000 + all.size) i
              | none => .er (5000 + all.size) i
            | false => .er 29 i
          | none => .er 30 i
        | none => match iV T F all (i :: R) with
          | some (i, o, ps, v) => F.puto o.dst none fun F' => mB T ih all L m i o ps v s left listed F' H
          | none => match R with
            | [j] => rn T ih all L m left i j listed s F H
            | _ => .er (1000 + all.size) i
def step (p : EP) (s : List EI) (F : Fm) (H : Hp) : Rs := match p with
  | .code c => pX T ih c s F H
  | .ops all rest => ng T ih all rest s F H
  | .ex e => pb ih e s F H
  | .drw all L m left listed => pw T ih all L m left listed s F H
end
def run (T : Tab) : Nat → EP → List EI → Fm → Hp → Rs
  | 0, p, s, F, H => .pt p s F H
  | k + 1, p, s, F, H => step T (run T k) p s F H
end Go.Proofs.Yteglbnopdedadaa
namespace Go.Proofs.Yteglbnopdedadaa
open Go.RowKit
set_option maxRecDepth 100000
def tyL : List (Nat × TD) := [
  (3, ⟨1, 8, .int .i64 0, .sc⟩),
  (25, ⟨4, 72, .agg [.int .i64 0, .str [], .nils, .nils], .struct [(0, 1, true), (1, 1, true), (2, 1, true), (3, 1, true)]⟩),
  (9, ⟨1, 16, .str [], .str⟩),
  (23, ⟨1, 24, .nils, .sl 25⟩),
  (22, ⟨1, 24, .nils, .sl 9⟩),
  (26, ⟨1, 24, .nils, .sl 3⟩),
  (5, ⟨1, 1, .int .u8 0, .sc⟩),
  (68, ⟨1, 8, .nilp, .sc⟩),
  (72, ⟨3, 40, .agg [.int .i64 0, .str [], .str []], .struct [(0, 1, true), (1, 1, true), (2, 1, true)]⟩),
  (99, ⟨4, 32, .agg [.int .i64 0, .int .i64 0, .int .i64 0, .int .i64 0], .struct [(0, 1, true), (1, 1, true), (2, 1, true), (3, 1, true)]⟩),
  (33, ⟨1, 24, .nils, .sl 40⟩),
  (70, ⟨5, 56, .agg [.nils, .int .i64 0, .int .i64 0, .int .i64 0, .int .i64 0], .struct [(0, 1, true), (1, 1, true), (2, 1, true), (3, 1, true), (4, 1, true)]⟩),
  (46, ⟨1, 24, .nils, .sl 60⟩),
  (65, ⟨1, 24, .nils, .sl 72⟩),
  (42, ⟨1, 8, .int .i64 0, .sc⟩),
  (50, ⟨1, 24, .nils, .sl 26⟩),
  (56, ⟨3, 72, .agg [.nils, .nils, .nils], .struct [(0, 1, true), (1, 1, true), (2, 1, true)]⟩),
  (40, ⟨3, 56, .agg [.nils, .nils, .bool false], .struct [(0, 1, true), (1, 1, true), (2, 1, true)]⟩),
  (60, ⟨2, 40, .agg [.str [], .nils], .struct [(0, 1, true), (1, 1, true)]⟩),
  (4, ⟨1, 1, .bool false, .bool⟩),
  (75, ⟨1, 8, .nilp, .sc⟩)]
def gb {α : Type} : List (Nat × α) → Nat → Option α
  | [], _ => none
  | (i, x) :: r, j => match Nat.beq i j with
    | true => some x
    | false => gb r j
def tyB (P : Program) : List (Nat × TD) → Bool
  | [] => true
  | (t, d) :: r => tdB P t d && tyB P r
theorem q0 {P : Program} : ∀ {l : List (Nat × TD)}, tyB P l = true → ∀ t d, gb l t = some d → TdOk P t d
  | [], _, t, d, h => by cases h
  | (i, x) :: r, hb, t, d, h => by
    simp only [tyB, Bool.and_eq_true] at hb
    simp only [gb] at h
    split at h
    · rename_i e
      have := Nat.eq_of_beq_eq_true e
      subst this
      injection h with h; subst h
      exact tQ hb.1
    · exact q0 hb.2 t d h
theorem qt : ∀ t d, gb tyL t = some d → TdOk Try.prog t d := q0 (by kernel_rfl)
noncomputable def fnL : List (Nat × Func) := [(17, Try.f17), (30, Try.f30), (31, Try.f31), (32, Try.f32), (41, Try.f41), (42, Try.f42), (43, Try.f43), (44, Try.f44), (45, Try.f45), (46, Try.f46), (47, Try.f47), (48, Try.f48), (49, Try.f49), (58, Try.f58), (59, Try.f59), (60, Try.f60), (61, Try.f61), (62, Try.f62), (64, Try.f64), (65, Try.f65), (66, Try.f66), (67, Try.f67), (81, Try.f81), (82, Try.f82), (83, Try.f83), (84, Try.f84), (70, Try.f70), (86, Try.f86), (90, Try.f90), (91, Try.f91), (99, Try.f99), (100, Try.f100)]
def fnB (P : Program) : List (Nat × Func) → Prop
  | [] => True
  | (i, f) :: r => (P.funcs[i]? = some f ∧ bQ P i = true) ∧ fnB P r
theorem p7 {P : Program} : ∀ {l : List (Nat × Func)}, fnB P l → ∀ i f, gb l i = some f → P.funcs[i]? = some f ∧ bQ P i = true
  | [], _, i, f, h => by cases h
  | (j, x) :: r, hb, i, f, h => by
    simp only [gb] at h
    split at h
    · rename_i e
      have := Nat.eq_of_beq_eq_true e
      subst this
      injection h with h; subst h
      exact hb.1
    · exact p7 hb.2 i f h
theorem tT : ∀ i f, gb fnL i = some f → Try.prog.funcs[i]? = some f ∧ bQ Try.prog i = true := p7 ⟨⟨Try.func17, by kernel_rfl⟩, ⟨Try.func30, by kernel_rfl⟩, ⟨Try.func31, by kernel_rfl⟩, ⟨Try.func32, by kernel_rfl⟩, ⟨Try.func41, by kernel_rfl⟩, ⟨Try.func42, by kernel_rfl⟩, ⟨Try.func43, by kernel_rfl⟩, ⟨Try.func44, by kernel_rfl⟩, ⟨Try.func45, by kernel_rfl⟩, ⟨Try.func46, by kernel_rfl⟩, ⟨Try.func47, by kernel_rfl⟩, ⟨Try.func48, by kernel_rfl⟩, ⟨Try.func49, by kernel_rfl⟩, ⟨Try.func58, by kernel_rfl⟩, ⟨Try.func59, by kernel_rfl⟩, ⟨Try.func60, by kernel_rfl⟩, ⟨Try.func61, by kernel_rfl⟩, ⟨Try.func62, by kernel_rfl⟩, ⟨Try.func64, by kernel_rfl⟩, ⟨Try.func65, by kernel_rfl⟩, ⟨Try.func66, by kernel_rfl⟩, ⟨Try.func67, by kernel_rfl⟩, ⟨Try.func81, by kernel_rfl⟩, ⟨Try.func82, by kernel_rfl⟩, ⟨Try.func83, by kernel_rfl⟩, ⟨Try.func84, by kernel_rfl⟩, ⟨Try.func70, by kernel_rfl⟩, ⟨Try.func86, by kernel_rfl⟩, ⟨Try.func90, by kernel_rfl⟩, ⟨Try.func91, by kernel_rfl⟩, ⟨Try.func99, by kernel_rfl⟩, ⟨Try.func100, by kernel_rfl⟩, trivial⟩
end Go.Proofs.Yteglbnopdedadaa
namespace Go.Proofs.Yteglbnopdedadaa
open Go.RowKit Lx Sx
def rz : Tab := ⟨false, gb tyL, fun _ => none, fun _ _ => none, fun _ => false⟩
theorem aa : TabOk Try.prog rz := ⟨qt, (fun _ _ h => by cases h), (fun _ _ _ h => by cases h)⟩
mutual
def treeV : Tree → V
  | .node k s ls ks => .agg [.int .i64 k, .str s, .row 1 (ls.map .str), .row 4 (kidsV ks)]
def kidsV : List Tree → List V
  | [] => []
  | t :: r => treeV t :: kidsV r
end
abbrev av (t : Tree) : List V := [.int .i64 t.kind, .str t.text, .row 1 (t.leads.map .str), .row 4 (kidsV t.kids)]
abbrev lc (t : Tree) : V := .agg (av t)
theorem gP (t : Tree) : treeV t = lc t := by cases t; simp [treeV, Tree.kind, Tree.text, Tree.leads, Tree.kids]
theorem gk : ∀ (ks : List Tree), (kidsV ks).length = ks.length
  | [] => rfl
  | t :: r => by simp [kidsV, gk r]
theorem bb : ∀ {ks : List Tree} {i : Nat} {u : Tree}, ks[i]? = some u → (kidsV ks)[i]? = some (lc u)
  | [], i, u, h => by simp at h
  | t :: r, 0, u, h => by
    simp only [List.getElem?_cons_zero, Option.some.injEq] at h
    subst h
    simp [kidsV, gP]
  | t :: r, i + 1, u, h => by
    simp only [List.getElem?_cons_succ] at h
    simpa [kidsV] using bb h
theorem pk (t : Tree) : (lc t).pure = true := rfl
theorem ln : ∀ (ks : List Tree), pureL (kidsV ks) = true
  | [] => rfl
  | t :: r => by simp only [kidsV, pureL, gP, pk, ln r]
def aG (P : Program) (fid : FuncId) (us : List V) (v : V) : Prop := pureL us = true ∧ v.pure = true ∧ Sum P fid us ⟨0, []⟩ (fun u _ => u = v)
theorem mC (i : Nat) : (⟨0, []⟩ : Hp).get i = .free := by
  unfold Hp.get
  have : Nat.blt i 0 = false := by cases i <;> rfl
  simp only [this]
theorem j5 {P : Program} {K : Ctx} {H : Hp} {fid : FuncId} {vs us : List V} {v : V} (hS : aG P fid us v) (hs : aq vs us) (L : List Nat) (hL : bt H.get L = true) : CallR P K fid vs H L (fun v' H'' => v' = v ∧ H'' = H) := fun S w ρ xs hr hi hx => by
  obtain ⟨h1, h2, h3⟩ := hS
  have hr0 : HRel S w ρ0 (⟨0, []⟩ : Hp).get := ⟨fun i => by rw [mC]; rfl, fun i b hb => by rw [mC] at hb; exact hb.elim, fun i j b hb _ => by rw [mC] at hb; exact hb.elim, hr.slt⟩
  refine (h3 S w ρ0 xs hr0 ((hs.rel hx).pure h1)).mono fun e w' hR => ?_
  obtain ⟨x, S', ρ', u, H', rfl, rfl, hr', hi', hv⟩ := hR
  have hno : ∀ b, ¬ ∃ id, own ρ0 id ((⟨0, []⟩ : Hp).get id) b := fun b ⟨id, hb⟩ => by rw [mC] at hb; exact hb
  have hc : Chg [] w w' := ⟨hi'.chg.os, hi'.chg.tape, hi'.chg.output, hi'.chg.size, fun b hb _ => hi'.chg.block b hb (hno b)⟩
  have up : Up S S' w w' ρ ρ := ⟨hi'.s0, fun b hb hlt => hc.block b hlt (by simp), fun _ _ h => h⟩
  have hs1 : ∀ b, S' b → S b ∨ w.heap.size ≤ b := fun b hb => by
    rcases hi'.s1 b hb with h | h | h
    · exact .inl h
    · exact absurd h (hno b)
    · exact .inr h
  refine ⟨x, S', ρ, u, H, rfl, ⟨rfl, rfl⟩, ⟨fun i => (hr.ob i).up up (fun hf => ?_) (fun b hb => hc.block b (cw (hr.ob i) hb) (by simp)), fun i b hb => ?_, hr.dis, hr'.slt⟩, ⟨hi.chg.trans (ChgP.of hc) (fun b hb => by simp at hb), fun b hb => hi'.s0 b (hi.s0 b hb), fun b hb => ?_, hi.ow, hi.pin⟩, up, hv.pure h2, fun id hid y b hy hb => ?_⟩
  · have := hr.ob i; rw [hf] at this; exact this
  · intro hS
    rcases hs1 b hS with h | h
    · exact hr.sep i b hb h
    · have := cw (hr.ob i) hb; omega
  · rcases hs1 b hb with h | h
    · exact hi.s1 b h
    · exact .inr (.inr (Nat.le_trans hi.chg.size h))
  · exact hc.block b (cw (hr.ob id) (fj hr hL id hid y b hy hb)) (by simp)
theorem eZ {α : Type} [BEq α] [LawfulBEq α] {a b : α} (h : (a != b) = false) : a = b := by simpa using h
section
variable {K : Ctx} {Q : Exit → Act → World → Prop} {p p' : EP} {s s' : List EI} {n : Nat} {F F' F1 F2 : Fm} {H H' H1 : Hp} {all : Array Oper} {rest : List Oper} {o : Oper}
theorem gR (k : Nat) (h : cr rz k p s F H = some (p', s', F', H')) (kk : Go Try.prog K Q p' s' n F' H') : Go Try.prog K Q p s n F H := bp aa k p s F H h kk
theorem gC {PL : List Nat} {fid : FuncId} {args : List Operand} {tys : Array TypeId} {vs us : List V} {H0 : Hp} {Post : V → Hp → Prop} {d : Option Tmp} {ty : TypeId} {ps : String} {af : Array Edge} {g : Option (Nat × Bool)} (hS : dU PL Try.prog fid us H0 Post) (σ : List Nat) (he : bQ Try.prog fid = true) (hw : aJ F all g = some true) (hv : d7 F args = some vs) (hs : aq vs (renL σ us)) (hH : leH σ H H0.es) (hc : (bV σ && Nat.beq σ.length H0.nx && σ.all fun i => Nat.blt i H.nx) = true)
    (k : ∀ v H', Post v H' → Go Try.prog K Q (.ops all rest) s n (F.seto d (some (v.ren (sgN PL H.nx H0.get H'.nx σ 0)))) (gp PL H σ H0 H')) : Go Try.prog K Q (.ops all (⟨d, .call { callee := .value (.func fid), args := args.toArray, argTypes := tys }, ty, ps, af, g⟩ :: rest)) s n F H :=
  go_opC (o := ⟨d, .call { callee := .value (.func fid), args := args.toArray, argTypes := tys }, ty, ps, af, g⟩) he rfl hw hv (kJ hS σ hs hH hc [] (by simp [bt])) fun v' H'' ⟨v, H', hP, e1, e2⟩ => by subst e1 e2; exact k v H' hP
theorem gC0 {fid : FuncId} {args : List Operand} {tys : Array TypeId} {vs us : List V} {v : V} {d : Option Tmp} {ty : TypeId} {ps : String} {af : Array Edge} {g : Option (Nat × Bool)} (hS : aG Try.prog fid us v) (he : bQ Try.prog fid = true) (hw : aJ F all g = some true) (hv : d7 F args = some vs) (hs : aq vs us) (h1 : F.puto d (some v) id = F1)
    (k : Go Try.prog K Q (.ops all rest) s n F1 H) : Go Try.prog K Q (.ops all (⟨d, .call { callee := .value (.func fid), args := args.toArray, argTypes := tys }, ty, ps, af, g⟩ :: rest)) s n F H := by
  rw [Fm.puto_eq] at h1; subst h1
  exact go_opC (o := ⟨d, .call { callee := .value (.func fid), args := args.toArray, argTypes := tys }, ty, ps, af, g⟩) he rfl hw hv (j5 hS hs [] rfl) fun v' H'' ⟨e1, e2⟩ => by subst e1 e2; exact k
def slB (T : Tab) (t : TypeId) : Option (TypeId × Nat × Nat) := match T.ty t with
  | some ⟨_, _, _, .sl e⟩ => match T.ty e with
    | some ⟨sz, by_, _, _⟩ => match Nat.blt 0 sz && Nat.ble by_ 100000 with
      | true => some (e, sz, by_)
      | false => none
    | none => none
  | _ => none
theorem ug {P : Program} {T : Tab} (hT : TabOk P T) {t e : TypeId} {sz by_ : Nat} (h : slB T t = some (e, sz, by_)) : P.underlying t = some (.slice e) ∧ 0 < sz ∧ by_ ≤ 100000 ∧ ∃ z : Value, (P.info? e).map (fun i => (i.zero, i.size, i.bytes)) = some (some z, sz, by_) ∧ z.cells.size = sz := by
  unfold slB at h
  split at h
  · rename_i ht
    split at h
    · rename_i he
      split at h
      · rename_i hb
        simp only [Option.some.injEq, Prod.mk.injEq] at h
        obtain ⟨rfl, rfl, rfl⟩ := h
        simp only [Bool.and_eq_true, Nat.blt_eq, Nat.ble_eq] at hb
        obtain ⟨z, h1, _, h3, _⟩ := (hT.ty _ _ he).info
        exact ⟨(hT.ty _ _ ht).sl rfl, hb.1, hb.2, z, h1, h3⟩
      · cases h
    · cases h
  · cases h
theorem dAp {P : Program} {T : Tab} (hT : TabOk P T) {t e : TypeId} {x y : Operand} {sz by_ id : Nat} {els news : List V} {v : V} {ty : TypeId} (ht : slB T t = some (e, sz, by_)) (hx : au F x = some (.sl id)) (ho : H.get id = .row e sz els) (hy : au F y = some v) (hs : nJ H.get sz v = some news) (hb : els.length + news.length ≤ 1000000000) :
    ∀ S w ρ a, HRel S w ρ H.get → FRel S w ρ a n F → Does P S w ρ H.get a ty (.call { callee := .builtin .append, args := #[x, y], argTypes := #[t, t] }) (some (.sl H.nx)) ((ED.repl id (.row e sz (els ++ news))).app H.get H.nx) (ED.repl id (.row e sz (els ++ news))).tch := fun S w ρ a hr hF => by
  obtain ⟨h1, h2, h3, z, h4, h5⟩ := ug hT ht
  obtain ⟨u, g1, g2⟩ := ov hr hF hy hs
  exact nl hr hF.fr H.get_free g1 g2 h1 h4 h5 h2 (ae hF hx) ho (by simp only [maxLen]; omega) (Nat.le_trans (Nat.mul_le_mul hb h3) (by decide))
variable {L : List Nat} {m fuel c : Nat} {listed : Array Bool}
theorem gDs {id : Nat} {l : List Oper} (L : List Nat) (m sz : Nat) (hsz : l.length = sz) (hm : Try.prog.follows .mixedOrders = true) (hs : Region.noSelect l.toArray = true) (k : Go Try.prog K Q (.drw l.toArray L m sz (Array.replicate sz false)) s n F H) : Go Try.prog K Q (.code (.region id l.toArray true)) s n F H := oV L m sz hsz hm hs k
theorem gDr (is : List (Nat × Nat)) (hc : pz all m is listed = true) (hl : is.length = c) (hr : gg rz all L is F H = some (F', H')) (k : Go Try.prog K Q (.drw all L m fuel (sf is listed)) s n F' H') : Go Try.prog K Q (.drw all L m (fuel + c) listed) s n F H := by
  subst hl; exact e8 aa is fuel listed F H hc hr k
theorem gDe (hd : Region.ready .any all listed = []) (k : Go Try.prog K Q (.ex .normal) s n F H) : Go Try.prog K Q (.drw all L m fuel listed) s n F H := nQ hd k
theorem eG {fid : FuncId} {args : List Operand} {tys : Array TypeId} {vs us : List V} {v : V} {d : Option Tmp} {ty : TypeId} {ps : String} {af : Array Edge} {g : Option (Nat × Bool)} (i : Nat) (hS : aG Try.prog fid us v) (he : bQ Try.prog fid = true) (hi : all[i]? = some ⟨d, .call { callee := .value (.func fid), args := args.toArray, argTypes := tys }, ty, ps, af, g⟩) (hrd : Region.ready .any all listed = [i]) (hw : aJ F all g = some true) (hv : d7 F args = some vs) (hs : aq vs us) (hL : bt H.get L = true) (h1 : F.puto d (some v) id = F1)
    (k : Go Try.prog K Q (.drw all L m fuel (listed.setIfInBounds i true)) s n F1 H) : Go Try.prog K Q (.drw all L m (fuel + 1) listed) s n F H := by
  rw [Fm.puto_eq] at h1; subst h1
  exact go_d1C he hrd hi rfl hw hv (j5 hS hs L hL) (.inl rfl) fun v' H'' ⟨e1, e2⟩ => by subst e1 e2; exact k
theorem gDC {PL : List Nat} {fid : FuncId} {args : List Operand} {tys : Array TypeId} {vs us : List V} {H0 : Hp} {Post : V → Hp → Prop} {d : Option Tmp} {ty : TypeId} {ps : String} {af : Array Edge} {g : Option (Nat × Bool)} (i : Nat) (hS : dU PL Try.prog fid us H0 Post) (σ : List Nat) (he : bQ Try.prog fid = true) (hi : all[i]? = some ⟨d, .call { callee := .value (.func fid), args := args.toArray, argTypes := tys }, ty, ps, af, g⟩) (hrd : Region.ready .any all listed = [i]) (hw : aJ F all g = some true) (hv : d7 F args = some vs) (hs : aq vs (renL σ us)) (hH : leH σ H H0.es) (hc : (bV σ && Nat.beq σ.length H0.nx && σ.all fun i => Nat.blt i H.nx) = true) (hL : (bt H.get L && L.all fun i => !σ.contains i) = true)
    (k : ∀ v H', Post v H' → Go Try.prog K Q (.drw all L m fuel (listed.setIfInBounds i true)) s n (F.seto d (some (v.ren (sgN PL H.nx H0.get H'.nx σ 0)))) (gp PL H σ H0 H')) : Go Try.prog K Q (.drw all L m (fuel + 1) listed) s n F H :=
  go_d1C he hrd hi rfl hw hv (kJ hS σ hs hH hc L hL) (.inl rfl) fun v' H'' ⟨v, H', hP, e1, e2⟩ => by subst e1 e2; exact k v H' hP
end
end Go.Proofs.Yteglbnopdedadaa
namespace Go.Proofs.Yteglbnopdedadaa
open Go.RowKit Lx Sx
def ah (f : Func) : Code := match f.body with
  | some c => c
  | none => .skip
def cA : Code → Code
  | .seq x _ => x
  | c => c
def cB : Code → Code
  | .seq _ y => y
  | c => c
def cK : Code → Code
  | .block _ c => c
  | c => c
def cL : Code → Code
  | .loop c => c
  | c => c
def cE : Code → Code
  | .cond _ _ y => y
  | c => c
theorem apM {α : Type} (f : α → V) (l : List α) (x : α) : List.map f l ++ [f x] = List.map f (l ++ [x]) := by simp
theorem tt (l : List Tree) : l.map lc = kidsV l := by
  induction l with
  | nil => rfl
  | cons t r ih => simp [kidsV, gP, ih]
theorem mapget {α : Type} {f : α → V} {l : List α} {i : Nat} {x : α} (h : l[i]? = some x) : (List.map f l)[i]? = some (f x) := by simp [h]
theorem bq (l : List Tree) : (kidsV l).length = l.length := gk l
theorem an {α : Type} (f : α → V) (l : List α) : (List.map f l).length = l.length := List.length_map ..
theorem aR {n : Nat} {m : Nat} (h : n = m) : V.int .i64 (n : Int) = .int .i64 (m : Int) := by rw [h]
theorem si {α : Type} (f : α → V) (l : List α) (i : Nat) : (List.map f l).take i = List.map f (l.take i) := by simp
theorem mV {α : Type} (f : α → V) (l : List α) (i j : Nat) : ((List.map f l).drop i).take j = List.map f ((l.drop i).take j) := by simp [List.map_drop, List.map_take]
theorem ud (σ : List Nat) : ∀ (l : List Tree), renL σ (kidsV l) = kidsV l
  | [] => rfl
  | t :: r => by simp only [kidsV, renL, ud σ r]; rw [gP]; rfl
theorem ak {α : Type} (σ : List Nat) (f : α → V) (hf : ∀ x, (f x).ren σ = f x) : ∀ (l : List α), renL σ (List.map f l) = List.map f l
  | [] => rfl
  | x :: r => by simp only [List.map_cons, renL, hf, ak σ f hf r]
theorem ph (l : List Tree) : pureL (kidsV l) = true := ln l
theorem ea {α : Type} (f : α → V) (hf : ∀ x, (f x).pure = true) : ∀ (l : List α), pureL (List.map f l) = true
  | [] => rfl
  | x :: r => by simp only [List.map_cons, pureL, hf, ea f hf r]
theorem cm {e : Bool} (h : (!e) = true) : e = false := by simpa using h
theorem ck {e : Bool} (h : (!e) = false) : e = true := by simpa using h
theorem gn {α : Type} [BEq α] [LawfulBEq α] {a b : α} (h : (a != b) = true) : a ≠ b := by simpa using h
theorem dW {a b : Nat} (h : decide ((a : Int) < (b : Int)) = true) : a < b := by have := of_decide_eq_true h; omega
theorem dS {a b : Nat} (h : decide ((a : Int) < (b : Int)) = false) : ¬ a < b := by have := of_decide_eq_false h; omega
theorem pI {a b : Nat} (h : ((a : Int) != (b : Int)) = true) : a ≠ b := by have := gn h; omega
theorem pL {a b : Nat} (h : ((a : Int) != (b : Int)) = false) : a = b := by have := eZ h; omega
theorem ds {n m : Int} (h : n = m) : V.int .i64 n = .int .i64 m := by rw [h]
abbrev InI (x : Int) : Prop := -9223372036854775808 ≤ x ∧ x ≤ 9223372036854775807
section
variable {P : Program} {T : Tab} {K : Ctx} {Q : Exit → Act → World → Prop} {p p' : EP} {s s' : List EI} {n : Nat} {F F' F1 F2 : Fm} {H H' H1 : Hp} {all : Array Oper} {rest : List Oper} {o : Oper} {L : List Nat} {m fuel : Nat} {listed : Array Bool}
theorem gS {v : V} (d : Nat) (v' : V) (hd : F.get d = some v) (hs : cY v v') (h1 : F.put d (some v') id = F1) (k : Go P K Q p s n F1 H) : Go P K Q p s n F H := by
  rw [Fm.put_eq] at h1; subst h1
  exact gA hd hs k
theorem rN {h : Nat → Ob} {id : Nat} {o : Ob} (ho : h id = o) : bi h id o = h := by
  funext i
  by_cases hi : i = id
  · subst hi; rw [aZ, ho]
  · rw [bu _ _ hi]
theorem gHR {e : TypeId} {sz : Nat} {els : List V} (id : Nat) (els' : List V) (ho : H.get id = .row e sz els) (he : els = els') (h2 : H.ap (.set id (.row e sz els')) _root_.id = H1) (k : Go P K Q p s n F H1) : Go P K Q p s n F H := by
  subst he
  rw [Hp.ap_eq] at h2; subst h2
  have hg : (H.app (.set id (.row e sz els))).get = H.get := by
    rw [Hp.get_app (by exact ⟨by rw [ho]; simp, by rw [ho]; simp⟩)]
    exact rN ho
  intro S w ρ a hr hi hF
  exact k S w ρ a (by rw [id_eq, hg]; exact hr) (by rw [id_eq, hg]; exact hi) hF
theorem CRel.sub {S : Nat → Prop} {w : World} {ρ : Nat → Option Value} {sz : Nat} : ∀ {vs us : List V} {xs : List Value}, aq vs us → CRel S w ρ sz vs xs → CRel S w ρ sz us xs
  | [], us, xs, h, hl => by simp only [aq] at h; subst h; exact hl
  | v :: r, us, xs, h, hl => by
    simp only [aq] at h
    obtain ⟨u, q, rfl, h1, h2⟩ := h
    simp only [CRel] at hl ⊢
    obtain ⟨x, ys, rfl, h3, h4, h5⟩ := hl
    exact ⟨x, ys, rfl, h3, h1 _ _ _ _ h4, h5.sub h2⟩
theorem aq.len : ∀ {vs us : List V}, aq vs us → us.length = vs.length
  | [], us, h => by simp only [aq] at h; subst h; rfl
  | v :: r, us, h => by
    simp only [aq] at h
    obtain ⟨u, q, rfl, _, h2⟩ := h
    simp [h2.len]
def mA (PL : List Nat) : List (Nat × Ob) → List Nat → Bool
  | [], _ => true
  | (i, o) :: r, pv => (!d5 PL i o || pv.contains i) && mA PL r pv
theorem ni {PL : List Nat} : ∀ {es : List (Nat × Ob)} {pv : List Nat}, mA PL es pv = true → ∀ i, d5 PL i (ai es i) = true → i ∈ pv
  | [], pv, h, i, hi => by simp [ai, d5] at hi
  | (j, o) :: r, pv, h, i, hi => by
    simp only [mA, Bool.and_eq_true, Bool.or_eq_true, Bool.not_eq_true'] at h
    simp only [ai] at hi
    split at hi
    · rename_i e
      have := Nat.eq_of_beq_eq_true e
      subst this
      rcases h.1 with h1 | h1
      · rw [h1] at hi; cases hi
      · simpa using h1
    · exact ni h.2 i hi
theorem aA {PL : List Nat} {nx : Nat} {es : List (Nat × Ob)} {pv : List Nat} (h : mA PL es pv = true) : ∀ i, d5 PL i ((⟨nx, es⟩ : Hp).get i) = true → i ∈ pv := fun i hi => by
  unfold Hp.get at hi
  split at hi
  · exact ni h i hi
  · simp [d5] at hi
def gh (ids : List Nat) : List (Nat × Ob) → List (Nat × Ob)
  | [] => []
  | (j, o) :: r => match ids.contains j with
    | true => gh ids r
    | false => (j, o) :: gh ids r
theorem ll {ids : List Nat} {i : Nat} : ∀ {l : List (Nat × Ob)}, ai (gh ids l) i = ai l i ∨ ai (gh ids l) i = .gone
  | [] => .inl rfl
  | (j, o) :: r => by
    have ih := ll (ids := ids) (i := i) (l := r)
    simp only [gh]
    split
    · rename_i hc
      by_cases hj : j = i
      · subst hj
        refine .inr ?_
        have : ∀ l : List (Nat × Ob), ai (gh ids l) j = .gone := fun l => by
          induction l with
          | nil => rfl
          | cons p q ihq =>
            obtain ⟨k, o'⟩ := p
            simp only [gh]
            split
            · exact ihq
            · rename_i hk
              have hne : k ≠ j := fun e => by subst e; rw [hc] at hk; cases hk
              simp only [ai, nbF hne]
              exact ihq
        exact this r
      · simp only [ai, nbF hj]; exact ih
    · simp only [ai]
      split
      · exact .inl rfl
      · exact ih
theorem cM {fn : Func} {Post : V → Hp → Prop} {rs : List ResultVar} {vs : List V} {e : Exit} (ids : List Nat) (hT : TabOk P T) (hrs : fn.results = rs.toArray) (hv : jb T H.get F rs = some vs) (hP : Post (fX vs) ⟨H.nx, gh ids H.es⟩) (he : e = .ret ∨ e = .normal := by first | exact .inl rfl | exact .inr rfl) : Go P K (bodyPost P fn (SP K Post)) (.ex e) [] n F H := fun S w ρ a hr hi hF => by
  have hh : ∀ i, (⟨H.nx, gh ids H.es⟩ : Hp).get i = H.get i ∨ (⟨H.nx, gh ids H.es⟩ : Hp).get i = .gone := fun i => by
    unfold Hp.get
    cases hb : Nat.blt i H.nx
    · exact .inl rfl
    · exact ll
  exact ret_go hT he hrs hr hF hv fun x hx => ⟨x, S, ρ, _, _, rfl, hP, hr.drop hh, hi.drop hh, hx⟩
theorem gJ (k : Go P K Q p s n F' H') (σ pv : List Nat) (hp : p.still = true) (hpin : aQ K pv) (hF : leF σ F F') (hH : leH σ H H'.es) (hc : (bV σ && Nat.ble σ.length H'.nx && pP σ pv && Nat.ble F'.length n) = true) : Go P K Q p s n F H := ab σ pv hp hpin hF hH hc k
theorem lG {S : Nat → Prop} {w : World} {ρ : Nat → Option Value} {h : Nat → Ob} {nid : Nat} (e : TypeId) (sz : Nat) (hr : HRel S w ρ h) (hf : h nid = .free) : Eff S w w ρ (bK ρ nid (.slice none 0 0)) h (bi h nid (.row e sz [])) (fun _ => False) :=
  eff_new hr hf (Chg.refl _ _) ⟨_, [], ay _ _ _, ⟨by simp, .inl ⟨rfl, rfl⟩⟩, by simp [CRel]⟩ (fun b hb => by
    obtain ⟨v, h1, h2⟩ := hb
    rw [ay] at h1
    cases h1; cases h2)
theorem gNS (d : Nat) (e : TypeId) (sz : Nat) (hp : p.still = true) (hd : F.get d = some .nils) (h1 : F.put d (some (.sl H.nx)) id = F1) (h2 : H.ap (.new (.row e sz [])) id = H1) (k : Go P K Q p s n F1 H1) : Go P K Q p s n F H := by
  rw [Fm.put_eq] at h1; rw [Hp.ap_eq] at h2; subst h1 h2
  intro S w ρ a hr hi hF
  have he := lG e sz hr H.get_free
  have hg : (H.app (.new (.row e sz []))).get = bi H.get H.nx (.row e sz []) := Hp.get_app trivial
  have := k S w (bK ρ H.nx (.slice none 0 0)) a (by rw [id_eq, hg]; exact he.hr) (by rw [id_eq, hg]; exact hi.eff he) (by
    have hu := hF.up he.up
    refine ⟨hu.size, hu.defers, by simpa using hu.len, fun i u hiu => ?_⟩
    rw [id_eq, Fm.get_eq, List.getElem?_set] at hiu
    split at hiu
    · rename_i e1; subst e1
      split at hiu
      · simp only [Option.bind_some, id_eq, Option.some.injEq] at hiu
        subst hiu
        obtain ⟨x, h3, h4⟩ := hF.get d _ hd
        simp only [VRel] at h4; subst h4
        exact ⟨_, h3, by simp only [VRel]; exact ⟨ay _ _ _, rfl⟩⟩
      · cases hiu
    · exact hu.get i u (by rw [Fm.get_eq]; exact hiu))
  cases p with
  | drw all L m left listed => cases hp
  | code c => exact this
  | ops all rest => exact this
  | ex e => exact this
theorem gNC {t : TypeId} {cs : List V} (id o : Nat) (e : TypeId) (sz : Nat) (hp : p.still = true) (ho : H.get id = .var t cs) (hc : cs[o]? = some .nils) (h2 : (H.ap (.new (.row e sz [])) fun H1 => H1.ap (.set id (.var t (cs.set o (.sl H.nx)))) _root_.id) = H1) (k : Go P K Q p s n F H1) : Go P K Q p s n F H := by
  rw [Hp.ap_eq, Hp.ap_eq] at h2; subst h2
  intro S w ρ a hr hi hF
  have he := lG e sz hr H.get_free
  have hg : (H.app (.new (.row e sz []))).get = bi H.get H.nx (.row e sz []) := Hp.get_app trivial
  have hne : id ≠ H.nx := fun e1 => by subst e1; rw [H.get_free] at ho; cases ho
  have hg1 : (H.app (.new (.row e sz []))).get id = .var t cs := by rw [hg, bu _ _ hne, ho]
  have hg2 : ((H.app (.new (.row e sz []))).app (.set id (.var t (cs.set o (.sl H.nx))))).get = bi (H.app (.new (.row e sz []))).get id (.var t (cs.set o (.sl H.nx))) := Hp.get_app (by exact ⟨by rw [hg1]; simp, by rw [hg1]; simp⟩)
  have h1 : HRel S w (bK ρ H.nx (.slice none 0 0)) (H.app (.new (.row e sz []))).get := by rw [hg]; exact he.hr
  have h2 : Inv K S w (bK ρ H.nx (.slice none 0 0)) (H.app (.new (.row e sz []))).get := by rw [hg]; exact hi.eff he
  have how : ∀ i b, own (bK ρ H.nx (.slice none 0 0)) i (bi (H.app (.new (.row e sz []))).get id (.var t (cs.set o (.sl H.nx))) i) b ↔ own (bK ρ H.nx (.slice none 0 0)) i ((H.app (.new (.row e sz []))).get i) b := fun i b => by
    by_cases hi : i = id
    · subst hi; rw [aZ, hg1]; rfl
    · rw [bu _ _ hi]
  have := k S w (bK ρ H.nx (.slice none 0 0)) a (by
    rw [id_eq, hg2]
    refine ⟨fun i => ?_, fun i b hb => h1.sep i b ((how i b).1 hb), fun i j b q1 q2 => h1.dis i j b ((how i b).1 q1) ((how j b).1 q2), h1.slt⟩
    by_cases hii : i = id
    · subst hii
      rw [aZ]
      obtain ⟨b, xs, q1, q2, q3⟩ := gL h1 hg1
      obtain ⟨x, q4, q5⟩ := q3.get hc
      simp only [VRel] at q5; subst q5
      refine ⟨b, xs, q1, q2, ?_⟩
      have := q3.set (i := o) (v := .sl H.nx) (x := .slice none 0 0) (by simp only [VRel]; exact ⟨ay _ _ _, rfl⟩)
      have e2 : xs.set o (.slice none 0 0) = xs := by
        obtain ⟨hl, q6⟩ := List.getElem?_eq_some_iff.1 q4
        rw [← q6]; exact List.set_getElem_self ..
      rw [e2] at this; exact this
    · rw [bu _ _ hii]; exact h1.ob i) (by
    rw [id_eq, hg2]
    exact ⟨h2.chg, h2.s0, h2.s1, fun i b hb => h2.ow i b ((how i b).1 hb), h2.pin⟩) (hF.up he.up)
  cases p with
  | drw all L m left listed => cases hp
  | code c => exact this
  | ops all rest => exact this
  | ex e => exact this
theorem gLB {sz : Nat} {els : List V} {N : Nat} (d : Nat) (hd : F.get d = some (.row sz els)) (hn : els.length = N) (k : N ≤ 9223372036854775807 → Go P K Q p s n F H) : Go P K Q p s n F H := fun S w ρ a hr hi hF => by
  obtain ⟨x, h1, h2⟩ := hF.get d _ hd
  simp only [VRel] at h2
  obtain ⟨A, c, xs, rfl, h3, h4, _⟩ := h2
  exact k (by simp only [maxLen] at h4; omega) S w ρ a hr hi hF
theorem gLO {e : TypeId} {sz : Nat} {els : List V} {N : Nat} (id : Nat) (ho : H.get id = .row e sz els) (hn : els.length = N) (k : N ≤ 9223372036854775807 → Go P K Q p s n F H) : Go P K Q p s n F H := fun S w ρ a hr hi hF => by
  obtain ⟨v, xs, h1, h2, h3⟩ := dN hr ho
  refine k ?_ S w ρ a hr hi hF
  rcases h2.2 with ⟨_, h⟩ | ⟨g, cap, cur, _, _, _, h4, h5, _⟩
  · omega
  · simp only [maxLen] at h5; omega
def kB (F : Fm) (y : Option Operand) (i : Nat) (dflt : Nat) : Prop := (y = none ∧ i = dflt) ∨ ∃ z, y = some z ∧ au F z = some (.int .i64 (i : Int))
theorem nk {i : Nat} : kB F none i i := .inl ⟨rfl, rfl⟩
theorem mL {z : Operand} {i d : Nat} (h : au F z = some (.int .i64 (i : Int))) : kB F (some z) i d := .inr ⟨z, rfl, h⟩
theorem qY {S : Nat → Prop} {w : World} {ρ : Nat → Option Value} {a : Act} (hF : FRel S w ρ a n F) {y : Option Operand} {i d : Nat} (h : kB F y i d) : (y = none ∧ i = d) ∨ ∃ z, y = some z ∧ Opd S w ρ a z (.int .i64 (i : Int)) := h.imp _root_.id fun ⟨z, e, h⟩ => ⟨z, e, ae hF h⟩
theorem ySR (hT : TabOk P T) {t e : TypeId} {x : Operand} {lo hi : Option Operand} {sz i j : Nat} {els els' : List V} {ty : TypeId} (ht : slT T t = some (e, sz)) (hx : au F x = some (.row sz els)) (hlo : kB F lo i 0) (hhi : kB F hi j els.length) (hij : i ≤ j) (hj : j ≤ els.length) (he : (els.drop i).take (j - i) = els') : ∀ S w ρ a, HRel S w ρ H.get → FRel S w ρ a n F → Yld P S w ρ a ty (.slice t x lo hi none) (.row sz els') := fun S w ρ a hr hF => by
  subst he
  exact sm hF.fr (fz hT ht).1 (fz hT ht).2 (ae hF hx) (qY hF hlo) (qY hF hhi) hij hj
theorem nn {t e : TypeId} {x : Operand} {lo hi : Option Operand} {sz i j N : Nat} {els els' : List V} {ty : TypeId} (hn : els.length = N) (hT : TabOk P T) (ht : slT T t = some (e, sz)) (hx : au F x = some (.row sz els)) (hlo : kB F lo i 0) (hhi : kB F hi j N) (hij : i ≤ j) (hj : j ≤ N) (he : (els.drop i).take (j - i) = els') : ∀ S w ρ a, HRel S w ρ H.get → FRel S w ρ a n F → Yld P S w ρ a ty (.slice t x lo hi none) (.row sz els') := by
  subst hn; exact ySR hT ht hx hlo hhi hij hj he
theorem rx {α : Type} (l : List α) (i : Nat) : (l.drop i).take (l.length - i) = l.drop i := by
  rw [List.take_of_length_le (by simp)]
theorem jp {α : Type} (l : List α) (j : Nat) : (l.drop 0).take (j - 0) = l.take j := by simp
theorem aM {t e : TypeId} {x y : Operand} {sz i : Nat} {els cs : List V} {v : V} {ty : TypeId} (hi : els[i]? = some v) (hT : TabOk P T) (ht : slT T t = some (e, sz)) (hx : au F x = some (.row sz els)) (hy : au F y = some (.int .i64 (i : Int))) (hc : v.cells = cs) : ∀ S w ρ a, HRel S w ρ H.get → FRel S w ρ a n F → Yld P S w ρ a ty (.indexAddr t x y) (.box cs 0) := by
  subst hc; exact yIR hT ht hx hy hi
theorem sJ {f : Nat → Option Value} {a : Act} {w : World} {ty t u : TypeId} {x y : Operand} {m l : Int} (h : Fr a n f) (hx : ao f x = some (.int .i64 m)) (hy : ao f y = some (.int .i64 l)) (hl : l ≠ 0) : Runs P a ty (.binOp .rem t x y u) w (.value (.int .i64 (Int.tmod m l))) w := fun _ _ _ _ => by
  simp only [execOp, h.eval hx, h.eval hy]; simp [go_sem, eqGuard, Op.intDiv, hl]
theorem t7 {f : Nat → Option Value} {a : Act} {w : World} {ty t u : TypeId} {x y : Operand} {m l : List UInt8} (h : Fr a n f) (hx : ao f x = some (.string ⟨m.toArray⟩)) (hy : ao f y = some (.string ⟨l.toArray⟩)) : Runs P a ty (.binOp .lss t x y u) w (.value (.bool (Op.bytesLess m l))) w := fun _ _ _ _ => by
  simp only [execOp, h.eval hx, h.eval hy]; simp [go_sem, eqGuard]
theorem yLt {t u ty : TypeId} {x y : Operand} {m l : List UInt8} (hx : au F x = some (.str m)) (hy : au F y = some (.str l)) : ∀ S w ρ a, HRel S w ρ H.get → FRel S w ρ a n F → Yld P S w ρ a ty (.binOp .lss t x y u) (.bool (Op.bytesLess m l)) := fun S w ρ a hr hF => ⟨_, by simp only [VRel], fun w' _ => t7 hF.fr (dD (ae hF hx)) (dD (ae hF hy))⟩
theorem k9 {w : World} (d : Nat) {t e : TypeId} (A : Option Addr) (k c : Nat) (ht : P.underlying t = some (.slice e)) : (Op.equalIn (d + 1) t (.slice A k c) (.slice none 0 0)).run P w = .ok A.isNone w := by
  cases A <;> simp [Op.equalIn, run_underlying ht]
theorem mv {w : World} {t e : TypeId} (A : Option Addr) (k c : Nat) (ht : P.underlying t = some (.slice e)) : (Op.equal t (.slice A k c) (.slice none 0 0)).run P w = .ok A.isNone w := k9 9999 A k c ht
theorem ut {f : Nat → Option Value} {a : Act} {w : World} {ty t u e : TypeId} {x : Operand} {A : Option Addr} {k c : Nat} (h : Fr a n f) (ht : P.underlying t = some (.slice e)) (hx : ao f x = some (.slice A k c)) : Runs P a ty (.binOp .eql t x (.const (.slice none 0 0)) u) w (.value (.bool A.isNone)) w := fun _ _ _ _ => by
  have hb : (binOp .eql t (.slice A k c) (.slice none 0 0)).run P w = .ok (.bool A.isNone) w := by simp only [binOp]; simp [mv A k c ht]
  simp only [execOp, h.eval hx]; simp [go_sem, eqGuard, hb]
def rT (h : Nat → Ob) : V → Bool
  | .row _ _ => true
  | .sl i => match h i with | .row _ _ _ => true | _ => false
  | .nils => true
  | _ => false
def r4 (h : Nat → Ob) : V → Nat
  | .row _ els => els.length
  | .sl i => match h i with | .row _ _ els => els.length | _ => 0
  | _ => 0
theorem tm {S : Nat → Prop} {w : World} {ρ : Nat → Option Value} {h : Nat → Ob} {v : V} {x : Value} (hr : HRel S w ρ h) (hs : rT h v = true) (hx : VRel S w ρ v x) : ∃ A k c, x = .slice A k c ∧ (A.isNone = true → r4 h v = 0) := by
  unfold rT at hs
  split at hs
  · simp only [VRel] at hx
    obtain ⟨A, c, xs, rfl, _, _, _, h6⟩ := hx
    refine ⟨_, _, _, rfl, fun hA => ?_⟩
    refine Nat.eq_zero_of_not_pos fun h0 => ?_
    obtain ⟨b, off, rfl, _⟩ := h6.2 h0
    cases hA
  · split at hs
    · rename_i ho
      obtain ⟨v, xs, h1, h2, _⟩ := dN hr ho
      simp only [VRel] at hx
      rw [h1] at hx
      obtain ⟨e, _⟩ := hx
      injection e with e; subst e
      rcases h2.2 with ⟨rfl, h3⟩ | ⟨_, _, _, rfl, _⟩
      · exact ⟨_, _, _, rfl, fun _ => by simp only [r4, ho]; exact h3⟩
      · exact ⟨_, _, _, rfl, fun hA => by cases hA⟩
    · cases hs
  · simp only [VRel] at hx; subst hx; exact ⟨_, _, _, rfl, fun _ => rfl⟩
  · cases hs
theorem sk {t u ty e : TypeId} {sz N : Nat} {x : Operand} {v : V} {d : Option Tmp} {ps : String} {af : Array Edge} {g : Option (Nat × Bool)} (hT : TabOk P T) (hw : aJ F all g = some true) (ht : slT T t = some (e, sz)) (hx : au F x = some v) (hv : rT H.get v = true) (hN : r4 H.get v = N) (k : ∀ b : Bool, (b = true → N = 0) → Go P K Q (.ops all rest) s n (F.seto d (some (.bool b))) H) : Go P K Q (.ops all (⟨d, .binOp .eql t x (.const (.slice none 0 0)) u, ty, ps, af, g⟩ :: rest)) s n F H := fun S w ρ a hr hi hF => by
  show wpList P all (bB P Q s) (⟨d, .binOp .eql t x (.const (.slice none 0 0)) u, ty, ps, af, g⟩ :: rest) a w
  unfold wpList
  rw [if_pos (be hF hw)]
  refine .inl ?_
  obtain ⟨y, h1, h2⟩ := ae hF hx
  obtain ⟨A, kk, c, rfl, hl⟩ := tm hr hv h2
  have := ut (P := P) (w := w) (ty := ty) (u := u) hF.fr (fz hT ht).1 h1
  unfold Oper.wp
  rw [this d ps af g]
  exact k A.isNone (fun hb => by subst hN; exact hl (by simpa using hb)) S w ρ _ hr hi (bw hF d (by simp only [VRel]))
theorem vn {t u ty : TypeId} {x y : Operand} {m l : Int} (hx : au F x = some (.int .i64 m)) (hy : au F y = some (.int .i64 l)) (hl : l ≠ 0) : ∀ S w ρ a, HRel S w ρ H.get → FRel S w ρ a n F → Yld P S w ρ a ty (.binOp .rem t x y u) (.int .i64 (Int.tmod m l)) := fun S w ρ a hr hF => ⟨_, by simp only [VRel], fun w' _ => sJ hF.fr (aC (ae hF hx)) (aC (ae hF hy)) hl⟩
theorem qy {o : Oper} {L : List Nat} {ok : Bool} {v : Option V} (ed : ED) (hd : ∀ S w ρ a, HRel S w ρ H.get → FRel S w ρ a n F → Does P S w ρ H.get a o.type o.op v (ed.app H.get H.nx) ed.tch) (hl : ed.ok H.get) (hc : ((bt H.get L && ed.clear L) || ok) = true) : gu P K o L ok n F H (v.getD (.tup [])) (H.app ed) := fun S w ρ a hr hi hF Q' K2 k => by
  obtain ⟨nx, w', ρ', h1, h2, h3⟩ := hd S w ρ a hr hF
  have hr' := h2.hr
  have hi' := hi.eff h2
  rw [← Hp.get_app hl] at hr' hi'
  have hLs : Ls ρ L w w' ∨ ok = true := (j0 hc).imp (fun h => by
    simp only [Bool.and_eq_true] at h
    exact nS hr h2 h.1 h.2) _root_.id
  have kk := fun x hx => k x S w' ρ' hr' hi' h2.up (gO hr h2) hLs hx
  obtain ⟨d, op, ty, ps, af, g⟩ := o
  unfold Oper.wp
  rw [h1 d ps af g]
  cases v with
  | none =>
    subst h3
    exact kk undef i3
  | some v =>
    obtain ⟨x, rfl, h4⟩ := h3
    exact kk x h4
theorem LRel.sub {S : Nat → Prop} {w : World} {ρ : Nat → Option Value} {vs : List V} {xs : List Value} (h : LRel S w ρ vs xs) (i j : Nat) : LRel S w ρ ((vs.drop i).take j) ((xs.drop i).take j) := (h.drop i).take j
theorem qT {fid : FuncId} {vs : List V} {L : List Nat} {Post : V → Hp → Prop} (i : Nat) (e : TypeId) (sz : Nat) (hv : vs[i]? = some .nils) (k : CallR P K fid (vs.set i (.sl H.nx)) (H.app (.new (.row e sz []))) L Post) : CallR P K fid vs H L Post := fun S w ρ xs hr hi hx => by
  have he := lG e sz hr H.get_free
  have hg : (H.app (.new (.row e sz []))).get = bi H.get H.nx (.row e sz []) := Hp.get_app trivial
  have hx' : LRel S w (bK ρ H.nx (.slice none 0 0)) (vs.set i (.sl H.nx)) xs := by
    obtain ⟨x, h1, h2⟩ := hx.get hv
    simp only [VRel] at h2; subst h2
    have := (hx.up he.up).set (i := i) (v := .sl H.nx) (x := .slice none 0 0) (by simp only [VRel]; exact ⟨ay _ _ _, rfl⟩)
    have e2 : xs.set i (.slice none 0 0) = xs := by
      obtain ⟨hl, q6⟩ := List.getElem?_eq_some_iff.1 h1
      rw [← q6]; exact List.set_getElem_self ..
    rw [e2] at this; exact this
  refine (k S w (bK ρ H.nx (.slice none 0 0)) xs (by rw [hg]; exact he.hr) (by rw [hg]; exact hi.eff he) hx').mono fun e w' hh => ?_
  obtain ⟨x, S', ρ', v, H', h1, h2, h3, h4, h5, h6, h7⟩ := hh
  exact ⟨x, S', ρ', v, H', h1, h2, h3, h4, ⟨h5.s, h5.blk, fun i y h => h5.r i y (he.up.r i y h)⟩, h6, fun id hid y b hy hb => h7 id hid y b (he.up.r _ _ hy) hb⟩
theorem gYd {v : V} (i : Nat) (hi : all[i]? = some o) (hc : (!Nat.beq i m && Region.free .any all listed i && (Region.ready .any all listed).contains i) = true) (hy : ∀ S w ρ a, HRel S w ρ H.get → FRel S w ρ a n F → Yld P S w ρ a o.type o.op v) (hw : aJ F all o.guard = some true) (h1 : F.puto o.dst (some v) id = F1) (k : Go P K Q (.drw all L m fuel (listed.setIfInBounds i true)) s n F1 H) : Go P K Q (.drw all L m (fuel + 1) listed) s n F H := by
  rw [Fm.puto_eq] at h1; subst h1
  simp only [Bool.and_eq_true, Bool.not_eq_true'] at hc
  exact st hc.1.1 hi hc.1.2 hc.2 hw hy k
theorem g9 {v : V} (i : Nat) (hi : all[i]? = some o) (hrd : Region.ready .any all listed = [i]) (hy : ∀ S w ρ a, HRel S w ρ H.get → FRel S w ρ a n F → Yld P S w ρ a o.type o.op v) (hw : aJ F all o.guard = some true) (h1 : F.puto o.dst (some v) id = F1) (k : Go P K Q (.drw all L m fuel (listed.setIfInBounds i true)) s n F1 H) : Go P K Q (.drw all L m (fuel + 1) listed) s n F H := by
  rw [Fm.puto_eq] at h1; subst h1
  exact qm hrd hi hw hy k
theorem gDo {v : Option V} (ed : ED) (hd : ∀ S w ρ a, HRel S w ρ H.get → FRel S w ρ a n F → Does P S w ρ H.get a o.type o.op v (ed.app H.get H.nx) ed.tch) (hl : ed.ok H.get) (hw : aJ F all o.guard = some true) (h1 : F.puto o.dst (nh v) id = F1) (h2 : H.ap ed id = H1) (k : Go P K Q (.ops all rest) s n F1 H1) : Go P K Q (.ops all (o :: rest)) s n F H := by
  rw [Fm.puto_eq] at h1; rw [Hp.ap_eq] at h2; subst h1 h2
  exact go_opD hw hd hl k
theorem iB {v : Option V} (i : Nat) (ed : ED) (hi : all[i]? = some o) (hrd : Region.ready .any all listed = [i]) (hd : ∀ S w ρ a, HRel S w ρ H.get → FRel S w ρ a n F → Does P S w ρ H.get a o.type o.op v (ed.app H.get H.nx) ed.tch) (hl : ed.ok H.get) (hw : aJ F all o.guard = some true) (hc : ((bt H.get L && ed.clear L) || (listed.setIfInBounds i true).getD m false) = true) (h1 : F.puto o.dst (nh v) id = F1) (h2 : H.ap ed id = H1) (k : Go P K Q (.drw all L m fuel (listed.setIfInBounds i true)) s n F1 H1) : Go P K Q (.drw all L m (fuel + 1) listed) s n F H := by
  rw [Fm.puto_eq] at h1; rw [Hp.ap_eq] at h2; subst h1 h2
  exact nN hrd hi hw hd hl hc k
theorem dm {t e : TypeId} {x y : Operand} {sz by_ id : Nat} {els news els' : List V} {v : V} {ty : TypeId} (hT : TabOk P T) (ht : slB T t = some (e, sz, by_)) (hx : au F x = some (.sl id)) (ho : H.get id = .row e sz els) (hy : au F y = some v) (hs : nJ H.get sz v = some news) (he : els ++ news = els') (hb : els'.length ≤ 1000000000) :
    ∀ S w ρ a, HRel S w ρ H.get → FRel S w ρ a n F → Does P S w ρ H.get a ty (.call { callee := .builtin .append, args := #[x, y], argTypes := #[t, t] }) (some (.sl H.nx)) ((ED.repl id (.row e sz els')).app H.get H.nx) (ED.repl id (.row e sz els')).tch := by
  subst he
  exact dAp hT ht hx ho hy hs (by simpa using hb)
theorem okR {e : TypeId} {sz : Nat} {els : List V} {id : Nat} {o' : Ob} (ho : H.get id = .row e sz els) : (ED.repl id o').ok H.get := by exact ⟨by rw [ho]; simp, by rw [ho]; simp⟩
theorem dTr (hT : TabOk P T) {t e : TypeId} {x y : Operand} {sz id k : Nat} {els els' : List V} {ty : TypeId} (ht : slT T t = some (e, sz)) (hx : au F x = some (.sl id)) (ho : H.get id = .row e sz els) (hy : au F y = some (.int .i64 (k : Int))) (hk : k ≤ els.length) (he : els.take k = els') :
    ∀ S w ρ a, HRel S w ρ H.get → FRel S w ρ a n F → Does P S w ρ H.get a ty (.slice t x none (some y) none) (some (.sl H.nx)) ((ED.repl id (.row e sz els')).app H.get H.nx) (ED.repl id (.row e sz els')).tch := fun S w ρ a hr hF => by
  subst he
  exact oL hr hF.fr H.get_free (ae hF hx) (ae hF hy) ho (fz hT ht).1 (fz hT ht).2 hk
theorem dLe (hT : TabOk P T) {t e : TypeId} {x : Operand} {id sz i o : Nat} {els : List V} {v0 v : V} {td : TD} {ty : TypeId} (ht : T.ty t = some td) (hx : au F x = some (.el id sz i o)) (ho : H.get id = .row e sz els) (hi : els[i]? = some v0) (hv : gc td v0.cells o = some v) :
    ∀ S w ρ a, HRel S w ρ H.get → FRel S w ρ a n F → Does P S w ρ H.get a ty (.load t x) (some v) (ED.nop.app H.get H.nx) ED.nop.tch := fun S w ρ a hr hF => by
  rcases fW (hT.ty _ _ ht) hv with ⟨h1, h2⟩ | ⟨h1, h2, rfl⟩
  · exact oH hr hF.fr (ae hF hx) ho h1 hi h2
  · exact mN hr hF.fr (ae hF hx) ho h1 hi h2
theorem gCn {PL : List Nat} {fid : FuncId} {args : List Operand} {tys : Array TypeId} {vs us : List V} {H0 : Hp} {Post : V → Hp → Prop} {d : Option Tmp} {ty : TypeId} {ps : String} {af : Array Edge} {g : Option (Nat × Bool)} (i : Nat) (e : TypeId) (sz : Nat) (hS : dU PL P fid us H0 Post) (σ : List Nat) (he : bQ P fid = true) (hw : aJ F all g = some true) (hv : d7 F args = some vs) (hvi : vs[i]? = some .nils) (h2 : H.ap (.new (.row e sz [])) id = H1) (hs : aq (vs.set i (.sl H.nx)) (renL σ us)) (hH : leH σ H1 H0.es) (hc : (bV σ && Nat.beq σ.length H0.nx && σ.all fun i => Nat.blt i H1.nx) = true)
    (k : ∀ v H', Post v H' → Go P K Q (.ops all rest) s n (F.seto d (some (v.ren (sgN PL H1.nx H0.get H'.nx σ 0)))) (gp PL H1 σ H0 H')) : Go P K Q (.ops all (⟨d, .call { callee := .value (.func fid), args := args.toArray, argTypes := tys }, ty, ps, af, g⟩ :: rest)) s n F H := by
  rw [Hp.ap_eq] at h2; subst h2
  exact go_opC (o := ⟨d, .call { callee := .value (.func fid), args := args.toArray, argTypes := tys }, ty, ps, af, g⟩) he rfl hw hv (qT i e sz hvi (kJ hS σ hs hH hc [] (by simp [bt]))) fun v' H'' ⟨v, H', hP, e1, e2⟩ => by subst e1 e2; exact k v H' hP
end
end Go.Proofs.Yteglbnopdedadaa
namespace Go.Proofs.Yteglbnopdedadaa
open Go.RowKit Lx Sx
set_option maxRecDepth 100000
set_option maxHeartbeats 4000000
def od (p0 : (List UInt8)) (r0 : Int) : Prop := aG Try.prog 69 [.str p0] (.int .i64 r0)
def jy (p0 : (List UInt8)) (r0 : Int) : Prop := aG Try.prog 75 [.str p0] (.int .i64 r0)
def f7 (p0 : Int) (p1 : Int) (r0 : Int) : Prop := aG Try.prog 50 [.int .i64 p0, .int .i64 p1] (.int .i64 r0)
def bY (p0 : Int) (p1 : Int) (p2 : Int) (r0 : Int) : Prop := aG Try.prog 68 [.int .i64 p0, .int .i64 p1, .int .i64 p2] (.int .i64 r0)
def dZ (p0 : Int) (r0 : Bool) : Prop := aG Try.prog 72 [.int .i64 p0] (.bool r0)
def bD (p0 : Int) (r0 : Bool) : Prop := aG Try.prog 71 [.int .i64 p0] (.bool r0)
def fM (p0 : Int) (r0 : Bool) : Prop := aG Try.prog 73 [.int .i64 p0] (.bool r0)
def eK (p0 : (List UInt8)) (r0 : Bool) : Prop := aG Try.prog 70 [.str p0] (.bool r0)
def fC (p0 : Int) (p1 : (List UInt8)) (r0 : Bool) : Prop := aG Try.prog 51 [.int .i64 p0, .str p1] (.bool r0)
def f6 (p0 : Tree) (p1 : Int) (r0 : Bool) : Prop := aG Try.prog 52 [.agg (av p0), .int .i64 p1] (.bool r0)
def d6 (p0 : Tree) (r0 : Bool) : Prop := aG Try.prog 33 [.agg (av p0)] (.bool r0)
def dR (p0 : Int) (p1 : Int) (r0 : Int) : Prop := aG Try.prog 53 [.int .i64 p0, .int .i64 p1] (.int .i64 r0)
def aX (p0 : Int) (p1 : Int) (p2 : Int) (r0 : Int) : Prop := aG Try.prog 74 [.int .i64 p0, .int .i64 p1, .int .i64 p2] (.int .i64 r0)
def cI (p0 : Int) (r0 : Bool) : Prop := aG Try.prog 78 [.int .i64 p0] (.bool r0)
def bM (p0 : Int) (r0 : Bool) : Prop := aG Try.prog 77 [.int .i64 p0] (.bool r0)
def dJ (p0 : Int) (r0 : Bool) : Prop := aG Try.prog 79 [.int .i64 p0] (.bool r0)
def cR (p0 : (List UInt8)) (r0 : Bool) : Prop := aG Try.prog 76 [.str p0] (.bool r0)
def dq (p0 : Int) (p1 : (List UInt8)) (r0 : Bool) : Prop := aG Try.prog 54 [.int .i64 p0, .str p1] (.bool r0)
def eL (p0 : Tree) (p1 : Int) (p2 : Int) (r0 : Bool) : Prop := aG Try.prog 55 [.agg (av p0), .int .i64 p1, .int .i64 p2] (.bool r0)
def cC (p0 : Tree) (r0 : Bool) : Prop := aG Try.prog 35 [.agg (av p0)] (.bool r0)
def am (m : Nat) (p1 : Int) (i1v1 : Nat) (i1v2 : Nat) (i1v3 : Nat) (z1v4 : Int) (r0 : Int) : Prop := ∀ (K : Ctx), aQ K [] → Go Try.prog K (bodyPost Try.prog Try.f50 (SP K (fun u _ => u = .int .i64 r0))) (.code (cB (cB (cB (cB (ah Try.f50)))))) [] 69 (mkF 69 0 [(1, .int .i64 p1), (5, .int .i64 ((i1v1 : Nat) : Int)), (6, .int .i64 z1v4), (7, .int .i64 ((i1v2 : Nat) : Int)), (8, .int .i64 ((i1v3 : Nat) : Int))]) ⟨0, []⟩
def d3 (m : Nat) (p0 : Int) (p1 : Int) (b2v1 : Bool) (r0 : Int) : Prop := ∀ (K : Ctx), aQ K [] → Go Try.prog K (bodyPost Try.prog Try.f50 (SP K (fun u _ => u = .int .i64 r0))) (.code (cB (cE (cB (cE (cB (cE (cB (cE (cB (cE (cB (cK (cB (cA (cB (cB (cB (ah Try.f50))))))))))))))))))) [.blk 0, .seq (cB (cB (cB (cB (ah Try.f50)))))] 69 (mkF 69 0 [(1, .int .i64 p1), (5, .int .i64 0), (6, .int .i64 0), (7, .int .i64 1), (8, .int .i64 0), (9, .int .i64 p0), (22, .bool b2v1)]) ⟨0, []⟩
def d4 (m : Nat) (p1 : Int) (i1v1 : Nat) (i1v2 : Nat) (i1v3 : Nat) (z1v4 : Int) (r0 : Int) : Prop := ∀ (K : Ctx), aQ K [] → Go Try.prog K (bodyPost Try.prog Try.f50 (SP K (fun u _ => u = .int .i64 r0))) (.code (cB (cB (cB (cB (cB (ah Try.f50))))))) [] 69 (mkF 69 0 [(1, .int .i64 p1), (5, .int .i64 ((i1v1 : Nat) : Int)), (6, .int .i64 z1v4), (7, .int .i64 ((i1v2 : Nat) : Int)), (8, .int .i64 ((i1v3 : Nat) : Int))]) ⟨0, []⟩
theorem lz (m : Nat) (p0 : Int) (p1 : Int) (r0 : Int) (h : ((p0 = 1) → ∃ (n0_1 : Int), bY p1 0 3 n0_1 ∧ n0_1 = r0) ∧ ((p0 ≠ 1) → ((p0 = 2) → am m p1 2 6 2 (-1) r0) ∧ ((p0 ≠ 2) → ((p0 = 16) → am m p1 0 3 0 (-1) r0) ∧ ((p0 ≠ 16) → ((p0 = 18) → am m p1 1 2 0 (-1) r0) ∧ ((p0 ≠ 18) → ((p0 = 3) → am m p1 1 3 0 1 r0) ∧ ((p0 ≠ 3) → ((p0 = 4) → d3 m p0 p1 true r0) ∧ ((p0 ≠ 4) → ((p0 = 8) → d3 m p0 p1 true r0) ∧ ((p0 ≠ 8) → d3 m p0 p1 (p0 == 22) r0)))))))) : f7 p0 p1 r0 := by
 refine ⟨rfl, rfl, ?_⟩
 refine aj 69 [] Try.func50 rfl rfl rfl (aA rfl) fun K hK => ?_
 refine gR 30 rfl ?_
 refine gB 10 rfl rfl rfl (fun hd => ?_) (fun hd => ?_)
 refine gT 11 rfl hd rfl ?_
 replace hd := (eq_of_beq hd)
 replace h := h.1 hd
 refine gR 4 rfl ?_
 obtain ⟨n0_1, hs17, h⟩ := h
 refine gC0 hs17 (by kernel_rfl) rfl rfl .rfl rfl ?_
 refine gR 6 rfl ?_
 subst h
 refine ab (F' := (mkF 69 0 [(4, .int .i64 n0_1)])) (H' := ⟨0, []⟩) [] [] rfl hK ⟨⟨_, rfl, .rfl⟩, trivial⟩ trivial rfl ?_
 exact ac aa (rs := [.tmp 4]) rfl rfl rfl
 refine gF 11 rfl hd rfl ?_
 replace hd := (ne_of_beq_false hd)
 replace h := h.2 hd
 refine gR 7 rfl ?_
 refine gB 14 rfl rfl rfl (fun hd => ?_) (fun hd => ?_)
 refine gT 15 rfl hd rfl ?_
 replace hd := (eq_of_beq hd)
 replace h := h.1 hd
 refine gR 9 rfl ?_
 exact gJ (h K hK) [] [] rfl hK ⟨⟨_, rfl, .rfl⟩, ⟨_, rfl, .rfl⟩, ⟨_, rfl, .rfl⟩, ⟨_, rfl, .rfl⟩, ⟨_, rfl, .rfl⟩, trivial⟩ trivial rfl
 refine gF 15 rfl hd rfl ?_
 replace hd := (ne_of_beq_false hd)
 replace h := h.2 hd
 refine gR 7 rfl ?_
 refine gB 16 rfl rfl rfl (fun hd => ?_) (fun hd => ?_)
 refine gT 17 rfl hd rfl ?_
 replace hd := (eq_of_beq hd)
 replace h := h.1 hd
 refine gR 9 rfl ?_
 exact gJ (h K hK) [] [] rfl hK ⟨⟨_, rfl, .rfl⟩, ⟨_, rfl, .rfl⟩, ⟨_, rfl, .rfl⟩, ⟨_, rfl, .rfl⟩, ⟨_, rfl, .rfl⟩, trivial⟩ trivial rfl
 refine gF 17 rfl hd rfl ?_
 replace hd := (ne_of_beq_false hd)
 replace h := h.2 hd
 refine gR 7 rfl ?_
 refine gB 18 rfl rfl rfl (fun hd => ?_) (fun hd => ?_)
 refine gT 19 rfl hd rfl ?_
 replace hd := (eq_of_beq hd)
 replace h := h.1 hd
 refine gR 9 rfl ?_
 exact gJ (h K hK) [] [] rfl hK ⟨⟨_, rfl, .rfl⟩, ⟨_, rfl, .rfl⟩, ⟨_, rfl, .rfl⟩, ⟨_, rfl, .rfl⟩, ⟨_, rfl, .rfl⟩, trivial⟩ trivial rfl
 refine gF 19 rfl hd rfl ?_
 replace hd := (ne_of_beq_false hd)
 replace h := h.2 hd
 refine gR 7 rfl ?_
 refine gB 20 rfl rfl rfl (fun hd => ?_) (fun hd => ?_)
 refine gT 21 rfl hd rfl ?_
 replace hd := (eq_of_beq hd)
 replace h := h.1 hd
 refine gR 8 rfl ?_
 exact gJ (h K hK) [] [] rfl hK ⟨⟨_, rfl, .rfl⟩, ⟨_, rfl, .rfl⟩, ⟨_, rfl, .rfl⟩, ⟨_, rfl, .rfl⟩, ⟨_, rfl, .rfl⟩, trivial⟩ trivial rfl
 refine gF 21 rfl hd rfl ?_
 replace hd := (ne_of_beq_false hd)
 replace h := h.2 hd
 refine gR 8 rfl ?_
 refine gB 22 rfl rfl rfl (fun hd => ?_) (fun hd => ?_)
 refine gT 23 rfl hd rfl ?_
 replace hd := (eq_of_beq hd)
 replace h := h.1 hd
 refine gR 3 rfl ?_
 exact gJ (h K hK) [] [] rfl hK ⟨⟨_, rfl, .rfl⟩, ⟨_, rfl, .rfl⟩, ⟨_, rfl, .rfl⟩, ⟨_, rfl, .rfl⟩, ⟨_, rfl, .rfl⟩, ⟨_, rfl, .rfl⟩, ⟨_, rfl, .rfl⟩, trivial⟩ trivial rfl
 refine gF 23 rfl hd rfl ?_
 replace hd := (ne_of_beq_false hd)
 replace h := h.2 hd
 refine gR 7 rfl ?_
 refine gB 22 rfl rfl rfl (fun hd => ?_) (fun hd => ?_)
 refine gT 24 rfl hd rfl ?_
 replace hd := (eq_of_beq hd)
 replace h := h.1 hd
 refine gR 3 rfl ?_
 exact gJ (h K hK) [] [] rfl hK ⟨⟨_, rfl, .rfl⟩, ⟨_, rfl, .rfl⟩, ⟨_, rfl, .rfl⟩, ⟨_, rfl, .rfl⟩, ⟨_, rfl, .rfl⟩, ⟨_, rfl, .rfl⟩, ⟨_, rfl, .rfl⟩, trivial⟩ trivial rfl
 refine gF 24 rfl hd rfl ?_
 replace hd := (ne_of_beq_false hd)
 replace h := h.2 hd
 refine gR 6 rfl ?_
 exact gJ (h K hK) [] [] rfl hK ⟨⟨_, rfl, .rfl⟩, ⟨_, rfl, .rfl⟩, ⟨_, rfl, .rfl⟩, ⟨_, rfl, .rfl⟩, ⟨_, rfl, .rfl⟩, ⟨_, rfl, .rfl⟩, ⟨_, rfl, .rfl⟩, trivial⟩ trivial rfl
theorem kP (m : Nat) (p1 : Int) (i1v1 : Nat) (i1v2 : Nat) (i1v3 : Nat) (z1v4 : Int) (r0 : Int) (h : ((0 ≤ z1v4) → ((z1v4 < p1) → (-1) = r0) ∧ ((¬ z1v4 < p1) → d4 m p1 i1v1 i1v2 i1v3 z1v4 r0)) ∧ ((¬ 0 ≤ z1v4) → d4 m p1 i1v1 i1v2 i1v3 z1v4 r0)) : am (m + 1) p1 i1v1 i1v2 i1v3 z1v4 r0 := by
 intro K hK
 refine gR 6 rfl ?_
 refine gB 47 rfl rfl rfl (fun hd => ?_) (fun hd => ?_)
 refine gT 46 rfl hd rfl ?_
 replace hd := (of_decide_eq_true hd)
 replace h := h.1 hd
 refine gR 6 rfl ?_
 refine gB 51 rfl rfl rfl (fun hd => ?_) (fun hd => ?_)
 replace hd := (of_decide_eq_true hd)
 replace h := h.1 hd
 refine gR 8 rfl ?_
 subst h
 refine ab (F' := (mkF 69 0 [(4, .int .i64 (-1))])) (H' := ⟨0, []⟩) [] [] rfl hK ⟨⟨_, rfl, .rfl⟩, trivial⟩ trivial rfl ?_
 exact ac aa (rs := [.tmp 4]) rfl rfl rfl
 replace hd := (of_decide_eq_false hd)
 replace h := h.2 hd
 refine gR 3 rfl ?_
 exact gJ (h K hK) [] [] rfl hK ⟨⟨_, rfl, .rfl⟩, ⟨_, rfl, .rfl⟩, ⟨_, rfl, .rfl⟩, ⟨_, rfl, .rfl⟩, ⟨_, rfl, .rfl⟩, trivial⟩ trivial rfl
 refine gF 46 rfl hd rfl ?_
 replace hd := (of_decide_eq_false hd)
 replace h := h.2 hd
 refine gR 9 rfl ?_
 exact gJ (h K hK) [] [] rfl hK ⟨⟨_, rfl, .rfl⟩, ⟨_, rfl, .rfl⟩, ⟨_, rfl, .rfl⟩, ⟨_, rfl, .rfl⟩, ⟨_, rfl, .rfl⟩, trivial⟩ trivial rfl
theorem kS (m : Nat) (p0 : Int) (p1 : Int) (b2v1 : Bool) (r0 : Int) (h : ((b2v1 = true) → am m p1 1 2 0 1 r0) ∧ ((b2v1 = false) → ((p0 = 17) → am m p1 1 0 0 1 r0) ∧ ((p0 ≠ 17) → ((p0 = 19) → am m p1 3 3 0 3 r0) ∧ ((p0 ≠ 19) → ((p0 = 20) → am m p1 2 4 0 2 r0) ∧ ((p0 ≠ 20) → ((p0 = 21) → am m p1 2 1 0 2 r0) ∧ ((p0 ≠ 21) → ((p0 = 5) → am m p1 0 1 0 0 r0) ∧ ((p0 ≠ 5) → ((p0 = 6) → am m p1 0 1 0 0 r0) ∧ ((p0 ≠ 6) → ((p0 = 7) → am m p1 0 1 0 0 r0) ∧ ((p0 ≠ 7) → ((p0 = 9) → am m p1 0 1 0 0 r0) ∧ ((p0 ≠ 9) → ((p0 = 10) → am m p1 0 1 0 0 r0) ∧ ((p0 ≠ 10) → ((p0 = 11) → am m p1 0 1 0 0 r0) ∧ ((p0 ≠ 11) → ((p0 = 12) → am m p1 0 1 0 0 r0) ∧ ((p0 ≠ 12) → ((p0 = 13) → am m p1 0 1 0 0 r0) ∧ ((p0 ≠ 13) → ((p0 = 14) → am m p1 0 1 0 0 r0) ∧ ((p0 ≠ 14) → ((p0 = 15) → am m p1 0 1 0 0 r0) ∧ ((p0 ≠ 15) → (-1) = r0)))))))))))))))) : d3 (m + 1) p0 p1 b2v1 r0 := by
 intro K hK
 refine gB 22 rfl rfl rfl (fun hd => ?_) (fun hd => ?_)
 replace h := h.1 hd
 refine gR 8 rfl ?_
 exact gJ (h K hK) [] [] rfl hK ⟨⟨_, rfl, .rfl⟩, ⟨_, rfl, .rfl⟩, ⟨_, rfl, .rfl⟩, ⟨_, rfl, .rfl⟩, ⟨_, rfl, .rfl⟩, trivial⟩ trivial rfl
 replace h := h.2 hd
 refine gR 7 rfl ?_
 refine gB 26 rfl rfl rfl (fun hd => ?_) (fun hd => ?_)
 refine gT 27 rfl hd rfl ?_
 replace hd := (eq_of_beq hd)
 replace h := h.1 hd
 refine gR 8 rfl ?_
 exact gJ (h K hK) [] [] rfl hK ⟨⟨_, rfl, .rfl⟩, ⟨_, rfl, .rfl⟩, ⟨_, rfl, .rfl⟩, ⟨_, rfl, .rfl⟩, ⟨_, rfl, .rfl⟩, trivial⟩ trivial rfl
 refine gF 27 rfl hd rfl ?_
 replace hd := (ne_of_beq_false hd)
 replace h := h.2 hd
 refine gR 7 rfl ?_
 refine gB 28 rfl rfl rfl (fun hd => ?_) (fun hd => ?_)
 refine gT 29 rfl hd rfl ?_
 replace hd := (eq_of_beq hd)
 replace h := h.1 hd
 refine gR 8 rfl ?_
 exact gJ (h K hK) [] [] rfl hK ⟨⟨_, rfl, .rfl⟩, ⟨_, rfl, .rfl⟩, ⟨_, rfl, .rfl⟩, ⟨_, rfl, .rfl⟩, ⟨_, rfl, .rfl⟩, trivial⟩ trivial rfl
 refine gF 29 rfl hd rfl ?_
 replace hd := (ne_of_beq_false hd)
 replace h := h.2 hd
 refine gR 7 rfl ?_
 refine gB 30 rfl rfl rfl (fun hd => ?_) (fun hd => ?_)
 refine gT 31 rfl hd rfl ?_
 replace hd := (eq_of_beq hd)
 replace h := h.1 hd
 refine gR 8 rfl ?_
 exact gJ (h K hK) [] [] rfl hK ⟨⟨_, rfl, .rfl⟩, ⟨_, rfl, .rfl⟩, ⟨_, rfl, .rfl⟩, ⟨_, rfl, .rfl⟩, ⟨_, rfl, .rfl⟩, trivial⟩ trivial rfl
 refine gF 31 rfl hd rfl ?_
 replace hd := (ne_of_beq_false hd)
 replace h := h.2 hd
 refine gR 7 rfl ?_
 refine gB 32 rfl rfl rfl (fun hd => ?_) (fun hd => ?_)
 refine gT 33 rfl hd rfl ?_
 replace hd := (eq_of_beq hd)
 replace h := h.1 hd
 refine gR 8 rfl ?_
 exact gJ (h K hK) [] [] rfl hK ⟨⟨_, rfl, .rfl⟩, ⟨_, rfl, .rfl⟩, ⟨_, rfl, .rfl⟩, ⟨_, rfl, .rfl⟩, ⟨_, rfl, .rfl⟩, trivial⟩ trivial rfl
 refine gF 33 rfl hd rfl ?_
 replace hd := (ne_of_beq_false hd)
 replace h := h.2 hd
 refine gR 8 rfl ?_
 refine gB 34 rfl rfl rfl (fun hd => ?_) (fun hd => ?_)
 refine gT 35 rfl hd rfl ?_
 replace hd := (eq_of_beq hd)
 replace h := h.1 hd
 refine gR 7 rfl ?_
 exact gJ (h K hK) [] [] rfl hK ⟨⟨_, rfl, .rfl⟩, ⟨_, rfl, .rfl⟩, ⟨_, rfl, .rfl⟩, ⟨_, rfl, .rfl⟩, ⟨_, rfl, .rfl⟩, trivial⟩ trivial rfl
 refine gF 35 rfl hd rfl ?_
 replace hd := (ne_of_beq_false hd)
 replace h := h.2 hd
 refine gR 7 rfl ?_
 refine gB 34 rfl rfl rfl (fun hd => ?_) (fun hd => ?_)
 refine gT 36 rfl hd rfl ?_
 replace hd := (eq_of_beq hd)
 replace h := h.1 hd
 refine gR 7 rfl ?_
 exact gJ (h K hK) [] [] rfl hK ⟨⟨_, rfl, .rfl⟩, ⟨_, rfl, .rfl⟩, ⟨_, rfl, .rfl⟩, ⟨_, rfl, .rfl⟩, ⟨_, rfl, .rfl⟩, trivial⟩ trivial rfl
 refine gF 36 rfl hd rfl ?_
 replace hd := (ne_of_beq_false hd)
 replace h := h.2 hd
 refine gR 7 rfl ?_
 refine gB 34 rfl rfl rfl (fun hd => ?_) (fun hd => ?_)
 refine gT 37 rfl hd rfl ?_
 replace hd := (eq_of_beq hd)
 replace h := h.1 hd
 refine gR 7 rfl ?_
 exact gJ (h K hK) [] [] rfl hK ⟨⟨_, rfl, .rfl⟩, ⟨_, rfl, .rfl⟩, ⟨_, rfl, .rfl⟩, ⟨_, rfl, .rfl⟩, ⟨_, rfl, .rfl⟩, trivial⟩ trivial rfl
 refine gF 37 rfl hd rfl ?_
 replace hd := (ne_of_beq_false hd)
 replace h := h.2 hd
 refine gR 7 rfl ?_
 refine gB 34 rfl rfl rfl (fun hd => ?_) (fun hd => ?_)
 refine gT 38 rfl hd rfl ?_
 replace hd := (eq_of_beq hd)
 replace h := h.1 hd
 refine gR 7 rfl ?_
 exact gJ (h K hK) [] [] rfl hK ⟨⟨_, rfl, .rfl⟩, ⟨_, rfl, .rfl⟩, ⟨_, rfl, .rfl⟩, ⟨_, rfl, .rfl⟩, ⟨_, rfl, .rfl⟩, trivial⟩ trivial rfl
 refine gF 38 rfl hd rfl ?_
 replace hd := (ne_of_beq_false hd)
 replace h := h.2 hd
 refine gR 7 rfl ?_
 refine gB 34 rfl rfl rfl (fun hd => ?_) (fun hd => ?_)
 refine gT 39 rfl hd rfl ?_
 replace hd := (eq_of_beq hd)
 replace h := h.1 hd
 refine gR 7 rfl ?_
 exact gJ (h K hK) [] [] rfl hK ⟨⟨_, rfl, .rfl⟩, ⟨_, rfl, .rfl⟩, ⟨_, rfl, .rfl⟩, ⟨_, rfl, .rfl⟩, ⟨_, rfl, .rfl⟩, trivial⟩ trivial rfl
 refine gF 39 rfl hd rfl ?_
 replace hd := (ne_of_beq_false hd)
 replace h := h.2 hd
 refine gR 7 rfl ?_
 refine gB 34 rfl rfl rfl (fun hd => ?_) (fun hd => ?_)
 refine gT 40 rfl hd rfl ?_
 replace hd := (eq_of_beq hd)
 replace h := h.1 hd
 refine gR 7 rfl ?_
 exact gJ (h K hK) [] [] rfl hK ⟨⟨_, rfl, .rfl⟩, ⟨_, rfl, .rfl⟩, ⟨_, rfl, .rfl⟩, ⟨_, rfl, .rfl⟩, ⟨_, rfl, .rfl⟩, trivial⟩ trivial rfl
 refine gF 40 rfl hd rfl ?_
 replace hd := (ne_of_beq_false hd)
 replace h := h.2 hd
 refine gR 7 rfl ?_
 refine gB 34 rfl rfl rfl (fun hd => ?_) (fun hd => ?_)
 refine gT 41 rfl hd rfl ?_
 replace hd := (eq_of_beq hd)
 replace h := h.1 hd
 refine gR 7 rfl ?_
 exact gJ (h K hK) [] [] rfl hK ⟨⟨_, rfl, .rfl⟩, ⟨_, rfl, .rfl⟩, ⟨_, rfl, .rfl⟩, ⟨_, rfl, .rfl⟩, ⟨_, rfl, .rfl⟩, trivial⟩ trivial rfl
 refine gF 41 rfl hd rfl ?_
 replace hd := (ne_of_beq_false hd)
 replace h := h.2 hd
 refine gR 7 rfl ?_
 refine gB 34 rfl rfl rfl (fun hd => ?_) (fun hd => ?_)
 refine gT 42 rfl hd rfl ?_
 replace hd := (eq_of_beq hd)
 replace h := h.1 hd
 refine gR 7 rfl ?_
 exact gJ (h K hK) [] [] rfl hK ⟨⟨_, rfl, .rfl⟩, ⟨_, rfl, .rfl⟩, ⟨_, rfl, .rfl⟩, ⟨_, rfl, .rfl⟩, ⟨_, rfl, .rfl⟩, trivial⟩ trivial rfl
 refine gF 42 rfl hd rfl ?_
 replace hd := (ne_of_beq_false hd)
 replace h := h.2 hd
 refine gR 7 rfl ?_
 refine gB 34 rfl rfl rfl (fun hd => ?_) (fun hd => ?_)
 refine gT 43 rfl hd rfl ?_
 replace hd := (eq_of_beq hd)
 replace h := h.1 hd
 refine gR 7 rfl ?_
 exact gJ (h K hK) [] [] rfl hK ⟨⟨_, rfl, .rfl⟩, ⟨_, rfl, .rfl⟩, ⟨_, rfl, .rfl⟩, ⟨_, rfl, .rfl⟩, ⟨_, rfl, .rfl⟩, trivial⟩ trivial rfl
 refine gF 43 rfl hd rfl ?_
 replace hd := (ne_of_beq_false hd)
 replace h := h.2 hd
 refine gR 6 rfl ?_
 refine gB 34 rfl rfl rfl (fun hd => ?_) (fun hd => ?_)
 refine gT 44 rfl hd rfl ?_
 replace hd := (eq_of_beq hd)
 replace h := h.1 hd
 refine gR 4 rfl ?_
 exact gJ (h K hK) [] [] rfl hK ⟨⟨_, rfl, .rfl⟩, ⟨_, rfl, .rfl⟩, ⟨_, rfl, .rfl⟩, ⟨_, rfl, .rfl⟩, ⟨_, rfl, .rfl⟩, trivial⟩ trivial rfl
 refine gF 44 rfl hd rfl ?_
 replace hd := (ne_of_beq_false hd)
 replace h := h.2 hd
 refine gR 9 rfl ?_
 subst h
 refine ab (F' := (mkF 69 0 [(4, .int .i64 (-1))])) (H' := ⟨0, []⟩) [] [] rfl hK ⟨⟨_, rfl, .rfl⟩, trivial⟩ trivial rfl ?_
 exact ac aa (rs := [.tmp 4]) rfl rfl rfl
theorem kO (m : Nat) (p1 : Int) (i1v1 : Nat) (i1v2 : Nat) (i1v3 : Nat) (z1v4 : Int) (r0 : Int) (h : ((z1v4 < 0) → ((((i1v3 : Nat) : Int) < p1) → InI (p1 - ((i1v3 : Nat) : Int)) ∧ InI ((p1 - ((i1v3 : Nat) : Int)) - 1) ∧ InI (((i1v2 : Nat) : Int) + ((p1 - ((i1v3 : Nat) : Int)) - 1)) ∧ ∃ (n3_1 : Int), bY p1 ((i1v1 : Nat) : Int) (((i1v2 : Nat) : Int) + ((p1 - ((i1v3 : Nat) : Int)) - 1)) n3_1 ∧ n3_1 = r0) ∧ ((¬ ((i1v3 : Nat) : Int) < p1) → ∃ (n3_2 : Int), bY p1 ((i1v1 : Nat) : Int) ((i1v2 : Nat) : Int) n3_2 ∧ n3_2 = r0)) ∧ ((¬ z1v4 < 0) → ∃ (n3_3 : Int), bY p1 ((i1v1 : Nat) : Int) ((i1v2 : Nat) : Int) n3_3 ∧ n3_3 = r0)) : d4 (m + 1) p1 i1v1 i1v2 i1v3 z1v4 r0 := by
 intro K hK
 refine gR 6 rfl ?_
 refine gB 54 rfl rfl rfl (fun hd => ?_) (fun hd => ?_)
 refine gT 53 rfl hd rfl ?_
 replace hd := (of_decide_eq_true hd)
 replace h := h.1 hd
 refine gR 6 rfl ?_
 refine gB 58 rfl rfl rfl (fun hd => ?_) (fun hd => ?_)
 replace hd := (of_decide_eq_true hd)
 replace h := h.1 hd
 refine gR 5 rfl ?_
 obtain ⟨hb, h⟩ := h
 refine gR 1 rfl ?_
 refine gV 62 (.int .i64 (p1 - ((i1v3 : Nat) : Int))) rfl (ar hb rfl) rfl ?_
 obtain ⟨hb, h⟩ := h
 refine gR 1 rfl ?_
 refine gV 63 (.int .i64 ((p1 - ((i1v3 : Nat) : Int)) - 1)) rfl (ar hb rfl) rfl ?_
 obtain ⟨hb, h⟩ := h
 refine gR 1 rfl ?_
 refine gV 64 (.int .i64 (((i1v2 : Nat) : Int) + ((p1 - ((i1v3 : Nat) : Int)) - 1))) rfl (ar hb rfl) rfl ?_
 refine gR 8 rfl ?_
 obtain ⟨n3_1, hs18, h⟩ := h
 refine gC0 hs18 (by kernel_rfl) rfl rfl .rfl rfl ?_
 refine gR 4 rfl ?_
 subst h
 refine ab (F' := (mkF 69 0 [(4, .int .i64 n3_1)])) (H' := ⟨0, []⟩) [] [] rfl hK ⟨⟨_, rfl, .rfl⟩, trivial⟩ trivial rfl ?_
 exact ac aa (rs := [.tmp 4]) rfl rfl rfl
 replace hd := (of_decide_eq_false hd)
 replace h := h.2 hd
 refine gR 8 rfl ?_
 obtain ⟨n3_2, hs19, h⟩ := h
 refine gC0 hs19 (by kernel_rfl) rfl rfl .rfl rfl ?_
 refine gR 4 rfl ?_
 subst h
 refine ab (F' := (mkF 69 0 [(4, .int .i64 n3_2)])) (H' := ⟨0, []⟩) [] [] rfl hK ⟨⟨_, rfl, .rfl⟩, trivial⟩ trivial rfl ?_
 exact ac aa (rs := [.tmp 4]) rfl rfl rfl
 refine gF 53 rfl hd rfl ?_
 replace hd := (of_decide_eq_false hd)
 replace h := h.2 hd
 refine gR 14 rfl ?_
 obtain ⟨n3_3, hs20, h⟩ := h
 refine gC0 hs20 (by kernel_rfl) rfl rfl .rfl rfl ?_
 refine gR 4 rfl ?_
 subst h
 refine ab (F' := (mkF 69 0 [(4, .int .i64 n3_3)])) (H' := ⟨0, []⟩) [] [] rfl hK ⟨⟨_, rfl, .rfl⟩, trivial⟩ trivial rfl ?_
 exact ac aa (rs := [.tmp 4]) rfl rfl rfl
theorem kf (m : Nat) (p0 : Int) (p1 : Int) (p2 : Int) (r0 : Int) (h : ((p0 < p1) → (-1) = r0) ∧ ((¬ p0 < p1) → p2 = r0)) : bY p0 p1 p2 r0 := by
 refine ⟨rfl, rfl, ?_⟩
 refine aj 11 [] Try.func68 rfl rfl rfl (aA rfl) fun K hK => ?_
 refine gR 13 rfl ?_
 refine gB 9 rfl rfl rfl (fun hd => ?_) (fun hd => ?_)
 replace hd := (of_decide_eq_true hd)
 replace h := h.1 hd
 refine gR 8 rfl ?_
 subst h
 refine ab (F' := (mkF 11 0 [(6, .int .i64 (-1))])) (H' := ⟨0, []⟩) [] [] rfl hK ⟨⟨_, rfl, .rfl⟩, trivial⟩ trivial rfl ?_
 exact ac aa (rs := [.tmp 6]) rfl rfl rfl
 replace hd := (of_decide_eq_false hd)
 replace h := h.2 hd
 refine gR 10 rfl ?_
 subst h
 refine ab (F' := (mkF 11 0 [(6, .int .i64 p2)])) (H' := ⟨0, []⟩) [] [] rfl hK ⟨⟨_, rfl, .rfl⟩, trivial⟩ trivial rfl ?_
 exact ac aa (rs := [.tmp 6]) rfl rfl rfl
theorem kw (m : Nat) (p0 : Int) (r0 : Bool) (h : ((5 ≤ p0) → decide (p0 ≤ 9) = r0) ∧ ((¬ 5 ≤ p0) → false = r0)) : dZ p0 r0 := by
 refine ⟨rfl, rfl, ?_⟩
 refine aj 9 [] Try.func72 rfl rfl rfl (aA rfl) fun K hK => ?_
 refine gR 10 rfl ?_
 refine gB 5 rfl rfl rfl (fun hd => ?_) (fun hd => ?_)
 refine gT 4 rfl hd rfl ?_
 replace hd := (of_decide_eq_true hd)
 replace h := h.1 hd
 refine gR 7 rfl ?_
 subst h
 refine ab (F' := (mkF 9 0 [(2, .bool (decide (p0 ≤ 9)))])) (H' := ⟨0, []⟩) [] [] rfl hK ⟨⟨_, rfl, .rfl⟩, trivial⟩ trivial rfl ?_
 exact ac aa (rs := [.tmp 2]) rfl rfl rfl
 refine gF 4 rfl hd rfl ?_
 replace hd := (of_decide_eq_false hd)
 replace h := h.2 hd
 refine gR 7 rfl ?_
 subst h
 refine ab (F' := (mkF 9 0 [(2, .bool false)])) (H' := ⟨0, []⟩) [] [] rfl hK ⟨⟨_, rfl, .rfl⟩, trivial⟩ trivial rfl ?_
 exact ac aa (rs := [.tmp 2]) rfl rfl rfl
theorem ix (m : Nat) (p0 : Int) (r0 : Bool) (h : ((10 ≤ p0) → ((p0 ≤ 22) → (p0 != 17) = r0) ∧ ((¬ p0 ≤ 22) → false = r0)) ∧ ((¬ 10 ≤ p0) → false = r0)) : bD p0 r0 := by
 refine ⟨rfl, rfl, ?_⟩
 refine aj 13 [] Try.func71 rfl rfl rfl (aA rfl) fun K hK => ?_
 refine gR 10 rfl ?_
 refine gB 5 rfl rfl rfl (fun hd => ?_) (fun hd => ?_)
 refine gT 4 rfl hd rfl ?_
 replace hd := (of_decide_eq_true hd)
 replace h := h.1 hd
 refine gR 4 rfl ?_
 refine gB 9 rfl rfl rfl (fun hd => ?_) (fun hd => ?_)
 refine gT 8 rfl hd rfl ?_
 replace hd := (of_decide_eq_true hd)
 replace h := h.1 hd
 refine gR 7 rfl ?_
 subst h
 refine ab (F' := (mkF 13 0 [(2, .bool (p0 != 17))])) (H' := ⟨0, []⟩) [] [] rfl hK ⟨⟨_, rfl, .rfl⟩, trivial⟩ trivial rfl ?_
 exact ac aa (rs := [.tmp 2]) rfl rfl rfl
 refine gF 8 rfl hd rfl ?_
 replace hd := (of_decide_eq_false hd)
 replace h := h.2 hd
 refine gR 7 rfl ?_
 subst h
 refine ab (F' := (mkF 13 0 [(2, .bool false)])) (H' := ⟨0, []⟩) [] [] rfl hK ⟨⟨_, rfl, .rfl⟩, trivial⟩ trivial rfl ?_
 exact ac aa (rs := [.tmp 2]) rfl rfl rfl
 refine gF 4 rfl hd rfl ?_
 replace hd := (of_decide_eq_false hd)
 replace h := h.2 hd
 refine gR 11 rfl ?_
 subst h
 refine ab (F' := (mkF 13 0 [(2, .bool false)])) (H' := ⟨0, []⟩) [] [] rfl hK ⟨⟨_, rfl, .rfl⟩, trivial⟩ trivial rfl ?_
 exact ac aa (rs := [.tmp 2]) rfl rfl rfl
theorem kt (m : Nat) (p0 : Int) (r0 : Bool) (h : ∃ (b0_1 : Bool), bD p0 b0_1 ∧ ((b0_1 = true) → ((p0 ≠ 19) → ((p0 ≠ 20) → (p0 != 21) = r0) ∧ ((p0 = 20) → false = r0)) ∧ ((p0 = 19) → false = r0)) ∧ ((b0_1 = false) → false = r0)) : fM p0 r0 := by
 refine ⟨rfl, rfl, ?_⟩
 refine aj 17 [] Try.func73 rfl rfl rfl (aA rfl) fun K hK => ?_
 refine gR 8 rfl ?_
 obtain ⟨b0_1, hs2, h⟩ := h
 refine gC0 hs2 (by kernel_rfl) rfl rfl .rfl rfl ?_
 refine gR 1 rfl ?_
 refine gB 5 rfl rfl rfl (fun hd => ?_) (fun hd => ?_)
 refine gT 4 rfl hd rfl ?_
 replace h := h.1 hd
 refine gR 4 rfl ?_
 refine gB 9 rfl rfl rfl (fun hd => ?_) (fun hd => ?_)
 refine gT 8 rfl hd rfl ?_
 replace hd := (gn hd)
 replace h := h.1 hd
 refine gR 4 rfl ?_
 refine gB 13 rfl rfl rfl (fun hd => ?_) (fun hd => ?_)
 refine gT 12 rfl hd rfl ?_
 replace hd := (gn hd)
 replace h := h.1 hd
 refine gR 7 rfl ?_
 subst h
 refine ab (F' := (mkF 17 0 [(2, .bool (p0 != 21))])) (H' := ⟨0, []⟩) [] [] rfl hK ⟨⟨_, rfl, .rfl⟩, trivial⟩ trivial rfl ?_
 exact ac aa (rs := [.tmp 2]) rfl rfl rfl
 refine gF 12 rfl hd rfl ?_
 replace hd := (eZ hd)
 replace h := h.2 hd
 refine gR 7 rfl ?_
 subst h
 refine ab (F' := (mkF 17 0 [(2, .bool false)])) (H' := ⟨0, []⟩) [] [] rfl hK ⟨⟨_, rfl, .rfl⟩, trivial⟩ trivial rfl ?_
 exact ac aa (rs := [.tmp 2]) rfl rfl rfl
 refine gF 8 rfl hd rfl ?_
 replace hd := (eZ hd)
 replace h := h.2 hd
 refine gR 11 rfl ?_
 subst h
 refine ab (F' := (mkF 17 0 [(2, .bool false)])) (H' := ⟨0, []⟩) [] [] rfl hK ⟨⟨_, rfl, .rfl⟩, trivial⟩ trivial rfl ?_
 exact ac aa (rs := [.tmp 2]) rfl rfl rfl
 refine gF 4 rfl hd rfl ?_
 replace h := h.2 hd
 refine gR 15 rfl ?_
 subst h
 refine ab (F' := (mkF 17 0 [(2, .bool false)])) (H' := ⟨0, []⟩) [] [] rfl hK ⟨⟨_, rfl, .rfl⟩, trivial⟩ trivial rfl ?_
 exact ac aa (rs := [.tmp 2]) rfl rfl rfl
theorem jQ (m : Nat) (p0 : (List UInt8)) (r0 : Bool) (h : ((p0 = [43]) → true = r0) ∧ ((p0 ≠ [43]) → ((p0 = [45]) → true = r0) ∧ ((p0 ≠ [45]) → ((p0 = [42]) → true = r0) ∧ ((p0 ≠ [42]) → ((p0 = [60]) → true = r0) ∧ ((p0 ≠ [60]) → ((p0 = [61, 61]) → true = r0) ∧ ((p0 ≠ [61, 61]) → false = r0)))))) : eK p0 r0 := by
 refine ⟨rfl, rfl, ?_⟩
 refine aj 10 [] Try.func70 rfl rfl rfl (aA rfl) fun K hK => ?_
 refine gR 19 rfl ?_
 refine gB 4 rfl rfl rfl (fun hd => ?_) (fun hd => ?_)
 refine gT 5 rfl hd rfl ?_
 replace hd := (eq_of_beq hd)
 replace h := h.1 hd
 refine gR 12 rfl ?_
 subst h
 refine ab (F' := (mkF 10 0 [(2, .bool true)])) (H' := ⟨0, []⟩) [] [] rfl hK ⟨⟨_, rfl, .rfl⟩, trivial⟩ trivial rfl ?_
 exact ac aa (rs := [.tmp 2]) rfl rfl rfl
 refine gF 5 rfl hd rfl ?_
 replace hd := (ne_of_beq_false hd)
 replace h := h.2 hd
 refine gR 7 rfl ?_
 refine gB 4 rfl rfl rfl (fun hd => ?_) (fun hd => ?_)
 refine gT 6 rfl hd rfl ?_
 replace hd := (eq_of_beq hd)
 replace h := h.1 hd
 refine gR 12 rfl ?_
 subst h
 refine ab (F' := (mkF 10 0 [(2, .bool true)])) (H' := ⟨0, []⟩) [] [] rfl hK ⟨⟨_, rfl, .rfl⟩, trivial⟩ trivial rfl ?_
 exact ac aa (rs := [.tmp 2]) rfl rfl rfl
 refine gF 6 rfl hd rfl ?_
 replace hd := (ne_of_beq_false hd)
 replace h := h.2 hd
 refine gR 7 rfl ?_
 refine gB 4 rfl rfl rfl (fun hd => ?_) (fun hd => ?_)
 refine gT 7 rfl hd rfl ?_
 replace hd := (eq_of_beq hd)
 replace h := h.1 hd
 refine gR 12 rfl ?_
 subst h
 refine ab (F' := (mkF 10 0 [(2, .bool true)])) (H' := ⟨0, []⟩) [] [] rfl hK ⟨⟨_, rfl, .rfl⟩, trivial⟩ trivial rfl ?_
 exact ac aa (rs := [.tmp 2]) rfl rfl rfl
 refine gF 7 rfl hd rfl ?_
 replace hd := (ne_of_beq_false hd)
 replace h := h.2 hd
 refine gR 7 rfl ?_
 refine gB 4 rfl rfl rfl (fun hd => ?_) (fun hd => ?_)
 refine gT 8 rfl hd rfl ?_
 replace hd := (eq_of_beq hd)
 replace h := h.1 hd
 refine gR 12 rfl ?_
 subst h
 refine ab (F' := (mkF 10 0 [(2, .bool true)])) (H' := ⟨0, []⟩) [] [] rfl hK ⟨⟨_, rfl, .rfl⟩, trivial⟩ trivial rfl ?_
 exact ac aa (rs := [.tmp 2]) rfl rfl rfl
 refine gF 8 rfl hd rfl ?_
 replace hd := (ne_of_beq_false hd)
 replace h := h.2 hd
 refine gR 6 rfl ?_
 refine gB 4 rfl rfl rfl (fun hd => ?_) (fun hd => ?_)
 refine gT 9 rfl hd rfl ?_
 replace hd := (eq_of_beq hd)
 replace h := h.1 hd
 refine gR 9 rfl ?_
 subst h
 refine ab (F' := (mkF 10 0 [(2, .bool true)])) (H' := ⟨0, []⟩) [] [] rfl hK ⟨⟨_, rfl, .rfl⟩, trivial⟩ trivial rfl ?_
 exact ac aa (rs := [.tmp 2]) rfl rfl rfl
 refine gF 9 rfl hd rfl ?_
 replace hd := (ne_of_beq_false hd)
 replace h := h.2 hd
 refine gR 10 rfl ?_
 subst h
 refine ab (F' := (mkF 10 0 [(2, .bool false)])) (H' := ⟨0, []⟩) [] [] rfl hK ⟨⟨_, rfl, .rfl⟩, trivial⟩ trivial rfl ?_
 exact ac aa (rs := [.tmp 2]) rfl rfl rfl
def e6 (m : Nat) (p0 : Int) (p1 : (List UInt8)) (n0_1 : Int) (b1v1 : Bool) (r0 : Bool) : Prop := ∀ (K : Ctx), aQ K [] → Go Try.prog K (bodyPost Try.prog Try.f51 (SP K (fun u _ => u = .bool r0))) (.code (cB (cK (cB (cA (cB (cB (ah Try.f51)))))))) [.blk 0, .seq (cB (cB (cB (ah Try.f51))))] 51 (mkF 51 0 [(1, .str p1), (5, .int .i64 n0_1), (8, .int .i64 p0), (9, .bool b1v1)]) ⟨0, []⟩
def cP (m : Nat) (p0 : Int) (p1 : (List UInt8)) (n0_1 : Int) (b2v1 : Bool) (r0 : Bool) : Prop := ∀ (K : Ctx), aQ K [] → Go Try.prog K (bodyPost Try.prog Try.f51 (SP K (fun u _ => u = .bool r0))) (.code (cB (cE (cB (cK (cB (cA (cB (cB (ah Try.f51)))))))))) [.blk 0, .seq (cB (cB (cB (ah Try.f51))))] 51 (mkF 51 0 [(1, .str p1), (5, .int .i64 n0_1), (8, .int .i64 p0), (14, .bool b2v1)]) ⟨0, []⟩
theorem kW (m : Nat) (p0 : Int) (p1 : (List UInt8)) (r0 : Bool) (h : ∃ (n0_1 : Int), od p1 n0_1 ∧ ((p0 = 1) → e6 m p0 p1 n0_1 true r0) ∧ ((p0 ≠ 1) → e6 m p0 p1 n0_1 (p0 == 3) r0)) : fC p0 p1 r0 := by
 refine ⟨rfl, rfl, ?_⟩
 refine aj 51 [] Try.func51 rfl rfl rfl (aA rfl) fun K hK => ?_
 refine gR 8 rfl ?_
 obtain ⟨n0_1, hs7, h⟩ := h
 refine gC0 hs7 (by kernel_rfl) rfl rfl .rfl rfl ?_
 refine gR 17 rfl ?_
 refine gB 9 rfl rfl rfl (fun hd => ?_) (fun hd => ?_)
 refine gT 10 rfl hd rfl ?_
 replace hd := (eq_of_beq hd)
 replace h := h.1 hd
 refine gR 3 rfl ?_
 exact gJ (h K hK) [] [] rfl hK ⟨⟨_, rfl, .rfl⟩, ⟨_, rfl, .rfl⟩, ⟨_, rfl, .rfl⟩, ⟨_, rfl, .rfl⟩, trivial⟩ trivial rfl
 refine gF 10 rfl hd rfl ?_
 replace hd := (ne_of_beq_false hd)
 replace h := h.2 hd
 refine gR 6 rfl ?_
 exact gJ (h K hK) [] [] rfl hK ⟨⟨_, rfl, .rfl⟩, ⟨_, rfl, .rfl⟩, ⟨_, rfl, .rfl⟩, ⟨_, rfl, .rfl⟩, trivial⟩ trivial rfl
theorem kb (m : Nat) (p0 : Int) (p1 : (List UInt8)) (n0_1 : Int) (b1v1 : Bool) (r0 : Bool) (h : ((b1v1 = true) → (n0_1 == 2) = r0) ∧ ((b1v1 = false) → ((p0 = 2) → cP m p0 p1 n0_1 true r0) ∧ ((p0 ≠ 2) → ((p0 = 4) → cP m p0 p1 n0_1 true r0) ∧ ((p0 ≠ 4) → ((p0 = 12) → cP m p0 p1 n0_1 true r0) ∧ ((p0 ≠ 12) → cP m p0 p1 n0_1 (p0 == 20) r0))))) : e6 (m + 1) p0 p1 n0_1 b1v1 r0 := by
 intro K hK
 refine gB 9 rfl rfl rfl (fun hd => ?_) (fun hd => ?_)
 replace h := h.1 hd
 refine gR 11 rfl ?_
 subst h
 refine ab (F' := (mkF 51 0 [(4, .bool (n0_1 == 2))])) (H' := ⟨0, []⟩) [] [] rfl hK ⟨⟨_, rfl, .rfl⟩, trivial⟩ trivial rfl ?_
 exact ac aa (rs := [.tmp 4]) rfl rfl rfl
 replace h := h.2 hd
 refine gR 8 rfl ?_
 refine gB 14 rfl rfl rfl (fun hd => ?_) (fun hd => ?_)
 refine gT 15 rfl hd rfl ?_
 replace hd := (eq_of_beq hd)
 replace h := h.1 hd
 refine gR 3 rfl ?_
 exact gJ (h K hK) [] [] rfl hK ⟨⟨_, rfl, .rfl⟩, ⟨_, rfl, .rfl⟩, ⟨_, rfl, .rfl⟩, ⟨_, rfl, .rfl⟩, trivial⟩ trivial rfl
 refine gF 15 rfl hd rfl ?_
 replace hd := (ne_of_beq_false hd)
 replace h := h.2 hd
 refine gR 7 rfl ?_
 refine gB 14 rfl rfl rfl (fun hd => ?_) (fun hd => ?_)
 refine gT 16 rfl hd rfl ?_
 replace hd := (eq_of_beq hd)
 replace h := h.1 hd
 refine gR 3 rfl ?_
 exact gJ (h K hK) [] [] rfl hK ⟨⟨_, rfl, .rfl⟩, ⟨_, rfl, .rfl⟩, ⟨_, rfl, .rfl⟩, ⟨_, rfl, .rfl⟩, trivial⟩ trivial rfl
 refine gF 16 rfl hd rfl ?_
 replace hd := (ne_of_beq_false hd)
 replace h := h.2 hd
 refine gR 7 rfl ?_
 refine gB 14 rfl rfl rfl (fun hd => ?_) (fun hd => ?_)
 refine gT 17 rfl hd rfl ?_
 replace hd := (eq_of_beq hd)
 replace h := h.1 hd
 refine gR 3 rfl ?_
 exact gJ (h K hK) [] [] rfl hK ⟨⟨_, rfl, .rfl⟩, ⟨_, rfl, .rfl⟩, ⟨_, rfl, .rfl⟩, ⟨_, rfl, .rfl⟩, trivial⟩ trivial rfl
 refine gF 17 rfl hd rfl ?_
 replace hd := (ne_of_beq_false hd)
 replace h := h.2 hd
 refine gR 6 rfl ?_
 exact gJ (h K hK) [] [] rfl hK ⟨⟨_, rfl, .rfl⟩, ⟨_, rfl, .rfl⟩, ⟨_, rfl, .rfl⟩, ⟨_, rfl, .rfl⟩, trivial⟩ trivial rfl
theorem kg (m : Nat) (p0 : Int) (p1 : (List UInt8)) (n0_1 : Int) (b2v1 : Bool) (r0 : Bool) (h : ((b2v1 = true) → (n0_1 == 1) = r0) ∧ ((b2v1 = false) → ((p0 = 9) → ((n0_1 = 2) → true = r0) ∧ ((n0_1 ≠ 2) → (n0_1 == 4) = r0)) ∧ ((p0 ≠ 9) → ((p0 = 16) → ((n0_1 = 1) → true = r0) ∧ ((n0_1 ≠ 1) → (n0_1 == 3) = r0)) ∧ ((p0 ≠ 16) → ((p0 = 10) → (n0_1 == 5) = r0) ∧ ((p0 ≠ 10) → ((p0 = 11) → (n0_1 == 6) = r0) ∧ ((p0 ≠ 11) → ((p0 = 21) → ∃ (b2_1 : Bool), eK p1 b2_1 ∧ b2_1 = r0) ∧ ((p0 ≠ 21) → (p1 == []) = r0))))))) : cP (m + 1) p0 p1 n0_1 b2v1 r0 := by
 intro K hK
 refine gB 14 rfl rfl rfl (fun hd => ?_) (fun hd => ?_)
 replace h := h.1 hd
 refine gR 11 rfl ?_
 subst h
 refine ab (F' := (mkF 51 0 [(4, .bool (n0_1 == 1))])) (H' := ⟨0, []⟩) [] [] rfl hK ⟨⟨_, rfl, .rfl⟩, trivial⟩ trivial rfl ?_
 exact ac aa (rs := [.tmp 4]) rfl rfl rfl
 replace h := h.2 hd
 refine gR 7 rfl ?_
 refine gB 21 rfl rfl rfl (fun hd => ?_) (fun hd => ?_)
 refine gT 22 rfl hd rfl ?_
 replace hd := (eq_of_beq hd)
 replace h := h.1 hd
 refine gR 6 rfl ?_
 refine gB 25 rfl rfl rfl (fun hd => ?_) (fun hd => ?_)
 refine gT 24 rfl hd rfl ?_
 replace hd := (eq_of_beq hd)
 replace h := h.1 hd
 refine gR 9 rfl ?_
 subst h
 refine ab (F' := (mkF 51 0 [(4, .bool true)])) (H' := ⟨0, []⟩) [] [] rfl hK ⟨⟨_, rfl, .rfl⟩, trivial⟩ trivial rfl ?_
 exact ac aa (rs := [.tmp 4]) rfl rfl rfl
 refine gF 24 rfl hd rfl ?_
 replace hd := (ne_of_beq_false hd)
 replace h := h.2 hd
 refine gR 9 rfl ?_
 subst h
 refine ab (F' := (mkF 51 0 [(4, .bool (n0_1 == 4))])) (H' := ⟨0, []⟩) [] [] rfl hK ⟨⟨_, rfl, .rfl⟩, trivial⟩ trivial rfl ?_
 exact ac aa (rs := [.tmp 4]) rfl rfl rfl
 refine gF 22 rfl hd rfl ?_
 replace hd := (ne_of_beq_false hd)
 replace h := h.2 hd
 refine gR 7 rfl ?_
 refine gB 29 rfl rfl rfl (fun hd => ?_) (fun hd => ?_)
 refine gT 30 rfl hd rfl ?_
 replace hd := (eq_of_beq hd)
 replace h := h.1 hd
 refine gR 6 rfl ?_
 refine gB 33 rfl rfl rfl (fun hd => ?_) (fun hd => ?_)
 refine gT 32 rfl hd rfl ?_
 replace hd := (eq_of_beq hd)
 replace h := h.1 hd
 refine gR 9 rfl ?_
 subst h
 refine ab (F' := (mkF 51 0 [(4, .bool true)])) (H' := ⟨0, []⟩) [] [] rfl hK ⟨⟨_, rfl, .rfl⟩, trivial⟩ trivial rfl ?_
 exact ac aa (rs := [.tmp 4]) rfl rfl rfl
 refine gF 32 rfl hd rfl ?_
 replace hd := (ne_of_beq_false hd)
 replace h := h.2 hd
 refine gR 9 rfl ?_
 subst h
 refine ab (F' := (mkF 51 0 [(4, .bool (n0_1 == 3))])) (H' := ⟨0, []⟩) [] [] rfl hK ⟨⟨_, rfl, .rfl⟩, trivial⟩ trivial rfl ?_
 exact ac aa (rs := [.tmp 4]) rfl rfl rfl
 refine gF 30 rfl hd rfl ?_
 replace hd := (ne_of_beq_false hd)
 replace h := h.2 hd
 refine gR 7 rfl ?_
 refine gB 37 rfl rfl rfl (fun hd => ?_) (fun hd => ?_)
 refine gT 38 rfl hd rfl ?_
 replace hd := (eq_of_beq hd)
 replace h := h.1 hd
 refine gR 11 rfl ?_
 subst h
 refine ab (F' := (mkF 51 0 [(4, .bool (n0_1 == 5))])) (H' := ⟨0, []⟩) [] [] rfl hK ⟨⟨_, rfl, .rfl⟩, trivial⟩ trivial rfl ?_
 exact ac aa (rs := [.tmp 4]) rfl rfl rfl
 refine gF 38 rfl hd rfl ?_
 replace hd := (ne_of_beq_false hd)
 replace h := h.2 hd
 refine gR 7 rfl ?_
 refine gB 41 rfl rfl rfl (fun hd => ?_) (fun hd => ?_)
 refine gT 42 rfl hd rfl ?_
 replace hd := (eq_of_beq hd)
 replace h := h.1 hd
 refine gR 11 rfl ?_
 subst h
 refine ab (F' := (mkF 51 0 [(4, .bool (n0_1 == 6))])) (H' := ⟨0, []⟩) [] [] rfl hK ⟨⟨_, rfl, .rfl⟩, trivial⟩ trivial rfl ?_
 exact ac aa (rs := [.tmp 4]) rfl rfl rfl
 refine gF 42 rfl hd rfl ?_
 replace hd := (ne_of_beq_false hd)
 replace h := h.2 hd
 refine gR 7 rfl ?_
 refine gB 45 rfl rfl rfl (fun hd => ?_) (fun hd => ?_)
 refine gT 46 rfl hd rfl ?_
 replace hd := (eq_of_beq hd)
 replace h := h.1 hd
 refine gR 4 rfl ?_
 obtain ⟨b2_1, hs8, h⟩ := h
 refine gC0 hs8 (by kernel_rfl) rfl rfl .rfl rfl ?_
 refine gR 6 rfl ?_
 subst h
 refine ab (F' := (mkF 51 0 [(4, .bool b2_1)])) (H' := ⟨0, []⟩) [] [] rfl hK ⟨⟨_, rfl, .rfl⟩, trivial⟩ trivial rfl ?_
 exact ac aa (rs := [.tmp 4]) rfl rfl rfl
 refine gF 46 rfl hd rfl ?_
 replace hd := (ne_of_beq_false hd)
 replace h := h.2 hd
 refine gR 12 rfl ?_
 subst h
 refine ab (F' := (mkF 51 0 [(4, .bool (p1 == []))])) (H' := ⟨0, []⟩) [] [] rfl hK ⟨⟨_, rfl, .rfl⟩, trivial⟩ trivial rfl ?_
 exact ac aa (rs := [.tmp 4]) rfl rfl rfl
def d0 (m : Nat) (p0 : Tree) (p1 : Int) (t0_2 : Tree) (b1v1 : Bool) (r0 : Bool) : Prop := ∀ (K : Ctx), aQ K [] → Go Try.prog K (bodyPost Try.prog Try.f52 (SP K (fun u _ => u = .bool r0))) (.code (cB (cE (cB (cE (cB (cK (cB (cA (cB (cB (ah Try.f52)))))))))))) [.blk 0, .seq (cB (cB (cB (ah Try.f52))))] 67 (mkF 67 0 [(1, .int .i64 p1), (5, .int .i64 t0_2.kind), (13, .int .i64 p0.kind), (43, .bool b1v1)]) ⟨0, []⟩
theorem li (m : Nat) (p0 : Tree) (p1 : Int) (r0 : Bool) (h : ∃ (k0_1 : Nat), p1 = ((k0_1 : Nat) : Int) ∧ ∃ (t0_2 : Tree), p0.kids[k0_1]? = some t0_2 ∧ ((p0.kind = 1) → ((t0_2.kind = 2) → true = r0) ∧ ((t0_2.kind ≠ 2) → (t0_2.kind == 3) = r0)) ∧ ((p0.kind ≠ 1) → ((p0.kind = 2) → ((p1 = (((p0.kids.length : Nat) : Int) - 1)) → ∃ (b0_3 : Bool), bD t0_2.kind b0_3 ∧ b0_3 = r0) ∧ ((p1 ≠ (((p0.kids.length : Nat) : Int) - 1)) → ((p1 = (((p0.kids.length : Nat) : Int) - 2)) → ∃ (b0_4 : Bool), dZ t0_2.kind b0_4 ∧ b0_4 = r0) ∧ ((p1 ≠ (((p0.kids.length : Nat) : Int) - 2)) → (t0_2.kind == 4) = r0))) ∧ ((p0.kind ≠ 2) → ((p0.kind = 3) → d0 m p0 p1 t0_2 true r0) ∧ ((p0.kind ≠ 3) → ((p0.kind = 4) → d0 m p0 p1 t0_2 true r0) ∧ ((p0.kind ≠ 4) → d0 m p0 p1 t0_2 (p0.kind == 8) r0))))) : f6 p0 p1 r0 := by
 refine ⟨rfl, rfl, ?_⟩
 refine aj 67 [] Try.func52 rfl rfl rfl (aA rfl) fun K hK => ?_
 refine gR 3 rfl ?_
 refine gFP 0 rfl rfl rfl rfl ?_
 refine gR 8 rfl ?_
 obtain ⟨k0_1, ek0_1, h⟩ := h
 refine gV 8 (.int .i64 ((k0_1 : Nat) : Int)) rfl (ds ek0_1) rfl ?_
 obtain ⟨t0_2, hxt0_2, h⟩ := h
 refine gY (aM (bb hxt0_2) aa rfl rfl rfl rfl) rfl rfl ?_
 refine gR 19 rfl ?_
 refine gB 14 rfl rfl rfl (fun hd => ?_) (fun hd => ?_)
 refine gT 15 rfl hd rfl ?_
 replace hd := (eq_of_beq hd)
 replace h := h.1 hd
 refine gR 6 rfl ?_
 refine gB 18 rfl rfl rfl (fun hd => ?_) (fun hd => ?_)
 refine gT 17 rfl hd rfl ?_
 replace hd := (eq_of_beq hd)
 replace h := h.1 hd
 refine gR 9 rfl ?_
 subst h
 refine ab (F' := (mkF 67 0 [(4, .bool true)])) (H' := ⟨0, []⟩) [] [] rfl hK ⟨⟨_, rfl, .rfl⟩, trivial⟩ trivial rfl ?_
 exact ac aa (rs := [.tmp 4]) rfl rfl rfl
 refine gF 17 rfl hd rfl ?_
 replace hd := (ne_of_beq_false hd)
 replace h := h.2 hd
 refine gR 9 rfl ?_
 subst h
 refine ab (F' := (mkF 67 0 [(4, .bool (t0_2.kind == 3))])) (H' := ⟨0, []⟩) [] [] rfl hK ⟨⟨_, rfl, .rfl⟩, trivial⟩ trivial rfl ?_
 exact ac aa (rs := [.tmp 4]) rfl rfl rfl
 refine gF 15 rfl hd rfl ?_
 replace hd := (ne_of_beq_false hd)
 replace h := h.2 hd
 refine gR 7 rfl ?_
 refine gB 22 rfl rfl rfl (fun hd => ?_) (fun hd => ?_)
 refine gT 23 rfl hd rfl ?_
 replace hd := (eq_of_beq hd)
 replace h := h.1 hd
 refine gR 13 rfl ?_
 refine gV 28 (.int .i64 ((p0.kids.length : Nat) : Int)) rfl (aR (bq _)) rfl ?_
 refine gLB 27 rfl (bq _) fun hl17 => ?_
 refine gR 1 rfl ?_
 refine gV 29 (.int .i64 (((p0.kids.length : Nat) : Int) - 1)) rfl (ar (by have := hl17; omega) rfl) rfl ?_
 refine gR 4 rfl ?_
 refine gB 25 rfl rfl rfl (fun hd => ?_) (fun hd => ?_)
 refine gT 30 rfl hd rfl ?_
 replace hd := (eq_of_beq hd)
 replace h := h.1 hd
 refine gR 4 rfl ?_
 obtain ⟨b0_3, hs18, h⟩ := h
 refine gC0 hs18 (by kernel_rfl) rfl rfl .rfl rfl ?_
 refine gR 8 rfl ?_
 subst h
 refine ab (F' := (mkF 67 0 [(4, .bool b0_3)])) (H' := ⟨0, []⟩) [] [] rfl hK ⟨⟨_, rfl, .rfl⟩, trivial⟩ trivial rfl ?_
 exact ac aa (rs := [.tmp 4]) rfl rfl rfl
 refine gF 30 rfl hd rfl ?_
 replace hd := (ne_of_beq_false hd)
 replace h := h.2 hd
 refine gR 6 rfl ?_
 refine gV 36 (.int .i64 ((p0.kids.length : Nat) : Int)) rfl (aR (bq _)) rfl ?_
 refine gR 1 rfl ?_
 refine gV 37 (.int .i64 (((p0.kids.length : Nat) : Int) - 2)) rfl (ar (by have := hl17; omega) rfl) rfl ?_
 refine gR 4 rfl ?_
 refine gB 33 rfl rfl rfl (fun hd => ?_) (fun hd => ?_)
 refine gT 38 rfl hd rfl ?_
 replace hd := (eq_of_beq hd)
 replace h := h.1 hd
 refine gR 4 rfl ?_
 obtain ⟨b0_4, hs19, h⟩ := h
 refine gC0 hs19 (by kernel_rfl) rfl rfl .rfl rfl ?_
 refine gR 8 rfl ?_
 subst h
 refine ab (F' := (mkF 67 0 [(4, .bool b0_4)])) (H' := ⟨0, []⟩) [] [] rfl hK ⟨⟨_, rfl, .rfl⟩, trivial⟩ trivial rfl ?_
 exact ac aa (rs := [.tmp 4]) rfl rfl rfl
 refine gF 38 rfl hd rfl ?_
 replace hd := (ne_of_beq_false hd)
 replace h := h.2 hd
 refine gR 14 rfl ?_
 subst h
 refine ab (F' := (mkF 67 0 [(4, .bool (t0_2.kind == 4))])) (H' := ⟨0, []⟩) [] [] rfl hK ⟨⟨_, rfl, .rfl⟩, trivial⟩ trivial rfl ?_
 exact ac aa (rs := [.tmp 4]) rfl rfl rfl
 refine gF 23 rfl hd rfl ?_
 replace hd := (ne_of_beq_false hd)
 replace h := h.2 hd
 refine gR 8 rfl ?_
 refine gB 43 rfl rfl rfl (fun hd => ?_) (fun hd => ?_)
 refine gT 44 rfl hd rfl ?_
 replace hd := (eq_of_beq hd)
 replace h := h.1 hd
 refine gR 3 rfl ?_
 exact gJ (h K hK) [] [] rfl hK ⟨⟨_, rfl, .rfl⟩, ⟨_, rfl, .rfl⟩, ⟨_, rfl, .rfl⟩, ⟨_, rfl, .rfl⟩, trivial⟩ trivial rfl
 refine gF 44 rfl hd rfl ?_
 replace hd := (ne_of_beq_false hd)
 replace h := h.2 hd
 refine gR 7 rfl ?_
 refine gB 43 rfl rfl rfl (fun hd => ?_) (fun hd => ?_)
 refine gT 45 rfl hd rfl ?_
 replace hd := (eq_of_beq hd)
 replace h := h.1 hd
 refine gR 3 rfl ?_
 exact gJ (h K hK) [] [] rfl hK ⟨⟨_, rfl, .rfl⟩, ⟨_, rfl, .rfl⟩, ⟨_, rfl, .rfl⟩, ⟨_, rfl, .rfl⟩, trivial⟩ trivial rfl
 refine gF 45 rfl hd rfl ?_
 replace hd := (ne_of_beq_false hd)
 replace h := h.2 hd
 refine gR 6 rfl ?_
 exact gJ (h K hK) [] [] rfl hK ⟨⟨_, rfl, .rfl⟩, ⟨_, rfl, .rfl⟩, ⟨_, rfl, .rfl⟩, ⟨_, rfl, .rfl⟩, trivial⟩ trivial rfl
theorem kE (m : Nat) (p0 : Tree) (p1 : Int) (t0_2 : Tree) (b1v1 : Bool) (r0 : Bool) (h : ((b1v1 = true) → ∃ (b1_1 : Bool), dZ t0_2.kind b1_1 ∧ b1_1 = r0) ∧ ((b1v1 = false) → ((p0.kind = 16) → (t0_2.kind == 17) = r0) ∧ ((p0.kind ≠ 16) → ((p0.kind = 21) → ∃ (b1_2 : Bool), fM t0_2.kind b1_2 ∧ ((b1_2 = true) → true = r0) ∧ ((b1_2 = false) → ((p1 = 0) → (t0_2.kind == 21) = r0) ∧ ((p1 ≠ 0) → false = r0))) ∧ ((p0.kind ≠ 21) → ∃ (b1_3 : Bool), bD t0_2.kind b1_3 ∧ b1_3 = r0)))) : d0 (m + 1) p0 p1 t0_2 b1v1 r0 := by
 intro K hK
 refine gB 43 rfl rfl rfl (fun hd => ?_) (fun hd => ?_)
 replace h := h.1 hd
 refine gR 4 rfl ?_
 obtain ⟨b1_1, hs20, h⟩ := h
 refine gC0 hs20 (by kernel_rfl) rfl rfl .rfl rfl ?_
 refine gR 6 rfl ?_
 subst h
 refine ab (F' := (mkF 67 0 [(4, .bool b1_1)])) (H' := ⟨0, []⟩) [] [] rfl hK ⟨⟨_, rfl, .rfl⟩, trivial⟩ trivial rfl ?_
 exact ac aa (rs := [.tmp 4]) rfl rfl rfl
 replace h := h.2 hd
 refine gR 7 rfl ?_
 refine gB 49 rfl rfl rfl (fun hd => ?_) (fun hd => ?_)
 refine gT 50 rfl hd rfl ?_
 replace hd := (eq_of_beq hd)
 replace h := h.1 hd
 refine gR 11 rfl ?_
 subst h
 refine ab (F' := (mkF 67 0 [(4, .bool (t0_2.kind == 17))])) (H' := ⟨0, []⟩) [] [] rfl hK ⟨⟨_, rfl, .rfl⟩, trivial⟩ trivial rfl ?_
 exact ac aa (rs := [.tmp 4]) rfl rfl rfl
 refine gF 50 rfl hd rfl ?_
 replace hd := (ne_of_beq_false hd)
 replace h := h.2 hd
 refine gR 7 rfl ?_
 refine gB 53 rfl rfl rfl (fun hd => ?_) (fun hd => ?_)
 refine gT 54 rfl hd rfl ?_
 replace hd := (eq_of_beq hd)
 replace h := h.1 hd
 refine gR 4 rfl ?_
 obtain ⟨b1_2, hs21, h⟩ := h
 refine gC0 hs21 (by kernel_rfl) rfl rfl .rfl rfl ?_
 refine gR 1 rfl ?_
 refine gB 57 rfl rfl rfl (fun hd => ?_) (fun hd => ?_)
 refine gT 56 rfl hd rfl ?_
 replace h := h.1 hd
 refine gR 13 rfl ?_
 subst h
 refine ab (F' := (mkF 67 0 [(4, .bool true)])) (H' := ⟨0, []⟩) [] [] rfl hK ⟨⟨_, rfl, .rfl⟩, trivial⟩ trivial rfl ?_
 exact ac aa (rs := [.tmp 4]) rfl rfl rfl
 refine gF 56 rfl hd rfl ?_
 replace h := h.2 hd
 refine gR 3 rfl ?_
 refine gB 60 rfl rfl rfl (fun hd => ?_) (fun hd => ?_)
 refine gT 59 rfl hd rfl ?_
 replace hd := (eq_of_beq hd)
 replace h := h.1 hd
 refine gR 10 rfl ?_
 subst h
 refine ab (F' := (mkF 67 0 [(4, .bool (t0_2.kind == 21))])) (H' := ⟨0, []⟩) [] [] rfl hK ⟨⟨_, rfl, .rfl⟩, trivial⟩ trivial rfl ?_
 exact ac aa (rs := [.tmp 4]) rfl rfl rfl
 refine gF 59 rfl hd rfl ?_
 replace hd := (ne_of_beq_false hd)
 replace h := h.2 hd
 refine gR 10 rfl ?_
 subst h
 refine ab (F' := (mkF 67 0 [(4, .bool false)])) (H' := ⟨0, []⟩) [] [] rfl hK ⟨⟨_, rfl, .rfl⟩, trivial⟩ trivial rfl ?_
 exact ac aa (rs := [.tmp 4]) rfl rfl rfl
 refine gF 54 rfl hd rfl ?_
 replace hd := (ne_of_beq_false hd)
 replace h := h.2 hd
 refine gR 7 rfl ?_
 obtain ⟨b1_3, hs22, h⟩ := h
 refine gC0 hs22 (by kernel_rfl) rfl rfl .rfl rfl ?_
 refine gR 4 rfl ?_
 subst h
 refine ab (F' := (mkF 67 0 [(4, .bool b1_3)])) (H' := ⟨0, []⟩) [] [] rfl hK ⟨⟨_, rfl, .rfl⟩, trivial⟩ trivial rfl ?_
 exact ac aa (rs := [.tmp 4]) rfl rfl rfl
def dI (m : Nat) (p0 : Tree) (i1v1 : Nat) (r0 : Bool) : Prop := ∀ (K : Ctx) (j1 : Nat), aQ K [] → m ≤ j1 → Go Try.prog K (bodyPost Try.prog Try.f33 (SP K (fun u _ => u = .bool r0))) (.code (cL (cK (cB (cA (cB (cB (ah Try.f33)))))))) [.loop (cL (cK (cB (cA (cB (cB (ah Try.f33))))))) j1, .blk 0, .seq (cB (cB (cB (ah Try.f33))))] 38 (mkF 38 0 [(1, .box (av p0) 0), (21, .row 4 (kidsV p0.kids)), (22, .int .i64 ((p0.kids.length : Nat) : Int)), (23, .int .i64 ((i1v1 : Nat) : Int))]) ⟨0, []⟩
theorem kH (m : Nat) (p0 : Tree) (r0 : Bool) (h : ∃ (n0_1 : Int), f7 p0.kind ((p0.kids.length : Nat) : Int) n0_1 ∧ ((n0_1 < 0) → false = r0) ∧ ((¬ n0_1 < 0) → ∃ (b0_2 : Bool), fC p0.kind p0.text b0_2 ∧ ((b0_2 = false) → false = r0) ∧ ((b0_2 = true) → dI m p0 0 r0))) : d6 p0 r0 := by
 refine ⟨rfl, rfl, ?_⟩
 refine aj 38 [] Try.func33 rfl rfl rfl (aA rfl) fun K hK => ?_
 refine gR 3 rfl ?_
 refine gFP 0 rfl rfl rfl rfl ?_
 refine gR 11 rfl ?_
 refine gV 9 (.int .i64 ((p0.kids.length : Nat) : Int)) rfl (aR (bq _)) rfl ?_
 refine gLB 8 rfl (bq _) fun hl11 => ?_
 obtain ⟨n0_1, hs12, h⟩ := h
 refine gC0 hs12 (by kernel_rfl) rfl rfl .rfl rfl ?_
 refine gR 2 rfl ?_
 refine gB 12 rfl rfl rfl (fun hd => ?_) (fun hd => ?_)
 refine gT 11 rfl hd rfl ?_
 replace hd := (of_decide_eq_true hd)
 replace h := h.1 hd
 refine gR 17 rfl ?_
 subst h
 refine ab (F' := (mkF 38 0 [(2, .bool false)])) (H' := ⟨0, []⟩) [] [] rfl hK ⟨⟨_, rfl, .rfl⟩, trivial⟩ trivial rfl ?_
 exact ac aa (rs := [.tmp 2]) rfl rfl rfl
 refine gF 11 rfl hd rfl ?_
 replace hd := (of_decide_eq_false hd)
 replace h := h.2 hd
 refine gR 4 rfl ?_
 obtain ⟨b0_2, hs13, h⟩ := h
 refine gC0 hs13 (by kernel_rfl) rfl rfl .rfl rfl ?_
 refine gR 4 rfl ?_
 refine gB 19 rfl rfl rfl (fun hd => ?_) (fun hd => ?_)
 replace hd := (cm hd)
 replace h := h.1 hd
 refine gR 8 rfl ?_
 subst h
 refine ab (F' := (mkF 38 0 [(2, .bool false)])) (H' := ⟨0, []⟩) [] [] rfl hK ⟨⟨_, rfl, .rfl⟩, trivial⟩ trivial rfl ?_
 exact ac aa (rs := [.tmp 2]) rfl rfl rfl
 replace hd := (ck hd)
 replace h := h.2 hd
 refine gR 9 rfl ?_
 refine gV 22 (.int .i64 ((p0.kids.length : Nat) : Int)) rfl (aR (bq _)) rfl ?_
 refine gR 4 rfl ?_
 refine go_loop m ?_
 exact gJ (h K _ hK (by omega)) [] [] rfl hK ⟨⟨_, rfl, .rfl⟩, ⟨_, rfl, .rfl⟩, ⟨_, rfl, .rfl⟩, ⟨_, rfl, .rfl⟩, trivial⟩ trivial rfl
theorem gr (m : Nat) (p0 : Tree) (i1v1 : Nat) (r0 : Bool) (h : ((i1v1 < p0.kids.length) → ∃ (t1_1 : Tree), p0.kids[i1v1]? = some t1_1 ∧ ∃ (b1_2 : Bool), f6 p0 ((i1v1 : Nat) : Int) b1_2 ∧ ((b1_2 = false) → false = r0) ∧ ((b1_2 = true) → ∃ (b1_3 : Bool), d6 t1_1 b1_3 ∧ ((b1_3 = false) → false = r0) ∧ ((b1_3 = true) → i1v1 + 1 ≤ 9223372036854775807 ∧ dI m p0 (i1v1 + 1) r0))) ∧ ((¬ i1v1 < p0.kids.length) → true = r0)) : dI (m + 1) p0 i1v1 r0 := by
 intro K j1 hK hj1
 obtain ⟨j1, rfl⟩ : ∃ j, j1 = j + 1 := ⟨j1 - 1, by omega⟩
 refine gR 6 rfl ?_
 refine gB 24 rfl rfl rfl (fun hd => ?_) (fun hd => ?_)
 replace hd := (dW hd)
 replace h := h.1 hd
 refine gR 8 rfl ?_
 obtain ⟨t1_1, hxt1_1, h⟩ := h
 refine gY (aM (bb hxt1_1) aa rfl rfl rfl rfl) rfl rfl ?_
 refine gR 10 rfl ?_
 obtain ⟨b1_2, hs14, h⟩ := h
 refine gC0 hs14 (by kernel_rfl) rfl rfl .rfl rfl ?_
 refine gR 2 rfl ?_
 refine gB 32 rfl rfl rfl (fun hd => ?_) (fun hd => ?_)
 refine gT 31 rfl hd rfl ?_
 replace hd := (cm hd)
 replace h := h.1 hd
 refine gR 15 rfl ?_
 refine aW ?_
 refine gR 2 rfl ?_
 subst h
 refine ab (F' := (mkF 38 0 [(2, .bool false)])) (H' := ⟨0, []⟩) [] [] rfl hK ⟨⟨_, rfl, .rfl⟩, trivial⟩ trivial rfl ?_
 exact ac aa (rs := [.tmp 2]) rfl rfl rfl
 refine gF 31 rfl hd rfl ?_
 replace hd := (ck hd)
 replace h := h.2 hd
 refine gR 1 rfl ?_
 obtain ⟨b1_3, hs15, h⟩ := h
 refine gC0 hs15 (by kernel_rfl) rfl rfl .rfl rfl ?_
 refine gR 4 rfl ?_
 refine gB 36 rfl rfl rfl (fun hd => ?_) (fun hd => ?_)
 replace hd := (cm hd)
 replace h := h.1 hd
 refine gR 9 rfl ?_
 refine aW ?_
 refine gR 2 rfl ?_
 subst h
 refine ab (F' := (mkF 38 0 [(2, .bool false)])) (H' := ⟨0, []⟩) [] [] rfl hK ⟨⟨_, rfl, .rfl⟩, trivial⟩ trivial rfl ?_
 exact ac aa (rs := [.tmp 2]) rfl rfl rfl
 replace hd := (ck hd)
 replace h := h.2 hd
 refine gR 5 rfl ?_
 obtain ⟨hb, h⟩ := h
 refine gR 1 rfl ?_
 refine gV 37 (.int .i64 ((i1v1 + 1 : Nat) : Int)) rfl (ar (by omega) (by omega)) rfl ?_
 refine gR 2 rfl ?_
 refine az ?_
 exact gJ (h K _ hK (by omega)) [] [] rfl hK ⟨⟨_, rfl, .rfl⟩, ⟨_, rfl, .rfl⟩, ⟨_, rfl, .rfl⟩, ⟨_, rfl, .rfl⟩, trivial⟩ trivial rfl
 replace hd := (dS hd)
 replace h := h.2 hd
 refine gR 3 rfl ?_
 refine aE ?_
 refine gR 8 rfl ?_
 subst h
 refine ab (F' := (mkF 38 0 [(2, .bool true)])) (H' := ⟨0, []⟩) [] [] rfl hK ⟨⟨_, rfl, .rfl⟩, trivial⟩ trivial rfl ?_
 exact ac aa (rs := [.tmp 2]) rfl rfl rfl
def cG (m : Nat) (p0 : Int) (p1 : Int) (b1v1 : Bool) (r0 : Int) : Prop := ∀ (K : Ctx), aQ K [] → Go Try.prog K (bodyPost Try.prog Try.f53 (SP K (fun u _ => u = .int .i64 r0))) (.code (cB (cE (cB (cE (cB (cE (cB (cK (cB (cA (cB (ah Try.f53))))))))))))) [.blk 0, .seq (cB (cB (ah Try.f53)))] 71 (mkF 71 0 [(1, .int .i64 p1), (5, .int .i64 p0), (22, .bool b1v1)]) ⟨0, []⟩
def aB (m : Nat) (p0 : Int) (p1 : Int) (b2v1 : Bool) (r0 : Int) : Prop := ∀ (K : Ctx), aQ K [] → Go Try.prog K (bodyPost Try.prog Try.f53 (SP K (fun u _ => u = .int .i64 r0))) (.code (cB (cE (cB (cE (cB (cE (cB (cE (cB (cK (cB (cA (cB (ah Try.f53))))))))))))))) [.blk 0, .seq (cB (cB (ah Try.f53)))] 71 (mkF 71 0 [(1, .int .i64 p1), (5, .int .i64 p0), (28, .bool b2v1)]) ⟨0, []⟩
theorem jc (m : Nat) (p0 : Int) (p1 : Int) (r0 : Int) (h : ((p0 = 1) → ((0 ≤ p1) → 3 = r0) ∧ ((¬ 0 ≤ p1) → (-1) = r0)) ∧ ((p0 ≠ 1) → ((p0 = 2) → ((2 ≤ p1) → InI (p1 - 3) ∧ InI (6 + (max 0 (p1 - 3))) ∧ (6 + (max 0 (p1 - 3))) = r0) ∧ ((¬ 2 ≤ p1) → (-1) = r0)) ∧ ((p0 ≠ 2) → ((p0 = 3) → ∃ (n0_1 : Int), aX p1 1 3 n0_1 ∧ n0_1 = r0) ∧ ((p0 ≠ 3) → ((p0 = 4) → cG m p0 p1 true r0) ∧ ((p0 ≠ 4) → ((p0 = 8) → cG m p0 p1 true r0) ∧ ((p0 ≠ 8) → cG m p0 p1 (p0 == 22) r0)))))) : dR p0 p1 r0 := by
 refine ⟨rfl, rfl, ?_⟩
 refine aj 71 [] Try.func53 rfl rfl rfl (aA rfl) fun K hK => ?_
 refine gR 18 rfl ?_
 refine gB 6 rfl rfl rfl (fun hd => ?_) (fun hd => ?_)
 refine gT 7 rfl hd rfl ?_
 replace hd := (eq_of_beq hd)
 replace h := h.1 hd
 refine gR 7 rfl ?_
 refine gB 9 rfl rfl rfl (fun hd => ?_) (fun hd => ?_)
 replace hd := (of_decide_eq_true hd)
 replace h := h.1 hd
 refine gR 9 rfl ?_
 subst h
 refine ab (F' := (mkF 71 0 [(4, .int .i64 3)])) (H' := ⟨0, []⟩) [] [] rfl hK ⟨⟨_, rfl, .rfl⟩, trivial⟩ trivial rfl ?_
 exact ac aa (rs := [.tmp 4]) rfl rfl rfl
 replace hd := (of_decide_eq_false hd)
 replace h := h.2 hd
 refine gR 10 rfl ?_
 subst h
 refine ab (F' := (mkF 71 0 [(4, .int .i64 (-1))])) (H' := ⟨0, []⟩) [] [] rfl hK ⟨⟨_, rfl, .rfl⟩, trivial⟩ trivial rfl ?_
 exact ac aa (rs := [.tmp 4]) rfl rfl rfl
 refine gF 7 rfl hd rfl ?_
 replace hd := (ne_of_beq_false hd)
 replace h := h.2 hd
 refine gR 7 rfl ?_
 refine gB 10 rfl rfl rfl (fun hd => ?_) (fun hd => ?_)
 refine gT 11 rfl hd rfl ?_
 replace hd := (eq_of_beq hd)
 replace h := h.1 hd
 refine gR 7 rfl ?_
 refine gB 13 rfl rfl rfl (fun hd => ?_) (fun hd => ?_)
 replace hd := (of_decide_eq_true hd)
 replace h := h.1 hd
 refine gR 4 rfl ?_
 obtain ⟨hb, h⟩ := h
 refine gR 1 rfl ?_
 refine gV 15 (.int .i64 (p1 - 3)) rfl (ar hb rfl) rfl ?_
 refine gR 1 rfl ?_
 obtain ⟨hb, h⟩ := h
 refine gR 1 rfl ?_
 refine gV 17 (.int .i64 (6 + (max 0 (p1 - 3)))) rfl (ar hb rfl) rfl ?_
 refine gR 6 rfl ?_
 subst h
 refine ab (F' := (mkF 71 0 [(4, .int .i64 (6 + (max 0 (p1 - 3))))])) (H' := ⟨0, []⟩) [] [] rfl hK ⟨⟨_, rfl, .rfl⟩, trivial⟩ trivial rfl ?_
 exact ac aa (rs := [.tmp 4]) rfl rfl rfl
 replace hd := (of_decide_eq_false hd)
 replace h := h.2 hd
 refine gR 10 rfl ?_
 subst h
 refine ab (F' := (mkF 71 0 [(4, .int .i64 (-1))])) (H' := ⟨0, []⟩) [] [] rfl hK ⟨⟨_, rfl, .rfl⟩, trivial⟩ trivial rfl ?_
 exact ac aa (rs := [.tmp 4]) rfl rfl rfl
 refine gF 11 rfl hd rfl ?_
 replace hd := (ne_of_beq_false hd)
 replace h := h.2 hd
 refine gR 7 rfl ?_
 refine gB 18 rfl rfl rfl (fun hd => ?_) (fun hd => ?_)
 refine gT 19 rfl hd rfl ?_
 replace hd := (eq_of_beq hd)
 replace h := h.1 hd
 refine gR 4 rfl ?_
 obtain ⟨n0_1, hs20, h⟩ := h
 refine gC0 hs20 (by kernel_rfl) rfl rfl .rfl rfl ?_
 refine gR 6 rfl ?_
 subst h
 refine ab (F' := (mkF 71 0 [(4, .int .i64 n0_1)])) (H' := ⟨0, []⟩) [] [] rfl hK ⟨⟨_, rfl, .rfl⟩, trivial⟩ trivial rfl ?_
 exact ac aa (rs := [.tmp 4]) rfl rfl rfl
 refine gF 19 rfl hd rfl ?_
 replace hd := (ne_of_beq_false hd)
 replace h := h.2 hd
 refine gR 8 rfl ?_
 refine gB 22 rfl rfl rfl (fun hd => ?_) (fun hd => ?_)
 refine gT 23 rfl hd rfl ?_
 replace hd := (eq_of_beq hd)
 replace h := h.1 hd
 refine gR 3 rfl ?_
 exact gJ (h K hK) [] [] rfl hK ⟨⟨_, rfl, .rfl⟩, ⟨_, rfl, .rfl⟩, ⟨_, rfl, .rfl⟩, trivial⟩ trivial rfl
 refine gF 23 rfl hd rfl ?_
 replace hd := (ne_of_beq_false hd)
 replace h := h.2 hd
 refine gR 7 rfl ?_
 refine gB 22 rfl rfl rfl (fun hd => ?_) (fun hd => ?_)
 refine gT 24 rfl hd rfl ?_
 replace hd := (eq_of_beq hd)
 replace h := h.1 hd
 refine gR 3 rfl ?_
 exact gJ (h K hK) [] [] rfl hK ⟨⟨_, rfl, .rfl⟩, ⟨_, rfl, .rfl⟩, ⟨_, rfl, .rfl⟩, trivial⟩ trivial rfl
 refine gF 24 rfl hd rfl ?_
 replace hd := (ne_of_beq_false hd)
 replace h := h.2 hd
 refine gR 6 rfl ?_
 exact gJ (h K hK) [] [] rfl hK ⟨⟨_, rfl, .rfl⟩, ⟨_, rfl, .rfl⟩, ⟨_, rfl, .rfl⟩, trivial⟩ trivial rfl
theorem iS (m : Nat) (p0 : Int) (p1 : Int) (b1v1 : Bool) (r0 : Int) (h : ((b1v1 = true) → ∃ (n1_1 : Int), aX p1 1 2 n1_1 ∧ n1_1 = r0) ∧ ((b1v1 = false) → ((p0 = 5) → aB m p0 p1 true r0) ∧ ((p0 ≠ 5) → ((p0 = 6) → aB m p0 p1 true r0) ∧ ((p0 ≠ 6) → ((p0 = 7) → aB m p0 p1 true r0) ∧ ((p0 ≠ 7) → ((p0 = 9) → aB m p0 p1 true r0) ∧ ((p0 ≠ 9) → ((p0 = 10) → aB m p0 p1 true r0) ∧ ((p0 ≠ 10) → ((p0 = 11) → aB m p0 p1 true r0) ∧ ((p0 ≠ 11) → ((p0 = 12) → aB m p0 p1 true r0) ∧ ((p0 ≠ 12) → ((p0 = 13) → aB m p0 p1 true r0) ∧ ((p0 ≠ 13) → ((p0 = 14) → aB m p0 p1 true r0) ∧ ((p0 ≠ 14) → aB m p0 p1 (p0 == 15) r0))))))))))) : cG (m + 1) p0 p1 b1v1 r0 := by
 intro K hK
 refine gB 22 rfl rfl rfl (fun hd => ?_) (fun hd => ?_)
 replace h := h.1 hd
 refine gR 4 rfl ?_
 obtain ⟨n1_1, hs21, h⟩ := h
 refine gC0 hs21 (by kernel_rfl) rfl rfl .rfl rfl ?_
 refine gR 6 rfl ?_
 subst h
 refine ab (F' := (mkF 71 0 [(4, .int .i64 n1_1)])) (H' := ⟨0, []⟩) [] [] rfl hK ⟨⟨_, rfl, .rfl⟩, trivial⟩ trivial rfl ?_
 exact ac aa (rs := [.tmp 4]) rfl rfl rfl
 replace h := h.2 hd
 refine gR 8 rfl ?_
 refine gB 28 rfl rfl rfl (fun hd => ?_) (fun hd => ?_)
 refine gT 29 rfl hd rfl ?_
 replace hd := (eq_of_beq hd)
 replace h := h.1 hd
 refine gR 3 rfl ?_
 exact gJ (h K hK) [] [] rfl hK ⟨⟨_, rfl, .rfl⟩, ⟨_, rfl, .rfl⟩, ⟨_, rfl, .rfl⟩, trivial⟩ trivial rfl
 refine gF 29 rfl hd rfl ?_
 replace hd := (ne_of_beq_false hd)
 replace h := h.2 hd
 refine gR 7 rfl ?_
 refine gB 28 rfl rfl rfl (fun hd => ?_) (fun hd => ?_)
 refine gT 30 rfl hd rfl ?_
 replace hd := (eq_of_beq hd)
 replace h := h.1 hd
 refine gR 3 rfl ?_
 exact gJ (h K hK) [] [] rfl hK ⟨⟨_, rfl, .rfl⟩, ⟨_, rfl, .rfl⟩, ⟨_, rfl, .rfl⟩, trivial⟩ trivial rfl
 refine gF 30 rfl hd rfl ?_
 replace hd := (ne_of_beq_false hd)
 replace h := h.2 hd
 refine gR 7 rfl ?_
 refine gB 28 rfl rfl rfl (fun hd => ?_) (fun hd => ?_)
 refine gT 31 rfl hd rfl ?_
 replace hd := (eq_of_beq hd)
 replace h := h.1 hd
 refine gR 3 rfl ?_
 exact gJ (h K hK) [] [] rfl hK ⟨⟨_, rfl, .rfl⟩, ⟨_, rfl, .rfl⟩, ⟨_, rfl, .rfl⟩, trivial⟩ trivial rfl
 refine gF 31 rfl hd rfl ?_
 replace hd := (ne_of_beq_false hd)
 replace h := h.2 hd
 refine gR 7 rfl ?_
 refine gB 28 rfl rfl rfl (fun hd => ?_) (fun hd => ?_)
 refine gT 32 rfl hd rfl ?_
 replace hd := (eq_of_beq hd)
 replace h := h.1 hd
 refine gR 3 rfl ?_
 exact gJ (h K hK) [] [] rfl hK ⟨⟨_, rfl, .rfl⟩, ⟨_, rfl, .rfl⟩, ⟨_, rfl, .rfl⟩, trivial⟩ trivial rfl
 refine gF 32 rfl hd rfl ?_
 replace hd := (ne_of_beq_false hd)
 replace h := h.2 hd
 refine gR 7 rfl ?_
 refine gB 28 rfl rfl rfl (fun hd => ?_) (fun hd => ?_)
 refine gT 33 rfl hd rfl ?_
 replace hd := (eq_of_beq hd)
 replace h := h.1 hd
 refine gR 3 rfl ?_
 exact gJ (h K hK) [] [] rfl hK ⟨⟨_, rfl, .rfl⟩, ⟨_, rfl, .rfl⟩, ⟨_, rfl, .rfl⟩, trivial⟩ trivial rfl
 refine gF 33 rfl hd rfl ?_
 replace hd := (ne_of_beq_false hd)
 replace h := h.2 hd
 refine gR 7 rfl ?_
 refine gB 28 rfl rfl rfl (fun hd => ?_) (fun hd => ?_)
 refine gT 34 rfl hd rfl ?_
 replace hd := (eq_of_beq hd)
 replace h := h.1 hd
 refine gR 3 rfl ?_
 exact gJ (h K hK) [] [] rfl hK ⟨⟨_, rfl, .rfl⟩, ⟨_, rfl, .rfl⟩, ⟨_, rfl, .rfl⟩, trivial⟩ trivial rfl
 refine gF 34 rfl hd rfl ?_
 replace hd := (ne_of_beq_false hd)
 replace h := h.2 hd
 refine gR 7 rfl ?_
 refine gB 28 rfl rfl rfl (fun hd => ?_) (fun hd => ?_)
 refine gT 35 rfl hd rfl ?_
 replace hd := (eq_of_beq hd)
 replace h := h.1 hd
 refine gR 3 rfl ?_
 exact gJ (h K hK) [] [] rfl hK ⟨⟨_, rfl, .rfl⟩, ⟨_, rfl, .rfl⟩, ⟨_, rfl, .rfl⟩, trivial⟩ trivial rfl
 refine gF 35 rfl hd rfl ?_
 replace hd := (ne_of_beq_false hd)
 replace h := h.2 hd
 refine gR 7 rfl ?_
 refine gB 28 rfl rfl rfl (fun hd => ?_) (fun hd => ?_)
 refine gT 36 rfl hd rfl ?_
 replace hd := (eq_of_beq hd)
 replace h := h.1 hd
 refine gR 3 rfl ?_
 exact gJ (h K hK) [] [] rfl hK ⟨⟨_, rfl, .rfl⟩, ⟨_, rfl, .rfl⟩, ⟨_, rfl, .rfl⟩, trivial⟩ trivial rfl
 refine gF 36 rfl hd rfl ?_
 replace hd := (ne_of_beq_false hd)
 replace h := h.2 hd
 refine gR 7 rfl ?_
 refine gB 28 rfl rfl rfl (fun hd => ?_) (fun hd => ?_)
 refine gT 37 rfl hd rfl ?_
 replace hd := (eq_of_beq hd)
 replace h := h.1 hd
 refine gR 3 rfl ?_
 exact gJ (h K hK) [] [] rfl hK ⟨⟨_, rfl, .rfl⟩, ⟨_, rfl, .rfl⟩, ⟨_, rfl, .rfl⟩, trivial⟩ trivial rfl
 refine gF 37 rfl hd rfl ?_
 replace hd := (ne_of_beq_false hd)
 replace h := h.2 hd
 refine gR 6 rfl ?_
 exact gJ (h K hK) [] [] rfl hK ⟨⟨_, rfl, .rfl⟩, ⟨_, rfl, .rfl⟩, ⟨_, rfl, .rfl⟩, trivial⟩ trivial rfl
theorem iF (m : Nat) (p0 : Int) (p1 : Int) (b2v1 : Bool) (r0 : Int) (h : ((b2v1 = true) → ∃ (n2_1 : Int), aX p1 0 1 n2_1 ∧ n2_1 = r0) ∧ ((b2v1 = false) → ((p0 = 16) → ((0 ≤ p1) → InI (p1 - 1) ∧ InI (3 + (max 0 (p1 - 1))) ∧ (3 + (max 0 (p1 - 1))) = r0) ∧ ((¬ 0 ≤ p1) → (-1) = r0)) ∧ ((p0 ≠ 16) → ((p0 = 17) → ∃ (n2_2 : Int), aX p1 1 0 n2_2 ∧ n2_2 = r0) ∧ ((p0 ≠ 17) → ((p0 = 18) → ((1 ≤ p1) → InI (1 + p1) ∧ (1 + p1) = r0) ∧ ((¬ 1 ≤ p1) → (-1) = r0)) ∧ ((p0 ≠ 18) → ((p0 = 19) → ∃ (n2_3 : Int), aX p1 3 3 n2_3 ∧ n2_3 = r0) ∧ ((p0 ≠ 19) → ((p0 = 20) → ∃ (n2_4 : Int), aX p1 2 4 n2_4 ∧ n2_4 = r0) ∧ ((p0 ≠ 20) → ((p0 = 21) → ∃ (n2_5 : Int), aX p1 2 1 n2_5 ∧ n2_5 = r0) ∧ ((p0 ≠ 21) → (-1) = r0)))))))) : aB (m + 1) p0 p1 b2v1 r0 := by
 intro K hK
 refine gB 28 rfl rfl rfl (fun hd => ?_) (fun hd => ?_)
 replace h := h.1 hd
 refine gR 4 rfl ?_
 obtain ⟨n2_1, hs22, h⟩ := h
 refine gC0 hs22 (by kernel_rfl) rfl rfl .rfl rfl ?_
 refine gR 6 rfl ?_
 subst h
 refine ab (F' := (mkF 71 0 [(4, .int .i64 n2_1)])) (H' := ⟨0, []⟩) [] [] rfl hK ⟨⟨_, rfl, .rfl⟩, trivial⟩ trivial rfl ?_
 exact ac aa (rs := [.tmp 4]) rfl rfl rfl
 replace h := h.2 hd
 refine gR 7 rfl ?_
 refine gB 41 rfl rfl rfl (fun hd => ?_) (fun hd => ?_)
 refine gT 42 rfl hd rfl ?_
 replace hd := (eq_of_beq hd)
 replace h := h.1 hd
 refine gR 7 rfl ?_
 refine gB 44 rfl rfl rfl (fun hd => ?_) (fun hd => ?_)
 replace hd := (of_decide_eq_true hd)
 replace h := h.1 hd
 refine gR 4 rfl ?_
 obtain ⟨hb, h⟩ := h
 refine gR 1 rfl ?_
 refine gV 46 (.int .i64 (p1 - 1)) rfl (ar hb rfl) rfl ?_
 refine gR 1 rfl ?_
 obtain ⟨hb, h⟩ := h
 refine gR 1 rfl ?_
 refine gV 48 (.int .i64 (3 + (max 0 (p1 - 1)))) rfl (ar hb rfl) rfl ?_
 refine gR 6 rfl ?_
 subst h
 refine ab (F' := (mkF 71 0 [(4, .int .i64 (3 + (max 0 (p1 - 1))))])) (H' := ⟨0, []⟩) [] [] rfl hK ⟨⟨_, rfl, .rfl⟩, trivial⟩ trivial rfl ?_
 exact ac aa (rs := [.tmp 4]) rfl rfl rfl
 replace hd := (of_decide_eq_false hd)
 replace h := h.2 hd
 refine gR 10 rfl ?_
 subst h
 refine ab (F' := (mkF 71 0 [(4, .int .i64 (-1))])) (H' := ⟨0, []⟩) [] [] rfl hK ⟨⟨_, rfl, .rfl⟩, trivial⟩ trivial rfl ?_
 exact ac aa (rs := [.tmp 4]) rfl rfl rfl
 refine gF 42 rfl hd rfl ?_
 replace hd := (ne_of_beq_false hd)
 replace h := h.2 hd
 refine gR 7 rfl ?_
 refine gB 49 rfl rfl rfl (fun hd => ?_) (fun hd => ?_)
 refine gT 50 rfl hd rfl ?_
 replace hd := (eq_of_beq hd)
 replace h := h.1 hd
 refine gR 4 rfl ?_
 obtain ⟨n2_2, hs23, h⟩ := h
 refine gC0 hs23 (by kernel_rfl) rfl rfl .rfl rfl ?_
 refine gR 6 rfl ?_
 subst h
 refine ab (F' := (mkF 71 0 [(4, .int .i64 n2_2)])) (H' := ⟨0, []⟩) [] [] rfl hK ⟨⟨_, rfl, .rfl⟩, trivial⟩ trivial rfl ?_
 exact ac aa (rs := [.tmp 4]) rfl rfl rfl
 refine gF 50 rfl hd rfl ?_
 replace hd := (ne_of_beq_false hd)
 replace h := h.2 hd
 refine gR 7 rfl ?_
 refine gB 53 rfl rfl rfl (fun hd => ?_) (fun hd => ?_)
 refine gT 54 rfl hd rfl ?_
 replace hd := (eq_of_beq hd)
 replace h := h.1 hd
 refine gR 7 rfl ?_
 refine gB 56 rfl rfl rfl (fun hd => ?_) (fun hd => ?_)
 replace hd := (of_decide_eq_true hd)
 replace h := h.1 hd
 refine gR 4 rfl ?_
 obtain ⟨hb, h⟩ := h
 refine gR 1 rfl ?_
 refine gV 58 (.int .i64 (1 + p1)) rfl (ar hb rfl) rfl ?_
 refine gR 6 rfl ?_
 subst h
 refine ab (F' := (mkF 71 0 [(4, .int .i64 (1 + p1))])) (H' := ⟨0, []⟩) [] [] rfl hK ⟨⟨_, rfl, .rfl⟩, trivial⟩ trivial rfl ?_
 exact ac aa (rs := [.tmp 4]) rfl rfl rfl
 replace hd := (of_decide_eq_false hd)
 replace h := h.2 hd
 refine gR 10 rfl ?_
 subst h
 refine ab (F' := (mkF 71 0 [(4, .int .i64 (-1))])) (H' := ⟨0, []⟩) [] [] rfl hK ⟨⟨_, rfl, .rfl⟩, trivial⟩ trivial rfl ?_
 exact ac aa (rs := [.tmp 4]) rfl rfl rfl
 refine gF 54 rfl hd rfl ?_
 replace hd := (ne_of_beq_false hd)
 replace h := h.2 hd
 refine gR 7 rfl ?_
 refine gB 59 rfl rfl rfl (fun hd => ?_) (fun hd => ?_)
 refine gT 60 rfl hd rfl ?_
 replace hd := (eq_of_beq hd)
 replace h := h.1 hd
 refine gR 4 rfl ?_
 obtain ⟨n2_3, hs24, h⟩ := h
 refine gC0 hs24 (by kernel_rfl) rfl rfl .rfl rfl ?_
 refine gR 6 rfl ?_
 subst h
 refine ab (F' := (mkF 71 0 [(4, .int .i64 n2_3)])) (H' := ⟨0, []⟩) [] [] rfl hK ⟨⟨_, rfl, .rfl⟩, trivial⟩ trivial rfl ?_
 exact ac aa (rs := [.tmp 4]) rfl rfl rfl
 refine gF 60 rfl hd rfl ?_
 replace hd := (ne_of_beq_false hd)
 replace h := h.2 hd
 refine gR 7 rfl ?_
 refine gB 63 rfl rfl rfl (fun hd => ?_) (fun hd => ?_)
 refine gT 64 rfl hd rfl ?_
 replace hd := (eq_of_beq hd)
 replace h := h.1 hd
 refine gR 4 rfl ?_
 obtain ⟨n2_4, hs25, h⟩ := h
 refine gC0 hs25 (by kernel_rfl) rfl rfl .rfl rfl ?_
 refine gR 6 rfl ?_
 subst h
 refine ab (F' := (mkF 71 0 [(4, .int .i64 n2_4)])) (H' := ⟨0, []⟩) [] [] rfl hK ⟨⟨_, rfl, .rfl⟩, trivial⟩ trivial rfl ?_
 exact ac aa (rs := [.tmp 4]) rfl rfl rfl
 refine gF 64 rfl hd rfl ?_
 replace hd := (ne_of_beq_false hd)
 replace h := h.2 hd
 refine gR 7 rfl ?_
 refine gB 67 rfl rfl rfl (fun hd => ?_) (fun hd => ?_)
 refine gT 68 rfl hd rfl ?_
 replace hd := (eq_of_beq hd)
 replace h := h.1 hd
 refine gR 4 rfl ?_
 obtain ⟨n2_5, hs26, h⟩ := h
 refine gC0 hs26 (by kernel_rfl) rfl rfl .rfl rfl ?_
 refine gR 6 rfl ?_
 subst h
 refine ab (F' := (mkF 71 0 [(4, .int .i64 n2_5)])) (H' := ⟨0, []⟩) [] [] rfl hK ⟨⟨_, rfl, .rfl⟩, trivial⟩ trivial rfl ?_
 exact ac aa (rs := [.tmp 4]) rfl rfl rfl
 refine gF 68 rfl hd rfl ?_
 replace hd := (ne_of_beq_false hd)
 replace h := h.2 hd
 refine gR 10 rfl ?_
 subst h
 refine ab (F' := (mkF 71 0 [(4, .int .i64 (-1))])) (H' := ⟨0, []⟩) [] [] rfl hK ⟨⟨_, rfl, .rfl⟩, trivial⟩ trivial rfl ?_
 exact ac aa (rs := [.tmp 4]) rfl rfl rfl
theorem jA (m : Nat) (p0 : Int) (p1 : Int) (p2 : Int) (r0 : Int) (h : ((p0 = p1) → p2 = r0) ∧ ((p0 ≠ p1) → (-1) = r0)) : aX p0 p1 p2 r0 := by
 refine ⟨rfl, rfl, ?_⟩
 refine aj 11 [] Try.func74 rfl rfl rfl (aA rfl) fun K hK => ?_
 refine gR 13 rfl ?_
 refine gB 9 rfl rfl rfl (fun hd => ?_) (fun hd => ?_)
 replace hd := (eq_of_beq hd)
 replace h := h.1 hd
 refine gR 9 rfl ?_
 subst h
 refine ab (F' := (mkF 11 0 [(6, .int .i64 p2)])) (H' := ⟨0, []⟩) [] [] rfl hK ⟨⟨_, rfl, .rfl⟩, trivial⟩ trivial rfl ?_
 exact ac aa (rs := [.tmp 6]) rfl rfl rfl
 replace hd := (ne_of_beq_false hd)
 replace h := h.2 hd
 refine gR 9 rfl ?_
 subst h
 refine ab (F' := (mkF 11 0 [(6, .int .i64 (-1))])) (H' := ⟨0, []⟩) [] [] rfl hK ⟨⟨_, rfl, .rfl⟩, trivial⟩ trivial rfl ?_
 exact ac aa (rs := [.tmp 6]) rfl rfl rfl
theorem iR (m : Nat) (p0 : Int) (r0 : Bool) (h : ((5 ≤ p0) → decide (p0 ≤ 9) = r0) ∧ ((¬ 5 ≤ p0) → false = r0)) : cI p0 r0 := by
 refine ⟨rfl, rfl, ?_⟩
 refine aj 9 [] Try.func78 rfl rfl rfl (aA rfl) fun K hK => ?_
 refine gR 10 rfl ?_
 refine gB 5 rfl rfl rfl (fun hd => ?_) (fun hd => ?_)
 refine gT 4 rfl hd rfl ?_
 replace hd := (of_decide_eq_true hd)
 replace h := h.1 hd
 refine gR 7 rfl ?_
 subst h
 refine ab (F' := (mkF 9 0 [(2, .bool (decide (p0 ≤ 9)))])) (H' := ⟨0, []⟩) [] [] rfl hK ⟨⟨_, rfl, .rfl⟩, trivial⟩ trivial rfl ?_
 exact ac aa (rs := [.tmp 2]) rfl rfl rfl
 refine gF 4 rfl hd rfl ?_
 replace hd := (of_decide_eq_false hd)
 replace h := h.2 hd
 refine gR 7 rfl ?_
 subst h
 refine ab (F' := (mkF 9 0 [(2, .bool false)])) (H' := ⟨0, []⟩) [] [] rfl hK ⟨⟨_, rfl, .rfl⟩, trivial⟩ trivial rfl ?_
 exact ac aa (rs := [.tmp 2]) rfl rfl rfl
theorem iK (m : Nat) (p0 : Int) (r0 : Bool) (h : ((10 ≤ p0) → ((p0 ≤ 22) → (p0 != 17) = r0) ∧ ((¬ p0 ≤ 22) → false = r0)) ∧ ((¬ 10 ≤ p0) → false = r0)) : bM p0 r0 := by
 refine ⟨rfl, rfl, ?_⟩
 refine aj 13 [] Try.func77 rfl rfl rfl (aA rfl) fun K hK => ?_
 refine gR 10 rfl ?_
 refine gB 5 rfl rfl rfl (fun hd => ?_) (fun hd => ?_)
 refine gT 4 rfl hd rfl ?_
 replace hd := (of_decide_eq_true hd)
 replace h := h.1 hd
 refine gR 4 rfl ?_
 refine gB 9 rfl rfl rfl (fun hd => ?_) (fun hd => ?_)
 refine gT 8 rfl hd rfl ?_
 replace hd := (of_decide_eq_true hd)
 replace h := h.1 hd
 refine gR 7 rfl ?_
 subst h
 refine ab (F' := (mkF 13 0 [(2, .bool (p0 != 17))])) (H' := ⟨0, []⟩) [] [] rfl hK ⟨⟨_, rfl, .rfl⟩, trivial⟩ trivial rfl ?_
 exact ac aa (rs := [.tmp 2]) rfl rfl rfl
 refine gF 8 rfl hd rfl ?_
 replace hd := (of_decide_eq_false hd)
 replace h := h.2 hd
 refine gR 7 rfl ?_
 subst h
 refine ab (F' := (mkF 13 0 [(2, .bool false)])) (H' := ⟨0, []⟩) [] [] rfl hK ⟨⟨_, rfl, .rfl⟩, trivial⟩ trivial rfl ?_
 exact ac aa (rs := [.tmp 2]) rfl rfl rfl
 refine gF 4 rfl hd rfl ?_
 replace hd := (of_decide_eq_false hd)
 replace h := h.2 hd
 refine gR 11 rfl ?_
 subst h
 refine ab (F' := (mkF 13 0 [(2, .bool false)])) (H' := ⟨0, []⟩) [] [] rfl hK ⟨⟨_, rfl, .rfl⟩, trivial⟩ trivial rfl ?_
 exact ac aa (rs := [.tmp 2]) rfl rfl rfl
theorem iU (m : Nat) (p0 : Int) (r0 : Bool) (h : ∃ (b0_1 : Bool), bM p0 b0_1 ∧ ((b0_1 = true) → ((p0 ≠ 19) → ((p0 ≠ 20) → (p0 != 21) = r0) ∧ ((p0 = 20) → false = r0)) ∧ ((p0 = 19) → false = r0)) ∧ ((b0_1 = false) → false = r0)) : dJ p0 r0 := by
 refine ⟨rfl, rfl, ?_⟩
 refine aj 17 [] Try.func79 rfl rfl rfl (aA rfl) fun K hK => ?_
 refine gR 8 rfl ?_
 obtain ⟨b0_1, hs2, h⟩ := h
 refine gC0 hs2 (by kernel_rfl) rfl rfl .rfl rfl ?_
 refine gR 1 rfl ?_
 refine gB 5 rfl rfl rfl (fun hd => ?_) (fun hd => ?_)
 refine gT 4 rfl hd rfl ?_
 replace h := h.1 hd
 refine gR 4 rfl ?_
 refine gB 9 rfl rfl rfl (fun hd => ?_) (fun hd => ?_)
 refine gT 8 rfl hd rfl ?_
 replace hd := (gn hd)
 replace h := h.1 hd
 refine gR 4 rfl ?_
 refine gB 13 rfl rfl rfl (fun hd => ?_) (fun hd => ?_)
 refine gT 12 rfl hd rfl ?_
 replace hd := (gn hd)
 replace h := h.1 hd
 refine gR 7 rfl ?_
 subst h
 refine ab (F' := (mkF 17 0 [(2, .bool (p0 != 21))])) (H' := ⟨0, []⟩) [] [] rfl hK ⟨⟨_, rfl, .rfl⟩, trivial⟩ trivial rfl ?_
 exact ac aa (rs := [.tmp 2]) rfl rfl rfl
 refine gF 12 rfl hd rfl ?_
 replace hd := (eZ hd)
 replace h := h.2 hd
 refine gR 7 rfl ?_
 subst h
 refine ab (F' := (mkF 17 0 [(2, .bool false)])) (H' := ⟨0, []⟩) [] [] rfl hK ⟨⟨_, rfl, .rfl⟩, trivial⟩ trivial rfl ?_
 exact ac aa (rs := [.tmp 2]) rfl rfl rfl
 refine gF 8 rfl hd rfl ?_
 replace hd := (eZ hd)
 replace h := h.2 hd
 refine gR 11 rfl ?_
 subst h
 refine ab (F' := (mkF 17 0 [(2, .bool false)])) (H' := ⟨0, []⟩) [] [] rfl hK ⟨⟨_, rfl, .rfl⟩, trivial⟩ trivial rfl ?_
 exact ac aa (rs := [.tmp 2]) rfl rfl rfl
 refine gF 4 rfl hd rfl ?_
 replace h := h.2 hd
 refine gR 15 rfl ?_
 subst h
 refine ab (F' := (mkF 17 0 [(2, .bool false)])) (H' := ⟨0, []⟩) [] [] rfl hK ⟨⟨_, rfl, .rfl⟩, trivial⟩ trivial rfl ?_
 exact ac aa (rs := [.tmp 2]) rfl rfl rfl
theorem gs (m : Nat) (p0 : (List UInt8)) (r0 : Bool) (h : ((p0 = [43]) → true = r0) ∧ ((p0 ≠ [43]) → ((p0 = [45]) → true = r0) ∧ ((p0 ≠ [45]) → ((p0 = [42]) → true = r0) ∧ ((p0 ≠ [42]) → ((p0 = [60]) → true = r0) ∧ ((p0 ≠ [60]) → ((p0 = [61, 61]) → true = r0) ∧ ((p0 ≠ [61, 61]) → false = r0)))))) : cR p0 r0 := by
 refine ⟨rfl, rfl, ?_⟩
 refine aj 10 [] Try.func76 rfl rfl rfl (aA rfl) fun K hK => ?_
 refine gR 19 rfl ?_
 refine gB 4 rfl rfl rfl (fun hd => ?_) (fun hd => ?_)
 refine gT 5 rfl hd rfl ?_
 replace hd := (eq_of_beq hd)
 replace h := h.1 hd
 refine gR 12 rfl ?_
 subst h
 refine ab (F' := (mkF 10 0 [(2, .bool true)])) (H' := ⟨0, []⟩) [] [] rfl hK ⟨⟨_, rfl, .rfl⟩, trivial⟩ trivial rfl ?_
 exact ac aa (rs := [.tmp 2]) rfl rfl rfl
 refine gF 5 rfl hd rfl ?_
 replace hd := (ne_of_beq_false hd)
 replace h := h.2 hd
 refine gR 7 rfl ?_
 refine gB 4 rfl rfl rfl (fun hd => ?_) (fun hd => ?_)
 refine gT 6 rfl hd rfl ?_
 replace hd := (eq_of_beq hd)
 replace h := h.1 hd
 refine gR 12 rfl ?_
 subst h
 refine ab (F' := (mkF 10 0 [(2, .bool true)])) (H' := ⟨0, []⟩) [] [] rfl hK ⟨⟨_, rfl, .rfl⟩, trivial⟩ trivial rfl ?_
 exact ac aa (rs := [.tmp 2]) rfl rfl rfl
 refine gF 6 rfl hd rfl ?_
 replace hd := (ne_of_beq_false hd)
 replace h := h.2 hd
 refine gR 7 rfl ?_
 refine gB 4 rfl rfl rfl (fun hd => ?_) (fun hd => ?_)
 refine gT 7 rfl hd rfl ?_
 replace hd := (eq_of_beq hd)
 replace h := h.1 hd
 refine gR 12 rfl ?_
 subst h
 refine ab (F' := (mkF 10 0 [(2, .bool true)])) (H' := ⟨0, []⟩) [] [] rfl hK ⟨⟨_, rfl, .rfl⟩, trivial⟩ trivial rfl ?_
 exact ac aa (rs := [.tmp 2]) rfl rfl rfl
 refine gF 7 rfl hd rfl ?_
 replace hd := (ne_of_beq_false hd)
 replace h := h.2 hd
 refine gR 7 rfl ?_
 refine gB 4 rfl rfl rfl (fun hd => ?_) (fun hd => ?_)
 refine gT 8 rfl hd rfl ?_
 replace hd := (eq_of_beq hd)
 replace h := h.1 hd
 refine gR 12 rfl ?_
 subst h
 refine ab (F' := (mkF 10 0 [(2, .bool true)])) (H' := ⟨0, []⟩) [] [] rfl hK ⟨⟨_, rfl, .rfl⟩, trivial⟩ trivial rfl ?_
 exact ac aa (rs := [.tmp 2]) rfl rfl rfl
 refine gF 8 rfl hd rfl ?_
 replace hd := (ne_of_beq_false hd)
 replace h := h.2 hd
 refine gR 6 rfl ?_
 refine gB 4 rfl rfl rfl (fun hd => ?_) (fun hd => ?_)
 refine gT 9 rfl hd rfl ?_
 replace hd := (eq_of_beq hd)
 replace h := h.1 hd
 refine gR 9 rfl ?_
 subst h
 refine ab (F' := (mkF 10 0 [(2, .bool true)])) (H' := ⟨0, []⟩) [] [] rfl hK ⟨⟨_, rfl, .rfl⟩, trivial⟩ trivial rfl ?_
 exact ac aa (rs := [.tmp 2]) rfl rfl rfl
 refine gF 9 rfl hd rfl ?_
 replace hd := (ne_of_beq_false hd)
 replace h := h.2 hd
 refine gR 10 rfl ?_
 subst h
 refine ab (F' := (mkF 10 0 [(2, .bool false)])) (H' := ⟨0, []⟩) [] [] rfl hK ⟨⟨_, rfl, .rfl⟩, trivial⟩ trivial rfl ?_
 exact ac aa (rs := [.tmp 2]) rfl rfl rfl
def c7 (m : Nat) (p0 : Int) (p1 : (List UInt8)) (n0_1 : Int) (b1v1 : Bool) (r0 : Bool) : Prop := ∀ (K : Ctx), aQ K [] → Go Try.prog K (bodyPost Try.prog Try.f54 (SP K (fun u _ => u = .bool r0))) (.code (cB (cK (cB (cA (cB (cB (ah Try.f54)))))))) [.blk 0, .seq (cB (cB (cB (ah Try.f54))))] 51 (mkF 51 0 [(1, .str p1), (5, .int .i64 n0_1), (8, .int .i64 p0), (9, .bool b1v1)]) ⟨0, []⟩
def bv (m : Nat) (p0 : Int) (p1 : (List UInt8)) (n0_1 : Int) (b2v1 : Bool) (r0 : Bool) : Prop := ∀ (K : Ctx), aQ K [] → Go Try.prog K (bodyPost Try.prog Try.f54 (SP K (fun u _ => u = .bool r0))) (.code (cB (cE (cB (cK (cB (cA (cB (cB (ah Try.f54)))))))))) [.blk 0, .seq (cB (cB (cB (ah Try.f54))))] 51 (mkF 51 0 [(1, .str p1), (5, .int .i64 n0_1), (8, .int .i64 p0), (14, .bool b2v1)]) ⟨0, []⟩
theorem hJ (m : Nat) (p0 : Int) (p1 : (List UInt8)) (r0 : Bool) (h : ∃ (n0_1 : Int), jy p1 n0_1 ∧ ((p0 = 1) → c7 m p0 p1 n0_1 true r0) ∧ ((p0 ≠ 1) → c7 m p0 p1 n0_1 (p0 == 3) r0)) : dq p0 p1 r0 := by
 refine ⟨rfl, rfl, ?_⟩
 refine aj 51 [] Try.func54 rfl rfl rfl (aA rfl) fun K hK => ?_
 refine gR 8 rfl ?_
 obtain ⟨n0_1, hs7, h⟩ := h
 refine gC0 hs7 (by kernel_rfl) rfl rfl .rfl rfl ?_
 refine gR 17 rfl ?_
 refine gB 9 rfl rfl rfl (fun hd => ?_) (fun hd => ?_)
 refine gT 10 rfl hd rfl ?_
 replace hd := (eq_of_beq hd)
 replace h := h.1 hd
 refine gR 3 rfl ?_
 exact gJ (h K hK) [] [] rfl hK ⟨⟨_, rfl, .rfl⟩, ⟨_, rfl, .rfl⟩, ⟨_, rfl, .rfl⟩, ⟨_, rfl, .rfl⟩, trivial⟩ trivial rfl
 refine gF 10 rfl hd rfl ?_
 replace hd := (ne_of_beq_false hd)
 replace h := h.2 hd
 refine gR 6 rfl ?_
 exact gJ (h K hK) [] [] rfl hK ⟨⟨_, rfl, .rfl⟩, ⟨_, rfl, .rfl⟩, ⟨_, rfl, .rfl⟩, ⟨_, rfl, .rfl⟩, trivial⟩ trivial rfl
theorem gK (m : Nat) (p0 : Int) (p1 : (List UInt8)) (n0_1 : Int) (b1v1 : Bool) (r0 : Bool) (h : ((b1v1 = true) → (n0_1 == 2) = r0) ∧ ((b1v1 = false) → ((p0 = 2) → bv m p0 p1 n0_1 true r0) ∧ ((p0 ≠ 2) → ((p0 = 4) → bv m p0 p1 n0_1 true r0) ∧ ((p0 ≠ 4) → ((p0 = 12) → bv m p0 p1 n0_1 true r0) ∧ ((p0 ≠ 12) → bv m p0 p1 n0_1 (p0 == 20) r0))))) : c7 (m + 1) p0 p1 n0_1 b1v1 r0 := by
 intro K hK
 refine gB 9 rfl rfl rfl (fun hd => ?_) (fun hd => ?_)
 replace h := h.1 hd
 refine gR 11 rfl ?_
 subst h
 refine ab (F' := (mkF 51 0 [(4, .bool (n0_1 == 2))])) (H' := ⟨0, []⟩) [] [] rfl hK ⟨⟨_, rfl, .rfl⟩, trivial⟩ trivial rfl ?_
 exact ac aa (rs := [.tmp 4]) rfl rfl rfl
 replace h := h.2 hd
 refine gR 8 rfl ?_
 refine gB 14 rfl rfl rfl (fun hd => ?_) (fun hd => ?_)
 refine gT 15 rfl hd rfl ?_
 replace hd := (eq_of_beq hd)
 replace h := h.1 hd
 refine gR 3 rfl ?_
 exact gJ (h K hK) [] [] rfl hK ⟨⟨_, rfl, .rfl⟩, ⟨_, rfl, .rfl⟩, ⟨_, rfl, .rfl⟩, ⟨_, rfl, .rfl⟩, trivial⟩ trivial rfl
 refine gF 15 rfl hd rfl ?_
 replace hd := (ne_of_beq_false hd)
 replace h := h.2 hd
 refine gR 7 rfl ?_
 refine gB 14 rfl rfl rfl (fun hd => ?_) (fun hd => ?_)
 refine gT 16 rfl hd rfl ?_
 replace hd := (eq_of_beq hd)
 replace h := h.1 hd
 refine gR 3 rfl ?_
 exact gJ (h K hK) [] [] rfl hK ⟨⟨_, rfl, .rfl⟩, ⟨_, rfl, .rfl⟩, ⟨_, rfl, .rfl⟩, ⟨_, rfl, .rfl⟩, trivial⟩ trivial rfl
 refine gF 16 rfl hd rfl ?_
 replace hd := (ne_of_beq_false hd)
 replace h := h.2 hd
 refine gR 7 rfl ?_
 refine gB 14 rfl rfl rfl (fun hd => ?_) (fun hd => ?_)
 refine gT 17 rfl hd rfl ?_
 replace hd := (eq_of_beq hd)
 replace h := h.1 hd
 refine gR 3 rfl ?_
 exact gJ (h K hK) [] [] rfl hK ⟨⟨_, rfl, .rfl⟩, ⟨_, rfl, .rfl⟩, ⟨_, rfl, .rfl⟩, ⟨_, rfl, .rfl⟩, trivial⟩ trivial rfl
 refine gF 17 rfl hd rfl ?_
 replace hd := (ne_of_beq_false hd)
 replace h := h.2 hd
 refine gR 6 rfl ?_
 exact gJ (h K hK) [] [] rfl hK ⟨⟨_, rfl, .rfl⟩, ⟨_, rfl, .rfl⟩, ⟨_, rfl, .rfl⟩, ⟨_, rfl, .rfl⟩, trivial⟩ trivial rfl
theorem g0 (m : Nat) (p0 : Int) (p1 : (List UInt8)) (n0_1 : Int) (b2v1 : Bool) (r0 : Bool) (h : ((b2v1 = true) → (n0_1 == 1) = r0) ∧ ((b2v1 = false) → ((p0 = 9) → ((n0_1 = 2) → true = r0) ∧ ((n0_1 ≠ 2) → (n0_1 == 4) = r0)) ∧ ((p0 ≠ 9) → ((p0 = 16) → ((n0_1 = 1) → true = r0) ∧ ((n0_1 ≠ 1) → (n0_1 == 3) = r0)) ∧ ((p0 ≠ 16) → ((p0 = 10) → (n0_1 == 5) = r0) ∧ ((p0 ≠ 10) → ((p0 = 11) → (n0_1 == 6) = r0) ∧ ((p0 ≠ 11) → ((p0 = 21) → ∃ (b2_1 : Bool), cR p1 b2_1 ∧ b2_1 = r0) ∧ ((p0 ≠ 21) → (p1 == []) = r0))))))) : bv (m + 1) p0 p1 n0_1 b2v1 r0 := by
 intro K hK
 refine gB 14 rfl rfl rfl (fun hd => ?_) (fun hd => ?_)
 replace h := h.1 hd
 refine gR 11 rfl ?_
 subst h
 refine ab (F' := (mkF 51 0 [(4, .bool (n0_1 == 1))])) (H' := ⟨0, []⟩) [] [] rfl hK ⟨⟨_, rfl, .rfl⟩, trivial⟩ trivial rfl ?_
 exact ac aa (rs := [.tmp 4]) rfl rfl rfl
 replace h := h.2 hd
 refine gR 7 rfl ?_
 refine gB 21 rfl rfl rfl (fun hd => ?_) (fun hd => ?_)
 refine gT 22 rfl hd rfl ?_
 replace hd := (eq_of_beq hd)
 replace h := h.1 hd
 refine gR 6 rfl ?_
 refine gB 25 rfl rfl rfl (fun hd => ?_) (fun hd => ?_)
 refine gT 24 rfl hd rfl ?_
 replace hd := (eq_of_beq hd)
 replace h := h.1 hd
 refine gR 9 rfl ?_
 subst h
 refine ab (F' := (mkF 51 0 [(4, .bool true)])) (H' := ⟨0, []⟩) [] [] rfl hK ⟨⟨_, rfl, .rfl⟩, trivial⟩ trivial rfl ?_
 exact ac aa (rs := [.tmp 4]) rfl rfl rfl
 refine gF 24 rfl hd rfl ?_
 replace hd := (ne_of_beq_false hd)
 replace h := h.2 hd
 refine gR 9 rfl ?_
 subst h
 refine ab (F' := (mkF 51 0 [(4, .bool (n0_1 == 4))])) (H' := ⟨0, []⟩) [] [] rfl hK ⟨⟨_, rfl, .rfl⟩, trivial⟩ trivial rfl ?_
 exact ac aa (rs := [.tmp 4]) rfl rfl rfl
 refine gF 22 rfl hd rfl ?_
 replace hd := (ne_of_beq_false hd)
 replace h := h.2 hd
 refine gR 7 rfl ?_
 refine gB 29 rfl rfl rfl (fun hd => ?_) (fun hd => ?_)
 refine gT 30 rfl hd rfl ?_
 replace hd := (eq_of_beq hd)
 replace h := h.1 hd
 refine gR 6 rfl ?_
 refine gB 33 rfl rfl rfl (fun hd => ?_) (fun hd => ?_)
 refine gT 32 rfl hd rfl ?_
 replace hd := (eq_of_beq hd)
 replace h := h.1 hd
 refine gR 9 rfl ?_
 subst h
 refine ab (F' := (mkF 51 0 [(4, .bool true)])) (H' := ⟨0, []⟩) [] [] rfl hK ⟨⟨_, rfl, .rfl⟩, trivial⟩ trivial rfl ?_
 exact ac aa (rs := [.tmp 4]) rfl rfl rfl
 refine gF 32 rfl hd rfl ?_
 replace hd := (ne_of_beq_false hd)
 replace h := h.2 hd
 refine gR 9 rfl ?_
 subst h
 refine ab (F' := (mkF 51 0 [(4, .bool (n0_1 == 3))])) (H' := ⟨0, []⟩) [] [] rfl hK ⟨⟨_, rfl, .rfl⟩, trivial⟩ trivial rfl ?_
 exact ac aa (rs := [.tmp 4]) rfl rfl rfl
 refine gF 30 rfl hd rfl ?_
 replace hd := (ne_of_beq_false hd)
 replace h := h.2 hd
 refine gR 7 rfl ?_
 refine gB 37 rfl rfl rfl (fun hd => ?_) (fun hd => ?_)
 refine gT 38 rfl hd rfl ?_
 replace hd := (eq_of_beq hd)
 replace h := h.1 hd
 refine gR 11 rfl ?_
 subst h
 refine ab (F' := (mkF 51 0 [(4, .bool (n0_1 == 5))])) (H' := ⟨0, []⟩) [] [] rfl hK ⟨⟨_, rfl, .rfl⟩, trivial⟩ trivial rfl ?_
 exact ac aa (rs := [.tmp 4]) rfl rfl rfl
 refine gF 38 rfl hd rfl ?_
 replace hd := (ne_of_beq_false hd)
 replace h := h.2 hd
 refine gR 7 rfl ?_
 refine gB 41 rfl rfl rfl (fun hd => ?_) (fun hd => ?_)
 refine gT 42 rfl hd rfl ?_
 replace hd := (eq_of_beq hd)
 replace h := h.1 hd
 refine gR 11 rfl ?_
 subst h
 refine ab (F' := (mkF 51 0 [(4, .bool (n0_1 == 6))])) (H' := ⟨0, []⟩) [] [] rfl hK ⟨⟨_, rfl, .rfl⟩, trivial⟩ trivial rfl ?_
 exact ac aa (rs := [.tmp 4]) rfl rfl rfl
 refine gF 42 rfl hd rfl ?_
 replace hd := (ne_of_beq_false hd)
 replace h := h.2 hd
 refine gR 7 rfl ?_
 refine gB 45 rfl rfl rfl (fun hd => ?_) (fun hd => ?_)
 refine gT 46 rfl hd rfl ?_
 replace hd := (eq_of_beq hd)
 replace h := h.1 hd
 refine gR 4 rfl ?_
 obtain ⟨b2_1, hs8, h⟩ := h
 refine gC0 hs8 (by kernel_rfl) rfl rfl .rfl rfl ?_
 refine gR 6 rfl ?_
 subst h
 refine ab (F' := (mkF 51 0 [(4, .bool b2_1)])) (H' := ⟨0, []⟩) [] [] rfl hK ⟨⟨_, rfl, .rfl⟩, trivial⟩ trivial rfl ?_
 exact ac aa (rs := [.tmp 4]) rfl rfl rfl
 refine gF 46 rfl hd rfl ?_
 replace hd := (ne_of_beq_false hd)
 replace h := h.2 hd
 refine gR 12 rfl ?_
 subst h
 refine ab (F' := (mkF 51 0 [(4, .bool (p1 == []))])) (H' := ⟨0, []⟩) [] [] rfl hK ⟨⟨_, rfl, .rfl⟩, trivial⟩ trivial rfl ?_
 exact ac aa (rs := [.tmp 4]) rfl rfl rfl
def dd (m : Nat) (p0 : Tree) (p1 : Int) (p2 : Int) (b1v1 : Bool) (r0 : Bool) : Prop := ∀ (K : Ctx), aQ K [] → Go Try.prog K (bodyPost Try.prog Try.f55 (SP K (fun u _ => u = .bool r0))) (.code (cB (cE (cB (cE (cB (cK (cB (cA (cB (cB (ah Try.f55)))))))))))) [.blk 0, .seq (cB (cB (cB (ah Try.f55))))] 62 (mkF 62 0 [(1, .int .i64 p1), (2, .int .i64 p2), (12, .int .i64 p0.kind), (38, .bool b1v1)]) ⟨0, []⟩
theorem jK (m : Nat) (p0 : Tree) (p1 : Int) (p2 : Int) (r0 : Bool) (h : ((p0.kind = 1) → ((p2 = 2) → true = r0) ∧ ((p2 ≠ 2) → (p2 == 3) = r0)) ∧ ((p0.kind ≠ 1) → ((p0.kind = 2) → ((p1 = (((p0.kids.length : Nat) : Int) - 1)) → ∃ (b0_1 : Bool), bM p2 b0_1 ∧ b0_1 = r0) ∧ ((p1 ≠ (((p0.kids.length : Nat) : Int) - 1)) → ((p1 = (((p0.kids.length : Nat) : Int) - 2)) → ∃ (b0_2 : Bool), cI p2 b0_2 ∧ b0_2 = r0) ∧ ((p1 ≠ (((p0.kids.length : Nat) : Int) - 2)) → (p2 == 4) = r0))) ∧ ((p0.kind ≠ 2) → ((p0.kind = 3) → dd m p0 p1 p2 true r0) ∧ ((p0.kind ≠ 3) → ((p0.kind = 4) → dd m p0 p1 p2 true r0) ∧ ((p0.kind ≠ 4) → dd m p0 p1 p2 (p0.kind == 8) r0))))) : eL p0 p1 p2 r0 := by
 refine ⟨rfl, rfl, ?_⟩
 refine aj 62 [] Try.func55 rfl rfl rfl (aA rfl) fun K hK => ?_
 refine gR 3 rfl ?_
 refine gFP 0 rfl rfl rfl rfl ?_
 refine gR 8 rfl ?_
 refine gV 10 (.int .i64 ((p0.kids.length : Nat) : Int)) rfl (aR (bq _)) rfl ?_
 refine gLB 9 rfl (bq _) fun hl17 => ?_
 refine gR 17 rfl ?_
 refine gB 13 rfl rfl rfl (fun hd => ?_) (fun hd => ?_)
 refine gT 14 rfl hd rfl ?_
 replace hd := (eq_of_beq hd)
 replace h := h.1 hd
 refine gR 6 rfl ?_
 refine gB 17 rfl rfl rfl (fun hd => ?_) (fun hd => ?_)
 refine gT 16 rfl hd rfl ?_
 replace hd := (eq_of_beq hd)
 replace h := h.1 hd
 refine gR 9 rfl ?_
 subst h
 refine ab (F' := (mkF 62 0 [(6, .bool true)])) (H' := ⟨0, []⟩) [] [] rfl hK ⟨⟨_, rfl, .rfl⟩, trivial⟩ trivial rfl ?_
 exact ac aa (rs := [.tmp 6]) rfl rfl rfl
 refine gF 16 rfl hd rfl ?_
 replace hd := (ne_of_beq_false hd)
 replace h := h.2 hd
 refine gR 9 rfl ?_
 subst h
 refine ab (F' := (mkF 62 0 [(6, .bool (p2 == 3))])) (H' := ⟨0, []⟩) [] [] rfl hK ⟨⟨_, rfl, .rfl⟩, trivial⟩ trivial rfl ?_
 exact ac aa (rs := [.tmp 6]) rfl rfl rfl
 refine gF 14 rfl hd rfl ?_
 replace hd := (ne_of_beq_false hd)
 replace h := h.2 hd
 refine gR 7 rfl ?_
 refine gB 21 rfl rfl rfl (fun hd => ?_) (fun hd => ?_)
 refine gT 22 rfl hd rfl ?_
 replace hd := (eq_of_beq hd)
 replace h := h.1 hd
 refine gR 12 rfl ?_
 refine gV 26 (.int .i64 (((p0.kids.length : Nat) : Int) - 1)) rfl (ar (by have := hl17; omega) rfl) rfl ?_
 refine gR 4 rfl ?_
 refine gB 24 rfl rfl rfl (fun hd => ?_) (fun hd => ?_)
 refine gT 27 rfl hd rfl ?_
 replace hd := (eq_of_beq hd)
 replace h := h.1 hd
 refine gR 4 rfl ?_
 obtain ⟨b0_1, hs18, h⟩ := h
 refine gC0 hs18 (by kernel_rfl) rfl rfl .rfl rfl ?_
 refine gR 8 rfl ?_
 subst h
 refine ab (F' := (mkF 62 0 [(6, .bool b0_1)])) (H' := ⟨0, []⟩) [] [] rfl hK ⟨⟨_, rfl, .rfl⟩, trivial⟩ trivial rfl ?_
 exact ac aa (rs := [.tmp 6]) rfl rfl rfl
 refine gF 27 rfl hd rfl ?_
 replace hd := (ne_of_beq_false hd)
 replace h := h.2 hd
 refine gR 5 rfl ?_
 refine gV 32 (.int .i64 (((p0.kids.length : Nat) : Int) - 2)) rfl (ar (by have := hl17; omega) rfl) rfl ?_
 refine gR 4 rfl ?_
 refine gB 30 rfl rfl rfl (fun hd => ?_) (fun hd => ?_)
 refine gT 33 rfl hd rfl ?_
 replace hd := (eq_of_beq hd)
 replace h := h.1 hd
 refine gR 4 rfl ?_
 obtain ⟨b0_2, hs19, h⟩ := h
 refine gC0 hs19 (by kernel_rfl) rfl rfl .rfl rfl ?_
 refine gR 8 rfl ?_
 subst h
 refine ab (F' := (mkF 62 0 [(6, .bool b0_2)])) (H' := ⟨0, []⟩) [] [] rfl hK ⟨⟨_, rfl, .rfl⟩, trivial⟩ trivial rfl ?_
 exact ac aa (rs := [.tmp 6]) rfl rfl rfl
 refine gF 33 rfl hd rfl ?_
 replace hd := (ne_of_beq_false hd)
 replace h := h.2 hd
 refine gR 14 rfl ?_
 subst h
 refine ab (F' := (mkF 62 0 [(6, .bool (p2 == 4))])) (H' := ⟨0, []⟩) [] [] rfl hK ⟨⟨_, rfl, .rfl⟩, trivial⟩ trivial rfl ?_
 exact ac aa (rs := [.tmp 6]) rfl rfl rfl
 refine gF 22 rfl hd rfl ?_
 replace hd := (ne_of_beq_false hd)
 replace h := h.2 hd
 refine gR 8 rfl ?_
 refine gB 38 rfl rfl rfl (fun hd => ?_) (fun hd => ?_)
 refine gT 39 rfl hd rfl ?_
 replace hd := (eq_of_beq hd)
 replace h := h.1 hd
 refine gR 3 rfl ?_
 exact gJ (h K hK) [] [] rfl hK ⟨⟨_, rfl, .rfl⟩, ⟨_, rfl, .rfl⟩, ⟨_, rfl, .rfl⟩, ⟨_, rfl, .rfl⟩, trivial⟩ trivial rfl
 refine gF 39 rfl hd rfl ?_
 replace hd := (ne_of_beq_false hd)
 replace h := h.2 hd
 refine gR 7 rfl ?_
 refine gB 38 rfl rfl rfl (fun hd => ?_) (fun hd => ?_)
 refine gT 40 rfl hd rfl ?_
 replace hd := (eq_of_beq hd)
 replace h := h.1 hd
 refine gR 3 rfl ?_
 exact gJ (h K hK) [] [] rfl hK ⟨⟨_, rfl, .rfl⟩, ⟨_, rfl, .rfl⟩, ⟨_, rfl, .rfl⟩, ⟨_, rfl, .rfl⟩, trivial⟩ trivial rfl
 refine gF 40 rfl hd rfl ?_
 replace hd := (ne_of_beq_false hd)
 replace h := h.2 hd
 refine gR 6 rfl ?_
 exact gJ (h K hK) [] [] rfl hK ⟨⟨_, rfl, .rfl⟩, ⟨_, rfl, .rfl⟩, ⟨_, rfl, .rfl⟩, ⟨_, rfl, .rfl⟩, trivial⟩ trivial rfl
theorem jz (m : Nat) (p0 : Tree) (p1 : Int) (p2 : Int) (b1v1 : Bool) (r0 : Bool) (h : ((b1v1 = true) → ∃ (b1_1 : Bool), cI p2 b1_1 ∧ b1_1 = r0) ∧ ((b1v1 = false) → ((p0.kind = 16) → (p2 == 17) = r0) ∧ ((p0.kind ≠ 16) → ((p0.kind = 21) → ∃ (b1_2 : Bool), dJ p2 b1_2 ∧ ((b1_2 = true) → true = r0) ∧ ((b1_2 = false) → ((p1 = 0) → (p2 == 21) = r0) ∧ ((p1 ≠ 0) → false = r0))) ∧ ((p0.kind ≠ 21) → ∃ (b1_3 : Bool), bM p2 b1_3 ∧ b1_3 = r0)))) : dd (m + 1) p0 p1 p2 b1v1 r0 := by
 intro K hK
 refine gB 38 rfl rfl rfl (fun hd => ?_) (fun hd => ?_)
 replace h := h.1 hd
 refine gR 4 rfl ?_
 obtain ⟨b1_1, hs20, h⟩ := h
 refine gC0 hs20 (by kernel_rfl) rfl rfl .rfl rfl ?_
 refine gR 6 rfl ?_
 subst h
 refine ab (F' := (mkF 62 0 [(6, .bool b1_1)])) (H' := ⟨0, []⟩) [] [] rfl hK ⟨⟨_, rfl, .rfl⟩, trivial⟩ trivial rfl ?_
 exact ac aa (rs := [.tmp 6]) rfl rfl rfl
 replace h := h.2 hd
 refine gR 7 rfl ?_
 refine gB 44 rfl rfl rfl (fun hd => ?_) (fun hd => ?_)
 refine gT 45 rfl hd rfl ?_
 replace hd := (eq_of_beq hd)
 replace h := h.1 hd
 refine gR 11 rfl ?_
 subst h
 refine ab (F' := (mkF 62 0 [(6, .bool (p2 == 17))])) (H' := ⟨0, []⟩) [] [] rfl hK ⟨⟨_, rfl, .rfl⟩, trivial⟩ trivial rfl ?_
 exact ac aa (rs := [.tmp 6]) rfl rfl rfl
 refine gF 45 rfl hd rfl ?_
 replace hd := (ne_of_beq_false hd)
 replace h := h.2 hd
 refine gR 7 rfl ?_
 refine gB 48 rfl rfl rfl (fun hd => ?_) (fun hd => ?_)
 refine gT 49 rfl hd rfl ?_
 replace hd := (eq_of_beq hd)
 replace h := h.1 hd
 refine gR 4 rfl ?_
 obtain ⟨b1_2, hs21, h⟩ := h
 refine gC0 hs21 (by kernel_rfl) rfl rfl .rfl rfl ?_
 refine gR 1 rfl ?_
 refine gB 52 rfl rfl rfl (fun hd => ?_) (fun hd => ?_)
 refine gT 51 rfl hd rfl ?_
 replace h := h.1 hd
 refine gR 13 rfl ?_
 subst h
 refine ab (F' := (mkF 62 0 [(6, .bool true)])) (H' := ⟨0, []⟩) [] [] rfl hK ⟨⟨_, rfl, .rfl⟩, trivial⟩ trivial rfl ?_
 exact ac aa (rs := [.tmp 6]) rfl rfl rfl
 refine gF 51 rfl hd rfl ?_
 replace h := h.2 hd
 refine gR 3 rfl ?_
 refine gB 55 rfl rfl rfl (fun hd => ?_) (fun hd => ?_)
 refine gT 54 rfl hd rfl ?_
 replace hd := (eq_of_beq hd)
 replace h := h.1 hd
 refine gR 10 rfl ?_
 subst h
 refine ab (F' := (mkF 62 0 [(6, .bool (p2 == 21))])) (H' := ⟨0, []⟩) [] [] rfl hK ⟨⟨_, rfl, .rfl⟩, trivial⟩ trivial rfl ?_
 exact ac aa (rs := [.tmp 6]) rfl rfl rfl
 refine gF 54 rfl hd rfl ?_
 replace hd := (ne_of_beq_false hd)
 replace h := h.2 hd
 refine gR 10 rfl ?_
 subst h
 refine ab (F' := (mkF 62 0 [(6, .bool false)])) (H' := ⟨0, []⟩) [] [] rfl hK ⟨⟨_, rfl, .rfl⟩, trivial⟩ trivial rfl ?_
 exact ac aa (rs := [.tmp 6]) rfl rfl rfl
 refine gF 49 rfl hd rfl ?_
 replace hd := (ne_of_beq_false hd)
 replace h := h.2 hd
 refine gR 7 rfl ?_
 obtain ⟨b1_3, hs22, h⟩ := h
 refine gC0 hs22 (by kernel_rfl) rfl rfl .rfl rfl ?_
 refine gR 4 rfl ?_
 subst h
 refine ab (F' := (mkF 62 0 [(6, .bool b1_3)])) (H' := ⟨0, []⟩) [] [] rfl hK ⟨⟨_, rfl, .rfl⟩, trivial⟩ trivial rfl ?_
 exact ac aa (rs := [.tmp 6]) rfl rfl rfl
def ch (m : Nat) (p0 : Tree) (i1v1 : Nat) (r0 : Bool) : Prop := ∀ (K : Ctx) (j1 : Nat), aQ K [] → m ≤ j1 → Go Try.prog K (bodyPost Try.prog Try.f35 (SP K (fun u _ => u = .bool r0))) (.code (cL (cK (cB (cA (cB (cB (ah Try.f35)))))))) [.loop (cL (cK (cB (cA (cB (cB (ah Try.f35))))))) j1, .blk 0, .seq (cB (cB (cB (ah Try.f35))))] 45 (mkF 45 0 [(1, .box (av p0) 0), (3, .int .i64 ((i1v1 : Nat) : Int))]) ⟨0, []⟩
theorem iP (m : Nat) (p0 : Tree) (r0 : Bool) (h : ∃ (n0_1 : Int), dR p0.kind ((p0.kids.length : Nat) : Int) n0_1 ∧ ((n0_1 < 0) → false = r0) ∧ ((¬ n0_1 < 0) → ∃ (b0_2 : Bool), dq p0.kind p0.text b0_2 ∧ ((b0_2 = false) → false = r0) ∧ ((b0_2 = true) → ch m p0 0 r0))) : cC p0 r0 := by
 refine ⟨rfl, rfl, ?_⟩
 refine aj 45 [] Try.func35 rfl rfl rfl (aA rfl) fun K hK => ?_
 refine gR 3 rfl ?_
 refine gFP 0 rfl rfl rfl rfl ?_
 refine gR 11 rfl ?_
 refine gV 8 (.int .i64 ((p0.kids.length : Nat) : Int)) rfl (aR (bq _)) rfl ?_
 refine gLB 7 rfl (bq _) fun hl13 => ?_
 obtain ⟨n0_1, hs14, h⟩ := h
 refine gC0 hs14 (by kernel_rfl) rfl rfl .rfl rfl ?_
 refine gR 2 rfl ?_
 refine gB 11 rfl rfl rfl (fun hd => ?_) (fun hd => ?_)
 refine gT 10 rfl hd rfl ?_
 replace hd := (of_decide_eq_true hd)
 replace h := h.1 hd
 refine gR 17 rfl ?_
 subst h
 refine ab (F' := (mkF 45 0 [(2, .bool false)])) (H' := ⟨0, []⟩) [] [] rfl hK ⟨⟨_, rfl, .rfl⟩, trivial⟩ trivial rfl ?_
 exact ac aa (rs := [.tmp 2]) rfl rfl rfl
 refine gF 10 rfl hd rfl ?_
 replace hd := (of_decide_eq_false hd)
 replace h := h.2 hd
 refine gR 4 rfl ?_
 obtain ⟨b0_2, hs15, h⟩ := h
 refine gC0 hs15 (by kernel_rfl) rfl rfl .rfl rfl ?_
 refine gR 4 rfl ?_
 refine gB 18 rfl rfl rfl (fun hd => ?_) (fun hd => ?_)
 replace hd := (cm hd)
 replace h := h.1 hd
 refine gR 8 rfl ?_
 subst h
 refine ab (F' := (mkF 45 0 [(2, .bool false)])) (H' := ⟨0, []⟩) [] [] rfl hK ⟨⟨_, rfl, .rfl⟩, trivial⟩ trivial rfl ?_
 exact ac aa (rs := [.tmp 2]) rfl rfl rfl
 replace hd := (ck hd)
 replace h := h.2 hd
 refine gR 10 rfl ?_
 refine go_loop m ?_
 exact gJ (h K _ hK (by omega)) [] [] rfl hK ⟨⟨_, rfl, .rfl⟩, ⟨_, rfl, .rfl⟩, trivial⟩ trivial rfl
theorem eU (m : Nat) (p0 : Tree) (i1v1 : Nat) (r0 : Bool) (h : ((i1v1 < p0.kids.length) → ∃ (t1_1 : Tree), p0.kids[i1v1]? = some t1_1 ∧ ∃ (b1_2 : Bool), eL p0 ((i1v1 : Nat) : Int) t1_1.kind b1_2 ∧ ((b1_2 = false) → false = r0) ∧ ((b1_2 = true) → ∃ (t1_3 : Tree), p0.kids[i1v1]? = some t1_3 ∧ ∃ (b1_4 : Bool), cC t1_3 b1_4 ∧ ((b1_4 = false) → false = r0) ∧ ((b1_4 = true) → ch m p0 (i1v1 + 1) r0))) ∧ ((¬ i1v1 < p0.kids.length) → true = r0)) : ch (m + 1) p0 i1v1 r0 := by
 intro K j1 hK hj1
 obtain ⟨j1, rfl⟩ : ∃ j, j1 = j + 1 := ⟨j1 - 1, by omega⟩
 refine gR 7 rfl ?_
 refine gV 22 (.int .i64 ((p0.kids.length : Nat) : Int)) rfl (aR (bq _)) rfl ?_
 refine gLB 21 rfl (bq _) fun hl16 => ?_
 refine gR 3 rfl ?_
 refine gB 23 rfl rfl rfl (fun hd => ?_) (fun hd => ?_)
 replace hd := (dW hd)
 replace h := h.1 hd
 refine gR 6 rfl ?_
 refine gDs [] 19 19 rfl (by kernel_rfl) (by kernel_rfl) ?_
 refine gDr [(0, 2), (1, 2), (2, 2), (3, 2), (4, 0)] (by kernel_rfl) rfl rfl ?_
 obtain ⟨t1_1, hxt1_1, h⟩ := h
 refine g9 5 rfl (by kernel_rfl) (aM (bb hxt1_1) aa rfl rfl rfl rfl) rfl rfl ?_
 refine gDr [(6, 0), (7, 0)] (by kernel_rfl) rfl rfl ?_
 obtain ⟨b1_2, hs17, h⟩ := h
 refine eG 8 hs17 (by kernel_rfl) rfl (by kernel_rfl) rfl rfl .rfl rfl rfl ?_
 refine gDr [(9, 0), (10, 0)] (by kernel_rfl) rfl rfl ?_
 refine gB 36 rfl rfl rfl (fun hd => ?_) (fun hd => ?_)
 refine gT 35 rfl hd rfl ?_
 replace hd := (cm hd)
 replace h := h.1 hd
 refine gDr [(11, 2), (12, 2), (13, 0), (14, 0), (15, 0), (16, 0), (17, 0), (18, 0)] (by kernel_rfl) rfl rfl ?_
 refine gDe (by kernel_rfl) ?_
 refine gR 10 rfl ?_
 refine aW ?_
 refine gR 2 rfl ?_
 subst h
 refine ab (F' := (mkF 45 0 [(2, .bool false)])) (H' := ⟨0, []⟩) [] [] rfl hK ⟨⟨_, rfl, .rfl⟩, trivial⟩ trivial rfl ?_
 exact ac aa (rs := [.tmp 2]) rfl rfl rfl
 refine gF 35 rfl hd rfl ?_
 replace hd := (ck hd)
 replace h := h.2 hd
 refine gDr [(11, 2), (12, 2), (13, 0)] (by kernel_rfl) rfl rfl ?_
 obtain ⟨t1_3, hxt1_3, h⟩ := h
 refine g9 14 rfl (by kernel_rfl) (aM (bb hxt1_3) aa rfl rfl rfl rfl) rfl rfl ?_
 refine gDr [(15, 0)] (by kernel_rfl) rfl rfl ?_
 obtain ⟨b1_4, hs18, h⟩ := h
 refine eG 16 hs18 (by kernel_rfl) rfl (by kernel_rfl) rfl rfl .rfl rfl rfl ?_
 refine gDr [(17, 0), (18, 0)] (by kernel_rfl) rfl rfl ?_
 refine gDe (by kernel_rfl) ?_
 refine gR 1 rfl ?_
 refine gB 44 rfl rfl rfl (fun hd => ?_) (fun hd => ?_)
 replace hd := (cm hd)
 replace h := h.1 hd
 refine gR 9 rfl ?_
 refine aW ?_
 refine gR 2 rfl ?_
 subst h
 refine ab (F' := (mkF 45 0 [(2, .bool false)])) (H' := ⟨0, []⟩) [] [] rfl hK ⟨⟨_, rfl, .rfl⟩, trivial⟩ trivial rfl ?_
 exact ac aa (rs := [.tmp 2]) rfl rfl rfl
 replace hd := (ck hd)
 replace h := h.2 hd
 refine gR 7 rfl ?_
 refine gV 25 (.int .i64 ((i1v1 + 1 : Nat) : Int)) rfl (ar (by have := hl16; omega) (by omega)) rfl ?_
 refine gR 2 rfl ?_
 refine az ?_
 exact gJ (h K _ hK (by omega)) [] [] rfl hK ⟨⟨_, rfl, .rfl⟩, ⟨_, rfl, .rfl⟩, trivial⟩ trivial rfl
 replace hd := (dS hd)
 replace h := h.2 hd
 refine gR 3 rfl ?_
 refine aE ?_
 refine gR 8 rfl ?_
 subst h
 refine ab (F' := (mkF 45 0 [(2, .bool true)])) (H' := ⟨0, []⟩) [] [] rfl hK ⟨⟨_, rfl, .rfl⟩, trivial⟩ trivial rfl ?_
 exact ac aa (rs := [.tmp 2]) rfl rfl rfl
end Go.Proofs.Yteglbnopdedadaa
