/- Contracts of the functions that the law reaches, part 3. -/
import Derived.Test.YtpnpdlnpikkeaaaGreatPa2
set_option linter.unusedVariables false
set_option linter.unusedSimpArgs false
namespace Go.Proofs.YtpnpdlnpikkeaaaGreat
open Go.RowKit
section
variable (T : Tab)
def opS (F : Fm) (H : Hp) (o : Oper) {α : Type} (c : Fm → Hp → Option α) : Option α :=
 match lE T H.get F o.op with
 | some v => F.puto o.dst (some v) fun F' => c F' H
 |none => match kP T H.get F H.nx o.op with
  |some (v, ed) => H.ap ed fun H' => match v with
   | some v => F.puto o.dst (some v) fun F' => c F' H'
   | none => F.puto o.dst (some (.tup [])) fun F' => c F' H'
  | none => none
def eV : Nat → EP → List EI → Fm → Hp → Option (EP × List EI × Fm × Hp)
 | 0, p, s, F, H => some (p, s, F, H)
 |k + 1, .code c, s, F, H => match c with
  | .seq x y => eV k (.code x) (.seq y :: s) F H
  | .block id c => eV k (.code c) (.blk id :: s) F H
  | .skip => eV k (.ex .normal) s F H
  | .ret => eV k (.ex .ret) s F H
  | .exit id => eV k (.ex (.exit id)) s F H
  |.cond c x y => match aT F c with
   | some (.bool true) => eV k (.code x) s F H
   | some (.bool false) => eV k (.code y) s F H
   | _ => none
  | .region _ ⟨l⟩ false => eV k (.ops ⟨l⟩ l) s F H
  | _ => none
 |k + 1, .ops all rest, s, F, H => match rest with
  | [] => eV k (.ex .normal) s F H
  |o :: r => match bA F all o.guard with
   | some true => opS T F H o fun F' H' => eV k (.ops all r) s F' H'
   | some false => F.puto o.dst (some (.tup [])) fun F' => eV k (.ops all r) s F' H
   | none => none
 |k + 1, .ex e, s, F, H => match s with
  | [] => none
  |.seq c :: s => match e with
   | .normal => eV k (.code c) s F H
   | .exit i => eV k (.ex (.exit i)) s F H
   | .ret => eV k (.ex .ret) s F H
   | _ => none
  |.blk id :: s => match e with
   | .normal => eV k (.ex .normal) s F H
   |.exit i => match Nat.beq i id with
    | true => eV k (.ex .normal) s F H
    | false => eV k (.ex (.exit i)) s F H
   | .ret => eV k (.ex .ret) s F H
   | _ => none
  | _ => none
 | k + 1, .drw .., _, _, _ => none
def mt (all : Array Oper) (L : List Nat) : List (Nat × Nat) → Fm → Hp → Option (Fm × Hp)
 | [], F, H => some (F, H)
 |(i, f) :: r, F, H => match all[i]? with
  |some o => match bA F all o.guard with
   | some false => F.puto o.dst (some (.tup [])) fun F' => mt all L r F' H
   |some true => match f with
    |2 => match lE T H.get F o.op with
     | some v => F.puto o.dst (some v) fun F' => mt all L r F' H
     | none => none
    |3 => match oH F o.op with
     |some id => match L.contains id with
      |true => match kP T H.get F H.nx o.op with
       | some (some v, _) => F.puto o.dst (some v) fun F' => mt all L r F' H
       | _ => none
      | false => none
     | none => none
    |f => match lE T H.get F o.op with
     | some v => F.puto o.dst (some v) fun F' => mt all L r F' H
     |none => match kP T H.get F H.nx o.op with
      |some (v, ed) => match (cG H.get L && ed.clear L) || Nat.beq f 1 with
       |true => H.ap ed fun H' => match v with
        | some v => F.puto o.dst (some v) fun F' => mt all L r F' H'
        | none => F.puto o.dst (some (.tup [])) fun F' => mt all L r F' H'
       | false => none
      | none => none
   | none => none
  | none => none
end
def yv (all : Array Oper) (m : Nat) : List (Nat × Nat) → Array Bool → Bool
 | [], _ => true
 |(i, f) :: r, listed => (match f with
  | 2 => !Nat.beq i m && Region.free .any all listed i && (Region.ready .any all listed).contains i
  | 3 => !Nat.beq i m && Region.free .any all listed i && (Region.ready .any all listed).contains i && mS .any all m i && !listed.getD m false
  | 1 => (match Region.ready .any all listed with | [j] => Nat.beq i j | _ => false) && (listed.setIfInBounds i true).getD m false
  | _ => (match Region.ready .any all listed with | [j] => Nat.beq i j | _ => false)) && yv all m r (listed.setIfInBounds i true)
def Bu : List (Nat × Nat) → Array Bool → Array Bool
 | [], l => l
 | (i, _) :: r, l => Bu r (l.setIfInBounds i true)
section
variable {P : Program} {T : Tab} {K : Ctx} {Q : Exit → Act → World → Prop} {p p' : EP} {s s' : List EI} {n : Nat} {F F' F1 F2 : Fm} {H H' H1 : Hp}
theorem DX (hT : TabOk P T) {all : Array Oper} {rest : List Oper} {o : Oper} {α : Type} {c : Fm → Hp → Option α} {x : α} (hw : bA F all o.guard = some true) (h : opS T F H o c = some x) : ∃ F' H', c F' H' = some x ∧ (Go P K Q (.ops all rest) s n F' H' → Go P K Q (.ops all (o :: rest)) s n F H) := by
 unfold opS at h
 split at h
 ·rename_i v hv
  rw [Fm.puto_eq] at h
  exact ⟨_, _, h, fun k => go_opP hT hw hv k⟩
 ·split at h
  ·rename_i v ed hv
   rw [Hp.ap_eq] at h
   cases v with
   | none =>
    simp only [Fm.puto_eq] at h
    exact ⟨_, _, h, fun k => go_opE hT hw hv k⟩
   | some v =>
    simp only [Fm.puto_eq] at h
    exact ⟨_, _, h, fun k => go_opE hT hw hv k⟩
  ·cases h
theorem cS (hT : TabOk P T) : ∀ (k : Nat) (p : EP) (s : List EI) (F : Fm) (H : Hp), eV T k p s F H = some (p', s', F', H') → Go P K Q p' s' n F' H' → Go P K Q p s n F H
 | 0, p, s, F, H, h, kk => by
  simp only [eV, Option.some.injEq, Prod.mk.injEq] at h
  obtain ⟨rfl, rfl, rfl, rfl⟩ := h
  exact kk
 | k + 1, .code c, s, F, H, h, kk => by
  unfold eV at h
  split at h
  ·exact Ar (cS hT k _ _ _ _ h kk)
  ·exact wa (cS hT k _ _ _ _ h kk)
  ·exact xz (cS hT k _ _ _ _ h kk)
  ·exact go_ret (cS hT k _ _ _ _ h kk)
  ·exact xx (cS hT k _ _ _ _ h kk)
  ·split at h
   ·exact vT ‹_› (cS hT k _ _ _ _ h kk)
   ·exact wm ‹_› (cS hT k _ _ _ _ h kk)
   ·cases h
  ·exact go_region (cS hT k _ _ _ _ h kk)
  ·cases h
 | k + 1, .ops all rest, s, F, H, h, kk => by
  unfold eV at h
  split at h
  ·exact AA (cS hT k _ _ _ _ h kk)
  ·split at h
   ·obtain ⟨F1, H1, h1, h2⟩ := DX (P := P) (K := K) (Q := Q) (s := s) (n := n) hT ‹_› h
    exact h2 (cS hT k _ _ _ _ h1 kk)
   ·rw [Fm.puto_eq] at h
    exact Am ‹_› (cS hT k _ _ _ _ h kk)
   ·cases h
 | k + 1, .ex e, s, F, H, h, kk => by
  unfold eV at h
  split at h
  ·cases h
  ·split at h
   ·exact xO (cS hT k _ _ _ _ h kk)
   ·exact vp (cS hT k _ _ _ _ h kk)
   ·exact vy (cS hT k _ _ _ _ h kk)
   ·cases h
  ·split at h
   ·exact wn (cS hT k _ _ _ _ h kk)
   ·split at h
    ·exact vW ‹_› (cS hT k _ _ _ _ h kk)
    ·exact vo ‹_› (cS hT k _ _ _ _ h kk)
   ·exact wj (cS hT k _ _ _ _ h kk)
   ·cases h
  ·cases h
 | k + 1, .drw .., s, F, H, h, kk => by simp [eV] at h
variable {all : Array Oper} {rest : List Oper} {o : Oper} {L : List Nat} {m fuel : Nat} {listed : Array Bool}
theorem um {i : Nat} (h : (match Region.ready .any all listed with | [j] => Nat.beq i j | _ => false) = true) : Region.ready .any all listed = [i] := by
 split at h
 ·rename_i j hj
  rw [hj, Nat.eq_of_beq_eq_true h]
 ·cases h
theorem kM (hT : TabOk P T) : ∀ (is : List (Nat × Nat)) (fuel : Nat) (listed : Array Bool) (F : Fm) (H : Hp), yv all m is listed = true → mt T all L is F H = some (F', H') → Go P K Q (.drw all L m fuel (Bu is listed)) s n F' H' → Go P K Q (.drw all L m (fuel + is.length) listed) s n F H
 | [], fuel, listed, F, H, hc, hr, k => by
  simp only [mt, Option.some.injEq, Prod.mk.injEq] at hr
  obtain ⟨rfl, rfl⟩ := hr
  exact k
 | (i, f) :: r, fuel, listed, F, H, hc, hr, k => by
  simp only [yv, Bool.and_eq_true] at hc
  obtain ⟨hc1, hc2⟩ := hc
  show Go P K Q (.drw all L m (fuel + r.length + 1) listed) s n F H
  unfold mt at hr
  split at hr
  ·rename_i o ho
   split at hr
   ·rename_i hw
    rw [Fm.puto_eq] at hr
    have ih := kM hT r fuel _ _ _ hc2 hr k
    have single : (match Region.ready .any all listed with | [j] => Nat.beq i j | _ => false) = true → Go P K Q (.drw all L m (fuel + r.length + 1) listed) s n F H := fun hx => go_d1S (um hx) ho hw ih
    split at hc1
    ·simp only [Bool.and_eq_true, Bool.not_eq_true'] at hc1
     exact yV hc1.1.1 ho hc1.1.2 hc1.2 hw ih
    ·simp only [Bool.and_eq_true, Bool.not_eq_true'] at hc1
     exact yV hc1.1.1.1.1 ho hc1.1.1.1.2 hc1.1.1.2 hw ih
    ·simp only [Bool.and_eq_true] at hc1
     exact single hc1.1
    ·exact single hc1
   ·rename_i hw
    split at hr
    ·split at hr
     ·rename_i v hv
      rw [Fm.puto_eq] at hr
      have ih := kM hT r fuel _ _ _ hc2 hr k
      simp only [Bool.and_eq_true, Bool.not_eq_true'] at hc1
      exact Cz hT hc1.1.1 ho hc1.1.2 hc1.2 hw hv ih
     ·cases hr
    ·split at hr
     ·rename_i id hid
      split at hr
      ·rename_i hL
       split at hr
       ·rename_i v ed hv
        rw [Fm.puto_eq] at hr
        have ih := kM hT r fuel _ _ _ hc2 hr k
        simp only [Bool.and_eq_true, Bool.not_eq_true'] at hc1
        exact Cu hT hc1.1.1.1.1 hc1.1.2 hc1.2 ho hc1.1.1.1.2 hc1.1.1.2 hw hid hL hv ih
       ·cases hr
      ·cases hr
     ·cases hr
    ·rename_i h2 h3
     have hs : (match Region.ready .any all listed with | [j] => Nat.beq i j | _ => false) = true ∧ (Nat.beq f 1 = true → (listed.setIfInBounds i true).getD m false = true) := by
      split at hc1
      ·exact absurd rfl h2
      ·exact absurd rfl h3
      ·simp only [Bool.and_eq_true] at hc1
       exact ⟨hc1.1, fun _ => hc1.2⟩
      ·rename_i h1
       exact ⟨hc1, fun hb => absurd (Nat.eq_of_beq_eq_true hb) h1⟩
     have hrd := um hs.1
     split at hr
     ·rename_i v hv
      rw [Fm.puto_eq] at hr
      have ih := kM hT r fuel _ _ _ hc2 hr k
      exact AH hrd ho hw (fun S w ρ a hr hF => pL hT hr hF hv) ih
     ·split at hr
      ·rename_i v ed hv
       split at hr
       ·rename_i hcl
        rw [Hp.ap_eq] at hr
        have hcl' : ((cG H.get L && ed.clear L) || (listed.setIfInBounds i true).getD m false) = true := by
         rcases qQ hcl with h | h
         ·rw [h]; rfl
         ·rw [hs.2 h]; simp
        cases v with
        | none =>
         simp only [Fm.puto_eq] at hr
         exact va hrd ho hw (fun S w ρ a hr hF => rc hT hr hF H.get_free hv) (od hv) hcl' (kM hT r fuel _ _ _ hc2 hr k)
        | some v =>
         simp only [Fm.puto_eq] at hr
         exact va hrd ho hw (fun S w ρ a hr hF => rc hT hr hF H.get_free hv) (od hv) hcl' (kM hT r fuel _ _ _ hc2 hr k)
       ·cases hr
      ·cases hr
   ·cases hr
  ·cases hr
theorem mY {d : Nat} {v v' : V} (hd : F.get d = some v) (hs : aA v v') (k : Go P K Q p s n (F.set d (some v')) H) : Go P K Q p s n F H := fun S w ρ a hr hi hF => by
 refine k S w ρ a hr hi ⟨hF.size, hF.defers, by have := hF.len; simpa using this, fun i u hu => ?_⟩
 rw [Fm.get_eq, List.getElem?_set] at hu
 split at hu
 ·rename_i e
  subst e
  split at hu
  ·simp only [Option.bind_some, id_eq, Option.some.injEq] at hu
   subst hu
   obtain ⟨x, h1, h2⟩ := hF.get d v hd
   exact ⟨x, h1, hs _ _ _ _ h2⟩
  ·cases hu
 ·exact hF.get i u (by rw [Fm.get_eq]; exact hu)
theorem gB {e : Bool} (d : Nat) (hd : F.get d = some (.bool e)) (h1 : F.put d (some (.bool true)) id = F1) (h2 : F.put d (some (.bool false)) id = F2) (kT : e = true → Go P K Q p s n F1 H) (kF : e = false → Go P K Q p s n F2 H) : Go P K Q p s n F H := by
 rw [Fm.put_eq] at h1 h2
 subst h1 h2
 cases he : e with
 | true => exact mY hd (by rw [he]; exact aA.rfl) (kT he)
 | false => exact mY hd (by rw [he]; exact aA.rfl) (kF he)
theorem gT {e : Bool} (d : Nat) (hd : F.get d = some (.bool e)) (he : e = true) (h1 : F.put d (some (.bool true)) id = F1) (k : Go P K Q p s n F1 H) : Go P K Q p s n F H := by
 rw [Fm.put_eq] at h1; subst h1
 exact mY hd (by rw [he]; exact aA.rfl) k
theorem gF {e : Bool} (d : Nat) (hd : F.get d = some (.bool e)) (he : e = false) (h1 : F.put d (some (.bool false)) id = F1) (k : Go P K Q p s n F1 H) : Go P K Q p s n F H := by
 rw [Fm.put_eq] at h1; subst h1
 exact mY hd (by rw [he]; exact aA.rfl) k
theorem gV {v : V} (d : Nat) (v' : V) (hd : F.get d = some v) (he : v = v') (h1 : F.put d (some v') id = F1) (k : Go P K Q p s n F1 H) : Go P K Q p s n F H := by
 rw [Fm.put_eq] at h1; subst h1
 exact mY hd (by rw [he]; exact aA.rfl) k
theorem au {m l : Int} (h : -9223372036854775808 ≤ m ∧ m ≤ 9223372036854775807) (e : m = l) : V.int .i64 (IntKind.i64.wrap m) = .int .i64 l := by
 subst e
 rw [IntWalk.i64_in _ (by omega)]
def slT (T : Tab) (t : TypeId) : Option (TypeId × Nat) := match T.ty t with
 |some ⟨_, _, _, .sl e⟩ => match T.ty e with
  | some ⟨sz, _, _, _⟩ => some (e, sz)
  | none => none
 | _ => none
theorem sI (hT : TabOk P T) {t e : TypeId} {sz : Nat} (h : slT T t = some (e, sz)) : P.underlying t = some (.slice e) ∧ dG P e = some sz := by
 unfold slT at h
 split at h
 ·rename_i ht
  split at h
  ·rename_i he
   simp only [Option.some.injEq, Prod.mk.injEq] at h
   obtain ⟨rfl, rfl⟩ := h
   exact ⟨(hT.ty _ _ ht).sl rfl, (hT.ty _ _ he).size⟩
  ·cases h
 ·cases h
theorem yIR (hT : TabOk P T) {t e : TypeId} {x y : Operand} {sz i : Nat} {els : List V} {v : V} {ty : TypeId} (ht : slT T t = some (e, sz)) (hx : aT F x = some (.row sz els)) (hy : aT F y = some (.int .i64 (i : Int))) (hi : els[i]? = some v) : ∀ S w ρ a, HRel S w ρ H.get → FRel S w ρ a n F → Yld P S w ρ a ty (.indexAddr t x y) (.box v.cells 0) := fun S w ρ a hr hF =>
 p_idxR hF.fr (sI hT ht).1 (sI hT ht).2 (al hF hx) (al hF hy) hi
theorem yIO (hT : TabOk P T) {t e e' : TypeId} {x y : Operand} {id sz i : Nat} {els : List V} {ty : TypeId} (ht : slT T t = some (e, sz)) (hx : aT F x = some (.sl id)) (ho : H.get id = .row e' sz els) (hy : aT F y = some (.int .i64 (i : Int))) (hi : i < els.length) : ∀ S w ρ a, HRel S w ρ H.get → FRel S w ρ a n F → Yld P S w ρ a ty (.indexAddr t x y) (.el id sz i 0) := fun S w ρ a hr hF =>
 p_idxO hr ho hF.fr (sI hT ht).1 (sI hT ht).2 (al hF hx) (al hF hy) hi
theorem gY {v : V} (hy : ∀ S w ρ a, HRel S w ρ H.get → FRel S w ρ a n F → Yld P S w ρ a o.type o.op v) (hw : bA F all o.guard = some true) (h1 : F.puto o.dst (some v) id = F1) (k : Go P K Q (.ops all rest) s n F1 H) : Go P K Q (.ops all (o :: rest)) s n F H := by
 rw [Fm.puto_eq] at h1; subst h1
 exact go_opY hw hy k
mutual
def mapV (f : V → V) : V → V
 | .agg cs => .agg (mapVs f cs)
 | .tup cs => .tup (mapVs f cs)
 | .clo fid cs => .clo fid (mapVs f cs)
 | .sl j => f (.sl j)
 | .int k n => f (.int k n)
 | .bool b => f (.bool b)
 | .str l => f (.str l)
 | .nilp => f .nilp
 | .nils => f .nils
 | .raw x => f (.raw x)
 | .ptr i o => f (.ptr i o)
 | .el i sz j o => f (.el i sz j o)
 | .box cs o => f (.box cs o)
 | .row sz els => f (.row sz els)
 | .lk els => f (.lk els)
def mapVs (f : V → V) : List V → List V
 | [] => []
 | v :: r => mapV f v :: mapVs f r
end
mutual
theorem VRel.mapV {S S' : Nat → Prop} {w : World} {ρ : Nat → Option Value} {f : V → V} (hf : ∀ v x, VRel S w ρ v x → VRel S' w ρ (f v) x) : ∀ {v : V} {x : Value}, VRel S w ρ v x → VRel S' w ρ (mapV f v) x
 | .int _ _, x, h => by simp only [Go.Proofs.YtpnpdlnpikkeaaaGreat.mapV]; exact hf _ _ h
 | .bool _, x, h => by simp only [Go.Proofs.YtpnpdlnpikkeaaaGreat.mapV]; exact hf _ _ h
 | .str _, x, h => by simp only [Go.Proofs.YtpnpdlnpikkeaaaGreat.mapV]; exact hf _ _ h
 | .nilp, x, h => by simp only [Go.Proofs.YtpnpdlnpikkeaaaGreat.mapV]; exact hf _ _ h
 | .nils, x, h => by simp only [Go.Proofs.YtpnpdlnpikkeaaaGreat.mapV]; exact hf _ _ h
 | .raw _, x, h => by simp only [Go.Proofs.YtpnpdlnpikkeaaaGreat.mapV]; exact hf _ _ h
 | .box _ _, x, h => by simp only [Go.Proofs.YtpnpdlnpikkeaaaGreat.mapV]; exact hf _ _ h
 | .row _ _, x, h => by simp only [Go.Proofs.YtpnpdlnpikkeaaaGreat.mapV]; exact hf _ _ h
 | .lk _, x, h => by simp only [Go.Proofs.YtpnpdlnpikkeaaaGreat.mapV]; exact hf _ _ h
 | .ptr _ _, x, h => by simp only [Go.Proofs.YtpnpdlnpikkeaaaGreat.mapV]; exact hf _ _ h
 | .el _ _ _ _, x, h => by simp only [Go.Proofs.YtpnpdlnpikkeaaaGreat.mapV]; exact hf _ _ h
 | .sl j, x, h => by simp only [Go.Proofs.YtpnpdlnpikkeaaaGreat.mapV]; exact hf _ _ h
 | .agg cs, x, h => by
  simp only [Go.Proofs.YtpnpdlnpikkeaaaGreat.mapV, VRel] at h ⊢
  obtain ⟨xs, h1, h2⟩ := h
  exact ⟨xs, h1, LRel.mapV hf h2⟩
 | .tup cs, x, h => by
  simp only [Go.Proofs.YtpnpdlnpikkeaaaGreat.mapV, VRel] at h ⊢
  obtain ⟨xs, h1, h2⟩ := h
  exact ⟨xs, h1, LRel.mapV hf h2⟩
 | .clo fid cs, x, h => by
  simp only [Go.Proofs.YtpnpdlnpikkeaaaGreat.mapV, VRel] at h ⊢
  obtain ⟨xs, h1, h2⟩ := h
  exact ⟨xs, h1, LRel.mapV hf h2⟩
theorem LRel.mapV {S S' : Nat → Prop} {w : World} {ρ : Nat → Option Value} {f : V → V} (hf : ∀ v x, VRel S w ρ v x → VRel S' w ρ (f v) x) : ∀ {v : List V} {x : List Value}, LRel S w ρ v x → LRel S' w ρ (mapVs f v) x
 | [], x, h => by simp only [mapVs, LRel] at h ⊢; exact h
 | v :: r, x, h => by
  simp only [mapVs, LRel] at h ⊢
  obtain ⟨y, ys, h1, h2, h3⟩ := h
  exact ⟨y, ys, h1, VRel.mapV hf h2, LRel.mapV hf h3⟩
end
def lz (f : V → V) : Fm → Fm
 | [] => []
 | none :: r => none :: lz f r
 | some v :: r => some (mapV f v) :: lz f r
theorem rQ {f : V → V} : ∀ (F : Fm) (i : Nat), (lz f F).get i = (F.get i).map (mapV f)
 | [], i => by simp [lz, Fm.get]
 | none :: r, 0 => by simp [lz, Fm.get]
 | some v :: r, 0 => by simp [lz, Fm.get]
 | none :: r, i + 1 => by simp [lz, Fm.get, rQ r i]
 | some v :: r, i + 1 => by simp [lz, Fm.get, rQ r i]
theorem so {f : V → V} : ∀ (F : Fm), (lz f F).length = F.length
 | [] => rfl
 | none :: r => by simp [lz, so r]
 | some v :: r => by simp [lz, so r]
def lK (f : V → V) (id : Nat) : List (Nat × Ob) → List (Nat × Ob)
 | [] => []
 |(j, o) :: r => match Nat.beq j id with
  | true => lK f id r
  |false => match o with
   | .var t cs => (j, .var t (mapVs f cs)) :: lK f id r
   | o => (j, o) :: lK f id r
theorem qx {f : V → V} {id i : Nat} : ∀ {l : List (Nat × Ob)}, an (lK f id l) i = if i = id then .gone else match an l i with | .var t cs => .var t (mapVs f cs) | o => o
 | [] => by simp [lK, an]
 | (j, o) :: r => by
  have ih := qx (f := f) (id := id) (i := i) (l := r)
  simp only [lK]
  by_cases hj : j = id
  ·subst hj
   rw [nbT]
   simp only []
   rw [ih]
   by_cases hi : i = j
   ·simp [hi]
   ·rw [if_neg hi, if_neg hi]
    simp only [an, nbF (Ne.symm hi)]
  ·rw [nbF hj]
   simp only []
   by_cases hi : j = i
   ·subst hi
    rw [if_neg hj]
    cases o <;> simp only [an, nbT]
   ·have e2 : an ((j, o) :: r) i = an r i := by simp only [an, nbF hi]
    rw [e2, ← ih]
    cases o <;> simp only [an, nbF hi]
theorem go_frz {f : V → V} {id : Nat} (hid : H.get id ≠ .free) (hf : ∀ S w ρ, HRel S w ρ H.get → ∀ v x, VRel S w ρ v x → VRel (fun b => S b ∨ own ρ id (H.get id) b) w ρ (f v) x) (h1 : lz f F = F1) (h2 : (⟨H.nx, lK f id H.es⟩ : Hp) = H1) (k : Go P K Q p s n F1 H1) : Go P K Q p s n F H := fun S w ρ a hr hi hF => by
 subst h1 h2
 obtain ⟨g1, g2⟩ := gh (id := id) hr
 have hlt : id < H.nx := by
  rcases Nat.lt_or_ge id H.nx with h | h
  ·exact h
  ·exfalso; apply hid
   unfold Hp.get
   have : Nat.blt id H.nx = false := by cases hb : Nat.blt id H.nx; rfl; simp [Nat.blt_eq] at hb; omega
   rw [this]
 have hg : ∀ i, (⟨H.nx, lK f id H.es⟩ : Hp).get i = if i = id then .gone else match H.get i with | .var t cs => .var t (mapVs f cs) | o => o := fun i => by
  unfold Hp.get
  by_cases hi : i = id
  ·subst hi
   simp only [nlT hlt, if_true, qx]
  ·simp only [if_neg hi]
   cases hb : Nat.blt i H.nx
   ·rfl
   ·simp only [qx, if_neg hi]
 have hob : ∀ i, i ≠ id → own ρ i ((⟨H.nx, lK f id H.es⟩ : Hp).get i) = own ρ i (H.get i) := fun i hii => by
  rw [hg i, if_neg hii]
  cases H.get i <;> rfl
 have hhr : HRel (fun b => S b ∨ own ρ id (H.get id) b) w ρ (⟨H.nx, lK f id H.es⟩ : Hp).get := by
  have hne : ∀ i b, own ρ i ((⟨H.nx, lK f id H.es⟩ : Hp).get i) b → i ≠ id ∧ own ρ i (H.get i) b := fun i b hb => by
   by_cases hii : i = id
   ·subst hii; rw [hg i, if_pos rfl] at hb; exact hb.elim
   ·rw [hob i hii] at hb; exact ⟨hii, hb⟩
  refine ⟨fun i => ?_, fun i b hb => ?_, fun i j b hbi hbj => hr.dis i j b (hne i b hbi).2 (hne j b hbj).2, g1.slt⟩
  ·rw [hg i]
   by_cases hii : i = id
   ·rw [if_pos hii]; trivial
   ·rw [if_neg hii]
    have h0 := g1.ob i
    rw [cq _ _ hii] at h0
    have h1 := hr.ob i
    cases ho : H.get i with
    | var t cs =>
     rw [ho] at h1
     obtain ⟨b, xs, q1, q2, q3⟩ := h1
     exact ⟨b, xs, q1, q2, q3.mapV (hf S w ρ hr)⟩
    | _ => rw [ho] at h0; exact h0
  ·have := hne i b hb
   exact g1.sep i b (by rw [cq _ _ this.1]; exact this.2)
 have hii : Inv K (fun b => S b ∨ own ρ id (H.get id) b) w ρ (⟨H.nx, lK f id H.es⟩ : Hp).get := by
  have h0 := hi.frz hr id
  refine ⟨h0.chg, h0.s0, h0.s1, fun i b hb => ?_, h0.pin⟩
  by_cases hii : i = id
  ·subst hii; rw [hg i, if_pos rfl] at hb; exact hb.elim
  ·rw [hob i hii] at hb; exact hi.ow i b hb
 have := k _ w ρ a hhr hii ⟨hF.size, hF.defers, by rw [so]; exact hF.len, fun i u hu => by
  rw [rQ] at hu
  obtain ⟨v, h3, h4⟩ := Option.map_eq_some_iff.1 hu
  obtain ⟨x, h5, h6⟩ := hF.get i v h3
  exact ⟨x, h5, by rw [← h4]; exact h6.mapV (hf S w ρ hr)⟩⟩
 cases p with
 | drw all L m left listed => exact fun hs => rM (pj (fun b hb => .inl hb) Agree.refl) (fun x _ h => h) _ _ _ _ (this hs)
 | code c => exact this
 | ops all rest => exact this
 | ex e => exact this
def fzR (id sz : Nat) (els : List V) : V → V
 |.sl j => match Nat.beq j id with
  | true => .row sz els
  | false => .sl j
 | v => v
def fzP (id : Nat) (cs : List V) : V → V
 |.ptr j o => match Nat.beq j id with
  | true => .box cs o
  | false => .ptr j o
 | v => v
theorem gFR {e : TypeId} {sz : Nat} {els : List V} (id : Nat) (ho : H.get id = .row e sz els) (hpu : pureL els = true) (h1 : lz (fzR id sz els) F = F1) (h2 : (⟨H.nx, lK (fzR id sz els) id H.es⟩ : Hp) = H1) (k : Go P K Q p s n F1 H1) : Go P K Q p s n F H :=
 go_frz (f := fzR id sz els) (by rw [ho]; simp) (fun S w ρ hr v x hx => by
  unfold fzR
  split
  ·split
   ·rename_i hb
    have := Nat.eq_of_beq_eq_true hb
    subst this
    exact sC hr ho hpu hx
   ·exact hx.up (gh hr).2
  ·exact hx.up (gh hr).2) h1 h2 k
theorem gFP {t : TypeId} {cs : List V} (id : Nat) (ho : H.get id = .var t cs) (hpu : pureL cs = true) (h1 : lz (fzP id cs) F = F1) (h2 : (⟨H.nx, lK (fzP id cs) id H.es⟩ : Hp) = H1) (k : Go P K Q p s n F1 H1) : Go P K Q p s n F H :=
 go_frz (f := fzP id cs) (by rw [ho]; simp) (fun S w ρ hr v x hx => by
  unfold fzP
  split
  ·split
   ·rename_i hb
    have := Nat.eq_of_beq_eq_true hb
    subst this
    exact yG hr ho hpu hx
   ·exact hx.up (gh hr).2
  ·exact hx.up (gh hr).2) h1 h2 k
def mkF : Nat → Nat → List (Nat × V) → Fm
 | 0, _, _ => []
 | n + 1, i, [] => none :: mkF n (i + 1) []
 |n + 1, i, (j, v) :: r => match Nat.beq i j with
  | true => some v :: mkF n (i + 1) r
  | false => none :: mkF n (i + 1) ((j, v) :: r)
end
end Go.Proofs.YtpnpdlnpikkeaaaGreat
namespace Go.Proofs.YtpnpdlnpikkeaaaGreat
open Go.RowKit
mutual
def vEq : V → V → Bool
 |.int k n, v => match v with
  | .int k' n' => kEq k k' && iEq n n'
  | _ => false
 |.bool b, v => match v with
  | .bool c => b == c
  | _ => false
 |.str l, v => match v with
  | .str l' => lEq l l'
  | _ => false
 |.nilp, v => match v with
  | .nilp => true
  | _ => false
 |.nils, v => match v with
  | .nils => true
  | _ => false
 |.ptr i o, v => match v with
  | .ptr j p => Nat.beq i j && Nat.beq o p
  | _ => false
 |.el i z k o, v => match v with
  | .el i' z' k' o' => Nat.beq i i' && Nat.beq z z' && Nat.beq k k' && Nat.beq o o'
  | _ => false
 |.sl i, v => match v with
  | .sl j => Nat.beq i j
  | _ => false
 |.row z cs, v => match v with
  | .row z' cs' => Nat.beq z z' && vEqL cs cs'
  | _ => false
 |.agg cs, v => match v with
  | .agg cs' => vEqL cs cs'
  | _ => false
 |.tup cs, v => match v with
  | .tup cs' => vEqL cs cs'
  | _ => false
 | .raw _, _ => false
 | .box _ _, _ => false
 | .clo _ _, _ => false
 | .lk _, _ => false
def vEqL : List V → List V → Bool
 |[], vs => match vs with
  | [] => true
  | _ :: _ => false
 |v :: r, vs => match vs with
  | u :: q => vEq v u && vEqL r q
  | [] => false
end
mutual
theorem vEq_eq : ∀ {v u : V}, vEq v u = true → v = u
 | .int k n, u, h => by
  unfold vEq at h
  split at h
  ·rename_i k' n'
   simp only [Bool.and_eq_true, oV, beq_iff_eq] at h
   obtain ⟨h1, h2⟩ := h
   have : k = k' := by
    unfold kEq at h1
    split at h1 <;> first | rfl | cases h1
   rw [this, h2]
  ·cases h
 | .bool b, u, h => by
  unfold vEq at h
  split at h
  ·rw [beq_iff_eq] at h; rw [h]
  ·cases h
 | .str l, u, h => by
  unfold vEq at h
  split at h
  ·rw [mw, beq_iff_eq] at h; rw [h]
  ·cases h
 | .nilp, u, h => by
  unfold vEq at h
  split at h
  ·rfl
  ·cases h
 | .nils, u, h => by
  unfold vEq at h
  split at h
  ·rfl
  ·cases h
 | .ptr i o, u, h => by
  unfold vEq at h
  split at h
  ·simp only [Bool.and_eq_true, Nat.beq_eq] at h
   obtain ⟨rfl, rfl⟩ := h; rfl
  ·cases h
 | .el i z k o, u, h => by
  unfold vEq at h
  split at h
  ·simp only [Bool.and_eq_true, Nat.beq_eq] at h
   obtain ⟨⟨⟨rfl, rfl⟩, rfl⟩, rfl⟩ := h; rfl
  ·cases h
 | .sl i, u, h => by
  unfold vEq at h
  split at h
  ·rw [Nat.beq_eq] at h; rw [h]
  ·cases h
 | .row z cs, u, h => by
  unfold vEq at h
  split at h
  ·simp only [Bool.and_eq_true, Nat.beq_eq] at h
   obtain ⟨rfl, h2⟩ := h
   rw [vEqL_eq h2]
  ·cases h
 | .agg cs, u, h => by
  unfold vEq at h
  split at h
  ·rw [vEqL_eq h]
  ·cases h
 | .tup cs, u, h => by
  unfold vEq at h
  split at h
  ·rw [vEqL_eq h]
  ·cases h
 | .raw _, u, h => by unfold vEq at h; cases h
 | .box _ _, u, h => by unfold vEq at h; cases h
 | .clo _ _, u, h => by unfold vEq at h; cases h
 | .lk _, u, h => by unfold vEq at h; cases h
theorem vEqL_eq : ∀ {v u : List V}, vEqL v u = true → v = u
 | [], u, h => by
  unfold vEqL at h
  split at h
  ·rfl
  ·cases h
 | v :: r, u, h => by
  unfold vEqL at h
  split at h
  ·simp only [Bool.and_eq_true] at h
   rw [vEq_eq h.1, vEqL_eq h.2]
  ·cases h
end
def fmB (σ : List Nat) : Fm → Fm → Bool
 |[], F' => match F' with
  | [] => true
  | _ :: _ => false
 |x :: r, F' => match F' with
  | [] => false
  |y :: r' => (match y with
   | none => true
   |some u => match x with
    | some v => vEq v (u.ren σ)
    | none => false) && fmB σ r r'
theorem AJ {σ : List Nat} : ∀ {F F' : Fm}, fmB σ F F' = true → leF σ F F' ∧ F.length = F'.length
 | [], F', h => by
  unfold fmB at h
  split at h
  ·simp [leF]
  ·cases h
 | x :: r, F', h => by
  unfold fmB at h
  split at h
  ·cases h
  ·rename_i y r'
   simp only [Bool.and_eq_true] at h
   obtain ⟨h1, h2⟩ := h
   obtain ⟨g1, g2⟩ := AJ h2
   refine ⟨?_, by simp [g2]⟩
   cases y with
   | none => simp only [leF]; exact g1
   | some u =>
    simp only at h1
    split at h1
    ·rename_i v
     simp only [leF]
     exact ⟨⟨v, rfl, aA.of_eq (vEq_eq h1)⟩, g1⟩
    ·cases h1
theorem aD.of_eq {v u : List V} (h : v = u) : aD v u := h ▸ aD.rfl
def obB (o : Ob) : Ob → Bool
 | .gone => true
 |.var t cs => match o with
  | .var t' cs' => Nat.beq t' t && vEqL cs' cs
  | _ => false
 |.row e z els => match o with
  | .row e' z' els' => Nat.beq e' e && Nat.beq z' z && vEqL els' els
  | _ => false
 | _ => false
theorem DF {o o' : Ob} (h : obB o o' = true) : fS o o' := by
 unfold obB at h
 split at h
 ·cases o <;> simp [fS]
 ·split at h
  ·simp only [Bool.and_eq_true, Nat.beq_eq] at h
   obtain ⟨rfl, h2⟩ := h
   exact ⟨rfl, aD.of_eq (vEqL_eq h2)⟩
  ·cases h
 ·split at h
  ·simp only [Bool.and_eq_true, Nat.beq_eq] at h
   obtain ⟨⟨rfl, rfl⟩, h2⟩ := h
   exact ⟨rfl, rfl, vEqL_eq h2⟩
  ·cases h
 ·cases h
def hpB (σ : List Nat) (H : Hp) : List (Nat × Ob) → Bool
 | [] => true
 |(j, o) :: r => (match atN σ j with
  | some i => obB (H.get i) (o.ren σ)
  | none => false) && hpB σ H r
theorem Au {σ : List Nat} {H : Hp} : ∀ {l : List (Nat × Ob)}, hpB σ H l = true → leH σ H l
 | [], _ => by simp [leH]
 | (j, o) :: r, h => by
  simp only [hpB, Bool.and_eq_true] at h
  obtain ⟨h1, h2⟩ := h
  simp only [leH]
  refine ⟨?_, Au h2⟩
  split at h1
  ·rename_i i hi
   exact ⟨i, hi, DF h1⟩
  ·cases h1
def Fe (k i : Nat) : Nat := match Nat.beq i k with
 | true => k + 1
 |false => match Nat.beq i (k + 1) with
  | true => k
  | false => i
def Ck (k : Nat) : Nat → List Nat → List Nat
 | 0, acc => acc
 | n + 1, acc => fu (Fe k n) fun x => Ck k n (x :: acc)
def vV (k : Nat) (F : Fm) (H : Hp) (F' : Fm) (H' : Hp) : Bool :=
 listK (Ck k H'.nx []) fun σ => fmB σ F F' && hpB σ H H'.es && (dH σ && Nat.ble σ.length H'.nx && yX σ (List.range k))
theorem go_alike {P : Program} {K : Ctx} {Q : Exit → Act → World → Prop} {s : List EI} {n : Nat} {F F' : Fm} {H H' : Hp} {e : Exit} {k : Nat} (h : vV k F H F' H' = true) (hp : ∀ id x, K.pin id = some x → id < k) (c : Go P K Q (.ex e) s n F' H') : Go P K Q (.ex e) s n F H := fun S w ρ a hr hi hf => by
 unfold vV at h
 rw [cw] at h
 simp only [Bool.and_eq_true] at h
 obtain ⟨⟨h1, h2⟩, ⟨h3, h4⟩, h5⟩ := h
 obtain ⟨g1, g2⟩ := AJ h1
 refine go_sub _ (List.range k) rfl (fun id x h => List.mem_range.2 (hp id x h)) g1 (Au h2) ?_ c S w ρ a hr hi hf
 simp only [Bool.and_eq_true]
 exact ⟨⟨⟨h3, h4⟩, h5⟩, by rw [← g2]; exact Nat.ble_eq_true_of_le hf.len⟩
end Go.Proofs.YtpnpdlnpikkeaaaGreat
namespace Go.Proofs.YtpnpdlnpikkeaaaGreat
open Go.RowKit
inductive Rs where
 | ok (e : Bool) (F : Fm) (H : Hp)
 | pt (p : EP) (s : List EI) (F : Fm) (H : Hp)
 | er (n m : Nat)
def DE : V → List Nat → List Nat
 | .ptr id _, acc => id :: acc
 | .el id _ _ _, acc => id :: acc
 | .sl id, acc => id :: acc
 | _, acc => acc
def Cb : List V → List Nat → List Nat
 | [], acc => acc
 | v :: r, acc => Cb r (DE v acc)
def Ek : V → List Nat → List Nat
 | .agg cs, acc => Cb cs acc
 | v, acc => DE v acc
def pJ : List V → List Nat → List Nat
 | [], acc => acc
 | .tup vs :: r, acc => pJ r (vs.foldl (fun acc v => Ek v acc) acc)
 | v :: r, acc => pJ r (Ek v acc)
def iC (i : Nat) : List Nat → Bool
 | [] => false
 |j :: r => match Nat.beq i j with
  | true => true
  | false => iC i r
def mB (H : Hp) : Nat → List Nat → List Nat → List Nat
 | 0, _, acc => acc
 | _ + 1, [], acc => acc
 |n + 1, id :: r, acc => match iC id acc with
  | true => mB H n r acc
  |false => match H.get id with
   | .var _ cs => mB H n (Cb cs r) (id :: acc)
   | _ => mB H n r (id :: acc)
def rf {α : Type} (R : List Nat) : List (Nat × Ob) → (List (Nat × Ob) → α) → α
 | [], c => c []
 |(i, o) :: r, c => match iC i R with
  | true => rf R r fun r' => c ((i, o) :: r')
  | false => rf R r c
def pu {α : Type} (nx : Nat) (R : List Nat) : List (Nat × Ob) → (List (Nat × Ob) → α) → α
 | [], c => c []
 |(i, o) :: r, c => match !iC i R && Nat.blt i nx with
  |true => match o with
   | .free => pu nx R r fun r' => c ((i, .gone) :: r')
   | o => pu nx R r fun r' => c ((i, o) :: r')
  | false => pu nx R r c
def yD {α : Type} (lo : Nat) (H : Hp) (v : V) (c : V → Hp → α) : α := match v with
 |.sl id => match Nat.ble lo id with
  |true => match H.get id with
   |.row _ sz els => match pureL els with
    | true => tN id H.es fun es => c (.row sz els) ⟨H.nx, es⟩
    | false => c v H
   | _ => c v H
  | false => c v H
 | _ => c v H
def yB {α : Type} (lo : Nat) (H : Hp) : List V → (List V → Hp → α) → α
 | [], c => c [] H
 | v :: r, c => yD lo H v fun v' H' => yB lo H' r fun r' H'' => c (v' :: r') H''
def Cd {α : Type} (lo : Nat) (H : Hp) (v : V) (c : V → Hp → α) : α := match v with
 | .agg cs => yB lo H cs fun cs H' => c (.agg cs) H'
 | v => yD lo H v c
def vu {α : Type} (lo : Nat) (H : Hp) : List V → (List V → Hp → α) → α
 | [], c => c [] H
 | v :: r, c => Cd lo H v fun v' H' => vu lo H' r fun r' H'' => c (v' :: r') H''
def Ag (H : Hp) : List Nat → Bool
 | [] => false
 |i :: r => match H.get i with
  | .row _ _ _ => true
  | _ => Ag H r
def CJ (o : Oper) : Bool := match o.op with
 | .store .. => true
 | _ => false
def DY (o : Oper) : Bool := match o.op with
 | .alloc .. => false
 | .box .. => false
 | .store .. => false
 | .buildSlice .. => false
 | .makeSlice .. => false
 | .call ⟨.builtin .len, _, _⟩ => true
 | .call ⟨.builtin .max, _, _⟩ => true
 | .call .. => false
 | _ => true
def xe : Nat → List Oper → Nat
 | i, [] => i
 |i, o :: r => match CJ o with
  | true => i
  | false => xe (i + 1) r
def qH (T : Tab) (H : Hp) (all : Array Oper) : List Oper → Fm → List Nat → List Nat → List Nat
 | [], _, rd, cl => rd.filter fun i => !iC i cl
 |o :: r, F, rd, cl => match bA F all o.guard with
  | some false => F.puto o.dst (some (.tup [])) fun F' => qH T H all r F' rd cl
  |_ => match lE T H.get F o.op with
   | some v => F.puto o.dst (some v) fun F' => qH T H all r F' rd cl
   |none => match oH F o.op with
    |some id => match kP T H.get F H.nx o.op with
     | some (v, _) => F.puto o.dst v fun F' => qH T H all r F' (match iC id rd with | true => rd | false => id :: rd) cl
     | none => F.puto o.dst none fun F' => qH T H all r F' rd cl
    |none => match o.op with
     |.call ⟨.value (.func _), ⟨args⟩, _⟩ => match jb F args with
      | some vs => F.puto o.dst none fun F' => qH T H all r F' rd (mB H 40 (pJ vs []) cl)
      | none => F.puto o.dst none fun F' => qH T H all r F' rd cl
     | _ => F.puto o.dst none fun F' => qH T H all r F' rd cl
def ta (F : Fm) (all : Array Oper) (L : List Nat) (m : Nat) (listed : Array Bool) : List Nat → Option Nat
 | [] => none
 |i :: r => match all[i]? with
  |some o => match Nat.beq i m with
   | true => ta F all L m listed r
   |false => match DY o with
    |true => match Region.free .any all listed i with
     | true => some i
     | false => ta F all L m listed r
    | false => ta F all L m listed r
  | none => none
section
variable (T : Tab) (ih : EP → List EI → Fm → Hp → Rs)
def za (keep : Bool) (vs : List V) (fn : Func) (b : Code) (H : Hp) (L : List Nat) (ok : Bool) (c : V → Hp → Rs) : Rs :=
 match mB H 40 (pJ vs []) [] with
 |R => match (cG H.get L && L.all fun i => !iC i R) || ok with
  |true => rf R H.es fun es1 => match ih (.code b) [] (kL fn.ntmps vs) ⟨H.nx, es1⟩ with
   |.ok _ F1 H1 => match pB T H1.get F1 fn.results.toList with
    |some rs => match Nat.ble H.nx H1.nx with
     |true => match keep || Ag H R with
      | true => pu H.nx R H.es fun es2 => c (me rs) ⟨H1.nx, H1.es ++ es2⟩
      |false => vu H.nx H1 rs fun rs H2 => match mB H2 60 (pJ rs R) [] with
       | R2 => rf R2 H2.es fun es3 => pu H.nx R H.es fun es2 => c (me rs) ⟨H2.nx, es3 ++ es2⟩
     | false => .er 1 0
    | none => .er 2 0
   | .er n m => .er n m
   | .pt .. => .er 3 0
  | false => .er 4 0
def pw (F : Fm) (H : Hp) (L : List Nat) (ok : Bool) (o : Oper) (c : Option V → Hp → Rs) : Rs :=
 match lE T H.get F o.op with
 | some v => c (some v) H
 |none => match fu H.nx fun nid => kP T H.get F nid o.op with
  |some (v, ed) => match (cG H.get L && ed.clear L) || ok with
   |true => H.ap ed fun H' => match v with
    | some v => c (some v) H'
    | none => c (some (.tup [])) H'
   | false => .er 5 0
  |none => match o.op with
   |.call ⟨.value (.func fid), ⟨args⟩, _⟩ => match jb F args with
    |some vs => match T.nat fid vs with
     | some v => c (some v) H
     |none => match T.fn fid with
      |some fn => match fn.body with
       |some b => match Nat.ble vs.length fn.ntmps with
        | true => za T ih (T.keep fid) vs fn b H L ok fun v H' => c (some v) H'
        | false => .er 6 fid
       | none => .er 7 fid
      | none => .er 8 fid
    | none => .er 9 fid
   | _ => .er (10000 + o.type) (match o.dst with | some d => d | none => 999)
def vO (l : List Nat) (j : Nat) : Bool := match l with
 | [x] => Nat.beq x j
 | _ => false
def yU (x y i : Nat) : Nat := match Nat.beq x i with
 | true => y
 |false => match Nat.beq y i with
  | true => x
  | false => i
def uP (all : Array Oper) (L : List Nat) (m i : Nat) (o : Oper) (ps : List (Nat × Operand)) (v : V) (s : List EI) : Nat → Array Bool → Fm → Hp → Rs
 |left, listed, F, H => match cG H.get L || (listed.setIfInBounds i true).getD m false with
  |true => match Region.ready .any all listed with
   |[x] => match Nat.beq x i with
    | true => F.puto o.dst (some v) fun F' => ih (.drw all L m left (listed.setIfInBounds i true)) s F' H
    | false => .er 41 i
   |[x, y] => match left with
    | 0 => .er 42 i
    |left + 1 => fu (yU x y i) fun j => match Nat.beq j i with
     | true => .er 43 i
     |false => match all[j]? with
      |some oj => match vO (Region.ready .any all (listed.setIfInBounds i true)) j && uE o.dst oj.dst && oR oj.dst ps && (match o.dst with | some t => (F.get t).isNone | none => true) with
       |true => match bA F all oj.guard with
        | some true => pw T ih F H L ((listed.setIfInBounds j true).getD m false && ((listed.setIfInBounds j true).setIfInBounds i true).getD m false) oj fun u H' => F.puto oj.dst u fun F' => uP all L m i o ps v s left (listed.setIfInBounds j true) F' H'
        | _ => .er 44 i
       | false => .er 45 i
      | none => .er 46 i
   | _ => .er 47 i
  | false => .er 48 i
def oL (T : Tab) (F : Fm) (all : Array Oper) : List Nat → Option (Nat × Oper × List (Nat × Operand) × V)
 | [] => none
 |i :: r => match all[i]? with
  |some ⟨_, .buildSlice _ _ ⟨ps⟩, _, _, _, none⟩ => match kC F ps with
   |some vs => match om T all i vs with
    | some (o, ps', v) => some (i, o, ps', v)
    | none => oL T F all r
   | none => oL T F all r
  | _ => oL T F all r
def Bw (all : Array Oper) (L : List Nat) (m left i j : Nat) (listed : Array Bool) (s : List EI) (F : Fm) (H : Hp) : Rs := match all[i]? with
 |some oi => match all[j]? with
  |some oj => match bA F all oi.guard with
   |some true => match bA F all oj.guard with
    |some true => pw T ih F H L ((listed.setIfInBounds i true).getD m false) oi fun ui Hi => F.puto oi.dst ui fun Fi => match ih (.drw all L m left (listed.setIfInBounds i true)) [] Fi Hi with
     |.ok false F1 H1 => pw T ih F H L ((listed.setIfInBounds j true).getD m false) oj fun uj Hj => F.puto oj.dst uj fun Fj => match ih (.drw all L m left (listed.setIfInBounds j true)) [] Fj Hj with
      |.ok false F2 H2 => match vV H.nx F2 H2 F1 H1 with
       | true => ih (.ex .normal) s F1 H1
       | false => .er 51 i
      | .er a b => .er a b
      | _ => .er 52 i
     | .er a b => .er a b
     | _ => .er 53 i
    | _ => .er 54 i
   | _ => .er 55 i
  | none => .er 56 i
 | none => .er 57 i
def yj (c : Code) (s : List EI) (F : Fm) (H : Hp) : Rs := match c with
 | .seq x y => ih (.code x) (.seq y :: s) F H
 | .block id c => ih (.code c) (.blk id :: s) F H
 | .skip => ih (.ex .normal) s F H
 | .ret => ih (.ex .ret) s F H
 | .exit id => ih (.ex (.exit id)) s F H
 | .scope c => ih (.code c) (.scp :: s) F H
 | .label _ => ih (.ex .normal) s F H
 | .loop c => ih (.code c) (.loop c 1000000 :: s) F H
 |.cond c x y => match aT F c with
  | some (.bool true) => ih (.code x) s F H
  | some (.bool false) => ih (.code y) s F H
  | _ => .er 11 0
 | .region _ ⟨l⟩ false => ih (.ops ⟨l⟩ l) s F H
 |.region _ ⟨l⟩ true => match Region.noSelect ⟨l⟩ with
  | true => listK (qH T H ⟨l⟩ l F [] []) fun L => fu (xe 0 l) fun m => fu l.length fun n => ih (.drw ⟨l⟩ L m n (Array.replicate n false)) s F H
  | false => .er 13 0
 | _ => .er 14 0
def uW (all : Array Oper) (rest : List Oper) (s : List EI) (F : Fm) (H : Hp) : Rs := match rest with
 | [] => ih (.ex .normal) s F H
 |o :: r => match bA F all o.guard with
  | some false => F.puto o.dst (some (.tup [])) fun F' => ih (.ops all r) s F' H
  | some true => pw T ih F H [] true o fun v H' => F.puto o.dst v fun F' => ih (.ops all r) s F' H'
  | none => .er 15 0
def yC (e : Exit) (s : List EI) (F : Fm) (H : Hp) : Rs := match s with
 |[] => match e with
  | .normal => .ok false F H
  | .ret => .ok true F H
  | _ => .er 16 0
 |.seq c :: s => match e with
  | .normal => ih (.code c) s F H
  | .exit i => ih (.ex (.exit i)) s F H
  | .ret => ih (.ex .ret) s F H
  | _ => .er 17 0
 |.loop c j :: s => match e with
  |.normal => match j with
   | 0 => .er 18 0
   | j + 1 => ih (.code c) (.loop c j :: s) F H
  | .exit i => ih (.ex (.exit i)) s F H
  | .ret => ih (.ex .ret) s F H
  | _ => .er 19 0
 |.scp :: s => match e with
  | .normal => ih (.ex .normal) s F H
  | .exit i => ih (.ex (.exit i)) s F H
  | .ret => ih (.ex .ret) s F H
  | _ => .er 20 0
 |.blk id :: s => match e with
  | .normal => ih (.ex .normal) s F H
  |.exit i => match Nat.beq i id with
   | true => ih (.ex .normal) s F H
   | false => ih (.ex (.exit i)) s F H
  | .ret => ih (.ex .ret) s F H
  | _ => .er 21 0
def yO (all : Array Oper) (L : List Nat) (m left : Nat) (listed : Array Bool) (s : List EI) (F : Fm) (H : Hp) : Rs := match Region.ready .any all listed with
 | [] => ih (.ex .normal) s F H
 |i :: R => match left with
  | 0 => .er 22 0
  |left + 1 => match R with
   |[] => match all[i]? with
    |some o => match bA F all o.guard with
     | some false => F.puto o.dst (some (.tup [])) fun F' => ih (.drw all L m left (listed.setIfInBounds i true)) s F' H
     | some true => pw T ih F H L ((listed.setIfInBounds i true).getD m false) o fun v H' => F.puto o.dst v fun F' => ih (.drw all L m left (listed.setIfInBounds i true)) s F' H'
     | none => .er (6000 + all.size) i
    | none => .er 24 0
   |_ => match ta F all L m listed (i :: R) with
    |some i => match all[i]? with
     |some o => match (Region.ready .any all listed).contains i && Region.free .any all listed i && !Nat.beq i m with
      |true => match bA F all o.guard with
       | some false => F.puto o.dst (some (.tup [])) fun F' => ih (.drw all L m left (listed.setIfInBounds i true)) s F' H
       |some true => match lE T H.get F o.op with
        | some v => F.puto o.dst (some v) fun F' => ih (.drw all L m left (listed.setIfInBounds i true)) s F' H
        |none => match oH F o.op with
         |some id => match L.contains id && mS .any all m i && !listed.getD m false with
          |true => match kP T H.get F H.nx o.op with
           | some (some v, _) => F.puto o.dst (some v) fun F' => ih (.drw all L m left (listed.setIfInBounds i true)) s F' H
           | _ => .er (4000 + all.size) i
          | false => .er (2000 + all.size) i
         | none => .er (3000 + all.size) i
       | none => .er (5000 + all.size) i
      | false => .er 29 i
     | none => .er 30 i
    |none => match oL T F all (i :: R) with
     | some (i, o, ps, v) => F.puto o.dst none fun F' => uP T ih all L m i o ps v s left listed F' H
     |none => match R with
      | [j] => Bw T ih all L m left i j listed s F H
      | _ => .er (1000 + all.size) i
def step (p : EP) (s : List EI) (F : Fm) (H : Hp) : Rs := match p with
 | .code c => yj T ih c s F H
 | .ops all rest => uW T ih all rest s F H
 | .ex e => yC ih e s F H
 | .drw all L m left listed => yO T ih all L m left listed s F H
end
def run (T : Tab) : Nat → EP → List EI → Fm → Hp → Rs
 | 0, p, s, F, H => .pt p s F H
 | k + 1, p, s, F, H => step T (run T k) p s F H
end Go.Proofs.YtpnpdlnpikkeaaaGreat
namespace Go.Proofs.YtpnpdlnpikkeaaaGreat
open Go.RowKit
set_option maxRecDepth 100000
def tyL : List (Nat × TD) := [
 (30, ⟨4, 72, .agg [.int .i64 0, .str [], .nils, .nils], .struct [(0, 1, true), (1, 1, true), (2, 1, true), (3, 1, true)]⟩),
 (3, ⟨1, 8, .int .i64 0, .sc⟩),
 (9, ⟨1, 16, .str [], .str⟩),
 (25, ⟨1, 24, .nils, .sl 30⟩),
 (28, ⟨1, 24, .nils, .sl 9⟩),
 (44, ⟨1, 24, .nils, .sl 47⟩),
 (5, ⟨1, 1, .int .u8 0, .sc⟩),
 (51, ⟨1, 8, .nilp, .sc⟩),
 (55, ⟨3, 40, .agg [.int .i64 0, .str [], .str []], .struct [(0, 1, true), (1, 1, true), (2, 1, true)]⟩),
 (98, ⟨1, 8, .nilp, .sc⟩),
 (103, ⟨4, 32, .agg [.int .i64 0, .int .i64 0, .int .i64 0, .int .i64 0], .struct [(0, 1, true), (1, 1, true), (2, 1, true), (3, 1, true)]⟩),
 (39, ⟨1, 8, .nilp, .sc⟩),
 (47, ⟨2, 32, .agg [.str [], .str []], .struct [(0, 1, true), (1, 1, true)]⟩),
 (48, ⟨1, 24, .nils, .sl 55⟩),
 (35, ⟨1, 8, .int .i64 0, .sc⟩),
 (53, ⟨5, 56, .agg [.nils, .int .i64 0, .int .i64 0, .int .i64 0, .int .i64 0], .struct [(0, 1, true), (1, 1, true), (2, 1, true), (3, 1, true), (4, 1, true)]⟩),
 (22, ⟨1, 24, .nils, .sl 3⟩),
 (83, ⟨3, 48, .agg [.nilp, .nils, .str []], .struct [(0, 2, false), (2, 1, true)]⟩),
 (59, ⟨2, 32, .agg [.nils, .int .i64 0], .struct [(0, 1, true), (1, 1, true)]⟩),
 (81, ⟨2, 32, .agg [.nilp, .nils], .struct [(0, 1, true), (1, 1, true)]⟩),
 (4, ⟨1, 1, .bool false, .bool⟩)]
def mm {α : Type} : List (Nat × α) → Nat → Option α
 | [], _ => none
 |(i, x) :: r, j => match Nat.beq i j with
  | true => some x
  | false => mm r j
def tyB (P : Program) : List (Nat × TD) → Bool
 | [] => true
 | (t, d) :: r => tdB P t d && tyB P r
theorem zH {P : Program} : ∀ {l : List (Nat × TD)}, tyB P l = true → ∀ t d, mm l t = some d → TdOk P t d
 | [], _, t, d, h => by cases h
 | (i, x) :: r, hb, t, d, h => by
  simp only [tyB, Bool.and_eq_true] at hb
  simp only [mm] at h
  split at h
  ·rename_i e
   have := Nat.eq_of_beq_eq_true e
   subst this
   injection h with h; subst h
   exact ET hb.1
  ·exact zH hb.2 t d h
theorem zO : ∀ t d, mm tyL t = some d → TdOk Tryz.prog t d := zH (by kernel_rfl)
noncomputable def fnL : List (Nat × Func) := [(18, Tryz.f18), (31, Tryz.f31), (32, Tryz.f32), (33, Tryz.f33), (52, Tryz.f52), (53, Tryz.f53), (54, Tryz.f54), (55, Tryz.f55), (56, Tryz.f56), (57, Tryz.f57), (58, Tryz.f58), (59, Tryz.f59), (60, Tryz.f60), (83, Tryz.f83), (84, Tryz.f84), (85, Tryz.f85), (86, Tryz.f86), (87, Tryz.f87), (89, Tryz.f89), (90, Tryz.f90), (91, Tryz.f91), (92, Tryz.f92), (102, Tryz.f102), (103, Tryz.f103), (104, Tryz.f104), (105, Tryz.f105), (70, Tryz.f70), (107, Tryz.f107), (119, Tryz.f119), (120, Tryz.f120), (124, Tryz.f124), (125, Tryz.f125)]
def fnB (P : Program) : List (Nat × Func) → Prop
 | [] => True
 | (i, f) :: r => (P.funcs[i]? = some f ∧ cF P i = true) ∧ fnB P r
theorem zJ {P : Program} : ∀ {l : List (Nat × Func)}, fnB P l → ∀ i f, mm l i = some f → P.funcs[i]? = some f ∧ cF P i = true
 | [], _, i, f, h => by cases h
 | (j, x) :: r, hb, i, f, h => by
  simp only [mm] at h
  split at h
  ·rename_i e
   have := Nat.eq_of_beq_eq_true e
   subst this
   injection h with h; subst h
   exact hb.1
  ·exact zJ hb.2 i f h
theorem Ea : ∀ i f, mm fnL i = some f → Tryz.prog.funcs[i]? = some f ∧ cF Tryz.prog i = true := zJ ⟨⟨Tryz.func18, by kernel_rfl⟩, ⟨Tryz.func31, by kernel_rfl⟩, ⟨Tryz.func32, by kernel_rfl⟩, ⟨Tryz.func33, by kernel_rfl⟩, ⟨Tryz.func52, by kernel_rfl⟩, ⟨Tryz.func53, by kernel_rfl⟩, ⟨Tryz.func54, by kernel_rfl⟩, ⟨Tryz.func55, by kernel_rfl⟩, ⟨Tryz.func56, by kernel_rfl⟩, ⟨Tryz.func57, by kernel_rfl⟩, ⟨Tryz.func58, by kernel_rfl⟩, ⟨Tryz.func59, by kernel_rfl⟩, ⟨Tryz.func60, by kernel_rfl⟩, ⟨Tryz.func83, by kernel_rfl⟩, ⟨Tryz.func84, by kernel_rfl⟩, ⟨Tryz.func85, by kernel_rfl⟩, ⟨Tryz.func86, by kernel_rfl⟩, ⟨Tryz.func87, by kernel_rfl⟩, ⟨Tryz.func89, by kernel_rfl⟩, ⟨Tryz.func90, by kernel_rfl⟩, ⟨Tryz.func91, by kernel_rfl⟩, ⟨Tryz.func92, by kernel_rfl⟩, ⟨Tryz.func102, by kernel_rfl⟩, ⟨Tryz.func103, by kernel_rfl⟩, ⟨Tryz.func104, by kernel_rfl⟩, ⟨Tryz.func105, by kernel_rfl⟩, ⟨Tryz.func70, by kernel_rfl⟩, ⟨Tryz.func107, by kernel_rfl⟩, ⟨Tryz.func119, by kernel_rfl⟩, ⟨Tryz.func120, by kernel_rfl⟩, ⟨Tryz.func124, by kernel_rfl⟩, ⟨Tryz.func125, by kernel_rfl⟩, trivial⟩
end Go.Proofs.YtpnpdlnpikkeaaaGreat
namespace Go.Proofs.YtpnpdlnpikkeaaaGreat
open Go.RowKit Lx Sx
def Bx : Tab := ⟨false, mm tyL, fun _ => none, fun _ _ => none, fun _ => false⟩
theorem ab : TabOk Tryz.prog Bx := ⟨zO, (fun _ _ h => by cases h), (fun _ _ _ h => by cases h)⟩
mutual
def treeV : Tree → V
 | .node k s ls ks => .agg [.int .i64 k, .str s, .row 1 (ls.map .str), .row 4 (kidsV ks)]
def kidsV : List Tree → List V
 | [] => []
 | t :: r => treeV t :: kidsV r
end
abbrev aj (t : Tree) : List V := [.int .i64 t.kind, .str t.text, .row 1 (t.leads.map .str), .row 4 (kidsV t.kids)]
abbrev oc (t : Tree) : V := .agg (aj t)
theorem gD (t : Tree) : treeV t = oc t := by cases t; simp [treeV, Tree.kind, Tree.text, Tree.leads, Tree.kids]
theorem mC : ∀ (ks : List Tree), (kidsV ks).length = ks.length
 | [] => rfl
 | t :: r => by simp [kidsV, mC r]
theorem aw : ∀ {ks : List Tree} {i : Nat} {u : Tree}, ks[i]? = some u → (kidsV ks)[i]? = some (oc u)
 | [], i, u, h => by simp at h
 | t :: r, 0, u, h => by
  simp only [List.getElem?_cons_zero, Option.some.injEq] at h
  subst h
  simp [kidsV, gD]
 | t :: r, i + 1, u, h => by
  simp only [List.getElem?_cons_succ] at h
  simpa [kidsV] using aw h
theorem fx : ∀ (a b : List Tree), kidsV (a ++ b) = kidsV a ++ kidsV b
 | [], b => rfl
 | t :: r, b => by simp [kidsV, fx r b]
theorem yw (t : Tree) : (oc t).pure = true := rfl
theorem sv : ∀ (ks : List Tree), pureL (kidsV ks) = true
 | [] => rfl
 | t :: r => by simp only [kidsV, pureL, gD, yw, sv r]
def pk (P : Program) (fid : FuncId) (us : List V) (v : V) : Prop := pureL us = true ∧ v.pure = true ∧ Sum P fid us ⟨0, []⟩ (fun u _ => u = v)
theorem uF (i : Nat) : (⟨0, []⟩ : Hp).get i = .free := by
 unfold Hp.get
 have : Nat.blt i 0 = false := by cases i <;> rfl
 simp only [this]
theorem uL {P : Program} {K : Ctx} {H : Hp} {fid : FuncId} {vs us : List V} {v : V} (hS : pk P fid us v) (hs : aD vs us) (L : List Nat) (hL : cG H.get L = true) : CallR P K fid vs H L (fun v' H'' => v' = v ∧ H'' = H) := fun S w ρ xs hr hi hx => by
 obtain ⟨h1, h2, h3⟩ := hS
 have hr0 : HRel S w ρ0 (⟨0, []⟩ : Hp).get := ⟨fun i => by rw [uF]; rfl, fun i b hb => by rw [uF] at hb; exact hb.elim, fun i j b hb _ => by rw [uF] at hb; exact hb.elim, hr.slt⟩
 refine (h3 S w ρ0 xs hr0 ((hs.rel hx).pure h1)).mono fun e w' hR => ?_
 obtain ⟨x, S', ρ', u, H', rfl, rfl, hr', hi', hv⟩ := hR
 have hno : ∀ b, ¬ ∃ id, own ρ0 id ((⟨0, []⟩ : Hp).get id) b := fun b ⟨id, hb⟩ => by rw [uF] at hb; exact hb
 have hc : Chg [] w w' := ⟨hi'.chg.os, hi'.chg.tape, hi'.chg.output, hi'.chg.size, fun b hb _ => hi'.chg.block b hb (hno b)⟩
 have up : Up S S' w w' ρ ρ := ⟨hi'.s0, fun b hb hlt => hc.block b hlt (by simp), fun _ _ h => h⟩
 have hs1 : ∀ b, S' b → S b ∨ w.heap.size ≤ b := fun b hb => by
  rcases hi'.s1 b hb with h | h | h
  ·exact .inl h
  ·exact absurd h (hno b)
  ·exact .inr h
 refine ⟨x, S', ρ, u, H, rfl, ⟨rfl, rfl⟩, ⟨fun i => (hr.ob i).up up (fun hf => ?_) (fun b hb => hc.block b (fd (hr.ob i) hb) (by simp)), fun i b hb => ?_, hr.dis, hr'.slt⟩, ⟨hi.chg.trans (ChgP.of hc) (fun b hb => by simp at hb), fun b hb => hi'.s0 b (hi.s0 b hb), fun b hb => ?_, hi.ow, hi.pin⟩, up, hv.pure h2, fun id hid y b hy hb => ?_⟩
 ·have := hr.ob i; rw [hf] at this; exact this
 ·intro hS
  rcases hs1 b hS with h | h
  ·exact hr.sep i b hb h
  ·have := fd (hr.ob i) hb; omega
 ·rcases hs1 b hb with h | h
  ·exact hi.s1 b h
  ·exact .inr (.inr (Nat.le_trans hi.chg.size h))
 ·exact hc.block b (fd (hr.ob id) (lh hr hL id hid y b hy hb)) (by simp)
theorem ey {α : Type} [BEq α] [LawfulBEq α] {a b : α} (h : (a != b) = false) : a = b := by simpa using h
section
variable {K : Ctx} {Q : Exit → Act → World → Prop} {p p' : EP} {s s' : List EI} {n : Nat} {F F' F1 F2 : Fm} {H H' H1 : Hp} {all : Array Oper} {rest : List Oper} {o : Oper}
theorem gR (k : Nat) (h : eV Bx k p s F H = some (p', s', F', H')) (kk : Go Tryz.prog K Q p' s' n F' H') : Go Tryz.prog K Q p s n F H := cS ab k p s F H h kk
theorem gC {PL : List Nat} {fid : FuncId} {args : List Operand} {tys : Array TypeId} {vs us : List V} {H0 : Hp} {Post : V → Hp → Prop} {d : Option Tmp} {ty : TypeId} {ps : String} {af : Array Edge} {g : Option (Nat × Bool)} (hS : fE PL Tryz.prog fid us H0 Post) (σ : List Nat) (he : cF Tryz.prog fid = true) (hw : bA F all g = some true) (hv : jb F args = some vs) (hs : aD vs (renL σ us)) (hH : leH σ H H0.es) (hc : (dH σ && Nat.beq σ.length H0.nx && σ.all fun i => Nat.blt i H.nx) = true)
  (k : ∀ v H', Post v H' → Go Tryz.prog K Q (.ops all rest) s n (F.seto d (some (v.ren (sgN PL H.nx H0.get H'.nx σ 0)))) (lX PL H σ H0 H')) : Go Tryz.prog K Q (.ops all (⟨d, .call { callee := .value (.func fid), args := args.toArray, argTypes := tys }, ty, ps, af, g⟩ :: rest)) s n F H :=
 go_opC (o := ⟨d, .call { callee := .value (.func fid), args := args.toArray, argTypes := tys }, ty, ps, af, g⟩) he rfl hw hv (ph hS σ hs hH hc [] (by simp [cG])) fun v' H'' ⟨v, H', hP, e1, e2⟩ => by subst e1 e2; exact k v H' hP
theorem gC0 {fid : FuncId} {args : List Operand} {tys : Array TypeId} {vs us : List V} {v : V} {d : Option Tmp} {ty : TypeId} {ps : String} {af : Array Edge} {g : Option (Nat × Bool)} (hS : pk Tryz.prog fid us v) (he : cF Tryz.prog fid = true) (hw : bA F all g = some true) (hv : jb F args = some vs) (hs : aD vs us) (h1 : F.puto d (some v) id = F1)
  (k : Go Tryz.prog K Q (.ops all rest) s n F1 H) : Go Tryz.prog K Q (.ops all (⟨d, .call { callee := .value (.func fid), args := args.toArray, argTypes := tys }, ty, ps, af, g⟩ :: rest)) s n F H := by
 rw [Fm.puto_eq] at h1; subst h1
 exact go_opC (o := ⟨d, .call { callee := .value (.func fid), args := args.toArray, argTypes := tys }, ty, ps, af, g⟩) he rfl hw hv (uL hS hs [] rfl) fun v' H'' ⟨e1, e2⟩ => by subst e1 e2; exact k
def slB (T : Tab) (t : TypeId) : Option (TypeId × Nat × Nat) := match T.ty t with
 |some ⟨_, _, _, .sl e⟩ => match T.ty e with
  |some ⟨sz, by_, _, _⟩ => match Nat.blt 0 sz && Nat.ble by_ 100000 with
   | true => some (e, sz, by_)
   | false => none
  | none => none
 | _ => none
theorem DO {P : Program} {T : Tab} (hT : TabOk P T) {t e : TypeId} {sz by_ : Nat} (h : slB T t = some (e, sz, by_)) : P.underlying t = some (.slice e) ∧ 0 < sz ∧ by_ ≤ 100000 ∧ ∃ z : Value, (P.info? e).map (fun i => (i.zero, i.size, i.bytes)) = some (some z, sz, by_) ∧ z.cells.size = sz := by
 unfold slB at h
 split at h
 ·rename_i ht
  split at h
  ·rename_i he
   split at h
   ·rename_i hb
    simp only [Option.some.injEq, Prod.mk.injEq] at h
    obtain ⟨rfl, rfl, rfl⟩ := h
    simp only [Bool.and_eq_true, Nat.blt_eq, Nat.ble_eq] at hb
    obtain ⟨z, h1, _, h3, _⟩ := (hT.ty _ _ he).info
    exact ⟨(hT.ty _ _ ht).sl rfl, hb.1, hb.2, z, h1, h3⟩
   ·cases h
  ·cases h
 ·cases h
theorem dAp {P : Program} {T : Tab} (hT : TabOk P T) {t e : TypeId} {x y : Operand} {sz by_ id : Nat} {els news : List V} {v : V} {ty : TypeId} (ht : slB T t = some (e, sz, by_)) (hx : aT F x = some (.sl id)) (ho : H.get id = .row e sz els) (hy : aT F y = some v) (hs : vG H.get sz v = some news) (hb : els.length + news.length ≤ 1000000000) :
  ∀ S w ρ a, HRel S w ρ H.get → FRel S w ρ a n F → Does P S w ρ H.get a ty (.call { callee := .builtin .append, args := #[x, y], argTypes := #[t, t] }) (some (.sl H.nx)) ((ED.repl id (.row e sz (els ++ news))).app H.get H.nx) (ED.repl id (.row e sz (els ++ news))).tch := fun S w ρ a hr hF => by
 obtain ⟨h1, h2, h3, z, h4, h5⟩ := DO hT ht
 obtain ⟨u, g1, g2⟩ := xf hr hF hy hs
 exact vU hr hF.fr H.get_free g1 g2 h1 h4 h5 h2 (al hF hx) ho (by simp only [maxLen]; omega) (Nat.le_trans (Nat.mul_le_mul hb h3) (by decide))
variable {L : List Nat} {m fuel c : Nat} {listed : Array Bool}
theorem gDs {id : Nat} {l : List Oper} (L : List Nat) (m sz : Nat) (hsz : l.length = sz) (hm : Tryz.prog.follows .mixedOrders = true) (hs : Region.noSelect l.toArray = true) (k : Go Tryz.prog K Q (.drw l.toArray L m sz (Array.replicate sz false)) s n F H) : Go Tryz.prog K Q (.code (.region id l.toArray true)) s n F H := xl L m sz hsz hm hs k
theorem gDr (is : List (Nat × Nat)) (hc : yv all m is listed = true) (hl : is.length = c) (hr : mt Bx all L is F H = some (F', H')) (k : Go Tryz.prog K Q (.drw all L m fuel (Bu is listed)) s n F' H') : Go Tryz.prog K Q (.drw all L m (fuel + c) listed) s n F H := by
 subst hl; exact kM ab is fuel listed F H hc hr k
theorem gDe (hd : Region.ready .any all listed = []) (k : Go Tryz.prog K Q (.ex .normal) s n F H) : Go Tryz.prog K Q (.drw all L m fuel listed) s n F H := vR hd k
theorem aW {fid : FuncId} {args : List Operand} {tys : Array TypeId} {vs us : List V} {v : V} {d : Option Tmp} {ty : TypeId} {ps : String} {af : Array Edge} {g : Option (Nat × Bool)} (i : Nat) (hS : pk Tryz.prog fid us v) (he : cF Tryz.prog fid = true) (hi : all[i]? = some ⟨d, .call { callee := .value (.func fid), args := args.toArray, argTypes := tys }, ty, ps, af, g⟩) (hrd : Region.ready .any all listed = [i]) (hw : bA F all g = some true) (hv : jb F args = some vs) (hs : aD vs us) (hL : cG H.get L = true) (h1 : F.puto d (some v) id = F1)
  (k : Go Tryz.prog K Q (.drw all L m fuel (listed.setIfInBounds i true)) s n F1 H) : Go Tryz.prog K Q (.drw all L m (fuel + 1) listed) s n F H := by
 rw [Fm.puto_eq] at h1; subst h1
 exact go_d1C he hrd hi rfl hw hv (uL hS hs L hL) (.inl rfl) fun v' H'' ⟨e1, e2⟩ => by subst e1 e2; exact k
theorem gDC {PL : List Nat} {fid : FuncId} {args : List Operand} {tys : Array TypeId} {vs us : List V} {H0 : Hp} {Post : V → Hp → Prop} {d : Option Tmp} {ty : TypeId} {ps : String} {af : Array Edge} {g : Option (Nat × Bool)} (i : Nat) (hS : fE PL Tryz.prog fid us H0 Post) (σ : List Nat) (he : cF Tryz.prog fid = true) (hi : all[i]? = some ⟨d, .call { callee := .value (.func fid), args := args.toArray, argTypes := tys }, ty, ps, af, g⟩) (hrd : Region.ready .any all listed = [i]) (hw : bA F all g = some true) (hv : jb F args = some vs) (hs : aD vs (renL σ us)) (hH : leH σ H H0.es) (hc : (dH σ && Nat.beq σ.length H0.nx && σ.all fun i => Nat.blt i H.nx) = true) (hL : (cG H.get L && L.all fun i => !σ.contains i) = true)
  (k : ∀ v H', Post v H' → Go Tryz.prog K Q (.drw all L m fuel (listed.setIfInBounds i true)) s n (F.seto d (some (v.ren (sgN PL H.nx H0.get H'.nx σ 0)))) (lX PL H σ H0 H')) : Go Tryz.prog K Q (.drw all L m (fuel + 1) listed) s n F H :=
 go_d1C he hrd hi rfl hw hv (ph hS σ hs hH hc L hL) (.inl rfl) fun v' H'' ⟨v, H', hP, e1, e2⟩ => by subst e1 e2; exact k v H' hP
end
end Go.Proofs.YtpnpdlnpikkeaaaGreat
namespace Go.Proofs.YtpnpdlnpikkeaaaGreat
open Go.RowKit Lx Sx
def lsum : List (List UInt8) → Nat
 | [] => 0
 | l :: r => l.length + 1 + lsum r
mutual
def tbulk : Tree → Nat
 | .node _ s ls ks => s.length + lsum ls + kbulk ks + 1
def kbulk : List Tree → Nat
 | [] => 0
 | t :: r => tbulk t + kbulk r
end
theorem bz (t : Tree) : 0 < tbulk t := by cases t; simp only [tbulk]; omega
theorem io : ∀ (ks : List Tree), ks.length ≤ kbulk ks
 | [] => Nat.le_refl _
 | t :: r => by have := io r; have := bz t; simp only [kbulk, List.length_cons]; omega
theorem kS : ∀ {ks : List Tree} {i : Nat} {t : Tree}, ks[i]? = some t → tbulk t ≤ kbulk ks
 | [], i, t, h => by simp at h
 | u :: r, 0, t, h => by simp only [List.getElem?_cons_zero, Option.some.injEq] at h; subst h; simp only [kbulk]; omega
 | u :: r, i + 1, t, h => by have := kS (ks := r) (i := i) (by simpa using h); simp only [kbulk]; omega
theorem dU : ∀ (a b : List Tree), kbulk (a ++ b) = kbulk a + kbulk b
 | [], b => by simp [kbulk]
 | t :: r, b => by simp only [List.cons_append, kbulk, dU r b]; omega
theorem iq : ∀ (l : List (List UInt8)), l.length ≤ lsum l
 | [] => Nat.le_refl _
 | x :: r => by have := iq r; simp only [lsum, List.length_cons]; omega
theorem np : ∀ {l : List (List UInt8)} {i : Nat} {x : List UInt8}, l[i]? = some x → x.length + 1 ≤ lsum l
 | [], i, x, h => by simp at h
 | u :: r, 0, x, h => by simp only [List.getElem?_cons_zero, Option.some.injEq] at h; subst h; simp only [lsum]; omega
 | u :: r, i + 1, x, h => by have := np (l := r) (i := i) (by simpa using h); simp only [lsum]; omega
theorem bu (t : Tree) : tbulk t = t.text.length + lsum t.leads + kbulk t.kids + 1 := by cases t; simp [tbulk, Tree.text, Tree.leads, Tree.kids]
theorem cJ {t u : Tree} {i : Nat} (h : t.kids[i]? = some u) : tbulk u < tbulk t := by
 have := kS h; rw [bu t]; omega
theorem da (t : Tree) : t.kids.length < tbulk t := by
 have := io t.kids; rw [bu t]; omega
theorem ds (t : Tree) : t.text.length < tbulk t := by rw [bu t]; omega
theorem mA (t : Tree) : t.leads.length < tbulk t := by
 have := iq t.leads; rw [bu t]; omega
theorem dc {C : Tree → Prop} (h : ∀ t : Tree, (∀ (i : Nat) (u : Tree), t.kids[i]? = some u → C u) → C t) : ∀ t, C t := fun t => by
 have : ∀ n t, tbulk t ≤ n → C t := fun n => by
  induction n with
  | zero => intro t ht; have := bz t; omega
  | succ n ih => intro t ht; exact h t fun i u hu => ih u (by have := cJ hu; omega)
 exact this _ t (Nat.le_refl _)
theorem aH {α : Type} (l : List α) (i : Nat) : (∃ x, l[i]? = some x ∧ i < l.length) ∨ (¬ i < l.length) := by
 by_cases h : i < l.length
 ·exact .inl ⟨l[i], by simp [h], h⟩
 ·exact .inr h
theorem bE {α : Type} {l : List α} {i : Nat} {x : α} (h : l[i]? = some x) : l.drop i = x :: l.drop (i + 1) := by
 obtain ⟨hl, rfl⟩ := List.getElem?_eq_some_iff.1 h
 exact List.drop_eq_getElem_cons hl
end Go.Proofs.YtpnpdlnpikkeaaaGreat
namespace Go.Proofs.YtpnpdlnpikkeaaaGreat
open Go.RowKit Lx Sx
set_option maxRecDepth 100000
set_option maxHeartbeats 4000000
mutual
def shapedT : Tree → Bool
 | .node k s _ ks => decide (0 ≤ bH k ks.length) && mX k s && kidsT k ks.length ks 0
def kidsT (k : Int) (n : Nat) : List Tree → Nat → Bool
 | [], _ => true
 | t :: r, i => oO k n i t.kind && shapedT t && kidsT k n r (i + 1)
end
end Go.Proofs.YtpnpdlnpikkeaaaGreat
namespace Go.Proofs.YtpnpdlnpikkeaaaGreat
open Go.RowKit Lx Sx
set_option maxRecDepth 100000
set_option maxHeartbeats 4000000
def dx (k : Int) : List (List UInt8) → Nat → Bool
 | [], _ => true
 | l :: r, i => aU false l (k == 1 && (i : Int) == 2) && dx k r (i + 1)
mutual
def leadedT : Tree → Bool
 | .node k _ ls ks => decide ((ls.length : Int) = bH k ks.length) && dx k ls 0 && leadedsT ks
def leadedsT : List Tree → Bool
 | [] => true
 | t :: r => leadedT t && leadedsT r
end
end Go.Proofs.YtpnpdlnpikkeaaaGreat
namespace Go.Proofs.YtpnpdlnpikkeaaaGreat
open Go.RowKit
set_option maxRecDepth 100000
def BdV (T Bs b : Nat) (p v : Value) (tl : List Value) (l : List UInt8) (w : World) : Prop :=
 Bs ≤ b ∧ w.heap[b]? = some (.cells (p :: v :: tl).toArray T (0, 0)) ∧ w.ownsRow Bs 5 1 v l.length (Lib.byteCells l)
def Bd (T Bs b : Nat) (tl : List Value) (l : List UInt8) (w : World) : Prop :=
 ∃ p v, (p = .pointer none ∨ p = .pointer (some ⟨b, 0, none⟩)) ∧ BdV T Bs b p v tl l w
def FrB (b : Nat) (w w' : World) : Prop :=
 w.heap.size ≤ w'.heap.size ∧ ∀ k, k < w.heap.size → k ≠ b → (∀ cs fr, w.heap[k]? ≠ some (.cells cs 5 fr)) → w'.heap[k]? = w.heap[k]?
theorem FrB.refl (b : Nat) (w : World) : FrB b w w := ⟨Nat.le_refl _, fun _ _ _ _ => rfl⟩
theorem FrB.trans {b : Nat} {w w1 w2 : World} (h : FrB b w w1) (k : FrB b w1 w2) : FrB b w w2 :=
 ⟨Nat.le_trans h.1 k.1, fun i hi hb hn => by
  have e := h.2 i hi hb hn
  rw [k.2 i (Nat.lt_of_lt_of_le hi h.1) hb (by rw [e]; exact hn), e]⟩
theorem FrB.keep {b : Nat} {w w' : World} (h : FrB b w w') {k : Nat} {cs : Array Value} {T : TypeId} {fr : Nat × Nat} (hk : w.heap[k]? = some (.cells cs T fr)) (hT : T ≠ 5) (hb : k ≠ b) : w'.heap[k]? = some (.cells cs T fr) := by
 have hlt : k < w.heap.size := by
  rcases Nat.lt_or_ge k w.heap.size with h' | h'
  ·exact h'
  ·simp [Array.getElem?_eq_none h'] at hk
 rw [h.2 k hlt hb (fun cs' fr' e => hT (by rw [hk] at e; simp at e; exact e.2.1)), hk]
theorem wP {w : World} {b : Nat} {o : Obj} (h : w.heap[b]? = some o) : b < w.heap.size := by
 rcases Nat.lt_or_ge b w.heap.size with h' | h'
 ·exact h'
 ·simp [Array.getElem?_eq_none h'] at h
theorem zr : (Tryz.prog.info? 81).map (·.size) = some 2 := by kernel_rfl
theorem AW : (Tryz.prog.info? 5).map (fun i => (i.zero, i.size, i.bytes)) = some (some (.int .u8 0), 1, 1) := by kernel_rfl
theorem Ak : Tryz.prog.cellsOf 5 = 1 := by kernel_rfl
def uO (T : TypeId) (n : Nat) : Prop := T ≠ 5 ∧ liesAt Tryz.prog Tryz.prog.depth T ((n + 2) / Tryz.prog.cellsOf T) 0 81 1 = true
set_option maxHeartbeats 1000000 in
set_option maxRecDepth 100000 in
theorem tw (b : Nat) (w : World) (h0 : w.cell? ⟨b, 0, none⟩ = some (.pointer (some ⟨b, 0, none⟩))) :
  Calls Tryz.prog 121 #[.pointer (some ⟨b, 0, none⟩)] w fun e w' => e = .returned (.tuple #[]) ∧ w = w' := by
 obtain ⟨j, hj, _⟩ := Option.map_eq_some_iff.1 zr
 go_enter Tryz.func121, Tryz.ntmps121
 go_wp2
 rw [Lib.run_neq_ptr_same w _ Tryz.underlying78 hj]
 go_wp2
 go_end0
 exact ⟨rfl, rfl⟩
set_option maxHeartbeats 1000000 in
set_option maxRecDepth 100000 in
theorem sD (T n b : Nat) (w : World) (hT : uO T n) (h0 : w.cell? ⟨b, 0, none⟩ = some (.pointer none)) (hsh : w.shape? b = some (T, n + 2)) (hfz : w.frozen? ⟨b, 0, none⟩ = false) :
  Calls Tryz.prog 121 #[.pointer (some ⟨b, 0, none⟩)] w fun e w' => e = .returned (.tuple #[]) ∧ w' = w.setCell ⟨b, 0, none⟩ (.pointer (some ⟨b, 0, none⟩)) := by
 obtain ⟨j, hj, hjs⟩ := Option.map_eq_some_iff.1 zr
 have HT := Lib.hid hT; clear hT
 go_enter Tryz.func121, Tryz.ntmps121
 go_wp2
 rw [Lib.run_to_unsafe w ⟨b, 0, none⟩ Tryz.underlying78 Tryz.underlying113 hj (by rw [hjs]; decide) hsh (Nat.succ_pos _)]
 simp only [Result.andThen]
 rw [Oper.upon_value]
 go_wp2
 rw [run_callFunc_extern Tryz.func126 (by kernel_rfl) (by kernel_rfl) (by kernel_rfl) (e := Extern.AbiNoEscape.same) (by kernel_rfl)]
 rw [Lib.run_noEscape]
 simp only [Result.andThen]
 rw [Oper.upon_value]
 go_wp2
 rw [Lib.run_from_unsafe w ⟨b, 0, none⟩ Tryz.underlying113 Tryz.underlying78 hj hsh HT.out.2]
 simp only [Result.andThen]
 rw [Oper.upon_value]
 go_wp2
 go_end0
 exact ⟨rfl, rfl⟩
theorem AR (T Bs b : Nat) (tl : List Value) (l : List UInt8) (w : World) (hT : uO T tl.length) (h : Bd T Bs b tl l w) :
  Calls Tryz.prog 121 #[.pointer (some ⟨b, 0, none⟩)] w fun e w' => e = .returned (.tuple #[]) ∧ ((∃ v, BdV T Bs b (.pointer (some ⟨b, 0, none⟩)) v tl l w') ∧ FrB b w w' ∧ Below Bs w w') := by
 obtain ⟨p, v, hp, hB, hbk, hown⟩ := h
 have hc0 : w.cell? ⟨b, 0, none⟩ = some p := by rw [Lib.cell_of_heap hbk]; rfl
 have hne : v.ownBlock ≠ some b := Lib.ownBlock_ne hown hbk hT.1
 rcases hp with rfl | rfl
 ·refine (sD T tl.length b w hT hc0 (by simp [World.shape?, hbk]) (Lib.frozen_of_heap hbk 0)).mono ?_
  rintro e w' ⟨rfl, rfl⟩
  refine ⟨rfl, ⟨v, hB, ?_, ?_⟩, ⟨by simp [World.setCell], fun k _ hk _ => Below.heap_setCell _ _ _ _ hk⟩, (Below.refl Bs w).setCell (p := ⟨b, 0, none⟩) hB _⟩
  ·simp [World.setCell, Array.getElem?_modify, hbk]
  ·exact hown.kept (row := some b) ⟨rfl, rfl, rfl, by simp [World.setCell], fun k _ hk => Below.heap_setCell _ _ _ _ (fun e => hk (by simp [e]))⟩ (Or.inr hne)
 ·refine (tw b w hc0).mono ?_
  rintro e w' ⟨rfl, rfl⟩
  exact ⟨rfl, ⟨v, hB, hbk, hown⟩, FrB.refl _ _, Below.refl _ _⟩
set_option maxHeartbeats 2000000 in
set_option maxRecDepth 100000 in
theorem wF (T Bs b : Nat) (tl : List Value) (l s : List UInt8) (w : World) (hT : uO T tl.length) (h : Bd T Bs b tl l w) (hlen : l.length + s.length ≤ 140737488355328) (hBw : Bs ≤ w.heap.size) :
  Calls Tryz.prog 108 #[.pointer (some ⟨b, 0, none⟩), .string ⟨s.toArray⟩] w fun e w' => e = .returned (.tuple #[.int .i64 s.length, .nilIface]) ∧ (Bd T Bs b tl (l ++ s) w' ∧ FrB b w w' ∧ Below Bs w w') := by
 obtain ⟨i0, hi, hz0, hz1, hz2⟩ := oy AW
 have HT := Lib.hid hT; clear hT
 go_enter Tryz.func108, Tryz.ntmps108
 go_wp2_with (go_at_call 121; refine (AR T Bs b tl l _ HT.out h).mono ?_)
 rintro e w1 ⟨rfl, ⟨v, hB, hbk, hown⟩, hfr, hb1⟩
 have hne : v.ownBlock ≠ some b := Lib.ownBlock_ne hown hbk HT.out.1
 have HBk := Lib.hid hbk
 have HFr := Lib.hid hfr; clear hfr h
 have c1 : w1.cell? ⟨b, 1, none⟩ = some v := by rw [Lib.cell_of_heap hbk]; rfl
 have hs1 := hb1.size
 have HB1 := Lib.hid hb1; clear hb1 hbk
 go_wp2_with (at_builtin; refine Lib.wpList_append_own_string _ rfl _ _ 79 9 rfl Bs 5 i0 Tryz.underlying79 Tryz.underlying9 hi hz0 hz1 hz2 _ _ _ rfl hown ⟨s.toArray⟩ rfl ?c3 ?c4 ?c5 ?_)
 case c3 => unfold maxLen; simp only [List.size_toArray, ByteArray.size]; omega
 case c4 => simp only [List.size_toArray, ByteArray.size]; omega
 case c5 => omega
 intro v' w2 hown' hgrow _
 have hlt : b < w1.heap.size := wP HBk.out
 have hb2 : w2.heap[b]? = some (.cells (.pointer (some ⟨b, 0, none⟩) :: v :: tl).toArray T (0, 0)) := by
  rw [hgrow.block b hlt (fun e => hne e.symm)]
  exact HBk.out
 have d1 : w2.cell? ⟨b, 1, none⟩ = some v := by rw [Lib.cell_of_heap hb2]; rfl
 have f1 : w2.frozen? ⟨b, 1, none⟩ = false := Lib.frozen_of_heap hb2 1
 have hown2 : w2.ownsRow Bs 5 1 v' (l ++ s).length (Lib.byteCells (l ++ s)) := by
  have e1 : Lib.byteCells (l ++ s) = Lib.byteCells l ++ Lib.strCells ⟨s.toArray⟩ := by simp [Lib.byteCells, Lib.strCells]
  rw [e1, List.length_append]; exact hown'
 obtain ⟨ao, n', cap, hv'⟩ : ∃ ao n' cap, v' = .slice ao n' cap := by
  rcases hown'.2 with ⟨hv, _⟩ | ⟨g, cap, cur, hv, _⟩
  ·exact ⟨_, _, _, hv⟩
  ·exact ⟨_, _, _, hv⟩
 subst hv'
 have hne2 := Lib.ownBlock_ne hown2 hb2 HT.out.1
 have HG := Lib.hid hgrow
 have HO := Lib.hid hown
 have HO2 := Lib.hid hown2
 have HB2 := Lib.hid hb2
 clear hgrow hown hown' hown2 hb2
 go_wp2
 go_ret2
 refine ⟨by simp, ⟨_, .slice ao n' cap, .inr rfl, hB, ?_, ?_⟩, ?_, ?_⟩
 ·simp [World.setCell, Array.getElem?_modify, HB2.out]
 ·exact HO2.out.kept (row := some b) ⟨rfl, rfl, rfl, by simp [World.setCell], fun k _ hk => Below.heap_setCell _ _ _ _ (fun e => hk (by simp [e]))⟩ (Or.inr hne2)
 ·refine HFr.out.trans ⟨by simp [World.setCell]; exact HG.out.size, fun k hk hkb hn => ?_⟩
  rw [Below.heap_setCell _ _ _ _ hkb, HG.out.block k hk (fun e => ?_)]
  rcases HO.out.2 with ⟨hv, _⟩ | ⟨g, cap, cur, hv, _, hg, _⟩
  ·rw [hv] at e; simp [Value.ownBlock] at e
  ·rw [hv] at e
   simp only [Value.ownBlock, Option.some.injEq] at e
   subst e
   exact hn _ _ hg
 ·exact (HB1.out.grown HG.out (by omega) (fun k hk => (HO.out.lt k hk).1)).setCell (p := ⟨b, 1, none⟩) hB _
theorem rk (W : World) (q : Option Addr) : (Builtin.unsafeString_ #[101, 3] 9 #[.pointer q, .int .i64 0]).run Tryz.prog W = .ok (.string .empty) W :=
 Lib.run_unsafeString_none W _ _ _ q
set_option maxHeartbeats 2000000 in
set_option maxRecDepth 100000 in
theorem uy (T Bs b : Nat) (tl : List Value) (l : List UInt8) (w : World) (h : Bd T Bs b tl l w) (hBw : Bs ≤ w.heap.size) :
  Calls Tryz.prog 63 #[.pointer (some ⟨b, 0, none⟩)] w fun e w' => e = .returned (.string ⟨l.toArray⟩) ∧ Below Bs w w' := by
 obtain ⟨p, v, hp, hB, hbk, hown⟩ := h
 have hlt : b < w.heap.size := wP hbk
 clear hp
 by_cases h0 : l = []
 ·subst h0
  have hUS := rk
  rcases hown.2 with ⟨rfl, _⟩ | ⟨g, cap, cur, rfl, hbg, hg, _⟩
  ·have c1 : w.drew.cell? ⟨b, 1, none⟩ = some (.slice none 0 0) := by
    have : w.drew.heap[b]? = some (.cells (p :: .slice none 0 0 :: tl).toArray T (0, 0)) := hbk
    rw [Lib.cell_of_heap this]; rfl
   have hSD : (Builtin.unsafeSliceData_ #[79] 101 #[.slice none 0 0]).run Tryz.prog w.drew = .ok (.pointer none) w.drew := rfl
   clear hbk hown
   go_enter Tryz.func63, Tryz.ntmps63
   go_wp2
   go_region
   all_goals (go_wp2; go_ret; exact ⟨rfl, Below.drew (Below.refl Bs w)⟩)
  ·by_cases hc0 : cap = 0
   ·subst hc0
    have c1 : w.drew.cell? ⟨b, 1, none⟩ = some (.slice (some ⟨g, 0, none⟩) 0 0) := by
     have : w.drew.heap[b]? = some (.cells (p :: .slice (some ⟨g, 0, none⟩) 0 0 :: tl).toArray T (0, 0)) := hbk
     rw [Lib.cell_of_heap this]; rfl
    have hSD : (Builtin.unsafeSliceData_ #[79] 101 #[.slice (some ⟨g, 0, none⟩) 0 0]).run Tryz.prog w.drew = .ok (.pointer (some ⟨w.drew.heap.size, 0, none⟩)) (w.drew.alloc (.view ⟨g, 0, none⟩ 5)) :=
     Lib.run_unsafeSliceData_zero w.drew _ _ 5 Tryz.underlying101 ⟨g, 0, none⟩ 0 (5, cur.size) (by have hg' : w.drew.heap[g]? = some (.cells cur 5 (0, 0)) := hg; simp [World.shape?, hg'])
    have c2 : (w.drew.alloc (.view ⟨g, 0, none⟩ 5)).cell? ⟨b, 1, none⟩ = some (.slice (some ⟨g, 0, none⟩) 0 0) := by
     have : (w.drew.alloc (.view ⟨g, 0, none⟩ 5)).heap[b]? = _ := (Below.heap_alloc w.drew _ b hlt).trans hbk
     rw [Lib.cell_of_heap this]; rfl
    have c3 : (w.alloc (.view ⟨g, 0, none⟩ 5)).drew.cell? ⟨b, 1, none⟩ = some (.slice (some ⟨g, 0, none⟩) 0 0) := c2
    have c0 : w.cell? ⟨b, 1, none⟩ = some (.slice (some ⟨g, 0, none⟩) 0 0) := c1
    clear hbk hown hg
    go_enter Tryz.func63, Tryz.ntmps63
    go_wp2
    go_region
    all_goals (go_wp2; go_ret; exact ⟨rfl, (Below.drew (Below.refl Bs w)).alloc hBw _⟩)
   ·have c1 : w.drew.cell? ⟨b, 1, none⟩ = some (.slice (some ⟨g, 0, none⟩) 0 cap) := by
     have : w.drew.heap[b]? = some (.cells (p :: .slice (some ⟨g, 0, none⟩) 0 cap :: tl).toArray T (0, 0)) := hbk
     rw [Lib.cell_of_heap this]; rfl
    have hSD : (Builtin.unsafeSliceData_ #[79] 101 #[.slice (some ⟨g, 0, none⟩) 0 cap]).run Tryz.prog w.drew = .ok (.pointer (some ⟨g, 0, none⟩)) w.drew :=
     Lib.run_unsafeSliceData_row _ _ _ _ _ _ hc0
    clear hbk hown hg hc0
    go_enter Tryz.func63, Tryz.ntmps63
    go_wp2
    go_region
    all_goals (go_wp2; go_ret; exact ⟨rfl, Below.drew (Below.refl Bs w)⟩)
 ·have hl0 : l.length ≠ 0 := by simpa using h0
  obtain ⟨g, cap, cur, rfl, hbg, hg, hnc, hcm, hcs, htake⟩ : ∃ g cap cur, v = .slice (some ⟨g, 0, none⟩) l.length cap ∧ Bs ≤ g ∧ w.heap[g]? = some (.cells cur 5 (0, 0)) ∧ l.length ≤ cap ∧ cap ≤ maxLen ∧ cur.size = cap * 1 ∧ cur.toList.take (l.length * 1) = Lib.byteCells l := by
   rcases hown.2 with ⟨_, hz⟩ | ⟨g, cap, cur, hv, r⟩
   ·exact absurd hz hl0
   ·exact ⟨g, cap, cur, hv, r⟩
  have c1 : w.drew.cell? ⟨b, 1, none⟩ = some (.slice (some ⟨g, 0, none⟩) l.length cap) := by
   have : w.drew.heap[b]? = some (.cells (p :: .slice (some ⟨g, 0, none⟩) l.length cap :: tl).toArray T (0, 0)) := hbk
   rw [Lib.cell_of_heap this]; rfl
  have hSD : (Builtin.unsafeSliceData_ #[79] 101 #[.slice (some ⟨g, 0, none⟩) l.length cap]).run Tryz.prog w.drew = .ok (.pointer (some ⟨g, 0, none⟩)) w.drew :=
   Lib.run_unsafeSliceData_row _ _ _ _ _ _ (by omega)
  have hUS : (Builtin.unsafeString_ #[101, 3] 9 #[.pointer (some ⟨g, 0, none⟩), .int .i64 l.length]).run Tryz.prog w.drew = .ok (.string ⟨l.toArray⟩) (w.drew.freeze ⟨g, 0, none⟩ l.length) := by
   refine Lib.run_unsafeString_row w.drew 101 3 9 5 Tryz.underlying101 Ak g cur.size (by have hg' : w.drew.heap[g]? = some (.cells cur 5 (0, 0)) := hg; simp [World.shape?, hg']) l h0 (by omega) (by unfold maxLen at hcm; omega) ?_
   intro j x hx
   have := hown.cells (g := g) rfl j (.int .u8 x.toNat) (by simp [Lib.byteCells, hx])
   exact this
  clear hbk hown hg htake hcs
  go_enter Tryz.func63, Tryz.ntmps63
  go_wp2
  go_region
  all_goals (go_wp2; go_ret; exact ⟨rfl, Lib.below_freeze (Below.drew (Below.refl Bs w)) (p := ⟨g, 0, none⟩) hbg _⟩)
end Go.Proofs.YtpnpdlnpikkeaaaGreat
namespace Go.Proofs.YtpnpdlnpikkeaaaGreat
open Go.RowKit Lx Sx
set_option maxRecDepth 100000
set_option maxHeartbeats 4000000
def jy (w : World) (k : Nat) : Bool := match w.heap[k]? with | some (.cells _ t _) => t == 5 | _ => false
def prX (Bs b : Nat) (w : World) : List Nat := (List.range w.heap.size).filter fun k => decide (Bs ≤ k) && (k == b || jy w k)
structure Prn (Bs b : Nat) (w w' : World) : Prop where
 base : Bs ≤ w.heap.size
 below : Below Bs w w'
 fr : FrB b w w'
theorem yK {w : World} {k : Nat} (h : jy w k = false) (cs : Array Value) (fr : Nat × Nat) : w.heap[k]? ≠ some (.cells cs 5 fr) := by
 intro e; simp [jy, e] at h
theorem yF {w : World} {k : Nat} (h : ∀ cs fr, w.heap[k]? ≠ some (.cells cs 5 fr)) : jy w k = false := by
 unfold jy
 split
 ·rename_i cs t fr e
  rw [beq_eq_false_iff_ne]; rintro rfl; exact h _ _ e
 ·rfl
theorem eR {Bs b : Nat} {w : World} {k : Nat} : k ∈ prX Bs b w ↔ k < w.heap.size ∧ Bs ≤ k ∧ (k = b ∨ jy w k = true) := by
 simp [prX]
theorem Prn.chg {Bs b : Nat} {w w' : World} (h : Prn Bs b w w') : Chg (prX Bs b w) w w' :=
 ⟨h.below.os, h.below.tape, h.below.output, h.below.size, fun k hk hX => by
  rcases Nat.lt_or_ge k Bs with hB | hB
  ·exact h.below.block k hB
  ·have hn : ¬ (k = b ∨ jy w k = true) := fun hc => hX (eR.2 ⟨hk, hB, hc⟩)
   refine h.fr.2 k hk (fun e => hn (.inl e)) (yK ?_)
   cases hb : jy w k
   ·rfl
   ·exact absurd (.inr hb) hn⟩
theorem Prn.refl {Bs b : Nat} {w : World} (h : Bs ≤ w.heap.size) : Prn Bs b w w := ⟨h, Below.refl _ _, FrB.refl _ _⟩
theorem Prn.trans {Bs b : Nat} {w w1 w2 : World} {X : List Nat} (h : Prn Bs b w w1) (k : Chg X w1 w2) (hX : ∀ x, x ∈ X → x ∈ prX Bs b w1 ∨ w.heap.size ≤ x) : Prn Bs b w w2 :=
 ⟨h.base, ⟨k.os.trans h.below.os, k.tape.trans h.below.tape, k.output.trans h.below.output, Nat.le_trans h.below.size k.size, fun i hi => by
  have hlt : i < w.heap.size := Nat.lt_of_lt_of_le hi h.base
  rw [k.block i (Nat.lt_of_lt_of_le hlt h.below.size) (fun hc => ?_), h.below.block i hi]
  rcases hX i hc with h1 | h1
  ·have := (eR.1 h1).2.1; omega
  ·omega⟩, ⟨Nat.le_trans h.fr.1 k.size, fun i hi hb hn => by
  have e := h.fr.2 i hi hb hn
  rw [k.block i (Nat.lt_of_lt_of_le hi h.fr.1) (fun hc => ?_), e]
  rcases hX i hc with h1 | h1
  ·rcases (eR.1 h1).2.2 with h2 | h2
   ·exact hb h2
   ·rw [yF (by rw [e]; exact hn)] at h2; cases h2
  ·omega⟩⟩
theorem Prn.t0 {Bs b : Nat} {w w1 w2 : World} (h : Prn Bs b w w1) (k : Chg [] w1 w2) : Prn Bs b w w2 := h.trans k oC
theorem Prn.n1 {Bs b : Nat} {w w1 w2 : World} {c : Nat} (h : Prn Bs b w w1) (k : Chg [c] w1 w2) (g : w.heap.size ≤ c) : Prn Bs b w w2 := h.trans k (allc (.inr g) oC)
theorem Prn.ge_new {Bs b : Nat} {w w1 : World} {c : Nat} (h : Prn Bs b w w1) (e : c = w1.heap.size) : w.heap.size ≤ c := e ▸ h.below.size
theorem nl {Bs b : Nat} {w : World} {k : Nat} (h : k < Bs) : k ∉ prX Bs b w := fun hc => by have := (eR.1 hc).2.1; omega
theorem aF {Bs b : Nat} {w : World} {k : Nat} {t : TypeId} {cs : List Value} (h : Blk w k t cs) (ht : (t == 5) = false) (hk : k ≠ b) : k ∉ prX Bs b w := fun hc => by
 rcases (eR.1 hc).2.2 with h2 | h2
 ·exact hk h2
 ·unfold Blk at h; rw [jy, h] at h2; simp only [ht] at h2; cases h2
end Go.Proofs.YtpnpdlnpikkeaaaGreat
namespace Go.Proofs.YtpnpdlnpikkeaaaGreat
open Go.RowKit Lx Sx
set_option maxRecDepth 100000
set_option maxHeartbeats 4000000
theorem Cv : uO 83 1 := ⟨by decide, by kernel_rfl⟩
abbrev Pr (Bs b : Nat) (x l : List UInt8) (w : World) : Prop := Bd 83 Bs b [aS x] l w
theorem Pr.chg0 {Bs b : Nat} {x l : List UInt8} {w w' : World} (h : Pr Bs b x l w) (hx : Chg [] w w') : Pr Bs b x l w' := by
 obtain ⟨p, v, hp, hB, hbk, hown⟩ := h
 exact ⟨p, v, hp, hB, (show Blk w b _ [p, v, aS x] from hbk).chg hx nm0, own_chg hown hx (fun _ _ => nm0)⟩
theorem Pr.open_ {Bs b : Nat} {x l : List UInt8} {w : World} (h : Pr Bs b x l w) : ∃ p v, Blk w b 83 [p, v, aS x] ∧ Bs ≤ b ∧ ∀ y w', Blk w' b 83 [p, v, aS y] → Chg [b] w w' → Pr Bs b y l w' := by
 obtain ⟨p, v, hp, hB, hbk, hown⟩ := h
 have hne : v.ownBlock ≠ some b := Lib.ownBlock_ne hown hbk Cv.1
 exact ⟨p, v, hbk, hB, fun y w' hb hx => ⟨p, v, hp, hB, hb, own_chg hown hx (fun g hg => nmc (fun e => hne (e ▸ hg)) nm0)⟩⟩
theorem wsL {Bs b : Nat} {x l s : List UInt8} {w : World} (h : Pr Bs b x l w) (hlen : l.length + s.length ≤ 140737488355328) (hBw : Bs ≤ w.heap.size) :
  Calls Tryz.prog 108 [.pointer (some ⟨b, 0, none⟩), aS s].toArray w fun e w' => e = .returned (.tuple #[.int .i64 s.length, .nilIface]) ∧ Pr Bs b x (l ++ s) w' ∧ Chg (prX Bs b w) w w' ∧ Bs ≤ w'.heap.size :=
 (wF _ Bs b [aS x] l s w Cv h hlen hBw).mono fun _ _ ⟨e, h1, h2, h3⟩ => ⟨e, h1, (Prn.mk hBw h3 h2).chg, nlt hBw h3.size⟩
def iZ (last lead tok : List UInt8) : List UInt8 := if lead = [] ∧ last ≠ [] ∧ fusesT last tok = true then [32] else lead
theorem dj {Bs b : Nat} {last l lead tok : List UInt8} {w : World} (hP : Pr Bs b last l w) (hl : l.length + lead.length + tok.length + 1 ≤ 1000000000000) (hl2 : last.length ≤ 1000000000000) (hBw : Bs ≤ w.heap.size) :
    Calls Tryz.prog 94 [.pointer (some ⟨b, 0, none⟩), aS lead, aS tok].toArray w fun e w' => e = .returned (.tuple #[]) ∧ Pr Bs b tok (l ++ iZ last lead tok ++ tok) w' ∧ Prn Bs b w w' := by
  obtain ⟨p, v, hB, hBs, hcl⟩ := hP.open_
  have hE := Prn.refl (b := b) hBw
  refine rE 37 Tryz.func94 rfl rfl rfl ?_
  intro a hf
  refine rR 4 hf rfl fun a hf => rB hf rfl (fun c hc => Az hf rfl rfl hc) ?_ ?_
  clear hf a; intro h7 a hf
  refine rR 4 hf rfl fun a hf => rV hf rfl (aq hf rfl (by kernel_rfl) hB rfl) fun a hf => rB hf rfl (fun c hc => zw hf rfl rfl hc) ?_ ?_
  clear hf a; intro h13 a hf
  refine rR 5 hf rfl fun a hf => rV hf rfl (aq hf rfl (by kernel_rfl) hB rfl) fun a hf => rR 1 hf rfl fun a hf => ?_
  rcases Bool.eq_false_or_eq_true (fusesT last tok) with hbf | hbf
  refine rC hf rfl rfl (by kernel_rfl) (wW (ub (Ab last tok _ (by omega) (by omega))) hbf) ?_
  rintro _ w2 ⟨rfl, hx1⟩
  refine ⟨_, rfl, fun a hf => ?_⟩
  replace hB := hB.c0 hx1
  replace hP := hP.chg0 hx1
  replace hBw := nlt hBw hx1.size
  replace hE := hE.t0 hx1
  refine rR 14 hf rfl fun a hf => rC hf rfl rfl (by kernel_rfl) (wsL (s := [32]) hP (by (try simp only [List.length_append, List.length_cons, List.length_nil]); omega) hBw) ?_
  rintro _ w4 ⟨rfl, hPn, hx3, _⟩
  refine ⟨_, rfl, fun a hf => ?_⟩
  replace hE := hE.trans hx3 (fun _ h => .inl h)
  clear hP hB hBw hcl p v; rename_i hBw; have hP := hPn; clear hPn
  obtain ⟨p, v, hB, _, hcl⟩ := hP.open_
  have hPm : b ∈ prX Bs b w4 := eR.2 ⟨hB.lt, hBs, .inl rfl⟩
  refine rR 8 hf rfl fun a hf => rC hf rfl rfl (by kernel_rfl) (wsL (s := tok) hP (by (try simp only [List.length_append, List.length_cons, List.length_nil]); omega) hBw) ?_
  rintro _ w6 ⟨rfl, hPn, hx5, _⟩
  refine ⟨_, rfl, fun a hf => ?_⟩
  replace hE := hE.trans hx5 (fun _ h => .inl h)
  clear hP hB hBw hcl p v; rename_i hBw; have hP := hPn; clear hPn
  obtain ⟨p, v, hB, _, hcl⟩ := hP.open_
  have hPm : b ∈ prX Bs b w6 := eR.2 ⟨hB.lt, hBs, .inl rfl⟩
  refine rR 7 hf rfl fun a hf => ?_
  obtain ⟨w7, he, hB8, hx9⟩ := eS 9 (.tmp 36) (.tmp 34) hf rfl rfl (by kernel_rfl) rfl hB rfl 0
  refine rS hf rfl he fun a hf => ?_
  replace hE := hE.trans hx9 (allc (.inl hPm) oC)
  clear hB
  refine rR 1 hf rfl fun a hf => ?_
  have eg : iZ last lead tok = [32] := by simp at h7 h13 hbf; simp [iZ, h7, h13, hbf]
  rw [eg]
  exact rF (rs := []) hf rfl rfl ⟨rfl, hcl _ _ hB8 hx9, hE⟩
  refine rC hf rfl rfl (by kernel_rfl) (wW (ub (Ab last tok _ (by omega) (by omega))) hbf) ?_
  rintro _ w10 ⟨rfl, hx1⟩
  refine ⟨_, rfl, fun a hf => ?_⟩
  replace hB := hB.c0 hx1
  replace hP := hP.chg0 hx1
  replace hBw := nlt hBw hx1.size
  replace hE := hE.t0 hx1
  refine rR 12 hf rfl fun a hf => rC hf rfl rfl (by kernel_rfl) (wsL (s := lead) hP (by (try simp only [List.length_append, List.length_cons, List.length_nil]); omega) hBw) ?_
  rintro _ w12 ⟨rfl, hPn, hx11, _⟩
  refine ⟨_, rfl, fun a hf => ?_⟩
  replace hE := hE.trans hx11 (fun _ h => .inl h)
  clear hP hB hBw hcl p v; rename_i hBw; have hP := hPn; clear hPn
  obtain ⟨p, v, hB, _, hcl⟩ := hP.open_
  have hPm : b ∈ prX Bs b w12 := eR.2 ⟨hB.lt, hBs, .inl rfl⟩
  refine rR 8 hf rfl fun a hf => rC hf rfl rfl (by kernel_rfl) (wsL (s := tok) hP (by (try simp only [List.length_append, List.length_cons, List.length_nil]); omega) hBw) ?_
  rintro _ w14 ⟨rfl, hPn, hx13, _⟩
  refine ⟨_, rfl, fun a hf => ?_⟩
  replace hE := hE.trans hx13 (fun _ h => .inl h)
  clear hP hB hBw hcl p v; rename_i hBw; have hP := hPn; clear hPn
  obtain ⟨p, v, hB, _, hcl⟩ := hP.open_
  have hPm : b ∈ prX Bs b w14 := eR.2 ⟨hB.lt, hBs, .inl rfl⟩
  refine rR 7 hf rfl fun a hf => ?_
  obtain ⟨w15, he, hB16, hx17⟩ := eS 9 (.tmp 36) (.tmp 34) hf rfl rfl (by kernel_rfl) rfl hB rfl 0
  refine rS hf rfl he fun a hf => ?_
  replace hE := hE.trans hx17 (allc (.inl hPm) oC)
  clear hB
  refine rR 1 hf rfl fun a hf => ?_
  have eg : iZ last lead tok = lead := by simp at h7 h13 hbf; simp [iZ, h7, h13, hbf]
  rw [eg]
  exact rF (rs := []) hf rfl rfl ⟨rfl, hcl _ _ hB16 hx17, hE⟩
  clear hf a; intro h13 a hf
  refine rR 20 hf rfl fun a hf => rC hf rfl rfl (by kernel_rfl) (wsL (s := lead) hP (by (try simp only [List.length_append, List.length_cons, List.length_nil]); omega) hBw) ?_
  rintro _ w19 ⟨rfl, hPn, hx18, _⟩
  refine ⟨_, rfl, fun a hf => ?_⟩
  replace hE := hE.trans hx18 (fun _ h => .inl h)
  clear hP hB hBw hcl p v; rename_i hBw; have hP := hPn; clear hPn
  obtain ⟨p, v, hB, _, hcl⟩ := hP.open_
  have hPm : b ∈ prX Bs b w19 := eR.2 ⟨hB.lt, hBs, .inl rfl⟩
  refine rR 8 hf rfl fun a hf => rC hf rfl rfl (by kernel_rfl) (wsL (s := tok) hP (by (try simp only [List.length_append, List.length_cons, List.length_nil]); omega) hBw) ?_
  rintro _ w21 ⟨rfl, hPn, hx20, _⟩
  refine ⟨_, rfl, fun a hf => ?_⟩
  replace hE := hE.trans hx20 (fun _ h => .inl h)
  clear hP hB hBw hcl p v; rename_i hBw; have hP := hPn; clear hPn
  obtain ⟨p, v, hB, _, hcl⟩ := hP.open_
  have hPm : b ∈ prX Bs b w21 := eR.2 ⟨hB.lt, hBs, .inl rfl⟩
  refine rR 7 hf rfl fun a hf => ?_
  obtain ⟨w22, he, hB23, hx24⟩ := eS 9 (.tmp 36) (.tmp 34) hf rfl rfl (by kernel_rfl) rfl hB rfl 0
  refine rS hf rfl he fun a hf => ?_
  replace hE := hE.trans hx24 (allc (.inl hPm) oC)
  clear hB
  refine rR 1 hf rfl fun a hf => ?_
  have eg : iZ last lead tok = lead := by simp at h7 h13; simp [iZ, h7, h13]
  rw [eg]
  exact rF (rs := []) hf rfl rfl ⟨rfl, hcl _ _ hB23 hx24, hE⟩
  clear hf a; intro h7 a hf
  refine rR 26 hf rfl fun a hf => rC hf rfl rfl (by kernel_rfl) (wsL (s := lead) hP (by (try simp only [List.length_append, List.length_cons, List.length_nil]); omega) hBw) ?_
  rintro _ w26 ⟨rfl, hPn, hx25, _⟩
  refine ⟨_, rfl, fun a hf => ?_⟩
  replace hE := hE.trans hx25 (fun _ h => .inl h)
  clear hP hB hBw hcl p v; rename_i hBw; have hP := hPn; clear hPn
  obtain ⟨p, v, hB, _, hcl⟩ := hP.open_
  have hPm : b ∈ prX Bs b w26 := eR.2 ⟨hB.lt, hBs, .inl rfl⟩
  refine rR 8 hf rfl fun a hf => rC hf rfl rfl (by kernel_rfl) (wsL (s := tok) hP (by (try simp only [List.length_append, List.length_cons, List.length_nil]); omega) hBw) ?_
  rintro _ w28 ⟨rfl, hPn, hx27, _⟩
  refine ⟨_, rfl, fun a hf => ?_⟩
  replace hE := hE.trans hx27 (fun _ h => .inl h)
  clear hP hB hBw hcl p v; rename_i hBw; have hP := hPn; clear hPn
  obtain ⟨p, v, hB, _, hcl⟩ := hP.open_
  have hPm : b ∈ prX Bs b w28 := eR.2 ⟨hB.lt, hBs, .inl rfl⟩
  refine rR 7 hf rfl fun a hf => ?_
  obtain ⟨w29, he, hB30, hx31⟩ := eS 9 (.tmp 36) (.tmp 34) hf rfl rfl (by kernel_rfl) rfl hB rfl 0
  refine rS hf rfl he fun a hf => ?_
  replace hE := hE.trans hx31 (allc (.inl hPm) oC)
  clear hB
  refine rR 1 hf rfl fun a hf => ?_
  have eg : iZ last lead tok = lead := by simp at h7; simp [iZ, h7]
  rw [eg]
  exact rF (rs := []) hf rfl rfl ⟨rfl, hcl _ _ hB30 hx31, hE⟩
end Go.Proofs.YtpnpdlnpikkeaaaGreat
namespace Go.Proofs.YtpnpdlnpikkeaaaGreat
open Go.RowKit Lx Sx
set_option maxRecDepth 100000
set_option maxHeartbeats 4000000
def cV (k : Int) (s : List UInt8) : List UInt8 :=
 if k = 5 then [73, 110, 116] else if k = 6 then [84, 101, 120, 116] else if k = 7 then [66, 111, 111, 108] else if k = 13 then [116, 114, 117, 101] else if k = 14 then [102, 97, 108, 115, 101] else if k = 15 then [63] else s
theorem pA {x y : List UInt8} (h : x = y) : (Ending.returned (aS y)) = .returned (aS x) := by rw [h]
theorem CS {k : Int} {tx : List UInt8} {A B : Option Addr} {n1 m1 n2 m2 : Nat} {w : World} : Calls Tryz.prog 96 [.agg #[.int .i64 k, aS tx, .slice A n1 m1, .slice B n2 m2]].toArray w fun e w' => e = .returned (aS (cV k tx)) ∧ Chg [] w w' := by
  refine rE 19 Tryz.func96 rfl rfl rfl ?_
  intro a hf
  have hE := Chg.refl [] w
  refine rR 2 hf rfl fun a hf => ?_
  obtain ⟨w1, b2, he, hB3, hx4, eb5, lb6⟩ := di (P := Tryz.prog) (t := 30) (x := (.tmp 0)) hf rfl rfl w 0
  refine rV hf rfl he fun a hf => ?_
  have ge_b2 := vm hE eb5
  replace hE := hE.t0 hx4
  clear eb5 lb6
  refine rR 7 hf rfl fun a hf => rV hf rfl (aq hf rfl (by kernel_rfl) hB3 rfl) fun a hf => rR 5 hf rfl fun a hf => rB hf rfl (fun c hc => dt hf rfl rfl hc) ?_ ?_
  clear hf a; intro h6 a hf
  refine rR 12 hf rfl fun a hf => ?_
  exact rT (rs := [.tmp 2]) hf rfl ⟨_, _, rfl, rfl, rfl⟩ ⟨pA (by simp only [qA, qB, qC, qD, qE, qF, ne_eq, Int.not_lt, Int.not_le, Decidable.not_not] at h6; simp [cV, h6]), hE⟩
  clear hf a; intro h6 a hf
  refine rR 6 hf rfl fun a hf => rB hf rfl (fun c hc => dt hf rfl rfl hc) ?_ ?_
  clear hf a; intro h8 a hf
  refine rR 12 hf rfl fun a hf => ?_
  exact rT (rs := [.tmp 2]) hf rfl ⟨_, _, rfl, rfl, rfl⟩ ⟨pA (by simp only [qA, qB, qC, qD, qE, qF, ne_eq, Int.not_lt, Int.not_le, Decidable.not_not] at h6 h8; simp [cV, h6, h8]), hE⟩
  clear hf a; intro h8 a hf
  refine rR 6 hf rfl fun a hf => rB hf rfl (fun c hc => dt hf rfl rfl hc) ?_ ?_
  clear hf a; intro h10 a hf
  refine rR 12 hf rfl fun a hf => ?_
  exact rT (rs := [.tmp 2]) hf rfl ⟨_, _, rfl, rfl, rfl⟩ ⟨pA (by simp only [qA, qB, qC, qD, qE, qF, ne_eq, Int.not_lt, Int.not_le, Decidable.not_not] at h6 h8 h10; simp [cV, h6, h8, h10]), hE⟩
  clear hf a; intro h10 a hf
  refine rR 6 hf rfl fun a hf => rB hf rfl (fun c hc => dt hf rfl rfl hc) ?_ ?_
  clear hf a; intro h12 a hf
  refine rR 12 hf rfl fun a hf => ?_
  exact rT (rs := [.tmp 2]) hf rfl ⟨_, _, rfl, rfl, rfl⟩ ⟨pA (by simp only [qA, qB, qC, qD, qE, qF, ne_eq, Int.not_lt, Int.not_le, Decidable.not_not] at h6 h8 h10 h12; simp [cV, h6, h8, h10, h12]), hE⟩
  clear hf a; intro h12 a hf
  refine rR 6 hf rfl fun a hf => rB hf rfl (fun c hc => dt hf rfl rfl hc) ?_ ?_
  clear hf a; intro h14 a hf
  refine rR 12 hf rfl fun a hf => ?_
  exact rT (rs := [.tmp 2]) hf rfl ⟨_, _, rfl, rfl, rfl⟩ ⟨pA (by simp only [qA, qB, qC, qD, qE, qF, ne_eq, Int.not_lt, Int.not_le, Decidable.not_not] at h6 h8 h10 h12 h14; simp [cV, h6, h8, h10, h12, h14]), hE⟩
  clear hf a; intro h14 a hf
  refine rR 6 hf rfl fun a hf => rB hf rfl (fun c hc => dt hf rfl rfl hc) ?_ ?_
  clear hf a; intro h16 a hf
  refine rR 12 hf rfl fun a hf => ?_
  exact rT (rs := [.tmp 2]) hf rfl ⟨_, _, rfl, rfl, rfl⟩ ⟨pA (by simp only [qA, qB, qC, qD, qE, qF, ne_eq, Int.not_lt, Int.not_le, Decidable.not_not] at h6 h8 h10 h12 h14 h16; simp [cV, h6, h8, h10, h12, h14, h16]), hE⟩
  clear hf a; intro h16 a hf
  refine rR 10 hf rfl fun a hf => rV hf rfl (aq hf rfl (by kernel_rfl) hB3 rfl) fun a hf => rR 4 hf rfl fun a hf => ?_
  exact rT (rs := [.tmp 2]) hf rfl ⟨_, _, rfl, rfl, rfl⟩ ⟨pA (by simp only [qA, qB, qC, qD, qE, qF, ne_eq, Int.not_lt, Int.not_le, Decidable.not_not] at h6 h8 h10 h12 h14 h16; simp [cV, h6, h8, h10, h12, h14, h16]), hE⟩
end Go.Proofs.YtpnpdlnpikkeaaaGreat
namespace Go.Proofs.YtpnpdlnpikkeaaaGreat
open Go.RowKit Lx Sx
abbrev WS := List UInt8 × List UInt8
def ae (lead tok : List UInt8) (s : WS) : WS := (tok, s.2 ++ iZ s.1 lead tok ++ tok)
def bf (ls : List (List UInt8)) (c : Nat) : List (WS → WS) → Nat → WS → WS
 | [], _, s => s
 | f :: r, i, s => bf ls c r (i + 1) (f (if 0 < i then ae (ls.getD (c + i - 1) []) [44] s else s))
def uH (k : Int) (x : List UInt8) (ls : List (List UInt8)) (fs : List (WS → WS)) (s : WS) : WS :=
 let L := fun i => ls.getD i []
 let F := fun (i : Nat) => fs.getD i id
 if k = 1 then
  let s := fs.foldl (fun s f => f s) (ae (L 1) x (ae (L 0) [109, 111, 100, 117, 108, 101] s)); (s.1, s.2 ++ L 2)
 else if k = 2 then
  let n := fs.length
  F (n - 1) (ae (L 5) [61] (F (n - 2) (ae (L 4) [58] (ae (L 3) [41] (bf ls 6 (fs.take (n - 2)) 0 (ae (L 2) [40] (ae (L 1) x (ae (L 0) [100, 101, 102] s))))))))
 else if k = 3 then F 0 (ae (L 2) [61] (ae (L 1) x (ae (L 0) [116, 121, 112, 101] s)))
 else F 0 (ae (L 1) [58] (ae (L 0) x s))
def ew (k : Int) (x : List UInt8) (ls : List (List UInt8)) (fs : List (WS → WS)) (s : WS) : WS :=
 let L := fun i => ls.getD i []
 let F := fun (i : Nat) => fs.getD i id
 if k = 1 ∨ k = 2 ∨ k = 3 ∨ k = 4 then uH k x ls fs s
 else if k = 17 then F 0 s
 else if k = 8 then ae (L 1) [93] (F 0 (ae (L 0) [91] s))
 else if k = 16 then ae (L 2) [41] (bf ls 3 fs 0 (ae (L 1) [40] (ae (L 0) x s)))
 else if k = 18 then ae (L 1) [93] (bf ls 2 fs 0 (ae (L 0) [91] s))
 else if k = 19 then F 2 (ae (L 2) [101, 108, 115, 101] (F 1 (ae (L 1) [116, 104, 101, 110] (F 0 (ae (L 0) [105, 102] s)))))
 else if k = 20 then F 1 (ae (L 3) [105, 110] (F 0 (ae (L 2) [61] (ae (L 1) x (ae (L 0) [108, 101, 116] s)))))
 else if k = 21 then F 1 (ae (L 0) x (F 0 s))
 else if k = 22 then ae (L 1) [41] (F 0 (ae (L 0) [40] s))
 else ae (L 0) (cV k x) s
mutual
def treeP : Tree → WS → WS
 | .node k x ls ks => ew k x ls (treesP ks)
def treesP : List Tree → List (WS → WS)
 | [] => []
 | t :: r => treeP t :: treesP r
end
def ja (t : Tree) : List UInt8 := (treeP t ([], [])).2
theorem eU : ∀ ks : List Tree, (treesP ks).length = ks.length
 | [] => rfl
 | t :: r => by simp [treesP, eU r]
theorem qN : ∀ {ks : List Tree} {i : Nat} (h : i < ks.length), (treesP ks).getD i id = treeP ks[i]
 | t :: r, 0, _ => rfl
 | t :: r, i + 1, h => by have := qN (ks := r) (i := i) (by simpa using h); simpa [treesP] using this
end Go.Proofs.YtpnpdlnpikkeaaaGreat
namespace Go.Proofs.YtpnpdlnpikkeaaaGreat
open Go.RowKit Lx Sx
def ac (f : Func) : Code := match f.body with
 | some c => c
 | none => .skip
def cA : Code → Code
 | .seq x _ => x
 | c => c
def cB : Code → Code
 | .seq _ y => y
 | c => c
def cK : Code → Code
 | .block _ c => c
 | c => c
def cL : Code → Code
 | .loop c => c
 | c => c
def cT : Code → Code
 | .cond _ x _ => x
 | c => c
def cE : Code → Code
 | .cond _ _ y => y
 | c => c
theorem apM {α : Type} (f : α → V) (l : List α) (x : α) : List.map f l ++ [f x] = List.map f (l ++ [x]) := by simp
theorem tt (l : List Tree) : l.map oc = kidsV l := by
 induction l with
 | nil => rfl
 | cons t r ih => simp [kidsV, gD, ih]
theorem lm (x : Tree) : [oc x] = kidsV [x] := by simp [kidsV, gD]
theorem eE : ∀ (l : List Tree), kidsV l = l.map oc
 | [] => rfl
 | t :: r => by simp [kidsV, gD, eE r]
theorem mapget {α : Type} {f : α → V} {l : List α} {i : Nat} {x : α} (h : l[i]? = some x) : (List.map f l)[i]? = some (f x) := by simp [h]
theorem aR (l : List Tree) : (kidsV l).length = l.length := mC l
theorem aP {α : Type} (f : α → V) (l : List α) : (List.map f l).length = l.length := List.length_map ..
theorem bo {n : Nat} {m : Nat} (h : n = m) : V.int .i64 (n : Int) = .int .i64 (m : Int) := by rw [h]
theorem yL : ∀ (l : List Tree) (i : Nat) (x : Tree), (kidsV l).set i (oc x) = kidsV (l.set i x)
 | [], i, x => rfl
 | t :: r, 0, x => by simp [kidsV, gD]
 | t :: r, i + 1, x => by simp [kidsV, yL r i x]
theorem fT {α : Type} (f : α → V) (l : List α) (i : Nat) (x : α) : (List.map f l).set i (f x) = List.map f (l.set i x) := by simp
theorem eY (σ : List Nat) : ∀ (l : List Tree), renL σ (kidsV l) = kidsV l
 | [] => rfl
 | t :: r => by simp only [kidsV, renL, eY σ r]; rw [gD]; rfl
theorem ak {α : Type} (σ : List Nat) (f : α → V) (hf : ∀ x, (f x).ren σ = f x) : ∀ (l : List α), renL σ (List.map f l) = List.map f l
 | [] => rfl
 | x :: r => by simp only [List.map_cons, renL, hf, ak σ f hf r]
theorem dd (l : List Tree) : pureL (kidsV l) = true := sv l
theorem iX {α : Type} (f : α → V) (hf : ∀ x, (f x).pure = true) : ∀ (l : List α), pureL (List.map f l) = true
 | [] => rfl
 | x :: r => by simp only [List.map_cons, pureL, hf, iX f hf r]
theorem cg {e : Bool} (h : (!e) = true) : e = false := by simpa using h
theorem cf {e : Bool} (h : (!e) = false) : e = true := by simpa using h
theorem gw {α : Type} [BEq α] [LawfulBEq α] {a b : α} (h : (a != b) = true) : a ≠ b := by simpa using h
theorem dX {a b : Nat} (h : decide ((a : Int) < (b : Int)) = true) : a < b := by have := of_decide_eq_true h; omega
theorem dW {a b : Nat} (h : decide ((a : Int) < (b : Int)) = false) : ¬ a < b := by have := of_decide_eq_false h; omega
theorem yH {a b : Nat} (h : ((a : Int) != (b : Int)) = true) : a ≠ b := by have := gw h; omega
theorem yn {a b : Nat} (h : ((a : Int) != (b : Int)) = false) : a = b := by have := ey h; omega
theorem jz {n m : Int} (h : n = m) : V.int .i64 n = .int .i64 m := by rw [h]
abbrev InI (x : Int) : Prop := -9223372036854775808 ≤ x ∧ x ≤ 9223372036854775807
section
variable {P : Program} {T : Tab} {K : Ctx} {Q : Exit → Act → World → Prop} {p p' : EP} {s s' : List EI} {n : Nat} {F F' F1 F2 : Fm} {H H' H1 : Hp} {all : Array Oper} {rest : List Oper} {o : Oper} {L : List Nat} {m fuel : Nat} {listed : Array Bool}
theorem gS {v : V} (d : Nat) (v' : V) (hd : F.get d = some v) (hs : aA v v') (h1 : F.put d (some v') id = F1) (k : Go P K Q p s n F1 H) : Go P K Q p s n F H := by
 rw [Fm.put_eq] at h1; subst h1
 exact mY hd hs k
theorem Be {h : Nat → Ob} {id : Nat} {o : Ob} (ho : h id = o) : cy h id o = h := by
 funext i
 by_cases hi : i = id
 ·subst hi; rw [bK, ho]
 ·rw [cq _ _ hi]
theorem gHR {e : TypeId} {sz : Nat} {els : List V} (id : Nat) (els' : List V) (ho : H.get id = .row e sz els) (he : els = els') (h2 : H.ap (.set id (.row e sz els')) _root_.id = H1) (k : Go P K Q p s n F H1) : Go P K Q p s n F H := by
 subst he
 rw [Hp.ap_eq] at h2; subst h2
 have hg : (H.app (.set id (.row e sz els))).get = H.get := by
  rw [Hp.get_app (by exact ⟨by rw [ho]; simp, by rw [ho]; simp⟩)]
  exact Be ho
 intro S w ρ a hr hi hF
 exact k S w ρ a (by rw [id_eq, hg]; exact hr) (by rw [id_eq, hg]; exact hi) hF
theorem CRel.sub {S : Nat → Prop} {w : World} {ρ : Nat → Option Value} {sz : Nat} : ∀ {vs us : List V} {xs : List Value}, aD vs us → CRel S w ρ sz vs xs → CRel S w ρ sz us xs
 | [], us, xs, h, hl => by simp only [aD] at h; subst h; exact hl
 | v :: r, us, xs, h, hl => by
  simp only [aD] at h
  obtain ⟨u, q, rfl, h1, h2⟩ := h
  simp only [CRel] at hl ⊢
  obtain ⟨x, ys, rfl, h3, h4, h5⟩ := hl
  exact ⟨x, ys, rfl, h3, h1 _ _ _ _ h4, h5.sub h2⟩
theorem aD.len : ∀ {vs us : List V}, aD vs us → us.length = vs.length
 | [], us, h => by simp only [aD] at h; subst h; rfl
 | v :: r, us, h => by
  simp only [aD] at h
  obtain ⟨u, q, rfl, _, h2⟩ := h
  simp [h2.len]
theorem aD.rep {a b : V} (h : aA a b) : ∀ n, aD (List.replicate n a) (List.replicate n b)
 | 0 => aD.nil
 | n + 1 => aD.cons h (aD.rep h n)
theorem gHW {e : TypeId} {sz : Nat} {els : List V} (id : Nat) (els' : List V) (hp : p.still = true) (ho : H.get id = .row e sz els) (he : aD els els') (h2 : H.ap (.set id (.row e sz els')) _root_.id = H1) (k : Go P K Q p s n F H1) : Go P K Q p s n F H := by
 rw [Hp.ap_eq] at h2; subst h2
 have hg : (H.app (.set id (.row e sz els'))).get = cy H.get id (.row e sz els') := Hp.get_app (by exact ⟨by rw [ho]; simp, by rw [ho]; simp⟩)
 intro S w ρ a hr hi hF
 have how : ∀ i b, own ρ i (cy H.get id (.row e sz els') i) b ↔ own ρ i (H.get i) b := fun i b => by
  by_cases hi : i = id
  ·subst hi; rw [bK, ho]; rfl
  ·rw [cq _ _ hi]
 refine k S w ρ a ?_ ?_ hF
 ·rw [id_eq, hg]
  refine ⟨fun i => ?_, fun i b hb => hr.sep i b ((how i b).1 hb), fun i j b h1 h2 => hr.dis i j b ((how i b).1 h1) ((how j b).1 h2), hr.slt⟩
  by_cases hii : i = id
  ·subst hii
   rw [bK]
   obtain ⟨v, xs, h1, h2, h3⟩ := kB hr ho
   exact ⟨v, xs, h1, by rw [he.len]; exact h2, h3.sub he⟩
  ·rw [cq _ _ hii]; exact hr.ob i
 ·rw [id_eq, hg]
  exact ⟨hi.chg, hi.s0, hi.s1, fun i b hb => hi.ow i b ((how i b).1 hb), hi.pin⟩
def uI (PL : List Nat) : List (Nat × Ob) → List Nat → Bool
 | [], _ => true
 | (i, o) :: r, pv => (!jc PL i o || pv.contains i) && uI PL r pv
theorem vq {PL : List Nat} : ∀ {es : List (Nat × Ob)} {pv : List Nat}, uI PL es pv = true → ∀ i, jc PL i (an es i) = true → i ∈ pv
 | [], pv, h, i, hi => by simp [an, jc] at hi
 | (j, o) :: r, pv, h, i, hi => by
  simp only [uI, Bool.and_eq_true, Bool.or_eq_true, Bool.not_eq_true'] at h
  simp only [an] at hi
  split at hi
  ·rename_i e
   have := Nat.eq_of_beq_eq_true e
   subst this
   rcases h.1 with h1 | h1
   ·rw [h1] at hi; cases hi
   ·simpa using h1
  ·exact vq h.2 i hi
theorem aQ {PL : List Nat} {nx : Nat} {es : List (Nat × Ob)} {pv : List Nat} (h : uI PL es pv = true) : ∀ i, jc PL i ((⟨nx, es⟩ : Hp).get i) = true → i ∈ pv := fun i hi => by
 unfold Hp.get at hi
 split at hi
 ·exact vq h i hi
 ·simp [jc] at hi
def mu (ids : List Nat) : List (Nat × Ob) → List (Nat × Ob)
 | [] => []
 |(j, o) :: r => match ids.contains j with
  | true => mu ids r
  | false => (j, o) :: mu ids r
theorem tc {ids : List Nat} {i : Nat} : ∀ {l : List (Nat × Ob)}, an (mu ids l) i = an l i ∨ an (mu ids l) i = .gone
 | [] => .inl rfl
 | (j, o) :: r => by
  have ih := tc (ids := ids) (i := i) (l := r)
  simp only [mu]
  split
  ·rename_i hc
   by_cases hj : j = i
   ·subst hj
    refine .inr ?_
    have : ∀ l : List (Nat × Ob), an (mu ids l) j = .gone := fun l => by
     induction l with
     | nil => rfl
     | cons p q ihq =>
      obtain ⟨k, o'⟩ := p
      simp only [mu]
      split
      ·exact ihq
      ·rename_i hk
       have hne : k ≠ j := fun e => by subst e; rw [hc] at hk; cases hk
       simp only [an, nbF hne]
       exact ihq
    exact this r
   ·simp only [an, nbF hj]; exact ih
  ·simp only [an]
   split
   ·exact .inl rfl
   ·exact ih
theorem go_endD {fn : Func} {Post : V → Hp → Prop} {rs : List ResultVar} {vs : List V} {e : Exit} (ids : List Nat) (hT : TabOk P T) (hrs : fn.results = rs.toArray) (hv : pB T H.get F rs = some vs) (hP : Post (me vs) ⟨H.nx, mu ids H.es⟩) (he : e = .ret ∨ e = .normal := by first | exact .inl rfl | exact .inr rfl) : Go P K (bodyPost P fn (SP K Post)) (.ex e) [] n F H := fun S w ρ a hr hi hF => by
 have hh : ∀ i, (⟨H.nx, mu ids H.es⟩ : Hp).get i = H.get i ∨ (⟨H.nx, mu ids H.es⟩ : Hp).get i = .gone := fun i => by
  unfold Hp.get
  cases hb : Nat.blt i H.nx
  ·exact .inl rfl
  ·exact tc
 exact ret_go hT he hrs hr hF hv fun x hx => ⟨x, S, ρ, _, _, rfl, hP, hr.drop hh, hi.drop hh, hx⟩
theorem gJ (k : Go P K Q p s n F' H') (σ pv : List Nat) (hp : p.still = true) (hpin : aB K pv) (hF : leF σ F F') (hH : leH σ H H'.es) (hc : (dH σ && Nat.ble σ.length H'.nx && yX σ pv && Nat.ble F'.length n) = true) : Go P K Q p s n F H := go_sub σ pv hp hpin hF hH hc k
theorem tC {S : Nat → Prop} {w : World} {ρ : Nat → Option Value} {h : Nat → Ob} {nid : Nat} (e : TypeId) (sz : Nat) (hr : HRel S w ρ h) (hf : h nid = .free) : Eff S w w ρ (dK ρ nid (.slice none 0 0)) h (cy h nid (.row e sz [])) (fun _ => False) :=
 eff_new hr hf (Chg.refl _ _) ⟨_, [], bg _ _ _, ⟨by simp, .inl ⟨rfl, rfl⟩⟩, by simp [CRel]⟩ (fun b hb => by
  obtain ⟨v, h1, h2⟩ := hb
  rw [bg] at h1
  cases h1; cases h2)
theorem gNS (d : Nat) (e : TypeId) (sz : Nat) (hp : p.still = true) (hd : F.get d = some .nils) (h1 : F.put d (some (.sl H.nx)) id = F1) (h2 : H.ap (.new (.row e sz [])) id = H1) (k : Go P K Q p s n F1 H1) : Go P K Q p s n F H := by
 rw [Fm.put_eq] at h1; rw [Hp.ap_eq] at h2; subst h1 h2
 intro S w ρ a hr hi hF
 have he := tC e sz hr H.get_free
 have hg : (H.app (.new (.row e sz []))).get = cy H.get H.nx (.row e sz []) := Hp.get_app trivial
 have := k S w (dK ρ H.nx (.slice none 0 0)) a (by rw [id_eq, hg]; exact he.hr) (by rw [id_eq, hg]; exact hi.eff he) (by
  have hu := hF.up he.up
  refine ⟨hu.size, hu.defers, by simpa using hu.len, fun i u hiu => ?_⟩
  rw [id_eq, Fm.get_eq, List.getElem?_set] at hiu
  split at hiu
  ·rename_i e1; subst e1
   split at hiu
   ·simp only [Option.bind_some, id_eq, Option.some.injEq] at hiu
    subst hiu
    obtain ⟨x, h3, h4⟩ := hF.get d _ hd
    simp only [VRel] at h4; subst h4
    exact ⟨_, h3, by simp only [VRel]; exact ⟨bg _ _ _, rfl⟩⟩
   ·cases hiu
  ·exact hu.get i u (by rw [Fm.get_eq]; exact hiu))
 cases p with
 | drw all L m left listed => cases hp
 | code c => exact this
 | ops all rest => exact this
 | ex e => exact this
theorem gNC {t : TypeId} {cs : List V} (id o : Nat) (e : TypeId) (sz : Nat) (hp : p.still = true) (ho : H.get id = .var t cs) (hc : cs[o]? = some .nils) (h2 : (H.ap (.new (.row e sz [])) fun H1 => H1.ap (.set id (.var t (cs.set o (.sl H.nx)))) _root_.id) = H1) (k : Go P K Q p s n F H1) : Go P K Q p s n F H := by
 rw [Hp.ap_eq, Hp.ap_eq] at h2; subst h2
 intro S w ρ a hr hi hF
 have he := tC e sz hr H.get_free
 have hg : (H.app (.new (.row e sz []))).get = cy H.get H.nx (.row e sz []) := Hp.get_app trivial
 have hne : id ≠ H.nx := fun e1 => by subst e1; rw [H.get_free] at ho; cases ho
 have hg1 : (H.app (.new (.row e sz []))).get id = .var t cs := by rw [hg, cq _ _ hne, ho]
 have hg2 : ((H.app (.new (.row e sz []))).app (.set id (.var t (cs.set o (.sl H.nx))))).get = cy (H.app (.new (.row e sz []))).get id (.var t (cs.set o (.sl H.nx))) := Hp.get_app (by exact ⟨by rw [hg1]; simp, by rw [hg1]; simp⟩)
 have h1 : HRel S w (dK ρ H.nx (.slice none 0 0)) (H.app (.new (.row e sz []))).get := by rw [hg]; exact he.hr
 have h2 : Inv K S w (dK ρ H.nx (.slice none 0 0)) (H.app (.new (.row e sz []))).get := by rw [hg]; exact hi.eff he
 have how : ∀ i b, own (dK ρ H.nx (.slice none 0 0)) i (cy (H.app (.new (.row e sz []))).get id (.var t (cs.set o (.sl H.nx))) i) b ↔ own (dK ρ H.nx (.slice none 0 0)) i ((H.app (.new (.row e sz []))).get i) b := fun i b => by
  by_cases hi : i = id
  ·subst hi; rw [bK, hg1]; rfl
  ·rw [cq _ _ hi]
 have := k S w (dK ρ H.nx (.slice none 0 0)) a (by
  rw [id_eq, hg2]
  refine ⟨fun i => ?_, fun i b hb => h1.sep i b ((how i b).1 hb), fun i j b q1 q2 => h1.dis i j b ((how i b).1 q1) ((how j b).1 q2), h1.slt⟩
  by_cases hii : i = id
  ·subst hii
   rw [bK]
   obtain ⟨b, xs, q1, q2, q3⟩ := nw h1 hg1
   obtain ⟨x, q4, q5⟩ := q3.get hc
   simp only [VRel] at q5; subst q5
   refine ⟨b, xs, q1, q2, ?_⟩
   have := q3.set (i := o) (v := .sl H.nx) (x := .slice none 0 0) (by simp only [VRel]; exact ⟨bg _ _ _, rfl⟩)
   have e2 : xs.set o (.slice none 0 0) = xs := by
    obtain ⟨hl, q6⟩ := List.getElem?_eq_some_iff.1 q4
    rw [← q6]; exact List.set_getElem_self ..
   rw [e2] at this; exact this
  ·rw [cq _ _ hii]; exact h1.ob i) (by
  rw [id_eq, hg2]
  exact ⟨h2.chg, h2.s0, h2.s1, fun i b hb => h2.ow i b ((how i b).1 hb), h2.pin⟩) (hF.up he.up)
 cases p with
 | drw all L m left listed => cases hp
 | code c => exact this
 | ops all rest => exact this
 | ex e => exact this
theorem gLB {sz : Nat} {els : List V} {N : Nat} (d : Nat) (hd : F.get d = some (.row sz els)) (hn : els.length = N) (k : N ≤ 9223372036854775807 → Go P K Q p s n F H) : Go P K Q p s n F H := fun S w ρ a hr hi hF => by
 obtain ⟨x, h1, h2⟩ := hF.get d _ hd
 simp only [VRel] at h2
 obtain ⟨A, c, xs, rfl, h3, h4, _⟩ := h2
 exact k (by simp only [maxLen] at h4; omega) S w ρ a hr hi hF
theorem gLO {e : TypeId} {sz : Nat} {els : List V} {N : Nat} (id : Nat) (ho : H.get id = .row e sz els) (hn : els.length = N) (k : N ≤ 9223372036854775807 → Go P K Q p s n F H) : Go P K Q p s n F H := fun S w ρ a hr hi hF => by
 obtain ⟨v, xs, h1, h2, h3⟩ := kB hr ho
 refine k ?_ S w ρ a hr hi hF
 rcases h2.2 with ⟨_, h⟩ | ⟨g, cap, cur, _, _, _, h4, h5, _⟩
 ·omega
 ·simp only [maxLen] at h5; omega
theorem DU (hT : TabOk P T) {t : TypeId} (ht : (match T.ty t with | some ⟨_, _, _, .str⟩ => true | _ => false) = true) : P.underlying t = some .string := by
 split at ht
 ·rename_i h; exact (hT.ty _ _ h).str rfl
 ·cases ht
theorem yIS (hT : TabOk P T) {t : TypeId} {x y : Operand} {l : List UInt8} {i : Nat} {c : UInt8} {ty : TypeId} (ht : (match T.ty t with | some ⟨_, _, _, .str⟩ => true | _ => false) = true) (hx : aT F x = some (.str l)) (hy : aT F y = some (.int .i64 (i : Int))) (hi : l[i]? = some c) : ∀ S w ρ a, HRel S w ρ H.get → FRel S w ρ a n F → Yld P S w ρ a ty (.index t x y) (.int .u8 (c.toNat : Int)) := fun S w ρ a hr hF =>
 p_idxS hF.fr (DU hT ht) (al hF hx) (al hF hy) hi
def vH (F : Fm) (y : Option Operand) (i : Nat) (dflt : Nat) : Prop := (y = none ∧ i = dflt) ∨ ∃ z, y = some z ∧ aT F z = some (.int .i64 (i : Int))
theorem FX {i : Nat} : vH F none i i := .inl ⟨rfl, rfl⟩
theorem sj {z : Operand} {i d : Nat} (h : aT F z = some (.int .i64 (i : Int))) : vH F (some z) i d := .inr ⟨z, rfl, h⟩
theorem zD {S : Nat → Prop} {w : World} {ρ : Nat → Option Value} {a : Act} (hF : FRel S w ρ a n F) {y : Option Operand} {i d : Nat} (h : vH F y i d) : (y = none ∧ i = d) ∨ ∃ z, y = some z ∧ Opd S w ρ a z (.int .i64 (i : Int)) := h.imp _root_.id fun ⟨z, e, h⟩ => ⟨z, e, al hF h⟩
theorem ySS (hT : TabOk P T) {t : TypeId} {x : Operand} {lo hi : Option Operand} {l r : List UInt8} {i j : Nat} {ty : TypeId} (ht : (match T.ty t with | some ⟨_, _, _, .str⟩ => true | _ => false) = true) (hx : aT F x = some (.str l)) (hlo : vH F lo i 0) (hhi : vH F hi j l.length) (hij : i ≤ j) (hj : j ≤ l.length) (he : (l.drop i).take (j - i) = r) : ∀ S w ρ a, HRel S w ρ H.get → FRel S w ρ a n F → Yld P S w ρ a ty (.slice t x lo hi none) (.str r) := fun S w ρ a hr hF => by
 subst he
 exact Cr hF.fr (DU hT ht) (al hF hx) (zD hF hlo) (zD hF hhi) hij hj
theorem Bv {α : Type} (l : List α) (i : Nat) : (l.drop i).take (l.length - i) = l.drop i := by
 rw [List.take_of_length_le (by simp)]
theorem bc {t e : TypeId} {x y : Operand} {sz i : Nat} {els cs : List V} {v : V} {ty : TypeId} (hi : els[i]? = some v) (hT : TabOk P T) (ht : slT T t = some (e, sz)) (hx : aT F x = some (.row sz els)) (hy : aT F y = some (.int .i64 (i : Int))) (hc : v.cells = cs) : ∀ S w ρ a, HRel S w ρ H.get → FRel S w ρ a n F → Yld P S w ρ a ty (.indexAddr t x y) (.box cs 0) := by
 subst hc; exact yIR hT ht hx hy hi
theorem Dn {f : Nat → Option Value} {a : Act} {w : World} {ty t u : TypeId} {x y : Operand} {m l : Int} (h : Fr a n f) (hx : av f x = some (.int .i64 m)) (hy : av f y = some (.int .i64 l)) (hl : l ≠ 0) : Runs P a ty (.binOp .rem t x y u) w (.value (.int .i64 (Int.tmod m l))) w := fun _ _ _ _ => by
 simp only [execOp, h.eval hx, h.eval hy]; simp [go_sem, eqGuard, Op.intDiv, hl]
theorem CI {f : Nat → Option Value} {a : Act} {w : World} {ty t u : TypeId} {x y : Operand} {m l : List UInt8} (h : Fr a n f) (hx : av f x = some (.string ⟨m.toArray⟩)) (hy : av f y = some (.string ⟨l.toArray⟩)) (hb : m.length + l.length ≤ 9223372036854775807) : Runs P a ty (.binOp .add t x y u) w (.value (.string ⟨(m ++ l).toArray⟩)) w := fun _ _ _ _ => by
 simp only [execOp, h.eval hx, h.eval hy]; simp [go_sem, eqGuard, show ¬ 9223372036854775807 < m.length + l.length by omega]; rfl
theorem FO {t u ty : TypeId} {x y : Operand} {m l : Int} (hx : aT F x = some (.int .i64 m)) (hy : aT F y = some (.int .i64 l)) (hl : l ≠ 0) : ∀ S w ρ a, HRel S w ρ H.get → FRel S w ρ a n F → Yld P S w ρ a ty (.binOp .rem t x y u) (.int .i64 (Int.tmod m l)) := fun S w ρ a hr hF => ⟨_, by simp only [VRel], fun w' _ => Dn hF.fr (br (al hF hx)) (br (al hF hy)) hl⟩
theorem pd {t u ty : TypeId} {x y : Operand} {m l : List UInt8} (hx : aT F x = some (.str m)) (hy : aT F y = some (.str l)) (hb : m.length + l.length ≤ 9223372036854775807) : ∀ S w ρ a, HRel S w ρ H.get → FRel S w ρ a n F → Yld P S w ρ a ty (.binOp .add t x y u) (.str (m ++ l)) := fun S w ρ a hr hF => ⟨_, by simp only [VRel], fun w' _ => CI hF.fr (ic (al hF hx)) (ic (al hF hy)) hb⟩
theorem zE {PL : List Nat} {fid : FuncId} {vs us : List V} {v : V} {H0 G : Hp} (hS : fE PL P fid us H0 (fun u G' => u = v ∧ G' = G)) (σ : List Nat) (hv : aD vs (renL σ us)) (hH : leH σ H H0.es) (hc : (dH σ && Nat.beq σ.length H0.nx && σ.all fun i => Nat.blt i H.nx) = true) (L : List Nat) (hL : (cG H.get L && L.all fun i => !σ.contains i) = true) :
  CallR P K fid vs H L (fun v' H'' => v' = v.ren (sgN PL H.nx H0.get G.nx σ 0) ∧ H'' = lX PL H σ H0 G) := fun S w ρ xs hr hi hx =>
 (ph hS σ hv hH hc L hL S w ρ xs hr hi hx).mono fun e w' hh => by
  obtain ⟨x, S', ρ', v', H', h1, ⟨u, G', ⟨q1, q2⟩, e1, e2⟩, h3⟩ := hh
  subst q1 q2
  exact ⟨x, S', ρ', v', H', h1, ⟨e1, e2⟩, h3⟩
theorem zp {o : Oper} {L : List Nat} {ok : Bool} {v : Option V} (ed : ED) (hd : ∀ S w ρ a, HRel S w ρ H.get → FRel S w ρ a n F → Does P S w ρ H.get a o.type o.op v (ed.app H.get H.nx) ed.tch) (hl : ed.ok H.get) (hc : ((cG H.get L && ed.clear L) || ok) = true) : mR P K o L ok n F H (v.getD (.tup [])) (H.app ed) := fun S w ρ a hr hi hF Q' K2 k => by
 obtain ⟨nx, w', ρ', h1, h2, h3⟩ := hd S w ρ a hr hF
 have hr' := h2.hr
 have hi' := hi.eff h2
 rw [← Hp.get_app hl] at hr' hi'
 have hLs : Ls ρ L w w' ∨ ok = true := (qQ hc).imp (fun h => by
  simp only [Bool.and_eq_true] at h
  exact vB hr h2 h.1 h.2) _root_.id
 have kk := fun x hx => k x S w' ρ' hr' hi' h2.up (nu hr h2) hLs hx
 obtain ⟨d, op, ty, ps, af, g⟩ := o
 unfold Oper.wp
 rw [h1 d ps af g]
 cases v with
 | none =>
  subst h3
  exact kk undef pE
 | some v =>
  obtain ⟨x, rfl, h4⟩ := h3
  exact kk x h4
theorem LRel.sub {S : Nat → Prop} {w : World} {ρ : Nat → Option Value} {vs : List V} {xs : List Value} (h : LRel S w ρ vs xs) (i j : Nat) : LRel S w ρ ((vs.drop i).take j) ((xs.drop i).take j) := (h.drop i).take j
theorem zK {fid : FuncId} {vs : List V} {L : List Nat} {Post : V → Hp → Prop} (i : Nat) (e : TypeId) (sz : Nat) (hv : vs[i]? = some .nils) (k : CallR P K fid (vs.set i (.sl H.nx)) (H.app (.new (.row e sz []))) L Post) : CallR P K fid vs H L Post := fun S w ρ xs hr hi hx => by
 have he := tC e sz hr H.get_free
 have hg : (H.app (.new (.row e sz []))).get = cy H.get H.nx (.row e sz []) := Hp.get_app trivial
 have hx' : LRel S w (dK ρ H.nx (.slice none 0 0)) (vs.set i (.sl H.nx)) xs := by
  obtain ⟨x, h1, h2⟩ := hx.get hv
  simp only [VRel] at h2; subst h2
  have := (hx.up he.up).set (i := i) (v := .sl H.nx) (x := .slice none 0 0) (by simp only [VRel]; exact ⟨bg _ _ _, rfl⟩)
  have e2 : xs.set i (.slice none 0 0) = xs := by
   obtain ⟨hl, q6⟩ := List.getElem?_eq_some_iff.1 h1
   rw [← q6]; exact List.set_getElem_self ..
  rw [e2] at this; exact this
 refine (k S w (dK ρ H.nx (.slice none 0 0)) xs (by rw [hg]; exact he.hr) (by rw [hg]; exact hi.eff he) hx').mono fun e w' hh => ?_
 obtain ⟨x, S', ρ', v, H', h1, h2, h3, h4, h5, h6, h7⟩ := hh
 exact ⟨x, S', ρ', v, H', h1, h2, h3, h4, ⟨h5.s, h5.blk, fun i y h => h5.r i y (he.up.r i y h)⟩, h6, fun id hid y b hy hb => h7 id hid y b (he.up.r _ _ hy) hb⟩
theorem gYd {v : V} (i : Nat) (hi : all[i]? = some o) (hc : (!Nat.beq i m && Region.free .any all listed i && (Region.ready .any all listed).contains i) = true) (hy : ∀ S w ρ a, HRel S w ρ H.get → FRel S w ρ a n F → Yld P S w ρ a o.type o.op v) (hw : bA F all o.guard = some true) (h1 : F.puto o.dst (some v) id = F1) (k : Go P K Q (.drw all L m fuel (listed.setIfInBounds i true)) s n F1 H) : Go P K Q (.drw all L m (fuel + 1) listed) s n F H := by
 rw [Fm.puto_eq] at h1; subst h1
 simp only [Bool.and_eq_true, Bool.not_eq_true'] at hc
 exact Co hc.1.1 hi hc.1.2 hc.2 hw hy k
theorem db {v : V} (i : Nat) (hi : all[i]? = some o) (hrd : Region.ready .any all listed = [i]) (hy : ∀ S w ρ a, HRel S w ρ H.get → FRel S w ρ a n F → Yld P S w ρ a o.type o.op v) (hw : bA F all o.guard = some true) (h1 : F.puto o.dst (some v) id = F1) (k : Go P K Q (.drw all L m fuel (listed.setIfInBounds i true)) s n F1 H) : Go P K Q (.drw all L m (fuel + 1) listed) s n F H := by
 rw [Fm.puto_eq] at h1; subst h1
 exact AH hrd hi hw hy k
theorem gDo {v : Option V} (ed : ED) (hd : ∀ S w ρ a, HRel S w ρ H.get → FRel S w ρ a n F → Does P S w ρ H.get a o.type o.op v (ed.app H.get H.nx) ed.tch) (hl : ed.ok H.get) (hw : bA F all o.guard = some true) (h1 : F.puto o.dst (wh v) id = F1) (h2 : H.ap ed id = H1) (k : Go P K Q (.ops all rest) s n F1 H1) : Go P K Q (.ops all (o :: rest)) s n F H := by
 rw [Fm.puto_eq] at h1; rw [Hp.ap_eq] at h2; subst h1 h2
 exact go_opD hw hd hl k
theorem bY {v : Option V} (i : Nat) (ed : ED) (hi : all[i]? = some o) (hrd : Region.ready .any all listed = [i]) (hd : ∀ S w ρ a, HRel S w ρ H.get → FRel S w ρ a n F → Does P S w ρ H.get a o.type o.op v (ed.app H.get H.nx) ed.tch) (hl : ed.ok H.get) (hw : bA F all o.guard = some true) (hc : ((cG H.get L && ed.clear L) || (listed.setIfInBounds i true).getD m false) = true) (h1 : F.puto o.dst (wh v) id = F1) (h2 : H.ap ed id = H1) (k : Go P K Q (.drw all L m fuel (listed.setIfInBounds i true)) s n F1 H1) : Go P K Q (.drw all L m (fuel + 1) listed) s n F H := by
 rw [Fm.puto_eq] at h1; rw [Hp.ap_eq] at h2; subst h1 h2
 exact va hrd hi hw hd hl hc k
theorem bP {t e : TypeId} {x y : Operand} {sz by_ id : Nat} {els news els' : List V} {v : V} {ty : TypeId} (hT : TabOk P T) (ht : slB T t = some (e, sz, by_)) (hx : aT F x = some (.sl id)) (ho : H.get id = .row e sz els) (hy : aT F y = some v) (hs : vG H.get sz v = some news) (he : els ++ news = els') (hb : els'.length ≤ 1000000000) :
  ∀ S w ρ a, HRel S w ρ H.get → FRel S w ρ a n F → Does P S w ρ H.get a ty (.call { callee := .builtin .append, args := #[x, y], argTypes := #[t, t] }) (some (.sl H.nx)) ((ED.repl id (.row e sz els')).app H.get H.nx) (ED.repl id (.row e sz els')).tch := by
 subst he
 exact dAp hT ht hx ho hy hs (by simpa using hb)
theorem okR {e : TypeId} {sz : Nat} {els : List V} {id : Nat} {o' : Ob} (ho : H.get id = .row e sz els) : (ED.repl id o').ok H.get := by exact ⟨by rw [ho]; simp, by rw [ho]; simp⟩
theorem okS {e : TypeId} {sz : Nat} {els : List V} {id : Nat} {o' : Ob} (ho : H.get id = .row e sz els) : (ED.set id o').ok H.get := by exact ⟨by rw [ho]; simp, by rw [ho]; simp⟩
theorem dLe (hT : TabOk P T) {t e : TypeId} {x : Operand} {id sz i o : Nat} {els : List V} {v0 v : V} {td : TD} {ty : TypeId} (ht : T.ty t = some td) (hx : aT F x = some (.el id sz i o)) (ho : H.get id = .row e sz els) (hi : els[i]? = some v0) (hv : ml td v0.cells o = some v) :
  ∀ S w ρ a, HRel S w ρ H.get → FRel S w ρ a n F → Does P S w ρ H.get a ty (.load t x) (some v) (ED.nop.app H.get H.nx) ED.nop.tch := fun S w ρ a hr hF => by
 rcases mf (hT.ty _ _ ht) hv with ⟨h1, h2⟩ | ⟨h1, h2, rfl⟩
 ·exact xp hr hF.fr (al hF hx) ho h1 hi h2
 ·exact uT hr hF.fr (al hF hx) ho h1 hi h2
theorem dSe (hT : TabOk P T) {t e : TypeId} {x y : Operand} {id sz i o : Nat} {els els' : List V} {v0 v : V} {td : TD} {ty : TypeId} (ht : T.ty t = some td) (hx : aT F x = some (.el id sz i o)) (hy : aT F y = some v) (ho : H.get id = .row e sz els) (hi : els[i]? = some v0) (hc : (Nat.beq v.cells.length td.size && v.cells.all V.one && Nat.ble (o + td.size) v0.cells.length && (match v0 with | .agg _ => true | v0 => v0.one && v.one)) = true) (he : els.set i (v0.over o v.cells) = els') :
  ∀ S w ρ a, HRel S w ρ H.get → FRel S w ρ a n F → Does P S w ρ H.get a ty (.store t x y) none ((ED.set id (.row e sz els')).app H.get H.nx) (ED.set id (.row e sz els')).tch := fun S w ρ a hr hF => by
 subst he
 simp only [Bool.and_eq_true] at hc
 obtain ⟨⟨⟨h1, h2⟩, h3⟩, h4⟩ := hc
 exact rP hr hF.fr (al hF hx) (al hF hy) ho (hT.ty _ _ ht).size hi (Nat.eq_of_beq_eq_true h1) h2 (Nat.le_of_ble_eq_true h3) (by
  cases v0 with
  | agg cs => exact .inl ⟨cs, rfl⟩
  | _ => simp only [Bool.and_eq_true] at h4; exact .inr ⟨pq h4.1, pq h4.2⟩)
theorem dMk (hT : TabOk P T) {t e : TypeId} {x y : Operand} {m sz : Nat} {z0 : V} {td : TD} {tz : TD} {ty : TypeId} (ht : T.ty t = some tz) (hk : (match tz.kind with | .sl e' => Nat.beq e e' | _ => false) = true) (hte : T.ty e = some td) (hx : aT F x = some (.int .i64 (m : Int))) (hy : aT F y = some (.int .i64 (m : Int))) (hsz : td.size = sz) (hz0 : td.zero = z0) (hc : (Nat.blt 0 td.size && Nat.ble td.bytes 1000) = true) (hm : m ≤ 1000000000) :
  ∀ S w ρ a, HRel S w ρ H.get → FRel S w ρ a n F → Does P S w ρ H.get a ty (.makeSlice t x y) (some (.sl H.nx)) ((ED.new (.row e sz (List.replicate m z0))).app H.get H.nx) (ED.new (.row e sz (List.replicate m z0))).tch := fun S w ρ a hr hF => by
 subst hsz hz0
 simp only [Bool.and_eq_true, Nat.blt_eq] at hc
 obtain ⟨z, h1, h2, h3, h4⟩ := (hT.ty _ _ hte).info
 have hsl : P.underlying t = some (.slice e) := by
  split at hk
  ·rename_i e' he'
   have := Nat.eq_of_beq_eq_true hk
   subst this
   exact (hT.ty _ _ ht).sl he'
  ·cases hk
 have hb : td.bytes ≤ 1000 := Nat.le_of_ble_eq_true hc.2
 exact Ay hr hF.fr H.get_free (al hF hx) (al hF hy) hsl h1 h3 hc.1 h4 h2 (Nat.le_trans (Nat.mul_le_mul hb hm) (by decide)) (by simp only [maxLen]; omega)
theorem gCn {PL : List Nat} {fid : FuncId} {args : List Operand} {tys : Array TypeId} {vs us : List V} {H0 : Hp} {Post : V → Hp → Prop} {d : Option Tmp} {ty : TypeId} {ps : String} {af : Array Edge} {g : Option (Nat × Bool)} (i : Nat) (e : TypeId) (sz : Nat) (hS : fE PL P fid us H0 Post) (σ : List Nat) (he : cF P fid = true) (hw : bA F all g = some true) (hv : jb F args = some vs) (hvi : vs[i]? = some .nils) (h2 : H.ap (.new (.row e sz [])) id = H1) (hs : aD (vs.set i (.sl H.nx)) (renL σ us)) (hH : leH σ H1 H0.es) (hc : (dH σ && Nat.beq σ.length H0.nx && σ.all fun i => Nat.blt i H1.nx) = true)
  (k : ∀ v H', Post v H' → Go P K Q (.ops all rest) s n (F.seto d (some (v.ren (sgN PL H1.nx H0.get H'.nx σ 0)))) (lX PL H1 σ H0 H')) : Go P K Q (.ops all (⟨d, .call { callee := .value (.func fid), args := args.toArray, argTypes := tys }, ty, ps, af, g⟩ :: rest)) s n F H := by
 rw [Hp.ap_eq] at h2; subst h2
 exact go_opC (o := ⟨d, .call { callee := .value (.func fid), args := args.toArray, argTypes := tys }, ty, ps, af, g⟩) he rfl hw hv (zK i e sz hvi (ph hS σ hs hH hc [] (by simp [cG]))) fun v' H'' ⟨v, H', hP, e1, e2⟩ => by subst e1 e2; exact k v H' hP
end
abbrev qS (f : FuncId) (a : List V) (r : V) : Prop := pk Tryz.prog f a r
abbrev qLG (K : Ctx) (fn : Func) (Q : V → Hp → Prop) (c : Code) (s : List EI) (n : Nat) (F : Fm) (H : Hp) : Prop := Go Tryz.prog K (bodyPost Tryz.prog fn (SP K Q)) (.code c) s n F H
section
variable {P : Program} {K : Ctx} {Q : Exit → Act → World → Prop} {p : EP} {s : List EI} {n : Nat} {F F1 F2 F3 F4 : Fm} {H : Hp}
theorem qBh {e : Bool} {A B C D : Prop} (d : Nat) (hd : F.get d = some (.bool e)) (h1 : F.put d (some (.bool true)) id = F1) (h2 : F.put d (some (.bool false)) id = F2) (h : (A → C) ∧ (B → D)) (a : e = true → A) (b : e = false → B) (kT : C → Go P K Q p s n F1 H) (kF : D → Go P K Q p s n F2 H) : Go P K Q p s n F H := gB d hd h1 h2 (fun z => kT (h.1 (a z))) (fun z => kF (h.2 (b z)))
theorem qBi {e : Bool} {C D : Prop} (d : Nat) (hd : F.get d = some (.bool e)) (h1 : F.put d (some (.bool true)) id = F1) (h2 : F.put d (some (.bool false)) id = F2) (h : (e = true → C) ∧ (e = false → D)) (kT : C → Go P K Q p s n F1 H) (kF : D → Go P K Q p s n F2 H) : Go P K Q p s n F H := qBh d hd h1 h2 h id id kT kF
theorem qBe {α : Type} [BEq α] [LawfulBEq α] {x y : α} {C D : Prop} (d : Nat) (hd : F.get d = some (.bool (x == y))) (h1 : F.put d (some (.bool true)) id = F1) (h2 : F.put d (some (.bool false)) id = F2) (h : (x = y → C) ∧ (x ≠ y → D)) (kT : C → Go P K Q p s n F1 H) (kF : D → Go P K Q p s n F2 H) : Go P K Q p s n F H := qBh d hd h1 h2 h eq_of_beq ne_of_beq_false kT kF
theorem qBd {x : Prop} [Decidable x] {C D : Prop} (d : Nat) (hd : F.get d = some (.bool (decide x))) (h1 : F.put d (some (.bool true)) id = F1) (h2 : F.put d (some (.bool false)) id = F2) (h : (x → C) ∧ (¬ x → D)) (kT : C → Go P K Q p s n F1 H) (kF : D → Go P K Q p s n F2 H) : Go P K Q p s n F H := qBh d hd h1 h2 h of_decide_eq_true of_decide_eq_false kT kF
theorem qBhZ {e : Bool} {A B C D : Prop} (d i : Nat) (hd : F.get d = some (.bool e)) (hi : Fm.get (F.set d none) i = some (.bool e)) (h1 : F.put d (some (.bool true)) (fun F => F.put i (some (.bool true)) id) = F3) (h2 : F.put d (some (.bool false)) (fun F => F.put i (some (.bool false)) id) = F4) (h : (A → C) ∧ (B → D)) (a : e = true → A) (b : e = false → B) (kT : C → Go P K Q p s n F3 H) (kF : D → Go P K Q p s n F4 H) : Go P K Q p s n F H := by
 rw [Fm.put_eq, Fm.put_eq] at h1 h2
 have w (v : V) : Fm.get (F.set d (some v)) i = some (.bool e) := by
  rw [Fm.get_eq, List.getElem?_set] at hi ⊢
  split at hi
  · split at hi <;> simp at hi
  · rename_i e; rw [if_neg e]; exact hi
 exact gB d hd (Fm.put_eq ..) (Fm.put_eq ..) (fun z => gT i (w _) z ((Fm.put_eq ..).trans h1) (kT (h.1 (a z)))) (fun z => gF i (w _) z ((Fm.put_eq ..).trans h2) (kF (h.2 (b z))))
theorem qBiZ {e : Bool} {C D : Prop} (d i : Nat) (hd : F.get d = some (.bool e)) (hi : Fm.get (F.set d none) i = some (.bool e)) (h1 : F.put d (some (.bool true)) (fun F => F.put i (some (.bool true)) id) = F3) (h2 : F.put d (some (.bool false)) (fun F => F.put i (some (.bool false)) id) = F4) (h : (e = true → C) ∧ (e = false → D)) (kT : C → Go P K Q p s n F3 H) (kF : D → Go P K Q p s n F4 H) : Go P K Q p s n F H := qBhZ d i hd hi h1 h2 h id id kT kF
theorem qBeZ {α : Type} [BEq α] [LawfulBEq α] {x y : α} {C D : Prop} (d i : Nat) (hd : F.get d = some (.bool (x == y))) (hi : Fm.get (F.set d none) i = some (.bool (x == y))) (h1 : F.put d (some (.bool true)) (fun F => F.put i (some (.bool true)) id) = F3) (h2 : F.put d (some (.bool false)) (fun F => F.put i (some (.bool false)) id) = F4) (h : (x = y → C) ∧ (x ≠ y → D)) (kT : C → Go P K Q p s n F3 H) (kF : D → Go P K Q p s n F4 H) : Go P K Q p s n F H := qBhZ d i hd hi h1 h2 h eq_of_beq ne_of_beq_false kT kF
theorem qBdZ {x : Prop} [Decidable x] {C D : Prop} (d i : Nat) (hd : F.get d = some (.bool (decide x))) (hi : Fm.get (F.set d none) i = some (.bool (decide x))) (h1 : F.put d (some (.bool true)) (fun F => F.put i (some (.bool true)) id) = F3) (h2 : F.put d (some (.bool false)) (fun F => F.put i (some (.bool false)) id) = F4) (h : (x → C) ∧ (¬ x → D)) (kT : C → Go P K Q p s n F3 H) (kF : D → Go P K Q p s n F4 H) : Go P K Q p s n F H := qBhZ d i hd hi h1 h2 h of_decide_eq_true of_decide_eq_false kT kF
end
theorem pqq {v : V} : ∃ u, some v = some u ∧ aA u v := ⟨v, rfl, aA.rfl⟩
theorem pq1 {a0 : V} : (∃ u, some a0 = some u ∧ aA u a0) ∧ True := ⟨pqq, trivial⟩
theorem pq2 {a0 a1 : V} : (∃ u, some a0 = some u ∧ aA u a0) ∧ (∃ u, some a1 = some u ∧ aA u a1) ∧ True := ⟨pqq, pqq, trivial⟩
theorem pq3 {a0 a1 a2 : V} : (∃ u, some a0 = some u ∧ aA u a0) ∧ (∃ u, some a1 = some u ∧ aA u a1) ∧ (∃ u, some a2 = some u ∧ aA u a2) ∧ True := ⟨pqq, pqq, pqq, trivial⟩
theorem pq4 {a0 a1 a2 a3 : V} : (∃ u, some a0 = some u ∧ aA u a0) ∧ (∃ u, some a1 = some u ∧ aA u a1) ∧ (∃ u, some a2 = some u ∧ aA u a2) ∧ (∃ u, some a3 = some u ∧ aA u a3) ∧ True := ⟨pqq, pqq, pqq, pqq, trivial⟩
theorem pq5 {a0 a1 a2 a3 a4 : V} : (∃ u, some a0 = some u ∧ aA u a0) ∧ (∃ u, some a1 = some u ∧ aA u a1) ∧ (∃ u, some a2 = some u ∧ aA u a2) ∧ (∃ u, some a3 = some u ∧ aA u a3) ∧ (∃ u, some a4 = some u ∧ aA u a4) ∧ True := ⟨pqq, pqq, pqq, pqq, pqq, trivial⟩
theorem pq6 {a0 a1 a2 a3 a4 a5 : V} : (∃ u, some a0 = some u ∧ aA u a0) ∧ (∃ u, some a1 = some u ∧ aA u a1) ∧ (∃ u, some a2 = some u ∧ aA u a2) ∧ (∃ u, some a3 = some u ∧ aA u a3) ∧ (∃ u, some a4 = some u ∧ aA u a4) ∧ (∃ u, some a5 = some u ∧ aA u a5) ∧ True := ⟨pqq, pqq, pqq, pqq, pqq, pqq, trivial⟩
theorem pq7 {a0 a1 a2 a3 a4 a5 a6 : V} : (∃ u, some a0 = some u ∧ aA u a0) ∧ (∃ u, some a1 = some u ∧ aA u a1) ∧ (∃ u, some a2 = some u ∧ aA u a2) ∧ (∃ u, some a3 = some u ∧ aA u a3) ∧ (∃ u, some a4 = some u ∧ aA u a4) ∧ (∃ u, some a5 = some u ∧ aA u a5) ∧ (∃ u, some a6 = some u ∧ aA u a6) ∧ True := ⟨pqq, pqq, pqq, pqq, pqq, pqq, pqq, trivial⟩
theorem pq8 {a0 a1 a2 a3 a4 a5 a6 a7 : V} : (∃ u, some a0 = some u ∧ aA u a0) ∧ (∃ u, some a1 = some u ∧ aA u a1) ∧ (∃ u, some a2 = some u ∧ aA u a2) ∧ (∃ u, some a3 = some u ∧ aA u a3) ∧ (∃ u, some a4 = some u ∧ aA u a4) ∧ (∃ u, some a5 = some u ∧ aA u a5) ∧ (∃ u, some a6 = some u ∧ aA u a6) ∧ (∃ u, some a7 = some u ∧ aA u a7) ∧ True := ⟨pqq, pqq, pqq, pqq, pqq, pqq, pqq, pqq, trivial⟩
theorem pq9 {a0 a1 a2 a3 a4 a5 a6 a7 a8 : V} : (∃ u, some a0 = some u ∧ aA u a0) ∧ (∃ u, some a1 = some u ∧ aA u a1) ∧ (∃ u, some a2 = some u ∧ aA u a2) ∧ (∃ u, some a3 = some u ∧ aA u a3) ∧ (∃ u, some a4 = some u ∧ aA u a4) ∧ (∃ u, some a5 = some u ∧ aA u a5) ∧ (∃ u, some a6 = some u ∧ aA u a6) ∧ (∃ u, some a7 = some u ∧ aA u a7) ∧ (∃ u, some a8 = some u ∧ aA u a8) ∧ True := ⟨pqq, pqq, pqq, pqq, pqq, pqq, pqq, pqq, pqq, trivial⟩
theorem pq10 {a0 a1 a2 a3 a4 a5 a6 a7 a8 a9 : V} : (∃ u, some a0 = some u ∧ aA u a0) ∧ (∃ u, some a1 = some u ∧ aA u a1) ∧ (∃ u, some a2 = some u ∧ aA u a2) ∧ (∃ u, some a3 = some u ∧ aA u a3) ∧ (∃ u, some a4 = some u ∧ aA u a4) ∧ (∃ u, some a5 = some u ∧ aA u a5) ∧ (∃ u, some a6 = some u ∧ aA u a6) ∧ (∃ u, some a7 = some u ∧ aA u a7) ∧ (∃ u, some a8 = some u ∧ aA u a8) ∧ (∃ u, some a9 = some u ∧ aA u a9) ∧ True := ⟨pqq, pqq, pqq, pqq, pqq, pqq, pqq, pqq, pqq, pqq, trivial⟩
theorem pq11 {a0 a1 a2 a3 a4 a5 a6 a7 a8 a9 a10 : V} : (∃ u, some a0 = some u ∧ aA u a0) ∧ (∃ u, some a1 = some u ∧ aA u a1) ∧ (∃ u, some a2 = some u ∧ aA u a2) ∧ (∃ u, some a3 = some u ∧ aA u a3) ∧ (∃ u, some a4 = some u ∧ aA u a4) ∧ (∃ u, some a5 = some u ∧ aA u a5) ∧ (∃ u, some a6 = some u ∧ aA u a6) ∧ (∃ u, some a7 = some u ∧ aA u a7) ∧ (∃ u, some a8 = some u ∧ aA u a8) ∧ (∃ u, some a9 = some u ∧ aA u a9) ∧ (∃ u, some a10 = some u ∧ aA u a10) ∧ True := ⟨pqq, pqq, pqq, pqq, pqq, pqq, pqq, pqq, pqq, pqq, pqq, trivial⟩
theorem pq12 {a0 a1 a2 a3 a4 a5 a6 a7 a8 a9 a10 a11 : V} : (∃ u, some a0 = some u ∧ aA u a0) ∧ (∃ u, some a1 = some u ∧ aA u a1) ∧ (∃ u, some a2 = some u ∧ aA u a2) ∧ (∃ u, some a3 = some u ∧ aA u a3) ∧ (∃ u, some a4 = some u ∧ aA u a4) ∧ (∃ u, some a5 = some u ∧ aA u a5) ∧ (∃ u, some a6 = some u ∧ aA u a6) ∧ (∃ u, some a7 = some u ∧ aA u a7) ∧ (∃ u, some a8 = some u ∧ aA u a8) ∧ (∃ u, some a9 = some u ∧ aA u a9) ∧ (∃ u, some a10 = some u ∧ aA u a10) ∧ (∃ u, some a11 = some u ∧ aA u a11) ∧ True := ⟨pqq, pqq, pqq, pqq, pqq, pqq, pqq, pqq, pqq, pqq, pqq, pqq, trivial⟩
theorem pqo {H : Hp} {x : Option Nat} {i : Nat} {t : TypeId} {cs : List V} (h1 : x = some i) (h2 : H.get i = .var t cs) : ∃ i, x = some i ∧ fS (H.get i) (.var t cs) := ⟨i, h1, by rw [h2]; exact ⟨rfl, aD.rfl⟩⟩
theorem pqo1 {H : Hp} {x0 : Option Nat} {i0 : Nat} {t0 : TypeId} {c0 : List V} (h0 : x0 = some i0) (k0 : H.get i0 = .var t0 c0) : (∃ i, x0 = some i ∧ fS (H.get i) (.var t0 c0)) ∧ True := ⟨pqo h0 k0, trivial⟩
theorem pqo2 {H : Hp} {x0 : Option Nat} {i0 : Nat} {t0 : TypeId} {c0 : List V} (h0 : x0 = some i0) (k0 : H.get i0 = .var t0 c0) {x1 : Option Nat} {i1 : Nat} {t1 : TypeId} {c1 : List V} (h1 : x1 = some i1) (k1 : H.get i1 = .var t1 c1) : (∃ i, x0 = some i ∧ fS (H.get i) (.var t0 c0)) ∧ (∃ i, x1 = some i ∧ fS (H.get i) (.var t1 c1)) ∧ True := ⟨pqo h0 k0, pqo h1 k1, trivial⟩
theorem pqo3 {H : Hp} {x0 : Option Nat} {i0 : Nat} {t0 : TypeId} {c0 : List V} (h0 : x0 = some i0) (k0 : H.get i0 = .var t0 c0) {x1 : Option Nat} {i1 : Nat} {t1 : TypeId} {c1 : List V} (h1 : x1 = some i1) (k1 : H.get i1 = .var t1 c1) {x2 : Option Nat} {i2 : Nat} {t2 : TypeId} {c2 : List V} (h2 : x2 = some i2) (k2 : H.get i2 = .var t2 c2) : (∃ i, x0 = some i ∧ fS (H.get i) (.var t0 c0)) ∧ (∃ i, x1 = some i ∧ fS (H.get i) (.var t1 c1)) ∧ (∃ i, x2 = some i ∧ fS (H.get i) (.var t2 c2)) ∧ True := ⟨pqo h0 k0, pqo h1 k1, pqo h2 k2, trivial⟩
theorem pqo4 {H : Hp} {x0 : Option Nat} {i0 : Nat} {t0 : TypeId} {c0 : List V} (h0 : x0 = some i0) (k0 : H.get i0 = .var t0 c0) {x1 : Option Nat} {i1 : Nat} {t1 : TypeId} {c1 : List V} (h1 : x1 = some i1) (k1 : H.get i1 = .var t1 c1) {x2 : Option Nat} {i2 : Nat} {t2 : TypeId} {c2 : List V} (h2 : x2 = some i2) (k2 : H.get i2 = .var t2 c2) {x3 : Option Nat} {i3 : Nat} {t3 : TypeId} {c3 : List V} (h3 : x3 = some i3) (k3 : H.get i3 = .var t3 c3) : (∃ i, x0 = some i ∧ fS (H.get i) (.var t0 c0)) ∧ (∃ i, x1 = some i ∧ fS (H.get i) (.var t1 c1)) ∧ (∃ i, x2 = some i ∧ fS (H.get i) (.var t2 c2)) ∧ (∃ i, x3 = some i ∧ fS (H.get i) (.var t3 c3)) ∧ True := ⟨pqo h0 k0, pqo h1 k1, pqo h2 k2, pqo h3 k3, trivial⟩
abbrev xA (c : Code) : Code := cB (cB c)
abbrev xB (c : Code) : Code := cE (cB c)
abbrev xC (c : Code) : Code := xB (xB c)
abbrev xD (c : Code) : Code := cK (cB c)
abbrev xE (c : Code) : Code := xD (cA c)
abbrev xF (c : Code) : Code := xE (xA c)
abbrev xG (c : Code) : Code := xC (xC c)
abbrev xH (c : Code) : Code := cL (xF c)
abbrev xI (c : Code) : Code := xA (cB c)
abbrev xJ (c : Code) : Code := xA (xA c)
abbrev xK (c : Code) : Code := xG (xG c)
abbrev xL (c : Code) : Code := xB (xF c)
abbrev xM (c : Code) : Code := cT (cB c)
abbrev xN (c : Code) : Code := xH (cB c)
end Go.Proofs.YtpnpdlnpikkeaaaGreat
namespace Go.Proofs.YtpnpdlnpikkeaaaGreat
open Go.RowKit Lx Sx
set_option maxRecDepth 100000
set_option maxHeartbeats 4000000
def wK (p0 : List UInt8) (r0 : Int) : Prop := qS 69 [.str p0] (.int .i64 r0)
def qd (p0 : List UInt8) (r0 : Int) : Prop := qS 75 [.str p0] (.int .i64 r0)
def hV (p0 p1 r0 : Int) : Prop := qS 42 [.int .i64 p0, .int .i64 p1] (.int .i64 r0)
def eu (p0 p1 p2 r0 : Int) : Prop := qS 68 [.int .i64 p0, .int .i64 p1, .int .i64 p2] (.int .i64 r0)
def iW (p0 : Int) (r0 : Bool) : Prop := qS 72 [.int .i64 p0] (.bool r0)
def dB (p0 : Int) (r0 : Bool) : Prop := qS 71 [.int .i64 p0] (.bool r0)
def lp (p0 : Int) (r0 : Bool) : Prop := qS 73 [.int .i64 p0] (.bool r0)
def jW (p0 : List UInt8) (r0 : Bool) : Prop := qS 70 [.str p0] (.bool r0)
def lG (p0 : Int) (p1 : List UInt8) (r0 : Bool) : Prop := qS 43 [.int .i64 p0, .str p1] (.bool r0)
def ma (p0 : Tree) (p1 : Int) (r0 : Bool) : Prop := qS 44 [.agg (aj p0), .int .i64 p1] (.bool r0)
def eM (p0 : Tree) (r0 : Bool) : Prop := qS 24 [.agg (aj p0)] (.bool r0)
def eh (p0 p1 r0 : Int) : Prop := qS 45 [.int .i64 p0, .int .i64 p1] (.int .i64 r0)
def bX (p0 p1 p2 r0 : Int) : Prop := qS 74 [.int .i64 p0, .int .i64 p1, .int .i64 p2] (.int .i64 r0)
def fp (p0 : Int) (r0 : Bool) : Prop := qS 78 [.int .i64 p0] (.bool r0)
def dI (p0 : Int) (r0 : Bool) : Prop := qS 77 [.int .i64 p0] (.bool r0)
def fi (p0 : Int) (r0 : Bool) : Prop := qS 79 [.int .i64 p0] (.bool r0)
def fD (p0 : List UInt8) (r0 : Bool) : Prop := qS 76 [.str p0] (.bool r0)
def gr (p0 : Int) (p1 : List UInt8) (r0 : Bool) : Prop := qS 46 [.int .i64 p0, .str p1] (.bool r0)
def jV (p0 : Tree) (p1 p2 : Int) (r0 : Bool) : Prop := qS 47 [.agg (aj p0), .int .i64 p1, .int .i64 p2] (.bool r0)
def cR (p0 : Tree) (r0 : Bool) : Prop := qS 26 [.agg (aj p0)] (.bool r0)
def aI (m : Nat) (p1 : Int) (a b c : Nat) (d r0 : Int) : Prop := ∀ (K : Ctx), aB K [] → qLG K Tryz.f42 (fun u _ => u = .int .i64 r0) (xJ (ac Tryz.f42)) [] 69 (mkF 69 0 [(1, .int .i64 p1), (5, .int .i64 (a : Int)), (6, .int .i64 d), (7, .int .i64 (b : Int)), (8, .int .i64 (c : Int))]) ⟨0, []⟩
def iY (m : Nat) (p0 p1 : Int) (a : Bool) (r0 : Int) : Prop := ∀ (K : Ctx), aB K [] → qLG K Tryz.f42 (fun u _ => u = .int .i64 r0) (cB (xG (xL (cB (ac Tryz.f42))))) [.blk 0, .seq (xJ (ac Tryz.f42))] 69 (mkF 69 0 [(1, .int .i64 p1), (5, .int .i64 0), (6, .int .i64 0), (7, .int .i64 1), (8, .int .i64 0), (9, .int .i64 p0), (22, .bool a)]) ⟨0, []⟩
def jd (m : Nat) (p1 : Int) (a b c : Nat) (d r0 : Int) : Prop := ∀ (K : Ctx), aB K [] → qLG K Tryz.f42 (fun u _ => u = .int .i64 r0) (xA (xI (ac Tryz.f42))) [] 69 (mkF 69 0 [(1, .int .i64 p1), (5, .int .i64 (a : Int)), (6, .int .i64 d), (7, .int .i64 (b : Int)), (8, .int .i64 (c : Int))]) ⟨0, []⟩
theorem tn (m : Nat) (p0 p1 r0 : Int) (h : ((p0 = 1) → ∃ a, eu p1 0 3 a ∧ a = r0) ∧ ((p0 ≠ 1) → ((p0 = 2) → aI m p1 2 6 2 (-1) r0) ∧ ((p0 ≠ 2) → ((p0 = 16) → aI m p1 0 3 0 (-1) r0) ∧ ((p0 ≠ 16) → ((p0 = 18) → aI m p1 1 2 0 (-1) r0) ∧ ((p0 ≠ 18) → ((p0 = 3) → aI m p1 1 3 0 1 r0) ∧ ((p0 ≠ 3) → ((p0 = 4) → iY m p0 p1 true r0) ∧ ((p0 ≠ 4) → ((p0 = 8) → iY m p0 p1 true r0) ∧ ((p0 ≠ 8) → iY m p0 p1 (p0 == 22) r0)))))))) : hV p0 p1 r0 := by
 refine ⟨rfl, rfl, ?_⟩
 refine am 69 [] Tryz.func42 rfl rfl rfl (aQ rfl) fun K hK => ?_
 refine gR 30 rfl <| qBeZ 10 11 rfl rfl rfl rfl h (fun h => ?_) fun h => ?_
 refine gR 4 rfl ?_
 obtain ⟨a, hs17, h⟩ := h
 refine gC0 hs17 (by kernel_rfl) rfl rfl .rfl rfl <| gR 6 rfl ?_
 subst h
 exact go_end ab (rs := [.tmp 4]) rfl rfl rfl
 refine gR 7 rfl <| qBeZ 14 15 rfl rfl rfl rfl h (fun h => ?_) fun h => ?_
 exact gR 9 rfl <| gJ (h K hK) [] [] rfl hK pq5 trivial rfl
 refine gR 7 rfl <| qBeZ 16 17 rfl rfl rfl rfl h (fun h => ?_) fun h => ?_
 exact gR 9 rfl <| gJ (h K hK) [] [] rfl hK pq5 trivial rfl
 refine gR 7 rfl <| qBeZ 18 19 rfl rfl rfl rfl h (fun h => ?_) fun h => ?_
 exact gR 9 rfl <| gJ (h K hK) [] [] rfl hK pq5 trivial rfl
 refine gR 7 rfl <| qBeZ 20 21 rfl rfl rfl rfl h (fun h => ?_) fun h => ?_
 exact gR 8 rfl <| gJ (h K hK) [] [] rfl hK pq5 trivial rfl
 refine gR 8 rfl <| qBeZ 22 23 rfl rfl rfl rfl h (fun h => ?_) fun h => ?_
 exact gR 3 rfl <| gJ (h K hK) [] [] rfl hK pq7 trivial rfl
 refine gR 7 rfl <| qBeZ 22 24 rfl rfl rfl rfl h (fun h => ?_) fun h => ?_
 exact gR 3 rfl <| gJ (h K hK) [] [] rfl hK pq7 trivial rfl
 exact gR 6 rfl <| gJ (h K hK) [] [] rfl hK pq7 trivial rfl
theorem sr (m : Nat) (p1 : Int) (b c d : Nat) (a r0 : Int) (h : ((0 ≤ a) → ((a < p1) → (-1) = r0) ∧ ((¬ a < p1) → jd m p1 b c d a r0)) ∧ ((¬ 0 ≤ a) → jd m p1 b c d a r0)) : aI (m + 1) p1 b c d a r0 := by
 intro K hK
 refine gR 6 rfl <| qBdZ 47 46 rfl rfl rfl rfl h (fun h => ?_) fun h => ?_
 refine gR 6 rfl <| qBd 51 rfl rfl rfl h (fun h => ?_) fun h => ?_
 refine gR 8 rfl ?_
 subst h
 exact go_end ab (rs := [.tmp 4]) rfl rfl rfl
 exact gR 3 rfl <| gJ (h K hK) [] [] rfl hK pq5 trivial rfl
 exact gR 9 rfl <| gJ (h K hK) [] [] rfl hK pq5 trivial rfl
theorem se (m : Nat) (p0 p1 : Int) (a : Bool) (r0 : Int) (h : ((a = true) → aI m p1 1 2 0 1 r0) ∧ ((a = false) → ((p0 = 17) → aI m p1 1 0 0 1 r0) ∧ ((p0 ≠ 17) → ((p0 = 19) → aI m p1 3 3 0 3 r0) ∧ ((p0 ≠ 19) → ((p0 = 20) → aI m p1 2 4 0 2 r0) ∧ ((p0 ≠ 20) → ((p0 = 21) → aI m p1 2 1 0 2 r0) ∧ ((p0 ≠ 21) → ((p0 = 5) → aI m p1 0 1 0 0 r0) ∧ ((p0 ≠ 5) → ((p0 = 6) → aI m p1 0 1 0 0 r0) ∧ ((p0 ≠ 6) → ((p0 = 7) → aI m p1 0 1 0 0 r0) ∧ ((p0 ≠ 7) → ((p0 = 9) → aI m p1 0 1 0 0 r0) ∧ ((p0 ≠ 9) → ((p0 = 10) → aI m p1 0 1 0 0 r0) ∧ ((p0 ≠ 10) → ((p0 = 11) → aI m p1 0 1 0 0 r0) ∧ ((p0 ≠ 11) → ((p0 = 12) → aI m p1 0 1 0 0 r0) ∧ ((p0 ≠ 12) → ((p0 = 13) → aI m p1 0 1 0 0 r0) ∧ ((p0 ≠ 13) → ((p0 = 14) → aI m p1 0 1 0 0 r0) ∧ ((p0 ≠ 14) → ((p0 = 15) → aI m p1 0 1 0 0 r0) ∧ ((p0 ≠ 15) → (-1) = r0)))))))))))))))) : iY (m + 1) p0 p1 a r0 := by
 intro K hK
 refine qBi 22 rfl rfl rfl h (fun h => ?_) fun h => ?_
 exact gR 8 rfl <| gJ (h K hK) [] [] rfl hK pq5 trivial rfl
 refine gR 7 rfl <| qBeZ 26 27 rfl rfl rfl rfl h (fun h => ?_) fun h => ?_
 exact gR 8 rfl <| gJ (h K hK) [] [] rfl hK pq5 trivial rfl
 refine gR 7 rfl <| qBeZ 28 29 rfl rfl rfl rfl h (fun h => ?_) fun h => ?_
 exact gR 8 rfl <| gJ (h K hK) [] [] rfl hK pq5 trivial rfl
 refine gR 7 rfl <| qBeZ 30 31 rfl rfl rfl rfl h (fun h => ?_) fun h => ?_
 exact gR 8 rfl <| gJ (h K hK) [] [] rfl hK pq5 trivial rfl
 refine gR 7 rfl <| qBeZ 32 33 rfl rfl rfl rfl h (fun h => ?_) fun h => ?_
 exact gR 8 rfl <| gJ (h K hK) [] [] rfl hK pq5 trivial rfl
 refine gR 8 rfl <| qBeZ 34 35 rfl rfl rfl rfl h (fun h => ?_) fun h => ?_
 exact gR 7 rfl <| gJ (h K hK) [] [] rfl hK pq5 trivial rfl
 refine gR 7 rfl <| qBeZ 34 36 rfl rfl rfl rfl h (fun h => ?_) fun h => ?_
 exact gR 7 rfl <| gJ (h K hK) [] [] rfl hK pq5 trivial rfl
 refine gR 7 rfl <| qBeZ 34 37 rfl rfl rfl rfl h (fun h => ?_) fun h => ?_
 exact gR 7 rfl <| gJ (h K hK) [] [] rfl hK pq5 trivial rfl
 refine gR 7 rfl <| qBeZ 34 38 rfl rfl rfl rfl h (fun h => ?_) fun h => ?_
 exact gR 7 rfl <| gJ (h K hK) [] [] rfl hK pq5 trivial rfl
 refine gR 7 rfl <| qBeZ 34 39 rfl rfl rfl rfl h (fun h => ?_) fun h => ?_
 exact gR 7 rfl <| gJ (h K hK) [] [] rfl hK pq5 trivial rfl
 refine gR 7 rfl <| qBeZ 34 40 rfl rfl rfl rfl h (fun h => ?_) fun h => ?_
 exact gR 7 rfl <| gJ (h K hK) [] [] rfl hK pq5 trivial rfl
 refine gR 7 rfl <| qBeZ 34 41 rfl rfl rfl rfl h (fun h => ?_) fun h => ?_
 exact gR 7 rfl <| gJ (h K hK) [] [] rfl hK pq5 trivial rfl
 refine gR 7 rfl <| qBeZ 34 42 rfl rfl rfl rfl h (fun h => ?_) fun h => ?_
 exact gR 7 rfl <| gJ (h K hK) [] [] rfl hK pq5 trivial rfl
 refine gR 7 rfl <| qBeZ 34 43 rfl rfl rfl rfl h (fun h => ?_) fun h => ?_
 exact gR 7 rfl <| gJ (h K hK) [] [] rfl hK pq5 trivial rfl
 refine gR 6 rfl <| qBeZ 34 44 rfl rfl rfl rfl h (fun h => ?_) fun h => ?_
 exact gR 4 rfl <| gJ (h K hK) [] [] rfl hK pq5 trivial rfl
 refine gR 9 rfl ?_
 subst h
 exact go_end ab (rs := [.tmp 4]) rfl rfl rfl
theorem sh (m : Nat) (p1 : Int) (c b a : Nat) (d r0 : Int) (h : ((d < 0) → (((a : Int) < p1) → InI (p1 - (a : Int)) ∧ InI ((p1 - (a : Int)) - 1) ∧ InI ((b : Int) + ((p1 - (a : Int)) - 1)) ∧ ∃ e, eu p1 (c : Int) ((b : Int) + ((p1 - (a : Int)) - 1)) e ∧ e = r0) ∧ ((¬ (a : Int) < p1) → ∃ f, eu p1 (c : Int) (b : Int) f ∧ f = r0)) ∧ ((¬ d < 0) → ∃ g, eu p1 (c : Int) (b : Int) g ∧ g = r0)) : jd (m + 1) p1 c b a d r0 := by
 intro K hK
 refine gR 6 rfl <| qBdZ 54 53 rfl rfl rfl rfl h (fun h => ?_) fun h => ?_
 refine gR 6 rfl <| qBd 58 rfl rfl rfl h (fun h => ?_) fun h => ?_
 refine gR 5 rfl ?_
 obtain ⟨hb, h⟩ := h
 refine gR 1 rfl <| gV 62 (.int .i64 (p1 - (a : Int))) rfl (au hb rfl) rfl ?_
 obtain ⟨hb, h⟩ := h
 refine gR 1 rfl <| gV 63 (.int .i64 ((p1 - (a : Int)) - 1)) rfl (au hb rfl) rfl ?_
 obtain ⟨hb, h⟩ := h
 refine gR 1 rfl <| gV 64 (.int .i64 ((b : Int) + ((p1 - (a : Int)) - 1))) rfl (au hb rfl) rfl <| gR 8 rfl ?_
 obtain ⟨e, hs18, h⟩ := h
 refine gC0 hs18 (by kernel_rfl) rfl rfl .rfl rfl <| gR 4 rfl ?_
 subst h
 exact go_end ab (rs := [.tmp 4]) rfl rfl rfl
 refine gR 8 rfl ?_
 obtain ⟨f, hs19, h⟩ := h
 refine gC0 hs19 (by kernel_rfl) rfl rfl .rfl rfl <| gR 4 rfl ?_
 subst h
 exact go_end ab (rs := [.tmp 4]) rfl rfl rfl
 refine gR 14 rfl ?_
 obtain ⟨g, hs20, h⟩ := h
 refine gC0 hs20 (by kernel_rfl) rfl rfl .rfl rfl <| gR 4 rfl ?_
 subst h
 exact go_end ab (rs := [.tmp 4]) rfl rfl rfl
theorem rm (m : Nat) (p0 p1 p2 r0 : Int) (h : ((p0 < p1) → (-1) = r0) ∧ ((¬ p0 < p1) → p2 = r0)) : eu p0 p1 p2 r0 := by
 refine ⟨rfl, rfl, ?_⟩
 refine am 11 [] Tryz.func68 rfl rfl rfl (aQ rfl) fun K hK => ?_
 refine gR 13 rfl <| qBd 9 rfl rfl rfl h (fun h => ?_) fun h => ?_
 refine gR 8 rfl ?_
 subst h
 exact go_end ab (rs := [.tmp 6]) rfl rfl rfl
 refine gR 10 rfl ?_
 subst h
 exact go_end ab (rs := [.tmp 6]) rfl rfl rfl
theorem sb (m : Nat) (p0 : Int) (r0 : Bool) (h : ((5 ≤ p0) → decide (p0 ≤ 9) = r0) ∧ ((¬ 5 ≤ p0) → false = r0)) : iW p0 r0 := by
 refine ⟨rfl, rfl, ?_⟩
 refine am 9 [] Tryz.func72 rfl rfl rfl (aQ rfl) fun K hK => ?_
 refine gR 10 rfl <| qBdZ 5 4 rfl rfl rfl rfl h (fun h => ?_) fun h => ?_
 refine gR 7 rfl ?_
 subst h
 exact go_end ab (rs := [.tmp 2]) rfl rfl rfl
 refine gR 7 rfl ?_
 subst h
 exact go_end ab (rs := [.tmp 2]) rfl rfl rfl
theorem ov (m : Nat) (p0 : Int) (r0 : Bool) (h : ((10 ≤ p0) → ((p0 ≤ 22) → (p0 != 17) = r0) ∧ ((¬ p0 ≤ 22) → false = r0)) ∧ ((¬ 10 ≤ p0) → false = r0)) : dB p0 r0 := by
 refine ⟨rfl, rfl, ?_⟩
 refine am 13 [] Tryz.func71 rfl rfl rfl (aQ rfl) fun K hK => ?_
 refine gR 10 rfl <| qBdZ 5 4 rfl rfl rfl rfl h (fun h => ?_) fun h => ?_
 refine gR 4 rfl <| qBdZ 9 8 rfl rfl rfl rfl h (fun h => ?_) fun h => ?_
 refine gR 7 rfl ?_
 subst h
 exact go_end ab (rs := [.tmp 2]) rfl rfl rfl
 refine gR 7 rfl ?_
 subst h
 exact go_end ab (rs := [.tmp 2]) rfl rfl rfl
 refine gR 11 rfl ?_
 subst h
 exact go_end ab (rs := [.tmp 2]) rfl rfl rfl
theorem sk (m : Nat) (p0 : Int) (r0 : Bool) (h : ∃ a, dB p0 a ∧ ((a = true) → ((p0 ≠ 19) → ((p0 ≠ 20) → (p0 != 21) = r0) ∧ ((p0 = 20) → false = r0)) ∧ ((p0 = 19) → false = r0)) ∧ ((a = false) → false = r0)) : lp p0 r0 := by
 refine ⟨rfl, rfl, ?_⟩
 refine am 17 [] Tryz.func73 rfl rfl rfl (aQ rfl) fun K hK => ?_
 refine gR 8 rfl ?_
 obtain ⟨a, hs2, h⟩ := h
 refine gC0 hs2 (by kernel_rfl) rfl rfl .rfl rfl <| gR 1 rfl <| qBiZ 5 4 rfl rfl rfl rfl h (fun h => ?_) fun h => ?_
 refine gR 4 rfl <| qBhZ 9 8 rfl rfl rfl rfl h gw ey (fun h => ?_) fun h => ?_
 refine gR 4 rfl <| qBhZ 13 12 rfl rfl rfl rfl h gw ey (fun h => ?_) fun h => ?_
 refine gR 7 rfl ?_
 subst h
 exact go_end ab (rs := [.tmp 2]) rfl rfl rfl
 refine gR 7 rfl ?_
 subst h
 exact go_end ab (rs := [.tmp 2]) rfl rfl rfl
 refine gR 11 rfl ?_
 subst h
 exact go_end ab (rs := [.tmp 2]) rfl rfl rfl
 refine gR 15 rfl ?_
 subst h
 exact go_end ab (rs := [.tmp 2]) rfl rfl rfl
theorem qM (m : Nat) (p0 : List UInt8) (r0 : Bool) (h : ((p0 = [43]) → true = r0) ∧ ((p0 ≠ [43]) → ((p0 = [45]) → true = r0) ∧ ((p0 ≠ [45]) → ((p0 = [42]) → true = r0) ∧ ((p0 ≠ [42]) → ((p0 = [60]) → true = r0) ∧ ((p0 ≠ [60]) → ((p0 = [61, 61]) → true = r0) ∧ ((p0 ≠ [61, 61]) → false = r0)))))) : jW p0 r0 := by
 refine ⟨rfl, rfl, ?_⟩
 refine am 10 [] Tryz.func70 rfl rfl rfl (aQ rfl) fun K hK => ?_
 refine gR 19 rfl <| qBeZ 4 5 rfl rfl rfl rfl h (fun h => ?_) fun h => ?_
 refine gR 12 rfl ?_
 subst h
 exact go_end ab (rs := [.tmp 2]) rfl rfl rfl
 refine gR 7 rfl <| qBeZ 4 6 rfl rfl rfl rfl h (fun h => ?_) fun h => ?_
 refine gR 12 rfl ?_
 subst h
 exact go_end ab (rs := [.tmp 2]) rfl rfl rfl
 refine gR 7 rfl <| qBeZ 4 7 rfl rfl rfl rfl h (fun h => ?_) fun h => ?_
 refine gR 12 rfl ?_
 subst h
 exact go_end ab (rs := [.tmp 2]) rfl rfl rfl
 refine gR 7 rfl <| qBeZ 4 8 rfl rfl rfl rfl h (fun h => ?_) fun h => ?_
 refine gR 12 rfl ?_
 subst h
 exact go_end ab (rs := [.tmp 2]) rfl rfl rfl
 refine gR 6 rfl <| qBeZ 4 9 rfl rfl rfl rfl h (fun h => ?_) fun h => ?_
 refine gR 9 rfl ?_
 subst h
 exact go_end ab (rs := [.tmp 2]) rfl rfl rfl
 refine gR 10 rfl ?_
 subst h
 exact go_end ab (rs := [.tmp 2]) rfl rfl rfl
def kO (m : Nat) (p0 : Int) (p1 : List UInt8) (a : Int) (b r0 : Bool) : Prop := ∀ (K : Ctx), aB K [] → qLG K Tryz.f43 (fun u _ => u = .bool r0) (cB (xF (ac Tryz.f43))) [.blk 0, .seq (xI (ac Tryz.f43))] 51 (mkF 51 0 [(1, .str p1), (5, .int .i64 a), (8, .int .i64 p0), (9, .bool b)]) ⟨0, []⟩
def fC (m : Nat) (p0 : Int) (p1 : List UInt8) (a : Int) (b r0 : Bool) : Prop := ∀ (K : Ctx), aB K [] → qLG K Tryz.f43 (fun u _ => u = .bool r0) (cB (xL (ac Tryz.f43))) [.blk 0, .seq (xI (ac Tryz.f43))] 51 (mkF 51 0 [(1, .str p1), (5, .int .i64 a), (8, .int .i64 p0), (14, .bool b)]) ⟨0, []⟩
theorem sq (m : Nat) (p0 : Int) (p1 : List UInt8) (r0 : Bool) (h : ∃ a, wK p1 a ∧ ((p0 = 1) → kO m p0 p1 a true r0) ∧ ((p0 ≠ 1) → kO m p0 p1 a (p0 == 3) r0)) : lG p0 p1 r0 := by
 refine ⟨rfl, rfl, ?_⟩
 refine am 51 [] Tryz.func43 rfl rfl rfl (aQ rfl) fun K hK => ?_
 refine gR 8 rfl ?_
 obtain ⟨a, hs7, h⟩ := h
 refine gC0 hs7 (by kernel_rfl) rfl rfl .rfl rfl <| gR 17 rfl <| qBeZ 9 10 rfl rfl rfl rfl h (fun h => ?_) fun h => ?_
 exact gR 3 rfl <| gJ (h K hK) [] [] rfl hK pq4 trivial rfl
 exact gR 6 rfl <| gJ (h K hK) [] [] rfl hK pq4 trivial rfl
theorem rn (m : Nat) (p0 : Int) (p1 : List UInt8) (a : Int) (b r0 : Bool) (h : ((b = true) → (a == 2) = r0) ∧ ((b = false) → ((p0 = 2) → fC m p0 p1 a true r0) ∧ ((p0 ≠ 2) → ((p0 = 4) → fC m p0 p1 a true r0) ∧ ((p0 ≠ 4) → ((p0 = 12) → fC m p0 p1 a true r0) ∧ ((p0 ≠ 12) → fC m p0 p1 a (p0 == 20) r0))))) : kO (m + 1) p0 p1 a b r0 := by
 intro K hK
 refine qBi 9 rfl rfl rfl h (fun h => ?_) fun h => ?_
 refine gR 11 rfl ?_
 subst h
 exact go_end ab (rs := [.tmp 4]) rfl rfl rfl
 refine gR 8 rfl <| qBeZ 14 15 rfl rfl rfl rfl h (fun h => ?_) fun h => ?_
 exact gR 3 rfl <| gJ (h K hK) [] [] rfl hK pq4 trivial rfl
 refine gR 7 rfl <| qBeZ 14 16 rfl rfl rfl rfl h (fun h => ?_) fun h => ?_
 exact gR 3 rfl <| gJ (h K hK) [] [] rfl hK pq4 trivial rfl
 refine gR 7 rfl <| qBeZ 14 17 rfl rfl rfl rfl h (fun h => ?_) fun h => ?_
 exact gR 3 rfl <| gJ (h K hK) [] [] rfl hK pq4 trivial rfl
 exact gR 6 rfl <| gJ (h K hK) [] [] rfl hK pq4 trivial rfl
theorem rh (m : Nat) (p0 : Int) (p1 : List UInt8) (a : Int) (b r0 : Bool) (h : ((b = true) → (a == 1) = r0) ∧ ((b = false) → ((p0 = 9) → ((a = 2) → true = r0) ∧ ((a ≠ 2) → (a == 4) = r0)) ∧ ((p0 ≠ 9) → ((p0 = 16) → ((a = 1) → true = r0) ∧ ((a ≠ 1) → (a == 3) = r0)) ∧ ((p0 ≠ 16) → ((p0 = 10) → (a == 5) = r0) ∧ ((p0 ≠ 10) → ((p0 = 11) → (a == 6) = r0) ∧ ((p0 ≠ 11) → ((p0 = 21) → ∃ c, jW p1 c ∧ c = r0) ∧ ((p0 ≠ 21) → (p1 == []) = r0))))))) : fC (m + 1) p0 p1 a b r0 := by
 intro K hK
 refine qBi 14 rfl rfl rfl h (fun h => ?_) fun h => ?_
 refine gR 11 rfl ?_
 subst h
 exact go_end ab (rs := [.tmp 4]) rfl rfl rfl
 refine gR 7 rfl <| qBeZ 21 22 rfl rfl rfl rfl h (fun h => ?_) fun h => ?_
 refine gR 6 rfl <| qBeZ 25 24 rfl rfl rfl rfl h (fun h => ?_) fun h => ?_
 refine gR 9 rfl ?_
 subst h
 exact go_end ab (rs := [.tmp 4]) rfl rfl rfl
 refine gR 9 rfl ?_
 subst h
 exact go_end ab (rs := [.tmp 4]) rfl rfl rfl
 refine gR 7 rfl <| qBeZ 29 30 rfl rfl rfl rfl h (fun h => ?_) fun h => ?_
 refine gR 6 rfl <| qBeZ 33 32 rfl rfl rfl rfl h (fun h => ?_) fun h => ?_
 refine gR 9 rfl ?_
 subst h
 exact go_end ab (rs := [.tmp 4]) rfl rfl rfl
 refine gR 9 rfl ?_
 subst h
 exact go_end ab (rs := [.tmp 4]) rfl rfl rfl
 refine gR 7 rfl <| qBeZ 37 38 rfl rfl rfl rfl h (fun h => ?_) fun h => ?_
 refine gR 11 rfl ?_
 subst h
 exact go_end ab (rs := [.tmp 4]) rfl rfl rfl
 refine gR 7 rfl <| qBeZ 41 42 rfl rfl rfl rfl h (fun h => ?_) fun h => ?_
 refine gR 11 rfl ?_
 subst h
 exact go_end ab (rs := [.tmp 4]) rfl rfl rfl
 refine gR 7 rfl <| qBeZ 45 46 rfl rfl rfl rfl h (fun h => ?_) fun h => ?_
 refine gR 4 rfl ?_
 obtain ⟨c, hs8, h⟩ := h
 refine gC0 hs8 (by kernel_rfl) rfl rfl .rfl rfl <| gR 6 rfl ?_
 subst h
 exact go_end ab (rs := [.tmp 4]) rfl rfl rfl
 refine gR 12 rfl ?_
 subst h
 exact go_end ab (rs := [.tmp 4]) rfl rfl rfl
def jf (m : Nat) (p0 : Tree) (p1 : Int) (a : Tree) (b r0 : Bool) : Prop := ∀ (K : Ctx), aB K [] → qLG K Tryz.f44 (fun u _ => u = .bool r0) (cB (xC (xF (ac Tryz.f44)))) [.blk 0, .seq (xI (ac Tryz.f44))] 67 (mkF 67 0 [(1, .int .i64 p1), (5, .int .i64 a.kind), (13, .int .i64 p0.kind), (43, .bool b)]) ⟨0, []⟩
theorem ti (m : Nat) (p0 : Tree) (p1 : Int) (r0 : Bool) (h : ∃ b, p1 = ((b : Nat) : Int) ∧ ∃ a, p0.kids[b]? = some a ∧ ((p0.kind = 1) → ((a.kind = 2) → true = r0) ∧ ((a.kind ≠ 2) → (a.kind == 3) = r0)) ∧ ((p0.kind ≠ 1) → ((p0.kind = 2) → ((p1 = ((p0.kids.length : Int) - 1)) → ∃ c, dB a.kind c ∧ c = r0) ∧ ((p1 ≠ ((p0.kids.length : Int) - 1)) → ((p1 = ((p0.kids.length : Int) - 2)) → ∃ d, iW a.kind d ∧ d = r0) ∧ ((p1 ≠ ((p0.kids.length : Int) - 2)) → (a.kind == 4) = r0))) ∧ ((p0.kind ≠ 2) → ((p0.kind = 3) → jf m p0 p1 a true r0) ∧ ((p0.kind ≠ 3) → ((p0.kind = 4) → jf m p0 p1 a true r0) ∧ ((p0.kind ≠ 4) → jf m p0 p1 a (p0.kind == 8) r0))))) : ma p0 p1 r0 := by
 refine ⟨rfl, rfl, ?_⟩
 refine am 67 [] Tryz.func44 rfl rfl rfl (aQ rfl) fun K hK => ?_
 refine gR 3 rfl <| gFP 0 rfl rfl rfl rfl <| gR 8 rfl ?_
 obtain ⟨b, e, h⟩ := h
 refine gV 8 (.int .i64 ((b : Nat) : Int)) rfl (jz e) rfl ?_
 obtain ⟨a, hxt0_2, h⟩ := h
 refine gY (bc (aw hxt0_2) ab rfl rfl rfl rfl) rfl rfl <| gR 19 rfl <| gB 14 rfl rfl rfl ?_ ?_ <;> intro hd
 refine gT 15 rfl hd rfl ?_
 replace hd := (eq_of_beq hd)
 replace h := h.1 hd
 refine gR 6 rfl <| gB 18 rfl rfl rfl ?_ ?_ <;> intro hd
 refine gT 17 rfl hd rfl ?_
 replace hd := (eq_of_beq hd)
 replace h := h.1 hd
 refine gR 9 rfl ?_
 subst h
 exact go_end ab (rs := [.tmp 4]) rfl rfl rfl
 refine gF 17 rfl hd rfl ?_
 replace hd := (ne_of_beq_false hd)
 replace h := h.2 hd
 refine gR 9 rfl ?_
 subst h
 exact go_end ab (rs := [.tmp 4]) rfl rfl rfl
 refine gF 15 rfl hd rfl ?_
 replace hd := (ne_of_beq_false hd)
 replace h := h.2 hd
 refine gR 7 rfl <| gB 22 rfl rfl rfl ?_ ?_ <;> intro hd
 refine gT 23 rfl hd rfl ?_
 replace hd := (eq_of_beq hd)
 replace h := h.1 hd
 refine gR 13 rfl <| gV 28 (.int .i64 (p0.kids.length : Int)) rfl (bo (aR _)) rfl <| gLB 27 rfl (aR _) fun hl17 => gR 1 rfl <| gV 29 (.int .i64 ((p0.kids.length : Int) - 1)) rfl (au (by have := hl17; omega) rfl) rfl <| gR 4 rfl <| gB 25 rfl rfl rfl ?_ ?_ <;> intro hd
 refine gT 30 rfl hd rfl ?_
 replace hd := (eq_of_beq hd)
 replace h := h.1 hd
 refine gR 4 rfl ?_
 obtain ⟨c, hs18, h⟩ := h
 refine gC0 hs18 (by kernel_rfl) rfl rfl .rfl rfl <| gR 8 rfl ?_
 subst h
 exact go_end ab (rs := [.tmp 4]) rfl rfl rfl
 refine gF 30 rfl hd rfl ?_
 replace hd := (ne_of_beq_false hd)
 replace h := h.2 hd
 refine gR 6 rfl <| gV 36 (.int .i64 (p0.kids.length : Int)) rfl (bo (aR _)) rfl <| gR 1 rfl <| gV 37 (.int .i64 ((p0.kids.length : Int) - 2)) rfl (au (by have := hl17; omega) rfl) rfl <| gR 4 rfl <| gB 33 rfl rfl rfl ?_ ?_ <;> intro hd
 refine gT 38 rfl hd rfl ?_
 replace hd := (eq_of_beq hd)
 replace h := h.1 hd
 refine gR 4 rfl ?_
 obtain ⟨d, hs19, h⟩ := h
 refine gC0 hs19 (by kernel_rfl) rfl rfl .rfl rfl <| gR 8 rfl ?_
 subst h
 exact go_end ab (rs := [.tmp 4]) rfl rfl rfl
 refine gF 38 rfl hd rfl ?_
 replace hd := (ne_of_beq_false hd)
 replace h := h.2 hd
 refine gR 14 rfl ?_
 subst h
 exact go_end ab (rs := [.tmp 4]) rfl rfl rfl
 refine gF 23 rfl hd rfl ?_
 replace hd := (ne_of_beq_false hd)
 replace h := h.2 hd
 refine gR 8 rfl <| gB 43 rfl rfl rfl ?_ ?_ <;> intro hd
 refine gT 44 rfl hd rfl ?_
 replace hd := (eq_of_beq hd)
 replace h := h.1 hd
 exact gR 3 rfl <| gJ (h K hK) [] [] rfl hK pq4 trivial rfl
 refine gF 44 rfl hd rfl ?_
 replace hd := (ne_of_beq_false hd)
 replace h := h.2 hd
 refine gR 7 rfl <| gB 43 rfl rfl rfl ?_ ?_ <;> intro hd
 refine gT 45 rfl hd rfl ?_
 replace hd := (eq_of_beq hd)
 replace h := h.1 hd
 exact gR 3 rfl <| gJ (h K hK) [] [] rfl hK pq4 trivial rfl
 refine gF 45 rfl hd rfl ?_
 replace hd := (ne_of_beq_false hd)
 replace h := h.2 hd
 exact gR 6 rfl <| gJ (h K hK) [] [] rfl hK pq4 trivial rfl
theorem rI (m : Nat) (p0 : Tree) (p1 : Int) (a : Tree) (c r0 : Bool) (h : ((c = true) → ∃ d, iW a.kind d ∧ d = r0) ∧ ((c = false) → ((p0.kind = 16) → (a.kind == 17) = r0) ∧ ((p0.kind ≠ 16) → ((p0.kind = 21) → ∃ b, lp a.kind b ∧ ((b = true) → true = r0) ∧ ((b = false) → ((p1 = 0) → (a.kind == 21) = r0) ∧ ((p1 ≠ 0) → false = r0))) ∧ ((p0.kind ≠ 21) → ∃ e, dB a.kind e ∧ e = r0)))) : jf (m + 1) p0 p1 a c r0 := by
 intro K hK
 refine qBi 43 rfl rfl rfl h (fun h => ?_) fun h => ?_
 refine gR 4 rfl ?_
 obtain ⟨d, hs20, h⟩ := h
 refine gC0 hs20 (by kernel_rfl) rfl rfl .rfl rfl <| gR 6 rfl ?_
 subst h
 exact go_end ab (rs := [.tmp 4]) rfl rfl rfl
 refine gR 7 rfl <| qBeZ 49 50 rfl rfl rfl rfl h (fun h => ?_) fun h => ?_
 refine gR 11 rfl ?_
 subst h
 exact go_end ab (rs := [.tmp 4]) rfl rfl rfl
 refine gR 7 rfl <| qBeZ 53 54 rfl rfl rfl rfl h (fun h => ?_) fun h => ?_
 refine gR 4 rfl ?_
 obtain ⟨b, hs21, h⟩ := h
 refine gC0 hs21 (by kernel_rfl) rfl rfl .rfl rfl <| gR 1 rfl <| qBiZ 57 56 rfl rfl rfl rfl h (fun h => ?_) fun h => ?_
 refine gR 13 rfl ?_
 subst h
 exact go_end ab (rs := [.tmp 4]) rfl rfl rfl
 refine gR 3 rfl <| qBeZ 60 59 rfl rfl rfl rfl h (fun h => ?_) fun h => ?_
 refine gR 10 rfl ?_
 subst h
 exact go_end ab (rs := [.tmp 4]) rfl rfl rfl
 refine gR 10 rfl ?_
 subst h
 exact go_end ab (rs := [.tmp 4]) rfl rfl rfl
 refine gR 7 rfl ?_
 obtain ⟨e, hs22, h⟩ := h
 refine gC0 hs22 (by kernel_rfl) rfl rfl .rfl rfl <| gR 4 rfl ?_
 subst h
 exact go_end ab (rs := [.tmp 4]) rfl rfl rfl
def iy (m : Nat) (p0 : Tree) (a : Nat) (r0 : Bool) : Prop := ∀ (K : Ctx) (j1 : Nat), aB K [] → m ≤ j1 → qLG K Tryz.f24 (fun u _ => u = .bool r0) (xH (ac Tryz.f24)) [.loop (xH (ac Tryz.f24)) j1, .blk 0, .seq (xI (ac Tryz.f24))] 38 (mkF 38 0 [(1, .box (aj p0) 0), (21, .row 4 (kidsV p0.kids)), (22, .int .i64 (p0.kids.length : Int)), (23, .int .i64 (a : Int))]) ⟨0, []⟩
theorem si (m : Nat) (p0 : Tree) (r0 : Bool) (h : ∃ a, hV p0.kind (p0.kids.length : Int) a ∧ ((a < 0) → false = r0) ∧ ((¬ a < 0) → ∃ b, lG p0.kind p0.text b ∧ ((b = false) → false = r0) ∧ ((b = true) → iy m p0 0 r0))) : eM p0 r0 := by
 refine ⟨rfl, rfl, ?_⟩
 refine am 38 [] Tryz.func24 rfl rfl rfl (aQ rfl) fun K hK => ?_
 refine gR 3 rfl <| gFP 0 rfl rfl rfl rfl <| gR 11 rfl <| gV 9 (.int .i64 (p0.kids.length : Int)) rfl (bo (aR _)) rfl <| gLB 8 rfl (aR _) fun hl11 => ?_
 obtain ⟨a, hs12, h⟩ := h
 refine gC0 hs12 (by kernel_rfl) rfl rfl .rfl rfl <| gR 2 rfl <| gB 12 rfl rfl rfl ?_ ?_ <;> intro hd
 refine gT 11 rfl hd rfl ?_
 replace hd := (of_decide_eq_true hd)
 replace h := h.1 hd
 refine gR 17 rfl ?_
 subst h
 exact go_end ab (rs := [.tmp 2]) rfl rfl rfl
 refine gF 11 rfl hd rfl ?_
 replace hd := (of_decide_eq_false hd)
 replace h := h.2 hd
 refine gR 4 rfl ?_
 obtain ⟨b, hs13, h⟩ := h
 refine gC0 hs13 (by kernel_rfl) rfl rfl .rfl rfl <| gR 4 rfl <| gB 19 rfl rfl rfl ?_ ?_ <;> intro hd
 replace hd := (cg hd)
 replace h := h.1 hd
 refine gR 8 rfl ?_
 subst h
 exact go_end ab (rs := [.tmp 2]) rfl rfl rfl
 replace hd := (cf hd)
 replace h := h.2 hd
 exact gR 9 rfl <| gV 22 (.int .i64 (p0.kids.length : Int)) rfl (bo (aR _)) rfl <| gR 4 rfl <| go_loop m <| gJ (h K _ hK (by omega)) [] [] rfl hK pq4 trivial rfl
theorem mP (m : Nat) (p0 : Tree) (a : Nat) (r0 : Bool) (h : ((a < p0.kids.length) → ∃ d, p0.kids[a]? = some d ∧ ∃ b, ma p0 (a : Int) b ∧ ((b = false) → false = r0) ∧ ((b = true) → ∃ c, eM d c ∧ ((c = false) → false = r0) ∧ ((c = true) → a + 1 ≤ 9223372036854775807 ∧ iy m p0 (a + 1) r0))) ∧ ((¬ a < p0.kids.length) → true = r0)) : iy (m + 1) p0 a r0 := by
 intro K j1 hK hj1
 obtain ⟨j1, rfl⟩ : ∃ j, j1 = j + 1 := ⟨j1 - 1, by omega⟩
 refine gR 6 rfl <| gB 24 rfl rfl rfl ?_ ?_ <;> intro hd
 replace hd := (dX hd)
 replace h := h.1 hd
 refine gR 8 rfl ?_
 obtain ⟨d, hxt1_1, h⟩ := h
 refine gY (bc (aw hxt1_1) ab rfl rfl rfl rfl) rfl rfl <| gR 10 rfl ?_
 obtain ⟨b, hs14, h⟩ := h
 refine gC0 hs14 (by kernel_rfl) rfl rfl .rfl rfl <| gR 2 rfl <| gB 32 rfl rfl rfl ?_ ?_ <;> intro hd
 refine gT 31 rfl hd rfl ?_
 replace hd := (cg hd)
 replace h := h.1 hd
 refine gR 15 rfl <| go_xloopR <| gR 2 rfl ?_
 subst h
 exact go_end ab (rs := [.tmp 2]) rfl rfl rfl
 refine gF 31 rfl hd rfl ?_
 replace hd := (cf hd)
 replace h := h.2 hd
 refine gR 1 rfl ?_
 obtain ⟨c, hs15, h⟩ := h
 refine gC0 hs15 (by kernel_rfl) rfl rfl .rfl rfl <| gR 4 rfl <| gB 36 rfl rfl rfl ?_ ?_ <;> intro hd
 replace hd := (cg hd)
 replace h := h.1 hd
 refine gR 9 rfl <| go_xloopR <| gR 2 rfl ?_
 subst h
 exact go_end ab (rs := [.tmp 2]) rfl rfl rfl
 replace hd := (cf hd)
 replace h := h.2 hd
 refine gR 5 rfl ?_
 obtain ⟨hb, h⟩ := h
 exact gR 1 rfl <| gV 37 (.int .i64 ((a + 1 : Nat) : Int)) rfl (au (by omega) (by omega)) rfl <| gR 2 rfl <| go_xloop <| gJ (h K _ hK (by omega)) [] [] rfl hK pq4 trivial rfl
 replace hd := (dW hd)
 replace h := h.2 hd
 refine gR 3 rfl <| go_xloopE <| gR 8 rfl ?_
 subst h
 exact go_end ab (rs := [.tmp 2]) rfl rfl rfl
def fv (m : Nat) (p0 p1 : Int) (a : Bool) (r0 : Int) : Prop := ∀ (K : Ctx), aB K [] → qLG K Tryz.f45 (fun u _ => u = .int .i64 r0) (cB (xC (xB (xE (cB (ac Tryz.f45)))))) [.blk 0, .seq (xA (ac Tryz.f45))] 71 (mkF 71 0 [(1, .int .i64 p1), (5, .int .i64 p0), (22, .bool a)]) ⟨0, []⟩
def bj (m : Nat) (p0 p1 : Int) (a : Bool) (r0 : Int) : Prop := ∀ (K : Ctx), aB K [] → qLG K Tryz.f45 (fun u _ => u = .int .i64 r0) (cB (xG (xE (cB (ac Tryz.f45))))) [.blk 0, .seq (xA (ac Tryz.f45))] 71 (mkF 71 0 [(1, .int .i64 p1), (5, .int .i64 p0), (28, .bool a)]) ⟨0, []⟩
theorem pm (m : Nat) (p0 p1 r0 : Int) (h : ((p0 = 1) → ((0 ≤ p1) → 3 = r0) ∧ ((¬ 0 ≤ p1) → (-1) = r0)) ∧ ((p0 ≠ 1) → ((p0 = 2) → ((2 ≤ p1) → InI (p1 - 3) ∧ InI (6 + (max 0 (p1 - 3))) ∧ (6 + (max 0 (p1 - 3))) = r0) ∧ ((¬ 2 ≤ p1) → (-1) = r0)) ∧ ((p0 ≠ 2) → ((p0 = 3) → ∃ a, bX p1 1 3 a ∧ a = r0) ∧ ((p0 ≠ 3) → ((p0 = 4) → fv m p0 p1 true r0) ∧ ((p0 ≠ 4) → ((p0 = 8) → fv m p0 p1 true r0) ∧ ((p0 ≠ 8) → fv m p0 p1 (p0 == 22) r0)))))) : eh p0 p1 r0 := by
 refine ⟨rfl, rfl, ?_⟩
 refine am 71 [] Tryz.func45 rfl rfl rfl (aQ rfl) fun K hK => ?_
 refine gR 18 rfl <| qBeZ 6 7 rfl rfl rfl rfl h (fun h => ?_) fun h => ?_
 refine gR 7 rfl <| qBd 9 rfl rfl rfl h (fun h => ?_) fun h => ?_
 refine gR 9 rfl ?_
 subst h
 exact go_end ab (rs := [.tmp 4]) rfl rfl rfl
 refine gR 10 rfl ?_
 subst h
 exact go_end ab (rs := [.tmp 4]) rfl rfl rfl
 refine gR 7 rfl <| qBeZ 10 11 rfl rfl rfl rfl h (fun h => ?_) fun h => ?_
 refine gR 7 rfl <| qBd 13 rfl rfl rfl h (fun h => ?_) fun h => ?_
 refine gR 4 rfl ?_
 obtain ⟨hb, h⟩ := h
 refine gR 1 rfl <| gV 15 (.int .i64 (p1 - 3)) rfl (au hb rfl) rfl <| gR 1 rfl ?_
 obtain ⟨hb, h⟩ := h
 refine gR 1 rfl <| gV 17 (.int .i64 (6 + (max 0 (p1 - 3)))) rfl (au hb rfl) rfl <| gR 6 rfl ?_
 subst h
 exact go_end ab (rs := [.tmp 4]) rfl rfl rfl
 refine gR 10 rfl ?_
 subst h
 exact go_end ab (rs := [.tmp 4]) rfl rfl rfl
 refine gR 7 rfl <| qBeZ 18 19 rfl rfl rfl rfl h (fun h => ?_) fun h => ?_
 refine gR 4 rfl ?_
 obtain ⟨a, hs20, h⟩ := h
 refine gC0 hs20 (by kernel_rfl) rfl rfl .rfl rfl <| gR 6 rfl ?_
 subst h
 exact go_end ab (rs := [.tmp 4]) rfl rfl rfl
 refine gR 8 rfl <| qBeZ 22 23 rfl rfl rfl rfl h (fun h => ?_) fun h => ?_
 exact gR 3 rfl <| gJ (h K hK) [] [] rfl hK pq3 trivial rfl
 refine gR 7 rfl <| qBeZ 22 24 rfl rfl rfl rfl h (fun h => ?_) fun h => ?_
 exact gR 3 rfl <| gJ (h K hK) [] [] rfl hK pq3 trivial rfl
 exact gR 6 rfl <| gJ (h K hK) [] [] rfl hK pq3 trivial rfl
theorem oN (m : Nat) (p0 p1 : Int) (a : Bool) (r0 : Int) (h : ((a = true) → ∃ b, bX p1 1 2 b ∧ b = r0) ∧ ((a = false) → ((p0 = 5) → bj m p0 p1 true r0) ∧ ((p0 ≠ 5) → ((p0 = 6) → bj m p0 p1 true r0) ∧ ((p0 ≠ 6) → ((p0 = 7) → bj m p0 p1 true r0) ∧ ((p0 ≠ 7) → ((p0 = 9) → bj m p0 p1 true r0) ∧ ((p0 ≠ 9) → ((p0 = 10) → bj m p0 p1 true r0) ∧ ((p0 ≠ 10) → ((p0 = 11) → bj m p0 p1 true r0) ∧ ((p0 ≠ 11) → ((p0 = 12) → bj m p0 p1 true r0) ∧ ((p0 ≠ 12) → ((p0 = 13) → bj m p0 p1 true r0) ∧ ((p0 ≠ 13) → ((p0 = 14) → bj m p0 p1 true r0) ∧ ((p0 ≠ 14) → bj m p0 p1 (p0 == 15) r0))))))))))) : fv (m + 1) p0 p1 a r0 := by
 intro K hK
 refine qBi 22 rfl rfl rfl h (fun h => ?_) fun h => ?_
 refine gR 4 rfl ?_
 obtain ⟨b, hs21, h⟩ := h
 refine gC0 hs21 (by kernel_rfl) rfl rfl .rfl rfl <| gR 6 rfl ?_
 subst h
 exact go_end ab (rs := [.tmp 4]) rfl rfl rfl
 refine gR 8 rfl <| qBeZ 28 29 rfl rfl rfl rfl h (fun h => ?_) fun h => ?_
 exact gR 3 rfl <| gJ (h K hK) [] [] rfl hK pq3 trivial rfl
 refine gR 7 rfl <| qBeZ 28 30 rfl rfl rfl rfl h (fun h => ?_) fun h => ?_
 exact gR 3 rfl <| gJ (h K hK) [] [] rfl hK pq3 trivial rfl
 refine gR 7 rfl <| qBeZ 28 31 rfl rfl rfl rfl h (fun h => ?_) fun h => ?_
 exact gR 3 rfl <| gJ (h K hK) [] [] rfl hK pq3 trivial rfl
 refine gR 7 rfl <| qBeZ 28 32 rfl rfl rfl rfl h (fun h => ?_) fun h => ?_
 exact gR 3 rfl <| gJ (h K hK) [] [] rfl hK pq3 trivial rfl
 refine gR 7 rfl <| qBeZ 28 33 rfl rfl rfl rfl h (fun h => ?_) fun h => ?_
 exact gR 3 rfl <| gJ (h K hK) [] [] rfl hK pq3 trivial rfl
 refine gR 7 rfl <| qBeZ 28 34 rfl rfl rfl rfl h (fun h => ?_) fun h => ?_
 exact gR 3 rfl <| gJ (h K hK) [] [] rfl hK pq3 trivial rfl
 refine gR 7 rfl <| qBeZ 28 35 rfl rfl rfl rfl h (fun h => ?_) fun h => ?_
 exact gR 3 rfl <| gJ (h K hK) [] [] rfl hK pq3 trivial rfl
 refine gR 7 rfl <| qBeZ 28 36 rfl rfl rfl rfl h (fun h => ?_) fun h => ?_
 exact gR 3 rfl <| gJ (h K hK) [] [] rfl hK pq3 trivial rfl
 refine gR 7 rfl <| qBeZ 28 37 rfl rfl rfl rfl h (fun h => ?_) fun h => ?_
 exact gR 3 rfl <| gJ (h K hK) [] [] rfl hK pq3 trivial rfl
 exact gR 6 rfl <| gJ (h K hK) [] [] rfl hK pq3 trivial rfl
theorem pb (m : Nat) (p0 p1 : Int) (a : Bool) (r0 : Int) (h : ((a = true) → ∃ b, bX p1 0 1 b ∧ b = r0) ∧ ((a = false) → ((p0 = 16) → ((0 ≤ p1) → InI (p1 - 1) ∧ InI (3 + (max 0 (p1 - 1))) ∧ (3 + (max 0 (p1 - 1))) = r0) ∧ ((¬ 0 ≤ p1) → (-1) = r0)) ∧ ((p0 ≠ 16) → ((p0 = 17) → ∃ c, bX p1 1 0 c ∧ c = r0) ∧ ((p0 ≠ 17) → ((p0 = 18) → ((1 ≤ p1) → InI (1 + p1) ∧ (1 + p1) = r0) ∧ ((¬ 1 ≤ p1) → (-1) = r0)) ∧ ((p0 ≠ 18) → ((p0 = 19) → ∃ d, bX p1 3 3 d ∧ d = r0) ∧ ((p0 ≠ 19) → ((p0 = 20) → ∃ e, bX p1 2 4 e ∧ e = r0) ∧ ((p0 ≠ 20) → ((p0 = 21) → ∃ f, bX p1 2 1 f ∧ f = r0) ∧ ((p0 ≠ 21) → (-1) = r0)))))))) : bj (m + 1) p0 p1 a r0 := by
 intro K hK
 refine qBi 28 rfl rfl rfl h (fun h => ?_) fun h => ?_
 refine gR 4 rfl ?_
 obtain ⟨b, hs22, h⟩ := h
 refine gC0 hs22 (by kernel_rfl) rfl rfl .rfl rfl <| gR 6 rfl ?_
 subst h
 exact go_end ab (rs := [.tmp 4]) rfl rfl rfl
 refine gR 7 rfl <| qBeZ 41 42 rfl rfl rfl rfl h (fun h => ?_) fun h => ?_
 refine gR 7 rfl <| qBd 44 rfl rfl rfl h (fun h => ?_) fun h => ?_
 refine gR 4 rfl ?_
 obtain ⟨hb, h⟩ := h
 refine gR 1 rfl <| gV 46 (.int .i64 (p1 - 1)) rfl (au hb rfl) rfl <| gR 1 rfl ?_
 obtain ⟨hb, h⟩ := h
 refine gR 1 rfl <| gV 48 (.int .i64 (3 + (max 0 (p1 - 1)))) rfl (au hb rfl) rfl <| gR 6 rfl ?_
 subst h
 exact go_end ab (rs := [.tmp 4]) rfl rfl rfl
 refine gR 10 rfl ?_
 subst h
 exact go_end ab (rs := [.tmp 4]) rfl rfl rfl
 refine gR 7 rfl <| qBeZ 49 50 rfl rfl rfl rfl h (fun h => ?_) fun h => ?_
 refine gR 4 rfl ?_
 obtain ⟨c, hs23, h⟩ := h
 refine gC0 hs23 (by kernel_rfl) rfl rfl .rfl rfl <| gR 6 rfl ?_
 subst h
 exact go_end ab (rs := [.tmp 4]) rfl rfl rfl
 refine gR 7 rfl <| qBeZ 53 54 rfl rfl rfl rfl h (fun h => ?_) fun h => ?_
 refine gR 7 rfl <| qBd 56 rfl rfl rfl h (fun h => ?_) fun h => ?_
 refine gR 4 rfl ?_
 obtain ⟨hb, h⟩ := h
 refine gR 1 rfl <| gV 58 (.int .i64 (1 + p1)) rfl (au hb rfl) rfl <| gR 6 rfl ?_
 subst h
 exact go_end ab (rs := [.tmp 4]) rfl rfl rfl
 refine gR 10 rfl ?_
 subst h
 exact go_end ab (rs := [.tmp 4]) rfl rfl rfl
 refine gR 7 rfl <| qBeZ 59 60 rfl rfl rfl rfl h (fun h => ?_) fun h => ?_
 refine gR 4 rfl ?_
 obtain ⟨d, hs24, h⟩ := h
 refine gC0 hs24 (by kernel_rfl) rfl rfl .rfl rfl <| gR 6 rfl ?_
 subst h
 exact go_end ab (rs := [.tmp 4]) rfl rfl rfl
 refine gR 7 rfl <| qBeZ 63 64 rfl rfl rfl rfl h (fun h => ?_) fun h => ?_
 refine gR 4 rfl ?_
 obtain ⟨e, hs25, h⟩ := h
 refine gC0 hs25 (by kernel_rfl) rfl rfl .rfl rfl <| gR 6 rfl ?_
 subst h
 exact go_end ab (rs := [.tmp 4]) rfl rfl rfl
 refine gR 7 rfl <| qBeZ 67 68 rfl rfl rfl rfl h (fun h => ?_) fun h => ?_
 refine gR 4 rfl ?_
 obtain ⟨f, hs26, h⟩ := h
 refine gC0 hs26 (by kernel_rfl) rfl rfl .rfl rfl <| gR 6 rfl ?_
 subst h
 exact go_end ab (rs := [.tmp 4]) rfl rfl rfl
 refine gR 10 rfl ?_
 subst h
 exact go_end ab (rs := [.tmp 4]) rfl rfl rfl
theorem pW (m : Nat) (p0 p1 p2 r0 : Int) (h : ((p0 = p1) → p2 = r0) ∧ ((p0 ≠ p1) → (-1) = r0)) : bX p0 p1 p2 r0 := by
 refine ⟨rfl, rfl, ?_⟩
 refine am 11 [] Tryz.func74 rfl rfl rfl (aQ rfl) fun K hK => ?_
 refine gR 13 rfl <| qBe 9 rfl rfl rfl h (fun h => ?_) fun h => ?_
 refine gR 9 rfl ?_
 subst h
 exact go_end ab (rs := [.tmp 6]) rfl rfl rfl
 refine gR 9 rfl ?_
 subst h
 exact go_end ab (rs := [.tmp 6]) rfl rfl rfl
theorem oI (m : Nat) (p0 : Int) (r0 : Bool) (h : ((5 ≤ p0) → decide (p0 ≤ 9) = r0) ∧ ((¬ 5 ≤ p0) → false = r0)) : fp p0 r0 := by
 refine ⟨rfl, rfl, ?_⟩
 refine am 9 [] Tryz.func78 rfl rfl rfl (aQ rfl) fun K hK => ?_
 refine gR 10 rfl <| qBdZ 5 4 rfl rfl rfl rfl h (fun h => ?_) fun h => ?_
 refine gR 7 rfl ?_
 subst h
 exact go_end ab (rs := [.tmp 2]) rfl rfl rfl
 refine gR 7 rfl ?_
 subst h
 exact go_end ab (rs := [.tmp 2]) rfl rfl rfl
theorem oG (m : Nat) (p0 : Int) (r0 : Bool) (h : ((10 ≤ p0) → ((p0 ≤ 22) → (p0 != 17) = r0) ∧ ((¬ p0 ≤ 22) → false = r0)) ∧ ((¬ 10 ≤ p0) → false = r0)) : dI p0 r0 := by
 refine ⟨rfl, rfl, ?_⟩
 refine am 13 [] Tryz.func77 rfl rfl rfl (aQ rfl) fun K hK => ?_
 refine gR 10 rfl <| qBdZ 5 4 rfl rfl rfl rfl h (fun h => ?_) fun h => ?_
 refine gR 4 rfl <| qBdZ 9 8 rfl rfl rfl rfl h (fun h => ?_) fun h => ?_
 refine gR 7 rfl ?_
 subst h
 exact go_end ab (rs := [.tmp 2]) rfl rfl rfl
 refine gR 7 rfl ?_
 subst h
 exact go_end ab (rs := [.tmp 2]) rfl rfl rfl
 refine gR 11 rfl ?_
 subst h
 exact go_end ab (rs := [.tmp 2]) rfl rfl rfl
theorem oZ (m : Nat) (p0 : Int) (r0 : Bool) (h : ∃ a, dI p0 a ∧ ((a = true) → ((p0 ≠ 19) → ((p0 ≠ 20) → (p0 != 21) = r0) ∧ ((p0 = 20) → false = r0)) ∧ ((p0 = 19) → false = r0)) ∧ ((a = false) → false = r0)) : fi p0 r0 := by
 refine ⟨rfl, rfl, ?_⟩
 refine am 17 [] Tryz.func79 rfl rfl rfl (aQ rfl) fun K hK => ?_
 refine gR 8 rfl ?_
 obtain ⟨a, hs2, h⟩ := h
 refine gC0 hs2 (by kernel_rfl) rfl rfl .rfl rfl <| gR 1 rfl <| qBiZ 5 4 rfl rfl rfl rfl h (fun h => ?_) fun h => ?_
 refine gR 4 rfl <| qBhZ 9 8 rfl rfl rfl rfl h gw ey (fun h => ?_) fun h => ?_
 refine gR 4 rfl <| qBhZ 13 12 rfl rfl rfl rfl h gw ey (fun h => ?_) fun h => ?_
 refine gR 7 rfl ?_
 subst h
 exact go_end ab (rs := [.tmp 2]) rfl rfl rfl
 refine gR 7 rfl ?_
 subst h
 exact go_end ab (rs := [.tmp 2]) rfl rfl rfl
 refine gR 11 rfl ?_
 subst h
 exact go_end ab (rs := [.tmp 2]) rfl rfl rfl
 refine gR 15 rfl ?_
 subst h
 exact go_end ab (rs := [.tmp 2]) rfl rfl rfl
theorem mW (m : Nat) (p0 : List UInt8) (r0 : Bool) (h : ((p0 = [43]) → true = r0) ∧ ((p0 ≠ [43]) → ((p0 = [45]) → true = r0) ∧ ((p0 ≠ [45]) → ((p0 = [42]) → true = r0) ∧ ((p0 ≠ [42]) → ((p0 = [60]) → true = r0) ∧ ((p0 ≠ [60]) → ((p0 = [61, 61]) → true = r0) ∧ ((p0 ≠ [61, 61]) → false = r0)))))) : fD p0 r0 := by
 refine ⟨rfl, rfl, ?_⟩
 refine am 10 [] Tryz.func76 rfl rfl rfl (aQ rfl) fun K hK => ?_
 refine gR 19 rfl <| qBeZ 4 5 rfl rfl rfl rfl h (fun h => ?_) fun h => ?_
 refine gR 12 rfl ?_
 subst h
 exact go_end ab (rs := [.tmp 2]) rfl rfl rfl
 refine gR 7 rfl <| qBeZ 4 6 rfl rfl rfl rfl h (fun h => ?_) fun h => ?_
 refine gR 12 rfl ?_
 subst h
 exact go_end ab (rs := [.tmp 2]) rfl rfl rfl
 refine gR 7 rfl <| qBeZ 4 7 rfl rfl rfl rfl h (fun h => ?_) fun h => ?_
 refine gR 12 rfl ?_
 subst h
 exact go_end ab (rs := [.tmp 2]) rfl rfl rfl
 refine gR 7 rfl <| qBeZ 4 8 rfl rfl rfl rfl h (fun h => ?_) fun h => ?_
 refine gR 12 rfl ?_
 subst h
 exact go_end ab (rs := [.tmp 2]) rfl rfl rfl
 refine gR 6 rfl <| qBeZ 4 9 rfl rfl rfl rfl h (fun h => ?_) fun h => ?_
 refine gR 9 rfl ?_
 subst h
 exact go_end ab (rs := [.tmp 2]) rfl rfl rfl
 refine gR 10 rfl ?_
 subst h
 exact go_end ab (rs := [.tmp 2]) rfl rfl rfl
def fV (m : Nat) (p0 : Int) (p1 : List UInt8) (a : Int) (b r0 : Bool) : Prop := ∀ (K : Ctx), aB K [] → qLG K Tryz.f46 (fun u _ => u = .bool r0) (cB (xF (ac Tryz.f46))) [.blk 0, .seq (xI (ac Tryz.f46))] 51 (mkF 51 0 [(1, .str p1), (5, .int .i64 a), (8, .int .i64 p0), (9, .bool b)]) ⟨0, []⟩
def cY (m : Nat) (p0 : Int) (p1 : List UInt8) (a : Int) (b r0 : Bool) : Prop := ∀ (K : Ctx), aB K [] → qLG K Tryz.f46 (fun u _ => u = .bool r0) (cB (xL (ac Tryz.f46))) [.blk 0, .seq (xI (ac Tryz.f46))] 51 (mkF 51 0 [(1, .str p1), (5, .int .i64 a), (8, .int .i64 p0), (14, .bool b)]) ⟨0, []⟩
theorem nI (m : Nat) (p0 : Int) (p1 : List UInt8) (r0 : Bool) (h : ∃ a, qd p1 a ∧ ((p0 = 1) → fV m p0 p1 a true r0) ∧ ((p0 ≠ 1) → fV m p0 p1 a (p0 == 3) r0)) : gr p0 p1 r0 := by
 refine ⟨rfl, rfl, ?_⟩
 refine am 51 [] Tryz.func46 rfl rfl rfl (aQ rfl) fun K hK => ?_
 refine gR 8 rfl ?_
 obtain ⟨a, hs7, h⟩ := h
 refine gC0 hs7 (by kernel_rfl) rfl rfl .rfl rfl <| gR 17 rfl <| qBeZ 9 10 rfl rfl rfl rfl h (fun h => ?_) fun h => ?_
 exact gR 3 rfl <| gJ (h K hK) [] [] rfl hK pq4 trivial rfl
 exact gR 6 rfl <| gJ (h K hK) [] [] rfl hK pq4 trivial rfl
theorem ny (m : Nat) (p0 : Int) (p1 : List UInt8) (a : Int) (b r0 : Bool) (h : ((b = true) → (a == 2) = r0) ∧ ((b = false) → ((p0 = 2) → cY m p0 p1 a true r0) ∧ ((p0 ≠ 2) → ((p0 = 4) → cY m p0 p1 a true r0) ∧ ((p0 ≠ 4) → ((p0 = 12) → cY m p0 p1 a true r0) ∧ ((p0 ≠ 12) → cY m p0 p1 a (p0 == 20) r0))))) : fV (m + 1) p0 p1 a b r0 := by
 intro K hK
 refine qBi 9 rfl rfl rfl h (fun h => ?_) fun h => ?_
 refine gR 11 rfl ?_
 subst h
 exact go_end ab (rs := [.tmp 4]) rfl rfl rfl
 refine gR 8 rfl <| qBeZ 14 15 rfl rfl rfl rfl h (fun h => ?_) fun h => ?_
 exact gR 3 rfl <| gJ (h K hK) [] [] rfl hK pq4 trivial rfl
 refine gR 7 rfl <| qBeZ 14 16 rfl rfl rfl rfl h (fun h => ?_) fun h => ?_
 exact gR 3 rfl <| gJ (h K hK) [] [] rfl hK pq4 trivial rfl
 refine gR 7 rfl <| qBeZ 14 17 rfl rfl rfl rfl h (fun h => ?_) fun h => ?_
 exact gR 3 rfl <| gJ (h K hK) [] [] rfl hK pq4 trivial rfl
 exact gR 6 rfl <| gJ (h K hK) [] [] rfl hK pq4 trivial rfl
theorem nk (m : Nat) (p0 : Int) (p1 : List UInt8) (a : Int) (b r0 : Bool) (h : ((b = true) → (a == 1) = r0) ∧ ((b = false) → ((p0 = 9) → ((a = 2) → true = r0) ∧ ((a ≠ 2) → (a == 4) = r0)) ∧ ((p0 ≠ 9) → ((p0 = 16) → ((a = 1) → true = r0) ∧ ((a ≠ 1) → (a == 3) = r0)) ∧ ((p0 ≠ 16) → ((p0 = 10) → (a == 5) = r0) ∧ ((p0 ≠ 10) → ((p0 = 11) → (a == 6) = r0) ∧ ((p0 ≠ 11) → ((p0 = 21) → ∃ c, fD p1 c ∧ c = r0) ∧ ((p0 ≠ 21) → (p1 == []) = r0))))))) : cY (m + 1) p0 p1 a b r0 := by
 intro K hK
 refine qBi 14 rfl rfl rfl h (fun h => ?_) fun h => ?_
 refine gR 11 rfl ?_
 subst h
 exact go_end ab (rs := [.tmp 4]) rfl rfl rfl
 refine gR 7 rfl <| qBeZ 21 22 rfl rfl rfl rfl h (fun h => ?_) fun h => ?_
 refine gR 6 rfl <| qBeZ 25 24 rfl rfl rfl rfl h (fun h => ?_) fun h => ?_
 refine gR 9 rfl ?_
 subst h
 exact go_end ab (rs := [.tmp 4]) rfl rfl rfl
 refine gR 9 rfl ?_
 subst h
 exact go_end ab (rs := [.tmp 4]) rfl rfl rfl
 refine gR 7 rfl <| qBeZ 29 30 rfl rfl rfl rfl h (fun h => ?_) fun h => ?_
 refine gR 6 rfl <| qBeZ 33 32 rfl rfl rfl rfl h (fun h => ?_) fun h => ?_
 refine gR 9 rfl ?_
 subst h
 exact go_end ab (rs := [.tmp 4]) rfl rfl rfl
 refine gR 9 rfl ?_
 subst h
 exact go_end ab (rs := [.tmp 4]) rfl rfl rfl
 refine gR 7 rfl <| qBeZ 37 38 rfl rfl rfl rfl h (fun h => ?_) fun h => ?_
 refine gR 11 rfl ?_
 subst h
 exact go_end ab (rs := [.tmp 4]) rfl rfl rfl
 refine gR 7 rfl <| qBeZ 41 42 rfl rfl rfl rfl h (fun h => ?_) fun h => ?_
 refine gR 11 rfl ?_
 subst h
 exact go_end ab (rs := [.tmp 4]) rfl rfl rfl
 refine gR 7 rfl <| qBeZ 45 46 rfl rfl rfl rfl h (fun h => ?_) fun h => ?_
 refine gR 4 rfl ?_
 obtain ⟨c, hs8, h⟩ := h
 refine gC0 hs8 (by kernel_rfl) rfl rfl .rfl rfl <| gR 6 rfl ?_
 subst h
 exact go_end ab (rs := [.tmp 4]) rfl rfl rfl
 refine gR 12 rfl ?_
 subst h
 exact go_end ab (rs := [.tmp 4]) rfl rfl rfl
def fY (m : Nat) (p0 : Tree) (p1 p2 : Int) (a r0 : Bool) : Prop := ∀ (K : Ctx), aB K [] → qLG K Tryz.f47 (fun u _ => u = .bool r0) (cB (xC (xF (ac Tryz.f47)))) [.blk 0, .seq (xI (ac Tryz.f47))] 62 (mkF 62 0 [(1, .int .i64 p1), (2, .int .i64 p2), (12, .int .i64 p0.kind), (38, .bool a)]) ⟨0, []⟩
theorem qr (m : Nat) (p0 : Tree) (p1 p2 : Int) (r0 : Bool) (h : ((p0.kind = 1) → ((p2 = 2) → true = r0) ∧ ((p2 ≠ 2) → (p2 == 3) = r0)) ∧ ((p0.kind ≠ 1) → ((p0.kind = 2) → ((p1 = ((p0.kids.length : Int) - 1)) → ∃ a, dI p2 a ∧ a = r0) ∧ ((p1 ≠ ((p0.kids.length : Int) - 1)) → ((p1 = ((p0.kids.length : Int) - 2)) → ∃ b, fp p2 b ∧ b = r0) ∧ ((p1 ≠ ((p0.kids.length : Int) - 2)) → (p2 == 4) = r0))) ∧ ((p0.kind ≠ 2) → ((p0.kind = 3) → fY m p0 p1 p2 true r0) ∧ ((p0.kind ≠ 3) → ((p0.kind = 4) → fY m p0 p1 p2 true r0) ∧ ((p0.kind ≠ 4) → fY m p0 p1 p2 (p0.kind == 8) r0))))) : jV p0 p1 p2 r0 := by
 refine ⟨rfl, rfl, ?_⟩
 refine am 62 [] Tryz.func47 rfl rfl rfl (aQ rfl) fun K hK => ?_
 refine gR 3 rfl <| gFP 0 rfl rfl rfl rfl <| gR 8 rfl <| gV 10 (.int .i64 (p0.kids.length : Int)) rfl (bo (aR _)) rfl <| gLB 9 rfl (aR _) fun hl17 => gR 17 rfl <| gB 13 rfl rfl rfl ?_ ?_ <;> intro hd
 refine gT 14 rfl hd rfl ?_
 replace hd := (eq_of_beq hd)
 replace h := h.1 hd
 refine gR 6 rfl <| gB 17 rfl rfl rfl ?_ ?_ <;> intro hd
 refine gT 16 rfl hd rfl ?_
 replace hd := (eq_of_beq hd)
 replace h := h.1 hd
 refine gR 9 rfl ?_
 subst h
 exact go_end ab (rs := [.tmp 6]) rfl rfl rfl
 refine gF 16 rfl hd rfl ?_
 replace hd := (ne_of_beq_false hd)
 replace h := h.2 hd
 refine gR 9 rfl ?_
 subst h
 exact go_end ab (rs := [.tmp 6]) rfl rfl rfl
 refine gF 14 rfl hd rfl ?_
 replace hd := (ne_of_beq_false hd)
 replace h := h.2 hd
 refine gR 7 rfl <| gB 21 rfl rfl rfl ?_ ?_ <;> intro hd
 refine gT 22 rfl hd rfl ?_
 replace hd := (eq_of_beq hd)
 replace h := h.1 hd
 refine gR 12 rfl <| gV 26 (.int .i64 ((p0.kids.length : Int) - 1)) rfl (au (by have := hl17; omega) rfl) rfl <| gR 4 rfl <| gB 24 rfl rfl rfl ?_ ?_ <;> intro hd
 refine gT 27 rfl hd rfl ?_
 replace hd := (eq_of_beq hd)
 replace h := h.1 hd
 refine gR 4 rfl ?_
 obtain ⟨a, hs18, h⟩ := h
 refine gC0 hs18 (by kernel_rfl) rfl rfl .rfl rfl <| gR 8 rfl ?_
 subst h
 exact go_end ab (rs := [.tmp 6]) rfl rfl rfl
 refine gF 27 rfl hd rfl ?_
 replace hd := (ne_of_beq_false hd)
 replace h := h.2 hd
 refine gR 5 rfl <| gV 32 (.int .i64 ((p0.kids.length : Int) - 2)) rfl (au (by have := hl17; omega) rfl) rfl <| gR 4 rfl <| gB 30 rfl rfl rfl ?_ ?_ <;> intro hd
 refine gT 33 rfl hd rfl ?_
 replace hd := (eq_of_beq hd)
 replace h := h.1 hd
 refine gR 4 rfl ?_
 obtain ⟨b, hs19, h⟩ := h
 refine gC0 hs19 (by kernel_rfl) rfl rfl .rfl rfl <| gR 8 rfl ?_
 subst h
 exact go_end ab (rs := [.tmp 6]) rfl rfl rfl
 refine gF 33 rfl hd rfl ?_
 replace hd := (ne_of_beq_false hd)
 replace h := h.2 hd
 refine gR 14 rfl ?_
 subst h
 exact go_end ab (rs := [.tmp 6]) rfl rfl rfl
 refine gF 22 rfl hd rfl ?_
 replace hd := (ne_of_beq_false hd)
 replace h := h.2 hd
 refine gR 8 rfl <| gB 38 rfl rfl rfl ?_ ?_ <;> intro hd
 refine gT 39 rfl hd rfl ?_
 replace hd := (eq_of_beq hd)
 replace h := h.1 hd
 exact gR 3 rfl <| gJ (h K hK) [] [] rfl hK pq4 trivial rfl
 refine gF 39 rfl hd rfl ?_
 replace hd := (ne_of_beq_false hd)
 replace h := h.2 hd
 refine gR 7 rfl <| gB 38 rfl rfl rfl ?_ ?_ <;> intro hd
 refine gT 40 rfl hd rfl ?_
 replace hd := (eq_of_beq hd)
 replace h := h.1 hd
 exact gR 3 rfl <| gJ (h K hK) [] [] rfl hK pq4 trivial rfl
 refine gF 40 rfl hd rfl ?_
 replace hd := (ne_of_beq_false hd)
 replace h := h.2 hd
 exact gR 6 rfl <| gJ (h K hK) [] [] rfl hK pq4 trivial rfl
theorem pZ (m : Nat) (p0 : Tree) (p1 p2 : Int) (b r0 : Bool) (h : ((b = true) → ∃ c, fp p2 c ∧ c = r0) ∧ ((b = false) → ((p0.kind = 16) → (p2 == 17) = r0) ∧ ((p0.kind ≠ 16) → ((p0.kind = 21) → ∃ a, fi p2 a ∧ ((a = true) → true = r0) ∧ ((a = false) → ((p1 = 0) → (p2 == 21) = r0) ∧ ((p1 ≠ 0) → false = r0))) ∧ ((p0.kind ≠ 21) → ∃ d, dI p2 d ∧ d = r0)))) : fY (m + 1) p0 p1 p2 b r0 := by
 intro K hK
 refine qBi 38 rfl rfl rfl h (fun h => ?_) fun h => ?_
 refine gR 4 rfl ?_
 obtain ⟨c, hs20, h⟩ := h
 refine gC0 hs20 (by kernel_rfl) rfl rfl .rfl rfl <| gR 6 rfl ?_
 subst h
 exact go_end ab (rs := [.tmp 6]) rfl rfl rfl
 refine gR 7 rfl <| qBeZ 44 45 rfl rfl rfl rfl h (fun h => ?_) fun h => ?_
 refine gR 11 rfl ?_
 subst h
 exact go_end ab (rs := [.tmp 6]) rfl rfl rfl
 refine gR 7 rfl <| qBeZ 48 49 rfl rfl rfl rfl h (fun h => ?_) fun h => ?_
 refine gR 4 rfl ?_
 obtain ⟨a, hs21, h⟩ := h
 refine gC0 hs21 (by kernel_rfl) rfl rfl .rfl rfl <| gR 1 rfl <| qBiZ 52 51 rfl rfl rfl rfl h (fun h => ?_) fun h => ?_
 refine gR 13 rfl ?_
 subst h
 exact go_end ab (rs := [.tmp 6]) rfl rfl rfl
 refine gR 3 rfl <| qBeZ 55 54 rfl rfl rfl rfl h (fun h => ?_) fun h => ?_
 refine gR 10 rfl ?_
 subst h
 exact go_end ab (rs := [.tmp 6]) rfl rfl rfl
 refine gR 10 rfl ?_
 subst h
 exact go_end ab (rs := [.tmp 6]) rfl rfl rfl
 refine gR 7 rfl ?_
 obtain ⟨d, hs22, h⟩ := h
 refine gC0 hs22 (by kernel_rfl) rfl rfl .rfl rfl <| gR 4 rfl ?_
 subst h
 exact go_end ab (rs := [.tmp 6]) rfl rfl rfl
def eP (m : Nat) (p0 : Tree) (a : Nat) (r0 : Bool) : Prop := ∀ (K : Ctx) (j1 : Nat), aB K [] → m ≤ j1 → qLG K Tryz.f26 (fun u _ => u = .bool r0) (xH (ac Tryz.f26)) [.loop (xH (ac Tryz.f26)) j1, .blk 0, .seq (xI (ac Tryz.f26))] 45 (mkF 45 0 [(1, .box (aj p0) 0), (3, .int .i64 (a : Int))]) ⟨0, []⟩
theorem oW (m : Nat) (p0 : Tree) (r0 : Bool) (h : ∃ a, eh p0.kind (p0.kids.length : Int) a ∧ ((a < 0) → false = r0) ∧ ((¬ a < 0) → ∃ b, gr p0.kind p0.text b ∧ ((b = false) → false = r0) ∧ ((b = true) → eP m p0 0 r0))) : cR p0 r0 := by
 refine ⟨rfl, rfl, ?_⟩
 refine am 45 [] Tryz.func26 rfl rfl rfl (aQ rfl) fun K hK => ?_
 refine gR 3 rfl <| gFP 0 rfl rfl rfl rfl <| gR 11 rfl <| gV 8 (.int .i64 (p0.kids.length : Int)) rfl (bo (aR _)) rfl <| gLB 7 rfl (aR _) fun hl13 => ?_
 obtain ⟨a, hs14, h⟩ := h
 refine gC0 hs14 (by kernel_rfl) rfl rfl .rfl rfl <| gR 2 rfl <| gB 11 rfl rfl rfl ?_ ?_ <;> intro hd
 refine gT 10 rfl hd rfl ?_
 replace hd := (of_decide_eq_true hd)
 replace h := h.1 hd
 refine gR 17 rfl ?_
 subst h
 exact go_end ab (rs := [.tmp 2]) rfl rfl rfl
 refine gF 10 rfl hd rfl ?_
 replace hd := (of_decide_eq_false hd)
 replace h := h.2 hd
 refine gR 4 rfl ?_
 obtain ⟨b, hs15, h⟩ := h
 refine gC0 hs15 (by kernel_rfl) rfl rfl .rfl rfl <| gR 4 rfl <| gB 18 rfl rfl rfl ?_ ?_ <;> intro hd
 replace hd := (cg hd)
 replace h := h.1 hd
 refine gR 8 rfl ?_
 subst h
 exact go_end ab (rs := [.tmp 2]) rfl rfl rfl
 replace hd := (cf hd)
 replace h := h.2 hd
 exact gR 10 rfl <| go_loop m <| gJ (h K _ hK (by omega)) [] [] rfl hK pq2 trivial rfl
theorem kn (m : Nat) (p0 : Tree) (a : Nat) (r0 : Bool) (h : ((a < p0.kids.length) → ∃ d, p0.kids[a]? = some d ∧ ∃ b, jV p0 (a : Int) d.kind b ∧ ((b = false) → false = r0) ∧ ((b = true) → ∃ e, p0.kids[a]? = some e ∧ ∃ c, cR e c ∧ ((c = false) → false = r0) ∧ ((c = true) → eP m p0 (a + 1) r0))) ∧ ((¬ a < p0.kids.length) → true = r0)) : eP (m + 1) p0 a r0 := by
 intro K j1 hK hj1
 obtain ⟨j1, rfl⟩ : ∃ j, j1 = j + 1 := ⟨j1 - 1, by omega⟩
 refine gR 7 rfl <| gV 22 (.int .i64 (p0.kids.length : Int)) rfl (bo (aR _)) rfl <| gLB 21 rfl (aR _) fun hl16 => gR 3 rfl <| gB 23 rfl rfl rfl ?_ ?_ <;> intro hd
 replace hd := (dX hd)
 replace h := h.1 hd
 refine gR 6 rfl <| gDs [] 19 19 rfl (by kernel_rfl) (by kernel_rfl) <| gDr [(0, 2), (1, 2), (2, 2), (3, 2), (4, 0)] (by kernel_rfl) rfl rfl ?_
 obtain ⟨d, hxt1_1, h⟩ := h
 refine db 5 rfl (by kernel_rfl) (bc (aw hxt1_1) ab rfl rfl rfl rfl) rfl rfl ?_
 refine gDr [(6, 0), (7, 0)] (by kernel_rfl) rfl rfl ?_
 obtain ⟨b, hs17, h⟩ := h
 refine aW 8 hs17 (by kernel_rfl) rfl (by kernel_rfl) rfl rfl .rfl rfl rfl ?_
 refine gDr [(9, 0), (10, 0)] (by kernel_rfl) rfl rfl <| gB 36 rfl rfl rfl ?_ ?_ <;> intro hd
 refine gT 35 rfl hd rfl ?_
 replace hd := (cg hd)
 replace h := h.1 hd
 refine gDr [(11, 2), (12, 2), (13, 0), (14, 0), (15, 0), (16, 0), (17, 0), (18, 0)] (by kernel_rfl) rfl rfl <| gDe (by kernel_rfl) <| gR 10 rfl <| go_xloopR <| gR 2 rfl ?_
 subst h
 exact go_end ab (rs := [.tmp 2]) rfl rfl rfl
 refine gF 35 rfl hd rfl ?_
 replace hd := (cf hd)
 replace h := h.2 hd
 refine gDr [(11, 2), (12, 2), (13, 0)] (by kernel_rfl) rfl rfl ?_
 obtain ⟨e, hxt1_3, h⟩ := h
 refine db 14 rfl (by kernel_rfl) (bc (aw hxt1_3) ab rfl rfl rfl rfl) rfl rfl ?_
 refine gDr [(15, 0)] (by kernel_rfl) rfl rfl ?_
 obtain ⟨c, hs18, h⟩ := h
 refine aW 16 hs18 (by kernel_rfl) rfl (by kernel_rfl) rfl rfl .rfl rfl rfl ?_
 refine gDr [(17, 0), (18, 0)] (by kernel_rfl) rfl rfl <| gDe (by kernel_rfl) <| gR 1 rfl <| gB 44 rfl rfl rfl ?_ ?_ <;> intro hd
 replace hd := (cg hd)
 replace h := h.1 hd
 refine gR 9 rfl <| go_xloopR <| gR 2 rfl ?_
 subst h
 exact go_end ab (rs := [.tmp 2]) rfl rfl rfl
 replace hd := (cf hd)
 replace h := h.2 hd
 exact gR 7 rfl <| gV 25 (.int .i64 ((a + 1 : Nat) : Int)) rfl (au (by have := hl16; omega) (by omega)) rfl <| gR 2 rfl <| go_xloop <| gJ (h K _ hK (by omega)) [] [] rfl hK pq2 trivial rfl
 replace hd := (dW hd)
 replace h := h.2 hd
 refine gR 3 rfl <| go_xloopE <| gR 8 rfl ?_
 subst h
 exact go_end ab (rs := [.tmp 2]) rfl rfl rfl
end Go.Proofs.YtpnpdlnpikkeaaaGreat
