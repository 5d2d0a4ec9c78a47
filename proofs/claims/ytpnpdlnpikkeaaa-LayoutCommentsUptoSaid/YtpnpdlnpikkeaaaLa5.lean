/- Contracts of the functions that the law reaches, part 5. -/
import Derived.Test.YtpnpdlnpikkeaaaLa4
set_option linter.unusedVariables false
set_option linter.unusedSimpArgs false
namespace Go.Proofs.Ytpnpdlnpikkeaaa
open Go.RowKit Lx
set_option maxRecDepth 100000
set_option maxHeartbeats 1000000 in
theorem yZ (l : List UInt8) (fin : Bool) (w : World) (hl : l.length ≤ 281474976710656) : Calls Try.prog 39 #[.string ⟨l.toArray⟩, .bool fin] w fun e w' => e = .returned (.bool (aL false l fin)) ∧ w = w' := by
 obtain ⟨r, hr⟩ : ∃ r, aL false l fin = r := ⟨_, rfl⟩
 rw [hr]
 have HR := Lib.hid hr; clear hr
 go_enter Try.func39, Try.ntmps39
 go_wp2_with fail
 go_loopg [5, 6] l.length (fun g s5 s6 wx => ∃ (i : Nat) (c : Bool), g = l.length - i ∧ wx = w ∧ i ≤ l.length ∧ s5 = .bool c ∧ s6 = .int .i64 i ∧ Hid (aL c (l.drop i) fin = r))
 case atStart => exact ⟨0, false, rfl, rfl, Nat.zero_le _, rfl, rfl, Lib.hid (by simpa using HR.out)⟩
 case round =>
  obtain ⟨i, c, rfl, rfl, hil, rfl, rfl, HT⟩ := hrel
  by_cases hit : i < l.length
  rotate_left
  ·have HF := Lib.hid (show (!c || fin) = r from by rw [← HT.out, tj (by omega)])
   cases c <;> (go_wp2_with fail; go_ret; exact ⟨aW (by rw [← HF.out]; rfl), rfl⟩)
  obtain ⟨x, hx⟩ : ∃ c, ({ data := l.toArray } : ByteArray)[i]'hit = c := ⟨_, rfl⟩
  have HXi := Lib.hid (show l[i] = x from hx)
  have HS := Lib.hid (HT.out.symm.trans (sv hit HXi.out))
  clear HT
  cases ha : aE x
  ·go_wp2_with (first | (go_at_call 26; refine qmm (dw _ _) ?_) | (go_at_call 27; refine qmm (aI _ _) ?_))
   go_ret
   exact ⟨aW (by rw [HS.out, if_pos ha]), rfl⟩
  cases c with
  | true =>
   go_wp2_with (first | (go_at_call 26; refine qmm (dw _ _) ?_) | (go_at_call 27; refine qmm (aI _ _) ?_))
   go_roundg (l.length - (i + 1))
   case measure => omega
   case rel => exact ⟨i + 1, !(x.toNat == 10), rfl, rfl, by omega, by rw [Bz], by go_num, Lib.hid (by rw [HS.out, if_neg (by simp [ha]), if_pos (by trivial)])⟩
  | false =>
   cases h35 : ((x.toNat : Int) == 35)
   rotate_left
   ·go_wp2_with (first | (go_at_call 26; refine qmm (dw _ _) ?_) | (go_at_call 27; refine qmm (aI _ _) ?_))
    go_roundg (l.length - (i + 1))
    case measure => omega
    case rel => exact ⟨i + 1, true, rfl, rfl, by omega, rfl, by go_num, Lib.hid (by rw [HS.out, if_neg (by simp [ha]), if_neg (by simp), if_pos (bJ (m := 35) h35)])⟩
   cases hw : ba x
   ·go_wp2_with (first | (go_at_call 26; refine qmm (dw _ _) ?_) | (go_at_call 27; refine qmm (aI _ _) ?_))
    go_ret
    exact ⟨aW (by rw [HS.out, if_neg (by simp [ha]), if_neg (by simp), if_neg (bf (m := 35) h35), if_pos hw]), rfl⟩
   ·go_wp2_with (first | (go_at_call 26; refine qmm (dw _ _) ?_) | (go_at_call 27; refine qmm (aI _ _) ?_))
    go_roundg (l.length - (i + 1))
    case measure => omega
    case rel => exact ⟨i + 1, false, rfl, rfl, by omega, rfl, by go_num, Lib.hid (by rw [HS.out, if_neg (by simp [ha]), if_neg (by simp), if_neg (bf (m := 35) h35), if_neg (by simp [hw])])⟩
end Go.Proofs.Ytpnpdlnpikkeaaa
namespace Go.Proofs.Ytpnpdlnpikkeaaa
open Go.RowKit
def cD (R : List Nat) (l : List (Nat × Ob)) : List (Nat × Ob) := l.filter fun p => fk p.1 R
def ung : Ob → Ob
 | .free => .gone
 | o => o
def dc (nx : Nat) (R : List Nat) (l : List (Nat × Ob)) : List (Nat × Ob) := (l.filter fun p => !fk p.1 R && Nat.blt p.1 nx).map fun p => (p.1, ung p.2)
theorem mx {α : Type} {R : List Nat} : ∀ (l : List (Nat × Ob)) (c : List (Nat × Ob) → α), nz R l c = c (cD R l)
 | [], c => rfl
 | (i, o) :: r, c => by
  simp only [nz]
  cases h : fk i R
  ·simp only; rw [mx r]; simp [cD, h]
  ·simp only; rw [mx r]; simp [cD, h]
theorem lW {α : Type} {nx : Nat} {R : List Nat} : ∀ (l : List (Nat × Ob)) (c : List (Nat × Ob) → α), mz nx R l c = c (dc nx R l)
 | [], c => rfl
 | (i, o) :: r, c => by
  simp only [mz]
  cases h : (!fk i R && Nat.blt i nx)
  ·simp only; rw [lW r]; simp only [dc, List.filter_cons, h]; rfl
  ·cases o <;> (simp only; rw [lW r]; simp only [dc, List.filter_cons, h]; rfl)
theorem kL {R : List Nat} {i : Nat} : ∀ {l : List (Nat × Ob)}, al (cD R l) i = al l i ∨ (fk i R = false ∧ al (cD R l) i = .gone)
 | [] => .inl rfl
 | (j, o) :: r => by
  by_cases hj : j = i
  ·subst hj
   cases h : fk j R
   ·right
    refine ⟨rfl, ?_⟩
    have ih := kL (R := R) (i := j) (l := r)
    simp only [cD, List.filter_cons, h] at ih ⊢
    simp only [Bool.false_eq_true, if_false]
    clear ih
    have key : ∀ (l : List (Nat × Ob)), al (l.filter fun p => fk p.1 R) j = .gone := by
     intro l
     induction l with
     | nil => rfl
     | cons q t ih =>
      obtain ⟨k, o'⟩ := q
      simp only [List.filter_cons]
      split
      ·rename_i hk
       have : k ≠ j := fun e => by subst e; simp [h] at hk
       simp only [al, nbF this]; exact ih
      ·exact ih
    exact key r
   ·left
    simp only [cD, List.filter_cons, h, if_true, al, nbT]
  ·have ih := kL (R := R) (i := i) (l := r)
   simp only [cD, List.filter_cons]
   split
   ·simp only [al, nbF hj]; exact ih
   ·simp only [al, nbF hj]; exact ih
theorem qN {R : List Nat} {i : Nat} (h : fk i R = false) (l : List (Nat × Ob)) : al (cD R l) i = .gone := by
 induction l with
 | nil => rfl
 | cons q t ih =>
  obtain ⟨k, o'⟩ := q
  simp only [cD, List.filter_cons]
  split
  ·rename_i hk
   have : k ≠ i := fun e => by subst e; simp [h] at hk
   simp only [al, nbF this]; exact ih
  ·exact ih
theorem vU {nx : Nat} {R : List Nat} {i : Nat} (l : List (Nat × Ob)) : al (dc nx R l) i = if (!fk i R && Nat.blt i nx) = true then ung (al l i) else .gone := by
 induction l with
 | nil => simp [dc, al, ung]
 | cons q t ih =>
  obtain ⟨k, o⟩ := q
  by_cases hk : k = i
  ·subst hk
   cases h : (!fk k R && Nat.blt k nx)
   ·rw [h] at ih
    simp only [dc, List.filter_cons, h, Bool.false_eq_true, if_false] at ih ⊢
    exact ih
   ·simp only [dc, List.filter_cons, h, if_true, List.map_cons, al, nbT]
  ·have e : al ((k, o) :: t) i = al t i := by simp only [al, nbF hk]
   rw [e, ← ih]
   simp only [dc, List.filter_cons]
   split
   ·simp only [List.map_cons, al, nbF hk]
   ·rfl
section
variable {P : Program} {T : Tab} {K : Ctx} {Q : Exit → Act → World → Prop} {s : List EI} {n : Nat} {F : Fm} {H : Hp}
theorem tM (lo : Nat) (H : Hp) (v : V) : ∃ v' H', (∀ (α : Type) (c : V → Hp → α), uA lo H v c = c v' H') ∧ H'.nx = H.nx ∧ (∀ K S w ρ x, HRel S w ρ H.get → Inv K S w ρ H.get → VRel S w ρ v x → ∃ S', HRel S' w ρ H'.get ∧ Inv K S' w ρ H'.get ∧ Up S S' w w ρ ρ ∧ VRel S' w ρ v' x) := by
 have triv : ∃ v' H', (∀ (α : Type) (c : V → Hp → α), c v H = c v' H') ∧ H'.nx = H.nx ∧ (∀ K S w ρ x, HRel S w ρ H.get → Inv K S w ρ H.get → VRel S w ρ v x → ∃ S', HRel S' w ρ H'.get ∧ Inv K S' w ρ H'.get ∧ Up S S' w w ρ ρ ∧ VRel S' w ρ v' x) := ⟨v, H, fun _ _ => rfl, rfl, fun K S w ρ x h1 h2 h3 => ⟨S, h1, h2, Up.refl, h3⟩⟩
 cases v with
 | sl id =>
  simp only [uA]
  split
  ·split
   ·rename_i e sz els ho
    split
    ·rename_i hpu
     refine ⟨.row sz els, ⟨H.nx, jk id H.es⟩, fun α c => by rw [nv], rfl, fun K S w ρ x hr hi hx => ?_⟩
     have hg : (⟨H.nx, jk id H.es⟩ : Hp).get = bY H.get id .gone := by
      funext i
      unfold Hp.get
      by_cases hii : i = id
      ·subst hii
       rw [bz]
       simp only []
       have hlt : Nat.blt i H.nx = true := by
        unfold Hp.get at ho
        split at ho
        ·assumption
        ·cases ho
       rw [hlt]
       simp only [jf, if_true]
      ·rw [bZ _ _ hii]
       simp only [jf, if_neg hii]
     refine ⟨_, by rw [hg]; exact (em hr).1, by rw [hg]; exact hi.frz hr id, (em hr).2, pA hr ho hpu hx⟩
    ·exact triv
   ·exact triv
  ·exact triv
 | _ => exact triv
theorem tJ (lo : Nat) : ∀ (vs : List V) (H : Hp), ∃ vs' H', (∀ (α : Type) (c : List V → Hp → α), vf lo H vs c = c vs' H') ∧ H'.nx = H.nx ∧ (∀ K S w ρ xs, HRel S w ρ H.get → Inv K S w ρ H.get → LRel S w ρ vs xs → ∃ S', HRel S' w ρ H'.get ∧ Inv K S' w ρ H'.get ∧ Up S S' w w ρ ρ ∧ LRel S' w ρ vs' xs)
 | [], H => ⟨[], H, fun _ _ => rfl, rfl, fun K S w ρ x h1 h2 h3 => ⟨S, h1, h2, Up.refl, h3⟩⟩
 | v :: r, H => by
  obtain ⟨v', H1, e1, n1, k1⟩ := tM lo H v
  obtain ⟨r', H2, e2, n2, k2⟩ := tJ lo r H1
  refine ⟨v' :: r', H2, fun α c => by simp only [vf, e1, e2], n2.trans n1, fun K S w ρ xs hr hi hx => ?_⟩
  simp only [LRel] at hx
  obtain ⟨x, ys, rfl, h1, h2⟩ := hx
  obtain ⟨S1, a1, a2, a3, a4⟩ := k1 K S w ρ x hr hi h1
  obtain ⟨S2, b1, b2, b3, b4⟩ := k2 K S1 w ρ ys a1 a2 (h2.up a3)
  exact ⟨S2, b1, b2, ⟨fun b hb => b3.s b (a3.s b hb), fun _ _ _ => rfl, fun _ _ h => h⟩, x, ys, rfl, a4.up b3, b4⟩
theorem zu (lo : Nat) (H : Hp) (v : V) : ∃ v' H', (∀ (α : Type) (c : V → Hp → α), xx lo H v c = c v' H') ∧ H'.nx = H.nx ∧ (∀ K S w ρ x, HRel S w ρ H.get → Inv K S w ρ H.get → VRel S w ρ v x → ∃ S', HRel S' w ρ H'.get ∧ Inv K S' w ρ H'.get ∧ Up S S' w w ρ ρ ∧ VRel S' w ρ v' x) := by
 have h0 := tM lo H v
 cases v
 case agg cs =>
  obtain ⟨vs', H', e, hn, k⟩ := tJ lo cs H
  refine ⟨.agg vs', H', fun α c => by simp only [xx, e], hn, fun K S w ρ x hr hi hx => ?_⟩
  simp only [VRel] at hx
  obtain ⟨xs, rfl, h1⟩ := hx
  obtain ⟨S', a1, a2, a3, a4⟩ := k K S w ρ xs hr hi h1
  exact ⟨S', a1, a2, a3, by simp only [VRel]; exact ⟨xs, rfl, a4⟩⟩
 all_goals exact h0
theorem pR (lo : Nat) : ∀ (vs : List V) (H : Hp), ∃ vs' H', (∀ (α : Type) (c : List V → Hp → α), sQ lo H vs c = c vs' H') ∧ H'.nx = H.nx ∧ (∀ K S w ρ xs, HRel S w ρ H.get → Inv K S w ρ H.get → LRel S w ρ vs xs → ∃ S', HRel S' w ρ H'.get ∧ Inv K S' w ρ H'.get ∧ Up S S' w w ρ ρ ∧ LRel S' w ρ vs' xs)
 | [], H => ⟨[], H, fun _ _ => rfl, rfl, fun K S w ρ x h1 h2 h3 => ⟨S, h1, h2, Up.refl, h3⟩⟩
 | v :: r, H => by
  obtain ⟨v', H1, e1, n1, k1⟩ := zu lo H v
  obtain ⟨r', H2, e2, n2, k2⟩ := pR lo r H1
  refine ⟨v' :: r', H2, fun α c => by simp only [sQ, e1, e2], n2.trans n1, fun K S w ρ xs hr hi hx => ?_⟩
  simp only [LRel] at hx
  obtain ⟨x, ys, rfl, h1, h2⟩ := hx
  obtain ⟨S1, a1, a2, a3, a4⟩ := k1 K S w ρ x hr hi h1
  obtain ⟨S2, b1, b2, b3, b4⟩ := k2 K S1 w ρ ys a1 a2 (h2.up a3)
  exact ⟨S2, b1, b2, ⟨fun b hb => b3.s b (a3.s b hb), fun _ _ _ => rfl, fun _ _ h => h⟩, x, ys, rfl, a4.up b3, b4⟩
variable {all : Array Oper} {rest : List Oper} {o : Oper} {u : V} {H' : Hp}
theorem Al {ok : Bool} (hw : be F all o.guard = some true) (hx : jM P K o [] ok n F H u H') (k : Go P K Q (.ops all rest) s n (F.seto o.dst (some u)) H') : Go P K Q (.ops all (o :: rest)) s n F H := fun S w ρ a hr hi hF => by
 show wpList P all (cP P Q s) (o :: rest) a w
 unfold wpList
 rw [if_pos (bW hF hw)]
 exact .inl (hx S w ρ a hr hi hF _ _ fun x S' w' ρ' hr' hi' hu _ _ hv => k S' w' ρ' _ hr' hi' (cy (hF.up hu) o.dst hv))
variable {L : List Nat} {m left i : Nat} {listed : Array Bool}
theorem zP (hrd : Region.ready .any all listed = [i]) (hi : all[i]? = some o) (hw : be F all o.guard = some true) (hx : jM P K o L ((listed.setIfInBounds i true).getD m false) n F H u H') (k : Go P K Q (.drw all L m left (listed.setIfInBounds i true)) s n (F.seto o.dst (some u)) H') : Go P K Q (.drw all L m (left + 1) listed) s n F H := fun S w ρ a hr hiv hF hs => by
 refine iY (S := S) hrd ?_
 unfold wpOp
 simp only [hi]
 rw [if_pos (bW hF hw)]
 exact .inl (hx S w ρ a hr hiv hF _ _ fun x S' w' ρ' hr' hi' hu hA hL hv => iF hu hA hL (k S' w' ρ' _ hr' hi' (cy (hF.up hu) o.dst hv) hs))
def fF (P : Program) (K : Ctx) (Q : Exit → Act → World → Prop) (n : Nat) : Rs → Prop
 | .ok e F H => ∀ S w ρ a, HRel S w ρ H.get → Inv K S w ρ H.get → FRel S w ρ a n F → Q (match e with | true => .ret | false => .normal) a w
 | .pt p s F H => Go P K Q p s n F H
 | .er _ _ => False
variable {ih : EP → List EI → Fm → Hp → Rs}
theorem tO {S : Nat → Prop} {w : World} {ρ : Nat → Option Value} {x : Value} : ∀ {rs : List V}, VRel S w ρ (iX rs) x → ∃ ys, LRel S w ρ rs ys ∧ x = iS ys
 | [], hvx => by simp only [iX, VRel] at hvx; obtain ⟨ys, rfl, h1⟩ := hvx; exact ⟨ys, h1, by simp only [LRel] at h1; subst h1; rfl⟩
 | [v], hvx => ⟨[x], ⟨x, [], rfl, hvx, rfl⟩, rfl⟩
 | v :: u :: r, hvx => by
  simp only [iX, VRel] at hvx; obtain ⟨ys, rfl, h1⟩ := hvx
  refine ⟨ys, h1, ?_⟩
  simp only [LRel] at h1
  obtain ⟨_, _, rfl, _, _, _, rfl, _⟩ := h1
  rfl
theorem xr (hT : TabOk P T) (IH : ∀ p s F H K Q n, fF P K Q n (ih p s F H) → Go P K Q p s n F H) {X : Rs → Prop} (hX : ∀ n m, ¬ X (.er n m)) {keep ok : Bool} {vs : List V} {fid : FuncId} {fn : Func} {b : Code} {c : V → Hp → Rs} (hf : P.funcs[fid]? = some fn) (hb : fn.body = some b) (hl : Nat.ble vs.length fn.ntmps = true)
  (h : X (vj T ih keep vs fn b H L ok c)) : ∃ u H' L', (L' = L ∨ ok = true) ∧ CallR P K fid vs H L' (fun u' H'' => u' = u ∧ H'' = H') ∧ X (c u H') := by
 unfold vj at h
 simp only [] at h
 generalize hR : jz H 40 (me vs []) [] = R at h
 split at h
 ·rename_i hok
  rw [mx] at h
  split at h
  ·rename_i e F1 H1 hrun
   split at h
   ·rename_i rs hres
    split at h
    ·rename_i hnx
     have hnx' : H.nx ≤ H1.nx := Nat.le_of_ble_eq_true hnx
     -- the objects that the call gets
     have hin : ∀ i, (⟨H.nx, cD R H.es⟩ : Hp).get i = H.get i ∨ (⟨H.nx, cD R H.es⟩ : Hp).get i = .gone := fun i => by
      unfold Hp.get
      simp only []
      split
      ·rcases kL (R := R) (i := i) (l := H.es) with e | ⟨_, e⟩
       ·exact .inl e
       ·exact .inr e
      ·exact .inl rfl
     have hout : ∀ i, fk i R = false → Nat.blt i H.nx = true → (⟨H.nx, cD R H.es⟩ : Hp).get i = .gone := fun i hi hlt => by
      unfold Hp.get
      simp only [hlt]
      exact qN hi _
     -- the objects behind the call
     have key : ∀ (H2 : Hp) (es3 : List (Nat × Ob)), H2.nx = H1.nx → (∀ i, al es3 i = al H2.es i ∨ al es3 i = .gone) → ∀ i, ((⟨H2.nx, es3 ++ dc H.nx R H.es⟩ : Hp).get i = H2.get i ∨ (⟨H2.nx, es3 ++ dc H.nx R H.es⟩ : Hp).get i = .gone) ∨ ((⟨H2.nx, es3 ++ dc H.nx R H.es⟩ : Hp).get i = H.get i ∧ (⟨H.nx, cD R H.es⟩ : Hp).get i = .gone ∧ H.get i ≠ .free) := fun H2 es3 hn h3 i => by
      by_cases hlt2 : Nat.blt i H2.nx = true
      ·have e0 : (⟨H2.nx, es3 ++ dc H.nx R H.es⟩ : Hp).get i = al (es3 ++ dc H.nx R H.es) i := by unfold Hp.get; simp only [hlt2]
       have e2 : H2.get i = al H2.es i := by unfold Hp.get; rw [hlt2]
       rw [e0, e2]
       rcases sf es3 (dc H.nx R H.es) i with e | ⟨e', e⟩
       ·rw [e]
        rcases h3 i with h3 | h3
        ·exact .inl (.inl h3)
        ·exact .inl (.inr h3)
       ·rw [e]
        rw [vU]
        cases hm : (!fk i R && Nat.blt i H.nx)
        ·exact .inl (.inr (by simp))
        ·have hm' := hm
         simp only [Bool.and_eq_true, Bool.not_eq_true'] at hm'
         have eH : H.get i = al H.es i := by unfold Hp.get; rw [hm'.2]
         rw [if_pos rfl]
         cases hf : al H.es i
         case free => exact .inl (.inr rfl)
         all_goals exact .inr ⟨by rw [eH, hf]; rfl, hout i hm'.1 hm'.2, by rw [eH, hf]; simp⟩
      ·have e0 : (⟨H2.nx, es3 ++ dc H.nx R H.es⟩ : Hp).get i = .free := by
        unfold Hp.get; simp only [Bool.not_eq_true] at hlt2; simp only [hlt2]
       have e2 : H2.get i = .free := by unfold Hp.get; simp only [Bool.not_eq_true] at hlt2; rw [hlt2]
       exact .inl (.inl (by rw [e0, e2]))
     -- what holds behind the call
     have fin : ∀ (H2 : Hp) (es3 : List (Nat × Ob)) (rs2 : List V), H2.nx = H1.nx → (∀ i, al es3 i = al H2.es i ∨ al es3 i = .gone) →
       (∀ K S w ρ xs, HRel S w ρ H1.get → Inv K S w ρ H1.get → LRel S w ρ rs xs → ∃ S', HRel S' w ρ H2.get ∧ Inv K S' w ρ H2.get ∧ Up S S' w w ρ ρ ∧ LRel S' w ρ rs2 xs) →
       ∃ L', (L' = L ∨ ok = true) ∧ CallR P K fid vs H L' (fun u' H'' => u' = iX rs2 ∧ H'' = ⟨H2.nx, es3 ++ dc H.nx R H.es⟩) := fun H2 es3 rs2 hn h3 hfz => by
      have main : ∀ L', (∀ (S : Nat → Prop) (w : World) (ρ : Nat → Option Value), HRel S w ρ H.get → L' = [] ∨ (ca H.get L' = true ∧ ∀ id, id ∈ L' → (⟨H.nx, cD R H.es⟩ : Hp).get id = .gone)) → CallR P K fid vs H L' (fun u' H'' => u' = iX rs2 ∧ H'' = ⟨H2.nx, es3 ++ dc H.nx R H.es⟩) := fun L' hL' S w ρ xs hr hi hx => by
       have hr1 := hr.drop (h' := (⟨H.nx, cD R H.es⟩ : Hp).get) hin
       have hi1 : Inv ⟨w, S, fun b => ∃ id, own ρ id ((⟨H.nx, cD R H.es⟩ : Hp).get id) b, ρ⟩ S w ρ (⟨H.nx, cD R H.es⟩ : Hp).get := ⟨ChgP.refl _ _, fun _ h => h, fun _ h => .inl h, fun id b hb => .inl ⟨id, hb⟩, fun _ _ h => h⟩
       refine oG hf hb hl hr1 hi1 hx (IH _ _ _ _ _ _ _ ?_)
       rw [hrun]
       intro S' w' ρ' a' hr' hi' hF'
       obtain ⟨rl, hrl⟩ : ∃ l : List ResultVar, fn.results = l.toArray := ⟨fn.results.toList, by simp⟩
       rw [hrl] at hres
       refine ret_go hT (rs := rl) (by cases e <;> simp) hrl hr' hF' (by simpa using hres) fun x hvx => ?_
       have hLR := tO hvx
       obtain ⟨ys, hys, rfl⟩ := hLR
       obtain ⟨S2, a1, a2, a3, a4⟩ := hfz _ S' w' ρ' ys hr' hi' hys
       obtain ⟨m1, m2, m3, m4⟩ := rp (h1 := (⟨H.nx, cD R H.es⟩ : Hp).get) (h2 := (⟨H2.nx, es3 ++ dc H.nx R H.es⟩ : Hp).get) hr hi hin a1 a2 (key H2 es3 hn h3)
       refine ⟨_, S2, ρ', _, _, rfl, ⟨rfl, rfl⟩, m1, m2, m3, tv a4, ?_⟩
       rcases hL' S w ρ hr with rfl | ⟨g1, g2⟩
       ·intro id hid; simp at hid
       ·exact m4 L' g1 g2
      rcases nq hok with hok | hok
      ·simp only [Bool.and_eq_true] at hok
       refine ⟨L, .inl rfl, main L fun S w ρ hr => .inr ⟨hok.1, fun id hid => ?_⟩⟩
       have hmem := List.all_eq_true.1 hok.2 id hid
       simp only [Bool.not_eq_true'] at hmem
       by_cases hlt : Nat.blt id H.nx = true
       ·exact hout id hmem hlt
       ·exfalso
        have hfree : H.get id = .free := by unfold Hp.get; simp only [Bool.not_eq_true] at hlt; rw [hlt]
        have hnl : ∀ (l : List Nat), id ∈ l → ca H.get l = true → False := by
         intro l
         induction l with
         | nil => intro h; simp at h
         | cons j t ih =>
          intro hm hl
          simp only [ca] at hl
          rcases List.mem_cons.1 hm with e | e
          ·subst e; rw [hfree] at hl; cases hl
          ·split at hl
           ·exact ih e hl
           ·exact ih e hl
           ·cases hl
        exact hnl L hid hok.1
      ·exact ⟨[], .inr hok, main [] fun _ _ _ _ => .inl rfl⟩
     split at h
     ·rw [lW] at h
      obtain ⟨L', g1, g2⟩ := fin H1 H1.es rs rfl (fun i => .inl rfl) (fun K S w ρ xs h1 h2 h3 => ⟨S, h1, h2, Up.refl, h3⟩)
      exact ⟨_, _, L', g1, g2, h⟩
     ·obtain ⟨rs2, H2, e1, e2, e3⟩ := pR H.nx rs H1
      rw [e1] at h
      rw [mx, lW] at h
      obtain ⟨L', g1, g2⟩ := fin H2 (cD _ H2.es) rs2 e2 (fun i => by
       rcases kL (R := jz H2 60 (me rs2 R) []) (i := i) (l := H2.es) with e | ⟨_, e⟩
       ·exact .inl e
       ·exact .inr e) e3
      exact ⟨_, _, L', g1, g2, h⟩
    ·exact absurd h (hX _ _)
   ·exact absurd h (hX _ _)
  ·exact absurd h (hX _ _)
  ·exact absurd h (hX _ _)
 ·exact absurd h (hX _ _)
theorem kq (hT : TabOk P T) (IH : ∀ p s F H K Q n, fF P K Q n (ih p s F H) → Go P K Q p s n F H) {X : Rs → Prop} (hX : ∀ n m, ¬ X (.er n m)) {ok : Bool} {c : Option V → Hp → Rs} (h : X (lY T ih F H L ok o c)) : ∃ u H', jM P K o L ok n F H u H' ∧ X (c (some u) H') := by
 unfold lY at h
 split at h
 ·rename_i v hv
  exact ⟨v, H, wh hT hv, h⟩
 ·rw [cj] at h
  split at h
  ·rename_i v ed hv
   split at h
   ·rename_i hc
    rw [Hp.ap_eq] at h
    refine ⟨_, _, oc hT hv hc, ?_⟩
    cases v with
    | none => exact h
    | some v => exact h
   ·exact absurd h (hX _ _)
  ·split at h
   ·rename_i fid args tys hop
    split at h
    ·rename_i vs hvs
     split at h
     ·rename_i v hn
      obtain ⟨he, hnat⟩ := hT.nat _ _ _ hn
      refine ⟨v, H, mT (L' := L) he (by rw [hop]) hvs (fun S w ρ xs hr hi hx => ?_) (.inl rfl), h⟩
      obtain ⟨x, h1, h2⟩ := hnat S w ρ xs hx
      refine h2.mono fun e w' hR => ?_
      obtain ⟨rfl, rfl⟩ := hR
      exact ⟨x, S, ρ, v, H, rfl, ⟨rfl, rfl⟩, hr, hi, Up.refl, h1, jd⟩
     ·split at h
      ·rename_i fn hfn
       obtain ⟨hf, he⟩ := hT.fn _ _ hfn
       split at h
       ·rename_i b hb
        split at h
        ·rename_i hl
         obtain ⟨u, H', L', g1, g2, g3⟩ := xr (K := K) hT IH hX hf hb hl h
         exact ⟨u, H', mT he (by rw [hop]) hvs g2 g1, g3⟩
        ·exact absurd h (hX _ _)
       ·exact absurd h (hX _ _)
      ·exact absurd h (hX _ _)
    ·exact absurd h (hX _ _)
   ·exact absurd h (hX _ _)
theorem wt {l : List Nat} {j : Nat} (h : sw l j = true) : l = [j] := by
 unfold sw at h
 split at h
 ·rw [Nat.eq_of_beq_eq_true h]
 ·cases h
theorem sr (hT : TabOk P T) (IH : ∀ p s F H K Q n, fF P K Q n (ih p s F H) → Go P K Q p s n F H) {i : Nat} {ps : List (Nat × Operand)} {vs : List (Nat × V)} {v : V} (hp : kS T all i vs = some (o, ps, v)) : ∀ (left : Nat) (listed : Array Bool) (F : Fm) (H : Hp), fF P K Q n (qX T ih all L m i o ps v s left listed F H) → GoP P K Q all L m left listed s n F H i o ps vs v
 | left, listed, F, H, h => by
  unfold qX at h
  split at h
  ·rename_i hl
   split at h
   ·rename_i x hrd
    split at h
    ·rename_i hb
     have := Nat.eq_of_beq_eq_true hb
     subst this
     rw [Fm.puto_eq] at h
     exact zd hT hp hrd hl (IH _ _ _ _ _ _ _ h)
    ·exact h.elim
   ·rename_i x y hrd
    cases left with
    | zero => exact h.elim
    | succ left =>
     simp only [cj] at h
     generalize hj : uK x y i = j at h
     unfold uK at hj
     split at h
     ·exact h.elim
     ·rename_i hji
      have hne : j ≠ i := Nat.ne_of_beq_eq_false hji
      split at h
      ·rename_i oj hoj
       split at h
       ·rename_i hc
        simp only [Bool.and_eq_true] at hc
        obtain ⟨⟨⟨hc1, hc2⟩, hc3⟩, hc4⟩ := hc
        split at h
        ·rename_i hw
         obtain ⟨u, H', hx, hk⟩ := kq (K := K) (n := n) hT IH (X := fF P K Q n) (fun _ _ h => h) h
         rw [Fm.puto_eq] at hk
         have ih2 := sr hT IH hp left _ _ _ hk
         have hpair : (match Region.ready .any all listed with | [x, y] => (Nat.beq x i && Nat.beq y j) || (Nat.beq x j && Nat.beq y i) | _ => false) = true := by
          rw [hrd]
          simp only []
          cases hx1 : Nat.beq x i
          ·rw [hx1] at hj
           cases hy1 : Nat.beq y i
           ·rw [hy1] at hj; exact absurd hj.symm hne
           ·rw [hy1] at hj; simp only at hj; subst hj; simp
          ·rw [hx1] at hj; simp only at hj; subst hj; simp
         refine xo hT hp hoj hpair (wt hc1) hl (fun t ht => ?_) hc2 hc3 (Array.setIfInBounds_comm _ _ (Ne.symm hne)) (Post := fun u' H'' => u' = u ∧ H'' = H') (fun S w ρ a hr hi hF K2 hK2 => ?_) (fun u' H'' hP => by obtain ⟨rfl, rfl⟩ := hP; exact ih2)
         ·rw [ht] at hc4
          simp only [Option.isNone_iff_eq_none] at hc4
          exact hc4
         ·unfold wpOp
          simp only [hoj]
          rw [if_pos (bW hF hw)]
          refine .inl (hx S w ρ a hr hi hF _ _ fun x S' w' ρ' hr' hi' hu hA hL hv => hK2 x S' w' ρ' u H' ⟨rfl, rfl⟩ hr' hi' hu hA (hL.imp id fun h => ?_) hv)
          simpa only [Bool.and_eq_true] using h
        ·exact h.elim
       ·exact h.elim
      ·exact h.elim
   ·exact h.elim
  ·exact h.elim
theorem zA (hT : TabOk P T) (IH : ∀ p s F H K Q n, fF P K Q n (ih p s F H) → Go P K Q p s n F H) {i j : Nat} {left : Nat} {listed : Array Bool} (hrd : Region.ready .any all listed = [i, j]) (h : fF P K Q n (xl T ih all L m left i j listed s F H)) : Go P K Q (.drw all L m (left + 1) listed) s n F H := by
 unfold xl at h
 split at h
 ·rename_i oi hoi
  split at h
  ·rename_i oj hoj
   split at h
   ·rename_i hwi
    split at h
    ·rename_i hwj
     obtain ⟨ui, Hi, xi, hk⟩ := kq (K := K) (n := n) hT IH (X := fF P K Q n) (fun _ _ h => h) h
     rw [Fm.puto_eq] at hk
     split at hk
     ·rename_i F1 H1 e1
      obtain ⟨uj, Hj, xj, hk2⟩ := kq (K := K) (n := n) hT IH (X := fF P K Q n) (fun _ _ h => h) hk
      rw [Fm.puto_eq] at hk2
      split at hk2
      ·rename_i F2 H2 e2
       split at hk2
       ·rename_i hal
        have c : Go P K Q (.ex .normal) s n F1 H1 := IH _ _ _ _ _ _ _ hk2
        intro S w ρ a hr hi hF
        have hpin : ∀ id x, K.pin id = some x → id < H.nx := fun id x hx => Decidable.byContradiction fun hn => by
         have h1 := hi.pin id x hx
         have h2 := hr.ob id
         have h3 : H.get id = .free := by
          unfold Hp.get
          have : Nat.blt id H.nx = false := by
           cases hb : Nat.blt id H.nx
           ·rfl
           ·exact absurd (by simpa [Nat.blt_eq] using hb) hn
          simp only [this]
         rw [h3] at h2
         have h4 : ρ id = none := h2
         rw [h4] at h1; cases h1
        have g1 : Go P K (cP P Q s) (.drw all L m left (listed.setIfInBounds i true)) [] n (F.seto oi.dst (some ui)) Hi := IH _ _ _ _ _ _ _ (by rw [e1]; exact fun S w ρ a hr hi hF => c S w ρ a hr hi hF)
        have g2 : Go P K (cP P Q s) (.drw all L m left (listed.setIfInBounds j true)) [] n (F.seto oj.dst (some uj)) Hj := IH _ _ _ _ _ _ _ (by rw [e2]; exact fun S w ρ a hr hi hF => go_alike hal hpin c S w ρ a hr hi hF)
        exact oA (by rw [hrd]; simp) hoi hoj hwi hwj xi xj g1 g2 S w ρ a hr hi hF
       ·exact hk2.elim
      ·exact hk2.elim
      ·exact hk2.elim
     ·exact hk.elim
     ·exact hk.elim
    ·exact h.elim
   ·exact h.elim
  ·exact h.elim
 ·exact h.elim
theorem kJ : ∀ {R : List Nat} {i : Nat} {ps : List (Nat × Operand)} {v : V}, lL T F all R = some (i, o, ps, v) → ∃ vs, hO F ps = some vs ∧ kS T all i vs = some (o, ps, v)
 | [], _, _, _, h => by cases h
 | j :: r, i, ps, v, h => by
  unfold lL at h
  split at h
  ·rename_i hj
   split at h
   ·rename_i vs hvs
    split at h
    ·rename_i o' ps' v' hpb
     simp only [Option.some.injEq, Prod.mk.injEq] at h
     obtain ⟨rfl, rfl, rfl, rfl⟩ := h
     refine ⟨vs, ?_, hpb⟩
     have := hpb
     unfold kS at this
     rw [hj] at this
     simp only at this
     repeat' (split at this)
     all_goals first
      | (cases this; done)
      | (simp only [cj, Option.some.injEq, Prod.mk.injEq] at this; obtain ⟨_, rfl, _⟩ := this; exact hvs)
    ·exact kJ h
   ·exact kJ h
  ·exact kJ h
theorem zr (hT : TabOk P T) (hm : P.follows .mixedOrders = true) (IH : ∀ p s F H K Q n, fF P K Q n (ih p s F H) → Go P K Q p s n F H) : ∀ (p : EP) (s : List EI) (F : Fm) (H : Hp), fF P K Q n (step T ih p s F H) → Go P K Q p s n F H
 | .code c, s, F, H, h => by
  replace h : fF P K Q n (uY T ih c s F H) := h
  unfold uY at h
  split at h
  ·exact wC (IH _ _ _ _ _ _ _ h)
  ·exact rj (IH _ _ _ _ _ _ _ h)
  ·exact tU (IH _ _ _ _ _ _ _ h)
  ·exact go_ret (IH _ _ _ _ _ _ _ h)
  ·exact tu (IH _ _ _ _ _ _ _ h)
  ·exact xt (IH _ _ _ _ _ _ _ h)
  ·exact ye (IH _ _ _ _ _ _ _ h)
  ·exact go_loop 1000000 (IH _ _ _ _ _ _ _ h)
  ·split at h
   ·exact ru ‹_› (IH _ _ _ _ _ _ _ h)
   ·exact sT ‹_› (IH _ _ _ _ _ _ _ h)
   ·exact h.elim
  ·exact go_region (IH _ _ _ _ _ _ _ h)
  ·split at h
   ·rename_i hs
    simp only [bM, cj] at h
    exact tN _ _ _ rfl hm hs (IH _ _ _ _ _ _ _ h)
   ·exact h.elim
  ·exact h.elim
 | .ops all rest, s, F, H, h => by
  replace h : fF P K Q n (rM T ih all rest s F H) := h
  unfold rM at h
  split at h
  ·exact vI (IH _ _ _ _ _ _ _ h)
  ·split at h
   ·rw [Fm.puto_eq] at h
    exact wu ‹_› (IH _ _ _ _ _ _ _ h)
   ·obtain ⟨u, H', hx, hk⟩ := kq (K := K) (n := n) hT IH (X := fF P K Q n) (fun _ _ h => h) h
    rw [Fm.puto_eq] at hk
    exact Al ‹_› hx (IH _ _ _ _ _ _ _ hk)
   ·exact h.elim
 | .ex e, s, F, H, h => by
  replace h : fF P K Q n (uI ih e s F H) := h
  unfold uI at h
  split at h
  ·split at h
   ·exact fun S w ρ a hr hi hF => h S w ρ a hr hi hF
   ·exact fun S w ρ a hr hi hF => h S w ρ a hr hi hF
   ·exact h.elim
  ·split at h
   ·exact tR (IH _ _ _ _ _ _ _ h)
   ·exact sd (IH _ _ _ _ _ _ _ h)
   ·exact rQ (IH _ _ _ _ _ _ _ h)
   ·exact h.elim
  ·split at h
   ·split at h
    ·exact h.elim
    ·exact go_xloop (IH _ _ _ _ _ _ _ h)
   ·exact go_xloopE (IH _ _ _ _ _ _ _ h)
   ·exact go_xloopR (IH _ _ _ _ _ _ _ h)
   ·exact h.elim
  ·split at h
   ·exact yw (IH _ _ _ _ _ _ _ h)
   ·exact xM (IH _ _ _ _ _ _ _ h)
   ·exact xN (IH _ _ _ _ _ _ _ h)
   ·exact h.elim
  ·split at h
   ·exact rH (IH _ _ _ _ _ _ _ h)
   ·split at h
    ·exact rk ‹_› (IH _ _ _ _ _ _ _ h)
    ·exact rP ‹_› (IH _ _ _ _ _ _ _ h)
   ·exact rJ (IH _ _ _ _ _ _ _ h)
   ·exact h.elim
 | .drw all L m left listed, s, F, H, h => by
  replace h : fF P K Q n (uT T ih all L m left listed s F H) := h
  unfold uT at h
  split at h
  ·exact sj ‹_› (IH _ _ _ _ _ _ _ h)
  ·rename_i i R hrd
   cases left with
   | zero => exact h.elim
   | succ left =>
    simp only [] at h
    split at h
    ·split at h
     ·rename_i o ho
      split at h
      ·rw [Fm.puto_eq] at h
       exact go_d1S hrd ho ‹_› (IH _ _ _ _ _ _ _ h)
      ·obtain ⟨u, H', hx, hk⟩ := kq (K := K) (n := n) hT IH (X := fF P K Q n) (fun _ _ h => h) h
       rw [Fm.puto_eq] at hk
       exact zP hrd ho ‹_› hx (IH _ _ _ _ _ _ _ hk)
      ·exact h.elim
     ·exact h.elim
    ·split at h
     ·split at h
      ·rename_i o ho
       split at h
       ·rename_i hc
        simp only [Bool.and_eq_true, Bool.not_eq_true'] at hc
        obtain ⟨⟨hc1, hc2⟩, hc3⟩ := hc
        split at h
        ·rw [Fm.puto_eq] at h
         exact ug hc3 ho hc2 hc1 ‹_› (IH _ _ _ _ _ _ _ h)
        ·rename_i hw
         split at h
         ·rename_i v hv
          rw [Fm.puto_eq] at h
          exact yA hT hc3 ho hc2 hc1 hw hv (IH _ _ _ _ _ _ _ h)
         ·split at h
          ·rename_i id hid
           split at h
           ·rename_i hL
            simp only [Bool.and_eq_true, Bool.not_eq_true'] at hL
            obtain ⟨⟨hL1, hL2⟩, hL3⟩ := hL
            split at h
            ·rename_i v ed hv
             rw [Fm.puto_eq] at h
             exact yI hT hc3 hL2 hL3 ho hc2 hc1 hw hid hL1 hv (IH _ _ _ _ _ _ _ h)
            ·exact h.elim
           ·exact h.elim
          ·exact h.elim
        ·exact h.elim
       ·exact h.elim
      ·exact h.elim
     ·split at h
      ·rename_i i' o ps v hpo
       rw [Fm.puto_eq] at h
       obtain ⟨vs, g1, g2⟩ := kJ hpo
       exact vQ g1 (sr hT IH g2 left listed _ _ h)
      ·split at h
       ·exact zA hT IH hrd h
       ·exact h.elim
theorem wK (hT : TabOk P T) (hm : P.follows .mixedOrders = true) : ∀ (k : Nat) (p : EP) (s : List EI) (F : Fm) (H : Hp) (K : Ctx) (Q : Exit → Act → World → Prop) (n : Nat), fF P K Q n (run T k p s F H) → Go P K Q p s n F H
 | 0, p, s, F, H, K, Q, n, h => h
 | k + 1, p, s, F, H, K, Q, n, h => zr hT hm (fun p s F H K Q n h => wK hT hm k p s F H K Q n h) p s F H h
def xY (T : Tab) (k : Nat) (fid : FuncId) (vs : List V) (H : Hp) : Option (List V × Hp) := match T.fn fid with
 |some fn => match fn.body with
  |some b => match Nat.ble vs.length fn.ntmps with
   |true => match run T k (.code b) [] (il fn.ntmps vs) H with
    |.ok _ F1 H1 => match mb T H1.get F1 fn.results.toList with
     | some rs => some (rs, H1)
     | none => none
    | _ => none
   | false => none
  | none => none
 | none => none
theorem zi (hT : TabOk P T) (hm : P.follows .mixedOrders = true) {k : Nat} {fid : FuncId} {vs rs : List V} {H H1 : Hp} (h : xY T k fid vs H = some (rs, H1)) {S : Nat → Prop} {w : World} {ρ : Nat → Option Value} {xs : List Value} (hr : HRel S w ρ H.get) (hx : LRel S w ρ vs xs) : bP P fid = true ∧
  Calls P fid xs.toArray w fun e w' => ∃ S' ρ' ys, e = .returned (iS ys) ∧ HRel S' w' ρ' H1.get ∧ Inv ⟨w, S, fun b => ∃ id, own ρ id (H.get id) b, ρ⟩ S' w' ρ' H1.get ∧ LRel S' w' ρ' rs ys := by
 unfold xY at h
 split at h
 ·rename_i fn hfn
  obtain ⟨hf, he⟩ := hT.fn _ _ hfn
  split at h
  ·rename_i b hb
   split at h
   ·rename_i hl
    split at h
    ·rename_i e F1 H1' hrun
     split at h
     ·rename_i rs' hres
      simp only [Option.some.injEq, Prod.mk.injEq] at h
      obtain ⟨rfl, rfl⟩ := h
      refine ⟨he, ?_⟩
      have hi1 : Inv ⟨w, S, fun b => ∃ id, own ρ id (H.get id) b, ρ⟩ S w ρ H.get := ⟨ChgP.refl _ _, fun _ h => h, fun _ h => .inl h, fun id b hb => .inl ⟨id, hb⟩, fun _ _ h => h⟩
      refine oG hf hb hl hr hi1 hx (wK hT hm k _ _ _ _ _ _ _ ?_)
      rw [hrun]
      intro S' w' ρ' a' hr' hi' hF'
      obtain ⟨rl, hrl⟩ : ∃ l : List ResultVar, fn.results = l.toArray := ⟨fn.results.toList, by simp⟩
      rw [hrl] at hres
      refine ret_go hT (rs := rl) (by cases e <;> simp) hrl hr' hF' (by simpa using hres) fun x hvx => ?_
      have hLR := tO hvx
      obtain ⟨ys, hys, rfl⟩ := hLR
      exact ⟨S', ρ', ys, rfl, hr', hi', hys⟩
     ·cases h
    ·cases h
   ·cases h
  ·cases h
 ·cases h
end
end Go.Proofs.Ytpnpdlnpikkeaaa
namespace Go.Proofs.Ytpnpdlnpikkeaaa
open Go.RowKit
set_option maxRecDepth 100000
set_option maxHeartbeats 1000000 in
theorem zC (s : ByteArray) (c : Int) (w : World) : Calls Try.prog 79 #[.string s, .int .u8 c] w fun e w' => e = .returned (.int .i64 (Lib.indexByte s.data.toList c.toNat.toUInt8)) ∧ w = w' := by
 go_enter Try.func79, Try.ntmps79
 go_wp2
 rw [run_callFunc_extern Try.func86 (by kernel_rfl) (by kernel_rfl) (by kernel_rfl) (e := Extern.BytealgIndexByte.indexByte) (by kernel_rfl), Lib.run_indexByteString]
 simp only [Result.andThen]
 rw [Oper.upon_value]
 go_wp2
 go_ret
 exact ⟨rfl, rfl⟩
theorem vw (s : ByteArray) (c : Int) (w : World) : Calls Try.prog 53 #[.string s, .int .u8 c] w fun e w' => e = .returned (.int .i64 (Lib.indexByte s.data.toList c.toNat.toUInt8)) ∧ w = w' := by
 go_enter Try.func53, Try.ntmps53
 go_wp2_with (go_at_call 79; refine qmm (zC _ _ _) ?_)
 go_ret
 exact ⟨rfl, rfl⟩
end Go.Proofs.Ytpnpdlnpikkeaaa
namespace Go.Proofs.Ytpnpdlnpikkeaaa
open Go.RowKit Lx Sx
set_option maxRecDepth 100000
def nn : List (List UInt8) → List V → Bool
 | [], [] => true
 | s :: r, .str l :: q => lEq s l && nn r q
 | _, _ => false
def oX (ls : List (List UInt8)) : V → Bool
 | .nils => ls.isEmpty
 | .row sz els => Nat.beq sz 1 && nn ls els
 | _ => false
mutual
def treeB : Tree → V → Bool
 |.node k s ls ks, v => match v with
  |.agg [.int .i64 k', .str s', l, r] => iEq k k' && lEq s s' && oX ls l && (match r with
   | .nils => ks.isEmpty
   | .row sz els => Nat.beq sz 4 && kidsB ks els
   | _ => false)
  | _ => false
def kidsB : List Tree → List V → Bool
 |[], vs => match vs with
  | [] => true
  | _ => false
 |t :: r, vs => match vs with
  | v :: q => treeB t v && kidsB r q
  | [] => false
end
section
variable {S : Nat → Prop} {w : World}
theorem ry {ρ : Nat → Option Value} : ∀ {ls : List (List UInt8)} {els : List V} {xs : List Value}, nn ls els = true → CRel S w ρ 1 els xs → els.length = ls.length ∧ xs = ls.map aF
 | [], [], xs, _, hc => by simp only [CRel] at hc; subst hc; exact ⟨rfl, rfl⟩
 | s :: r, v :: q, xs, hb, hc => by
  cases v <;> simp only [nn] at hb <;> first | (cases hb; done) | skip
  rename_i l
  simp only [Bool.and_eq_true] at hb
  have hl := hb.1
  rw [jv] at hl
  simp only [beq_iff_eq] at hl
  subst hl
  simp only [CRel] at hc
  obtain ⟨x, ys, rfl, _, h3, h4⟩ := hc
  simp only [VRel] at h3
  subst h3
  obtain ⟨h5, h6⟩ := ry hb.2 h4
  exact ⟨by simp [h5], by simp [h6, Value.cells]⟩
 | [], _ :: _, _, hb, _ => by cases hb
 | _ :: _, [], _, hb, _ => by cases hb
theorem wH {ρ : Nat → Option Value} {ls : List (List UInt8)} {v : V} {x : Value} (hb : oX ls v = true) (hx : VRel S w ρ v x) : ∃ A m, x = .slice A ls.length m ∧ ls.length ≤ m ∧ m ≤ maxLen ∧ RowIn S w 1 A ls.length (ls.map aF) := by
 cases v <;> simp only [oX] at hb <;> first | (cases hb; done) | skip
 ·simp only [List.isEmpty_iff] at hb
  subst hb
  simp only [VRel] at hx; subst hx
  exact ⟨none, 0, rfl, Nat.le_refl _, by decide, RowIn.none_⟩
 ·rename_i sz els
  simp only [Bool.and_eq_true, Nat.beq_eq] at hb
  obtain ⟨rfl, hb⟩ := hb
  simp only [VRel] at hx
  obtain ⟨A, c, xs, rfl, h3, h4, h5, h6⟩ := hx
  obtain ⟨h7, rfl⟩ := ry hb h5
  rw [h7] at h3 h6 ⊢
  exact ⟨A, c, rfl, h3, h4, h6⟩
mutual
theorem treeB_ok {ρ : Nat → Option Value} : ∀ {t : Tree} {v : V} {x : Value}, treeB t v = true → VRel S w ρ v x → ∃ c, x = .agg c.toArray ∧ TreeIs S w t c
 | .node k s ls ks, v, x, hb, hx => by
  unfold treeB at hb
  split at hb
  ·rename_i k' s' l r
   simp only [Bool.and_eq_true] at hb
   obtain ⟨⟨⟨hb1, hb2⟩, hb3⟩, hb4⟩ := hb
   rw [lN] at hb1
   rw [jv] at hb2
   simp only [beq_iff_eq] at hb1 hb2
   subst hb1 hb2
   simp only [VRel] at hx
   obtain ⟨xs, rfl, hl⟩ := hx
   simp only [LRel] at hl
   obtain ⟨x0, _, rfl, h0, x1, _, rfl, h1, x2, _, rfl, h2, x3, _, rfl, h3, rfl⟩ := hl
   simp only [VRel] at h0 h1
   subst h0 h1
   obtain ⟨A, m, rfl, g1, g2, g3⟩ := wH hb3 h2
   have kk : ∃ B n, x3 = .slice B ks.length n ∧ ks.length ≤ n ∧ n ≤ maxLen ∧ ∃ cs, KidsAre S w ks cs ∧ RowIn S w 4 B ks.length cs := by
    split at hb4
    ·simp only [List.isEmpty_iff] at hb4
     subst hb4
     simp only [VRel] at h3; subst h3
     exact ⟨none, 0, rfl, Nat.le_refl _, by decide, [], by simp only [KidsAre], RowIn.none_⟩
    ·rename_i sz els
     simp only [Bool.and_eq_true, Nat.beq_eq] at hb4
     obtain ⟨rfl, hb4⟩ := hb4
     simp only [VRel] at h3
     obtain ⟨B, c, ys, rfl, q3, q4, q5, q6⟩ := h3
     obtain ⟨q7, q8⟩ := kidsB_ok hb4 q5
     rw [q7] at q3 q6 ⊢
     exact ⟨B, c, rfl, q3, q4, ys, q8, q6⟩
    ·cases hb4
   obtain ⟨B, n, rfl, k1, k2, cs, k3, k4⟩ := kk
   exact ⟨_, rfl, zM g1 g2 k1 k2 g3 k3 k4⟩
  ·cases hb
theorem kidsB_ok {ρ : Nat → Option Value} : ∀ {ts : List Tree} {vs : List V} {xs : List Value}, kidsB ts vs = true → CRel S w ρ 4 vs xs → vs.length = ts.length ∧ KidsAre S w ts xs
 | [], vs, xs, hb, hc => by
  unfold kidsB at hb
  split at hb
  ·simp only [CRel] at hc; subst hc; exact ⟨rfl, by simp only [KidsAre]⟩
  ·cases hb
 | t :: r, vs, xs, hb, hc => by
  unfold kidsB at hb
  split at hb
  ·rename_i v q
   simp only [Bool.and_eq_true] at hb
   simp only [CRel] at hc
   obtain ⟨x, ys, rfl, _, h3, h4⟩ := hc
   obtain ⟨c, rfl, hT⟩ := treeB_ok hb.1 h3
   obtain ⟨h5, h6⟩ := kidsB_ok hb.2 h4
   exact ⟨by simp [h5], by simp only [KidsAre]; exact ⟨c, ys, by simp [Value.cells], hT, h6⟩⟩
  ·cases hb
end
end
def sO (T : Tab) (k : Nat) (fid : FuncId) (vs : List V) : Option (List V) := match xY T k fid vs ⟨0, []⟩ with
 | some (rs, H1) => sQ 0 H1 rs fun rs' _ => some rs'
 | none => none
theorem lq (i : Nat) : (⟨0, []⟩ : Hp).get i = .free := by
 unfold Hp.get
 have : Nat.blt i 0 = false := by cases i <;> rfl
 simp only [this]
theorem yC (w : World) : HRel (fun _ => False) w (fun _ => none) (⟨0, []⟩ : Hp).get :=
 ⟨fun i => by rw [lq]; rfl, fun i b hb => by rw [lq] at hb; exact hb.elim, fun i j b hb _ => by rw [lq] at hb; exact hb.elim, fun _ h => h.elim⟩
theorem yT {P : Program} {T : Tab} (hT : TabOk P T) (hm : P.follows .mixedOrders = true) {k : Nat} {fid : FuncId} {vs rs : List V} (h : sO T k fid vs = some rs) {w : World} {xs : List Value} (hx : LRel (fun _ => False) w (fun _ => none) vs xs) :
  Calls P fid xs.toArray w fun e w' => ∃ S' ρ' ys, e = .returned (iS ys) ∧ (∀ b, S' b → w.heap.size ≤ b) ∧ Chg [] w w' ∧ LRel S' w' ρ' rs ys := by
 unfold sO at h
 split at h
 ·rename_i rs1 H1 hrun
  obtain ⟨rs2, H2, e1, _, e3⟩ := pR 0 rs1 H1
  rw [e1] at h
  injection h with h; subst h
  have hr0 := yC w
  refine (zi hT hm hrun hr0 hx).2.mono fun e w' hR => ?_
  obtain ⟨S', ρ', ys, rfl, hr, hi, hl⟩ := hR
  obtain ⟨S2, a1, a2, a3, a4⟩ := e3 _ S' w' ρ' ys hr hi hl
  have hno : ∀ b, ¬ ∃ id, own (fun _ => none) id ((⟨0, []⟩ : Hp).get id) b := fun b ⟨id, hb⟩ => by rw [lq] at hb; exact hb
  refine ⟨S2, ρ', ys, rfl, fun b hb => ?_, ⟨hi.chg.os, hi.chg.tape, hi.chg.output, hi.chg.size, fun b hb _ => hi.chg.block b hb (hno b)⟩, a4⟩
  rcases a2.s1 b hb with h | h | h
  ·exact h.elim
  ·exact absurd h (hno b)
  ·exact h
 ·cases h
def xU (fid : FuncId) (vs : List V) : Option V := match Nat.beq fid 53 with
 |true => match vs with
  | [.str s, .int .u8 (.ofNat c)] => uO (Lib.indexByte s c.toUInt8) fun n => some (.int .i64 n)
  | _ => none
 | false => none
noncomputable def uR : Tab := ⟨true, jq tyL, jq fnL, xU, fun f => Nat.beq f 16⟩
theorem zE : TabOk Try.prog uR := by
 refine ⟨vL, AX, fun i vs v hv => ?_⟩
 replace hv : xU i vs = some v := hv
 unfold xU at hv
 split at hv
 ·rename_i hb
  have := Nat.eq_of_beq_eq_true hb
  subst this
  split at hv
  ·rename_i s c
   rw [tE] at hv
   injection hv with hv; subst hv
   refine ⟨by kernel_rfl, fun S w ρ xs hx => ?_⟩
   simp only [LRel] at hx
   obtain ⟨x0, _, rfl, h0, x1, _, rfl, h1, rfl⟩ := hx
   simp only [VRel] at h0 h1
   subst h0 h1
   exact ⟨_, by simp only [VRel]; rfl, vw _ _ _⟩
  ·cases hv
 ·cases hv
def nk (t : Tree) : Option (List V) → Bool
 | some [v, .int .i64 a, .int .i64 e] => treeB t v && iEq a 0 && iEq e 0
 | _ => false
theorem wa {k : Nat} {l : List UInt8} {t : Tree} (h : nk t (sO uR k 9 [.str l]) = true) {w : World} : Calls Try.prog 9 [aF l].toArray w fun e w' => ∃ c0 c1 c2 c3, e = .returned (.tuple #[.agg #[c0, c1, c2, c3], .int .i64 0, .int .i64 0]) ∧ TreeIs (fun b => w.heap.size ≤ b) w' t [c0, c1, c2, c3] ∧ Chg [] w w' := by
 unfold nk at h
 split at h
 ·rename_i v a e hr
  simp only [Bool.and_eq_true, lN, beq_iff_eq] at h
  obtain ⟨⟨h1, rfl⟩, rfl⟩ := h
  refine (yT zE (by kernel_rfl) hr (xs := [aF l]) ⟨_, [], rfl, by simp only [VRel], rfl⟩).mono fun e w' hR => ?_
  obtain ⟨S', ρ', ys, rfl, g1, g2, g3⟩ := hR
  simp only [LRel] at g3
  obtain ⟨x0, _, rfl, h0, x1, _, rfl, h2, x2, _, rfl, h3, rfl⟩ := g3
  simp only [VRel] at h2 h3
  subst h2 h3
  obtain ⟨c, rfl, hT⟩ := treeB_ok h1 h0
  have h4 := hT.four
  match c, h4, hT with
  | [c0, c1, c2, c3], _, hT => exact ⟨c0, c1, c2, c3, rfl, hT.keep g1 (fun _ _ _ => rfl), g2⟩
 ·cases h
end Go.Proofs.Ytpnpdlnpikkeaaa
namespace Go.Proofs.Ytpnpdlnpikkeaaa
open Go.RowKit Lx Sx
set_option maxRecDepth 100000
set_option maxHeartbeats 1000000
theorem pX (a : List UInt8) (f : Bool) (ha : a.length ≤ 140737488351232) : jU a f (aL false a f) := sum0_calls rfl rfl fun S w ρ xs hx => by
 simp only [LRel] at hx
 obtain ⟨x, ys, rfl, h1, y, zs, rfl, h2, rfl⟩ := hx
 simp only [VRel] at h1 h2; subst h1 h2
 exact (yZ a f w (by omega)).mono fun e w' ⟨h1, h2⟩ => ⟨_, h1, by simp only [VRel], h2 ▸ Chg.refl _ _⟩
theorem lj (k n : Int) : bm k n = cO k n := by
 unfold bm cO f0
 repeat' split
 all_goals first | rfl | omega
theorem vB (k : Int) (x : List UInt8) : jR k x = jG k x := by
 have c : ∀ n : Nat, ((aB x : Int) == (n : Int)) = (aB x == n) := fun n => by
  rw [Bool.eq_iff_iff]; simp only [beq_iff_eq]; omega
 have c1 : ((aB x : Int) == 1) = (aB x == 1) := c 1
 have c2 : ((aB x : Int) == 2) = (aB x == 2) := c 2
 have c3 : ((aB x : Int) == 3) = (aB x == 3) := c 3
 have c4 : ((aB x : Int) == 4) = (aB x == 4) := c 4
 have c5 : ((aB x : Int) == 5) = (aB x == 5) := c 5
 have c6 : ((aB x : Int) == 6) = (aB x == 6) := c 6
 unfold jR jG ra nj
 simp only [c1, c2, c3, c4, c5, c6]
theorem xZ (k : Int) (n i : Nat) (kk : Int) : lQ k n i kk = jN k n i kk := by
 have e1 : jQ kk = gp kk := by simp only [jQ, gp, jP, Bool.and_assoc, Bool.decide_and]
 have e2 : lS kk = jm kk := by simp only [lS, jm, Bool.decide_and]
 have e3 : nt kk = mv kk := by simp only [nt, mv, e1, jP, Bool.and_assoc, Bool.decide_and]
 unfold lQ jN
 rw [e1, e2, e3]
mutual
theorem shapedT_K : ∀ t : Tree, shapedT t = shapeK t
 | .node k s ls ks => by simp only [shapedT, shapeK, lj, vB, kidsT_K k ks.length ks 0]
theorem kidsT_K (k : Int) (n : Nat) : ∀ (l : List Tree) (i : Nat), kidsT k n l i = shapeKs k n i l
 | [], i => by simp only [kidsT, shapeKs]
 | t :: r, i => by simp only [kidsT, shapeKs, xZ, shapedT_K t, kidsT_K k n r (i + 1)]
end
theorem wO : ∀ t : Tree, tbulk t ≤ 40000000 → shapeK t = true → fN t (leadedT t) := fh fun t ih ht hs => by
 have hk := fx t
 have hl := mN t
 have hbt := bx t
 have kids : ∀ k i, t.kids.length - i ≤ k → ∃ M, dQ M t i (leadedsT (t.kids.drop i)) := fun k => by
  have last : ∀ i, ¬ i < t.kids.length → ∃ M, dQ M t i (leadedsT (t.kids.drop i)) := fun i hi => by
   rw [List.drop_of_length_le (by omega)]
   exact ⟨1, jF 0 _ _ _ ⟨fun h => absurd h hi, fun _ => rfl⟩⟩
  induction k with
  | zero => intro i hi; exact last i (by omega)
  | succ k ihk =>
   intro i hi
   obtain ⟨u, hu, hul⟩ | h' := aX t.kids i
   ·have := ej hu
    have hb := ih i u hu (by omega) (kW hs hu).1
    obtain ⟨M, hM⟩ := ihk (i + 1) (by omega)
    rw [bv hu, leadedsT]
    refine ⟨M + 1, jF M _ _ _ ⟨fun _ => ⟨u, hu, _, hb, fun e => ?_, fun e => ?_⟩, fun h => absurd hul h⟩⟩
    ·rw [e]; rfl
    ·rw [e]; exact ⟨by omega, hM⟩
   ·exact last i h'
 obtain ⟨M0, h0⟩ := kids t.kids.length 0 (by omega)
 rw [List.drop_zero] at h0
 have lead : ∀ k i, t.leads.length - i ≤ k → ∃ M, dg M t i (cI t.kind (t.leads.drop i) i && leadedsT t.kids) := fun k => by
  have last : ∀ i, ¬ i < t.leads.length → ∃ M, dg M t i (cI t.kind (t.leads.drop i) i && leadedsT t.kids) := fun i hi => by
   rw [List.drop_of_length_le (by omega)]
   exact ⟨_, gN _ _ _ _ ⟨fun h => absurd h hi, fun _ => h0⟩⟩
  induction k with
  | zero => intro i hi; exact last i (by omega)
  | succ k ihk =>
   intro i hi
   obtain ⟨s, hs, hsl⟩ | h' := aX t.leads i
   ·have hsl2 := mr hs
    obtain ⟨M, hM⟩ := ihk (i + 1) (by omega)
    rw [bv hs, cI]
    by_cases h1 : t.kind = 1
    ·have ht1 := pX s (((i : Nat) : Int) == 2) (by omega)
     have e1 : (t.kind == 1 && (i : Int) == 2) = ((i : Int) == 2) := by simp [h1]
     rw [e1]
     refine ⟨M + 1, gN M _ _ _ ⟨fun _ => ⟨s, hs, fun _ => ⟨_, ht1, fun e => ?_, fun e => ?_⟩, fun h => absurd h1 h⟩, fun h => absurd hsl h⟩⟩
     ·rw [e]; rfl
     ·rw [e]; exact ⟨by omega, hM⟩
    ·have ht1 := pX s false (by omega)
     have e1 : (t.kind == 1 && (i : Int) == 2) = false := by simp [h1]
     rw [e1]
     refine ⟨M + 1, gN M _ _ _ ⟨fun _ => ⟨s, hs, fun h => absurd h h1, fun _ => ⟨_, ht1, fun e => ?_, fun e => ?_⟩⟩, fun h => absurd hsl h⟩⟩
     ·rw [e]; rfl
     ·rw [e]; exact ⟨by omega, hM⟩
   ·exact last i h'
 have e : leadedT t = (decide ((t.leads.length : Int) = bm t.kind t.kids.length) && (cI t.kind t.leads 0 && leadedsT t.kids)) := by cases t; simp only [leadedT, Bool.and_assoc]; rfl
 rw [lj] at e
 by_cases h : ((t.leads.length : Nat) : Int) = cO t.kind t.kids.length
 ·obtain ⟨M, hM⟩ := lead t.leads.length 0 (by omega)
  rw [List.drop_zero] at hM
  refine jS M _ _ ⟨_, nm (by omega) (by omega), fun h' => absurd h h', fun _ => ?_⟩
  rw [e, decide_eq_true h]; exact hM
 ·refine jS 0 _ _ ⟨_, nm (by omega) (by omega), fun _ => ?_, fun h' => absurd h' h⟩
  rw [e, decide_eq_false h]; rfl
theorem wJ : ∀ t : Tree, tbulk t ≤ 40000000 → shapeK t = true → dX t (leadedT t) := fh fun t ih ht hs => by
 have hk := fx t
 have hl := mN t
 have hbt := bx t
 have kids : ∀ k i, t.kids.length - i ≤ k → ∃ M, cU M t i (leadedsT (t.kids.drop i)) := fun k => by
  have last : ∀ i, ¬ i < t.kids.length → ∃ M, cU M t i (leadedsT (t.kids.drop i)) := fun i hi => by
   rw [List.drop_of_length_le (by omega)]
   exact ⟨1, iy 0 _ _ _ ⟨fun h => absurd h hi, fun _ => rfl⟩⟩
  induction k with
  | zero => intro i hi; exact last i (by omega)
  | succ k ihk =>
   intro i hi
   obtain ⟨u, hu, hul⟩ | h' := aX t.kids i
   ·have := ej hu
    have hb := ih i u hu (by omega) (kW hs hu).1
    obtain ⟨M, hM⟩ := ihk (i + 1) (by omega)
    rw [bv hu, leadedsT]
    refine ⟨M + 1, iy M _ _ _ ⟨fun _ => ⟨u, hu, _, hb, fun e => ?_, fun e => ?_⟩, fun h => absurd hul h⟩⟩
    ·rw [e]; rfl
    ·rw [e]; exact hM
   ·exact last i h'
 obtain ⟨M0, h0⟩ := kids t.kids.length 0 (by omega)
 rw [List.drop_zero] at h0
 have lead : ∀ k i, t.leads.length - i ≤ k → ∃ M, cb M t i (cI t.kind (t.leads.drop i) i && leadedsT t.kids) := fun k => by
  have last : ∀ i, ¬ i < t.leads.length → ∃ M, cb M t i (cI t.kind (t.leads.drop i) i && leadedsT t.kids) := fun i hi => by
   rw [List.drop_of_length_le (by omega)]
   exact ⟨_, fc _ _ _ _ ⟨fun h => absurd h hi, fun _ => h0⟩⟩
  induction k with
  | zero => intro i hi; exact last i (by omega)
  | succ k ihk =>
   intro i hi
   obtain ⟨s, hs, hsl⟩ | h' := aX t.leads i
   ·have hsl2 := mr hs
    obtain ⟨M, hM⟩ := ihk (i + 1) (by omega)
    rw [bv hs, cI]
    by_cases h1 : t.kind = 1
    ·have ht1 := qj s (((i : Nat) : Int) == 2) (by omega)
     have e1 : (t.kind == 1 && (i : Int) == 2) = ((i : Int) == 2) := by simp [h1]
     rw [e1]
     refine ⟨M + 1, fc M _ _ _ ⟨fun _ => ⟨s, hs, fun _ => ⟨_, ht1, fun e => ?_, fun e => ?_⟩, fun h => absurd h1 h⟩, fun h => absurd hsl h⟩⟩
     ·rw [e]; rfl
     ·rw [e]; exact hM
    ·have ht1 := qj s false (by omega)
     have e1 : (t.kind == 1 && (i : Int) == 2) = false := by simp [h1]
     rw [e1]
     refine ⟨M + 1, fc M _ _ _ ⟨fun _ => ⟨s, hs, fun h => absurd h h1, fun _ => ⟨_, ht1, fun e => ?_, fun e => ?_⟩⟩, fun h => absurd hsl h⟩⟩
     ·rw [e]; rfl
     ·rw [e]; exact hM
   ·exact last i h'
 have e : leadedT t = (decide ((t.leads.length : Int) = bm t.kind t.kids.length) && (cI t.kind t.leads 0 && leadedsT t.kids)) := by cases t; simp only [leadedT, Bool.and_assoc]; rfl
 rw [lj] at e
 by_cases h : ((t.leads.length : Nat) : Int) = cO t.kind t.kids.length
 ·obtain ⟨M, hM⟩ := lead t.leads.length 0 (by omega)
  rw [List.drop_zero] at hM
  refine iD M _ _ ⟨_, oh (by omega) (by omega), fun h' => absurd h h', fun _ => ?_⟩
  rw [e, decide_eq_true h]; exact hM
 ·refine iD 0 _ _ ⟨_, oh (by omega) (by omega), fun _ => ?_, fun h' => absurd h' h⟩
  rw [e, decide_eq_false h]; rfl
theorem qP (t : Tree) (ht : tbulk t ≤ 40000000) : ee t (shapeK t && leadedT t) := by
 refine kh 0 _ _ ⟨_, wP t (by omega), fun h => ?_, fun h => ?_⟩
 ·exact ⟨_, wJ t ht h, by rw [h]; rfl⟩
 ·rw [h]; rfl
theorem oM : ∀ ls : List (List UInt8), nn ls (ls.map V.str) = true
 | [] => rfl
 | s :: r => by
  show (lEq s s && nn r (r.map V.str)) = true
  rw [oM r, jv]; simp
mutual
theorem treeB_self : ∀ t : Tree, treeB t (treeV t) = true
 | .node k s ls ks => by
  rw [gl]
  unfold treeB
  simp only [lZ, av, Tree.kind, Tree.text, Tree.leads, Tree.kids, oX, oM, kidsB_self ks, lN, jv, Nat.beq_eq_true_eq, Bool.and_true, beq_self_eq_true, Nat.beq_refl]
theorem kidsB_self : ∀ ks : List Tree, kidsB ks (kidsV ks) = true
 | [] => rfl
 | t :: r => by simp only [kidsV, kidsB, treeB_self t, kidsB_self r, Bool.and_true]
end
theorem uX {S : Nat → Prop} {w : World} {t : Tree} {c : List Value} (h : TreeIs S w t c) : ∃ c0 c1 c2 c3, c = [c0, c1, c2, c3] := by
 cases t
 simp only [TreeIs] at h
 obtain ⟨a, b, w, n, rfl, _⟩ := h
 exact ⟨_, _, _, _, rfl⟩
theorem AA (t : Tree) (ht : tbulk t ≤ 1000000000) (hs : shapedT t = true) (hl : leadedT t = true) : mA t (fM t) := sum0_calls rfl rfl fun S w ρ xs hx => by
 simp only [LRel] at hx
 obtain ⟨x, ys, rfl, h1, rfl⟩ := hx
 have hb := treeB_self t
 rw [gl] at hb
 obtain ⟨c, rfl, hT⟩ := treeB_ok hb h1
 obtain ⟨c0, c1, c2, c3, rfl⟩ := uX hT
 exact (Bg hs hl ht hT).mono fun e w' ⟨h1, h2⟩ => ⟨_, h1, by simp only [VRel], h2⟩
theorem rW (t : Tree) (ht : tbulk t ≤ 40000000) : gr t (if shapeK t && leadedT t then fM t else []) := by
 refine pb 0 _ _ ⟨_, oE t (by omega), fun h => by rw [h]; rfl, fun h => ⟨_, wO t ht h, fun h2 => by rw [h, h2]; rfl, fun h2 => ⟨_, AA t (by omega) (by rw [shapedT_K]; exact h) h2, by rw [h, h2]; rfl⟩⟩⟩
theorem oC : ∀ (l : List UInt8) (m : Nat) (acc : List UInt8), (aC m acc l).length ≤ l.length + 1
 | [], m, acc => by simp only [aC]; split <;> simp
 | c :: r, m, acc => by
  have h := fun m acc => oC r m acc
  simp only [aC]
  repeat' split
  all_goals simp only [List.length_cons]
  all_goals first | exact Nat.le_succ_of_le (h _ _) | exact Nat.succ_le_succ (h _ _)
theorem gm {l : List UInt8} {i : Nat} (h : ¬ i < l.length) : l.drop i = [] := List.drop_of_length_le (by omega)
theorem qz {l : List UInt8} {a i : Nat} {c : UInt8} (hc : l[i]? = some c) (h : a ≤ i) : (l.drop a).take (i - a) ++ [c] = (l.drop a).take (i + 1 - a) := by
 rw [show i + 1 - a = (i - a) + 1 by omega, List.take_add_one, List.getElem?_drop, show a + (i - a) = i by omega, hc]; rfl
theorem pu (c : UInt8) : ((c.toNat : Int) = 34) = (c.toNat = 34) := by simp; omega
theorem qZ (c : UInt8) : ((c.toNat : Int) = 35) = (c.toNat = 35) := by simp; omega
theorem qY (c : UInt8) : ((c.toNat : Int) = 10) = (c.toNat = 10) := by simp; omega
theorem qt (s : List UInt8) (hs : s.length ≤ 9000000000) : ∀ (k i : Nat) (l : List (List UInt8)), s.length + 2 - i ≤ k → ((l ++ aC 0 [] (s.drop i)).length ≤ 1000000000 → ∃ M, bn M s i l (l ++ aC 0 [] (s.drop i))) ∧ (i ≤ s.length → (l ++ aC 1 [] (s.drop i)).length ≤ 1000000000 → ∃ M, ei M s i l (l ++ aC 1 [] (s.drop i))) ∧ (∀ a, a ≤ i → i ≤ s.length → (l ++ aC 2 ((s.drop a).take (i - a)) (s.drop i)).length ≤ 1000000000 → ∃ M, di M s i l a (l ++ aC 2 ((s.drop a).take (i - a)) (s.drop i))) := fun k => by
 induction k with
 | zero =>
  intro i l hk
  have hd := gm (l := s) (i := i) (by omega)
  have z : ∃ M, bn M s i l (l ++ aC 0 [] (s.drop i)) := ⟨1, dd 0 _ _ _ _ ⟨fun h => by omega, fun _ => by rw [hd]; simp [aC]⟩⟩
  exact ⟨fun _ => z, fun h => by omega, fun a ha h => by omega⟩
 | succ k ih =>
  intro i l hk
  have e2 : ∀ a, a ≤ i → i ≤ s.length → (l ++ aC 2 ((s.drop a).take (i - a)) (s.drop i)).length ≤ 1000000000 → ∃ M, di M s i l a (l ++ aC 2 ((s.drop a).take (i - a)) (s.drop i)) := fun a ha hi hB => by
   have app : ∀ acc : List UInt8, (l ++ acc :: aC 0 [] (s.drop (i + 1))).length ≤ 1000000000 → ∃ M, bn M s (i + 1) (l ++ [acc]) (l ++ acc :: aC 0 [] (s.drop (i + 1))) := fun acc hB => by
    obtain ⟨M, hM⟩ := (ih (i + 1) (l ++ [acc]) (by omega)).1 (by simpa using hB)
    exact ⟨M, by simpa using hM⟩
   obtain ⟨c, hc, hlt⟩ | hge := aX s i
   ·rw [bv hc] at hB ⊢
    by_cases h10 : c.toNat = 10
    ·have e : aC 2 ((s.drop a).take (i - a)) (c :: s.drop (i + 1)) = (s.drop a).take (i - a) :: aC 0 [] (s.drop (i + 1)) := by simp [aC, h10]
     rw [e] at hB ⊢
     obtain ⟨M, hM⟩ := app ((s.drop a).take (i - a)) hB
     have hB' : (l ++ [(s.drop a).take (i - a)]).length ≤ 1000000000 := by simp only [List.length_append, List.length_cons, List.length_nil] at hB ⊢; omega
     exact ⟨M + 1, fE M _ _ _ _ _ ⟨fun _ => ⟨c, hc, fun hn => absurd ((qY c).mpr h10) hn, fun _ => ⟨ha, by omega, hB', by omega, hM⟩⟩, fun h => absurd hlt h⟩⟩
    ·have e : aC 2 ((s.drop a).take (i - a)) (c :: s.drop (i + 1)) = aC 2 ((s.drop a).take (i + 1 - a)) (s.drop (i + 1)) := by rw [← qz hc ha]; simp [aC, h10]
     rw [e] at hB ⊢
     obtain ⟨M, hM⟩ := (ih (i + 1) l (by omega)).2.2 a (by omega) (by omega) hB
     exact ⟨M + 1, fE M _ _ _ _ _ ⟨fun _ => ⟨c, hc, fun _ => ⟨by omega, hM⟩, fun hn => absurd ((qY c).mp hn) h10⟩, fun h => absurd hlt h⟩⟩
   ·rw [gm hge] at hB ⊢
    have e : aC 2 ((s.drop a).take (i - a)) [] = (s.drop a).take (i - a) :: aC 0 [] [] := by simp [aC]
    rw [e] at hB ⊢
    obtain ⟨M, hM⟩ := app ((s.drop a).take (i - a)) (by rw [gm (i := i + 1) (by omega)]; exact hB)
    rw [gm (i := i + 1) (by omega)] at hM
    have hB' : (l ++ [(s.drop a).take (i - a)]).length ≤ 1000000000 := by simp only [List.length_append, List.length_cons, List.length_nil] at hB ⊢; omega
    exact ⟨M + 1, fE M _ _ _ _ _ ⟨fun h => absurd h hge, fun _ => ⟨ha, by omega, hB', by omega, hM⟩⟩⟩
  refine ⟨fun hB => ?_, fun hi hB => ?_, e2⟩
  ·obtain ⟨c, hc, hlt⟩ | hge := aX s i
   ·by_cases h34 : c.toNat = 34
    ·rw [bv hc] at hB ⊢
     have e : aC 0 [] (c :: s.drop (i + 1)) = aC 1 [] (s.drop (i + 1)) := by simp [aC, h34]
     rw [e] at hB ⊢
     obtain ⟨M, hM⟩ := (ih (i + 1) l (by omega)).2.1 (by omega) hB
     exact ⟨M + 1, dd M _ _ _ _ ⟨fun _ => ⟨c, hc, fun _ => ⟨by omega, hM⟩, fun h => absurd ((pu c).mpr h34) h⟩, fun h => absurd hlt h⟩⟩
    ·by_cases h35 : c.toNat = 35
     ·have e : aC 0 [] (s.drop i) = aC 2 ((s.drop i).take (i - i)) (s.drop i) := by rw [Nat.sub_self, List.take_zero, bv hc]; simp [aC, h35]
      rw [e] at hB ⊢
      obtain ⟨M, hM⟩ := e2 i (Nat.le_refl _) (by omega) hB
      exact ⟨M + 1, dd M _ _ _ _ ⟨fun _ => ⟨c, hc, fun h => absurd ((pu c).mp h) h34, fun _ => ⟨fun _ => hM, fun h => absurd ((qZ c).mpr h35) h⟩⟩, fun h => absurd hlt h⟩⟩
     ·rw [bv hc] at hB ⊢
      have e : aC 0 [] (c :: s.drop (i + 1)) = aC 0 [] (s.drop (i + 1)) := by simp [aC, h34, h35]
      rw [e] at hB ⊢
      obtain ⟨M, hM⟩ := (ih (i + 1) l (by omega)).1 hB
      exact ⟨M + 1, dd M _ _ _ _ ⟨fun _ => ⟨c, hc, fun h => absurd ((pu c).mp h) h34, fun _ => ⟨fun h => absurd ((qZ c).mp h) h35, fun _ => ⟨by omega, hM⟩⟩⟩, fun h => absurd hlt h⟩⟩
   ·rw [gm hge]
    exact ⟨1, dd 0 _ _ _ _ ⟨fun h => absurd h hge, fun _ => by simp [aC]⟩⟩
  ·obtain ⟨c, hc, hlt⟩ | hge := aX s i
   ·rw [bv hc] at hB ⊢
    by_cases h34 : c.toNat = 34
    ·have e : aC 1 [] (c :: s.drop (i + 1)) = aC 0 [] (s.drop (i + 1)) := by simp [aC, h34]
     rw [e] at hB ⊢
     obtain ⟨M, hM⟩ := (ih (i + 1) l (by omega)).1 hB
     exact ⟨M + 1, fG M _ _ _ _ ⟨fun _ => ⟨c, hc, fun h => absurd ((pu c).mpr h34) h, fun _ => ⟨by omega, hM⟩⟩, fun h => absurd hlt h⟩⟩
    ·have e : aC 1 [] (c :: s.drop (i + 1)) = aC 1 [] (s.drop (i + 1)) := by simp [aC, h34]
     rw [e] at hB ⊢
     obtain ⟨M, hM⟩ := (ih (i + 1) l (by omega)).2.1 (by omega) hB
     exact ⟨M + 1, fG M _ _ _ _ ⟨fun _ => ⟨c, hc, fun _ => ⟨by omega, hM⟩, fun h => absurd ((pu c).mp h) h34⟩, fun h => absurd hlt h⟩⟩
   ·rw [gm hge] at hB ⊢
    have e : aC 1 [] [] = aC 0 [] [] := by simp [aC]
    rw [e] at hB ⊢
    obtain ⟨M, hM⟩ := (ih (i + 1) l (by omega)).1 (by rw [gm (i := i + 1) (by omega)]; exact hB)
    rw [gm (i := i + 1) (by omega)] at hM
    exact ⟨M + 1, fG M _ _ _ _ ⟨fun h => absurd h hge, fun _ => ⟨by omega, hM⟩⟩⟩
theorem lX (t : Tree) (hl : leadedT t = true) : (fM t).length ≤ 100 * tbulk t := by
 have := (cu hl ([], [])).1
 unfold fM
 simp at this; omega
def iM (t : Tree) : List (List UInt8) := if shapeK t && leadedT t then cl (ldT t) else []
theorem rg (t : Tree) (ht : tbulk t ≤ 40000000) (hc : (iM t).length ≤ 1000000000) : dz t (iM t) := by
 have hp := rW t ht
 cases h : (shapeK t && leadedT t) with
 | false =>
  rw [h] at hp
  obtain ⟨M, hM⟩ := (qt [] (by simp) 2 0 [] (by simp)).1 (by simp [aC])
  refine jx M _ _ ⟨_, hp, ?_⟩
  unfold iM; rw [h]; simpa [aC] using hM
 | true =>
  rw [h] at hp
  unfold iM at hc ⊢
  rw [h] at hc ⊢
  simp only [Bool.and_eq_true] at h
  have hlen := lX t h.2
  have e := ox (by rw [shapedT_K]; exact h.1) h.2
  obtain ⟨M, hM⟩ := (qt (fM t) (by omega) ((fM t).length + 2) 0 [] (by omega)).1 (by rw [List.drop_zero, List.nil_append, e]; exact hc)
  refine jx M _ _ ⟨_, hp, ?_⟩
  rw [List.drop_zero, List.nil_append, e] at hM
  exact hM
theorem yi (t : Tree) : (iM t).length ≤ 100 * tbulk t + 1 := by
 unfold iM
 split
 ·rename_i h
  simp only [Bool.and_eq_true] at h
  have hlen := lX t h.2
  have e := ox (by rw [shapedT_K]; exact h.1) h.2
  have := oC (fM t) 0 []
  rw [e] at this
  omega
 ·simp
theorem nK (t : Tree) (ht : tbulk t ≤ 2000000) : dz t (iM t) := rg t (by omega) (by have := yi t; omega)
theorem wq (p : List Pce) (x : Pce) (hx : x.Lead.length ≤ 3000000) (n : Nat) (hn : n ≤ 900000000) (R : List (List UInt8)) (hR : ∀ l : List (List UInt8), (l ++ R).length ≤ 1000000000 → ∃ M, bu M p (n + 1) l (l ++ R)) : ∀ (j k : Nat) (l : List (List UInt8)), x.Lead.length - k ≤ j → ((l ++ (ldM false [] (x.Lead.drop k) ++ R)).length ≤ 1000000000 → ∃ M, aO M p x (-1) k n l (l ++ (ldM false [] (x.Lead.drop k) ++ R))) ∧ (∀ a, a ≤ k → k ≤ x.Lead.length → (l ++ (ldM true ((x.Lead.drop a).take (k - a)) (x.Lead.drop k) ++ R)).length ≤ 1000000000 → ∃ M, aO M p x ((a : Nat) : Int) k n l (l ++ (ldM true ((x.Lead.drop a).take (k - a)) (x.Lead.drop k) ++ R))) := fun j => by
 have last : ∀ (k : Nat) (l : List (List UInt8)), ¬ k < x.Lead.length → ((l ++ (ldM false [] (x.Lead.drop k) ++ R)).length ≤ 1000000000 → ∃ M, aO M p x (-1) k n l (l ++ (ldM false [] (x.Lead.drop k) ++ R))) ∧ (∀ a, a ≤ k → k ≤ x.Lead.length → (l ++ (ldM true ((x.Lead.drop a).take (k - a)) (x.Lead.drop k) ++ R)).length ≤ 1000000000 → ∃ M, aO M p x ((a : Nat) : Int) k n l (l ++ (ldM true ((x.Lead.drop a).take (k - a)) (x.Lead.drop k) ++ R))) := fun k l hk => by
  rw [gm hk]
  refine ⟨fun hB => ?_, fun a ha hkl hB => ?_⟩
  ·have e : ldM false [] [] = [] := by simp [ldM]
   rw [e, List.nil_append] at hB ⊢
   obtain ⟨M, hM⟩ := hR l hB
   exact ⟨M + 1, bG M _ _ _ _ _ _ _ ⟨fun h => absurd h hk, fun _ => ⟨fun h => absurd h (by decide), fun _ => ⟨by omega, hM⟩⟩⟩⟩
  ·have e : ldM true ((x.Lead.drop a).take (k - a)) [] = [x.Lead.drop a] := by rw [List.take_of_length_le (by rw [List.length_drop]; omega)]; simp [ldM]
   rw [e] at hB ⊢
   have e2 : l ++ ([x.Lead.drop a] ++ R) = (l ++ [x.Lead.drop a]) ++ R := by simp
   rw [e2] at hB ⊢
   obtain ⟨M, hM⟩ := hR _ hB
   exact ⟨M + 1, bG M _ _ _ _ _ _ _ ⟨fun h => absurd h hk, fun _ => ⟨fun _ => ⟨a, rfl, by omega, by rw [List.length_append] at hB; omega, by omega, hM⟩, fun h => absurd (Int.natCast_nonneg a) h⟩⟩⟩
 induction j with
 | zero => intro k l hk; exact last k l (by omega)
 | succ j ih =>
  intro k l hk
  obtain ⟨c, hc, hlt⟩ | hge := aX x.Lead k
  ·rw [bv hc]
   refine ⟨fun hB => ?_, fun a ha hkl hB => ?_⟩
   ·by_cases h35 : c.toNat = 35
    ·have e : ldM false [] (c :: x.Lead.drop (k + 1)) = ldM true ((x.Lead.drop k).take (k + 1 - k)) (x.Lead.drop (k + 1)) := by
      rw [show k + 1 - k = 1 by omega, bv hc]; simp [ldM, h35]
     rw [e] at hB ⊢
     obtain ⟨M, hM⟩ := (ih (k + 1) l (by omega)).2 k (by omega) (by omega) hB
     refine ⟨M + 2, bG (M + 1) _ _ _ _ _ _ _ ⟨fun _ => ⟨fun _ => ⟨c, hc, cS M _ _ _ _ _ _ _ _ ⟨fun _ => ⟨by omega, hM⟩, fun h => ?_⟩⟩, fun h => absurd (by decide) h⟩, fun h => absurd hlt h⟩⟩
     exact absurd ((qZ c).mpr h35) (by simpa using h)
    ·have e : ldM false [] (c :: x.Lead.drop (k + 1)) = ldM false [] (x.Lead.drop (k + 1)) := by simp [ldM, h35]
     rw [e] at hB ⊢
     obtain ⟨M, hM⟩ := (ih (k + 1) l (by omega)).1 hB
     refine ⟨M + 2, bG (M + 1) _ _ _ _ _ _ _ ⟨fun _ => ⟨fun _ => ⟨c, hc, cS M _ _ _ _ _ _ _ _ ⟨fun h => ?_, fun _ => ⟨fun h => absurd h (by decide), fun _ => ⟨by omega, hM⟩⟩⟩⟩, fun h => absurd (by decide) h⟩, fun h => absurd hlt h⟩⟩
     exact absurd ((qZ c).mp (by simpa using h)) h35
   ·have z : ¬ ((a : Nat) : Int) < 0 := by omega
    by_cases h10 : c.toNat = 10
    ·have e : ldM true ((x.Lead.drop a).take (k - a)) (c :: x.Lead.drop (k + 1)) = (x.Lead.drop a).take (k - a) :: ldM false [] (x.Lead.drop (k + 1)) := by simp [ldM, h10]
     have e2 : l ++ (((x.Lead.drop a).take (k - a) :: ldM false [] (x.Lead.drop (k + 1))) ++ R) = (l ++ [(x.Lead.drop a).take (k - a)]) ++ (ldM false [] (x.Lead.drop (k + 1)) ++ R) := by simp
     rw [e, e2] at hB ⊢
     obtain ⟨M, hM⟩ := (ih (k + 1) (l ++ [(x.Lead.drop a).take (k - a)]) (by omega)).1 hB
     refine ⟨M + 2, bG (M + 1) _ _ _ _ _ _ _ ⟨fun _ => ⟨fun h => absurd h z, fun _ => cS M _ _ _ _ _ _ _ _ ⟨fun h => (by cases h), fun _ => ⟨fun _ => ⟨c, hc, fun _ => ⟨a, rfl, ha, by omega, by rw [List.length_append] at hB; omega, by omega, hM⟩, fun h => absurd ((qY c).mpr h10) h⟩, fun h => absurd (Int.natCast_nonneg a) h⟩⟩⟩, fun h => absurd hlt h⟩⟩
    ·have e : ldM true ((x.Lead.drop a).take (k - a)) (c :: x.Lead.drop (k + 1)) = ldM true ((x.Lead.drop a).take (k + 1 - a)) (x.Lead.drop (k + 1)) := by rw [← qz hc ha]; simp [ldM, h10]
     rw [e] at hB ⊢
     obtain ⟨M, hM⟩ := (ih (k + 1) l (by omega)).2 a (by omega) (by omega) hB
     refine ⟨M + 2, bG (M + 1) _ _ _ _ _ _ _ ⟨fun _ => ⟨fun h => absurd h z, fun _ => cS M _ _ _ _ _ _ _ _ ⟨fun h => (by cases h), fun _ => ⟨fun _ => ⟨c, hc, fun h => absurd ((qY c).mp h) h10, fun _ => ⟨by omega, hM⟩⟩, fun h => absurd (Int.natCast_nonneg a) h⟩⟩⟩, fun h => absurd hlt h⟩⟩
  ·exact last k l hge
theorem wm (p : List Pce) (hp : p.length ≤ 900000000) (hq : ∀ x ∈ p, x.Lead.length ≤ 3000000) : ∀ (j n : Nat) (l : List (List UInt8)), p.length - n ≤ j → (l ++ cl ((p.drop n).map (·.Lead))).length ≤ 1000000000 → ∃ M, bu M p n l (l ++ cl ((p.drop n).map (·.Lead))) := fun j => by
 have last : ∀ (n : Nat) (l : List (List UInt8)), ¬ n < p.length → ∃ M, bu M p n l (l ++ cl ((p.drop n).map (·.Lead))) := fun n l hn => by
  rw [List.drop_of_length_le (by omega)]
  exact ⟨1, fZ 0 _ _ _ _ ⟨fun h => absurd h hn, fun _ => by simp [cl]⟩⟩
 induction j with
 | zero => intro n l hn _; exact last n l (by omega)
 | succ j ih =>
  intro n l hn hB
  obtain ⟨x, hx, hlt⟩ | hge := aX p n
  ·rw [bv hx, List.map_cons, dK] at hB ⊢
   have hxl := hq x (List.mem_of_getElem? hx)
   obtain ⟨M, hM⟩ := (wq p x hxl n (by omega) _ (fun l' hl' => ih (n + 1) l' (by omega) hl') x.Lead.length 0 l (by omega)).1 hB
   exact ⟨M + 1, fZ M _ _ _ _ ⟨fun _ => ⟨x, hx, hM⟩, fun h => absurd hlt h⟩⟩
  ·exact last n l hge
theorem th (t : Tree) (ht : tbulk t ≤ 2000000) : eE t (iM t) := by
 have hp := qP t (by omega)
 cases h : (shapeK t && leadedT t) with
 | false =>
  rw [h] at hp
  refine gz 0 _ _ ⟨_, hp, fun _ => ?_, fun h => (by cases h)⟩
  unfold iM; rw [h]; rfl
 | true =>
  rw [h] at hp
  have hh := h
  simp only [Bool.and_eq_true] at hh
  obtain ⟨r, e, z, q, m⟩ := yd t ht hh.1 [] (by simp; omega)
  rw [List.map_nil, List.nil_append] at m
  have hlen := lX t hh.2
  have hc := ox (by rw [shapedT_K]; exact hh.1) hh.2
  have hcl := oC (fM t) 0 []
  rw [hc] at hcl
  obtain ⟨M, hM⟩ := wm r (by simp at z; omega) (fun x hx => by have := (q br x hx).1; omega) r.length 0 [] (by omega) (by rw [List.drop_zero, m, List.nil_append]; omega)
  rw [List.drop_zero, m, List.nil_append] at hM
  refine gz M _ _ ⟨_, hp, fun h => (by cases h), fun _ => ⟨r, lP 0 _ _ ⟨r, e, rfl⟩, ?_⟩⟩
  unfold iM; rw [h]; exact hM
theorem tk : ∀ (a b : List (List UInt8)), ea a b (a == b) := fun a b => by
 have loop : a.length = b.length → ∀ k i, a.length - i ≤ k → a.take i = b.take i → ∃ M, bV M a b i (a == b) := fun hl k => by
  have last : ∀ i, ¬ i < a.length → a.take i = b.take i → ∃ M, bV M a b i (a == b) := fun i hi he => by
   rw [List.take_of_length_le (by omega), List.take_of_length_le (by omega)] at he
   exact ⟨1, dB 0 _ _ _ _ ⟨fun h => absurd h hi, fun _ => by simp [he]⟩⟩
  induction k with
  | zero => intro i hi he; exact last i (by omega) he
  | succ k ih =>
   intro i hi he
   obtain ⟨x, hx, hlt⟩ | hge := aX a i
   ·obtain ⟨y, hy, _⟩ | h' := aX b i
    ·by_cases hxy : x = y
     ·obtain ⟨M, hM⟩ := ih (i + 1) (by omega) (by rw [List.take_add_one, List.take_add_one, he, hx, hy, hxy])
      exact ⟨M + 1, dB M _ _ _ _ ⟨fun _ => ⟨x, hx, y, hy, fun h => absurd hxy h, fun _ => hM⟩, fun h => absurd hlt h⟩⟩
     ·exact ⟨1, dB 0 _ _ _ _ ⟨fun _ => ⟨x, hx, y, hy, fun _ => by
       have : ¬ a = b := fun e => hxy (by rw [e, hy] at hx; injection hx with hx; exact hx.symm)
       simp [this], fun h => absurd h hxy⟩, fun h => absurd hlt h⟩⟩
    ·omega
   ·exact last i hge he
 by_cases hl : a.length = b.length
 ·obtain ⟨M, hM⟩ := loop hl a.length 0 (by omega) (by simp)
  exact gc M _ _ _ ⟨fun h => absurd hl h, fun _ => hM⟩
 ·exact gc 0 _ _ _ ⟨fun _ => by
   have : ¬ a = b := fun e => hl (by rw [e])
   simp [this], fun h => absurd h hl⟩
end Go.Proofs.Ytpnpdlnpikkeaaa
namespace Go.Proofs.Ytpnpdlnpikkeaaa
open Go.RowKit Lx Sx
set_option maxRecDepth 100000
set_option maxHeartbeats 4000000
def dO (p0 : Tree) (p1 : List UInt8) (r0 : Tree) : Prop := qS 22 [.agg (av p0), .str p1] (.agg (av r0))
def fo (p0 r0 : Tree) : Prop := qS 12 [.agg (av p0)] (.agg (av r0))
def fW (p0 : Tree) (r0 : Bool) : Prop := qS 10 [.agg (av p0)] (.bool r0)
def jo (p0 p1 : Tree) (r0 : Bool) : Prop := qS 19 [.agg (av p0), .agg (av p1)] (.bool r0)
def ji (p0 : (List (List UInt8))) (p1 : (List (List UInt8))) (r0 : Bool) : Prop := qS 38 [.row 1 (List.map V.str p0), .row 1 (List.map V.str p1)] (.bool r0)
def gS (m : Nat) (p0 : Tree) (p1 : List UInt8) (a : Nat) (r0 : Tree) : Prop := ∀ (K : Ctx), aJ K [] → Go Try.prog K (bodyPost Try.prog Try.f22 (SP K (fun u _ => u = .agg (av r0)))) (.ex .normal) [.seq (xA (ah Try.f22))] 113 (mkF 113 0 [(1, .str p1), (2, .box (av p0) 0), (4, .ptr 0 0), (5, .ptr 1 0)]) ⟨3, [(2, .row 9 1 (List.map V.str (List.replicate a ([] : List UInt8)))), (1, .var 25 [.int .i64 p0.kind, .str p0.text, .sl 2, .nils]), (0, .var 25 [.int .i64 0, .str [], .nils, .nils])]⟩
def bg (m : Nat) (p0 : Tree) (p1 : List UInt8) (a : (List (List UInt8))) (b c : List UInt8) (r0 : Tree) : Prop := ∀ (K : Ctx), aJ K [] → qLG K Try.f22 (fun u _ => u = .agg (av r0)) (xA (xA (ah Try.f22))) [] 113 (mkF 113 0 [(1, .str p1), (2, .box (av p0) 0), (4, .ptr 0 0), (5, .ptr 1 0), (6, .str b), (7, .str c)]) ⟨3, [(2, .row 9 1 (List.map V.str a)), (1, .var 25 [.int .i64 p0.kind, .str p0.text, .sl 2, .nils]), (0, .var 25 [.int .i64 0, .str [], .nils, .nils])]⟩
def gP (m : Nat) (p0 : Tree) (p1 : List UInt8) (a : Nat) (b : Bool) (r0 : Tree) : Prop := ∀ (K : Ctx), aJ K [] → qLG K Try.f22 (fun u _ => u = .agg (av r0)) (cB (xC (xG (cB (ah Try.f22))))) [.blk 0, .seq (xA (xA (ah Try.f22)))] 113 (mkF 113 0 [(1, .str p1), (2, .box (av p0) 0), (4, .ptr 0 0), (5, .ptr 1 0), (6, .str [32]), (7, .str [32]), (24, .int .i64 p0.kind), (45, .bool b)]) ⟨3, [(2, .row 9 1 (List.map V.str (List.replicate a ([] : List UInt8)))), (1, .var 25 [.int .i64 p0.kind, .str p0.text, .sl 2, .nils]), (0, .var 25 [.int .i64 0, .str [], .nils, .nils])]⟩
def bL (m : Nat) (p0 : Tree) (a b : List UInt8) (c : (List (List UInt8))) (d : List Tree) (e : Nat) (r0 : Tree) : Prop := ∀ (K : Ctx) (j1 : Nat), aJ K [] → m ≤ j1 → qLG K Try.f22 (fun u _ => u = .agg (av r0)) (xI (xH (ah Try.f22))) [.loop (xI (xH (ah Try.f22))) j1, .blk 1, .seq (xA (xA (xA (ah Try.f22))))] 113 (mkF 113 0 [(4, .ptr 0 0), (5, .ptr 1 0), (6, .str a), (7, .str b), (92, .row 4 (kidsV p0.kids)), (93, .int .i64 (p0.kids.length : Int)), (94, .int .i64 (e : Int))]) ⟨4, [(3, .row 25 4 (kidsV d)), (2, .row 9 1 (List.map V.str c)), (1, .var 25 [.int .i64 p0.kind, .str p0.text, .sl 2, .sl 3]), (0, .var 25 [.int .i64 0, .str [], .nils, .nils])]⟩
def dy (m : Nat) (p0 : Tree) (p1 : List UInt8) (a : Nat) (b : Bool) (r0 : Tree) : Prop := ∀ (K : Ctx), aJ K [] → qLG K Try.f22 (fun u _ => u = .agg (av r0)) (cB (xE (xG (cB (ah Try.f22))))) [.blk 0, .seq (xA (xA (ah Try.f22)))] 113 (mkF 113 0 [(1, .str p1), (2, .box (av p0) 0), (4, .ptr 0 0), (5, .ptr 1 0), (6, .str [32]), (7, .str [32]), (24, .int .i64 p0.kind), (65, .bool b)]) ⟨3, [(2, .row 9 1 (List.map V.str (List.replicate a ([] : List UInt8)))), (1, .var 25 [.int .i64 p0.kind, .str p0.text, .sl 2, .nils]), (0, .var 25 [.int .i64 0, .str [], .nils, .nils])]⟩
theorem nB (m : Nat) (p0 : Tree) (p1 : List UInt8) (r0 : Tree) (h : ∃ c, eY p0.kind (p0.kids.length : Int) c ∧ ∃ a, c = ((a : Nat) : Int) ∧ a ≤ 1000000000 ∧ gS m p0 p1 a r0) : dO p0 p1 r0 := by
 refine ⟨rfl, rfl, ?_⟩
 refine aA 113 [] Try.func22 rfl rfl rfl (bp rfl) fun K hK => ?_
 refine gR 3 rfl <| gFP 0 rfl rfl rfl rfl <| gR 4 rfl <| gDs [] 13 14 rfl (by kernel_rfl) (by kernel_rfl) <| gDr [(0, 2), (1, 2), (2, 2), (3, 2), (4, 2), (5, 2), (6, 2), (7, 2), (8, 2)] (by kernel_rfl) rfl rfl <| gV 19 (.int .i64 (p0.kids.length : Int)) rfl (cg (bH _)) rfl <| gLB 18 rfl (bH _) fun hl54 => ?_
 obtain ⟨c, hs55, h⟩ := h
 apply oA (i := 9) (j := 12) (by kernel_rfl) rfl rfl rfl rfl
 exact (mT (L' := []) (by kernel_rfl) rfl rfl (uf hs55 .rfl [] rfl) (.inl rfl))
 exact (oc ab rfl rfl)
 obtain ⟨a, b, h⟩ := h
 refine gV 20 (.int .i64 ((a : Nat) : Int)) rfl (jl b) rfl ?_
 obtain ⟨hb, h⟩ := h
 have hb56 := hb
 apply oA (i := 10) (j := 12) (by kernel_rfl) rfl rfl rfl rfl
 exact (vJ (.new (.row 9 1 (List.replicate a (.str [])))) (dMk ab rfl rfl rfl rfl rfl rfl rfl (by kernel_rfl) hb56) trivial (by kernel_rfl))
 exact (oc ab rfl rfl)
 exact gHR 2 (List.map V.str (List.replicate a ([] : List UInt8))) rfl (by first | (simp only [fX, List.map_replicate]; done) | (simp only [fX, List.map_replicate]; rfl)) rfl <| gDr [(11, 2), (12, 0), (13, 1)] (by kernel_rfl) rfl rfl <| gDe (by kernel_rfl) <| gJ (h K hK) [1, 3, 2] [] rfl hK pq4 ⟨⟨_, rfl, rfl, rfl, (ak _ V.str (fun _ => rfl) (List.replicate a ([] : List UInt8))).symm⟩, (pqo2 rfl rfl rfl rfl)⟩ rfl
 refine cz 10 (.new (.row 9 1 (List.replicate a (.str [])))) rfl (by kernel_rfl) (dMk ab rfl rfl rfl rfl rfl rfl rfl (by kernel_rfl) hb56) trivial rfl (by kernel_rfl) rfl rfl ?_
 exact gHR 3 (List.map V.str (List.replicate a ([] : List UInt8))) rfl (by first | (simp only [fX, List.map_replicate]; done) | (simp only [fX, List.map_replicate]; rfl)) rfl <| gDr [(11, 0), (13, 1)] (by kernel_rfl) rfl rfl <| gDe (by kernel_rfl) <| gJ (h K hK) [1, 2, 3] [] rfl hK pq4 ⟨⟨_, rfl, rfl, rfl, (ak _ V.str (fun _ => rfl) (List.replicate a ([] : List UInt8))).symm⟩, (pqo2 rfl rfl rfl rfl)⟩ rfl
 refine bw 9 hs55 (by kernel_rfl) rfl (by kernel_rfl) rfl rfl .rfl rfl rfl ?_
 obtain ⟨a, b, h⟩ := h
 refine gV 20 (.int .i64 ((a : Nat) : Int)) rfl (jl b) rfl ?_
 obtain ⟨hb, h⟩ := h
 refine cz 10 (.new (.row 9 1 (List.replicate a (.str [])))) rfl (by kernel_rfl) (dMk ab rfl rfl rfl rfl rfl rfl rfl (by kernel_rfl) hb) trivial rfl (by kernel_rfl) rfl rfl ?_
 exact gHR 3 (List.map V.str (List.replicate a ([] : List UInt8))) rfl (by first | (simp only [fX, List.map_replicate]; done) | (simp only [fX, List.map_replicate]; rfl)) rfl <| gDr [(11, 0), (13, 1)] (by kernel_rfl) rfl rfl <| gDe (by kernel_rfl) <| gJ (h K hK) [1, 2, 3] [] rfl hK pq4 ⟨⟨_, rfl, rfl, rfl, (ak _ V.str (fun _ => rfl) (List.replicate a ([] : List UInt8))).symm⟩, (pqo2 rfl rfl rfl rfl)⟩ rfl
theorem aP (m : Nat) (p0 : Tree) (p1 : List UInt8) (a : Nat) (r0 : Tree) (h : ((p0.kind = 1) → ∃ b, (List.replicate a ([] : List UInt8))[1]? = some b ∧ ∃ c, ((List.replicate a ([] : List UInt8)).set 1 [32])[2]? = some c ∧ bg m p0 p1 (((List.replicate a ([] : List UInt8)).set 1 [32]).set 2 [10]) [10, 10] [10, 10] r0) ∧ ((p0.kind ≠ 1) → ((p0.kind = 2) → ∃ d, (List.replicate a ([] : List UInt8))[1]? = some d ∧ ∃ e, ((List.replicate a ([] : List UInt8)).set 1 [32])[5]? = some e ∧ ((2 < (p0.kids.length : Int)) → bg m p0 p1 (((List.replicate a ([] : List UInt8)).set 1 [32]).set 5 [32]) [] [32] r0) ∧ ((¬ 2 < (p0.kids.length : Int)) → bg m p0 p1 (((List.replicate a ([] : List UInt8)).set 1 [32]).set 5 [32]) [32] [32] r0)) ∧ ((p0.kind ≠ 2) → ((p0.kind = 3) → gP m p0 p1 a true r0) ∧ ((p0.kind ≠ 3) → gP m p0 p1 a (p0.kind == 19) r0)))) : gS (m + 1) p0 p1 a r0 := by
 intro K hK
 refine gR 21 rfl <| qBeZ 25 26 rfl rfl rfl rfl h (fun h => ?_) fun h => ?_
 refine gR 2 rfl <| gDs [1] 7 8 rfl (by kernel_rfl) (by kernel_rfl) <| gDr [(0, 2), (1, 3), (2, 2), (3, 3)] (by kernel_rfl) rfl rfl ?_
 obtain ⟨b, hxs1_1, h⟩ := h
 refine iA 4 rfl (by kernel_rfl) (yIO ab rfl rfl rfl rfl (by have := (mapget (f := V.str) hxs1_1); exact (List.getElem?_eq_some_iff.1 this).1)) rfl rfl ?_
 refine cz 5 (.set 2 (.row 9 1 (List.map V.str ((List.replicate a ([] : List UInt8)).set 1 [32])))) rfl (by kernel_rfl) (dSe ab rfl rfl rfl rfl (mapget (f := V.str) hxs1_1) rfl (jX V.str (List.replicate a ([] : List UInt8)) 1 [32])) (okS rfl) rfl (by kernel_rfl) rfl rfl ?_
 obtain ⟨c, hxs1_2, h⟩ := h
 refine iA 6 rfl (by kernel_rfl) (yIO ab rfl rfl rfl rfl (by have := (mapget (f := V.str) hxs1_2); exact (List.getElem?_eq_some_iff.1 this).1)) rfl rfl ?_
 refine cz 7 (.set 2 (.row 9 1 (List.map V.str (((List.replicate a ([] : List UInt8)).set 1 [32]).set 2 [10])))) rfl (by kernel_rfl) (dSe ab rfl rfl rfl rfl (mapget (f := V.str) hxs1_2) rfl (jX V.str ((List.replicate a ([] : List UInt8)).set 1 [32]) 2 [10])) (okS rfl) rfl (by kernel_rfl) rfl rfl ?_
 exact gDe (by kernel_rfl) <| gR 7 rfl <| gJ (h K hK) [0, 1, 2] [] rfl hK pq6 ⟨⟨_, rfl, rfl, rfl, (ak _ V.str (fun _ => rfl) (((List.replicate a ([] : List UInt8)).set 1 [32]).set 2 [10])).symm⟩, (pqo2 rfl rfl rfl rfl)⟩ rfl
 refine gR 7 rfl <| qBeZ 33 34 rfl rfl rfl rfl h (fun h => ?_) fun h => ?_
 refine gR 2 rfl <| gDs [1] 7 8 rfl (by kernel_rfl) (by kernel_rfl) <| gDr [(0, 2), (1, 3), (2, 2), (3, 3)] (by kernel_rfl) rfl rfl ?_
 obtain ⟨d, hxs1_3, h⟩ := h
 refine iA 4 rfl (by kernel_rfl) (yIO ab rfl rfl rfl rfl (by have := (mapget (f := V.str) hxs1_3); exact (List.getElem?_eq_some_iff.1 this).1)) rfl rfl ?_
 refine cz 5 (.set 2 (.row 9 1 (List.map V.str ((List.replicate a ([] : List UInt8)).set 1 [32])))) rfl (by kernel_rfl) (dSe ab rfl rfl rfl rfl (mapget (f := V.str) hxs1_3) rfl (jX V.str (List.replicate a ([] : List UInt8)) 1 [32])) (okS rfl) rfl (by kernel_rfl) rfl rfl ?_
 obtain ⟨e, hxs1_4, h⟩ := h
 refine iA 6 rfl (by kernel_rfl) (yIO ab rfl rfl rfl rfl (by have := (mapget (f := V.str) hxs1_4); exact (List.getElem?_eq_some_iff.1 this).1)) rfl rfl ?_
 refine cz 7 (.set 2 (.row 9 1 (List.map V.str (((List.replicate a ([] : List UInt8)).set 1 [32]).set 5 [32])))) rfl (by kernel_rfl) (dSe ab rfl rfl rfl rfl (mapget (f := V.str) hxs1_4) rfl (jX V.str ((List.replicate a ([] : List UInt8)).set 1 [32]) 5 [32])) (okS rfl) rfl (by kernel_rfl) rfl rfl ?_
 refine gDe (by kernel_rfl) <| gR 6 rfl <| gV 43 (.int .i64 (p0.kids.length : Int)) rfl (cg (bH _)) rfl <| gLB 42 rfl (bH _) fun hl57 => gR 3 rfl <| qBd 44 rfl rfl rfl h (fun h => ?_) fun h => ?_
 exact gR 6 rfl <| gJ (h K hK) [0, 1, 2] [] rfl hK pq6 ⟨⟨_, rfl, rfl, rfl, (ak _ V.str (fun _ => rfl) (((List.replicate a ([] : List UInt8)).set 1 [32]).set 5 [32])).symm⟩, (pqo2 rfl rfl rfl rfl)⟩ rfl
 exact gR 4 rfl <| gJ (h K hK) [0, 1, 2] [] rfl hK pq6 ⟨⟨_, rfl, rfl, rfl, (ak _ V.str (fun _ => rfl) (((List.replicate a ([] : List UInt8)).set 1 [32]).set 5 [32])).symm⟩, (pqo2 rfl rfl rfl rfl)⟩ rfl
 refine gR 8 rfl <| qBeZ 45 46 rfl rfl rfl rfl h (fun h => ?_) fun h => ?_
 exact gR 3 rfl <| gJ (h K hK) [0, 1, 2] [] rfl hK pq8 ⟨⟨_, rfl, rfl, rfl, (ak _ V.str (fun _ => rfl) (List.replicate a ([] : List UInt8))).symm⟩, (pqo2 rfl rfl rfl rfl)⟩ rfl
 exact gR 6 rfl <| gJ (h K hK) [0, 1, 2] [] rfl hK pq8 ⟨⟨_, rfl, rfl, rfl, (ak _ V.str (fun _ => rfl) (List.replicate a ([] : List UInt8))).symm⟩, (pqo2 rfl rfl rfl rfl)⟩ rfl
theorem fV (m : Nat) (p0 : Tree) (p1 : List UInt8) (a : (List (List UInt8))) (b c : List UInt8) (r0 : Tree) (h : ((p0.kind ≠ 21) → ((p0.kind ≠ 17) → ∃ d, a[0]? = some d ∧ bL m p0 b c (a.set 0 p1) ([] : List Tree) 0 r0) ∧ ((p0.kind = 17) → bL m p0 b c a ([] : List Tree) 0 r0)) ∧ ((p0.kind = 21) → bL m p0 b c a ([] : List Tree) 0 r0)) : bg (m + 1) p0 p1 a b c r0 := by
 intro K hK
 refine gR 7 rfl <| gB 82 rfl rfl rfl ?_ ?_ <;> intro hd
 refine gT 81 rfl hd rfl ?_
 replace hd := (io hd)
 replace h := h.1 hd
 refine gR 6 rfl <| gB 86 rfl rfl rfl ?_ ?_ <;> intro hd
 replace hd := (io hd)
 replace h := h.1 hd
 refine gR 5 rfl ?_
 obtain ⟨d, hxs2_1, h⟩ := h
 refine gY (yIO ab rfl rfl rfl rfl (by have := (mapget (f := V.str) hxs2_1); exact (List.getElem?_eq_some_iff.1 this).1)) rfl rfl ?_
 exact gDo (.set 2 (.row 9 1 (List.map V.str (a.set 0 p1)))) (dSe ab rfl rfl rfl rfl (mapget (f := V.str) hxs2_1) rfl (jX V.str a 0 p1)) (okS rfl) rfl rfl rfl <| gR 8 rfl <| gV 93 (.int .i64 (p0.kids.length : Int)) rfl (cg (bH _)) rfl <| gLB 92 rfl (bH _) fun hl58 => gR 4 rfl <| go_loop m <| gNC 1 3 25 4 rfl rfl rfl rfl <| gJ (h K _ hK (by omega)) [0, 1, 2, 3] [] rfl hK pq7 ⟨⟨_, rfl, rfl, rfl, rfl⟩, ⟨_, rfl, rfl, rfl, (ak _ V.str (fun _ => rfl) (a.set 0 p1)).symm⟩, (pqo2 rfl rfl rfl rfl)⟩ rfl
 replace hd := (fz hd)
 replace h := h.2 hd
 exact gR 9 rfl <| gV 93 (.int .i64 (p0.kids.length : Int)) rfl (cg (bH _)) rfl <| gLB 92 rfl (bH _) fun hl59 => gR 4 rfl <| go_loop m <| gNC 1 3 25 4 rfl rfl rfl rfl <| gJ (h K _ hK (by omega)) [0, 1, 2, 3] [] rfl hK pq7 ⟨⟨_, rfl, rfl, rfl, rfl⟩, ⟨_, rfl, rfl, rfl, (ak _ V.str (fun _ => rfl) a).symm⟩, (pqo2 rfl rfl rfl rfl)⟩ rfl
 refine gF 81 rfl hd rfl ?_
 replace hd := (fz hd)
 replace h := h.2 hd
 exact gR 15 rfl <| gV 93 (.int .i64 (p0.kids.length : Int)) rfl (cg (bH _)) rfl <| gLB 92 rfl (bH _) fun hl60 => gR 4 rfl <| go_loop m <| gNC 1 3 25 4 rfl rfl rfl rfl <| gJ (h K _ hK (by omega)) [0, 1, 2, 3] [] rfl hK pq7 ⟨⟨_, rfl, rfl, rfl, rfl⟩, ⟨_, rfl, rfl, rfl, (ak _ V.str (fun _ => rfl) a).symm⟩, (pqo2 rfl rfl rfl rfl)⟩ rfl
theorem bl (m : Nat) (p0 : Tree) (p1 : List UInt8) (a : Nat) (b : Bool) (r0 : Tree) (h : ((b = true) → ∃ c, (List.replicate a ([] : List UInt8))[1]? = some c ∧ ∃ d, ((List.replicate a ([] : List UInt8)).set 1 [32])[2]? = some d ∧ bg m p0 p1 (((List.replicate a ([] : List UInt8)).set 1 [32]).set 2 [32]) [32] [32] r0) ∧ ((b = false) → ((p0.kind = 20) → ∃ e, (List.replicate a ([] : List UInt8))[1]? = some e ∧ ∃ g, ((List.replicate a ([] : List UInt8)).set 1 [32])[2]? = some g ∧ ∃ i, (((List.replicate a ([] : List UInt8)).set 1 [32]).set 2 [32])[3]? = some i ∧ bg m p0 p1 ((((List.replicate a ([] : List UInt8)).set 1 [32]).set 2 [32]).set 3 [32]) [32] [32] r0) ∧ ((p0.kind ≠ 20) → ((p0.kind = 8) → dy m p0 p1 a true r0) ∧ ((p0.kind ≠ 8) → ((p0.kind = 16) → dy m p0 p1 a true r0) ∧ ((p0.kind ≠ 16) → ((p0.kind = 18) → dy m p0 p1 a true r0) ∧ ((p0.kind ≠ 18) → dy m p0 p1 a (p0.kind == 22) r0)))))) : gP (m + 1) p0 p1 a b r0 := by
 intro K hK
 refine qBi 45 rfl rfl rfl h (fun h => ?_) fun h => ?_
 refine gR 1 rfl <| gDs [1] 7 8 rfl (by kernel_rfl) (by kernel_rfl) <| gDr [(0, 2), (1, 3), (2, 2), (3, 3)] (by kernel_rfl) rfl rfl ?_
 obtain ⟨c, hxs3_1, h⟩ := h
 refine iA 4 rfl (by kernel_rfl) (yIO ab rfl rfl rfl rfl (by have := (mapget (f := V.str) hxs3_1); exact (List.getElem?_eq_some_iff.1 this).1)) rfl rfl ?_
 refine cz 5 (.set 2 (.row 9 1 (List.map V.str ((List.replicate a ([] : List UInt8)).set 1 [32])))) rfl (by kernel_rfl) (dSe ab rfl rfl rfl rfl (mapget (f := V.str) hxs3_1) rfl (jX V.str (List.replicate a ([] : List UInt8)) 1 [32])) (okS rfl) rfl (by kernel_rfl) rfl rfl ?_
 obtain ⟨d, hxs3_2, h⟩ := h
 refine iA 6 rfl (by kernel_rfl) (yIO ab rfl rfl rfl rfl (by have := (mapget (f := V.str) hxs3_2); exact (List.getElem?_eq_some_iff.1 this).1)) rfl rfl ?_
 refine cz 7 (.set 2 (.row 9 1 (List.map V.str (((List.replicate a ([] : List UInt8)).set 1 [32]).set 2 [32])))) rfl (by kernel_rfl) (dSe ab rfl rfl rfl rfl (mapget (f := V.str) hxs3_2) rfl (jX V.str ((List.replicate a ([] : List UInt8)).set 1 [32]) 2 [32])) (okS rfl) rfl (by kernel_rfl) rfl rfl ?_
 exact gDe (by kernel_rfl) <| gR 2 rfl <| gJ (h K hK) [0, 1, 2] [] rfl hK pq6 ⟨⟨_, rfl, rfl, rfl, (ak _ V.str (fun _ => rfl) (((List.replicate a ([] : List UInt8)).set 1 [32]).set 2 [32])).symm⟩, (pqo2 rfl rfl rfl rfl)⟩ rfl
 refine gR 7 rfl <| qBeZ 54 55 rfl rfl rfl rfl h (fun h => ?_) fun h => ?_
 refine gR 1 rfl <| gDs [1] 11 12 rfl (by kernel_rfl) (by kernel_rfl) <| gDr [(0, 2), (1, 3), (2, 2), (3, 3), (4, 2), (5, 3)] (by kernel_rfl) rfl rfl ?_
 obtain ⟨e, hxs3_3, h⟩ := h
 refine iA 6 rfl (by kernel_rfl) (yIO ab rfl rfl rfl rfl (by have := (mapget (f := V.str) hxs3_3); exact (List.getElem?_eq_some_iff.1 this).1)) rfl rfl ?_
 refine cz 7 (.set 2 (.row 9 1 (List.map V.str ((List.replicate a ([] : List UInt8)).set 1 [32])))) rfl (by kernel_rfl) (dSe ab rfl rfl rfl rfl (mapget (f := V.str) hxs3_3) rfl (jX V.str (List.replicate a ([] : List UInt8)) 1 [32])) (okS rfl) rfl (by kernel_rfl) rfl rfl ?_
 obtain ⟨g, hxs3_4, h⟩ := h
 refine iA 8 rfl (by kernel_rfl) (yIO ab rfl rfl rfl rfl (by have := (mapget (f := V.str) hxs3_4); exact (List.getElem?_eq_some_iff.1 this).1)) rfl rfl ?_
 refine cz 9 (.set 2 (.row 9 1 (List.map V.str (((List.replicate a ([] : List UInt8)).set 1 [32]).set 2 [32])))) rfl (by kernel_rfl) (dSe ab rfl rfl rfl rfl (mapget (f := V.str) hxs3_4) rfl (jX V.str ((List.replicate a ([] : List UInt8)).set 1 [32]) 2 [32])) (okS rfl) rfl (by kernel_rfl) rfl rfl ?_
 obtain ⟨i, hxs3_5, h⟩ := h
 refine iA 10 rfl (by kernel_rfl) (yIO ab rfl rfl rfl rfl (by have := (mapget (f := V.str) hxs3_5); exact (List.getElem?_eq_some_iff.1 this).1)) rfl rfl ?_
 refine cz 11 (.set 2 (.row 9 1 (List.map V.str ((((List.replicate a ([] : List UInt8)).set 1 [32]).set 2 [32]).set 3 [32])))) rfl (by kernel_rfl) (dSe ab rfl rfl rfl rfl (mapget (f := V.str) hxs3_5) rfl (jX V.str (((List.replicate a ([] : List UInt8)).set 1 [32]).set 2 [32]) 3 [32])) (okS rfl) rfl (by kernel_rfl) rfl rfl ?_
 exact gDe (by kernel_rfl) <| gR 2 rfl <| gJ (h K hK) [0, 1, 2] [] rfl hK pq6 ⟨⟨_, rfl, rfl, rfl, (ak _ V.str (fun _ => rfl) ((((List.replicate a ([] : List UInt8)).set 1 [32]).set 2 [32]).set 3 [32])).symm⟩, (pqo2 rfl rfl rfl rfl)⟩ rfl
 refine gR 8 rfl <| qBeZ 65 66 rfl rfl rfl rfl h (fun h => ?_) fun h => ?_
 exact gR 3 rfl <| gJ (h K hK) [0, 1, 2] [] rfl hK pq8 ⟨⟨_, rfl, rfl, rfl, (ak _ V.str (fun _ => rfl) (List.replicate a ([] : List UInt8))).symm⟩, (pqo2 rfl rfl rfl rfl)⟩ rfl
 refine gR 7 rfl <| qBeZ 65 67 rfl rfl rfl rfl h (fun h => ?_) fun h => ?_
 exact gR 3 rfl <| gJ (h K hK) [0, 1, 2] [] rfl hK pq8 ⟨⟨_, rfl, rfl, rfl, (ak _ V.str (fun _ => rfl) (List.replicate a ([] : List UInt8))).symm⟩, (pqo2 rfl rfl rfl rfl)⟩ rfl
 refine gR 7 rfl <| qBeZ 65 68 rfl rfl rfl rfl h (fun h => ?_) fun h => ?_
 exact gR 3 rfl <| gJ (h K hK) [0, 1, 2] [] rfl hK pq8 ⟨⟨_, rfl, rfl, rfl, (ak _ V.str (fun _ => rfl) (List.replicate a ([] : List UInt8))).symm⟩, (pqo2 rfl rfl rfl rfl)⟩ rfl
 exact gR 6 rfl <| gJ (h K hK) [0, 1, 2] [] rfl hK pq8 ⟨⟨_, rfl, rfl, rfl, (ak _ V.str (fun _ => rfl) (List.replicate a ([] : List UInt8))).symm⟩, (pqo2 rfl rfl rfl rfl)⟩ rfl
theorem gi (m : Nat) (p0 : Tree) (f g : List UInt8) (c : (List (List UInt8))) (a : List Tree) (b : Nat) (r0 : Tree) (h : ((b < p0.kids.length) → ∃ i, p0.kids[b]? = some i ∧ (((b : Int) = 0) → ∃ d, dO i f d ∧ (a ++ [d]).length ≤ 1000000000 ∧ b + 1 ≤ 9223372036854775807 ∧ bL m p0 f g c (a ++ [d]) (b + 1) r0) ∧ (((b : Int) ≠ 0) → ∃ e, dO i g e ∧ (a ++ [e]).length ≤ 1000000000 ∧ b + 1 ≤ 9223372036854775807 ∧ bL m p0 f g c (a ++ [e]) (b + 1) r0)) ∧ ((¬ b < p0.kids.length) → (Tree.node p0.kind p0.text c a) = r0)) : bL (m + 1) p0 f g c a b r0 := by
 intro K j1 hK hj1
 obtain ⟨j1, rfl⟩ : ∃ j, j1 = j + 1 := ⟨j1 - 1, by omega⟩
 refine gR 6 rfl <| gB 95 rfl rfl rfl ?_ ?_ <;> intro hd
 replace hd := (fS hd)
 replace h := h.1 hd
 refine gR 8 rfl ?_
 obtain ⟨i, hxt4_1, h⟩ := h
 refine gY (bO (aK hxt4_1) ab rfl rfl rfl rfl) rfl rfl <| gR 19 rfl <| gB 101 rfl rfl rfl ?_ ?_ <;> intro hd
 replace hd := (eq_of_beq hd)
 replace h := h.1 hd
 refine gR 6 rfl <| gDs [1, 4] 8 9 rfl (by kernel_rfl) (by kernel_rfl) <| gDr [(0, 2), (1, 3), (2, 3), (3, 0)] (by kernel_rfl) rfl rfl ?_
 obtain ⟨d, hs61, h⟩ := h
 refine bw 4 hs61 (by kernel_rfl) rfl (by kernel_rfl) rfl rfl .rfl rfl rfl ?_
 refine gDr [(5, 0)] (by kernel_rfl) rfl rfl <| gHR 5 (kidsV [d]) rfl (zY d) rfl ?_
 obtain ⟨hb, h⟩ := h
 refine cz 6 (.repl 3 (.row 25 4 (kidsV (a ++ [d])))) rfl (by kernel_rfl) (bT ab rfl rfl rfl rfl rfl (nf a [d]).symm (by rw [bH]; exact hb)) (okR rfl) rfl (by kernel_rfl) rfl rfl ?_
 refine gDr [(7, 0), (8, 1)] (by kernel_rfl) rfl rfl <| gDe (by kernel_rfl) <| gR 3 rfl ?_
 obtain ⟨hb, h⟩ := h
 exact gR 1 rfl <| gV 111 (.int .i64 ((b + 1 : Nat) : Int)) rfl (aN (by omega) (by omega)) rfl <| gR 2 rfl <| go_xloop <| gJ (h K _ hK (by omega)) [0, 1, 2, 6] [] rfl hK pq7 ⟨⟨_, rfl, rfl, rfl, (yl _ (a ++ [d])).symm⟩, ⟨_, rfl, rfl, rfl, (ak _ V.str (fun _ => rfl) c).symm⟩, (pqo2 rfl rfl rfl rfl)⟩ rfl
 replace hd := (ne_of_beq_false hd)
 replace h := h.2 hd
 refine gR 3 rfl <| gDs [1, 4] 8 9 rfl (by kernel_rfl) (by kernel_rfl) <| gDr [(0, 2), (1, 3), (2, 3), (3, 0)] (by kernel_rfl) rfl rfl ?_
 obtain ⟨e, hs62, h⟩ := h
 refine bw 4 hs62 (by kernel_rfl) rfl (by kernel_rfl) rfl rfl .rfl rfl rfl ?_
 refine gDr [(5, 0)] (by kernel_rfl) rfl rfl <| gHR 5 (kidsV [e]) rfl (zY e) rfl ?_
 obtain ⟨hb, h⟩ := h
 refine cz 6 (.repl 3 (.row 25 4 (kidsV (a ++ [e])))) rfl (by kernel_rfl) (bT ab rfl rfl rfl rfl rfl (nf a [e]).symm (by rw [bH]; exact hb)) (okR rfl) rfl (by kernel_rfl) rfl rfl ?_
 refine gDr [(7, 0), (8, 1)] (by kernel_rfl) rfl rfl <| gDe (by kernel_rfl) <| gR 3 rfl ?_
 obtain ⟨hb, h⟩ := h
 exact gR 1 rfl <| gV 111 (.int .i64 ((b + 1 : Nat) : Int)) rfl (aN (by omega) (by omega)) rfl <| gR 2 rfl <| go_xloop <| gJ (h K _ hK (by omega)) [0, 1, 2, 6] [] rfl hK pq7 ⟨⟨_, rfl, rfl, rfl, (yl _ (a ++ [e])).symm⟩, ⟨_, rfl, rfl, rfl, (ak _ V.str (fun _ => rfl) c).symm⟩, (pqo2 rfl rfl rfl rfl)⟩ rfl
 replace hd := (gd hd)
 replace h := h.2 hd
 refine gR 3 rfl <| go_xloopE <| gR 9 rfl <| gFR 2 rfl (ph _ (fun _ => rfl) _) rfl rfl <| gFR 3 rfl (Bn _) rfl rfl ?_
 subst h
 exact go_sub (F' := (mkF 113 0 [(4, .ptr 0 0)])) (H' := ⟨1, [(0, .var 25 [.int .i64 ((Tree.node p0.kind p0.text c a).kind), .str ((Tree.node p0.kind p0.text c a).text), .row 1 (List.map V.str ((Tree.node p0.kind p0.text c a).leads)), .row 4 (kidsV ((Tree.node p0.kind p0.text c a).kids))])]⟩) [0] [] rfl hK pq1 (pqo1 rfl rfl) rfl <| go_end ab (rs := [.cell 4 25]) rfl rfl rfl
theorem bU (m : Nat) (p0 : Tree) (p1 : List UInt8) (a : Nat) (b : Bool) (r0 : Tree) (h : ((b = true) → bg m p0 p1 (List.replicate a ([] : List UInt8)) [] [32] r0) ∧ ((b = false) → ((p0.kind = 17) → bg m p0 p1 (List.replicate a ([] : List UInt8)) p1 [32] r0) ∧ ((p0.kind ≠ 17) → ((p0.kind = 21) → ∃ c, (List.replicate a ([] : List UInt8))[0]? = some c ∧ bg m p0 p1 ((List.replicate a ([] : List UInt8)).set 0 [32]) p1 [32] r0) ∧ ((p0.kind ≠ 21) → bg m p0 p1 (List.replicate a ([] : List UInt8)) [32] [32] r0)))) : dy (m + 1) p0 p1 a b r0 := by
 intro K hK
 refine qBi 65 rfl rfl rfl h (fun h => ?_) fun h => ?_
 exact gR 6 rfl <| gJ (h K hK) [0, 1, 2] [] rfl hK pq6 ⟨⟨_, rfl, rfl, rfl, (ak _ V.str (fun _ => rfl) (List.replicate a ([] : List UInt8))).symm⟩, (pqo2 rfl rfl rfl rfl)⟩ rfl
 refine gR 7 rfl <| qBeZ 70 71 rfl rfl rfl rfl h (fun h => ?_) fun h => ?_
 exact gR 7 rfl <| gJ (h K hK) [0, 1, 2] [] rfl hK pq6 ⟨⟨_, rfl, rfl, rfl, (ak _ V.str (fun _ => rfl) (List.replicate a ([] : List UInt8))).symm⟩, (pqo2 rfl rfl rfl rfl)⟩ rfl
 refine gR 7 rfl <| qBeZ 73 74 rfl rfl rfl rfl h (fun h => ?_) fun h => ?_
 refine gR 5 rfl ?_
 obtain ⟨c, hxs5_1, h⟩ := h
 refine gY (yIO ab rfl rfl rfl rfl (by have := (mapget (f := V.str) hxs5_1); exact (List.getElem?_eq_some_iff.1 this).1)) rfl rfl ?_
 exact gDo (.set 2 (.row 9 1 (List.map V.str ((List.replicate a ([] : List UInt8)).set 0 [32])))) (dSe ab rfl rfl rfl rfl (mapget (f := V.str) hxs5_1) rfl (jX V.str (List.replicate a ([] : List UInt8)) 0 [32])) (okS rfl) rfl rfl rfl <| gR 8 rfl <| gJ (h K hK) [0, 1, 2] [] rfl hK pq6 ⟨⟨_, rfl, rfl, rfl, (ak _ V.str (fun _ => rfl) ((List.replicate a ([] : List UInt8)).set 0 [32])).symm⟩, (pqo2 rfl rfl rfl rfl)⟩ rfl
 exact gR 4 rfl <| gJ (h K hK) [0, 1, 2] [] rfl hK pq6 ⟨⟨_, rfl, rfl, rfl, (ak _ V.str (fun _ => rfl) (List.replicate a ([] : List UInt8))).symm⟩, (pqo2 rfl rfl rfl rfl)⟩ rfl
theorem nF (m : Nat) (p0 r0 : Tree) (h : ∃ b, dm p0 b ∧ ((b = false) → (Tree.node 0 [] [] []) = r0) ∧ ((b = true) → ∃ a, dO p0 [] a ∧ a = r0)) : fo p0 r0 := by
 refine ⟨rfl, rfl, ?_⟩
 refine aA 9 [] Try.func12 rfl rfl rfl (bp rfl) fun K hK => ?_
 refine gR 3 rfl <| gFP 0 rfl rfl rfl rfl <| gR 7 rfl ?_
 obtain ⟨b, hs3, h⟩ := h
 refine gC0 hs3 (by kernel_rfl) rfl rfl .rfl rfl <| gR 3 rfl <| qBh 5 rfl rfl rfl h dH dD (fun h => ?_) fun h => ?_
 refine gR 9 rfl ?_
 subst h
 exact go_sub (F' := (mkF 9 0 [(2, .ptr 0 0)])) (H' := ⟨1, [(0, .var 25 [.int .i64 ((Tree.node 0 [] [] []).kind), .str ((Tree.node 0 [] [] []).text), .row 1 (List.map V.str ((Tree.node 0 [] [] []).leads)), .row 4 (kidsV ((Tree.node 0 [] [] []).kids))])]⟩) [1] [] rfl hK pq1 ⟨⟨_, rfl, rfl, (.cons .rfl (.cons .rfl (.cons (.nil 1) (.cons (.nil 4) .nil))))⟩, trivial⟩ rfl <| go_end ab (rs := [.cell 2 25]) rfl rfl rfl
 refine gR 6 rfl ?_
 obtain ⟨a, hs4, h⟩ := h
 refine gC0 hs4 (by kernel_rfl) rfl rfl .rfl rfl <| gR 4 rfl ?_
 subst h
 exact go_sub (F' := (mkF 9 0 [(2, .ptr 0 0)])) (H' := ⟨1, [(0, .var 25 [.int .i64 a.kind, .str a.text, .row 1 (List.map V.str a.leads), .row 4 (kidsV a.kids)])]⟩) [1] [] rfl hK pq1 (pqo1 rfl rfl) rfl <| go_end ab (rs := [.cell 2 25]) rfl rfl rfl
theorem mH (m : Nat) (p0 : Tree) (r0 : Bool) (h : ∃ a, dm p0 a ∧ ((a = true) → ∃ b, fo p0 b ∧ ∃ c, jo p0 b c ∧ c = r0) ∧ ((a = false) → false = r0)) : fW p0 r0 := by
 refine ⟨rfl, rfl, ?_⟩
 refine aA 11 [] Try.func10 rfl rfl rfl (bp rfl) fun K hK => ?_
 refine gR 3 rfl <| gFP 0 rfl rfl rfl rfl <| gR 4 rfl <| gDs [] 9 9 rfl (by kernel_rfl) (by kernel_rfl) <| gDr [(0, 0)] (by kernel_rfl) rfl rfl ?_
 obtain ⟨a, hs4, h⟩ := h
 refine bw 1 hs4 (by kernel_rfl) rfl (by kernel_rfl) rfl rfl .rfl rfl rfl ?_
 refine gDr [(2, 0)] (by kernel_rfl) rfl rfl <| qBiZ 5 4 rfl rfl rfl rfl h (fun h => ?_) fun h => ?_
 refine gDr [(3, 2), (4, 0)] (by kernel_rfl) rfl rfl ?_
 obtain ⟨b, hs5, h⟩ := h
 refine bw 5 hs5 (by kernel_rfl) rfl (by kernel_rfl) rfl rfl .rfl rfl rfl ?_
 obtain ⟨c, hs6, h⟩ := h
 refine bw 6 hs6 (by kernel_rfl) rfl (by kernel_rfl) rfl rfl .rfl rfl rfl ?_
 refine gDr [(7, 0), (8, 0)] (by kernel_rfl) rfl rfl <| gDe (by kernel_rfl) <| gR 2 rfl ?_
 subst h
 exact go_end ab (rs := [.tmp 2]) rfl rfl rfl
 refine gDr [(3, 2), (4, 0), (5, 0), (6, 0), (7, 0), (8, 0)] (by kernel_rfl) rfl rfl <| gDe (by kernel_rfl) <| gR 2 rfl ?_
 subst h
 exact go_end ab (rs := [.tmp 2]) rfl rfl rfl
def gb (m : Nat) (p0 p1 : Tree) (a : Nat) (r0 : Bool) : Prop := ∀ (K : Ctx) (j1 : Nat), aJ K [] → m ≤ j1 → qLG K Try.f19 (fun u _ => u = .bool r0) (xI (ah Try.f19)) [.loop (xI (ah Try.f19)) j1, .blk 0, .seq (xH (ah Try.f19))] 54 (mkF 54 0 [(2, .box (av p0) 0), (3, .box (av p1) 0), (37, .int .i64 (p0.kids.length : Int)), (38, .int .i64 (a : Int))]) ⟨0, []⟩
theorem iH (m : Nat) (p0 p1 : Tree) (r0 : Bool) (h : ((p0.kind ≠ p1.kind) → false = r0) ∧ ((p0.kind = p1.kind) → ((p0.text ≠ p1.text) → false = r0) ∧ ((p0.text = p1.text) → ((p0.kids.length ≠ p1.kids.length) → false = r0) ∧ ((p0.kids.length = p1.kids.length) → ∃ a, ji p0.leads p1.leads a ∧ ((a = false) → false = r0) ∧ ((a = true) → gb m p0 p1 0 r0))))) : jo p0 p1 r0 := by
 refine ⟨rfl, rfl, ?_⟩
 refine aA 54 [] Try.func19 rfl rfl rfl (bp rfl) fun K hK => ?_
 refine gR 3 rfl <| gFP 0 rfl rfl rfl rfl <| gR 1 rfl <| gFP 1 rfl rfl rfl rfl <| gR 12 rfl <| gB 11 rfl rfl rfl ?_ ?_ <;> intro hd
 refine gT 10 rfl hd rfl ?_
 replace hd := (io hd)
 replace h := h.1 hd
 refine gR 33 rfl ?_
 subst h
 exact go_end ab (rs := [.tmp 4]) rfl rfl rfl
 refine gF 10 rfl hd rfl ?_
 replace hd := (fz hd)
 replace h := h.2 hd
 refine gR 7 rfl <| gB 18 rfl rfl rfl ?_ ?_ <;> intro hd
 refine gT 17 rfl hd rfl ?_
 replace hd := (io hd)
 replace h := h.1 hd
 refine gR 26 rfl ?_
 subst h
 exact go_end ab (rs := [.tmp 4]) rfl rfl rfl
 refine gF 17 rfl hd rfl ?_
 replace hd := (fz hd)
 replace h := h.2 hd
 refine gR 3 rfl <| gV 21 (.int .i64 (p0.kids.length : Int)) rfl (cg (bH _)) rfl <| gLB 20 rfl (bH _) fun hl9 => gR 3 rfl <| gV 24 (.int .i64 (p1.kids.length : Int)) rfl (cg (bH _)) rfl <| gLB 23 rfl (bH _) fun hl10 => gR 3 rfl <| gB 27 rfl rfl rfl ?_ ?_ <;> intro hd
 refine gT 26 rfl hd rfl ?_
 replace hd := (xK hd)
 replace h := h.1 hd
 refine gR 17 rfl ?_
 subst h
 exact go_end ab (rs := [.tmp 4]) rfl rfl rfl
 refine gF 26 rfl hd rfl ?_
 replace hd := (yc hd)
 replace h := h.2 hd
 refine gR 4 rfl ?_
 obtain ⟨a, hs11, h⟩ := h
 refine gC0 hs11 (by kernel_rfl) rfl rfl .rfl rfl <| gR 4 rfl <| gB 34 rfl rfl rfl ?_ ?_ <;> intro hd
 replace hd := (dH hd)
 replace h := h.1 hd
 refine gR 8 rfl ?_
 subst h
 exact go_end ab (rs := [.tmp 4]) rfl rfl rfl
 replace hd := (dD hd)
 replace h := h.2 hd
 exact gR 9 rfl <| gV 37 (.int .i64 (p0.kids.length : Int)) rfl (cg (bH _)) rfl <| gR 4 rfl <| go_loop m <| gJ (h K _ hK (by omega)) [] [] rfl hK pq4 trivial rfl
theorem mB (m : Nat) (p0 p1 : Tree) (a : Nat) (r0 : Bool) (h : ((a < p0.kids.length) → ∃ c, p0.kids[a]? = some c ∧ ∃ d, p1.kids[a]? = some d ∧ ∃ b, jo c d b ∧ ((b = false) → false = r0) ∧ ((b = true) → a + 1 ≤ 9223372036854775807 ∧ gb m p0 p1 (a + 1) r0)) ∧ ((¬ a < p0.kids.length) → true = r0)) : gb (m + 1) p0 p1 a r0 := by
 intro K j1 hK hj1
 obtain ⟨j1, rfl⟩ : ∃ j, j1 = j + 1 := ⟨j1 - 1, by omega⟩
 refine gR 6 rfl <| gB 39 rfl rfl rfl ?_ ?_ <;> intro hd
 replace hd := (fS hd)
 replace h := h.1 hd
 refine gR 12 rfl <| gDs [] 12 12 rfl (by kernel_rfl) (by kernel_rfl) <| gDr [(0, 2), (1, 2), (2, 2)] (by kernel_rfl) rfl rfl ?_
 obtain ⟨c, hxt1_1, h⟩ := h
 refine gYd 3 rfl (by kernel_rfl) (bO (aK hxt1_1) ab rfl rfl rfl rfl) rfl rfl <| gDr [(4, 2), (5, 2), (6, 2), (7, 0)] (by kernel_rfl) rfl rfl ?_
 obtain ⟨d, hxt1_2, h⟩ := h
 refine iA 8 rfl (by kernel_rfl) (bO (aK hxt1_2) ab rfl rfl rfl rfl) rfl rfl ?_
 refine gDr [(9, 0)] (by kernel_rfl) rfl rfl ?_
 obtain ⟨b, hs12, h⟩ := h
 refine bw 10 hs12 (by kernel_rfl) rfl (by kernel_rfl) rfl rfl .rfl rfl rfl ?_
 refine gDr [(11, 0)] (by kernel_rfl) rfl rfl <| gDe (by kernel_rfl) <| gR 1 rfl <| gB 52 rfl rfl rfl ?_ ?_ <;> intro hd
 replace hd := (dH hd)
 replace h := h.1 hd
 refine gR 9 rfl <| go_xloopR <| gR 2 rfl ?_
 subst h
 exact go_end ab (rs := [.tmp 4]) rfl rfl rfl
 replace hd := (dD hd)
 replace h := h.2 hd
 refine gR 5 rfl ?_
 obtain ⟨hb, h⟩ := h
 exact gR 1 rfl <| gV 53 (.int .i64 ((a + 1 : Nat) : Int)) rfl (aN (by omega) (by omega)) rfl <| gR 2 rfl <| go_xloop <| gJ (h K _ hK (by omega)) [] [] rfl hK pq4 trivial rfl
 replace hd := (gd hd)
 replace h := h.2 hd
 refine gR 3 rfl <| go_xloopE <| gR 8 rfl ?_
 subst h
 exact go_end ab (rs := [.tmp 4]) rfl rfl rfl
def en (m : Nat) (p0 : (List (List UInt8))) (p1 : (List (List UInt8))) (a : Nat) (r0 : Bool) : Prop := ∀ (K : Ctx) (j1 : Nat), aJ K [] → m ≤ j1 → qLG K Try.f38 (fun u _ => u = .bool r0) (xI (ah Try.f38)) [.loop (xI (ah Try.f38)) j1, .blk 0, .seq (xH (ah Try.f38))] 26 (mkF 26 0 [(0, .row 1 (List.map V.str p0)), (1, .row 1 (List.map V.str p1)), (12, .int .i64 (p0.length : Int)), (13, .int .i64 (a : Int))]) ⟨0, []⟩
theorem kK (m : Nat) (p0 : (List (List UInt8))) (p1 : (List (List UInt8))) (r0 : Bool) (h : ((p0.length ≠ p1.length) → false = r0) ∧ ((p0.length = p1.length) → en m p0 p1 0 r0)) : ji p0 p1 r0 := by
 refine ⟨rfl, rfl, ?_⟩
 refine aA 26 [] Try.func38 rfl rfl rfl (bp rfl) fun K hK => ?_
 refine gR 10 rfl <| gV 7 (.int .i64 (p0.length : Int)) rfl (cg (aY V.str _)) rfl <| gLB 6 rfl (aY V.str _) fun hl5 => gR 2 rfl <| gV 9 (.int .i64 (p1.length : Int)) rfl (cg (aY V.str _)) rfl <| gLB 8 rfl (aY V.str _) fun hl6 => gR 3 rfl <| gB 10 rfl rfl rfl ?_ ?_ <;> intro hd
 replace hd := (xK hd)
 replace h := h.1 hd
 refine gR 8 rfl ?_
 subst h
 exact go_end ab (rs := [.tmp 4]) rfl rfl rfl
 replace hd := (yc hd)
 replace h := h.2 hd
 exact gR 8 rfl <| gV 12 (.int .i64 (p0.length : Int)) rfl (cg (aY V.str _)) rfl <| gR 4 rfl <| go_loop m <| gJ (h K _ hK (by omega)) [] [] rfl hK pq4 trivial rfl
theorem ij (m : Nat) (p0 : (List (List UInt8))) (p1 : (List (List UInt8))) (a : Nat) (r0 : Bool) (h : ((a < p0.length) → ∃ b, p0[a]? = some b ∧ ∃ c, p1[a]? = some c ∧ ((b ≠ c) → false = r0) ∧ ((b = c) → a + 1 ≤ 9223372036854775807 ∧ en m p0 p1 (a + 1) r0)) ∧ ((¬ a < p0.length) → true = r0)) : en (m + 1) p0 p1 a r0 := by
 intro K j1 hK hj1
 obtain ⟨j1, rfl⟩ : ∃ j, j1 = j + 1 := ⟨j1 - 1, by omega⟩
 refine gR 6 rfl <| gB 14 rfl rfl rfl ?_ ?_ <;> intro hd
 replace hd := (fS hd)
 replace h := h.1 hd
 refine gR 12 rfl <| gDs [] 9 9 rfl (by kernel_rfl) (by kernel_rfl) <| gDr [(0, 2), (1, 2)] (by kernel_rfl) rfl rfl ?_
 obtain ⟨b, hxs1_1, h⟩ := h
 refine gYd 2 rfl (by kernel_rfl) (bO (mapget (f := V.str) hxs1_1) ab rfl rfl rfl rfl) rfl rfl <| gDr [(3, 2), (4, 2), (5, 0)] (by kernel_rfl) rfl rfl ?_
 obtain ⟨c, hxs1_2, h⟩ := h
 refine iA 6 rfl (by kernel_rfl) (bO (mapget (f := V.str) hxs1_2) ab rfl rfl rfl rfl) rfl rfl ?_
 refine gDr [(7, 0), (8, 0)] (by kernel_rfl) rfl rfl <| gDe (by kernel_rfl) <| gR 1 rfl <| gB 24 rfl rfl rfl ?_ ?_ <;> intro hd
 replace hd := (io hd)
 replace h := h.1 hd
 refine gR 9 rfl <| go_xloopR <| gR 2 rfl ?_
 subst h
 exact go_end ab (rs := [.tmp 4]) rfl rfl rfl
 replace hd := (fz hd)
 replace h := h.2 hd
 refine gR 5 rfl ?_
 obtain ⟨hb, h⟩ := h
 exact gR 1 rfl <| gV 25 (.int .i64 ((a + 1 : Nat) : Int)) rfl (aN (by omega) (by omega)) rfl <| gR 2 rfl <| go_xloop <| gJ (h K _ hK (by omega)) [] [] rfl hK pq4 trivial rfl
 replace hd := (gd hd)
 replace h := h.2 hd
 refine gR 3 rfl <| go_xloopE <| gR 8 rfl ?_
 subst h
 exact go_end ab (rs := [.tmp 4]) rfl rfl rfl
end Go.Proofs.Ytpnpdlnpikkeaaa
namespace Go.Proofs.Ytpnpdlnpikkeaaa
open Go.RowKit Lx Sx
set_option maxRecDepth 100000
set_option maxHeartbeats 1000000
def ld0 (k n : Int) : List (List UInt8) :=
 let z := List.replicate (cO k n).toNat ([] : List UInt8)
 if k = 1 then (z.set 1 [32]).set 2 [10] else if k = 2 then (z.set 1 [32]).set 5 [32] else if k = 3 ∨ k = 19 then (z.set 1 [32]).set 2 [32] else if k = 20 then ((z.set 1 [32]).set 2 [32]).set 3 [32] else if k = 21 then z.set 0 [32] else z
def bgK (k n : Int) (f : List UInt8) : List UInt8 := if k = 1 then [10, 10] else if k = 2 then (if 2 < n then [] else [32]) else if k = 8 ∨ k = 16 ∨ k = 18 ∨ k = 22 then [] else if k = 17 ∨ k = 21 then f else [32]
def rsK (k : Int) : List UInt8 := if k = 1 then [10, 10] else [32]
def ldA (k n : Int) (f : List UInt8) : List (List UInt8) := if k = 21 ∨ k = 17 then ld0 k n else (ld0 k n).set 0 f
mutual
def arrT : Tree → List UInt8 → Tree
 | .node k x _ ks, f => .node k x (ldA k ks.length f) (arrTs ks (bgK k ks.length f) (rsK k))
def arrTs : List Tree → List UInt8 → List UInt8 → List Tree
 | [], _, _ => []
 | t :: r, b, c => arrT t b :: arrTs r c c
end
theorem yY (t : Tree) (f : List UInt8) : arrT t f = .node t.kind t.text (ldA t.kind t.kids.length f) (arrTs t.kids (bgK t.kind t.kids.length f) (rsK t.kind)) := by cases t; simp only [arrT]; rfl
theorem yO {k n : Int} (h : 0 ≤ cO k n) : ((k = 1 ∨ k = 3 ∨ k = 19) → 3 ≤ cO k n) ∧ (k = 2 → 6 ≤ cO k n) ∧ (k = 20 → 4 ≤ cO k n) ∧ (k ≠ 17 → 1 ≤ cO k n) := by
 revert h
 unfold cO f0
 repeat' split
 all_goals (intro h; refine ⟨fun _ => ?_, fun _ => ?_, fun _ => ?_, fun _ => ?_⟩ <;> omega)
theorem yN (k : Int) {n : Int} (h : 0 ≤ n) : cO k n ≤ 6 + n := by
 unfold cO f0
 repeat' split
 all_goals omega
theorem vb : ∀ t : Tree, tbulk t ≤ 40000000 → shapeK t = true → ∀ f, dO t f (arrT t f) := fh fun t ih ht hs f => by
 have hk := fx t
 have hbt := bx t
 have hld := qo hs
 obtain ⟨hl1, hl2, hl3, hl4⟩ := yO hld
 have hmax : cO t.kind t.kids.length ≤ 1000000000 := by
  have := yN t.kind (n := t.kids.length) (by omega)
  omega
 obtain ⟨N, hN⟩ : ∃ N : Nat, cO t.kind t.kids.length = N := ⟨(cO t.kind t.kids.length).toNat, by omega⟩
 have hNt : (cO t.kind t.kids.length).toNat = N := by omega
 rw [hN] at hl1 hl2 hl3 hl4 hmax
 -- kids
 have kids : ∀ (b c : List UInt8) (l : List (List UInt8)), ∀ j i us, t.kids.length - i ≤ j → us.length = i → ∃ M, bL M t b c l us i (.node t.kind t.text l (us ++ arrTs (t.kids.drop i) (if i = 0 then b else c) c)) := fun b c l j => by
  have last : ∀ i (us : List Tree), ¬ i < t.kids.length → ∃ M, bL M t b c l us i (.node t.kind t.text l (us ++ arrTs (t.kids.drop i) (if i = 0 then b else c) c)) := fun i us hi => by
   rw [List.drop_of_length_le (by omega)]
   exact ⟨1, gi 0 _ _ _ _ _ _ _ ⟨fun h => absurd h hi, fun _ => by simp [arrTs]⟩⟩
  induction j with
  | zero => intro i us hi _; exact last i us (by omega)
  | succ j ihj =>
   intro i us hi hu
   obtain ⟨u, hu', hlt⟩ | hge := aX t.kids i
   ·have hub := ej hu'
    have hc := ih i u hu' (by omega) (kW hs hu').1
    rw [bv hu', arrTs]
    by_cases h0 : i = 0
    ·obtain ⟨M, hM⟩ := ihj (i + 1) (us ++ [arrT u b]) (by omega) (by simp [hu])
     rw [if_neg (by omega)] at hM
     rw [if_pos h0]
     refine ⟨M + 1, gi M _ _ _ _ _ _ _ ⟨fun _ => ⟨u, hu', fun _ => ⟨_, hc b, by simp; omega, by omega, ?_⟩, fun h => absurd (by omega) h⟩, fun h => absurd hlt h⟩⟩
     simpa using hM
    ·obtain ⟨M, hM⟩ := ihj (i + 1) (us ++ [arrT u c]) (by omega) (by simp [hu])
     rw [if_neg (by omega)] at hM
     rw [if_neg h0]
     refine ⟨M + 1, gi M _ _ _ _ _ _ _ ⟨fun _ => ⟨u, hu', fun h => absurd h (by omega), fun _ => ⟨_, hc c, by simp; omega, by omega, ?_⟩⟩, fun h => absurd hlt h⟩⟩
     simpa using hM
   ·exact last i us hge
 have h1 : ∀ (l : List (List UInt8)) (b c : List UInt8), (t.kind = 21 ∨ t.kind = 17 ∨ 0 < l.length) → ∃ M, bg M t f l b c (.node t.kind t.text (if t.kind = 21 ∨ t.kind = 17 then l else l.set 0 f) (arrTs t.kids b c)) := fun l b c hl => by
  by_cases h21 : t.kind = 21
  ·obtain ⟨M, hM⟩ := kids b c l t.kids.length 0 [] (by omega) rfl
   rw [if_pos (.inl h21)]
   exact ⟨M + 1, fV M _ _ _ _ _ _ ⟨fun h => absurd h21 h, fun _ => by simpa using hM⟩⟩
  ·by_cases h17 : t.kind = 17
   ·obtain ⟨M, hM⟩ := kids b c l t.kids.length 0 [] (by omega) rfl
    rw [if_pos (.inr h17)]
    exact ⟨M + 1, fV M _ _ _ _ _ _ ⟨fun _ => ⟨fun h => absurd h17 h, fun _ => by simpa using hM⟩, fun h => absurd h h21⟩⟩
   ·obtain ⟨M, hM⟩ := kids b c (l.set 0 f) t.kids.length 0 [] (by omega) rfl
    rw [if_neg (by omega)]
    obtain ⟨s, hs0, _⟩ | h' := aX l 0
    ·exact ⟨M + 1, fV M _ _ _ _ _ _ ⟨fun _ => ⟨fun _ => ⟨s, hs0, by simpa using hM⟩, fun h => absurd h h17⟩, fun h => absurd h h21⟩⟩
    ·omega
 -- the leads
 have z : ∀ i, i < N → (List.replicate N ([] : List UInt8))[i]? = some [] := fun i hi => by rw [List.getElem?_replicate, if_pos hi]
 have z2 : ∀ (i j : Nat) (x : List UInt8), i < N → j ≠ i → ((List.replicate N ([] : List UInt8)).set j x)[i]? = some [] := fun i j x hi hj => by rw [List.getElem?_set_ne hj, z i hi]
 have z3 : ∀ (i j k : Nat) (x y : List UInt8), i < N → j ≠ i → k ≠ i → (((List.replicate N ([] : List UInt8)).set j x).set k y)[i]? = some [] := fun i j k x y hi hj hk => by rw [List.getElem?_set_ne hk, z2 i j x hi hj]
 have len : ∀ l : List (List UInt8), l.length = N → t.kind = 21 ∨ t.kind = 17 ∨ 0 < l.length := fun l e => by omega
 rw [yY]
 suffices h0 : ∃ M, gS M t f N (.node t.kind t.text (ldA t.kind t.kids.length f) (arrTs t.kids (bgK t.kind t.kids.length f) (rsK t.kind))) by
  obtain ⟨M, hM⟩ := h0
  exact nB M _ _ _ ⟨_, nm (by omega) (by omega), N, hN, by omega, hM⟩
 by_cases h1x : t.kind = 1
 ·obtain ⟨M, hM⟩ := h1 (((List.replicate N ([] : List UInt8)).set 1 [32]).set 2 [10]) [10, 10] [10, 10] (len _ (by simp only [List.length_set, List.length_replicate]))
  have e1 : ldA t.kind t.kids.length f = if t.kind = 21 ∨ t.kind = 17 then (((List.replicate N ([] : List UInt8)).set 1 [32]).set 2 [10]) else List.set (((List.replicate N ([] : List UInt8)).set 1 [32]).set 2 [10]) 0 f := by unfold ldA ld0; rw [hNt, h1x]; rfl
  have e2 : rsK t.kind = [10, 10] := by rw [h1x]; rfl
  rw [e1, e2]
  rw [show bgK t.kind t.kids.length f = [10, 10] by rw [h1x]; rfl]
  exact ⟨M + 1, aP M _ _ _ _ ⟨fun _ => ⟨[], z 1 (by omega), [], z2 2 1 _ (by omega) (by decide), hM⟩, fun h => absurd h1x h⟩⟩
 by_cases h2x : t.kind = 2
 ·have e1 : ldA t.kind t.kids.length f = if t.kind = 21 ∨ t.kind = 17 then (((List.replicate N ([] : List UInt8)).set 1 [32]).set 5 [32]) else List.set (((List.replicate N ([] : List UInt8)).set 1 [32]).set 5 [32]) 0 f := by unfold ldA ld0; rw [hNt, h2x]; rfl
  have e2 : rsK t.kind = [32] := by rw [h2x]; rfl
  rw [e1, e2]
  by_cases h2n : 2 < ((t.kids.length : Nat) : Int)
  ·obtain ⟨M, hM⟩ := h1 (((List.replicate N ([] : List UInt8)).set 1 [32]).set 5 [32]) [] [32] (len _ (by simp only [List.length_set, List.length_replicate]))
   rw [show bgK t.kind t.kids.length f = [] by rw [h2x]; simp [bgK]; omega]
   exact ⟨M + 1, aP M _ _ _ _ ⟨fun h => absurd (h2x.symm.trans h) (by decide), fun _ => ⟨fun _ => ⟨[], z 1 (by omega), [], z2 5 1 _ (by omega) (by decide), ⟨fun _ => hM, fun h => absurd h2n h⟩⟩, fun h => absurd h2x h⟩⟩⟩
  ·obtain ⟨M, hM⟩ := h1 (((List.replicate N ([] : List UInt8)).set 1 [32]).set 5 [32]) [32] [32] (len _ (by simp only [List.length_set, List.length_replicate]))
   rw [show bgK t.kind t.kids.length f = [32] by rw [h2x]; simp [bgK]; omega]
   exact ⟨M + 1, aP M _ _ _ _ ⟨fun h => absurd (h2x.symm.trans h) (by decide), fun _ => ⟨fun _ => ⟨[], z 1 (by omega), [], z2 5 1 _ (by omega) (by decide), ⟨fun h => absurd h h2n, fun _ => hM⟩⟩, fun h => absurd h2x h⟩⟩⟩
 by_cases h3x : t.kind = 3
 ·obtain ⟨M, hM⟩ := h1 (((List.replicate N ([] : List UInt8)).set 1 [32]).set 2 [32]) [32] [32] (len _ (by simp only [List.length_set, List.length_replicate]))
  have e1 : ldA t.kind t.kids.length f = if t.kind = 21 ∨ t.kind = 17 then (((List.replicate N ([] : List UInt8)).set 1 [32]).set 2 [32]) else List.set (((List.replicate N ([] : List UInt8)).set 1 [32]).set 2 [32]) 0 f := by unfold ldA ld0; rw [hNt, h3x]; rfl
  have e2 : rsK t.kind = [32] := by rw [h3x]; rfl
  rw [e1, e2]
  rw [show bgK t.kind t.kids.length f = [32] by rw [h3x]; rfl]
  exact ⟨_, aP _ _ _ _ _ ⟨fun h => absurd (h3x.symm.trans h) (by decide), fun _ => ⟨fun h => absurd (h3x.symm.trans h) (by decide), fun _ => ⟨fun _ => bl M _ _ _ _ _ ⟨fun _ => ⟨[], z 1 (by omega), [], z2 2 1 _ (by omega) (by decide), hM⟩, fun h => (by cases h)⟩, fun h => absurd h3x h⟩⟩⟩⟩
 by_cases h19x : t.kind = 19
 ·obtain ⟨M, hM⟩ := h1 (((List.replicate N ([] : List UInt8)).set 1 [32]).set 2 [32]) [32] [32] (len _ (by simp only [List.length_set, List.length_replicate]))
  have e1 : ldA t.kind t.kids.length f = if t.kind = 21 ∨ t.kind = 17 then (((List.replicate N ([] : List UInt8)).set 1 [32]).set 2 [32]) else List.set (((List.replicate N ([] : List UInt8)).set 1 [32]).set 2 [32]) 0 f := by unfold ldA ld0; rw [hNt, h19x]; rfl
  have e2 : rsK t.kind = [32] := by rw [h19x]; rfl
  rw [e1, e2]
  rw [show bgK t.kind t.kids.length f = [32] by rw [h19x]; rfl]
  exact ⟨_, aP _ _ _ _ _ ⟨fun h => absurd (h19x.symm.trans h) (by decide), fun _ => ⟨fun h => absurd (h19x.symm.trans h) (by decide), fun _ => ⟨fun h => absurd (h19x.symm.trans h) (by decide), fun _ => by rw [show (t.kind == 19) = true by rw [h19x]; rfl]; exact bl M _ _ _ _ _ ⟨fun _ => ⟨[], z 1 (by omega), [], z2 2 1 _ (by omega) (by decide), hM⟩, fun h => (by cases h)⟩⟩⟩⟩⟩
 by_cases h20x : t.kind = 20
 ·obtain ⟨M, hM⟩ := h1 ((((List.replicate N ([] : List UInt8)).set 1 [32]).set 2 [32]).set 3 [32]) [32] [32] (len _ (by simp only [List.length_set, List.length_replicate]))
  have e1 : ldA t.kind t.kids.length f = if t.kind = 21 ∨ t.kind = 17 then ((((List.replicate N ([] : List UInt8)).set 1 [32]).set 2 [32]).set 3 [32]) else List.set ((((List.replicate N ([] : List UInt8)).set 1 [32]).set 2 [32]).set 3 [32]) 0 f := by unfold ldA ld0; rw [hNt, h20x]; rfl
  have e2 : rsK t.kind = [32] := by rw [h20x]; rfl
  rw [e1, e2]
  rw [show bgK t.kind t.kids.length f = [32] by rw [h20x]; rfl]
  exact ⟨_, aP _ _ _ _ _ ⟨fun h => absurd (h20x.symm.trans h) (by decide), fun _ => ⟨fun h => absurd (h20x.symm.trans h) (by decide), fun _ => ⟨fun h => absurd (h20x.symm.trans h) (by decide), fun _ => by rw [show (t.kind == 19) = false by rw [h20x]; rfl]; exact bl M _ _ _ _ _ ⟨fun h => (by cases h), fun _ => ⟨fun _ => ⟨[], z 1 (by omega), [], z2 2 1 _ (by omega) (by decide), [], z3 3 1 2 _ _ (by omega) (by decide) (by decide), hM⟩, fun h => absurd h20x h⟩⟩⟩⟩⟩⟩
 by_cases h8x : t.kind = 8
 ·obtain ⟨M, hM⟩ := h1 (List.replicate N ([] : List UInt8)) [] [32] (len _ (by simp only [List.length_set, List.length_replicate]))
  have e1 : ldA t.kind t.kids.length f = if t.kind = 21 ∨ t.kind = 17 then (List.replicate N ([] : List UInt8)) else List.set (List.replicate N ([] : List UInt8)) 0 f := by unfold ldA ld0; rw [hNt, h8x]; rfl
  have e2 : rsK t.kind = [32] := by rw [h8x]; rfl
  rw [e1, e2]
  rw [show bgK t.kind t.kids.length f = [] by rw [h8x]; rfl]
  exact ⟨_, aP _ _ _ _ _ ⟨fun h => absurd (h8x.symm.trans h) (by decide), fun _ => ⟨fun h => absurd (h8x.symm.trans h) (by decide), fun _ => ⟨fun h => absurd (h8x.symm.trans h) (by decide), fun _ => by rw [show (t.kind == 19) = false by rw [h8x]; rfl]; exact bl _ _ _ _ _ _ ⟨fun h => (by cases h), fun _ => ⟨fun h => absurd (h8x.symm.trans h) (by decide), fun _ => ⟨fun _ => bU M _ _ _ _ _ ⟨fun _ => hM, fun h => (by cases h)⟩, fun h => absurd h8x h⟩⟩⟩⟩⟩⟩⟩
 by_cases h16x : t.kind = 16
 ·obtain ⟨M, hM⟩ := h1 (List.replicate N ([] : List UInt8)) [] [32] (len _ (by simp only [List.length_set, List.length_replicate]))
  have e1 : ldA t.kind t.kids.length f = if t.kind = 21 ∨ t.kind = 17 then (List.replicate N ([] : List UInt8)) else List.set (List.replicate N ([] : List UInt8)) 0 f := by unfold ldA ld0; rw [hNt, h16x]; rfl
  have e2 : rsK t.kind = [32] := by rw [h16x]; rfl
  rw [e1, e2]
  rw [show bgK t.kind t.kids.length f = [] by rw [h16x]; rfl]
  exact ⟨_, aP _ _ _ _ _ ⟨fun h => absurd (h16x.symm.trans h) (by decide), fun _ => ⟨fun h => absurd (h16x.symm.trans h) (by decide), fun _ => ⟨fun h => absurd (h16x.symm.trans h) (by decide), fun _ => by rw [show (t.kind == 19) = false by rw [h16x]; rfl]; exact bl _ _ _ _ _ _ ⟨fun h => (by cases h), fun _ => ⟨fun h => absurd (h16x.symm.trans h) (by decide), fun _ => ⟨fun h => absurd (h16x.symm.trans h) (by decide), fun _ => ⟨fun _ => bU M _ _ _ _ _ ⟨fun _ => hM, fun h => (by cases h)⟩, fun h => absurd h16x h⟩⟩⟩⟩⟩⟩⟩⟩
 by_cases h18x : t.kind = 18
 ·obtain ⟨M, hM⟩ := h1 (List.replicate N ([] : List UInt8)) [] [32] (len _ (by simp only [List.length_set, List.length_replicate]))
  have e1 : ldA t.kind t.kids.length f = if t.kind = 21 ∨ t.kind = 17 then (List.replicate N ([] : List UInt8)) else List.set (List.replicate N ([] : List UInt8)) 0 f := by unfold ldA ld0; rw [hNt, h18x]; rfl
  have e2 : rsK t.kind = [32] := by rw [h18x]; rfl
  rw [e1, e2]
  rw [show bgK t.kind t.kids.length f = [] by rw [h18x]; rfl]
  exact ⟨_, aP _ _ _ _ _ ⟨fun h => absurd (h18x.symm.trans h) (by decide), fun _ => ⟨fun h => absurd (h18x.symm.trans h) (by decide), fun _ => ⟨fun h => absurd (h18x.symm.trans h) (by decide), fun _ => by rw [show (t.kind == 19) = false by rw [h18x]; rfl]; exact bl _ _ _ _ _ _ ⟨fun h => (by cases h), fun _ => ⟨fun h => absurd (h18x.symm.trans h) (by decide), fun _ => ⟨fun h => absurd (h18x.symm.trans h) (by decide), fun _ => ⟨fun h => absurd (h18x.symm.trans h) (by decide), fun _ => ⟨fun _ => bU M _ _ _ _ _ ⟨fun _ => hM, fun h => (by cases h)⟩, fun h => absurd h18x h⟩⟩⟩⟩⟩⟩⟩⟩⟩
 by_cases h22x : t.kind = 22
 ·obtain ⟨M, hM⟩ := h1 (List.replicate N ([] : List UInt8)) [] [32] (len _ (by simp only [List.length_set, List.length_replicate]))
  have e1 : ldA t.kind t.kids.length f = if t.kind = 21 ∨ t.kind = 17 then (List.replicate N ([] : List UInt8)) else List.set (List.replicate N ([] : List UInt8)) 0 f := by unfold ldA ld0; rw [hNt, h22x]; rfl
  have e2 : rsK t.kind = [32] := by rw [h22x]; rfl
  rw [e1, e2]
  rw [show bgK t.kind t.kids.length f = [] by rw [h22x]; rfl]
  exact ⟨_, aP _ _ _ _ _ ⟨fun h => absurd (h22x.symm.trans h) (by decide), fun _ => ⟨fun h => absurd (h22x.symm.trans h) (by decide), fun _ => ⟨fun h => absurd (h22x.symm.trans h) (by decide), fun _ => by rw [show (t.kind == 19) = false by rw [h22x]; rfl]; exact bl _ _ _ _ _ _ ⟨fun h => (by cases h), fun _ => ⟨fun h => absurd (h22x.symm.trans h) (by decide), fun _ => ⟨fun h => absurd (h22x.symm.trans h) (by decide), fun _ => ⟨fun h => absurd (h22x.symm.trans h) (by decide), fun _ => ⟨fun h => absurd (h22x.symm.trans h) (by decide), fun _ => by rw [show (t.kind == 22) = true by rw [h22x]; rfl]; exact bU M _ _ _ _ _ ⟨fun _ => hM, fun h => (by cases h)⟩⟩⟩⟩⟩⟩⟩⟩⟩⟩
 by_cases h17x : t.kind = 17
 ·obtain ⟨M, hM⟩ := h1 (List.replicate N ([] : List UInt8)) f [32] (len _ (by simp only [List.length_set, List.length_replicate]))
  have e1 : ldA t.kind t.kids.length f = if t.kind = 21 ∨ t.kind = 17 then (List.replicate N ([] : List UInt8)) else List.set (List.replicate N ([] : List UInt8)) 0 f := by unfold ldA ld0; rw [hNt, h17x]; rfl
  have e2 : rsK t.kind = [32] := by rw [h17x]; rfl
  rw [e1, e2]
  rw [show bgK t.kind t.kids.length f = f by rw [h17x]; rfl]
  exact ⟨_, aP _ _ _ _ _ ⟨fun h => absurd (h17x.symm.trans h) (by decide), fun _ => ⟨fun h => absurd (h17x.symm.trans h) (by decide), fun _ => ⟨fun h => absurd (h17x.symm.trans h) (by decide), fun _ => by rw [show (t.kind == 19) = false by rw [h17x]; rfl]; exact bl _ _ _ _ _ _ ⟨fun h => (by cases h), fun _ => ⟨fun h => absurd (h17x.symm.trans h) (by decide), fun _ => ⟨fun h => absurd (h17x.symm.trans h) (by decide), fun _ => ⟨fun h => absurd (h17x.symm.trans h) (by decide), fun _ => ⟨fun h => absurd (h17x.symm.trans h) (by decide), fun _ => by rw [show (t.kind == 22) = false by rw [h17x]; rfl]; exact bU M _ _ _ _ _ ⟨fun h => (by cases h), fun _ => ⟨fun _ => hM, fun h => absurd h17x h⟩⟩⟩⟩⟩⟩⟩⟩⟩⟩⟩
 by_cases h21x : t.kind = 21
 ·obtain ⟨M, hM⟩ := h1 ((List.replicate N ([] : List UInt8)).set 0 [32]) f [32] (len _ (by simp only [List.length_set, List.length_replicate]))
  have e1 : ldA t.kind t.kids.length f = if t.kind = 21 ∨ t.kind = 17 then ((List.replicate N ([] : List UInt8)).set 0 [32]) else List.set ((List.replicate N ([] : List UInt8)).set 0 [32]) 0 f := by unfold ldA ld0; rw [hNt, h21x]; rfl
  have e2 : rsK t.kind = [32] := by rw [h21x]; rfl
  rw [e1, e2]
  rw [show bgK t.kind t.kids.length f = f by rw [h21x]; rfl]
  exact ⟨_, aP _ _ _ _ _ ⟨fun h => absurd (h21x.symm.trans h) (by decide), fun _ => ⟨fun h => absurd (h21x.symm.trans h) (by decide), fun _ => ⟨fun h => absurd (h21x.symm.trans h) (by decide), fun _ => by rw [show (t.kind == 19) = false by rw [h21x]; rfl]; exact bl _ _ _ _ _ _ ⟨fun h => (by cases h), fun _ => ⟨fun h => absurd (h21x.symm.trans h) (by decide), fun _ => ⟨fun h => absurd (h21x.symm.trans h) (by decide), fun _ => ⟨fun h => absurd (h21x.symm.trans h) (by decide), fun _ => ⟨fun h => absurd (h21x.symm.trans h) (by decide), fun _ => by rw [show (t.kind == 22) = false by rw [h21x]; rfl]; exact bU M _ _ _ _ _ ⟨fun h => (by cases h), fun _ => ⟨fun h => absurd (h21x.symm.trans h) (by decide), fun _ => ⟨fun _ => ⟨[], z 0 (by omega), hM⟩, fun h => absurd h21x h⟩⟩⟩⟩⟩⟩⟩⟩⟩⟩⟩⟩
 obtain ⟨M, hM⟩ := h1 (List.replicate N ([] : List UInt8)) [32] [32] (len _ (by simp only [List.length_set, List.length_replicate]))
 have e1 : ldA t.kind t.kids.length f = if t.kind = 21 ∨ t.kind = 17 then (List.replicate N ([] : List UInt8)) else List.set (List.replicate N ([] : List UInt8)) 0 f := by unfold ldA ld0; rw [hNt]; simp only [h1x, h2x, h3x, h19x, h20x, h8x, h16x, h18x, h22x, h17x, h21x, or_self, if_false]
 have e2 : rsK t.kind = [32] := by unfold rsK; rw [if_neg h1x]
 have e3 : bgK t.kind t.kids.length f = [32] := by unfold bgK; simp only [h1x, h2x, h3x, h19x, h20x, h8x, h16x, h18x, h22x, h17x, h21x, or_self, if_false]
 rw [e1, e2, e3]
 refine ⟨M + 3, aP (M + 2) _ _ _ _ ⟨fun h => absurd h h1x, fun _ => ⟨fun h => absurd h h2x, fun _ => ⟨fun h => absurd h h3x, fun _ => ?_⟩⟩⟩⟩
 rw [show (t.kind == 19) = false by simpa using h19x]
 refine bl (M + 1) _ _ _ _ _ ⟨fun h => (by cases h), fun _ => ⟨fun h => absurd h h20x, fun _ => ⟨fun h => absurd h h8x, fun _ => ⟨fun h => absurd h h16x, fun _ => ⟨fun h => absurd h h18x, fun _ => ?_⟩⟩⟩⟩⟩
 rw [show (t.kind == 22) = false by simpa using h22x]
 exact bU M _ _ _ _ _ ⟨fun h => (by cases h), fun _ => ⟨fun h => absurd h h17x, fun _ => ⟨fun h => absurd h h21x, fun _ => hM⟩⟩⟩
def ln (t : Tree) : Tree := if shapeK t = true then arrT t [] else .node 0 [] [] []
theorem oR (t : Tree) (ht : tbulk t ≤ 40000000) : fo t (ln t) := by
 refine nF 0 _ _ ⟨_, oE t (by omega), fun h => ?_, fun h => ⟨_, vb t ht h [], ?_⟩⟩
 ·unfold ln; rw [if_neg (by rw [h]; decide)]
 ·unfold ln; rw [if_pos h]
theorem xQ (a b : List (List UInt8)) (ha : a.length ≤ 900000000) : ji a b (a == b) := by
 have loop : a.length = b.length → ∀ k i, a.length - i ≤ k → a.take i = b.take i → ∃ M, en M a b i (a == b) := fun hl k => by
  have last : ∀ i, ¬ i < a.length → a.take i = b.take i → ∃ M, en M a b i (a == b) := fun i hi he => by
   rw [List.take_of_length_le (by omega), List.take_of_length_le (by omega)] at he
   exact ⟨1, ij 0 _ _ _ _ ⟨fun h => absurd h hi, fun _ => by simp [he]⟩⟩
  induction k with
  | zero => intro i hi he; exact last i (by omega) he
  | succ k ih =>
   intro i hi he
   obtain ⟨x, hx, hlt⟩ | hge := aX a i
   ·obtain ⟨y, hy, _⟩ | h' := aX b i
    ·by_cases hxy : x = y
     ·obtain ⟨M, hM⟩ := ih (i + 1) (by omega) (by rw [List.take_add_one, List.take_add_one, he, hx, hy, hxy])
      exact ⟨M + 1, ij M _ _ _ _ ⟨fun _ => ⟨x, hx, y, hy, fun h => absurd hxy h, fun _ => ⟨by omega, hM⟩⟩, fun h => absurd hlt h⟩⟩
     ·exact ⟨1, ij 0 _ _ _ _ ⟨fun _ => ⟨x, hx, y, hy, fun _ => by
       have : ¬ a = b := fun e => hxy (by rw [e, hy] at hx; injection hx with hx; exact hx.symm)
       simp [this], fun h => absurd h hxy⟩, fun h => absurd hlt h⟩⟩
    ·omega
   ·exact last i hge he
 by_cases hl : a.length = b.length
 ·obtain ⟨M, hM⟩ := loop hl a.length 0 (by omega) (by simp)
  exact kK M _ _ _ ⟨fun h => absurd hl h, fun _ => hM⟩
 ·exact kK 0 _ _ _ ⟨fun _ => by
   have : ¬ a = b := fun e => hl (by rw [e])
   simp [this], fun h => absurd h hl⟩
mutual
def eqT : Tree → Tree → Bool
 | .node k s ls ks, u => decide (k = u.kind) && (decide (s = u.text) && (decide (ks.length = u.kids.length) && ((ls == u.leads) && eqTs ks u.kids)))
def eqTs : List Tree → List Tree → Bool
 | [], _ => true
 | t :: r, [] => true
 | t :: r, u :: q => eqT t u && eqTs r q
end
theorem AT (t u : Tree) : eqT t u = (decide (t.kind = u.kind) && (decide (t.text = u.text) && (decide (t.kids.length = u.kids.length) && ((t.leads == u.leads) && eqTs t.kids u.kids)))) := by cases t; simp only [eqT]; rfl
theorem uh : ∀ t : Tree, tbulk t ≤ 900000000 → ∀ u, jo t u (eqT t u) := fh fun t ih ht u => by
 have hk := fx t
 have hl := mN t
 have kids : t.kids.length = u.kids.length → ∀ j i, t.kids.length - i ≤ j → ∃ M, gb M t u i (eqTs (t.kids.drop i) (u.kids.drop i)) := fun hlen j => by
  have last : ∀ i, ¬ i < t.kids.length → ∃ M, gb M t u i (eqTs (t.kids.drop i) (u.kids.drop i)) := fun i hi => by
   rw [List.drop_of_length_le (by omega)]
   exact ⟨1, mB 0 _ _ _ _ ⟨fun h => absurd h hi, fun _ => rfl⟩⟩
  induction j with
  | zero => intro i hi; exact last i (by omega)
  | succ j ihj =>
   intro i hi
   obtain ⟨x, hx, hlt⟩ | hge := aX t.kids i
   ·obtain ⟨y, hy, _⟩ | h' := aX u.kids i
    ·have := ej hx
     have hc := ih i x hx (by omega) y
     obtain ⟨M, hM⟩ := ihj (i + 1) (by omega)
     rw [bv hx, bv hy, eqTs]
     refine ⟨M + 1, mB M _ _ _ _ ⟨fun _ => ⟨x, hx, y, hy, _, hc, fun e => by rw [e]; rfl, fun e => ⟨by omega, ?_⟩⟩, fun h => absurd hlt h⟩⟩
     rw [e]; exact hM
    ·omega
   ·exact last i hge
 rw [AT]
 by_cases h1 : t.kind = u.kind
 ·by_cases h2 : t.text = u.text
  ·by_cases h3 : t.kids.length = u.kids.length
   ·obtain ⟨M, hM⟩ := kids h3 t.kids.length 0 (by omega)
    refine iH M _ _ _ ⟨fun h => absurd h1 h, fun _ => ⟨fun h => absurd h2 h, fun _ => ⟨fun h => absurd h3 h, fun _ => ⟨_, xQ _ _ (by omega), fun e => ?_, fun e => ?_⟩⟩⟩⟩
    ·rw [e]; simp
    ·rw [e, decide_eq_true h1, decide_eq_true h2, decide_eq_true h3]; exact hM
   ·exact iH 0 _ _ _ ⟨fun h => absurd h1 h, fun _ => ⟨fun h => absurd h2 h, fun _ => ⟨fun _ => by simp [h3], fun h => absurd h h3⟩⟩⟩
  ·exact iH 0 _ _ _ ⟨fun h => absurd h1 h, fun _ => ⟨fun _ => by simp [h2], fun h => absurd h h2⟩⟩
 ·exact iH 0 _ _ _ ⟨fun _ => by simp [h1], fun h => absurd h h1⟩
theorem rK (t : Tree) (ht : tbulk t ≤ 40000000) : fW t (shapeK t && eqT t (ln t)) := by
 refine mH 0 _ _ ⟨_, oE t (by omega), fun h => ⟨_, oR t ht, _, uh t (by omega) _, ?_⟩, fun h => ?_⟩
 ·rw [h]; rfl
 ·rw [h]; rfl
end Go.Proofs.Ytpnpdlnpikkeaaa
namespace Go.Proofs.Ytpnpdlnpikkeaaa
open Go.RowKit Lx Sx
set_option maxRecDepth 100000
set_option maxHeartbeats 4000000
def fH (r0 : Bool) : Prop := qS 5 [] (.bool r0)
def od (p0 : List UInt8) (r0 : Tree) (r1 r2 : Int) : Prop := qS 9 [.str p0] (.tup [.agg (av r0), .int .i64 r1, .int .i64 r2])
def fa (p0 : Tree) (r0 : Bool) : Prop := qS 3 [.agg (av p0)] (.bool r0)
def ir (r0 : Bool) : Prop := qS 5 [] (.bool r0)
theorem iV (m : Nat) (p0 : Tree) (r0 : Bool) (h : ∃ a, ek p0 a ∧ ((300 < a) → ∃ c, fH c ∧ c = r0) ∧ ((¬ 300 < a) → ∃ b, fH b ∧ ((b = true) → ∃ d, dz p0 d ∧ ∃ e, eE p0 e ∧ ∃ f, ea d e f ∧ f = r0) ∧ ((b = false) → false = r0))) : fa p0 r0 := by
 refine ⟨rfl, rfl, ?_⟩
 refine aA 15 [] Try.func3 rfl rfl rfl (bp rfl) fun K hK => ?_
 refine gR 3 rfl <| gFP 0 rfl rfl rfl rfl <| gR 7 rfl ?_
 obtain ⟨a, hs7, h⟩ := h
 refine gC0 hs7 (by kernel_rfl) rfl rfl .rfl rfl <| gR 3 rfl <| qBd 5 rfl rfl rfl h (fun h => ?_) fun h => ?_
 refine gR 3 rfl ?_
 obtain ⟨c, hs8, h⟩ := h
 refine gC0 hs8 (by kernel_rfl) rfl rfl .rfl rfl <| gR 5 rfl ?_
 subst h
 exact go_end ab (rs := [.tmp 2]) rfl rfl rfl
 refine gR 4 rfl <| gDs [] 9 9 rfl (by kernel_rfl) (by kernel_rfl) ?_
 obtain ⟨b, hs9, h⟩ := h
 refine bw 0 hs9 (by kernel_rfl) rfl (by kernel_rfl) rfl rfl .rfl rfl rfl ?_
 refine gDr [(1, 0)] (by kernel_rfl) rfl rfl <| qBiZ 8 7 rfl rfl rfl rfl h (fun h => ?_) fun h => ?_
 refine gDr [(2, 2), (4, 2)] (by kernel_rfl) rfl rfl ?_
 obtain ⟨d, hs10, h⟩ := h
 refine bw 3 hs10 (by kernel_rfl) rfl (by kernel_rfl) rfl rfl .rfl rfl rfl ?_
 obtain ⟨e, hs11, h⟩ := h
 refine bw 5 hs11 (by kernel_rfl) rfl (by kernel_rfl) rfl rfl .rfl rfl rfl ?_
 obtain ⟨f, hs12, h⟩ := h
 refine bw 6 hs12 (by kernel_rfl) rfl (by kernel_rfl) rfl rfl .rfl rfl rfl ?_
 refine gDr [(7, 0), (8, 0)] (by kernel_rfl) rfl rfl <| gDe (by kernel_rfl) <| gR 2 rfl ?_
 subst h
 exact go_end ab (rs := [.tmp 2]) rfl rfl rfl
 refine gDr [(2, 2), (4, 2), (3, 0), (5, 0), (6, 0), (7, 0), (8, 0)] (by kernel_rfl) rfl rfl <| gDe (by kernel_rfl) <| gR 2 rfl ?_
 subst h
 exact go_end ab (rs := [.tmp 2]) rfl rfl rfl
theorem lu (m : Nat) (r0 : Bool) (h : ∃ b j c, od [109, 111, 100, 117, 108, 101, 32, 77, 32, 35, 32, 120, 10, 100, 101, 102, 32, 102, 32, 40, 32, 97, 58, 73, 110, 116, 32, 44, 32, 98, 32, 58, 73, 110, 116, 32, 41, 58, 73, 110, 116, 61, 103, 40, 97, 44, 91, 98, 93, 41] b j c ∧ ∃ a, dz b a ∧ ((c = 0) → (((a.length : Int) = 1) → ∃ d, a[0]? = some d ∧ ((d = [35, 32, 120]) → ∃ e, fW b e ∧ ((e = false) → ∃ g, fo b g ∧ ∃ i, gr g i ∧ (i == [109, 111, 100, 117, 108, 101, 32, 77, 10, 10, 100, 101, 102, 32, 102, 40, 97, 58, 32, 73, 110, 116, 44, 32, 98, 58, 32, 73, 110, 116, 41, 58, 32, 73, 110, 116, 32, 61, 32, 103, 40, 97, 44, 32, 91, 98, 93, 41, 10]) = r0) ∧ ((e = true) → false = r0)) ∧ ((d ≠ [35, 32, 120]) → false = r0)) ∧ (((a.length : Int) ≠ 1) → false = r0)) ∧ ((c ≠ 0) → false = r0)) : ir r0 := by
 refine ⟨rfl, rfl, ?_⟩
 refine aA 36 [] Try.func5 rfl rfl rfl (bp rfl) fun K hK => ?_
 refine gR 7 rfl ?_
 obtain ⟨b, j, c, hs7, h⟩ := h
 refine gC0 hs7 (by kernel_rfl) rfl rfl .rfl rfl <| gR 13 rfl ?_
 obtain ⟨a, hs8, h⟩ := h
 refine gC0 hs8 (by kernel_rfl) rfl rfl .rfl rfl <| gR 8 rfl <| qBeZ 14 13 rfl rfl rfl rfl h (fun h => ?_) fun h => ?_
 refine gR 2 rfl <| gV 16 (.int .i64 (a.length : Int)) rfl (cg (aY V.str _)) rfl <| gLB 15 rfl (aY V.str _) fun hl9 => gR 3 rfl <| qBeZ 19 18 rfl rfl rfl rfl h (fun h => ?_) fun h => ?_
 refine gR 1 rfl ?_
 obtain ⟨d, hxs0_5, h⟩ := h
 refine gY (bO (mapget (f := V.str) hxs0_5) ab rfl rfl rfl rfl) rfl rfl <| gR 4 rfl <| qBeZ 25 24 rfl rfl rfl rfl h (fun h => ?_) fun h => ?_
 refine gR 1 rfl ?_
 obtain ⟨e, hs10, h⟩ := h
 refine gC0 hs10 (by kernel_rfl) rfl rfl .rfl rfl <| gR 3 rfl <| qBhZ 30 29 rfl rfl rfl rfl h dH dD (fun h => ?_) fun h => ?_
 refine gR 1 rfl ?_
 obtain ⟨g, hs11, h⟩ := h
 refine gC0 hs11 (by kernel_rfl) rfl rfl .rfl rfl ?_
 obtain ⟨i, hs12, h⟩ := h
 refine gC0 hs12 (by kernel_rfl) rfl rfl .rfl rfl <| gR 6 rfl ?_
 subst h
 exact go_end ab (rs := [.tmp 0]) rfl rfl rfl
 refine gR 9 rfl ?_
 subst h
 exact go_end ab (rs := [.tmp 0]) rfl rfl rfl
 refine gR 14 rfl ?_
 subst h
 exact go_end ab (rs := [.tmp 0]) rfl rfl rfl
 refine gR 20 rfl ?_
 subst h
 exact go_end ab (rs := [.tmp 0]) rfl rfl rfl
 refine gR 25 rfl ?_
 subst h
 exact go_end ab (rs := [.tmp 0]) rfl rfl rfl
end Go.Proofs.Ytpnpdlnpikkeaaa
namespace Go.Proofs.Ytpnpdlnpikkeaaa
open Go.RowKit Lx Sx
section
variable {S : Nat → Prop} {w : World} {ρ : Nat → Option Value}
theorem sx : ∀ ls : List (List UInt8), CRel S w ρ 1 (ls.map .str) (ls.map aF)
 | [] => by simp [CRel]
 | s :: r => by
  simp only [List.map_cons, CRel]
  exact ⟨aF s, r.map aF, by simp [Value.cells, aF], ⟨rfl, rfl⟩, by unfold VRel; rfl, sx r⟩
mutual
theorem TreeIs.vrel : ∀ {ρ : Nat → Option Value} {t : Tree} {c : List Value}, TreeIs S w t c → LRel S w ρ (av t) c
 | ρ, .node k s ls ks, c, h => by
  simp only [TreeIs] at h
  obtain ⟨A, m, B, n, rfl, h1, h2, h3, h4, h5, cs, h6, h7⟩ := h
  simp only [av, Tree.kind, Tree.text, Tree.leads, Tree.kids, LRel, VRel]
  exact ⟨_, _, rfl, rfl, _, _, rfl, rfl, _, _, rfl, ⟨A, m, _, by simp, by simpa using h1, h2, sx ls, by simpa using h5⟩, _, _, rfl, ⟨B, n, cs, by simp [jt], by simpa [jt] using h3, h4, KidsAre.crel h6, by simpa [jt] using h7⟩, rfl⟩
theorem KidsAre.crel : ∀ {ρ : Nat → Option Value} {ts : List Tree} {cs : List Value}, KidsAre S w ts cs → CRel S w ρ 4 (kidsV ts) cs
 | ρ, [], cs, h => by simp only [KidsAre] at h; simp only [kidsV, CRel]; exact h
 | ρ, t :: r, cs, h => by
  simp only [KidsAre] at h
  obtain ⟨c, d, rfl, h1, h2⟩ := h
  simp only [kidsV, CRel, gl]
  exact ⟨.agg c.toArray, d, by simp [Value.cells], ⟨by simp [Value.cells, h1.four], by simpa [Value.cells] using h1.one⟩, by simp only [VRel]; exact ⟨c, rfl, h1.vrel⟩, KidsAre.crel h2⟩
end
end
theorem zq {k : Nat} {l : List UInt8} {t : Tree} (h : nk t (sO uR k 9 [.str l]) = true) : mi Try.prog 9 [.str l] (.tup [.agg (av t), .int .i64 0, .int .i64 0]) := by
 refine ⟨rfl, rfl, fun S w ρ xs hr hx => ?_⟩
 simp only [LRel, VRel] at hx
 obtain ⟨x, ys, rfl, rfl, rfl⟩ := hx
 refine (wa h (w := w)).mono ?_
 rintro e w' ⟨c0, c1, c2, c3, rfl, hT, hc⟩
 have hT' := hT.bound
 have g := hr.chg0 hc
 refine ⟨_, fun b => S b ∨ (w.heap.size ≤ b ∧ b < w'.heap.size), ρ, _, ⟨0, []⟩, rfl, rfl, ⟨fun i => ?_, fun i b hb => ?_, fun i j b hb _ => ?_, fun b hb => hb.elim (g.slt b) (·.2)⟩, ⟨ChgP.of0 hc, fun _ h => .inl h, fun b hb => hb.elim .inl fun h => .inr (.inr h.1), fun id b hb => .inl ⟨id, hb⟩, fun id x h => ?_⟩, ?_⟩
 ·have := g.ob i; rw [lq] at this ⊢; exact this
 ·rw [lq] at hb; exact hb.elim
 ·rw [lq] at hb; exact hb.elim
 ·simp only [nW] at h
  split at h
  ·exact h
  ·cases h
 ·have hk := TreeIs.vrel (ρ := ρ) (TreeIs.keep (S' := fun b => S b ∨ (w.heap.size ≤ b ∧ b < w'.heap.size)) (fun b hb => .inr hb) (fun _ _ _ => rfl) hT')
  simp only [VRel]
  exact ⟨[.agg #[c0, c1, c2, c3], .int .i64 0, .int .i64 0], rfl, .agg #[c0, c1, c2, c3], _, rfl, by simp only [VRel]; exact ⟨_, rfl, hk⟩, _, _, rfl, by simp only [VRel], _, _, rfl, by simp only [VRel], rfl⟩
end Go.Proofs.Ytpnpdlnpikkeaaa
namespace Go.Proofs.Ytpnpdlnpikkeaaa
open Go.RowKit Lx Sx
set_option maxRecDepth 100000
set_option maxHeartbeats 1000000
def yF : List UInt8 := [109, 111, 100, 117, 108, 101, 32, 77, 32, 35, 32, 120, 10, 100, 101, 102, 32, 102, 32, 40, 32, 97, 58, 73, 110, 116, 32, 44, 32, 98, 32, 58, 73, 110, 116, 32, 41, 58, 73, 110, 116, 61, 103, 40, 97, 44, 91, 98, 93, 41]
def fu : Tree := (AU yF).1
end Go.Proofs.Ytpnpdlnpikkeaaa
